
/-
  slices.Insert of one element, into a list of the call's own.
  The members that live, in the order of their places. No program is named here.
-/
import Derived.Test.YtahiahjhpakeiaaGreatDoorInsI
import Derived.Test.YtahiahjhpakeiaaGreatDoorInsU
import Derived.Test.YtahiahjhpakeiaaGreatDoorChordN
import Derived.Test.YtahiahjhpakeiaaGreatDoorRingB
namespace Go.Proofs.YtahiahjhpakeiaaGreatDoor
open Go.Shelf Go.RowKit Go.Lib
set_option linter.unusedVariables false
set_option linter.unusedSimpArgs false

theorem own_row_of {w' : World} {base e g n cap : Nat} {xs : List Value} {cur : Array Value} (hg : w'.heap[g]? = some (.cells cur e (0, 0))) (hs : cur.size = cap) (hn : n ≤ cap) (hm : cap ≤ maxLen) (hb : base ≤ g) (hl : xs.length = n)
    (hc : ∀ j (v : Value), xs[j]? = some v → w'.cell? ⟨g, j, none⟩ = some v) : w'.ownsRow base e 1 (.slice (some ⟨g, 0, none⟩) n cap) n xs := by
  refine ⟨by rw [hl, Nat.mul_one], Or.inr ⟨g, cap, cur, rfl, hb, hg, hn, hm, by rw [hs, Nat.mul_one], ?_⟩⟩
  rw [Nat.mul_one]
  refine List.ext_getElem (by simp; omega) fun j h1 h2 => ?_
  have := hc j xs[j] (List.getElem?_eq_getElem h2)
  rw [cell_of_row w' g j cur e (0, 0) hg] at this
  have hj : j < cur.size := by omega
  rw [Array.getElem?_eq_getElem hj] at this
  simpa using this
theorem heap_setCells_row (b : Nat) : ∀ (vs : List Value) (o : Nat) (w : World) (cur : Array Value) (e : TypeId) (fz : Nat × Nat), w.heap[b]? = some (.cells cur e fz) → ∃ cur', (w.setCells b o vs).heap[b]? = some (.cells cur' e fz) ∧ cur'.size = cur.size
  | [], _, w, cur, e, fz, h => ⟨cur, h, rfl⟩
  | v :: r, o, w, cur, e, fz, h => by
    have h1 : (w.setCell ⟨b, o, none⟩ v).heap[b]? = some (.cells (cur.setIfInBounds o v) e fz) := by
      unfold World.setCell
      simp [Array.getElem?_modify, h]
    obtain ⟨cur', h2, h3⟩ := heap_setCells_row b r (o + 1) _ _ _ _ h1
    exact ⟨cur', h2, by rw [h3]; simp⟩
theorem heap_setCells_other (b k : Nat) (hk : k ≠ b) : ∀ (vs : List Value) (o : Nat) (w : World), (w.setCells b o vs).heap[k]? = w.heap[k]?
  | [], _, _ => rfl
  | v :: r, o, w => by rw [World.setCells, heap_setCells_other b k hk r]; exact Below.heap_setCell _ _ _ _ hk
theorem size_setCells (b : Nat) : ∀ (vs : List Value) (o : Nat) (w : World), (w.setCells b o vs).heap.size = w.heap.size
  | [], _, _ => rfl
  | v :: r, o, w => by rw [World.setCells, size_setCells b r]; exact size_set _ _ _
theorem meta_setCells (b : Nat) : ∀ (vs : List Value) (o : Nat) (w : World), (w.setCells b o vs).os = w.os ∧ (w.setCells b o vs).tape = w.tape ∧ (w.setCells b o vs).output = w.output
  | [], _, _ => ⟨rfl, rfl, rfl⟩
  | v :: r, o, w => by rw [World.setCells]; exact meta_setCells b r (o + 1) _
theorem grown_setCells {w w' : World} {b o : Nat} {vs : List Value} (h : w.grownBy w' (some b)) : w.grownBy (w'.setCells b o vs) (some b) :=
  ⟨(meta_setCells b vs o w').1.trans h.os, (meta_setCells b vs o w').2.1.trans h.tape, (meta_setCells b vs o w').2.2.trans h.output, by rw [size_setCells]; exact h.size, fun k hk hne => by
    rw [heap_setCells_other b k (fun e => hne (by rw [e]))]; exact h.block k hk hne⟩
theorem grown_new_setCells {w w' : World} {b o : Nat} {vs : List Value} {row : Option Nat} (h : w.grownBy w' row) (hb : w.heap.size ≤ b) : w.grownBy (w'.setCells b o vs) row :=
  ⟨(meta_setCells b vs o w').1.trans h.os, (meta_setCells b vs o w').2.1.trans h.tape, (meta_setCells b vs o w').2.2.trans h.output, by rw [size_setCells]; exact h.size, fun k hk hne => by
    rw [heap_setCells_other b k (by omega)]; exact h.block k hk hne⟩
theorem grown_drew {w w' : World} {row : Option Nat} (h : w.grownBy w' row) : w.grownBy w'.drew row := ⟨h.os, h.tape, h.output, h.size, h.block⟩
theorem grown_alloc {w w' : World} {row : Option Nat} (h : w.grownBy w' row) (o : Obj) : w.grownBy (w'.alloc o) row :=
  ⟨h.os, h.tape, h.output, by simp; have := h.size; omega, fun k hk hne => by
    rw [(MapKept.heap_alloc w' o).2 k (by have := h.size; omega)]; exact h.block k hk hne⟩
theorem drew_alloc_at (w : World) (o : Obj) : (w.drew.alloc o).heap[w.heap.size]? = some o := (MapKept.heap_alloc w.drew o).1
/-- A list into which one element was put. -/
def putAt (l : List Int) (i : Nat) (x : Int) : List Int := l.take i ++ x :: l.drop i
theorem putAt_len (l : List Int) (i : Nat) (x : Int) (h : i ≤ l.length) : (putAt l i x).length = l.length + 1 := by unfold putAt; simp; omega
set_option maxHeartbeats 4000000 in
set_option maxRecDepth 100000 in
theorem insU_any (w : World) (base : Nat) (v : Value) (l : List Int) (x : Int) (i : Nat) (hown : w.ownsRow base 43 1 v l.length (l.map (Value.int .u64))) (hi : i ≤ l.length) (hl : l.length ≤ 1000000) (hbase : base ≤ w.heap.size) :
    Calls Tryz.prog 44 #[v, .int .i64 i, .slice (some ⟨w.heap.size, 0, none⟩) 1 1] (w.alloc (.cells #[.int .u64 x] 43)) fun e w' => ∃ v', e = .returned v' ∧ w'.ownsRow base 43 1 v' (l.length + 1) ((putAt l i x).map (Value.int .u64)) ∧ w.grownBy w' v.ownBlock ∧ (v'.ownBlock = v.ownBlock ∨ ∀ q, v'.ownBlock = some q → w.heap.size ≤ q) := by
  obtain ⟨wa, hwa⟩ : ∃ z, z = w.alloc (.cells #[.int .u64 x] 43) := ⟨_, rfl⟩
  have hga : w.grownBy wa v.ownBlock := by rw [hwa]; exact World.grownBy_alloc w _ _
  have hza : wa.heap.size = w.heap.size + 1 := by rw [hwa]; simp
  have hgx : wa.heap[w.heap.size]? = some (.cells #[.int .u64 x] 43 (0, 0)) := by rw [hwa]; exact (MapKept.heap_alloc w _).1
  have hold : ∀ k, k < w.heap.size → wa.heap[k]? = w.heap[k]? := fun k hk => by rw [hwa]; exact (MapKept.heap_alloc w _).2 k hk
  have hvs : ∀ j (u : Value), [Value.int .u64 x][j]? = some u → wa.cell? ⟨w.heap.size, 0 + j, none⟩ = some u := fun j u hu => by
    rw [cell_of_row wa w.heap.size (0 + j) _ 43 (0, 0) hgx]
    simpa using hu
  have hlen : ((putAt l i x).map (Value.int .u64)).length = l.length + 1 := by rw [List.length_map]; exact putAt_len l i x hi
  rw [← hwa]
  clear hwa
  rcases hown.2 with ⟨rfl, h0⟩ | ⟨g, cap, cur, rfl, hB, hg, hn, hm, hs, ht⟩
  · have hl0 : l = [] := List.length_eq_zero_iff.1 h0
    subst hl0
    obtain rfl : i = 0 := by simpa using hi
    have hge := grownCap_ge wa 1 0 43
    have hle := grownCap_le_maxLen wa 1 0 43 (by simp [maxLen])
    refine (insU_end_grow none 0 0 w.heap.size 0 1 1 [] [.int .u64 x] wa (by omega) (by omega) (by omega) (by omega) rfl rfl (fun _ => rfl) (fun a ha => by cases ha) hvs (fun u hu => by simp at hu; subst hu; rfl)).mono ?_
    rintro e w' ⟨rfl, rfl⟩
    refine ⟨_, rfl, ?_, grown_alloc (grown_drew hga) _, Or.inr fun q hq => by cases hq; show w.heap.size ≤ wa.heap.size; omega⟩
    simp only [Nat.zero_add] at hge hle ⊢
    refine own_row_of (drew_alloc_at wa _) ?_ hge hle (by show base ≤ wa.heap.size; omega) rfl (fun j u hu => ?_)
    · simp [Builtin.zeroCells, Value.cells]; omega
    · rw [cell_of_row _ _ j _ 43 (0, 0) (drew_alloc_at wa _)]
      have hj : j = 0 := by
        simp [putAt] at hu
        rcases j with _ | j
        · rfl
        · simp at hu
      subst hj
      simp [putAt] at hu
      rw [Array.getElem?_append_left (by simp)]
      simp [hu]
  · have hgl : g < w.heap.size := (Array.getElem?_eq_some_iff.1 hg).1
    have hga2 : wa.heap[g]? = some (.cells cur 43 (0, 0)) := (hold g hgl).trans hg
    rw [Nat.mul_one] at hs ht
    have hcw : ∀ j (u : Value), (l.map (Value.int .u64))[j]? = some u → wa.cell? ⟨g, j, none⟩ = some u := fun j u hu => by
      rw [cell_of_row wa g j cur 43 (0, 0) hga2]
      rw [← ht, List.getElem?_take] at hu
      split at hu
      · simpa using hu
      · cases hu
    have hcs : ∀ j (u : Value), (l.map (Value.int .u64))[j]? = some u → wa.cell? ⟨g, 0 + j, none⟩ = some u := fun j u hu => by rw [Nat.zero_add]; exact hcw j u hu
    have hsome : ∀ j, j < cap → (wa.cell? ⟨g, j, none⟩).isSome = true := fun j hj => by
      rw [cell_of_row wa g j cur 43 (0, 0) hga2, Array.getElem?_eq_getElem (by omega)]; rfl
    have hfz : ∀ j, wa.frozen? ⟨g, j, none⟩ = false := fun j => by unfold World.frozen?; rw [hga2]; simp
    have h1c : ∀ u ∈ l.map (Value.int .u64), u.oneCell' = true := fun u hu => by obtain ⟨z, _, rfl⟩ := List.mem_map.1 hu; rfl
    have h1v : ∀ u ∈ [Value.int .u64 x], u.oneCell' = true := fun u hu => by simp at hu; subst hu; rfl
    have hm' : cap ≤ 9223372036854775807 := by unfold maxLen at hm; omega
    have hgrow : w.grownBy wa (some g) := hga
    have hput : ∀ j, j < l.length + 1 → (putAt l i x)[j]? = if j < i then l[j]? else if j = i then some x else l[j - 1]? := fun j hj => by
      unfold putAt
      by_cases h1 : j < i
      · rw [if_pos h1, List.getElem?_append_left (by simp; omega), List.getElem?_take, if_pos h1]
      · rw [if_neg h1, List.getElem?_append_right (by simp; omega), List.length_take, Nat.min_eq_left hi]
        by_cases h2 : j = i
        · subst h2; simp
        · rw [if_neg h2, show j - i = (j - 1 - i) + 1 by omega, List.getElem?_cons_succ, List.getElem?_drop]
          congr 1; omega
    have hval : ∀ (W : World), (∀ j, j < i → ∀ u, (l.map (Value.int .u64))[j]? = some u → W.cell? ⟨g, j, none⟩ = some u) → True := fun _ _ => trivial
    clear hval
    by_cases hroom : l.length + 1 ≤ cap
    · by_cases hie : i = l.length
      · subst hie
        refine (insU_end_room g 0 l.length cap w.heap.size 0 1 1 [.int .u64 x] wa (by omega) hroom hm' rfl (fun j hj => hsome _ (by omega)) (fun j hj => hfz _) hvs h1v).mono ?_
        rintro e w' ⟨rfl, rfl⟩
        refine ⟨_, rfl, ?_, grown_setCells hgrow, Or.inl rfl⟩
        obtain ⟨cur', q1, q2⟩ := heap_setCells_row g [.int .u64 x] (0 + l.length) wa cur 43 (0, 0) hga2
        refine own_row_of q1 (by omega) hroom hm hB hlen (fun j u hu => ?_)
        rw [List.getElem?_map] at hu
        have hj : j < l.length + 1 := by
          rcases Nat.lt_or_ge j (l.length + 1) with h | h
          · exact h
          · rw [List.getElem?_eq_none (by rw [putAt_len l _ x (Nat.le_refl _)]; exact h)] at hu; simp at hu
        rw [hput j hj] at hu
        by_cases h1 : j < l.length
        · rw [if_pos h1] at hu
          rw [World.cell?_setCells_out g _ _ _ _ (fun _ _ => Or.inl (by show j < 0 + l.length; omega))]
          exact hcw j u (by rw [List.getElem?_map]; exact hu)
        · obtain rfl : j = l.length := by omega
          rw [if_neg h1, if_pos rfl] at hu
          have := World.cell?_setCells_in g [.int .u64 x] (0 + l.length) wa (fun t ht => hsome _ (by simp at ht; omega)) 0 (by simp)
          simp only [Nat.zero_add, Nat.add_zero, List.getElem_cons_zero] at this
          rw [Nat.zero_add, this]
          simpa using hu
      · have hlt : i < l.length := by omega
        refine (insU_shift g 0 l.length cap i w.heap.size 0 1 1 (l.map (Value.int .u64)) [.int .u64 x] wa hlt (by omega) hroom hm' (by omega) (by simp) rfl hcs (fun j hj => by rw [Nat.zero_add]; exact hsome _ (by omega)) (fun j hj => hfz _) hvs h1c h1v
          43 43 1 cur.size (by unfold World.shape?; rw [hgx]; rfl) (by unfold World.shape?; rw [hga2]) (by omega) (by unfold World.frozen?; rw [hgx]; simp) (by unfold World.frozen?; rw [hgx]; simp)).mono ?_
        rintro e w' ⟨rfl, rfl⟩
        refine ⟨_, rfl, ?_, grown_setCells (grown_setCells (grown_drew hgrow)), Or.inl rfl⟩
        have hga3 : wa.drew.heap[g]? = some (.cells cur 43 (0, 0)) := hga2
        obtain ⟨cur1, q1, q2⟩ := heap_setCells_row g ((l.map (Value.int .u64)).drop i) (0 + (i + 1)) wa.drew cur 43 (0, 0) hga3
        obtain ⟨cur', q3, q4⟩ := heap_setCells_row g [.int .u64 x] (0 + i) _ cur1 43 (0, 0) q1
        refine own_row_of q3 (by omega) hroom hm hB hlen (fun j u hu => ?_)
        have hdl : ((l.map (Value.int .u64)).drop i).length = l.length - i := by simp
        have hs1 : ∀ t, t < ((l.map (Value.int .u64)).drop i).length → (wa.drew.cell? ⟨g, 0 + (i + 1) + t, none⟩).isSome = true := fun t ht => hsome _ (by omega)
        rw [List.getElem?_map] at hu
        have hj : j < l.length + 1 := by
          rcases Nat.lt_or_ge j (l.length + 1) with h | h
          · exact h
          · rw [List.getElem?_eq_none (by rw [putAt_len l _ x hi]; exact h)] at hu; simp at hu
        rw [hput j hj] at hu
        by_cases h1 : j < i
        · rw [if_pos h1] at hu
          rw [World.cell?_setCells_out g _ _ _ _ (fun _ _ => Or.inl (by show j < 0 + i; omega)), World.cell?_setCells_out g _ _ _ _ (fun _ _ => Or.inl (by show j < 0 + (i + 1); omega))]
          exact hcw j u (by rw [List.getElem?_map]; exact hu)
        · rw [if_neg h1] at hu
          by_cases h2 : j = i
          · subst h2
            rw [if_pos rfl] at hu
            have hsm : ((wa.drew.setCells g (0 + (j + 1)) ((l.map (Value.int .u64)).drop j)).cell? ⟨g, 0 + j + 0, none⟩).isSome = true := by
              rw [World.cell?_setCells_out g _ _ _ _ (fun _ _ => Or.inl (by show 0 + j + 0 < 0 + (j + 1); omega))]
              exact hsome _ (by omega)
            have hsm' : ∀ t, t < [Value.int .u64 x].length → ((wa.drew.setCells g (0 + (j + 1)) ((l.map (Value.int .u64)).drop j)).cell? ⟨g, 0 + j + t, none⟩).isSome = true := fun t ht => by
              have h0 : t = 0 := by simp at ht; exact ht
              subst h0; exact hsm
            have := World.cell?_setCells_in g [.int .u64 x] (0 + j) (wa.drew.setCells g (0 + (j + 1)) ((l.map (Value.int .u64)).drop j)) hsm' 0 (by simp)
            simp only [Nat.zero_add, Nat.add_zero, List.getElem_cons_zero] at this ⊢
            rw [this]
            simpa using hu
          · rw [if_neg h2] at hu
            rw [World.cell?_setCells_out g _ _ _ _ (fun _ _ => Or.inr (by show 0 + i + 1 ≤ j; omega))]
            have hk : j - 1 - i < ((l.map (Value.int .u64)).drop i).length := by omega
            have := World.cell?_setCells_in g _ (0 + (i + 1)) wa.drew hs1 (j - 1 - i) hk
            rw [show 0 + (i + 1) + (j - 1 - i) = j by omega] at this
            rw [this]
            rw [List.getElem_drop]
            rw [← List.getElem?_map] at hu
            rw [List.getElem?_eq_getElem (by simp; omega)] at hu
            rw [← hu]
            congr 2
            omega
    · have hge := grownCap_ge wa (l.length + 1) cap 43
      have hle := grownCap_le_maxLen wa (l.length + 1) cap 43 (by simp only [maxLen]; omega)
      by_cases hie : i = l.length
      · subst hie
        refine (insU_end_grow (some ⟨g, 0, none⟩) l.length cap w.heap.size 0 1 1 (l.map (Value.int .u64)) [.int .u64 x] wa (by omega) hn (by omega) (by omega) (by simp) rfl (fun h => by cases h) (fun a ha j u hu => by
          cases ha
          rw [show ((⟨g, 0, none⟩ : Addr).add j) = ⟨g, 0 + j, none⟩ from by unfold Addr.add; by_cases e : j = 0 <;> simp [e]]
          exact hcs j u hu) hvs h1v).mono ?_
        rintro e w' ⟨rfl, rfl⟩
        refine ⟨_, rfl, ?_, grown_alloc (grown_drew hga) _, Or.inr fun q hq => by cases hq; show w.heap.size ≤ wa.heap.size; omega⟩
        refine own_row_of (drew_alloc_at wa _) ?_ hge hle (by show base ≤ wa.heap.size; omega) hlen (fun j u hu => ?_)
        · simp [Builtin.zeroCells, Value.cells]; omega
        · rw [cell_of_row _ _ j _ 43 (0, 0) (drew_alloc_at wa _)]
          have he : (putAt l l.length x).map (Value.int .u64) = l.map (Value.int .u64) ++ [.int .u64 x] := by unfold putAt; simp
          rw [he] at hu
          have hj : j < (l.map (Value.int .u64) ++ [Value.int .u64 x]).length := by
            rcases Nat.lt_or_ge j (l.map (Value.int .u64) ++ [Value.int .u64 x]).length with h | h
            · exact h
            · rw [List.getElem?_eq_none h] at hu; cases hu
          rw [Array.getElem?_append_left (by simpa using hj)]
          simpa using hu
      · have hlt : i < l.length := by omega
        refine (insU_grow g 0 l.length cap i w.heap.size 0 1 1 (l.map (Value.int .u64)) [.int .u64 x] wa hlt (by omega) hn (by omega) (by omega) (by simp) rfl hcs hvs h1c h1v).mono ?_
        rintro e w' ⟨rfl, rfl⟩
        refine ⟨_, rfl, ?_, grown_new_setCells (grown_drew (grown_new_setCells (grown_drew (grown_alloc hga _)) (by omega))) (by omega), Or.inr fun q hq => by cases hq; show w.heap.size ≤ wa.heap.size; omega⟩
        obtain ⟨ROW, hROW⟩ : ∃ ROW : Array Value, ROW = ((l.map (Value.int .u64)).take i).toArray ++ Builtin.zeroCells (Value.int .u64 0).cells (l.length + 1 - i) ++ Builtin.zeroCells (Value.int .u64 0).cells (grownCap wa (l.length + 1) cap 43 - (l.length + 1)) := ⟨_, rfl⟩
        have hRs : ROW.size = grownCap wa (l.length + 1) cap 43 := by rw [hROW]; simp [Builtin.zeroCells, Value.cells]; omega
        have hRt : ∀ j, j < i → ROW[j]? = (l.map (Value.int .u64))[j]? := fun j hj => by
          rw [hROW, Array.getElem?_append_left (by simp; omega), Array.getElem?_append_left (by simp; omega)]
          simp [List.getElem?_take, hj]
        rw [← hROW]
        obtain ⟨wb, hwb⟩ : ∃ z, z = (wa.alloc (.cells ROW 43)).drew := ⟨_, rfl⟩
        have hgb : wb.heap[wa.heap.size]? = some (.cells ROW 43 (0, 0)) := by rw [hwb]; exact (MapKept.heap_alloc wa _).1
        rw [← hwb]
        clear hROW hwb
        have hcb : ∀ j, wb.cell? ⟨wa.heap.size, j, none⟩ = ROW[j]? := fun j => cell_of_row wb wa.heap.size j ROW 43 (0, 0) hgb
        obtain ⟨cur1, q1, q2⟩ := heap_setCells_row wa.heap.size [.int .u64 x] i wb ROW 43 (0, 0) hgb
        have q1d : (wb.setCells wa.heap.size i [.int .u64 x]).drew.heap[wa.heap.size]? = some (.cells cur1 43 (0, 0)) := q1
        obtain ⟨cur', q3, q4⟩ := heap_setCells_row wa.heap.size ((l.map (Value.int .u64)).drop i) (i + 1) _ cur1 43 (0, 0) q1d
        refine own_row_of q3 (by omega) hge hle (by omega) hlen (fun j u hu => ?_)
        have hdl : ((l.map (Value.int .u64)).drop i).length = l.length - i := by simp
        rw [List.getElem?_map] at hu
        have hj : j < l.length + 1 := by
          rcases Nat.lt_or_ge j (l.length + 1) with h | h
          · exact h
          · rw [List.getElem?_eq_none (by rw [putAt_len l _ x hi]; exact h)] at hu; simp at hu
        rw [hput j hj] at hu
        have hsb : ∀ t, t < l.length + 1 → (wb.cell? ⟨wa.heap.size, t, none⟩).isSome = true := fun t ht => by
          rw [hcb, Array.getElem?_eq_getElem (by omega)]; rfl
        by_cases h1 : j < i
        · rw [if_pos h1] at hu
          rw [World.cell?_setCells_out _ _ _ _ _ (fun _ _ => Or.inl (by show j < i + 1; omega))]
          show (wb.setCells wa.heap.size i [.int .u64 x]).cell? _ = _
          rw [World.cell?_setCells_out _ _ _ _ _ (fun _ _ => Or.inl (by show j < i; omega)), hcb, hRt j h1, List.getElem?_map]
          exact hu
        · rw [if_neg h1] at hu
          by_cases h2 : j = i
          · subst h2
            rw [if_pos rfl] at hu
            rw [World.cell?_setCells_out _ _ _ _ _ (fun _ _ => Or.inl (by show j < j + 1; omega))]
            show (wb.setCells wa.heap.size j [.int .u64 x]).cell? _ = _
            have := World.cell?_setCells_in wa.heap.size [.int .u64 x] j wb (fun t ht => hsb _ (by simp at ht; omega)) 0 (by simp)
            simp only [Nat.add_zero, List.getElem_cons_zero] at this
            rw [this]
            simpa using hu
          · rw [if_neg h2] at hu
            have hk : j - 1 - i < ((l.map (Value.int .u64)).drop i).length := by omega
            have := World.cell?_setCells_in wa.heap.size ((l.map (Value.int .u64)).drop i) (i + 1) (wb.setCells wa.heap.size i [.int .u64 x]).drew (fun t ht => by
              show ((wb.setCells wa.heap.size i [.int .u64 x]).cell? _).isSome = true
              rw [World.cell?_setCells_out _ _ _ _ _ (fun _ _ => Or.inr (by show i + 1 ≤ i + 1 + t; omega))]
              exact hsb _ (by omega)) (j - 1 - i) hk
            rw [show i + 1 + (j - 1 - i) = j by omega] at this
            rw [this]
            rw [List.getElem_drop]
            rw [← List.getElem?_map] at hu
            rw [List.getElem?_eq_getElem (by simp; omega)] at hu
            rw [← hu]
            congr 2
            omega
set_option maxHeartbeats 4000000 in
set_option maxRecDepth 100000 in
theorem insI_any (w : World) (base : Nat) (v : Value) (l : List Int) (x : Int) (i : Nat) (hown : w.ownsRow base 3 1 v l.length (l.map (Value.int .i64))) (hi : i ≤ l.length) (hl : l.length ≤ 1000000) (hbase : base ≤ w.heap.size) :
    Calls Tryz.prog 45 #[v, .int .i64 i, .slice (some ⟨w.heap.size, 0, none⟩) 1 1] (w.alloc (.cells #[.int .i64 x] 3)) fun e w' => ∃ v', e = .returned v' ∧ w'.ownsRow base 3 1 v' (l.length + 1) ((putAt l i x).map (Value.int .i64)) ∧ w.grownBy w' v.ownBlock ∧ (v'.ownBlock = v.ownBlock ∨ ∀ q, v'.ownBlock = some q → w.heap.size ≤ q) := by
  obtain ⟨wa, hwa⟩ : ∃ z, z = w.alloc (.cells #[.int .i64 x] 3) := ⟨_, rfl⟩
  have hga : w.grownBy wa v.ownBlock := by rw [hwa]; exact World.grownBy_alloc w _ _
  have hza : wa.heap.size = w.heap.size + 1 := by rw [hwa]; simp
  have hgx : wa.heap[w.heap.size]? = some (.cells #[.int .i64 x] 3 (0, 0)) := by rw [hwa]; exact (MapKept.heap_alloc w _).1
  have hold : ∀ k, k < w.heap.size → wa.heap[k]? = w.heap[k]? := fun k hk => by rw [hwa]; exact (MapKept.heap_alloc w _).2 k hk
  have hvs : ∀ j (u : Value), [Value.int .i64 x][j]? = some u → wa.cell? ⟨w.heap.size, 0 + j, none⟩ = some u := fun j u hu => by
    rw [cell_of_row wa w.heap.size (0 + j) _ 3 (0, 0) hgx]
    simpa using hu
  have hlen : ((putAt l i x).map (Value.int .i64)).length = l.length + 1 := by rw [List.length_map]; exact putAt_len l i x hi
  rw [← hwa]
  clear hwa
  rcases hown.2 with ⟨rfl, h0⟩ | ⟨g, cap, cur, rfl, hB, hg, hn, hm, hs, ht⟩
  · have hl0 : l = [] := List.length_eq_zero_iff.1 h0
    subst hl0
    obtain rfl : i = 0 := by simpa using hi
    have hge := grownCap_ge wa 1 0 3
    have hle := grownCap_le_maxLen wa 1 0 3 (by simp [maxLen])
    refine (insI_end_grow none 0 0 w.heap.size 0 1 1 [] [.int .i64 x] wa (by omega) (by omega) (by omega) (by omega) rfl rfl (fun _ => rfl) (fun a ha => by cases ha) hvs (fun u hu => by simp at hu; subst hu; rfl)).mono ?_
    rintro e w' ⟨rfl, rfl⟩
    refine ⟨_, rfl, ?_, grown_alloc (grown_drew hga) _, Or.inr fun q hq => by cases hq; show w.heap.size ≤ wa.heap.size; omega⟩
    simp only [Nat.zero_add] at hge hle ⊢
    refine own_row_of (drew_alloc_at wa _) ?_ hge hle (by show base ≤ wa.heap.size; omega) rfl (fun j u hu => ?_)
    · simp [Builtin.zeroCells, Value.cells]; omega
    · rw [cell_of_row _ _ j _ 3 (0, 0) (drew_alloc_at wa _)]
      have hj : j = 0 := by
        simp [putAt] at hu
        rcases j with _ | j
        · rfl
        · simp at hu
      subst hj
      simp [putAt] at hu
      rw [Array.getElem?_append_left (by simp)]
      simp [hu]
  · have hgl : g < w.heap.size := (Array.getElem?_eq_some_iff.1 hg).1
    have hga2 : wa.heap[g]? = some (.cells cur 3 (0, 0)) := (hold g hgl).trans hg
    rw [Nat.mul_one] at hs ht
    have hcw : ∀ j (u : Value), (l.map (Value.int .i64))[j]? = some u → wa.cell? ⟨g, j, none⟩ = some u := fun j u hu => by
      rw [cell_of_row wa g j cur 3 (0, 0) hga2]
      rw [← ht, List.getElem?_take] at hu
      split at hu
      · simpa using hu
      · cases hu
    have hcs : ∀ j (u : Value), (l.map (Value.int .i64))[j]? = some u → wa.cell? ⟨g, 0 + j, none⟩ = some u := fun j u hu => by rw [Nat.zero_add]; exact hcw j u hu
    have hsome : ∀ j, j < cap → (wa.cell? ⟨g, j, none⟩).isSome = true := fun j hj => by
      rw [cell_of_row wa g j cur 3 (0, 0) hga2, Array.getElem?_eq_getElem (by omega)]; rfl
    have hfz : ∀ j, wa.frozen? ⟨g, j, none⟩ = false := fun j => by unfold World.frozen?; rw [hga2]; simp
    have h1c : ∀ u ∈ l.map (Value.int .i64), u.oneCell' = true := fun u hu => by obtain ⟨z, _, rfl⟩ := List.mem_map.1 hu; rfl
    have h1v : ∀ u ∈ [Value.int .i64 x], u.oneCell' = true := fun u hu => by simp at hu; subst hu; rfl
    have hm' : cap ≤ 9223372036854775807 := by unfold maxLen at hm; omega
    have hgrow : w.grownBy wa (some g) := hga
    have hput : ∀ j, j < l.length + 1 → (putAt l i x)[j]? = if j < i then l[j]? else if j = i then some x else l[j - 1]? := fun j hj => by
      unfold putAt
      by_cases h1 : j < i
      · rw [if_pos h1, List.getElem?_append_left (by simp; omega), List.getElem?_take, if_pos h1]
      · rw [if_neg h1, List.getElem?_append_right (by simp; omega), List.length_take, Nat.min_eq_left hi]
        by_cases h2 : j = i
        · subst h2; simp
        · rw [if_neg h2, show j - i = (j - 1 - i) + 1 by omega, List.getElem?_cons_succ, List.getElem?_drop]
          congr 1; omega
    have hval : ∀ (W : World), (∀ j, j < i → ∀ u, (l.map (Value.int .i64))[j]? = some u → W.cell? ⟨g, j, none⟩ = some u) → True := fun _ _ => trivial
    clear hval
    by_cases hroom : l.length + 1 ≤ cap
    · by_cases hie : i = l.length
      · subst hie
        refine (insI_end_room g 0 l.length cap w.heap.size 0 1 1 [.int .i64 x] wa (by omega) hroom hm' rfl (fun j hj => hsome _ (by omega)) (fun j hj => hfz _) hvs h1v).mono ?_
        rintro e w' ⟨rfl, rfl⟩
        refine ⟨_, rfl, ?_, grown_setCells hgrow, Or.inl rfl⟩
        obtain ⟨cur', q1, q2⟩ := heap_setCells_row g [.int .i64 x] (0 + l.length) wa cur 3 (0, 0) hga2
        refine own_row_of q1 (by omega) hroom hm hB hlen (fun j u hu => ?_)
        rw [List.getElem?_map] at hu
        have hj : j < l.length + 1 := by
          rcases Nat.lt_or_ge j (l.length + 1) with h | h
          · exact h
          · rw [List.getElem?_eq_none (by rw [putAt_len l _ x (Nat.le_refl _)]; exact h)] at hu; simp at hu
        rw [hput j hj] at hu
        by_cases h1 : j < l.length
        · rw [if_pos h1] at hu
          rw [World.cell?_setCells_out g _ _ _ _ (fun _ _ => Or.inl (by show j < 0 + l.length; omega))]
          exact hcw j u (by rw [List.getElem?_map]; exact hu)
        · obtain rfl : j = l.length := by omega
          rw [if_neg h1, if_pos rfl] at hu
          have := World.cell?_setCells_in g [.int .i64 x] (0 + l.length) wa (fun t ht => hsome _ (by simp at ht; omega)) 0 (by simp)
          simp only [Nat.zero_add, Nat.add_zero, List.getElem_cons_zero] at this
          rw [Nat.zero_add, this]
          simpa using hu
      · have hlt : i < l.length := by omega
        refine (insI_shift g 0 l.length cap i w.heap.size 0 1 1 (l.map (Value.int .i64)) [.int .i64 x] wa hlt (by omega) hroom hm' (by omega) (by simp) rfl hcs (fun j hj => by rw [Nat.zero_add]; exact hsome _ (by omega)) (fun j hj => hfz _) hvs h1c h1v
          3 3 1 cur.size (by unfold World.shape?; rw [hgx]; rfl) (by unfold World.shape?; rw [hga2]) (by omega) (by unfold World.frozen?; rw [hgx]; simp) (by unfold World.frozen?; rw [hgx]; simp)).mono ?_
        rintro e w' ⟨rfl, rfl⟩
        refine ⟨_, rfl, ?_, grown_setCells (grown_setCells (grown_drew hgrow)), Or.inl rfl⟩
        have hga3 : wa.drew.heap[g]? = some (.cells cur 3 (0, 0)) := hga2
        obtain ⟨cur1, q1, q2⟩ := heap_setCells_row g ((l.map (Value.int .i64)).drop i) (0 + (i + 1)) wa.drew cur 3 (0, 0) hga3
        obtain ⟨cur', q3, q4⟩ := heap_setCells_row g [.int .i64 x] (0 + i) _ cur1 3 (0, 0) q1
        refine own_row_of q3 (by omega) hroom hm hB hlen (fun j u hu => ?_)
        have hdl : ((l.map (Value.int .i64)).drop i).length = l.length - i := by simp
        have hs1 : ∀ t, t < ((l.map (Value.int .i64)).drop i).length → (wa.drew.cell? ⟨g, 0 + (i + 1) + t, none⟩).isSome = true := fun t ht => hsome _ (by omega)
        rw [List.getElem?_map] at hu
        have hj : j < l.length + 1 := by
          rcases Nat.lt_or_ge j (l.length + 1) with h | h
          · exact h
          · rw [List.getElem?_eq_none (by rw [putAt_len l _ x hi]; exact h)] at hu; simp at hu
        rw [hput j hj] at hu
        by_cases h1 : j < i
        · rw [if_pos h1] at hu
          rw [World.cell?_setCells_out g _ _ _ _ (fun _ _ => Or.inl (by show j < 0 + i; omega)), World.cell?_setCells_out g _ _ _ _ (fun _ _ => Or.inl (by show j < 0 + (i + 1); omega))]
          exact hcw j u (by rw [List.getElem?_map]; exact hu)
        · rw [if_neg h1] at hu
          by_cases h2 : j = i
          · subst h2
            rw [if_pos rfl] at hu
            have hsm : ((wa.drew.setCells g (0 + (j + 1)) ((l.map (Value.int .i64)).drop j)).cell? ⟨g, 0 + j + 0, none⟩).isSome = true := by
              rw [World.cell?_setCells_out g _ _ _ _ (fun _ _ => Or.inl (by show 0 + j + 0 < 0 + (j + 1); omega))]
              exact hsome _ (by omega)
            have hsm' : ∀ t, t < [Value.int .i64 x].length → ((wa.drew.setCells g (0 + (j + 1)) ((l.map (Value.int .i64)).drop j)).cell? ⟨g, 0 + j + t, none⟩).isSome = true := fun t ht => by
              have h0 : t = 0 := by simp at ht; exact ht
              subst h0; exact hsm
            have := World.cell?_setCells_in g [.int .i64 x] (0 + j) (wa.drew.setCells g (0 + (j + 1)) ((l.map (Value.int .i64)).drop j)) hsm' 0 (by simp)
            simp only [Nat.zero_add, Nat.add_zero, List.getElem_cons_zero] at this ⊢
            rw [this]
            simpa using hu
          · rw [if_neg h2] at hu
            rw [World.cell?_setCells_out g _ _ _ _ (fun _ _ => Or.inr (by show 0 + i + 1 ≤ j; omega))]
            have hk : j - 1 - i < ((l.map (Value.int .i64)).drop i).length := by omega
            have := World.cell?_setCells_in g _ (0 + (i + 1)) wa.drew hs1 (j - 1 - i) hk
            rw [show 0 + (i + 1) + (j - 1 - i) = j by omega] at this
            rw [this]
            rw [List.getElem_drop]
            rw [← List.getElem?_map] at hu
            rw [List.getElem?_eq_getElem (by simp; omega)] at hu
            rw [← hu]
            congr 2
            omega
    · have hge := grownCap_ge wa (l.length + 1) cap 3
      have hle := grownCap_le_maxLen wa (l.length + 1) cap 3 (by simp only [maxLen]; omega)
      by_cases hie : i = l.length
      · subst hie
        refine (insI_end_grow (some ⟨g, 0, none⟩) l.length cap w.heap.size 0 1 1 (l.map (Value.int .i64)) [.int .i64 x] wa (by omega) hn (by omega) (by omega) (by simp) rfl (fun h => by cases h) (fun a ha j u hu => by
          cases ha
          rw [show ((⟨g, 0, none⟩ : Addr).add j) = ⟨g, 0 + j, none⟩ from by unfold Addr.add; by_cases e : j = 0 <;> simp [e]]
          exact hcs j u hu) hvs h1v).mono ?_
        rintro e w' ⟨rfl, rfl⟩
        refine ⟨_, rfl, ?_, grown_alloc (grown_drew hga) _, Or.inr fun q hq => by cases hq; show w.heap.size ≤ wa.heap.size; omega⟩
        refine own_row_of (drew_alloc_at wa _) ?_ hge hle (by show base ≤ wa.heap.size; omega) hlen (fun j u hu => ?_)
        · simp [Builtin.zeroCells, Value.cells]; omega
        · rw [cell_of_row _ _ j _ 3 (0, 0) (drew_alloc_at wa _)]
          have he : (putAt l l.length x).map (Value.int .i64) = l.map (Value.int .i64) ++ [.int .i64 x] := by unfold putAt; simp
          rw [he] at hu
          have hj : j < (l.map (Value.int .i64) ++ [Value.int .i64 x]).length := by
            rcases Nat.lt_or_ge j (l.map (Value.int .i64) ++ [Value.int .i64 x]).length with h | h
            · exact h
            · rw [List.getElem?_eq_none h] at hu; cases hu
          rw [Array.getElem?_append_left (by simpa using hj)]
          simpa using hu
      · have hlt : i < l.length := by omega
        refine (insI_grow g 0 l.length cap i w.heap.size 0 1 1 (l.map (Value.int .i64)) [.int .i64 x] wa hlt (by omega) hn (by omega) (by omega) (by simp) rfl hcs hvs h1c h1v).mono ?_
        rintro e w' ⟨rfl, rfl⟩
        refine ⟨_, rfl, ?_, grown_new_setCells (grown_drew (grown_new_setCells (grown_drew (grown_alloc hga _)) (by omega))) (by omega), Or.inr fun q hq => by cases hq; show w.heap.size ≤ wa.heap.size; omega⟩
        obtain ⟨ROW, hROW⟩ : ∃ ROW : Array Value, ROW = ((l.map (Value.int .i64)).take i).toArray ++ Builtin.zeroCells (Value.int .i64 0).cells (l.length + 1 - i) ++ Builtin.zeroCells (Value.int .i64 0).cells (grownCap wa (l.length + 1) cap 3 - (l.length + 1)) := ⟨_, rfl⟩
        have hRs : ROW.size = grownCap wa (l.length + 1) cap 3 := by rw [hROW]; simp [Builtin.zeroCells, Value.cells]; omega
        have hRt : ∀ j, j < i → ROW[j]? = (l.map (Value.int .i64))[j]? := fun j hj => by
          rw [hROW, Array.getElem?_append_left (by simp; omega), Array.getElem?_append_left (by simp; omega)]
          simp [List.getElem?_take, hj]
        rw [← hROW]
        obtain ⟨wb, hwb⟩ : ∃ z, z = (wa.alloc (.cells ROW 3)).drew := ⟨_, rfl⟩
        have hgb : wb.heap[wa.heap.size]? = some (.cells ROW 3 (0, 0)) := by rw [hwb]; exact (MapKept.heap_alloc wa _).1
        rw [← hwb]
        clear hROW hwb
        have hcb : ∀ j, wb.cell? ⟨wa.heap.size, j, none⟩ = ROW[j]? := fun j => cell_of_row wb wa.heap.size j ROW 3 (0, 0) hgb
        obtain ⟨cur1, q1, q2⟩ := heap_setCells_row wa.heap.size [.int .i64 x] i wb ROW 3 (0, 0) hgb
        have q1d : (wb.setCells wa.heap.size i [.int .i64 x]).drew.heap[wa.heap.size]? = some (.cells cur1 3 (0, 0)) := q1
        obtain ⟨cur', q3, q4⟩ := heap_setCells_row wa.heap.size ((l.map (Value.int .i64)).drop i) (i + 1) _ cur1 3 (0, 0) q1d
        refine own_row_of q3 (by omega) hge hle (by omega) hlen (fun j u hu => ?_)
        have hdl : ((l.map (Value.int .i64)).drop i).length = l.length - i := by simp
        rw [List.getElem?_map] at hu
        have hj : j < l.length + 1 := by
          rcases Nat.lt_or_ge j (l.length + 1) with h | h
          · exact h
          · rw [List.getElem?_eq_none (by rw [putAt_len l _ x hi]; exact h)] at hu; simp at hu
        rw [hput j hj] at hu
        have hsb : ∀ t, t < l.length + 1 → (wb.cell? ⟨wa.heap.size, t, none⟩).isSome = true := fun t ht => by
          rw [hcb, Array.getElem?_eq_getElem (by omega)]; rfl
        by_cases h1 : j < i
        · rw [if_pos h1] at hu
          rw [World.cell?_setCells_out _ _ _ _ _ (fun _ _ => Or.inl (by show j < i + 1; omega))]
          show (wb.setCells wa.heap.size i [.int .i64 x]).cell? _ = _
          rw [World.cell?_setCells_out _ _ _ _ _ (fun _ _ => Or.inl (by show j < i; omega)), hcb, hRt j h1, List.getElem?_map]
          exact hu
        · rw [if_neg h1] at hu
          by_cases h2 : j = i
          · subst h2
            rw [if_pos rfl] at hu
            rw [World.cell?_setCells_out _ _ _ _ _ (fun _ _ => Or.inl (by show j < j + 1; omega))]
            show (wb.setCells wa.heap.size j [.int .i64 x]).cell? _ = _
            have := World.cell?_setCells_in wa.heap.size [.int .i64 x] j wb (fun t ht => hsb _ (by simp at ht; omega)) 0 (by simp)
            simp only [Nat.add_zero, List.getElem_cons_zero] at this
            rw [this]
            simpa using hu
          · rw [if_neg h2] at hu
            have hk : j - 1 - i < ((l.map (Value.int .i64)).drop i).length := by omega
            have := World.cell?_setCells_in wa.heap.size ((l.map (Value.int .i64)).drop i) (i + 1) (wb.setCells wa.heap.size i [.int .i64 x]).drew (fun t ht => by
              show ((wb.setCells wa.heap.size i [.int .i64 x]).cell? _).isSome = true
              rw [World.cell?_setCells_out _ _ _ _ _ (fun _ _ => Or.inr (by show i + 1 ≤ i + 1 + t; omega))]
              exact hsb _ (by omega)) (j - 1 - i) hk
            rw [show i + 1 + (j - 1 - i) = j by omega] at this
            rw [this]
            rw [List.getElem_drop]
            rw [← List.getElem?_map] at hu
            rw [List.getElem?_eq_getElem (by simp; omega)] at hu
            rw [← hu]
            congr 2
            omega
end Go.Proofs.YtahiahjhpakeiaaGreatDoor
namespace Go.Proofs.YtahiahjhpakeiaaGreatDoor
set_option linter.unusedVariables false
set_option linter.unusedSimpArgs false

/-- One more, at its place. -/
def insA (f : RS) (c : List Int) (n : Int) : List Int := putAt c (below (c.map (idR f)) (idR f n)) n
def ordF (f : RS) (l : List Int) : List Int := l.foldl (insA f) []
/-- Rising places. -/
def UpId (f : RS) (c : List Int) : Prop := Up (c.map (idR f))
theorem ordF_snoc (f : RS) (l : List Int) (n : Int) : ordF f (l ++ [n]) = insA f (ordF f l) n := by unfold ordF; rw [List.foldl_append]; rfl
theorem putAt_mem {l : List Int} {i : Nat} {x y : Int} : y ∈ putAt l i x ↔ y = x ∨ y ∈ l := by
  unfold putAt
  rw [List.mem_append, List.mem_cons]
  constructor
  · rintro (h | h | h)
    · exact Or.inr (List.mem_of_mem_take h)
    · exact Or.inl h
    · exact Or.inr (List.mem_of_mem_drop h)
  · rintro (h | h)
    · exact Or.inr (Or.inl h)
    · rw [← List.take_append_drop i l] at h
      rcases List.mem_append.1 h with h | h
      · exact Or.inl h
      · exact Or.inr (Or.inr h)
theorem below_le_len (c : List Int) (f : RS) (x : Int) : below (c.map (idR f)) x ≤ c.length := by have := below_le (c.map (idR f)) x; simpa using this
theorem ordG_len (f : RS) : ∀ (l c : List Int), (l.foldl (insA f) c).length = c.length + l.length
  | [], c => rfl
  | n :: l, c => by
    show (l.foldl (insA f) (insA f c n)).length = _
    rw [ordG_len f l]
    unfold insA
    rw [putAt_len _ _ _ (below_le_len _ _ _), List.length_cons]; omega
theorem ordF_len (f : RS) (l : List Int) : (ordF f l).length = l.length := by unfold ordF; rw [ordG_len]; simp
theorem ordG_mem (f : RS) (x : Int) : ∀ (l c : List Int), x ∈ l.foldl (insA f) c ↔ x ∈ c ∨ x ∈ l
  | [], c => by simp
  | n :: l, c => by
    show x ∈ l.foldl (insA f) (insA f c n) ↔ _
    rw [ordG_mem f x l]
    unfold insA
    rw [putAt_mem, List.mem_cons]
    constructor
    · rintro ((h | h) | h)
      · exact Or.inr (Or.inl h)
      · exact Or.inl h
      · exact Or.inr (Or.inr h)
    · rintro (h | h | h)
      · exact Or.inl (Or.inr h)
      · exact Or.inl (Or.inl h)
      · exact Or.inr h
theorem ordF_mem (f : RS) (x : Int) (l : List Int) : x ∈ ordF f l ↔ x ∈ l := by unfold ordF; rw [ordG_mem]; simp
/-- Of rising places those below one come first. -/
theorem below_split : ∀ {l : List Int} (h : Up l) (x : Int), (∀ y ∈ l.take (below l x), y < x) ∧ (∀ y ∈ l.drop (below l x), x ≤ y)
  | [], _, x => by simp [below]
  | z :: l, h, x => by
    have h' := List.pairwise_cons.1 h
    by_cases hz : z < x
    · have e : below (z :: l) x = below l x + 1 := by unfold below; rw [List.countP_cons_of_pos (by simpa using hz)]
      rw [e]
      obtain ⟨h1, h2⟩ := below_split h'.2 x
      refine ⟨fun y hy => ?_, fun y hy => h2 y hy⟩
      rcases List.mem_cons.1 hy with e2 | hy
      · rw [e2]; exact hz
      · exact h1 y hy
    · have e : below (z :: l) x = 0 := by
        unfold below
        rw [List.countP_eq_zero]
        intro y hy
        rcases List.mem_cons.1 hy with rfl | hy
        · simpa using hz
        · have := h'.1 y hy; simp; omega
      rw [e]
      refine ⟨fun y hy => by simp at hy, fun y hy => ?_⟩
      simp at hy
      rcases hy with rfl | hy
      · omega
      · have := h'.1 y hy; omega
theorem putAt_up {l : List Int} (h : Up l) {x : Int} (hx : x ∉ l) : Up (putAt l (below l x) x) := by
  obtain ⟨h1, h2⟩ := below_split h x
  unfold putAt
  refine List.pairwise_append.2 ⟨List.Pairwise.sublist (List.take_sublist _ _) h, List.pairwise_cons.2 ⟨fun y hy => ?_, List.Pairwise.sublist (List.drop_sublist _ _) h⟩, fun y hy z hz => ?_⟩
  · have := h2 y hy
    have : x ≠ y := by rintro rfl; exact hx (List.mem_of_mem_drop hy)
    omega
  · have := h1 y hy
    rcases List.mem_cons.1 hz with rfl | hz
    · exact this
    · have := h2 z hz; omega
theorem map_putAt (g : Int → Int) (l : List Int) (i : Nat) (x : Int) : (putAt l i x).map g = putAt (l.map g) i (g x) := by unfold putAt; simp
theorem ordG_up {f : RS} : ∀ (l c : List Int), UpId f c → (l.map (idR f)).Nodup → (∀ x ∈ c, ∀ y ∈ l, idR f x ≠ idR f y) → UpId f (l.foldl (insA f) c)
  | [], c, hc, _, _ => hc
  | n :: l, c, hc, hn, hd => by
    show UpId f (l.foldl (insA f) (insA f c n))
    have hn' := List.nodup_cons.1 hn
    refine ordG_up l _ ?_ hn'.2 fun x hx y hy => ?_
    · unfold UpId insA
      rw [map_putAt]
      refine putAt_up hc fun hm => ?_
      obtain ⟨y, hy, e⟩ := List.mem_map.1 hm
      exact hd y hy n (by simp) e
    · unfold insA at hx
      rcases putAt_mem.1 hx with rfl | hx
      · exact fun e => hn'.1 (by rw [e]; exact List.mem_map.2 ⟨y, hy, rfl⟩)
      · exact hd x hx y (List.mem_cons_of_mem _ hy)
theorem ordF_up {f : RS} (l : List Int) (h : (l.map (idR f)).Nodup) : UpId f (ordF f l) := ordG_up l [] List.Pairwise.nil h (fun x hx => by simp at hx)
/-- The circle. -/
def circ (f : RS) : List Int := ordF f (liveL f)
theorem liveL_nodup (f : RS) : (liveL f).Nodup := List.Pairwise.filter _ (by decide)
theorem live_ids_nodup {f : RS} (I : Inv f) (l : List Int) (hn : l.Nodup) (hl : ∀ x ∈ l, livesR f x = true) : (l.map (idR f)).Nodup := by
  refine List.pairwise_map.2 (List.Pairwise.imp_of_mem (fun {a b} ha hb hab e => hab (I.uniq a b (hl a ha) (hl b hb) e)) hn)
theorem circ_up {f : RS} (I : Inv f) : UpId f (circ f) := ordF_up _ (live_ids_nodup I _ (liveL_nodup f) fun x hx => (mem_liveL I.dom).1 hx)
theorem circ_mem {f : RS} (I : Inv f) {x : Int} : x ∈ circ f ↔ livesR f x = true := by unfold circ; rw [ordF_mem, mem_liveL I.dom]
theorem circ_len (f : RS) : (circ f).length = (liveL f).length := ordF_len f _
end Go.Proofs.YtahiahjhpakeiaaGreatDoor
