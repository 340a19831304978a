/-
  slices.Insert of one entry, into a row of the call's own.
-/
import Derived.Test.YtacdgfkahppmdaaInsW
import Derived.Test.YtacdgfkahppmdaaTabH
namespace Go.Proofs.Ytacdgfkahppmdaa
open Go.Shelf Go.RowKit Go.Lib
set_option linter.unusedVariables false
set_option linter.unusedSimpArgs false

theorem own_row_wide {w' : World} {base e g n cap : Nat} {xs : List Value} {cur : Array Value} (hg : w'.heap[g]? = some (.cells cur e (0, 0))) (hs : cur.size = cap * 5) (hn : n ≤ cap) (hm : cap ≤ maxLen) (hb : base ≤ g) (hl : xs.length = n * 5)
    (hc : ∀ j (v : Value), xs[j]? = some v → w'.cell? ⟨g, j, none⟩ = some v) : w'.ownsRow base e 5 (.slice (some ⟨g, 0, none⟩) n cap) n xs := by
  refine ⟨hl, Or.inr ⟨g, cap, cur, rfl, hb, hg, hn, hm, hs, ?_⟩⟩
  refine List.ext_getElem (by simp; omega) fun j h1 h2 => ?_
  have := hc j xs[j] (List.getElem?_eq_getElem h2)
  rw [cell_of_row w' g j cur e (0, 0) hg] at this
  have hj : j < cur.size := by omega
  rw [Array.getElem?_eq_getElem hj] at this
  simpa using this
theorem heap_setCells_row (b : Nat) : ∀ (vs : List Value) (o : Nat) (w : World) (cur : Array Value) (e : TypeId) (fz : Nat × Nat), w.heap[b]? = some (.cells cur e fz) → ∃ cur', (w.setCells b o vs).heap[b]? = some (.cells cur' e fz) ∧ cur'.size = cur.size
  | [], _, w, cur, e, fz, h => ⟨cur, h, rfl⟩
  | v :: r, o, w, cur, e, fz, h => by
    have h1 : (w.setCell ⟨b, o, none⟩ v).heap[b]? = some (.cells (cur.setIfInBounds o v) e fz) := by
      unfold World.setCell
      simp [Array.getElem?_modify, h]
    obtain ⟨cur', h2, h3⟩ := heap_setCells_row b r (o + 1) _ _ _ _ h1
    exact ⟨cur', h2, by rw [h3]; simp⟩
theorem heap_setCells_other (b k : Nat) (hk : k ≠ b) : ∀ (vs : List Value) (o : Nat) (w : World), (w.setCells b o vs).heap[k]? = w.heap[k]?
  | [], _, _ => rfl
  | v :: r, o, w => by rw [World.setCells, heap_setCells_other b k hk r]; exact Below.heap_setCell _ _ _ _ hk
theorem size_setCells (b : Nat) : ∀ (vs : List Value) (o : Nat) (w : World), (w.setCells b o vs).heap.size = w.heap.size
  | [], _, _ => rfl
  | v :: r, o, w => by rw [World.setCells, size_setCells b r]; exact size_set _ _ _
theorem meta_setCells (b : Nat) : ∀ (vs : List Value) (o : Nat) (w : World), (w.setCells b o vs).os = w.os ∧ (w.setCells b o vs).tape = w.tape ∧ (w.setCells b o vs).output = w.output
  | [], _, _ => ⟨rfl, rfl, rfl⟩
  | v :: r, o, w => by rw [World.setCells]; exact meta_setCells b r (o + 1) _
theorem grown_setCells {w w' : World} {b o : Nat} {vs : List Value} (h : w.grownBy w' (some b)) : w.grownBy (w'.setCells b o vs) (some b) :=
  ⟨(meta_setCells b vs o w').1.trans h.os, (meta_setCells b vs o w').2.1.trans h.tape, (meta_setCells b vs o w').2.2.trans h.output, by rw [size_setCells]; exact h.size, fun k hk hne => by
    rw [heap_setCells_other b k (fun e => hne (by rw [e]))]; exact h.block k hk hne⟩
theorem grown_new_setCells {w w' : World} {b o : Nat} {vs : List Value} {row : Option Nat} (h : w.grownBy w' row) (hb : w.heap.size ≤ b) : w.grownBy (w'.setCells b o vs) row :=
  ⟨(meta_setCells b vs o w').1.trans h.os, (meta_setCells b vs o w').2.1.trans h.tape, (meta_setCells b vs o w').2.2.trans h.output, by rw [size_setCells]; exact h.size, fun k hk hne => by
    rw [heap_setCells_other b k (by omega)]; exact h.block k hk hne⟩
theorem grown_drew {w w' : World} {row : Option Nat} (h : w.grownBy w' row) : w.grownBy w'.drew row := ⟨h.os, h.tape, h.output, h.size, h.block⟩
theorem grown_alloc {w w' : World} {row : Option Nat} (h : w.grownBy w' row) (o : Obj) : w.grownBy (w'.alloc o) row :=
  ⟨h.os, h.tape, h.output, by simp; have := h.size; omega, fun k hk hne => by
    rw [(MapKept.heap_alloc w' o).2 k (by have := h.size; omega)]; exact h.block k hk hne⟩
theorem drew_alloc_at (w : World) (o : Obj) : (w.drew.alloc o).heap[w.heap.size]? = some o := (MapKept.heap_alloc w.drew o).1
/-- Rows into which one was put. -/
def putRows (rs : List Row) (i : Nat) (r : Row) : List Row := rs.take i ++ r :: rs.drop i
theorem putRows_len (rs : List Row) (i : Nat) (r : Row) (h : i ≤ rs.length) : (putRows rs i r).length = rs.length + 1 := by unfold putRows; simp; omega
theorem flat_put (rs : List Row) (i : Nat) (r : Row) : flat (putRows rs i r) = (flat rs).take (i * 5) ++ (r.cells ++ (flat rs).drop (i * 5)) := by
  unfold flat putRows
  rw [flat_take Row.cells Row.len, flat_drop Row.cells Row.len, List.flatMap_append, List.flatMap_cons]
/-- Lists that are laid over a row, cell by cell. -/
theorem put_cells {xs r5 : List Value} {i5 n5 : Nat} (h5 : r5.length = 5) (hi : i5 ≤ xs.length) (j : Nat) : (xs.take i5 ++ (r5 ++ xs.drop i5))[j]? = if j < i5 then xs[j]? else if j < i5 + 5 then r5[j - i5]? else xs[j - 5]? := by
  by_cases h1 : j < i5
  · rw [if_pos h1, List.getElem?_append_left (by simp; omega), List.getElem?_take, if_pos h1]
  · rw [if_neg h1, List.getElem?_append_right (by simp; omega), List.length_take, Nat.min_eq_left hi]
    by_cases h2 : j < i5 + 5
    · rw [if_pos h2, List.getElem?_append_left (by omega)]
    · rw [if_neg h2, List.getElem?_append_right (by omega), h5, List.getElem?_drop]
      congr 1; omega
set_option maxHeartbeats 4000000 in
set_option maxRecDepth 100000 in
theorem insE_any (w : World) (base : Nat) (v : Value) (rs : List Row) (r : Row) (i : Nat) (hown : w.ownsRow base 30 5 v rs.length (flat rs)) (hi : i ≤ rs.length) (hl : rs.length ≤ 1000000) (hbase : base ≤ w.heap.size)
    (h1 : ∀ r ∈ rs, r.v.oneCell' = true) (hr1 : r.v.oneCell' = true) :
    Calls Try.prog 24 #[v, .int .i64 i, .slice (some ⟨w.heap.size, 0, none⟩) 1 1] (w.alloc (.cells r.cells.toArray 30)) fun e w' => ∃ v', e = .returned v' ∧ w'.ownsRow base 30 5 v' (rs.length + 1) (flat (putRows rs i r)) ∧ w.grownBy w' v.ownBlock ∧ (v'.ownBlock = v.ownBlock ∨ ∀ q, v'.ownBlock = some q → w.heap.size ≤ q) := by
  obtain ⟨wa, hwa⟩ : ∃ z, z = w.alloc (.cells r.cells.toArray 30) := ⟨_, rfl⟩
  have hga : w.grownBy wa v.ownBlock := by rw [hwa]; exact World.grownBy_alloc w _ _
  have hza : wa.heap.size = w.heap.size + 1 := by rw [hwa]; simp
  have hgx : wa.heap[w.heap.size]? = some (.cells r.cells.toArray 30 (0, 0)) := by rw [hwa]; exact (MapKept.heap_alloc w _).1
  have hold : ∀ k, k < w.heap.size → wa.heap[k]? = w.heap[k]? := fun k hk => by rw [hwa]; exact (MapKept.heap_alloc w _).2 k hk
  obtain ⟨x5, hx5⟩ : ∃ z, z = r.cells := ⟨_, rfl⟩
  have h5 : x5.length = 5 := by rw [hx5]; rfl
  have h1v : ∀ u ∈ x5, u.oneCell' = true := by rw [hx5]; exact Row.one hr1
  have h1c : ∀ u ∈ flat rs, u.oneCell' = true := flat_one h1
  have hfl := flat_length rs
  have hlen : (flat (putRows rs i r)).length = (rs.length + 1) * 5 := by rw [flat_length, putRows_len rs i r hi]
  have hput : ∀ j, (flat (putRows rs i r))[j]? = if j < i * 5 then (flat rs)[j]? else if j < i * 5 + 5 then x5[j - i * 5]? else (flat rs)[j - 5]? := fun j => by
    rw [flat_put, hx5]; exact put_cells (n5 := 0) (Row.len r) (by omega) j
  rw [← hx5] at hgx hwa ⊢
  obtain ⟨n, hn0⟩ : ∃ n, n = rs.length := ⟨_, rfl⟩
  obtain ⟨xs, hxs⟩ : ∃ xs, xs = flat rs := ⟨_, rfl⟩
  obtain ⟨ys, hys⟩ : ∃ ys, ys = flat (putRows rs i r) := ⟨_, rfl⟩
  rw [← hn0] at hown hi hl hfl hlen ⊢
  rw [← hxs] at hown h1c hfl hput
  rw [← hys] at hlen hput ⊢
  clear hx5 h1 hr1 hxs hys hn0
  have hvs : ∀ j (u : Value), x5[j]? = some u → wa.cell? ⟨w.heap.size, 0 + j, none⟩ = some u := fun j u hu => by
    rw [cell_of_row wa w.heap.size (0 + j) _ 30 (0, 0) hgx]
    simpa using hu
  rw [← hwa]
  clear hwa
  rcases hown.2 with ⟨rfl, h0⟩ | ⟨g, cap, cur, rfl, hB, hg, hn, hm, hs, ht⟩
  · subst h0
    obtain rfl : i = 0 := by omega
    have hx0 : xs = [] := List.length_eq_zero_iff.1 (by omega)
    have hge := grownCap_ge wa 1 0 30
    have hle := grownCap_le_maxLen wa 1 0 30 (by simp [maxLen])
    refine (insW_end_grow none 0 0 w.heap.size 0 1 1 [] x5 wa (by omega) (by omega) (by omega) (by omega) rfl (by omega) (fun _ => rfl) (fun a ha => by cases ha) hvs h1v).mono ?_
    rintro e w' ⟨rfl, rfl⟩
    refine ⟨_, rfl, ?_, grown_alloc (grown_drew hga) _, Or.inr fun q hq => by cases hq; show w.heap.size ≤ wa.heap.size; omega⟩
    simp only [Nat.zero_add] at hge hle ⊢
    refine own_row_wide (drew_alloc_at wa _) ?_ hge hle (by show base ≤ wa.heap.size; omega) (by omega) (fun j u hu => ?_)
    · simp only [Array.size_append, zeros_len, List.size_toArray, List.length_append, List.length_nil]; omega
    · rw [cell_of_row _ _ j _ 30 (0, 0) (drew_alloc_at wa _)]
      have hj : j < 5 := by
        have := (List.getElem?_eq_some_iff.1 hu).1
        omega
      rw [hput j, if_neg (by omega), if_pos (by omega)] at hu
      rw [Array.getElem?_append_left (by simp; omega)]
      simpa using hu
  · have hgl : g < w.heap.size := (Array.getElem?_eq_some_iff.1 hg).1
    have hga2 : wa.heap[g]? = some (.cells cur 30 (0, 0)) := (hold g hgl).trans hg
    have hcw : ∀ j (u : Value), xs[j]? = some u → wa.cell? ⟨g, j, none⟩ = some u := fun j u hu => by
      rw [cell_of_row wa g j cur 30 (0, 0) hga2]
      rw [← ht, List.getElem?_take] at hu
      split at hu
      · simpa using hu
      · cases hu
    have hcs : ∀ j (u : Value), xs[j]? = some u → wa.cell? ⟨g, 0 + j, none⟩ = some u := fun j u hu => by rw [Nat.zero_add]; exact hcw j u hu
    have hsome : ∀ j, j < cap * 5 → (wa.cell? ⟨g, j, none⟩).isSome = true := fun j hj => by
      rw [cell_of_row wa g j cur 30 (0, 0) hga2, Array.getElem?_eq_getElem (by omega)]; rfl
    have hfz : ∀ j, wa.frozen? ⟨g, j, none⟩ = false := fun j => by unfold World.frozen?; rw [hga2]; simp
    have hm' : cap ≤ 9223372036854775807 := by unfold maxLen at hm; omega
    have hgrow : w.grownBy wa (some g) := hga
    by_cases hroom : n + 1 ≤ cap
    · by_cases hie : i = n
      · subst hie
        refine (insW_end_room g 0 i cap w.heap.size 0 1 1 x5 wa (by omega) hroom hm' (by omega) (fun j hj => hsome _ (by omega)) (fun j hj => hfz _) hvs h1v).mono ?_
        rintro e w' ⟨rfl, rfl⟩
        refine ⟨_, rfl, ?_, grown_setCells hgrow, Or.inl rfl⟩
        obtain ⟨cur', q1, q2⟩ := heap_setCells_row g x5 (0 + i * 5) wa cur 30 (0, 0) hga2
        refine own_row_wide q1 (by omega) hroom hm hB hlen (fun j u hu => ?_)
        have hj : j < (i + 1) * 5 := by
          have := (List.getElem?_eq_some_iff.1 hu).1
          omega
        rw [hput j] at hu
        by_cases h1 : j < i * 5
        · rw [if_pos h1] at hu
          rw [World.cell?_setCells_out g _ _ _ _ (fun _ _ => Or.inl (by show j < 0 + i * 5; omega))]
          exact hcw j u hu
        · rw [if_neg h1, if_pos (by omega)] at hu
          have := World.cell?_setCells_in g x5 (0 + i * 5) wa (fun t ht => hsome _ (by omega)) (j - i * 5) (by omega)
          rw [show 0 + i * 5 + (j - i * 5) = j by omega] at this
          rw [this]
          rwa [List.getElem?_eq_getElem (by omega)] at hu
      · have hlt : i < n := by omega
        refine (insW_shift g 0 n cap i w.heap.size 0 1 1 xs x5 wa hlt (by omega) hroom hm' (by omega) hfl (by omega) hcs (fun j hj => by rw [Nat.zero_add]; exact hsome _ (by omega)) (fun j hj => hfz _) hvs h1c h1v
          30 30 5 cur.size (by unfold World.shape?; rw [hgx]; simp [h5]) (by unfold World.shape?; rw [hga2]) (by omega) (by unfold World.frozen?; rw [hgx]; simp) (by unfold World.frozen?; rw [hgx]; simp)).mono ?_
        rintro e w' ⟨rfl, rfl⟩
        refine ⟨_, rfl, ?_, grown_setCells (grown_setCells (grown_drew hgrow)), Or.inl rfl⟩
        have hga3 : wa.drew.heap[g]? = some (.cells cur 30 (0, 0)) := hga2
        obtain ⟨cur1, q1, q2⟩ := heap_setCells_row g (xs.drop (i * 5)) (0 + (i + 1) * 5) wa.drew cur 30 (0, 0) hga3
        obtain ⟨cur', q3, q4⟩ := heap_setCells_row g x5 (0 + i * 5) _ cur1 30 (0, 0) q1
        refine own_row_wide q3 (by omega) hroom hm hB hlen (fun j u hu => ?_)
        have hdl : (xs.drop (i * 5)).length = n * 5 - i * 5 := by simp [hfl]
        have hs1 : ∀ t, t < (xs.drop (i * 5)).length → (wa.drew.cell? ⟨g, 0 + (i + 1) * 5 + t, none⟩).isSome = true := fun t ht => hsome _ (by omega)
        have hj : j < (n + 1) * 5 := by
          have := (List.getElem?_eq_some_iff.1 hu).1
          omega
        rw [hput j] at hu
        by_cases h1 : j < i * 5
        · rw [if_pos h1] at hu
          rw [World.cell?_setCells_out g _ _ _ _ (fun _ _ => Or.inl (by show j < 0 + i * 5; omega)), World.cell?_setCells_out g _ _ _ _ (fun _ _ => Or.inl (by show j < 0 + (i + 1) * 5; omega))]
          exact hcw j u hu
        · rw [if_neg h1] at hu
          by_cases h2 : j < i * 5 + 5
          · rw [if_pos h2] at hu
            have hsm' : ∀ t, t < x5.length → ((wa.drew.setCells g (0 + (i + 1) * 5) (xs.drop (i * 5))).cell? ⟨g, 0 + i * 5 + t, none⟩).isSome = true := fun t ht => by
              rw [World.cell?_setCells_out g _ _ _ _ (fun _ _ => Or.inl (by show 0 + i * 5 + t < 0 + (i + 1) * 5; omega))]
              exact hsome _ (by omega)
            have := World.cell?_setCells_in g x5 (0 + i * 5) (wa.drew.setCells g (0 + (i + 1) * 5) (xs.drop (i * 5))) hsm' (j - i * 5) (by omega)
            rw [show 0 + i * 5 + (j - i * 5) = j by omega] at this
            rw [this]
            rwa [List.getElem?_eq_getElem (by omega)] at hu
          · rw [if_neg h2] at hu
            rw [World.cell?_setCells_out g _ _ _ _ (fun _ _ => Or.inr (by show 0 + i * 5 + x5.length ≤ j; omega))]
            have hk : j - 5 - i * 5 < (xs.drop (i * 5)).length := by omega
            have := World.cell?_setCells_in g _ (0 + (i + 1) * 5) wa.drew hs1 (j - 5 - i * 5) hk
            rw [show 0 + (i + 1) * 5 + (j - 5 - i * 5) = j by omega] at this
            rw [this, List.getElem_drop]
            rw [List.getElem?_eq_getElem (by omega)] at hu
            rw [← hu]
            congr 2
            omega
    · have hge := grownCap_ge wa (n + 1) cap 30
      have hle := grownCap_le_maxLen wa (n + 1) cap 30 (by simp only [maxLen]; omega)
      by_cases hie : i = n
      · subst hie
        refine (insW_end_grow (some ⟨g, 0, none⟩) i cap w.heap.size 0 1 1 xs x5 wa (by omega) hn (by omega) (by omega) hfl (by omega) (fun h => by cases h) (fun a ha j u hu => by
          cases ha
          rw [show ((⟨g, 0, none⟩ : Addr).add j) = ⟨g, 0 + j, none⟩ from by unfold Addr.add; by_cases e : j = 0 <;> simp [e]]
          exact hcs j u hu) hvs h1v).mono ?_
        rintro e w' ⟨rfl, rfl⟩
        refine ⟨_, rfl, ?_, grown_alloc (grown_drew hga) _, Or.inr fun q hq => by cases hq; show w.heap.size ≤ wa.heap.size; omega⟩
        refine own_row_wide (drew_alloc_at wa _) ?_ hge hle (by show base ≤ wa.heap.size; omega) hlen (fun j u hu => ?_)
        · simp only [Array.size_append, zeros_len, List.size_toArray, List.length_append]; omega
        · rw [cell_of_row _ _ j _ 30 (0, 0) (drew_alloc_at wa _)]
          have hj : j < (i + 1) * 5 := by
            have := (List.getElem?_eq_some_iff.1 hu).1
            omega
          rw [Array.getElem?_append_left (by simp; omega), List.getElem?_toArray]
          rw [hput j] at hu
          by_cases h1 : j < i * 5
          · rw [if_pos h1] at hu
            rw [List.getElem?_append_left (by omega)]; exact hu
          · rw [if_neg h1, if_pos (by omega)] at hu
            rw [List.getElem?_append_right (by omega), hfl]; exact hu
      · have hlt : i < n := by omega
        refine (insW_grow g 0 n cap i w.heap.size 0 1 1 xs x5 wa hlt (by omega) hn (by omega) (by omega) hfl (by omega) hcs hvs h1c h1v).mono ?_
        rintro e w' ⟨rfl, rfl⟩
        obtain ⟨G, hG⟩ : ∃ G, G = grownCap wa (n + 1) cap 30 := ⟨_, rfl⟩
        rw [← hG] at hge hle ⊢
        obtain ⟨ROW, hROW⟩ : ∃ ROW : Array Value, ROW = (xs.take (i * 5)).toArray ++ Builtin.zeroCells zW.cells (n + 1 - i) ++ Builtin.zeroCells zW.cells (G - (n + 1)) := ⟨_, rfl⟩
        have hRl : ROW.size = G * 5 := by
          rw [hROW]
          simp only [Array.size_append, zeros_len, List.size_toArray, List.length_take, hfl]
          omega
        have hRt : ∀ j, j < i * 5 → ROW[j]? = xs[j]? := fun j hj => by
          rw [hROW, Array.append_assoc, Array.getElem?_append_left (by simp; omega), List.getElem?_toArray, List.getElem?_take, if_pos hj]
        rw [← hROW]
        clear hROW
        have hr0 : ((wa.alloc (.cells ROW 30)).drew).heap[wa.heap.size]? = some (.cells ROW 30 (0, 0)) := (MapKept.heap_alloc wa _).1
        have hN : ∀ j, j < G * 5 → (((wa.alloc (.cells ROW 30)).drew).cell? ⟨wa.heap.size, j, none⟩).isSome = true := fun j hj => by
          rw [cell_of_row _ _ j _ 30 (0, 0) hr0, Array.getElem?_eq_getElem (by omega)]; rfl
        obtain ⟨cur1, q1, q2⟩ := heap_setCells_row wa.heap.size x5 (i * 5) _ ROW 30 (0, 0) hr0
        have q1' : (((wa.alloc (.cells ROW 30)).drew.setCells wa.heap.size (i * 5) x5).drew).heap[wa.heap.size]? = some (.cells cur1 30 (0, 0)) := q1
        obtain ⟨cur', q3, q4⟩ := heap_setCells_row wa.heap.size (xs.drop (i * 5)) ((i + 1) * 5) _ cur1 30 (0, 0) q1'
        refine ⟨_, rfl, ?_, grown_new_setCells (grown_drew (grown_new_setCells (grown_drew (grown_alloc hga _)) (by omega))) (by omega), Or.inr fun q hq => by cases hq; show w.heap.size ≤ wa.heap.size; omega⟩
        refine own_row_wide q3 (by omega) hge hle (by show base ≤ wa.heap.size; omega) hlen (fun j u hu => ?_)
        have hdl : (xs.drop (i * 5)).length = n * 5 - i * 5 := by simp [hfl]
        have hj : j < (n + 1) * 5 := by
          have := (List.getElem?_eq_some_iff.1 hu).1
          omega
        have hs0 : ∀ t, t < x5.length → (((wa.alloc (.cells ROW 30)).drew).cell? ⟨wa.heap.size, i * 5 + t, none⟩).isSome = true := fun t ht => hN _ (by omega)
        have hs1 : ∀ t, t < (xs.drop (i * 5)).length → ((((wa.alloc (.cells ROW 30)).drew.setCells wa.heap.size (i * 5) x5).drew).cell? ⟨wa.heap.size, (i + 1) * 5 + t, none⟩).isSome = true := fun t ht => by
          show (((wa.alloc (.cells ROW 30)).drew.setCells wa.heap.size (i * 5) x5).cell? ⟨wa.heap.size, (i + 1) * 5 + t, none⟩).isSome = true
          exact isSome_setCells _ _ _ _ hs0 _ (hN _ (by omega))
        rw [hput j] at hu
        by_cases h1 : j < i * 5
        · rw [if_pos h1] at hu
          rw [World.cell?_setCells_out _ _ _ _ _ (fun _ _ => Or.inl (by show j < (i + 1) * 5; omega))]
          show ((wa.alloc (.cells ROW 30)).drew.setCells wa.heap.size (i * 5) x5).cell? ⟨wa.heap.size, j, none⟩ = some u
          rw [World.cell?_setCells_out _ _ _ _ _ (fun _ _ => Or.inl (by show j < i * 5; omega)), cell_of_row _ _ j _ 30 (0, 0) hr0, hRt j h1]
          exact hu
        · rw [if_neg h1] at hu
          by_cases h2 : j < i * 5 + 5
          · rw [if_pos h2] at hu
            rw [World.cell?_setCells_out _ _ _ _ _ (fun _ _ => Or.inl (by show j < (i + 1) * 5; omega))]
            show ((wa.alloc (.cells ROW 30)).drew.setCells wa.heap.size (i * 5) x5).cell? ⟨wa.heap.size, j, none⟩ = some u
            have := World.cell?_setCells_in wa.heap.size x5 (i * 5) _ hs0 (j - i * 5) (by omega)
            rw [show i * 5 + (j - i * 5) = j by omega] at this
            rw [this]
            rwa [List.getElem?_eq_getElem (by omega)] at hu
          · rw [if_neg h2] at hu
            have hk : j - 5 - i * 5 < (xs.drop (i * 5)).length := by omega
            have := World.cell?_setCells_in wa.heap.size _ ((i + 1) * 5) _ hs1 (j - 5 - i * 5) hk
            rw [show (i + 1) * 5 + (j - 5 - i * 5) = j by omega] at this
            rw [this, List.getElem_drop]
            rw [List.getElem?_eq_getElem (by omega)] at hu
            rw [← hu]
            congr 2
            omega
end Go.Proofs.Ytacdgfkahppmdaa
