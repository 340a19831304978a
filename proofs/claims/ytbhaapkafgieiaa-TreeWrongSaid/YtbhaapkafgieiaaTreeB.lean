
/-
  How a tree is made, of a list that says who is next.
-/
import Derived.Test.YtbhaapkafgieiaaTreeA
import Derived.Test.YtbhaapkafgieiaaHashA
namespace Go.Proofs.Ytbhaapkafgieiaa
open Go.RowKit Go.Maps Go.Sort Go.WideShapes Go.ChangeShapes Go.Deep
set_option linter.unusedVariables false
set_option linter.unusedSimpArgs false
attribute [local go_sem] later_cell later_frozen later_lt cell_set_off cell_set_block


/-- A tree under way: its map in block mb, its two cells in block tb; the answer's in block rb. -/
structure TreeW (w : World) (rb mb tb : Nat) (wr : World) (t : TS) : Prop where
  tree : TreeAt wr mb t
  c0 : wr.cell? ⟨tb, 0, none⟩ = some (.int .i64 t.root)
  c1 : wr.cell? ⟨tb, 1, none⟩ = some (.map (some mb))
  r0 : wr.cell? ⟨rb, 0, none⟩ = some (.int .i64 0)
  r1 : wr.cell? ⟨rb, 1, none⟩ = some (.map none)
  fz : wr.frozen? ⟨tb, 0, none⟩ = false
  fr0 : wr.frozen? ⟨rb, 0, none⟩ = false
  fr1 : wr.frozen? ⟨rb, 1, none⟩ = false
  zt : tb < wr.heap.size
  zr : rb < wr.heap.size
  ne1 : tb ≠ mb
  ne2 : rb ≠ mb
  ne3 : tb ≠ rb
  low1 : w.heap.size ≤ rb
  low2 : w.heap.size ≤ mb
  low3 : w.heap.size ≤ tb
  below : Below w.heap.size w wr
section
variable {w : World} {rb mb tb : Nat} {wr wr' : World} {t : TS}
theorem TreeW.later (h : TreeW w rb mb tb wr t) (hb : Below wr.heap.size wr wr') : TreeW w rb mb tb wr' t where
  tree := h.tree.below hb
  c0 := (hb.cell (p := ⟨tb, 0, none⟩) h.zt).trans h.c0
  c1 := (hb.cell (p := ⟨tb, 1, none⟩) h.zt).trans h.c1
  r0 := (hb.cell (p := ⟨rb, 0, none⟩) h.zr).trans h.r0
  r1 := (hb.cell (p := ⟨rb, 1, none⟩) h.zr).trans h.r1
  fz := (hb.frozen (p := ⟨tb, 0, none⟩) h.zt).trans h.fz
  fr0 := (hb.frozen (p := ⟨rb, 0, none⟩) h.zr).trans h.fr0
  fr1 := (hb.frozen (p := ⟨rb, 1, none⟩) h.zr).trans h.fr1
  zt := Nat.lt_of_lt_of_le h.zt hb.size
  zr := Nat.lt_of_lt_of_le h.zr hb.size
  ne1 := h.ne1
  ne2 := h.ne2
  ne3 := h.ne3
  low1 := h.low1
  low2 := h.low2
  low3 := h.low3
  below := bel_below h.below hb
theorem treeW_new (w : World) : TreeW w w.heap.size (w.heap.size + 1) (w.heap.size + 1 + 1) (((w.alloc (.cells #[.int .i64 0, .map none] 25)).alloc (.map #[] 0)).alloc (.cells #[.int .i64 (-1), .map (some (w.heap.size + 1))] 25)) t0 where
  tree := by
    refine ⟨?_, by simp [t0], show okInt (-1) from okInt_dom (by omega) (by omega), by simp [t0]⟩
    have h := mapX_new (P := Try.prog) (k := 3) (w.alloc (.cells #[.int .i64 0, .map none] 25))
    have h2 := h.block (w' := (((w.alloc (.cells #[.int .i64 0, .map none] 25)).alloc (.map #[] 0)).alloc (.cells #[.int .i64 (-1), .map (some (w.heap.size + 1))] 25))) (Below.heap_alloc _ _ _ (by simp))
    have e : (w.alloc (.cells #[.int .i64 0, .map none] 25)).heap.size = w.heap.size + 1 := by simp
    rw [e] at h2
    exact h2
  c0 := by simp [go_sem, t0]
  c1 := by simp [go_sem]
  r0 := by simp [go_sem]
  r1 := by simp [go_sem]
  fz := by simp [go_sem]
  fr0 := by simp [go_sem]
  fr1 := by simp [go_sem]
  zt := by simp
  zr := by simp; omega
  ne1 := by omega
  ne2 := by omega
  ne3 := by omega
  low1 := by omega
  low2 := by omega
  low3 := by omega
  below := bel_alloc (bel_alloc (bel_alloc (Below.refl _ _) _) _) _
/-- A node tells another one. -/
theorem TreeW.put (h : TreeW w rb mb tb wr t) {n m : Int} (hn : okInt n) (hm : okInt m) (hu : t.up n = none) (hs : t.ups.length < 100000) :
    ∃ w', (Instr.mapUpdate 23 (.map (some mb)) (.int .i64 n) (.int .i64 m)).run Try.prog wr = .ok () w' ∧ TreeW w rb mb tb w' (t.add n m) := by
  obtain ⟨w', hrun, hm', ht⟩ := h.tree.map.store keyInt Try.underlying3 Try.underlying23 (by simp only [maxLen]; omega) n hn (.int .i64 m)
  have hg := ht.grown
  have hblk : ∀ b, b < wr.heap.size → b ≠ mb → w'.heap[b]? = wr.heap[b]? := fun b hb hne => hg.block b hb (fun e => hne (by cases e; rfl))
  have hT := hblk tb h.zt h.ne1
  have hR := hblk rb h.zr h.ne2
  refine ⟨w', hrun, ?_⟩
  refine { tree := ⟨?_, ?_, h.tree.root, ?_⟩, c0 := (World.cell?_of_block hT).trans h.c0, c1 := (World.cell?_of_block hT).trans h.c1, r0 := (World.cell?_of_block hR).trans h.r0, r1 := (World.cell?_of_block hR).trans h.r1,
           fz := (World.frozen?_of_block hT).trans h.fz, fr0 := (World.frozen?_of_block hR).trans h.fr0, fr1 := (World.frozen?_of_block hR).trans h.fr1, zt := Nat.lt_of_lt_of_le h.zt hg.size, zr := Nat.lt_of_lt_of_le h.zr hg.size,
           ne1 := h.ne1, ne2 := h.ne2, ne3 := h.ne3, low1 := h.low1, low2 := h.low2, low3 := h.low3, below := ?_ }
  · rw [hu] at hm'
    have e1 : (t.add n m).ups.length = t.ups.length + 1 := by simp [TS.add]
    rw [e1]
    have e2 : (fun i => ((t.add n m).up i).map (Value.int .i64)) = setX (fun i => (t.up i).map (Value.int .i64)) n (.int .i64 m) := by
      funext i
      show (upL (t.ups ++ [(n, m)]) i).map _ = _
      rw [upL_snoc]
      unfold setX
      by_cases e : i = n
      · subst e
        rw [show upL t.ups i = none from hu]; simp
      · rw [if_neg e, if_neg e]
        show Option.map _ _ = Option.map _ (upL t.ups i)
        cases upL t.ups i <;> simp
    rw [e2]
    simpa using hm'
  · intro p hp
    have hp' : p ∈ t.ups ++ [(n, m)] := hp
    rcases List.mem_append.1 hp' with hp' | hp'
    · exact h.tree.ok p hp'
    · simp at hp'; subst hp'; exact ⟨hn, hm⟩
  · show (t.ups ++ [(n, m)]).length ≤ _
    simp; omega
  · exact h.below.grown hg h.below.size (fun k e => by cases e; exact h.low2)
/-- The root is found. -/
theorem TreeW.setRoot (h : TreeW w rb mb tb wr t) {n : Int} (hn : okInt n) : TreeW w rb mb tb (wr.setCell ⟨tb, 0, none⟩ (.int .i64 n)) ⟨n, t.ups⟩ where
  tree := ⟨h.tree.map.block (Below.heap_setCell _ _ _ _ (Ne.symm h.ne1)), h.tree.ok, hn, h.tree.small⟩
  c0 := World.cell?_setCell_same _ _ _ h.c0
  c1 := by rw [cell_set_off _ _ _ _ _ (by decide)]; exact h.c1
  r0 := by rw [cell_set_block _ _ _ _ _ _ h.ne3]; exact h.r0
  r1 := by rw [cell_set_block _ _ _ _ _ _ h.ne3]; exact h.r1
  fz := by rw [World.frozen?_setCell]; exact h.fz
  fr0 := by rw [World.frozen?_setCell]; exact h.fr0
  fr1 := by rw [World.frozen?_setCell]; exact h.fr1
  zt := by rw [size_set]; exact h.zt
  zr := by rw [size_set]; exact h.zr
  ne1 := h.ne1
  ne2 := h.ne2
  ne3 := h.ne3
  low1 := h.low1
  low2 := h.low2
  low3 := h.low3
  below := bel_set h.below (by exact h.low3) _
end

theorem tfault_any (w : World) (c : Int) : Calls Try.prog 23 #[.int .i64 c] w fun e w' => ∃ v, e = .returned v ∧ IsErr w.heap.size w' v c ∧ Below w.heap.size w w' := by
  go_enter Try.func23, Try.ntmps23
  go_wp2
  go_ret
  refine ⟨_, rfl, ⟨w.heap.size, rfl, Nat.le_refl _, by simp, by simp [go_sem]⟩, bel_alloc (Below.refl _ _) _⟩
theorem IsErr.set2 {B B0 rb : Nat} {w : World} {v : Value} {c : Int} (h : IsErr B w v c) (hp : rb < B) (hb : B0 ≤ B) (x y : Value) : IsErr B0 ((w.setCell ⟨rb, 0, none⟩ x).setCell ⟨rb, 1, none⟩ y) v c := by
  obtain ⟨b, rfl, h1, h2, h3⟩ := h
  refine ⟨b, rfl, by omega, by rw [size_set, size_set]; exact h2, ?_⟩
  rw [cell_set_block _ _ _ _ _ _ (by omega), cell_set_block _ _ _ _ _ _ (by omega)]
  exact h3
/-- An error of a code: the code itself, or a fault of it. -/
def ErrV (B : Nat) (w : World) (v : Value) (c : Int) : Prop := v = .iface 44 (.int .i64 c) ∨ IsErr B w v c
/-- What a walker answers. -/
def NxPost (wr : World) (nx : Int → Option Int) (n : Int) (e : Ending) (w' : World) : Prop :=
  (match nx n with
  | some m => e = .returned (.tuple #[.int .i64 m, .nilIface]) ∧ okInt m
  | none => ∃ v, e = .returned (.tuple #[.int .i64 (-1), v]) ∧ ErrV wr.heap.size w' v 6) ∧ Below wr.heap.size wr w'
/-- What Of answers. -/
def OfPost (w : World) (nx : Int → Option Int) (ms : List Int) (e : Ending) (w' : World) : Prop :=
  match treeR nx ms with
  | .inl t => ∃ mb, e = .returned (.tuple #[.agg #[.int .i64 t.root, .map (some mb)], .nilIface]) ∧ TreeAt w' mb t ∧ w.heap.size ≤ mb ∧ Below w.heap.size w w'
  | .inr c => ∃ v, e = .returned (.tuple #[.agg #[.int .i64 0, .map none], v]) ∧ ErrV w.heap.size w' v c ∧ Below w.heap.size w w'
/-- Who is next by a list. -/
def nxL (l : List Int) (n : Int) : Option Int := if n < 0 ∨ (l.length : Int) ≤ n ∨ nth l n.toNat = -1 then none else some (nth l n.toNat)
theorem lnext_any (wr : World) (v : Value) (l : List Int) (hl : SlAt 0 (fun i => .int .i64 (nth l i)) l.length wr v) (hok : ∀ x ∈ l, okInt x) (n x : Int) :
    Calls Try.prog 105 #[v, .int .i64 n, .int .u64 x] wr (NxPost wr (nxL l) n) := by
  obtain ⟨a, c, rfl, _, hc2⟩ := hl.slice
  unfold NxPost nxL
  by_cases h0 : n < 0
  · rw [if_pos (Or.inl h0)]
    clear hl
    go_enter Try.func105, Try.ntmps105
    go_wp2_with fail
    go_ret2
    exact ⟨⟨_, rfl, Or.inl rfl⟩, Below.refl _ _⟩
  · by_cases h1 : (l.length : Int) ≤ n
    · rw [if_pos (Or.inr (Or.inl h1))]
      clear hl
      go_enter Try.func105, Try.ntmps105
      go_wp2_with fail
      go_ret2
      exact ⟨⟨_, rfl, Or.inl rfl⟩, Below.refl _ _⟩
    · obtain ⟨k, rfl⟩ : ∃ k : Nat, n = k := ⟨n.toNat, by omega⟩
      have hk : k < l.length := by omega
      obtain ⟨b, off, rfl, _, hbz, hck⟩ := hl.at k hk wr (Below.refl _ _)
      have hm := hok _ (nth_mem.2 ⟨k, hk, rfl⟩)
      rw [show ((k : Nat) : Int).toNat = k by simp]
      obtain ⟨y, hy⟩ : ∃ y, y = nth l k := ⟨_, rfl⟩
      rw [← hy] at hck hm ⊢
      clear hl hy
      by_cases h2 : y = -1
      · rw [if_pos (Or.inr (Or.inr h2))]
        have h2b : (y == -1) = true := by simpa using h2
        clear h2
        go_enter Try.func105, Try.ntmps105
        go_wp2_with fail
        go_ret2
        exact ⟨⟨_, rfl, Or.inl rfl⟩, Below.refl _ _⟩
      · rw [if_neg (by omega)]
        have h2b : (y == -1) = false := by simpa using h2
        clear h2
        go_enter Try.func105, Try.ntmps105
        go_wp2_with fail
        go_ret2
        exact ⟨by first | exact ⟨rfl, hm⟩ | rfl, Below.refl _ _⟩
theorem method_lnext (k : Nat) (a : Option Addr) (n c : Nat) (w : World) : (method (k + 1) 30 (.slice a n c) "Next").run Try.prog w = .ok (105, .slice a n c) w := by kernel_rfl
theorem ahead_lnext (k : Nat) (a : Option Addr) (n c : Nat) (w : World) : (nilAhead (k + 1) 30 (.slice a n c) "Next").run Try.prog w = .ok (some false) w := by kernel_rfl
set_option maxRecDepth 100000 in
set_option maxHeartbeats 16000000 in
theorem of_list (w : World) (lv mv : Value) (l ms : List Int) (nm : ByteArray) (hl : SlAt 0 (fun i => .int .i64 (nth l i)) l.length w lv) (hok : ∀ x ∈ l, okInt x) (hm : SlAt 0 (fun i => .int .i64 (nth ms i)) ms.length w mv) (hmo : ∀ x ∈ ms, okInt x) (hm40 : ms.length ≤ 40) (hnm : nm.size ≤ 1000000) :
    Calls Try.prog 7 #[.iface 30 lv, .string nm, mv] w (OfPost w (nxL l) ms) := by
  obtain ⟨la, lc, rfl, _⟩ := hl.slice
  obtain ⟨ma, mc, rfl, _⟩ := hm.slice
  obtain ⟨nx, hnx⟩ : ∃ z, z = nxL l := ⟨_, rfl⟩
  have CN := Lib.hid fun (wr : World) (hb : Below w.heap.size w wr) (n : Int) (hn : okInt n) => hnx ▸ lnext_any wr _ l (hl.below hb) hok n (keyH nm)
  rw [← hnx]
  have SM := Lib.hid hm
  have HMO := Lib.hid hmo
  have hmm := method_lnext
  have hma := ahead_lnext
  clear hl hok hm hmo hnx
  have hmk : ∀ (w : World), (Instr.makeMap 23 none).run Try.prog w = .ok (.map (some w.heap.size)) (w.alloc (.map #[] 0)) := fun w => run_makeMap 23 w
  have HPL : Hid (∀ t mb w', treeR nx ms = .inl t → TreeAt w' mb t → w.heap.size ≤ mb → Below w.heap.size w w' → OfPost w nx ms (.returned (.tuple #[.agg #[.int .i64 t.root, .map (some mb)], .nilIface])) w') := show ∀ t mb w', _ from fun t mb w' h0 h1 h2 h3 => by
    unfold OfPost; rw [h0]; exact ⟨mb, rfl, h1, h2, h3⟩
  have HPR : Hid (∀ c v w', treeR nx ms = .inr c → ErrV w.heap.size w' v c → Below w.heap.size w w' → OfPost w nx ms (.returned (.tuple #[.agg #[.int .i64 0, .map none], v])) w') := show ∀ c v w', _ from fun c v w' h0 h1 h2 => by
    unfold OfPost; rw [h0]; exact ⟨v, rfl, h1, h2⟩
  go_enter Try.func7, Try.ntmps7
  go_wp2_with fail
  obtain ⟨w1, hw1⟩ : ∃ z, z = ((w.alloc (.cells #[.int .i64 0, .map none] 25)).alloc (.map #[] 0)).alloc (.cells #[.int .i64 (-1), .map (some (w.heap.size + 1))] 25) := ⟨_, rfl⟩
  have T1 : Hid (TreeW w w.heap.size (w.heap.size + 1) (w.heap.size + 1 + 1) w1 t0) := by
    show TreeW _ _ _ _ _ _
    rw [hw1]
    exact treeW_new w
  rw [← hw1]
  clear hw1
  refine (key_any nm _ hnm).mono ?_
  rintro e w2 ⟨rfl, hb2⟩
  have T2 := Lib.hid (T1.out.later hb2)
  clear hb2 T1
  go_wp2_with fail
  go_loopw [22] (fun i wr => ∃ (k : Nat) (t : TS), k ≤ ms.length ∧ i = .int .i64 k ∧ Hid (grows nx (ms.take k) = .inl t ∧ t.ups.length ≤ 66 * k) ∧ Hid (TreeW w w.heap.size (w.heap.size + 1) (w.heap.size + 1 + 1) wr t)) (fun i _ => ms.length - (intOf i).toNat)
  case atStart => exact ⟨0, t0, Nat.zero_le _, rfl, ⟨rfl, by simp [t0]⟩, T2⟩
  case round =>
    obtain ⟨k, t, hk, rfl, hgr, hT⟩ := hrel
    by_cases hlt : k < ms.length
    · obtain ⟨b, off, rfl, _, hbz, hck⟩ := SM.out.at k hlt wr hT.out.below
      have okn := HMO.out _ (nth_mem.2 ⟨k, hlt, rfl⟩)
      have HGR : Hid (grows nx (ms.take (k + 1)) = climb nx 66 t (nth ms k)) := show _ = _ by
        rw [List.take_succ_eq_append_getElem hlt, grows_snoc, hgr.out.1, ← nth_eq hlt]; rfl
      obtain ⟨n0, hn0⟩ : ∃ z, z = nth ms k := ⟨_, rfl⟩
      rw [← hn0] at hck okn HGR
      have hgl := hgr.out.2
      clear hn0
      go_wp2_with fail
      obtain ⟨wo, hwo⟩ : ∃ wo : World, wo = wr := ⟨_, rfl⟩
      rw [← hwo] at hT ⊢
      clear hwo hck hbz
      go_loopw [11, 26] (fun nv j wr => ∃ (q : Nat) (t' : TS) (y : Int), q ≤ 66 ∧ j = .int .i64 q ∧ nv = .int .i64 y ∧ Hid (climb nx 66 t n0 = climb nx (66 - q) t' y ∧ t'.ups.length ≤ 66 * k + q ∧ okInt y) ∧ Hid (TreeW w w.heap.size (w.heap.size + 1) (w.heap.size + 1 + 1) wr t')) (fun _ j _ => 66 - (intOf j).toNat)
      case atStart => exact ⟨0, t, n0, by omega, rfl, rfl, ⟨rfl, by omega, okn⟩, hT⟩
      case round =>
        obtain ⟨q, t', y, hq, rfl, rfl, hcl, hT⟩ := hrel
        by_cases hq66 : q < 66
        · have hqI : ((q : Nat) : Int) < 66 := by omega
          have hcc : climb nx (66 - q) t' y = if (t'.up y).isSome ∨ (t'.root ≠ -1 ∧ y = t'.root) then .inl t' else match nx y with
              | none => .inr 6
              | some m => if m = y then (if t'.root ≠ -1 then .inr 5 else .inl ⟨y, t'.ups⟩) else climb nx (66 - (q + 1)) (t'.add y m) m := by
            rw [show 66 - q = 66 - (q + 1) + 1 by omega]; rfl
          have hlk := hT.out.tree.look y hcl.out.2.2
          have x0 := hT.out.c0
          have x1 := hT.out.c1
          have xz := hT.out.zt
          cases hup : t'.up y with
          | some v =>
            have HC : Hid (climb nx (66 - q) t' y = .inl t') := show _ = _ by rw [hcc, if_pos (Or.inl (by rw [hup]; rfl))]
            rw [hup] at hlk
            dsimp only [Option.getD, Option.isSome] at hlk
            clear hcc hup
            go_wp2_with fail
            go_roundw
            case rel => go_light; exact ⟨k + 1, _, by omega, by go_num, ⟨HGR.out.trans (hcl.out.1.trans HC.out), by have := hcl.out.2.1; first | omega | (simp only [TS.add]; omega)⟩, hT⟩
            case measure => go_light; simp [intOf]; omega
          | none =>
            rw [hup] at hlk
            dsimp only [Option.getD, Option.isSome] at hlk
            by_cases hr0 : t'.root = -1
            · have hrb0 : (t'.root != -1) = false := by simpa using hr0
              rw [if_neg (by rw [hup]; simp [hr0])] at hcc
              clear hr0
              have CNy := CN.out wr hT.out.below y hcl.out.2.2
              obtain ⟨u, hu⟩ : ∃ u, u = nx y := ⟨_, rfl⟩
              rw [← hu] at hcc
              unfold NxPost at CNy
              rw [← hu] at CNy
              have CNY := Lib.hid CNy
              clear hu CNy
              cases u with
              | none =>
                have HC : Hid (climb nx (66 - q) t' y = .inr 6) := hcc
                obtain ⟨ec, hec⟩ : ∃ z : Int, z = 6 := ⟨_, rfl⟩
                rw [← hec] at HC
                have HEC := Lib.hid hec
                clear hcc hec
                go_wp2_with fail
                refine CNY.out.mono ?_
                rintro e w5 ⟨⟨v, rfl, hE⟩, hb5⟩
                have hzr := hT.out.zr
                have hlow := hT.out.below.size
                have hT5 := Lib.hid (hT.out.later hb5)
                clear CNY
                rcases hE with rfl | hE
                · have HTR : Hid (treeR nx ms = .inr ec) := show treeR nx ms = .inr ec by
                    have e := HGR.out.trans (hcl.out.1.trans HC.out)
                    have e2 : grows nx ms = .inr ec := by
                      unfold grows at e ⊢
                      rw [← List.take_append_drop (k + 1) ms, List.foldl_append, e]
                      exact grow_inr _ _ _
                    unfold treeR
                    rw [e2]
                  have BE := Lib.hid hT5.out.below
                  have rr0 := hT5.out.r0
                  have rr1 := hT5.out.r1
                  have rf0 := hT5.out.fr0
                  have rf1 := hT5.out.fr1
                  have rz := hT5.out.zr
                  have rl := hT5.out.low1
                  go_wp2_with fail
                  refine bodyPost_ret (v := .tuple #[.agg #[.int .i64 0, .map none], .iface 44 (.int .i64 6)]) ?_ rfl (HPR.out _ _ _ HTR.out ?_ ?_)
                  · simp [results, Try.results7, go_sem, rr0, rr1]
                  · exact Or.inl (by rw [HEC.out])
                  · exact bel_set (bel_set BE.out (by exact rl) _) (by exact rl) _
                · have hEE := Lib.hid (hE.set2 hzr hlow)
                  obtain ⟨b, rfl, _⟩ := hE
                  have HTR : Hid (treeR nx ms = .inr ec) := show treeR nx ms = .inr ec by
                    have e := HGR.out.trans (hcl.out.1.trans HC.out)
                    have e2 : grows nx ms = .inr ec := by
                      unfold grows at e ⊢
                      rw [← List.take_append_drop (k + 1) ms, List.foldl_append, e]
                      exact grow_inr _ _ _
                    unfold treeR
                    rw [e2]
                  have BE := Lib.hid hT5.out.below
                  have rr0 := hT5.out.r0
                  have rr1 := hT5.out.r1
                  have rf0 := hT5.out.fr0
                  have rf1 := hT5.out.fr1
                  have rz := hT5.out.zr
                  have rl := hT5.out.low1
                  go_wp2_with fail
                  refine bodyPost_ret (v := .tuple #[.agg #[.int .i64 0, .map none], .iface 91 (.pointer (some ⟨b, 0, none⟩))]) ?_ rfl (HPR.out _ _ _ HTR.out ?_ ?_)
                  · simp [results, Try.results7, go_sem, rr0, rr1]
                  · exact Or.inr (by rw [HEC.out]; exact hEE.out _ _)
                  · exact bel_set (bel_set BE.out (by exact rl) _) (by exact rl) _
              | some m =>
                have hcc' : climb nx (66 - q) t' y = if m = y then (if t'.root ≠ -1 then .inr 5 else .inl ⟨y, t'.ups⟩) else climb nx (66 - (q + 1)) (t'.add y m) m := hcc
                have HCC := Lib.hid hcc'
                clear hcc hcc'
                go_wp2_with fail
                refine CNY.out.mono ?_
                rintro e w5 ⟨⟨rfl, okm⟩, hb5⟩
                have hT5 := Lib.hid (hT.out.later hb5)
                have x0 := hT5.out.c0
                have x1 := hT5.out.c1
                have xf := hT5.out.fz
                have xz := hT5.out.zt
                clear CNY hb5
                by_cases hmy : m = y
                · have hmb : (m == y) = true := by simpa using hmy
                  have HC : Hid (climb nx (66 - q) t' y = .inl ⟨y, t'.ups⟩) := show _ = _ by rw [HCC.out, if_pos hmy, if_neg (by simpa using hrb0)]
                  have T6 := Lib.hid (hT5.out.setRoot hcl.out.2.2)
                  clear hmy
                  go_wp2_with fail
                  go_roundw
                  case rel => go_light; exact ⟨k + 1, _, by omega, by go_num, ⟨HGR.out.trans (hcl.out.1.trans HC.out), by have := hcl.out.2.1; first | omega | (simp only [TS.add]; omega)⟩, T6⟩
                  case measure => go_light; simp [intOf]; omega
                · have hmb : (m == y) = false := by simpa using hmy
                  have HC : Hid (climb nx (66 - q) t' y = climb nx (66 - (q + 1)) (t'.add y m) m) := show _ = _ by rw [HCC.out, if_neg hmy]
                  obtain ⟨w6, hrun, hT6⟩ := hT5.out.put hcl.out.2.2 okm hup (by have := hcl.out.2.1; omega)
                  have T6 := Lib.hid hT6
                  clear hmy hT6
                  go_wp2_with fail
                  go_roundw
                  case rel => go_light; exact ⟨q + 1, _, m, by omega, by go_num, rfl, ⟨hcl.out.1.trans HC.out, by have := hcl.out.2.1; simp only [TS.add, List.length_append, List.length_cons, List.length_nil]; omega, okm⟩, T6⟩
                  case measure => go_light; simp [intOf]; omega
            · have hrb0 : (t'.root != -1) = true := by simpa using hr0
              by_cases hyr : y = t'.root
              · have hyb : (y == t'.root) = true := by simpa using hyr
                have HC : Hid (climb nx (66 - q) t' y = .inl t') := show _ = _ by rw [hcc, if_pos (Or.inr ⟨hr0, hyr⟩)]
                clear hcc hyr hr0
                go_wp2_with fail
                go_roundw
                case rel => go_light; exact ⟨k + 1, _, by omega, by go_num, ⟨HGR.out.trans (hcl.out.1.trans HC.out), by have := hcl.out.2.1; first | omega | (simp only [TS.add]; omega)⟩, hT⟩
                case measure => go_light; simp [intOf]; omega
              · have hyb : (y == t'.root) = false := by simpa using hyr
                rw [if_neg (by rw [hup]; simp [hyr])] at hcc
                clear hyr hr0
                have CNy := CN.out wr hT.out.below y hcl.out.2.2
                obtain ⟨u, hu⟩ : ∃ u, u = nx y := ⟨_, rfl⟩
                rw [← hu] at hcc
                unfold NxPost at CNy
                rw [← hu] at CNy
                have CNY := Lib.hid CNy
                clear hu CNy
                cases u with
                | none =>
                  have HC : Hid (climb nx (66 - q) t' y = .inr 6) := hcc
                  obtain ⟨ec, hec⟩ : ∃ z : Int, z = 6 := ⟨_, rfl⟩
                  rw [← hec] at HC
                  have HEC := Lib.hid hec
                  clear hcc hec
                  go_wp2_with fail
                  refine CNY.out.mono ?_
                  rintro e w5 ⟨⟨v, rfl, hE⟩, hb5⟩
                  have hzr := hT.out.zr
                  have hlow := hT.out.below.size
                  have hT5 := Lib.hid (hT.out.later hb5)
                  clear CNY
                  rcases hE with rfl | hE
                  · have HTR : Hid (treeR nx ms = .inr ec) := show treeR nx ms = .inr ec by
                      have e := HGR.out.trans (hcl.out.1.trans HC.out)
                      have e2 : grows nx ms = .inr ec := by
                        unfold grows at e ⊢
                        rw [← List.take_append_drop (k + 1) ms, List.foldl_append, e]
                        exact grow_inr _ _ _
                      unfold treeR
                      rw [e2]
                    have BE := Lib.hid hT5.out.below
                    have rr0 := hT5.out.r0
                    have rr1 := hT5.out.r1
                    have rf0 := hT5.out.fr0
                    have rf1 := hT5.out.fr1
                    have rz := hT5.out.zr
                    have rl := hT5.out.low1
                    go_wp2_with fail
                    refine bodyPost_ret (v := .tuple #[.agg #[.int .i64 0, .map none], .iface 44 (.int .i64 6)]) ?_ rfl (HPR.out _ _ _ HTR.out ?_ ?_)
                    · simp [results, Try.results7, go_sem, rr0, rr1]
                    · exact Or.inl (by rw [HEC.out])
                    · exact bel_set (bel_set BE.out (by exact rl) _) (by exact rl) _
                  · have hEE := Lib.hid (hE.set2 hzr hlow)
                    obtain ⟨b, rfl, _⟩ := hE
                    have HTR : Hid (treeR nx ms = .inr ec) := show treeR nx ms = .inr ec by
                      have e := HGR.out.trans (hcl.out.1.trans HC.out)
                      have e2 : grows nx ms = .inr ec := by
                        unfold grows at e ⊢
                        rw [← List.take_append_drop (k + 1) ms, List.foldl_append, e]
                        exact grow_inr _ _ _
                      unfold treeR
                      rw [e2]
                    have BE := Lib.hid hT5.out.below
                    have rr0 := hT5.out.r0
                    have rr1 := hT5.out.r1
                    have rf0 := hT5.out.fr0
                    have rf1 := hT5.out.fr1
                    have rz := hT5.out.zr
                    have rl := hT5.out.low1
                    go_wp2_with fail
                    refine bodyPost_ret (v := .tuple #[.agg #[.int .i64 0, .map none], .iface 91 (.pointer (some ⟨b, 0, none⟩))]) ?_ rfl (HPR.out _ _ _ HTR.out ?_ ?_)
                    · simp [results, Try.results7, go_sem, rr0, rr1]
                    · exact Or.inr (by rw [HEC.out]; exact hEE.out _ _)
                    · exact bel_set (bel_set BE.out (by exact rl) _) (by exact rl) _
                | some m =>
                  have hcc' : climb nx (66 - q) t' y = if m = y then (if t'.root ≠ -1 then .inr 5 else .inl ⟨y, t'.ups⟩) else climb nx (66 - (q + 1)) (t'.add y m) m := hcc
                  have HCC := Lib.hid hcc'
                  clear hcc hcc'
                  go_wp2_with fail
                  refine CNY.out.mono ?_
                  rintro e w5 ⟨⟨rfl, okm⟩, hb5⟩
                  have hT5 := Lib.hid (hT.out.later hb5)
                  have x0 := hT5.out.c0
                  have x1 := hT5.out.c1
                  have xf := hT5.out.fz
                  have xz := hT5.out.zt
                  clear CNY hb5
                  by_cases hmy : m = y
                  · have hmb : (m == y) = true := by simpa using hmy
                    obtain ⟨ec, hec⟩ : ∃ z : Int, z = 5 := ⟨_, rfl⟩
                    have HC : Hid (climb nx (66 - q) t' y = .inr ec) := show _ = _ by rw [HCC.out, if_pos hmy, if_pos (by simpa using hrb0), hec]
                    have HEC := Lib.hid hec
                    clear hmy hec
                    go_wp2_with fail
                    refine (tfault_any _ _).mono ?_
                    rintro e w6 ⟨v, rfl, hE, hb6⟩
                    have hEE := Lib.hid (hE.set2 hT5.out.zr hT5.out.below.size)
                    have hT5 := Lib.hid (hT5.out.later hb6)
                    obtain ⟨b, rfl, _⟩ := hE
                    clear x0 x1 xf xz hb6
                    have HTR : Hid (treeR nx ms = .inr ec) := show treeR nx ms = .inr ec by
                      have e := HGR.out.trans (hcl.out.1.trans HC.out)
                      have e2 : grows nx ms = .inr ec := by
                        unfold grows at e ⊢
                        rw [← List.take_append_drop (k + 1) ms, List.foldl_append, e]
                        exact grow_inr _ _ _
                      unfold treeR
                      rw [e2]
                    have BE := Lib.hid hT5.out.below
                    have rr0 := hT5.out.r0
                    have rr1 := hT5.out.r1
                    have rf0 := hT5.out.fr0
                    have rf1 := hT5.out.fr1
                    have rz := hT5.out.zr
                    have rl := hT5.out.low1
                    go_wp2_with fail
                    refine bodyPost_ret (v := .tuple #[.agg #[.int .i64 0, .map none], .iface 91 (.pointer (some ⟨b, 0, none⟩))]) ?_ rfl (HPR.out _ _ _ HTR.out ?_ ?_)
                    · simp [results, Try.results7, go_sem, rr0, rr1]
                    · exact Or.inr (by rw [HEC.out]; exact hEE.out _ _)
                    · exact bel_set (bel_set BE.out (by exact rl) _) (by exact rl) _
                  · have hmb : (m == y) = false := by simpa using hmy
                    have HC : Hid (climb nx (66 - q) t' y = climb nx (66 - (q + 1)) (t'.add y m) m) := show _ = _ by rw [HCC.out, if_neg hmy]
                    obtain ⟨w6, hrun, hT6⟩ := hT5.out.put hcl.out.2.2 okm hup (by have := hcl.out.2.1; omega)
                    have T6 := Lib.hid hT6
                    clear hmy hT6
                    go_wp2_with fail
                    go_roundw
                    case rel => go_light; exact ⟨q + 1, _, m, by omega, by go_num, rfl, ⟨hcl.out.1.trans HC.out, by have := hcl.out.2.1; simp only [TS.add, List.length_append, List.length_cons, List.length_nil]; omega, okm⟩, T6⟩
                    case measure => go_light; simp [intOf]; omega
        · obtain rfl : q = 66 := by omega
          have hqI : ¬ ((66 : Nat) : Int) < 66 := by omega
          have HC : Hid (climb nx (66 - 66) t' y = .inl t') := show _ = _ from rfl
          go_wp2_with fail
          go_roundw
          case rel => go_light; exact ⟨k + 1, _, by omega, by go_num, ⟨HGR.out.trans (hcl.out.1.trans HC.out), by have := hcl.out.2.1; first | omega | (simp only [TS.add]; omega)⟩, hT⟩
          case measure => go_light; simp [intOf]; omega
    · obtain rfl : k = ms.length := by omega
      have hgr1 := hgr.out.1
      rw [List.take_length] at hgr1
      have x0 := hT.out.c0
      have x1 := hT.out.c1
      have xz := hT.out.zt
      have rr0 := hT.out.r0
      have rr1 := hT.out.r1
      have rf0 := hT.out.fr0
      have rf1 := hT.out.fr1
      have rz := hT.out.zr
      have rl := hT.out.low1
      by_cases hm0 : ms.length = 0
      · have hm0b : ¬ (0 : Int) < ((ms.length : Nat) : Int) := by omega
        have HTR : Hid (treeR nx ms = .inl t) := show _ = _ by unfold treeR; rw [hgr1]; simp [hm0]
        clear hgr1 hm0
        have hT5 := hT
        go_wp2_with fail
        refine bodyPost_ret (v := .tuple #[.agg #[.int .i64 t.root, .map (some (w.heap.size + 1))], .nilIface]) ?_ rfl (HPL.out _ _ _ HTR.out ?_ hT5.out.low2 ?_)
        · simp [results, Try.results7, go_sem, rr0, rr1, x0, x1]
        · exact hT5.out.tree.block (by rw [Below.heap_setCell _ _ _ _ (Ne.symm hT5.out.ne2), Below.heap_setCell _ _ _ _ (Ne.symm hT5.out.ne2)])
        · exact bel_set (bel_set hT5.out.below (by exact rl) _) (by exact rl) _
      · have hm0b : (0 : Int) < ((ms.length : Nat) : Int) := by omega
        by_cases hr0 : t.root = -1
        · have hrb0 : (t.root == -1) = true := by simpa using hr0
          have HTR : Hid (treeR nx ms = .inr 13) := show _ = _ by unfold treeR; rw [hgr1]; simp [hm0, hr0]; first | done | omega
          clear hgr1 hm0 hr0
          go_wp2_with fail
          refine (tfault_any _ _).mono ?_
          rintro e w6 ⟨v, rfl, hE, hb6⟩
          have hEE := Lib.hid (hE.set2 hT.out.zr hT.out.below.size)
          have hT5 := Lib.hid (hT.out.later hb6)
          obtain ⟨b, rfl, _⟩ := hE
          have BE := Lib.hid hT5.out.below
          have rr0 := hT5.out.r0
          have rr1 := hT5.out.r1
          have rf0 := hT5.out.fr0
          have rf1 := hT5.out.fr1
          have rz := hT5.out.zr
          clear x0 x1 xz hb6
          go_wp2_with fail
          refine bodyPost_ret (v := .tuple #[.agg #[.int .i64 0, .map none], .iface 91 (.pointer (some ⟨b, 0, none⟩))]) ?_ rfl (HPR.out _ _ _ HTR.out ?_ ?_)
          · simp [results, Try.results7, go_sem, rr0, rr1]
          · exact Or.inr (hEE.out _ _)
          · exact bel_set (bel_set BE.out (by exact rl) _) (by exact rl) _
        · have hrb0 : (t.root == -1) = false := by simpa using hr0
          have HTR : Hid (treeR nx ms = .inl t) := show _ = _ by unfold treeR; rw [hgr1]; simp [hr0]
          clear hgr1 hm0 hr0
          have hT5 := hT
          go_wp2_with fail
          refine bodyPost_ret (v := .tuple #[.agg #[.int .i64 t.root, .map (some (w.heap.size + 1))], .nilIface]) ?_ rfl (HPL.out _ _ _ HTR.out ?_ hT5.out.low2 ?_)
          · simp [results, Try.results7, go_sem, rr0, rr1, x0, x1]
          · exact hT5.out.tree.block (by rw [Below.heap_setCell _ _ _ _ (Ne.symm hT5.out.ne2), Below.heap_setCell _ _ _ _ (Ne.symm hT5.out.ne2)])
          · exact bel_set (bel_set hT5.out.below (by exact rl) _) (by exact rl) _
end Go.Proofs.Ytbhaapkafgieiaa
