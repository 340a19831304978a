
/-
  A tree in memory; what Depth, Children, Nodes answer.
-/
import Derived.Test.YtbhaapkafgieiaaTreeM
import Derived.Test.YtbhaapkafgieiaaRouteD
import Derived.Test.YtbhaapkafgieiaaChordG
import Derived.Test.YtbhaapkafgieiaaShelfTree
import Derived.Lib.SlKeysI
namespace Go.Proofs.Ytbhaapkafgieiaa
open Go.RowKit Go.Maps Go.Sort Go.WideShapes Go.ChangeShapes Go.Deep
set_option linter.unusedVariables false
set_option linter.unusedSimpArgs false
attribute [local go_sem] later_cell later_frozen later_lt cell_set_off cell_set_block

/-- A tree's map in block mb. -/
structure TreeAt (w : World) (mb : Nat) (t : TS) : Prop where
  map : MapX Try.prog 3 w mb t.ups.length fun i => (t.up i).map (Value.int .i64)
  ok : ∀ p ∈ t.ups, okInt p.1 ∧ okInt p.2
  root : okInt t.root
  small : t.ups.length ≤ 100000
theorem TreeAt.block {w w' : World} {mb : Nat} {t : TS} (h : TreeAt w mb t) (hb : w'.heap[mb]? = w.heap[mb]?) : TreeAt w' mb t := ⟨h.map.block hb, h.ok, h.root, h.small⟩
theorem TreeAt.below {w w' : World} {mb : Nat} {t : TS} (h : TreeAt w mb t) (hb : Below w.heap.size w w') : TreeAt w' mb t := h.block (hb.block _ h.map.lt)
theorem upL_val {l : List (Int × Int)} {n m : Int} (h : upL l n = some m) : (n, m) ∈ l := by
  induction l with
  | nil => cases h
  | cons p l ih =>
    obtain ⟨a, b⟩ := p
    unfold upL at h
    split at h
    · rename_i e; cases h; rw [e]; simp
    · exact List.mem_cons_of_mem _ (ih h)
theorem TreeAt.up_ok {w : World} {mb : Nat} {t : TS} (h : TreeAt w mb t) {n m : Int} (e : t.up n = some m) : okInt n ∧ okInt m := h.ok _ (upL_val e)
/-- 'm, there := t.Up[n]'. -/
theorem TreeAt.look {w : World} {mb : Nat} {t : TS} (h : TreeAt w mb t) (n : Int) (hn : okInt n) : (Instr.lookup 23 (.map (some mb)) (.int .i64 n) true).run Try.prog w = .ok (.tuple #[.int .i64 ((t.up n).getD 0), .bool (t.up n).isSome]) w := by
  have := h.map.look_ok keyInt Try.underlying3 Try.underlying23 (Try.zeroValue3 w) n hn
  rw [this]
  cases t.up n <;> rfl
/-- The value of a tree. -/
abbrev treeV (mb : Nat) (t : TS) : Value := .agg #[.int .i64 t.root, .map (some mb)]

/-! ### Depth -/
set_option maxRecDepth 100000 in
set_option maxHeartbeats 4000000 in
theorem depth_at (w : World) (mb : Nat) (t : TS) (h : TreeAt w mb t) (n : Int) (hn : okInt n) :
    Calls Try.prog 10 #[.agg #[.int .i64 t.root, .map (some mb)], .int .i64 n] w fun e w' => e = .returned (.int .i64 (depthR t n)) ∧ Below w.heap.size w w' := by
  have H := Lib.hid h
  have hsm := h.small
  unfold depthR
  obtain ⟨dL, hdL⟩ : ∃ z : Nat → Nat → Int → Int, z = depthL t := ⟨_, rfl⟩
  have HS : Hid (∀ k d m, dL (k + 1) d m = if m = t.root then (d : Int) else match t.up m with | none => -1 | some q => dL k (d + 1) q) := show ∀ k d m, _ from fun k d m => by rw [hdL]; rfl
  have HZ : Hid (∀ d m, dL 0 d m = -1) := show ∀ d m, _ from fun d m => by rw [hdL]; rfl
  rw [← hdL]
  obtain ⟨c, hc⟩ : ∃ c, c = t.ups.length := ⟨_, rfl⟩
  rw [← hc] at hsm ⊢
  have HC := Lib.hid hc
  obtain ⟨r, hr⟩ : ∃ r, r = t.root := ⟨_, rfl⟩
  rw [← hr] at HS ⊢
  clear h hdL hr hc
  go_enter Try.func10, Try.ntmps10
  by_cases h0 : r = -1
  · have h0b : (r == -1) = true := by simpa using h0
    rw [if_pos h0]
    clear h0
    go_wp2_with fail
    go_ret
    exact ⟨rfl, by (repeat (first | exact Below.refl _ _ | (with_reducible assumption) | (with_reducible refine bel_later ?_ _) | (with_reducible refine bel_alloc ?_ _) | (with_reducible refine bel_drew ?_) | (with_reducible refine bel_drewN ?_ _) | (with_reducible refine bel_set ?_ (by first | (simp; done) | (simp; omega) | (dsimp only; omega)) _)))⟩
  · have h0b : (r == -1) = false := by simpa using h0
    rw [if_neg h0]
    clear h0
    have HM : Hid (∀ wr, Below w.heap.size w wr → MapX Try.prog 3 wr mb c fun i => (t.up i).map (Value.int .i64)) := show ∀ wr, _ → _ from fun wr hb => by rw [HC.out]; exact (H.out.below hb).map
    go_wp2_with (at_len; refine wpList_len_x _ rfl _ _ rfl 3 3 Try.underlying23 mb c _ rfl (HM.out _ ?hbm) ?_)
    case hbm => (repeat (first | exact Below.refl _ _ | (with_reducible assumption) | (with_reducible refine bel_later ?_ _) | (with_reducible refine bel_alloc ?_ _) | (with_reducible refine bel_drew ?_) | (with_reducible refine bel_drewN ?_ _) | (with_reducible refine bel_set ?_ (by first | (simp; done) | (simp; omega) | (dsimp only; omega)) _)))
    obtain ⟨w1, hw1⟩ : ∃ z, z = w.alloc (.cells #[.int .i64 r, .map (some mb)] 25) := ⟨_, rfl⟩
    have x0 : w1.cell? ⟨w.heap.size, 0, none⟩ = some (.int .i64 r) := by rw [hw1]; simp [go_sem]
    have x1 : w1.cell? ⟨w.heap.size, 1, none⟩ = some (.map (some mb)) := by rw [hw1]; simp [go_sem]
    have xz : w.heap.size < w1.heap.size := by rw [hw1]; simp
    have B1 : Hid (Below w.heap.size w w1) := by rw [hw1]; exact bel_alloc (Below.refl _ _) _
    rw [← hw1]
    clear hw1
    obtain ⟨X, hX⟩ : ∃ z, z = w.heap.size := ⟨_, rfl⟩
    rw [← hX] at x0 x1 xz
    go_wp2_with fail
    rw [← hX]
    clear hX
    go_loopw [1, 15] (fun nv i wr => ∃ (d : Nat) (m : Int), d ≤ c + 1 ∧ i = .int .i64 d ∧ nv = .int .i64 m ∧ Hid (okInt m ∧ dL (c + 1) 0 n = dL (c + 1 - d) d m) ∧ Hid (wr = w1)) (fun _ i _ => c + 1 - (intOf i).toNat)
    case atStart => exact ⟨0, n, by omega, rfl, rfl, ⟨hn, rfl⟩, rfl⟩
    case round =>
      obtain ⟨d, m, hd, rfl, rfl, hm, hwr⟩ := hrel
      have hwr' := hwr.out
      subst hwr'
      by_cases hlt : d < c + 1
      · have hlI : ((d : Nat) : Int) < (c : Int) + 1 := by omega
        have hs := HS.out (c + 1 - (d + 1)) d m
        rw [show c + 1 - (d + 1) + 1 = c + 1 - d by omega] at hs
        by_cases hmr : m = r
        · rw [if_pos hmr] at hs
          have hmb : (m == r) = true := by simpa using hmr
          have HE := Lib.hid (hm.out.2.trans hs)
          clear hs hmr
          go_wp2_with fail
          go_ret
          exact ⟨by rw [HE.out]; first | done | rfl, B1.out⟩
        · rw [if_neg hmr] at hs
          have hmb : (m == r) = false := by simpa using hmr
          have hlk := (H.out.below B1.out).look m hm.out.1
          have HOK := Lib.hid fun q (hq : t.up m = some q) => (H.out.up_ok hq).2
          clear hmr
          obtain ⟨u, hu⟩ : ∃ u, u = t.up m := ⟨_, rfl⟩
          rw [← hu] at hlk hs HOK
          clear hu
          cases u with
          | none =>
            have HE := Lib.hid (hm.out.2.trans hs)
            clear hs
            dsimp only [Option.getD, Option.isSome] at hlk
            go_wp2_with fail
            go_ret
            exact ⟨by rw [HE.out]; first | done | rfl, B1.out⟩
          | some q =>
            have hs' : dL (c + 1 - d) d m = dL (c + 1 - (d + 1)) (d + 1) q := hs
            have HE := Lib.hid (hm.out.2.trans hs')
            have hq := HOK.out q rfl
            clear hs hs'
            dsimp only [Option.getD, Option.isSome] at hlk
            go_wp2_with fail
            go_roundw
            case rel => go_light; exact ⟨d + 1, q, by omega, by go_num, rfl, ⟨hq, HE.out⟩, by first | exact rfl | exact Lib.hid trivial⟩
            case measure => go_light; simp [intOf]; omega
      · obtain rfl : d = c + 1 := by omega
        have hlI : ¬ (((c + 1 : Nat) : Nat) : Int) < (c : Int) + 1 := by omega
        have HE : Hid (dL (c + 1) 0 n = -1) := show _ = _ by rw [hm.out.2, Nat.sub_self, HZ.out]
        go_wp2_with fail
        go_ret
        exact ⟨by rw [HE.out]; first | done | rfl, B1.out⟩

/-! ### Children -/
def kidsS (t : TS) (n : Int) : List Int := (kidsL t n).mergeSort fun x y => decide (x ≤ y)
theorem kids_mem {t : TS} {n c : Int} : c ∈ kidsS t n ↔ t.up c = some n := by unfold kidsS; rw [List.mem_mergeSort, mem_kids]
theorem kids_up {t : TS} (I : TInv t) (n : Int) : Up (kidsS t n) := sort_up (I.nodup.sublist List.filter_sublist)
/-- What is gathered: those that tell n and have come. -/
def GotK (t : TS) (n : Int) (left : Int → Bool) (c : List Int) : Prop := c.Nodup ∧ ∀ x, x ∈ c ↔ t.up x = some n ∧ left x = false
theorem gotK_sort {t : TS} (I : TInv t) {n : Int} {c : List Int} (h : c.Nodup) (hm : ∀ x, x ∈ c ↔ t.up x = some n) : (c.mergeSort fun x y => decide (x ≤ y)) = kidsS t n :=
  up_uniq (sort_up h) (kids_up I n) fun x => by rw [List.mem_mergeSort, hm, kids_mem]
theorem gotK_len {t : TS} {n : Int} {left : Int → Bool} {c : List Int} (h : GotK t n left c) : c.length ≤ t.ups.length := by
  have := nodup_sub_len (k := keysL t.ups) h.1 fun x hx => upL_key.1 (by rw [show upL t.ups x = some n from ((h.2 x).1 hx).1]; rfl)
  unfold keysL at this
  rwa [List.length_map] at this
set_option maxHeartbeats 4000000 in
set_option maxRecDepth 100000 in
theorem kids_at (w : World) (mb : Nat) (t : TS) (h : TreeAt w mb t) (I : TInv t) (n : Int) : Calls Try.prog 9 #[.agg #[.int .i64 t.root, .map (some mb)], .int .i64 n] w (NewList w (kidsS t n)) := by
  obtain ⟨i0, hi, hz0, hz1, hz2⟩ : ∃ i0, Try.prog.info? 3 = some i0 ∧ i0.zero = some (Value.int .i64 0) ∧ i0.size = 1 ∧ i0.bytes = 8 := ⟨intI, intI_at, by kernel_rfl, by kernel_rfl, by kernel_rfl⟩
  have hsm := h.small
  have hmz := h.map.lt
  have H := Lib.hid h
  have HI := Lib.hid I
  have HGL := Lib.hid fun left c (hg : GotK t n left c) => gotK_len hg
  obtain ⟨cn, hcn⟩ : ∃ c, c = t.ups.length := ⟨_, rfl⟩
  rw [← hcn] at hsm HGL
  have HM : Hid (∀ wr, Below w.heap.size w wr → MapX Try.prog 3 wr mb cn fun i => (t.up i).map (Value.int .i64)) := show ∀ wr, _ → _ from fun wr hb => by rw [hcn]; exact (H.out.below hb).map
  obtain ⟨r, hr⟩ : ∃ r, r = t.root := ⟨_, rfl⟩
  rw [← hr]
  clear h I hcn hr
  go_enter Try.func9, Try.ntmps9
  go_wp2_with (first
    | (at_range; refine wpList_range_x _ rfl _ 23 rfl 3 3 keyInt Try.underlying23 mb cn _ rfl (HM.out _ (by (repeat (first | exact Below.refl _ _ | (with_reducible assumption) | (with_reducible refine bel_later ?_ _) | (with_reducible refine bel_alloc ?_ _) | (with_reducible refine bel_drew ?_) | (with_reducible refine bel_drewN ?_ _) | (with_reducible refine bel_set ?_ (by first | (simp; done) | (simp; omega) | (dsimp only; omega)) _))))) Try.underlying3 ?_; intro w0 cnt0 hrg0 hg0 hs0)
    | go_in)
  go_frame
  have hB0 : Hid (Below w.heap.size w w0) := (bel_alloc (Below.refl _ w) _).grown hg0 (by simp) (fun k hk => by cases hk)
  have RG0 := Lib.hid hrg0
  clear hrg0 hg0 hs0
  have hsz0 : (w.alloc (.cells #[.int .i64 r, .map (some mb)] 25)).heap.size = w.heap.size + 1 := by simp
  rw [hsz0] at RG0
  try rw [hsz0]
  clear hsz0
  go_loopw [5] (fun vo wr => ∃ (c : List Int) (left : Int → Bool) (cnt : Nat), RangX Try.prog 3 wr mb (w.heap.size + 1) cn (fun i => (t.up i).map (Value.int .i64)) left cnt ∧ wr.ownsRow (w.heap.size + 2) 3 1 vo c.length (c.map (Value.int .i64)) ∧ Below w.heap.size w wr ∧ Hid (GotK t n left c))
    (fun _ wr => wr.rangeLeft mb (w.heap.size + 1))
  case atStart =>
    refine ⟨[], _, _, RG0.out, World.ownsRow_nil _ _ _ _, hB0.out, ⟨List.nodup_nil, fun x => ⟨fun hx => by simp at hx, fun hx => ?_⟩⟩⟩
    obtain ⟨hx1, hx2⟩ := hx
    simp [hx1] at hx2
  case round =>
    obtain ⟨c, left, cnt, hrg, ho, hB, hG⟩ := hrel
    have hO := Lib.hid ho
    have hRG := Lib.hid hrg
    have hle := hrg.left_eq
    have hsz := hB.size
    have hrz := hrg.lt
    have hlen0 := HGL.out _ _ hG.out
    clear ho hrg
    go_wp2_with (first
      | (at_next; refine wpList_next_x _ rfl _ rfl 3 keyInt Try.underlying3 mb (w.heap.size + 1) _ _ _ _ rfl hRG.out ?_ ?_)
      | go_in)
    · intro _ hl0
      have hnd := hG.out.1
      have hall : ∀ x, x ∈ c ↔ t.up x = some n := fun x => by rw [hG.out.2 x, hl0 x]; simp
      have E := Lib.hid (gotK_sort HI.out hnd hall)
      have co := OwnI.of_row hO.out
      have cs := Lib.hid (sorti_any wr _ c _ co (by omega))
      clear co hall hnd
      go_wp2_with fail
      refine cs.out.mono ?_
      rintro e w5 ⟨rfl, o5, hB5⟩
      have O5 := Lib.hid o5
      clear o5
      go_wp2_with fail
      go_ret
      refine ⟨_, rfl, ?_, hB.trans (hB5.mono (by omega))⟩
      rw [← E.out]
      exact O5.out.slAt.base (by omega)
    · intro i b w1 cnt1 hoi hli m hm hbm hrg1 hlt hg1 hs1 hen
      subst hbm
      have hB1 : Below w.heap.size w w1 := hB.grown hg1 hB.size (fun k hk => by cases hk; omega)
      have O1 := Lib.hid (hO.out.kept hg1 (by
        rcases ho : Value.ownBlock u5 with _ | k
        · exact Or.inl rfl
        · have := (hO.out.lt k ho).1
          exact Or.inr (fun e => by cases e; omega)))
      have R1 := Lib.hid hrg1
      have HLT := Lib.hid hlt
      have hsz1 := hB1.size
      have HM1 := Lib.hid hm
      clear hs1
      try go_frame
      by_cases hmn : m = n
      · have hmb : (m == n) = true := by simpa using hmn
        have hic : i ∉ c := fun h => by have := ((hG.out.2 i).1 h).2; rw [hli] at this; cases this
        have G2 : Hid (GotK t n (fun j => left j && !(j == i)) (c ++ [i])) := show GotK t n (fun j => left j && !(j == i)) (c ++ [i]) from ⟨by
          rw [List.nodup_append]
          exact ⟨hG.out.1, by simp, fun a ha b hb => by simp at hb; subst hb; exact fun e => hic (e ▸ ha)⟩, fun x => by
          rw [List.mem_append, hG.out.2 x]
          by_cases e : x = i
          · subst e; rw [hm, hmn]; simp
          · simp [e]⟩
        have hlen := HGL.out _ _ G2.out
        rw [List.length_append] at hlen
        simp only [List.length_cons, List.length_nil] at hlen
        clear hic hm hmn
        go_wp2_with (at_builtin; refine wpList_app rfl _ _ 22 rfl (w.heap.size + 2) 3 i0 (.int .i64 0) 8 Try.underlying22 hi hz0 hz1 hz2 rfl _ c.length _ rfl (O1.out.alloc _) 0 _ 1 _ rfl (sl_new _ .i64 [i] 3 _ 1 rfl rfl (by simp [maxLen])) (fun _ => rfl) ?qc1 ?qc2 ?qc3 ?_)
        case qc1 => simp only [maxLen]; omega
        case qc2 => omega
        case qc3 => have := R1.out.lt; simp; omega
        intro v' w3 ho3 hg3
        have hlt3 : ∀ k, Value.ownBlock u5 = some k → w.heap.size + 2 ≤ k := fun k hk => (O1.out.lt k hk).1
        have R3 := Lib.hid ((R1.out.kept (World.grownBy_alloc w1 _ none) (by simp) (by simp)).kept hg3 (fun e => by have := hlt3 mb e.symm; omega) (fun e => by have := hlt3 _ e.symm; omega))
        have hB3 : Below w.heap.size w w3 := (hB1.alloc hsz1 _).grown hg3 (by simp; omega) (fun k hk => by have := hlt3 k hk; omega)
        have HO3 := Lib.hid ho3
        clear ho3
        go_wp2_with fail
        go_roundw
        case rel =>
          refine ⟨c ++ [i], _, cnt1, R3.out, ?_, hB3, G2⟩
          have := HO3.out
          simpa [nth] using this
        case measure => rw [R3.out.left_eq, hle]; exact HLT.out
      · have hmb : (m == n) = false := by simpa using hmn
        have G2 : Hid (GotK t n (fun j => left j && !(j == i)) c) := show GotK t n (fun j => left j && !(j == i)) c from ⟨hG.out.1, fun x => by
          rw [hG.out.2 x]
          by_cases e : x = i
          · subst e; rw [hm]; simp [hmn]
          · simp [e]⟩
        clear hm hmn
        go_wp2_with fail
        go_roundw
        case rel => exact ⟨c, _, cnt1, R1.out, O1.out, hB1, G2⟩
        case measure => rw [R1.out.left_eq, hle]; exact HLT.out

/-! ### Nodes -/
def nodesS (t : TS) : List Int := (nodesL t).mergeSort fun x y => decide (x ≤ y)
theorem nodes_mem {t : TS} {n : Int} : n ∈ nodesS t ↔ (t.up n).isSome = true ∨ (t.root ≠ -1 ∧ n = t.root) := by
  unfold nodesS nodesL
  rw [List.mem_mergeSort, List.mem_append, ← upL_key]
  by_cases h : t.root = -1
  · simp [h, TS.up]
  · simp [h, TS.up]
theorem nodes_up {t : TS} (I : TInv t) : Up (nodesS t) := sort_up (nodes_nodup I)
theorem nodes_len (t : TS) : (nodesS t).length = (nodesL t).length := List.length_mergeSort _
/-- A rising list is as it was, compacted. -/
theorem compact_same {l : List Int} (h : Up l) : Lib.compact l = l := by
  refine Lib.compact_all l fun j hj => ?_
  unfold Lib.keeps
  by_cases h0 : j = 0
  · simp [h0]
  · have := List.pairwise_iff_getElem.1 h (j - 1) j (by omega) hj (by omega)
    have hj2 : j - 1 < l.length := by omega
    simp [h0, hj, hj2]
    omega
theorem compactI_nil (w : World) (c : Nat) : Calls Try.prog 33 #[.slice none 0 c] w fun e w' => e = .returned (.slice none 0 c) ∧ w' = w := by
  go_enter Try.func33, Try.ntmps33
  go_wp2
  go_ret
  exact ⟨rfl, rfl⟩
theorem compactI_any (w : World) (v : Value) (l : List Int) (B : Nat) (h : OwnI B w v l) (hl : l.length ≤ 4000000000) :
    Calls Try.prog 33 #[v] w fun e w' => ∃ v', e = .returned v' ∧ SlAt B (fun i => .int .i64 (nth (Lib.compact l) i)) (Lib.compact l).length w' v' ∧ Below B w w' := by
  rcases h with ⟨rfl, rfl⟩ | ⟨g, cap, rfl, h1, h2, h3, h4, h5⟩
  · refine (compactI_nil w 0).mono ?_
    rintro e w' ⟨rfl, rfl⟩
    exact ⟨_, rfl, ⟨none, 0, rfl, Nat.le_refl _, Nat.zero_le _, fun _ => rfl, Or.inl rfl⟩, Below.refl _ _⟩
  · have hc := AnyE.slices_Compact Try.compactI (Value.int .i64) (fun _ => rfl) (EqlAt.intD _ _ .i64) (NeqAt.intD _ _ .i64) 0 Try.zeroValue3 g 0 cap l.toArray w h5 (by simp; omega) (by simpa using h3)
    have hle : (Lib.compact l).length ≤ l.length := by
      unfold Lib.compact Lib.compactUpTo
      rw [List.length_map]
      refine Nat.le_trans (List.length_filter_le _ _) ?_
      simp
    have e0 : Lib.compactUpTo l.toArray l.toArray.size = Lib.compact l := by simp [Lib.compact]
    rw [e0] at hc
    have hc2 : Calls Try.prog 33 #[.slice (some ⟨g, 0, none⟩) l.length cap] w _ := (show Calls Try.prog (Try.compactI_ren.f 43) #[.slice (some ⟨g, 0, none⟩) l.length cap] w _ from by simpa using hc)
    refine hc2.mono ?_
    rintro e w' ⟨rfl, q, rfl⟩
    have hh := holds_putRow (Value.int .i64) (Sort.ahead w q) g 0 l.toArray (Lib.compact l ++ List.replicate (l.toArray.size - (Lib.compact l).length) 0).toArray (holds_ahead _ _ _ _ _ _ h5) (by simp; omega)
    refine ⟨_, rfl, ⟨_, cap, rfl, by omega, h4, (fun h => by cases h), Or.inr ⟨g, 0, rfl, h1, by simpa using h2, fun i hi => ?_⟩⟩, (below_ahead w q).trans (below_putRow _ g 0 _ h1)⟩
    have := (hh i (by simp; omega)).1
    rw [getD_arr] at this
    simp at this
    simp
    rw [this]
    unfold nth
    simp [hi, List.getElem?_append_left hi]
theorem keys_any (w : World) (mb : Nat) : Calls Try.prog 32 #[.map (some mb)] w fun e w' => e = .returned (.func (.func 47) #[] #[.pointer (some ⟨w.heap.size, 0, none⟩)]) ∧ w' = w.alloc (.cells #[.map (some mb)] 23) :=
  callsIn_wide.1 (AnyZI.keys_in Try.keysI Fence.wide 5 trivial rfl (some mb) w)
set_option maxHeartbeats 1000000 in
theorem collect_any (w : World) (Bm mb c : Nat) (f : Int → Option Value) (hm : w.cell? ⟨Bm, 0, none⟩ = some (.map (some mb))) (hz : Bm < w.heap.size) (h : MapX Try.prog 3 w mb c f) (hc : c ≤ 100000) :
    Calls Try.prog 31 #[.func (.func 47) #[] #[.pointer (some ⟨Bm, 0, none⟩)]] w fun e w' => ∃ (v : Value) (ss : List Int), e = .returned v ∧ ss.Nodup ∧ (∀ x, x ∈ ss ↔ (f x).isSome = true) ∧
      w'.ownsRow w.heap.size 3 1 v ss.length (ss.map (Value.int .i64)) ∧ Below w.heap.size w w' := by
  obtain ⟨D, h1, hs, _, h3, h4⟩ := h
  have hseq : SeqGives Fence.wide 3 Try.prog 47 #[.pointer (some ⟨Bm, 0, none⟩)] encZ (fun ss => ss.Perm (intKeys D)) (Maps.size D) w :=
    AnyZI.keys_gives (ρ := Try.keysI_ren) { Try.keysI with } Fence.wide _ trivial rfl (by omega) Bm mb c D w hz hm h1
  have cS := AnyZI.collect_in Try.collectI Fence.wide 5 trivial trivial rfl (by omega) 47 #[.pointer (some ⟨Bm, 0, none⟩)] trivial (enters_of Try.func47 (by kernel_rfl) rfl) _ _ (by rw [hs]; simp only [maxLen]; omega) (by rw [hs]; omega) w hseq
  refine (callsIn_wide.1 cS).mono ?_
  rintro e w' ⟨v, ss, rfl, hp, hrow, _, hb⟩
  obtain ⟨es, hD, hpw, _⟩ := h1.entries keyInt
  obtain ⟨es', hD', hko⟩ := h1.keysOf
  obtain rfl : es = es' := by rw [hD] at hD'; simpa using hD'
  have hki : ∀ p ∈ es, ∃ x, p.1 = .int .i64 x ∧ okInt x := fun p hp => by
    obtain ⟨v, hv⟩ := hko p hp
    obtain ⟨x, _, hx, hw⟩ := Maps.keyOf_i64 Try.underlying3 hv
    exact ⟨x, hx, hw⟩
  have hnd : (intKeys D).Nodup := by
    subst hD
    show (es.map fun p => Go.intOf p.1).Nodup
    refine List.pairwise_map.2 (hpw.imp_of_mem fun {p q} hp' hq' hne e => hne ?_)
    obtain ⟨a, ha, _⟩ := hki p hp'
    obtain ⟨b, hb, _⟩ := hki q hq'
    rw [ha, hb] at e ⊢
    exact congrArg _ e
  have hmem : ∀ x, x ∈ intKeys D ↔ (f x).isSome = true := fun x => by
    by_cases hx : okInt x
    · rw [← h3 x hx]
      subst hD
      rw [has_eq, List.any_eq_true]
      show x ∈ es.map (fun p => Go.intOf p.1) ↔ _
      rw [List.mem_map]
      constructor
      · rintro ⟨p, hp', rfl⟩
        obtain ⟨a, ha, _⟩ := hki p hp'
        exact ⟨p, hp', by rw [ha]; simp [Lit.sameKey, Go.intOf]⟩
      · rintro ⟨p, hp', hs⟩
        obtain ⟨a, ha, _⟩ := hki p hp'
        rw [ha] at hs
        exact ⟨p, hp', by rw [ha]; simpa [Lit.sameKey, Go.intOf, eq_comm] using hs⟩
    · rw [h4 x hx]
      simp
      intro hm
      subst hD
      have hm' : x ∈ es.map (fun p => Go.intOf p.1) := hm
      rw [List.mem_map] at hm'
      obtain ⟨p, hp', e⟩ := hm'
      obtain ⟨a, ha, hok⟩ := hki p hp'
      rw [ha] at e
      exact hx (by rw [← e]; exact hok)
  exact ⟨v, ss, rfl, hp.nodup_iff.2 hnd, fun x => by rw [hp.mem_iff, hmem], hrow, hb⟩
theorem nodes_sort {t : TS} (I : TInv t) {l : List Int} (h : l.Nodup) (hm : ∀ x, x ∈ l ↔ (t.up x).isSome = true ∨ (t.root ≠ -1 ∧ x = t.root)) : (l.mergeSort fun x y => decide (x ≤ y)) = nodesS t :=
  up_uniq (sort_up h) (nodes_up I) fun x => by rw [List.mem_mergeSort, hm, nodes_mem]
set_option maxHeartbeats 4000000 in
set_option maxRecDepth 100000 in
theorem nodes_at (w : World) (mb : Nat) (t : TS) (h : TreeAt w mb t) (I : TInv t) : Calls Try.prog 16 #[.agg #[.int .i64 t.root, .map (some mb)]] w (NewList w (nodesS t)) := by
  obtain ⟨i0, hi, hz0, hz1, hz2⟩ : ∃ i0, Try.prog.info? 3 = some i0 ∧ i0.zero = some (Value.int .i64 0) ∧ i0.size = 1 ∧ i0.bytes = 8 := ⟨intI, intI_at, by kernel_rfl, by kernel_rfl, by kernel_rfl⟩
  have hsm := h.small
  have hmz := h.map.lt
  have H := Lib.hid h
  have HI := Lib.hid I
  have hnl : (nodesL t).length ≤ 4000000000 := by unfold nodesL keysL; split <;> simp <;> omega
  have HNS := Lib.hid fun l h hm => nodes_sort I (l := l) h hm
  have hrn := Lib.hid I.root
  obtain ⟨r, hr⟩ : ∃ r, r = t.root := ⟨_, rfl⟩
  rw [← hr] at HNS hrn ⊢
  clear h I hr
  go_enter Try.func16, Try.ntmps16
  go_wp2_with fail
  refine (keys_any _ _).mono ?_
  rintro e w1 ⟨rfl, rfl⟩
  obtain ⟨w1, hw1⟩ : ∃ z, z = (w.alloc (.cells #[.int .i64 r, .map (some mb)] 25)).alloc (.cells #[.map (some mb)] 23) := ⟨_, rfl⟩
  have x0 : w1.cell? ⟨w.heap.size, 0, none⟩ = some (.int .i64 r) := by rw [hw1]; simp [go_sem]
  have xz : w.heap.size < w1.heap.size := by rw [hw1]; simp; omega
  have k0 : w1.cell? ⟨w.heap.size + 1, 0, none⟩ = some (.map (some mb)) := by rw [hw1]; simp [go_sem]
  have kz : w.heap.size + 1 < w1.heap.size := by rw [hw1]; simp
  have B1 : Hid (Below w.heap.size w w1) := by rw [hw1]; exact bel_alloc (bel_alloc (Below.refl _ _) _) _
  have CC1 := Lib.hid (collect_any w1 (w.heap.size + 1) mb t.ups.length _ k0 kz (H.out.below B1.out).map hsm)
  have hsz : (w.alloc (.cells #[.int .i64 r, .map (some mb)] 25)).heap.size = w.heap.size + 1 := by simp
  rw [← hw1, hsz]
  clear hw1 hsz k0 kz
  go_wp2_with fail
  refine CC1.out.mono ?_
  rintro e w2 ⟨v, ss, rfl, hnd, hmem, hrow, hb2⟩
  have hmem2 : ∀ x, x ∈ ss ↔ (t.up x).isSome = true := fun x => by rw [hmem x]; cases t.up x <;> simp
  have x0 := (hb2.cell (p := ⟨w.heap.size, 0, none⟩) xz).trans x0
  have xz := Nat.lt_of_lt_of_le xz hb2.size
  have B2 := Lib.hid (bel_below B1.out hb2)
  have O2 := Lib.hid hrow
  have hw12 := hb2.size
  have hw01 := B1.out.size
  have hsl : ss.length ≤ t.ups.length := by
    have := nodup_sub_len (k := keysL t.ups) hnd fun x hx => upL_key.1 ((hmem2 x).1 hx)
    unfold keysL at this
    rwa [List.length_map] at this
  have HND := Lib.hid hnd
  have HMM := Lib.hid hmem2
  clear hnd hmem hmem2 hrow hb2 CC1
  by_cases hr1 : r = -1
  · have hrb : (r != -1) = false := by simpa using hr1
    have E := Lib.hid (HNS.out ss HND.out fun x => by rw [HMM.out x]; simp [hr1])
    have co := OwnI.of_row O2.out
    have cs := Lib.hid (sorti_any w2 _ ss _ co (by omega))
    clear co hr1
    go_wp2_with fail
    refine cs.out.mono ?_
    rintro e w5 ⟨rfl, o5, hB5⟩
    rw [E.out] at o5
    have CC := Lib.hid (compactI_any w5 _ _ _ o5 (by rw [nodes_len]; exact hnl))
    rw [compact_same (nodes_up HI.out)] at CC
    have B5 := Lib.hid ((B2).out.trans (hB5.mono (by omega)))
    clear o5 hB5
    go_wp2_with fail
    refine CC.out.mono ?_
    rintro e w6 ⟨v6, rfl, hs6, hb6⟩
    have B6 := Lib.hid (B5.out.trans (hb6.mono (by omega)))
    have S6 := Lib.hid hs6
    clear hs6 hb6
    go_wp2_with fail
    go_ret
    exact ⟨_, rfl, S6.out.base (by omega), B6.out⟩
  · have hrb : (r != -1) = true := by simpa using hr1
    have hrs : r ∉ ss := fun hx => by have := (HMM.out r).1 hx; rw [hrn.out hr1] at this; cases this
    have E := Lib.hid (HNS.out (ss ++ [r]) (by
      rw [List.nodup_append]
      exact ⟨HND.out, by simp, fun a ha b hb => by simp at hb; subst hb; exact fun e => hrs (e ▸ ha)⟩) fun x => by rw [List.mem_append, HMM.out x]; simp [hr1])
    clear hr1 hrs
    go_wp2_with (at_builtin; refine wpList_app rfl _ _ 22 rfl w1.heap.size 3 i0 (.int .i64 0) 8 Try.underlying22 hi hz0 hz1 hz2 rfl _ ss.length _ rfl (O2.out.alloc _) 0 _ 1 _ rfl (sl_new _ .i64 [r] 3 _ 1 rfl rfl (by simp [maxLen])) (fun _ => rfl) ?qc1 ?qc2 ?qc3 ?_)
    case qc1 => simp only [maxLen]; omega
    case qc2 => omega
    case qc3 => simp; omega
    intro v' w3 ho3 hg3
    have B3 : Hid (Below w.heap.size w w3) := (bel_alloc B2.out _).grown hg3 (by simp; omega) (fun q hq => by have := (O2.out.lt q hq).1; omega)
    have O3 : Hid (w3.ownsRow w1.heap.size 3 1 v' (ss.length + 1) ((ss ++ [r]).map (Value.int .i64))) := by
      have := ho3
      show World.ownsRow _ _ _ _ _ _ _
      simpa [nth] using this
    have co := OwnI.of_row O3.out
    have cs := Lib.hid (sorti_any w3 _ (ss ++ [r]) _ co (by simp; omega))
    clear co ho3 hg3
    go_wp2_with fail
    refine cs.out.mono ?_
    rintro e w5 ⟨rfl, o5, hB5⟩
    rw [E.out] at o5
    have CC := Lib.hid (compactI_any w5 _ _ _ o5 (by rw [nodes_len]; exact hnl))
    rw [compact_same (nodes_up HI.out)] at CC
    have B5 := Lib.hid ((B3).out.trans (hB5.mono (by omega)))
    clear o5 hB5
    go_wp2_with fail
    refine CC.out.mono ?_
    rintro e w6 ⟨v6, rfl, hs6, hb6⟩
    have B6 := Lib.hid (B5.out.trans (hb6.mono (by omega)))
    have S6 := Lib.hid hs6
    clear hs6 hb6
    go_wp2_with fail
    go_ret
    exact ⟨_, rfl, S6.out.base (by omega), B6.out⟩
end Go.Proofs.Ytbhaapkafgieiaa
