


/-
  TreeCalm walked.
-/
import Derived.Test.YtbhaapkafgieiaaGreatDoorMade
import Derived.Test.YtbhaapkafgieiaaGreatDoorTreeF
import Derived.Test.YtbhaapkafgieiaaGreatDoorTreeK
namespace Go.Proofs.YtbhaapkafgieiaaGreatDoor
open Go.RowKit Go.Maps Go.Sort Go.WideShapes Go.ChangeShapes Go.Deep
set_option linter.unusedVariables false
set_option linter.unusedSimpArgs false
attribute [local go_sem] later_cell later_frozen later_lt cell_set_off cell_set_block

theorem both_ok {S Q : Nat → Prop} {W w : World} {rb mb : Nat} {f : RS} {p : Where} (h : Both S Q W w rb mb f p) : RingOk W.heap.size W w rb mb f := by
  obtain ⟨g, hg⟩ := h.ring
  exact ⟨⟨g, hg.same (Nat.le_refl _) (fun _ _ _ => rfl) (fun b _ hS => h.low b hS) fun b hb => by have := h.below.size; omega⟩, h.inv, h.below⟩
/-- What Made leaves, as the laws use it that look at the ring alone. -/
theorem made_ring (W : World) (hH : HandleAt W) (v0 v1 : Value) (ids : List Int) (acts : List ActD) (n : Nat) (hi : SlAt 0 (fun i => .int .u64 (nth ids i)) ids.length W v0) (hp : ∀ x ∈ ids, isPlace x)
    (ha : ActsAt acts W v1) (hao : ∀ k, k < acts.length → (actAt acts k).ok) (hn : n ≤ 1000) (m : Int) (hm : m = n) : Calls Tryz.prog 9 #[v0, v1, .int .i64 m] W fun e w' =>
      (e = .returned (.tuple #[.pointer none, .agg #[.slice none 0 0, .slice none 0 0, .slice none 0 0, .slice none 0 0], .bool false]) ∧ RowKit.Below W.heap.size W w') ∨
      ∃ (rb mb : Nat) (f : RS) (p : Where), e = .returned (.tuple #[.pointer (some ⟨rb, 0, none⟩), (.agg #[.slice (some ⟨(p).b1, (p).o1, none⟩) 32 (p).k1, .slice (some ⟨(p).b2, (p).o2, none⟩) 32 (p).k2, .slice (some ⟨(p).b3, (p).o3, none⟩) 32 (p).k3, .slice (some ⟨(p).b4, (p).o4, none⟩) 32 (p).k4]), .bool true]) ∧ RingOk W.heap.size W w' rb mb f := by
  subst hm
  refine (made_any W hH v0 v1 ids acts n hi hp ha hao hn).mono fun e w' h => ?_
  unfold MadePost at h
  split at h
  · obtain ⟨rb, mb, f, p, S, Q, rfl, hB⟩ := h
    exact Or.inr ⟨rb, mb, f, p, rfl, both_ok hB⟩
  · exact Or.inl h

section
variable {f : RS} {F : Int → List Int} {X : Int} (G : Good f) (hX : isPlace X)
include G hX
/-- A tree of members that live is right: no fault is found. -/
theorem check_good (w : World) (ma : Nat) (t : TS) (h : TreeAt w ma t) {ms : List Int} (T : IsTree f F X ms t) (I : TInv t) (hm : ∀ m ∈ ms, livesR f m = true) (aa ia : Option Addr) (n ac m ic : Nat) (nm : ByteArray) (hnm : nm.size ≤ 1000000) (hXn : X = keyH nm)
    (CO : ∀ wr, Below w.heap.size w wr → Calls Tryz.prog 35 #[.agg #[.slice aa n ac, .slice ia m ic], .int .u64 (keyH nm)] wr fun e w' => e = .returned (.int .i64 (own f X)) ∧ Below wr.heap.size wr w') :
    Calls Tryz.prog 43 #[.agg #[.int .i64 t.root, .map (some ma)], .agg #[.slice aa n ac, .slice ia m ic], .string nm] w (ChkPost w none) := by
  by_cases e : ms = []
  · have hr : t.root = -1 := by rw [T.root, if_pos e]
    have hu : t.ups = [] := by
      rcases hups : t.ups with _ | ⟨p, l⟩
      · rfl
      · exfalso
        have h1 : (t.up p.1).isSome = true := by
          show (upL t.ups p.1).isSome = true
          rw [hups]
          obtain ⟨k, v⟩ := p
          simp [upL]
        obtain ⟨m, h2, _⟩ := (T.ups _).1 h1
        rw [e] at h2; cases h2
    have C := check_none w ma t h aa ia n ac m ic nm hr
    rw [hu] at C
    exact C
  · have hro : t.root = own f X := by rw [T.root, if_neg e]
    have hr : t.root ≠ -1 := by rw [hro]; exact own_ne G hX
    have hu : t.up t.root = none := by
      cases hup : t.up t.root with
      | none => rfl
      | some v =>
        exfalso
        obtain ⟨m, _, _, h3⟩ := (T.ups t.root).1 (by rw [hup]; rfl)
        exact h3 hro
    refine check_deep w ma t h aa ia n ac m ic nm hnm hr (by rw [hro]; exact CO) hu none (fun _ => rfl) ?_
    rintro ⟨x, hx, hd⟩
    obtain ⟨m, h1, h2, _⟩ := (T.ups x).1 hx
    have := (depth_way G F hX T I hm ⟨m, h1, h2⟩).2
    omega
/-- How deep the nodes lie. -/
theorem depth_good {t : TS} {ms : List Int} (T : IsTree f F X ms t) (I : TInv t) (hm : ∀ m ∈ ms, livesR f m = true) {x : Int} (h : x ∈ nodesS t) : 0 ≤ depthR t x ∧ depthR t x < (liveL f).length := by
  have hw := (node_iff G F hX T hm x).1 (nodes_mem.1 h)
  obtain ⟨h1, h2, h3⟩ := depth_way G F hX T I hm hw
  have := good_len G (way_is G F hX h1).2
  omega
theorem depth_mem {t : TS} {ms : List Int} (T : IsTree f F X ms t) (I : TInv t) (hm : ∀ m ∈ ms, livesR f m = true) {x : Int} (h : x ∈ ms) : 0 ≤ depthR t x ∧ depthR t x < (liveL f).length :=
  depth_good G hX T I hm (nodes_mem.2 ((node_iff G F hX T hm x).2 ⟨x, h, way_first G F hX (hm x h)⟩))
theorem leaf_good {t : TS} {ms : List Int} (T : IsTree f F X ms t) (hm : ∀ m ∈ ms, livesR f m = true) {x : Int} (h : x ∈ nodesS t) (hk : (kidsS t x).length = 0) : x ∈ ms :=
  leaf_in G F hX T hm ((node_iff G F hX T hm x).1 (nodes_mem.1 h)) fun c hc => by
    have := kids_mem.2 hc
    rw [List.length_eq_zero_iff.1 hk] at this; cases this
end
theorem own_shapeI {w : World} {base e n k : Nat} {v : Value} {xs : List Value} (h : w.ownsRow base e k v n xs) : ∃ a c, v = .slice a n c := by
  rcases h.2 with ⟨rfl, rfl⟩ | ⟨g', cap', cur, rfl, _⟩
  · exact ⟨_, _, rfl⟩
  · exact ⟨_, _, rfl⟩
theorem ownsRow_same {w w' : World} {e : TypeId} {v : Value} {n k base : Nat} {xs : List Value} (h : w.ownsRow base e k v n xs) (hb : ∀ q, v.ownBlock = some q → w'.heap[q]? = w.heap[q]?) : w'.ownsRow base e k v n xs := by
  refine ⟨h.1, ?_⟩
  rcases h.2 with h0 | ⟨g, cap, cur, rfl, hB, hg, hn, hm, hs, ht⟩
  · exact Or.inl h0
  · exact Or.inr ⟨g, cap, cur, rfl, hB, (hb g rfl).trans hg, hn, hm, hs, ht⟩
theorem slI_one (w : World) (v : Value) (t : TypeId) (g : Nat) (hg : g = w.heap.size) : SlAt 0 (fun _ => v) 1 (w.alloc (.cells #[v] t)) (.slice (some ⟨g, 0, none⟩) 1 1) := by
  subst hg
  refine ⟨_, 1, rfl, Nat.le_refl _, by simp [maxLen], (fun h => by cases h), Or.inr ⟨w.heap.size, 0, rfl, Nat.zero_le _, by simp, fun i hi => ?_⟩⟩
  obtain rfl : i = 0 := by omega
  simp [go_sem]
theorem among_any (w : World) (v : Value) (l : List Int) (h : SlAt 0 (fun i => .int .i64 (nth l i)) l.length w v) (hl : l.length ≤ 4000000000) (n : Int) (hn : n ∈ l) :
    Calls Tryz.prog 47 #[v, .int .i64 n] w fun e w' => e = .returned (.bool true) ∧ Below w.heap.size w w' := by
  obtain ⟨a, c, rfl, _⟩ := h.slice
  have S := Lib.hid h
  have HN := Lib.hid hn
  clear h hn
  go_enter Tryz.func47, Tryz.ntmps47
  go_wp2_with fail
  go_loopw [9] (fun i wr => ∃ k : Nat, k ≤ l.length ∧ i = .int .i64 k ∧ Hid (∀ j, j < k → nth l j ≠ n) ∧ Hid (Below w.heap.size w wr)) (fun i _ => l.length - (intOf i).toNat)
  case atStart => exact ⟨0, Nat.zero_le _, rfl, fun j hj => absurd hj (Nat.not_lt_zero _), Below.refl _ _⟩
  case round =>
    obtain ⟨k, hk, rfl, hno, hB⟩ := hrel
    by_cases hlt : k < l.length
    · obtain ⟨b, off, rfl, _, hbz, hck⟩ := S.out.at k hlt wr hB.out
      by_cases hx : nth l k = n
      · rw [hx] at hck
        clear hx
        go_wp2_with fail
        go_ret
        exact ⟨rfl, hB.out⟩
      · have hno' : Hid (∀ j, j < k + 1 → nth l j ≠ n) := fun j hj => by
          rcases Nat.lt_or_ge j k with h | h
          · exact hno.out j h
          · have : j = k := by omega
            rw [this]; exact hx
        have hxb : (nth l k == n) = false := by simpa using hx
        obtain ⟨y, hy⟩ : ∃ z, z = nth l k := ⟨_, rfl⟩
        rw [← hy] at hck hxb
        clear hx hy
        go_wp2_with fail
        go_roundw
        case rel => go_light; exact ⟨k + 1, by omega, by go_num, hno', hB⟩
        case measure => go_light; simp [intOf]; omega
    · exfalso
      obtain ⟨j, hj, e⟩ := nth_mem.1 HN.out
      exact hno.out j (by omega) e
/-- The members that live. -/
def lvM (f : RS) (ms : List Int) (k : Nat) : List Int := (ms.take k).filter (livesR f)
theorem lvM_succ (f : RS) (ms : List Int) {k : Nat} (hk : k < ms.length) : lvM f ms (k + 1) = if livesR f (nth ms k) = true then lvM f ms k ++ [nth ms k] else lvM f ms k := by
  unfold lvM
  rw [List.take_succ_eq_append_getElem hk, List.filter_append, nth_eq hk]
  by_cases h : livesR f ms[k] = true
  · rw [if_pos h]; simp [h]
  · rw [if_neg h]; simp [h]
theorem lvM_len (f : RS) (ms : List Int) (k : Nat) : (lvM f ms k).length ≤ k := by
  have h1 := List.length_filter_le (livesR f) (ms.take k)
  unfold lvM
  rw [List.length_take] at h1; omega
theorem lvM_lives {f : RS} {ms : List Int} {k : Nat} {x : Int} (h : x ∈ lvM f ms k) : livesR f x = true := (List.mem_filter.1 h).2
set_option maxRecDepth 100000 in
set_option maxHeartbeats 16000000 in
theorem treeCalm_main (W : World) (hH : HandleAt W) (v0 v1 v3 : Value) (ids : List Int) (acts : List ActD) (nm : ByteArray) (ms : List Int) (hi : SlAt 0 (fun i => .int .u64 (nth ids i)) ids.length W v0) (hp : ∀ x ∈ ids, isPlace x)
    (ha : ActsAt acts W v1) (hao : ∀ k, k < acts.length → (actAt acts k).ok) (hm : SlAt 0 (fun i => .int .i64 (nth ms i)) ms.length W v3) (hmo : ∀ x ∈ ms, okInt x) : Calls Tryz.prog 8 #[v0, v1, .string nm, v3] W (OneYes W) := by
  have CM := Lib.hid (made_ring W hH v0 v1 ids acts 30 hi hp ha hao (by omega) 30 rfl)
  obtain ⟨i0, hi0, hz0, hz1, hz2⟩ : ∃ i0, Tryz.prog.info? 3 = some i0 ∧ i0.zero = some (Value.int .i64 0) ∧ i0.size = 1 ∧ i0.bytes = 8 := ⟨intI, intI_at, by kernel_rfl, by kernel_rfl, by kernel_rfl⟩
  obtain ⟨a0, c0, rfl, hc0, hc1⟩ := hm.slice
  have SM := Lib.hid hm
  have HMO := Lib.hid hmo
  clear hi hp ha hao hH hm hmo
  go_enter Tryz.func8, Tryz.ntmps8
  go_wp2_with fail
  refine CM.out.mono ?_
  rintro e w1 (hm | ⟨rb, mb, f, p, rfl, hR⟩)
  · obtain ⟨rfl, hB1⟩ := hm
    go_wp2_with fail
    refine (awake20_any _).mono ?_
    rintro e w2 ⟨rfl, hB2⟩
    go_wp2_with fail
    go_ret
    exact ⟨rfl, bel_below (bel_below hB1 (bel_alloc (RowKit.Below.refl _ _) _)) hB2⟩
  · have R1 := Lib.hid hR
    have hlen := length_liveL f
    obtain ⟨nl, hnl⟩ : ∃ n, n = (liveL f).length := ⟨_, rfl⟩
    rw [← hnl] at hlen
    have HN := Lib.hid hnl
    have HIN := Lib.hid hR.inv
    clear hR CM hnl
    go_wp2_with fail
    obtain ⟨w2, hw2⟩ : ∃ z, z = w1.alloc (.cells #[.slice (some ⟨p.b1, p.o1, none⟩) 32 p.k1, .slice (some ⟨p.b2, p.o2, none⟩) 32 p.k2, .slice (some ⟨p.b3, p.o3, none⟩) 32 p.k3, .slice (some ⟨p.b4, p.o4, none⟩) 32 p.k4] 33) := ⟨_, rfl⟩
    have R2 : Hid (RingOk W.heap.size W w2 rb mb f) := by rw [hw2]; exact R1.out.later (bel_alloc (RowKit.Below.refl _ _) _)
    rw [← hw2]
    clear hw2 R1
    go_loopw [12] (fun i wr => ∃ j : Nat, j ≤ 4 * nl + 8 ∧ i = .int .i64 j ∧ Hid (RingOk W.heap.size W wr rb mb (rn j f))) (fun i _ => 4 * nl + 8 - (intOf i).toNat)
    case atStart => exact ⟨0, by omega, rfl, R2.out⟩
    case round =>
      obtain ⟨j, hj, rfl, hRj⟩ := hrel
      obtain ⟨g3, G3⟩ := hRj.out.ring
      have CLV := live_at G3
      rw [liveL_rn] at CLV
      have hn2 := HN.out
      obtain ⟨L, hL⟩ : ∃ L, L = liveL f := ⟨_, rfl⟩
      rw [← hL] at CLV hn2
      have CV := Lib.hid CLV
      clear G3 CLV hL
      by_cases hlj : j < 4 * nl + 8
      · have hljI : (j : Int) < 4 * (nl : Int) + 8 := by omega
        go_wp2_with fail
        refine CV.out.mono ?_
        rintro e w4 ⟨v4, rfl, hs4, hB4⟩
        obtain ⟨a4, q4, rfl, _⟩ := hs4.slice
        have R4 := Lib.hid (hRj.out.later hB4)
        rw [← hn2]
        clear hs4 hB4 hn2
        obtain ⟨g5, G5⟩ := R4.out.ring
        have CR := Lib.hid (round_at G5 R4.out.inv.heads)
        clear G5
        go_wp2_with fail
        refine (rounds_any _ (by omega) (by omega) _).mono ?_
        rintro e w5 ⟨rfl, rfl⟩
        go_wp2_with fail
        refine CR.out.mono ?_
        rintro e w5 ⟨rfl, hg5, hk5⟩
        have R5 : Hid (RingOk W.heap.size W w5 rb mb (rn (j + 1) f)) := R4.out.step (inv_round R4.out.inv) ⟨_, hg5⟩ hk5
        clear hg5 hk5
        go_wp2_with fail
        go_roundw
        case rel => go_light; exact ⟨j + 1, by omega, by go_num, R5.out⟩
        case measure => go_light; simp [intOf]; omega
      have hljI : ¬ (j : Int) < 4 * (nl : Int) + 8 := by omega
      have GD0 : Hid (Good (rn j f)) := good_rn HIN.out (by have := HN.out; omega)
      have HLF0 : Hid (nl = (liveL (rn j f)).length) := show nl = _ by rw [liveL_rn]; exact HN.out
      have HIS0 : Hid (isB (rn j f) = true) := calmLaw f HIN.out j (by have := HN.out; omega)
      obtain ⟨f0, hf0⟩ : ∃ f0, f0 = rn j f := ⟨_, rfl⟩
      rw [← hf0] at GD0 HLF0 hRj HIS0
      clear hf0
      go_wp2_with fail
      refine CV.out.mono ?_
      rintro e w4 ⟨v4, rfl, hs4, hB4⟩
      obtain ⟨a4, q4, rfl, _⟩ := hs4.slice
      have R4 := Lib.hid (hRj.out.later hB4)
      rw [← hn2]
      clear hs4 hB4 hn2 hRj CV
      go_wp2_with fail
      refine (rounds_any _ (by omega) (by omega) _).mono ?_
      rintro e w5 ⟨rfl, rfl⟩
      go_wp2_with fail
      obtain ⟨w5, hw5⟩ : ∃ z, z = w4 := ⟨_, rfl⟩
      rw [← hw5] at R4 ⊢
      clear hw5 hljI hlj HN HIN R2
      obtain ⟨g, hG⟩ := R4.out.ring
      refine (newf_any w5 rb).mono ?_
      rintro e w6 ⟨fb, fm, rfl, hf, hb6⟩
      have G6 := Lib.hid (hG.now hb6)
      have F6 := Lib.hid hf
      have B6 := Lib.hid (bel_below R4.out.below hb6)
      have hnow : ¬ Now (fun b => W.heap.size ≤ b) w5 w6 fm := fun h => by
        have h2 := hf.fmQ
        have h3 := hf.fmz
        rcases h with ⟨_, h⟩ | h <;> omega
      have CRF := Lib.hid (roundf_at G6.out F6.out GD0.out.inv.heads hnow)
      clear hf hb6 hG
      go_wp2_with fail
      refine CRF.out.mono ?_
      rintro e w7 ⟨rfl, hf7, hk7⟩
      have G7 := Lib.hid (G6.out.off hk7 hnow)
      obtain ⟨F, hF⟩ : ∃ z, z = fixes f0 (fun _ => []) (liveL f0) := ⟨_, rfl⟩
      rw [← hF] at hf7
      have F7 := Lib.hid hf7
      have B7 : Hid (RowKit.Below W.heap.size W w7) := show RowKit.Below _ _ _ from B6.out.trans (hk7.toBelow B6.out.size (fun b hb e => by
        have := F6.out.fmQ
        have := R4.out.below.size
        omega))
      clear hf7 hk7 CRF hF F6 G6 hnow R4 B6
      go_wp2_with fail
      go_loopw [14, 15] (fun vi ii wr => ∃ k : Nat, k ≤ ms.length ∧ k ≤ 12 ∧ ii = .int .i64 k ∧ Hid (wr.ownsRow w7.heap.size 3 1 vi (lvM f0 ms k).length ((lvM f0 ms k).map (Value.int .i64))) ∧ Hid (Below w7.heap.size w7 wr)) (fun _ ii _ => ms.length - (intOf ii).toNat)
      case atStart => exact ⟨0, Nat.zero_le _, Nat.zero_le _, rfl, World.ownsRow_made w7 #[] 0 (Nat.le_refl _) (by simp [maxLen]) rfl, bel_alloc (RowKit.Below.refl _ _) _⟩
      case round =>
        obtain ⟨k, hk, hk12, rfl, hO, hB⟩ := hrel
        obtain ⟨ai, ci, rfl⟩ := own_shapeI hO.out
        by_cases hlt : k < ms.length
        · by_cases hl12 : k < 12
          · obtain ⟨b, off, rfl, _, hbz, hck⟩ := SM.out.at k hlt wr (bel_below B7.out hB.out)
            have okn := HMO.out _ (nth_mem.2 ⟨k, hlt, rfl⟩)
            have CL := Lib.hid (lives_at (G7.out.below hB.out) (nth ms k) okn)
            have hsu := lvM_succ f0 ms hlt
            have hln := lvM_len f0 ms k
            obtain ⟨n, hne⟩ : ∃ z, z = nth ms k := ⟨_, rfl⟩
            rw [← hne] at hck CL hsu
            have HSU := Lib.hid hsu
            clear hne okn hsu
            cases hlive : livesR f0 n with
            | false =>
              rw [hlive] at CL
              have HS2 : Hid (lvM f0 ms (k + 1) = lvM f0 ms k) := show _ = _ by rw [HSU.out, if_neg (by rw [hlive]; decide)]
              clear hlive HSU
              go_wp2_with fail
              refine CL.out.mono ?_
              rintro e w9 ⟨rfl, rfl⟩
              go_wp2_with fail
              go_roundw
              case rel => go_light; exact ⟨k + 1, by omega, by omega, by go_num, (by show World.ownsRow _ _ _ _ _ _ _; rw [HS2.out]; exact hO.out), hB.out⟩
              case measure => go_light; simp [intOf]; omega
            | true =>
              rw [hlive] at CL
              have HS2 : Hid (lvM f0 ms (k + 1) = lvM f0 ms k ++ [n]) := show _ = _ by rw [HSU.out, if_pos hlive]
              clear hlive HSU
              obtain ⟨l, hl⟩ : ∃ z, z = lvM f0 ms k := ⟨_, rfl⟩
              rw [← hl] at hO HS2 hln ⊢
              clear hl
              go_wp2_with fail
              refine CL.out.mono ?_
              rintro e w9 ⟨rfl, rfl⟩
              go_wp2_with (at_builtin; go_loud (refine wpList_app rfl _ _ 39 rfl w7.heap.size 3 i0 (.int .i64 0) 8 Tryz.underlying39 hi0 hz0 hz1 hz2 rfl _ l.length (l.map (Value.int .i64)) rfl (ownsRow_same hO.out fun q hq => (bel_alloc (RowKit.Below.refl _ _) (.cells #[.int .i64 n] 3)).block q (hO.out.lt q hq).2) 0 (fun _ => .int .i64 n) 1 _ rfl (slI_one _ _ 3 _ rfl) (fun _ => rfl) ?d1 ?d2 ?d3 ?_))
              case d1 => simp only [maxLen]; omega
              case d2 => omega
              case d3 => have := hB.out.size; simp; omega
              intro va wa ho hg
              obtain ⟨av, cv, rfl⟩ := own_shapeI ho
              have BA : Hid (Below w7.heap.size w7 wa) := (bel_alloc hB.out _).grown hg (by have := hB.out.size; simp; omega) (fun q hq => (hO.out.lt q hq).1)
              have HO : Hid (wa.ownsRow w7.heap.size 3 1 (.slice av (l.length + 1) cv) (lvM f0 ms (k + 1)).length ((lvM f0 ms (k + 1)).map (Value.int .i64))) := show World.ownsRow _ _ _ _ _ _ _ by
                rw [HS2.out, List.length_append, List.map_append]; exact ho
              clear ho hg
              go_wp2_with fail
              go_roundw
              case rel => go_light; exact ⟨k + 1, by omega, by omega, by go_num, HO.out, BA.out⟩
              case measure => go_light; simp [intOf]; omega
          · have hln := lvM_len f0 ms k
            have hlv : ∀ x ∈ lvM f0 ms k, livesR f0 x = true := fun x hx => lvM_lives hx
            obtain ⟨l, hl⟩ : ∃ z, z = lvM f0 ms k := ⟨_, rfl⟩
            rw [← hl] at hO hln hlv ⊢
            clear hl
            have HLV := Lib.hid hlv
            have HOK : Hid (∀ x ∈ l, okInt x) := fun x hx => by have := livesR_dom GD0.out.inv.dom (hlv x hx); exact okInt_dom (by omega) (by omega)
            have SL : Hid (SlAt 0 (fun i => .int .i64 (nth l i)) l.length wr (.slice ai l.length ci)) := (own_ints hO.out).base (Nat.zero_le _)
            have GR := Lib.hid (G7.out.below hB.out)
            have FR := Lib.hid (F7.out.below hB.out)
            have BR := Lib.hid (bel_below B7.out hB.out)
            clear hO hB hlv G7 F7 B7
            by_cases hn : 60 < nm.size
            · have hnI : (60 : Int) < ((nm.size : Nat) : Int) := by omega
              have hnm : (nm.extract 0 60).size ≤ 1000000 := by rw [ByteArray.size_extract]; omega
              obtain ⟨ta, hta, IA, JA⟩ := tree_good GD0.out F (keyH_place (nm.extract 0 60)) l HLV.out
              have CA := of_fin wr _ l (nm.extract 0 60) GR.out FR.out GD0.out.inv SL.out HOK.out (by omega) hnm
              unfold OfPost at CA
              rw [hta] at CA
              have CA := Lib.hid CA
              have HIA := Lib.hid IA
              have HJA := Lib.hid JA
              clear hta IA JA FR
              go_wp2_with fail
              refine CA.out.mono ?_
              rintro e w8 ⟨ma, rfl, hTA, _, hb8⟩
              have B8 := Lib.hid (bel_below BR.out hb8)
              have G8 := Lib.hid (GR.out.below hb8)
              have S8 := Lib.hid (SL.out.below hb8)
              have T8 := Lib.hid hTA
              clear hTA hb8 CA GR SL BR
              obtain ⟨r, hr⟩ : ∃ z, z = ta.root := ⟨_, rfl⟩
              have HR := Lib.hid hr
              rw [← hr]
              clear hr
              go_upto_region 19 with (fail)
              obtain ⟨w9, hw9⟩ : ∃ z, z = w8.alloc (.cells #[.int .i64 r, .map (some ma)] 87) := ⟨_, rfl⟩
              obtain ⟨Y, hY⟩ : ∃ z, z = w8.heap.size := ⟨_, rfl⟩
              have b89 : Below w8.heap.size w8 w9 := by rw [hw9]; exact bel_alloc (Below.refl _ _) _
              have y0 : w9.cell? ⟨Y, 0, none⟩ = some (.int .i64 r) := by rw [hw9, hY]; simp [go_sem]
              have y1 : w9.cell? ⟨Y, 1, none⟩ = some (.map (some ma)) := by rw [hw9, hY]; simp [go_sem]
              have yz : Y < w9.heap.size := by rw [hw9, hY]; simp
              have B9 := Lib.hid (bel_below B8.out b89)
              have G9 := Lib.hid (G8.out.below b89)
              have S9 := Lib.hid (S8.out.below b89)
              have T9 := Lib.hid (T8.out.below b89)
              rw [← hw9]
              try rw [← hY]
              clear hw9 hY b89 B8 G8 S8 T8
              have hcl : (circ f0).length ≤ 32 := by rw [circ_len]; exact length_liveL f0
              have CC := Lib.hid fun (x : Later w9) => of_at (G9.out.below x.below) GD0.out.inv
              refine wp_region_heads [0, 1, 2, 3, 4, 6] 9 (fun w' => ∃ x : Later w9, w' = x.world) (by kernel_rfl) (by kernel_rfl) ⟨⟨{ w9 with drawn := w9.drawn + 1 }, (RowKit.Below.refl _ _).drew⟩, rfl⟩ ?_ ?_
              · intro d v c a w h
                cases d <;> exact h
              simp only [headOps]
              repeat (refine wpTame_step (fun K hK => ?_); go_simp; refine hK _ ?_; clear hK K)
              refine wpTame_nil ?_
              have BD : Hid (RowKit.Below w9.heap.size w9 { w9 with drawn := w9.drawn + 1 }) := (RowKit.Below.refl _ _).drew
              refine wpAnyC_step (f := 3) [5] (by kernel_rfl) rfl rfl (fun i hi => ?_)
              simp only [List.mem_cons, List.not_mem_nil, or_false] at hi
              subst hi
              refine ⟨_, rfl, fun R hR => ?_⟩
              go_wp2_with fail
              refine (CC.out ⟨_, BD.out⟩).mono ?_
              rintro e wc ⟨av, iv, rfl, hav, hiv, hbc⟩
              obtain ⟨aa, ac, rfl, _⟩ := hav.slice
              obtain ⟨ia, ic, rfl, _⟩ := hiv.slice
              have BC := Lib.hid (bel_below BD.out hbc)
              have hiv2 : SlAt 0 (fun i => .int .u64 (nth ((circ f0).map (idR f0)) i)) ((circ f0).map (idR f0)).length wc (.slice ia (circ f0).length ic) := by simpa using hiv.base (Nat.zero_le _)
              have CK := Lib.hid (check_good GD0.out (keyH_place (nm.extract 0 60)) wc ma ta (T9.out.below BC.out) HIA.out HJA.out HLV.out aa ia (circ f0).length ac (circ f0).length ic (nm.extract 0 60) hnm rfl (fun wr hb => cowner_at wr (circ f0) ((circ f0).map (idR f0)) _ _ ((hav.base (Nat.zero_le _)).below hb) (hiv2.below hb) (by simp) (by omega) (circ_up GD0.out.inv) (keyH (nm.extract 0 60))))
              rw [← HR.out] at CK
              obtain ⟨cl, hcle⟩ : ∃ z, z = (circ f0).length := ⟨_, rfl⟩
              rw [← hcle] at CK ⊢
              clear hav hiv hiv2 hbc CC hcle hcl
              go_wp2_with fail
              refine hR _ _ ⟨⟨_, BC.out⟩, rfl⟩ ?_
              clear hR R
              refine wpAnyC_step (f := 2) [7] (by kernel_rfl) rfl rfl (fun i hi => ?_)
              simp only [List.mem_cons, List.not_mem_nil, or_false] at hi
              subst hi
              refine ⟨_, rfl, fun R hR => ?_⟩
              go_wp2_with fail
              refine CK.out.mono ?_
              rintro e wd ⟨rfl, hbd⟩
              have BE := Lib.hid (bel_below BC.out hbd)
              clear hbd CK BC BD
              go_wp2_with fail
              refine hR _ _ ⟨⟨_, BE.out⟩, rfl⟩ ?_
              clear hR R
              refine wpAnyC_step (f := 1) [8] (by kernel_rfl) rfl rfl (fun i hi => ?_)
              simp only [List.mem_cons, List.not_mem_nil, or_false] at hi
              subst hi
              refine ⟨_, rfl, fun R hR => ?_⟩
              go_wp2_with fail
              refine hR _ _ ⟨⟨_, BE.out⟩, rfl⟩ ?_
              clear hR R
              refine wpAnyC_end (k := 9) (by decide) rfl rfl (by kernel_rfl) ?_
              have y0 := (BE.out.cell (p := ⟨Y, 0, none⟩) yz).trans y0
              have y1 := (BE.out.cell (p := ⟨Y, 1, none⟩) yz).trans y1
              have yz := Nat.lt_of_lt_of_le yz BE.out.size
              have BW := Lib.hid (bel_below B9.out BE.out)
              have CN := Lib.hid (nodes_at wd ma ta (T9.out.below BE.out) HJA.out)
              rw [← HR.out] at CN
              go_wp2_with fail
              refine CN.out.mono ?_
              rintro e w10 ⟨v10, rfl, hs10, hb10⟩
              obtain ⟨a10, c10, rfl, _⟩ := hs10.slice
              have S10 := Lib.hid (hs10.base (Nat.zero_le _))
              have y0 := (hb10.cell (p := ⟨Y, 0, none⟩) yz).trans y0
              have y1 := (hb10.cell (p := ⟨Y, 1, none⟩) yz).trans y1
              have yz := Nat.lt_of_lt_of_le yz hb10.size
              have Y10 : Hid (w10.cell? ⟨Y, 0, none⟩ = some (.int .i64 r) ∧ w10.cell? ⟨Y, 1, none⟩ = some (.map (some ma)) ∧ Y < w10.heap.size) := ⟨y0, y1, yz⟩
              have b910 := bel_below BE.out hb10
              have B10 := Lib.hid (bel_below B9.out b910)
              have G10 := Lib.hid (G9.out.below b910)
              have L10 := Lib.hid (S9.out.below b910)
              have T10 := Lib.hid (T9.out.below b910)
              have hnn : (nodesS ta).length ≤ 4000000000 := by
                have h1 := T10.out.small
                have h2 := nodes_len ta
                have h3 : (keysL ta.ups).length = ta.ups.length := by simp [keysL]
                unfold nodesL at h2
                split at h2 <;> simp at h2 <;> omega
              have HDG := Lib.hid fun x (hx : x ∈ nodesS ta) => depth_good GD0.out (keyH_place (nm.extract 0 60)) HIA.out HJA.out HLV.out hx
              have HDM := Lib.hid fun x (hx : x ∈ l) => depth_mem GD0.out (keyH_place (nm.extract 0 60)) HIA.out HJA.out HLV.out hx
              have HLF := Lib.hid fun x (hx : x ∈ nodesS ta) => leaf_good GD0.out (keyH_place (nm.extract 0 60)) HIA.out HLV.out hx
              have HNO : Hid (∀ x, x ∈ nodesS ta → okInt x) := fun x hx => by
                rcases nodes_mem.1 hx with h | ⟨_, h⟩
                · obtain ⟨v, hv⟩ := Option.isSome_iff_exists.1 h
                  exact (T10.out.up_ok hv).1
                · rw [h]; exact T10.out.root
              have HKL : Hid (∀ n, (kidsS ta n).length ≤ 4000000000) := fun n => by
                have h1 := T10.out.small
                have h3 : (keysL ta.ups).length = ta.ups.length := by simp [keysL]
                have : (kidsS ta n).length ≤ ta.ups.length := by
                  unfold kidsS kidsL
                  rw [List.length_mergeSort, ← h3]
                  exact List.length_filter_le _ _
                omega
              obtain ⟨ns, hns⟩ : ∃ z, z = nodesS ta := ⟨_, rfl⟩
              rw [← hns] at S10 hnn HDG HLF HNO ⊢
              clear hns hs10 hb10 b910 CN BE BW B9 G9 S9 T9 y0 y1 yz
              go_wp2_with fail
              go_loopw [96] (fun jj wi => ∃ j : Nat, j ≤ ns.length ∧ jj = .int .i64 j ∧ Hid (∃ y : Later w10, wi = y.world)) (fun jj _ => ns.length - (intOf jj).toNat)
              case atStart => exact ⟨0, Nat.zero_le _, rfl, ⟨_, Below.refl _ _⟩, rfl⟩
              case round =>
                obtain ⟨j, hj, rfl, hy⟩ := hrel
                obtain ⟨y, rfl⟩ := hy
                obtain ⟨y0, y1, yz⟩ := Y10.out
                replace y0 := ((y.below).cell (p := ⟨Y, 0, none⟩) yz).trans y0
                replace y1 := ((y.below).cell (p := ⟨Y, 1, none⟩) yz).trans y1
                replace yz := Nat.lt_of_lt_of_le yz (y.below).size
                by_cases hltj : j < ns.length
                · obtain ⟨b, off, rfl, _, hbz, hck⟩ := S10.out.at j hltj y.world y.below
                  have hmem : nth ns j ∈ ns := nth_mem.2 ⟨j, hltj, rfl⟩
                  have okn := HNO.out _ hmem
                  have hdg := HDG.out _ hmem
                  have hlf := HLF.out _ hmem
                  obtain ⟨n, hne⟩ : ∃ z, z = nth ns j := ⟨_, rfl⟩
                  rw [← hne] at hck okn hdg hlf
                  have CD : Hid (∀ w', Below y.world.heap.size y.world w' → Calls Tryz.prog 45 #[.agg #[.int .i64 r, .map (some ma)], .int .i64 n] w' fun e w'' => e = .returned (.int .i64 (depthR ta n)) ∧ Below w'.heap.size w' w'') := fun w' hb => by
                    have C := depth_at w' ma ta (T10.out.below (bel_below y.below hb)) n okn
                    rw [← HR.out] at C; exact C
                  have CKD : Hid (∀ w', Below y.world.heap.size y.world w' → Calls Tryz.prog 46 #[.agg #[.int .i64 r, .map (some ma)], .int .i64 n] w' (NewList w' (kidsS ta n))) := fun w' hb => by
                    have C := kids_at w' ma ta (T10.out.below (bel_below y.below hb)) HJA.out n
                    rw [← HR.out] at C; exact C
                  have CLV := Lib.hid fun w' (hb : Below y.world.heap.size y.world w') => live_at (G10.out.below (bel_below y.below hb))
                  have hkl := HKL.out n
                  obtain ⟨d, hd⟩ : ∃ z, z = depthR ta n := ⟨_, rfl⟩
                  rw [← hd] at CD hdg
                  obtain ⟨lv, hlve⟩ : ∃ z, z = liveL f0 := ⟨_, rfl⟩
                  have hl32 : lv.length ≤ 32 := by rw [hlve]; exact length_liveL f0
                  rw [← hlve] at CLV hdg
                  obtain ⟨ks, hks⟩ : ∃ z, z = kidsS ta n := ⟨_, rfl⟩
                  rw [← hks] at CKD hlf hkl
                  have HLE := Lib.hid hlf
                  have hd0 : ¬ d < 0 := by omega
                  have hdl : ¬ ((lv.length : Nat) : Int) ≤ d := by omega
                  clear hne okn hd hlve hks hlf hmem
                  go_wp2_with fail
                  refine (CD.out _ (Below.refl _ _)).mono ?_
                  rintro e w11 ⟨rfl, hb11⟩
                  replace y0 := ((hb11).cell (p := ⟨Y, 0, none⟩) yz).trans y0
                  replace y1 := ((hb11).cell (p := ⟨Y, 1, none⟩) yz).trans y1
                  replace yz := Nat.lt_of_lt_of_le yz (hb11).size
                  have C2 := Lib.hid (CD.out _ hb11)
                  have B11 := Lib.hid hb11
                  clear hb11 CD hck
                  go_wp2_with fail
                  refine C2.out.mono ?_
                  rintro e w12 ⟨rfl, hb12⟩
                  replace y0 := ((hb12).cell (p := ⟨Y, 0, none⟩) yz).trans y0
                  replace y1 := ((hb12).cell (p := ⟨Y, 1, none⟩) yz).trans y1
                  replace yz := Nat.lt_of_lt_of_le yz (hb12).size
                  have B12 := Lib.hid (bel_below B11.out hb12)
                  have C3 := Lib.hid (CLV.out _ B12.out)
                  clear hb12 C2 B11 CLV
                  go_wp2_with fail
                  refine C3.out.mono ?_
                  rintro e w13 ⟨v13, rfl, hs13, hb13⟩
                  obtain ⟨a13, c13, rfl, _⟩ := hs13.slice
                  replace y0 := ((hb13).cell (p := ⟨Y, 0, none⟩) yz).trans y0
                  replace y1 := ((hb13).cell (p := ⟨Y, 1, none⟩) yz).trans y1
                  replace yz := Nat.lt_of_lt_of_le yz (hb13).size
                  have B13 := Lib.hid (bel_below B12.out hb13)
                  have C4 := Lib.hid (CKD.out _ B13.out)
                  clear hs13 hb13 C3 B12 CKD
                  go_wp2_with fail
                  refine C4.out.mono ?_
                  rintro e w14 ⟨v14, rfl, hs14, hb14⟩
                  obtain ⟨a14, c14, rfl, _⟩ := hs14.slice
                  have B14 := Lib.hid (bel_below B13.out hb14)
                  clear hs14 hb14 C4 B13 y0 y1 yz
                  by_cases hk0 : ks.length = 0
                  · have hkb : (((ks.length : Nat) : Int) == 0) = true := by rw [beq_iff_eq]; omega
                    have CAM := Lib.hid (among_any w14 _ l (L10.out.below (bel_below y.below B14.out)) (by omega) n (HLE.out hk0))
                    go_wp2_with fail
                    refine CAM.out.mono ?_
                    rintro e w15 ⟨rfl, hb15⟩
                    have B15 := Lib.hid (bel_below B14.out hb15)
                    clear hb15 CAM
                    go_wp2_with fail
                    go_roundw
                    case rel => go_light; exact ⟨j + 1, by omega, by go_num, ⟨_, bel_below y.below B15.out⟩, rfl⟩
                    case measure => go_light; simp [intOf]; omega
                  · have hkb : (((ks.length : Nat) : Int) == 0) = false := by rw [beq_eq_false_iff_ne]; omega
                    go_wp2_with fail
                    go_roundw
                    case rel => go_light; exact ⟨j + 1, by omega, by go_num, ⟨_, bel_below y.below B14.out⟩, rfl⟩
                    case measure => go_light; simp [intOf]; omega
                · obtain rfl : j = ns.length := by omega
                  have Y11 := Lib.hid (show _ ∧ _ ∧ _ from ⟨y0, y1, yz⟩)
                  have B11 := Lib.hid (bel_below B10.out y.below)
                  have L11 := Lib.hid (L10.out.below y.below)
                  have T11 := Lib.hid (T10.out.below y.below)
                  clear y0 y1 yz Y10 L10 T10 G10 HDG HLF HNO HKL
                  obtain ⟨w11, hw11⟩ : ∃ z, z = y.world := ⟨_, rfl⟩
                  rw [← hw11] at Y11 B11 L11 T11 ⊢
                  clear hw11
                  go_wp2_with fail
                  go_loopw [127] (fun jj wi => ∃ j : Nat, j ≤ l.length ∧ jj = .int .i64 j ∧ Hid (∃ y : Later w11, wi = y.world)) (fun jj _ => l.length - (intOf jj).toNat)
                  case atStart => exact ⟨0, Nat.zero_le _, rfl, ⟨_, Below.refl _ _⟩, rfl⟩
                  case round =>
                    obtain ⟨j, hj, rfl, hy⟩ := hrel
                    obtain ⟨y, rfl⟩ := hy
                    obtain ⟨y0, y1, yz⟩ := Y11.out
                    replace y0 := ((y.below).cell (p := ⟨Y, 0, none⟩) yz).trans y0
                    replace y1 := ((y.below).cell (p := ⟨Y, 1, none⟩) yz).trans y1
                    replace yz := Nat.lt_of_lt_of_le yz (y.below).size
                    by_cases hltj : j < l.length
                    · obtain ⟨b, off, rfl, _, hbz, hck⟩ := L11.out.at j hltj y.world y.below
                      have hmem : nth l j ∈ l := nth_mem.2 ⟨j, hltj, rfl⟩
                      have okn := HOK.out _ hmem
                      have hdg := HDM.out _ hmem
                      obtain ⟨n, hne⟩ : ∃ z, z = nth l j := ⟨_, rfl⟩
                      rw [← hne] at hck okn hdg
                      have CD := depth_at y.world ma ta (T11.out.below y.below) n okn
                      rw [← HR.out] at CD
                      obtain ⟨d, hd⟩ : ∃ z, z = depthR ta n := ⟨_, rfl⟩
                      rw [← hd] at CD hdg
                      have CD := Lib.hid CD
                      have hd0 : ¬ d < 0 := by omega
                      clear hne okn hd hmem hdg
                      go_wp2_with fail
                      refine CD.out.mono ?_
                      rintro e w12 ⟨rfl, hb12⟩
                      have B12 := Lib.hid hb12
                      clear hb12 CD hck y0 y1 yz
                      go_wp2_with fail
                      go_roundw
                      case rel => go_light; exact ⟨j + 1, by omega, by go_num, ⟨_, bel_below y.below B12.out⟩, rfl⟩
                      case measure => go_light; simp [intOf]; omega
                    · obtain rfl : j = l.length := by omega
                      clear y0 y1 yz
                      go_wp2_with fail
                      refine (awake20_any _).mono ?_
                      rintro e w12 ⟨rfl, hb12⟩
                      have B12 := Lib.hid (bel_below (bel_below B11.out y.below) hb12)
                      clear hb12
                      go_wp2_with fail
                      go_ret
                      exact ⟨rfl, B12.out⟩
            · have hnI : ¬ (60 : Int) < ((nm.size : Nat) : Int) := by omega
              have hnm : nm.size ≤ 1000000 := by omega
              obtain ⟨ta, hta, IA, JA⟩ := tree_good GD0.out F (keyH_place nm) l HLV.out
              have CA := of_fin wr _ l nm GR.out FR.out GD0.out.inv SL.out HOK.out (by omega) hnm
              unfold OfPost at CA
              rw [hta] at CA
              have CA := Lib.hid CA
              have HIA := Lib.hid IA
              have HJA := Lib.hid JA
              clear hta IA JA FR
              go_wp2_with fail
              refine CA.out.mono ?_
              rintro e w8 ⟨ma, rfl, hTA, _, hb8⟩
              have B8 := Lib.hid (bel_below BR.out hb8)
              have G8 := Lib.hid (GR.out.below hb8)
              have S8 := Lib.hid (SL.out.below hb8)
              have T8 := Lib.hid hTA
              clear hTA hb8 CA GR SL BR
              obtain ⟨r, hr⟩ : ∃ z, z = ta.root := ⟨_, rfl⟩
              have HR := Lib.hid hr
              rw [← hr]
              clear hr
              go_upto_region 19 with (fail)
              obtain ⟨w9, hw9⟩ : ∃ z, z = w8.alloc (.cells #[.int .i64 r, .map (some ma)] 87) := ⟨_, rfl⟩
              obtain ⟨Y, hY⟩ : ∃ z, z = w8.heap.size := ⟨_, rfl⟩
              have b89 : Below w8.heap.size w8 w9 := by rw [hw9]; exact bel_alloc (Below.refl _ _) _
              have y0 : w9.cell? ⟨Y, 0, none⟩ = some (.int .i64 r) := by rw [hw9, hY]; simp [go_sem]
              have y1 : w9.cell? ⟨Y, 1, none⟩ = some (.map (some ma)) := by rw [hw9, hY]; simp [go_sem]
              have yz : Y < w9.heap.size := by rw [hw9, hY]; simp
              have B9 := Lib.hid (bel_below B8.out b89)
              have G9 := Lib.hid (G8.out.below b89)
              have S9 := Lib.hid (S8.out.below b89)
              have T9 := Lib.hid (T8.out.below b89)
              rw [← hw9]
              try rw [← hY]
              clear hw9 hY b89 B8 G8 S8 T8
              have hcl : (circ f0).length ≤ 32 := by rw [circ_len]; exact length_liveL f0
              have CC := Lib.hid fun (x : Later w9) => of_at (G9.out.below x.below) GD0.out.inv
              refine wp_region_heads [0, 1, 2, 3, 4, 6] 9 (fun w' => ∃ x : Later w9, w' = x.world) (by kernel_rfl) (by kernel_rfl) ⟨⟨{ w9 with drawn := w9.drawn + 1 }, (RowKit.Below.refl _ _).drew⟩, rfl⟩ ?_ ?_
              · intro d v c a w h
                cases d <;> exact h
              simp only [headOps]
              repeat (refine wpTame_step (fun K hK => ?_); go_simp; refine hK _ ?_; clear hK K)
              refine wpTame_nil ?_
              have BD : Hid (RowKit.Below w9.heap.size w9 { w9 with drawn := w9.drawn + 1 }) := (RowKit.Below.refl _ _).drew
              refine wpAnyC_step (f := 3) [5] (by kernel_rfl) rfl rfl (fun i hi => ?_)
              simp only [List.mem_cons, List.not_mem_nil, or_false] at hi
              subst hi
              refine ⟨_, rfl, fun R hR => ?_⟩
              go_wp2_with fail
              refine (CC.out ⟨_, BD.out⟩).mono ?_
              rintro e wc ⟨av, iv, rfl, hav, hiv, hbc⟩
              obtain ⟨aa, ac, rfl, _⟩ := hav.slice
              obtain ⟨ia, ic, rfl, _⟩ := hiv.slice
              have BC := Lib.hid (bel_below BD.out hbc)
              have hiv2 : SlAt 0 (fun i => .int .u64 (nth ((circ f0).map (idR f0)) i)) ((circ f0).map (idR f0)).length wc (.slice ia (circ f0).length ic) := by simpa using hiv.base (Nat.zero_le _)
              have CK := Lib.hid (check_good GD0.out (keyH_place nm) wc ma ta (T9.out.below BC.out) HIA.out HJA.out HLV.out aa ia (circ f0).length ac (circ f0).length ic nm hnm rfl (fun wr hb => cowner_at wr (circ f0) ((circ f0).map (idR f0)) _ _ ((hav.base (Nat.zero_le _)).below hb) (hiv2.below hb) (by simp) (by omega) (circ_up GD0.out.inv) (keyH nm)))
              rw [← HR.out] at CK
              obtain ⟨cl, hcle⟩ : ∃ z, z = (circ f0).length := ⟨_, rfl⟩
              rw [← hcle] at CK ⊢
              clear hav hiv hiv2 hbc CC hcle hcl
              go_wp2_with fail
              refine hR _ _ ⟨⟨_, BC.out⟩, rfl⟩ ?_
              clear hR R
              refine wpAnyC_step (f := 2) [7] (by kernel_rfl) rfl rfl (fun i hi => ?_)
              simp only [List.mem_cons, List.not_mem_nil, or_false] at hi
              subst hi
              refine ⟨_, rfl, fun R hR => ?_⟩
              go_wp2_with fail
              refine CK.out.mono ?_
              rintro e wd ⟨rfl, hbd⟩
              have BE := Lib.hid (bel_below BC.out hbd)
              clear hbd CK BC BD
              go_wp2_with fail
              refine hR _ _ ⟨⟨_, BE.out⟩, rfl⟩ ?_
              clear hR R
              refine wpAnyC_step (f := 1) [8] (by kernel_rfl) rfl rfl (fun i hi => ?_)
              simp only [List.mem_cons, List.not_mem_nil, or_false] at hi
              subst hi
              refine ⟨_, rfl, fun R hR => ?_⟩
              go_wp2_with fail
              refine hR _ _ ⟨⟨_, BE.out⟩, rfl⟩ ?_
              clear hR R
              refine wpAnyC_end (k := 9) (by decide) rfl rfl (by kernel_rfl) ?_
              have y0 := (BE.out.cell (p := ⟨Y, 0, none⟩) yz).trans y0
              have y1 := (BE.out.cell (p := ⟨Y, 1, none⟩) yz).trans y1
              have yz := Nat.lt_of_lt_of_le yz BE.out.size
              have BW := Lib.hid (bel_below B9.out BE.out)
              have CN := Lib.hid (nodes_at wd ma ta (T9.out.below BE.out) HJA.out)
              rw [← HR.out] at CN
              go_wp2_with fail
              refine CN.out.mono ?_
              rintro e w10 ⟨v10, rfl, hs10, hb10⟩
              obtain ⟨a10, c10, rfl, _⟩ := hs10.slice
              have S10 := Lib.hid (hs10.base (Nat.zero_le _))
              have y0 := (hb10.cell (p := ⟨Y, 0, none⟩) yz).trans y0
              have y1 := (hb10.cell (p := ⟨Y, 1, none⟩) yz).trans y1
              have yz := Nat.lt_of_lt_of_le yz hb10.size
              have Y10 : Hid (w10.cell? ⟨Y, 0, none⟩ = some (.int .i64 r) ∧ w10.cell? ⟨Y, 1, none⟩ = some (.map (some ma)) ∧ Y < w10.heap.size) := ⟨y0, y1, yz⟩
              have b910 := bel_below BE.out hb10
              have B10 := Lib.hid (bel_below B9.out b910)
              have G10 := Lib.hid (G9.out.below b910)
              have L10 := Lib.hid (S9.out.below b910)
              have T10 := Lib.hid (T9.out.below b910)
              have hnn : (nodesS ta).length ≤ 4000000000 := by
                have h1 := T10.out.small
                have h2 := nodes_len ta
                have h3 : (keysL ta.ups).length = ta.ups.length := by simp [keysL]
                unfold nodesL at h2
                split at h2 <;> simp at h2 <;> omega
              have HDG := Lib.hid fun x (hx : x ∈ nodesS ta) => depth_good GD0.out (keyH_place nm) HIA.out HJA.out HLV.out hx
              have HDM := Lib.hid fun x (hx : x ∈ l) => depth_mem GD0.out (keyH_place nm) HIA.out HJA.out HLV.out hx
              have HLF := Lib.hid fun x (hx : x ∈ nodesS ta) => leaf_good GD0.out (keyH_place nm) HIA.out HLV.out hx
              have HNO : Hid (∀ x, x ∈ nodesS ta → okInt x) := fun x hx => by
                rcases nodes_mem.1 hx with h | ⟨_, h⟩
                · obtain ⟨v, hv⟩ := Option.isSome_iff_exists.1 h
                  exact (T10.out.up_ok hv).1
                · rw [h]; exact T10.out.root
              have HKL : Hid (∀ n, (kidsS ta n).length ≤ 4000000000) := fun n => by
                have h1 := T10.out.small
                have h3 : (keysL ta.ups).length = ta.ups.length := by simp [keysL]
                have : (kidsS ta n).length ≤ ta.ups.length := by
                  unfold kidsS kidsL
                  rw [List.length_mergeSort, ← h3]
                  exact List.length_filter_le _ _
                omega
              obtain ⟨ns, hns⟩ : ∃ z, z = nodesS ta := ⟨_, rfl⟩
              rw [← hns] at S10 hnn HDG HLF HNO ⊢
              clear hns hs10 hb10 b910 CN BE BW B9 G9 S9 T9 y0 y1 yz
              go_wp2_with fail
              go_loopw [96] (fun jj wi => ∃ j : Nat, j ≤ ns.length ∧ jj = .int .i64 j ∧ Hid (∃ y : Later w10, wi = y.world)) (fun jj _ => ns.length - (intOf jj).toNat)
              case atStart => exact ⟨0, Nat.zero_le _, rfl, ⟨_, Below.refl _ _⟩, rfl⟩
              case round =>
                obtain ⟨j, hj, rfl, hy⟩ := hrel
                obtain ⟨y, rfl⟩ := hy
                obtain ⟨y0, y1, yz⟩ := Y10.out
                replace y0 := ((y.below).cell (p := ⟨Y, 0, none⟩) yz).trans y0
                replace y1 := ((y.below).cell (p := ⟨Y, 1, none⟩) yz).trans y1
                replace yz := Nat.lt_of_lt_of_le yz (y.below).size
                by_cases hltj : j < ns.length
                · obtain ⟨b, off, rfl, _, hbz, hck⟩ := S10.out.at j hltj y.world y.below
                  have hmem : nth ns j ∈ ns := nth_mem.2 ⟨j, hltj, rfl⟩
                  have okn := HNO.out _ hmem
                  have hdg := HDG.out _ hmem
                  have hlf := HLF.out _ hmem
                  obtain ⟨n, hne⟩ : ∃ z, z = nth ns j := ⟨_, rfl⟩
                  rw [← hne] at hck okn hdg hlf
                  have CD : Hid (∀ w', Below y.world.heap.size y.world w' → Calls Tryz.prog 45 #[.agg #[.int .i64 r, .map (some ma)], .int .i64 n] w' fun e w'' => e = .returned (.int .i64 (depthR ta n)) ∧ Below w'.heap.size w' w'') := fun w' hb => by
                    have C := depth_at w' ma ta (T10.out.below (bel_below y.below hb)) n okn
                    rw [← HR.out] at C; exact C
                  have CKD : Hid (∀ w', Below y.world.heap.size y.world w' → Calls Tryz.prog 46 #[.agg #[.int .i64 r, .map (some ma)], .int .i64 n] w' (NewList w' (kidsS ta n))) := fun w' hb => by
                    have C := kids_at w' ma ta (T10.out.below (bel_below y.below hb)) HJA.out n
                    rw [← HR.out] at C; exact C
                  have CLV := Lib.hid fun w' (hb : Below y.world.heap.size y.world w') => live_at (G10.out.below (bel_below y.below hb))
                  have hkl := HKL.out n
                  obtain ⟨d, hd⟩ : ∃ z, z = depthR ta n := ⟨_, rfl⟩
                  rw [← hd] at CD hdg
                  obtain ⟨lv, hlve⟩ : ∃ z, z = liveL f0 := ⟨_, rfl⟩
                  have hl32 : lv.length ≤ 32 := by rw [hlve]; exact length_liveL f0
                  rw [← hlve] at CLV hdg
                  obtain ⟨ks, hks⟩ : ∃ z, z = kidsS ta n := ⟨_, rfl⟩
                  rw [← hks] at CKD hlf hkl
                  have HLE := Lib.hid hlf
                  have hd0 : ¬ d < 0 := by omega
                  have hdl : ¬ ((lv.length : Nat) : Int) ≤ d := by omega
                  clear hne okn hd hlve hks hlf hmem
                  go_wp2_with fail
                  refine (CD.out _ (Below.refl _ _)).mono ?_
                  rintro e w11 ⟨rfl, hb11⟩
                  replace y0 := ((hb11).cell (p := ⟨Y, 0, none⟩) yz).trans y0
                  replace y1 := ((hb11).cell (p := ⟨Y, 1, none⟩) yz).trans y1
                  replace yz := Nat.lt_of_lt_of_le yz (hb11).size
                  have C2 := Lib.hid (CD.out _ hb11)
                  have B11 := Lib.hid hb11
                  clear hb11 CD hck
                  go_wp2_with fail
                  refine C2.out.mono ?_
                  rintro e w12 ⟨rfl, hb12⟩
                  replace y0 := ((hb12).cell (p := ⟨Y, 0, none⟩) yz).trans y0
                  replace y1 := ((hb12).cell (p := ⟨Y, 1, none⟩) yz).trans y1
                  replace yz := Nat.lt_of_lt_of_le yz (hb12).size
                  have B12 := Lib.hid (bel_below B11.out hb12)
                  have C3 := Lib.hid (CLV.out _ B12.out)
                  clear hb12 C2 B11 CLV
                  go_wp2_with fail
                  refine C3.out.mono ?_
                  rintro e w13 ⟨v13, rfl, hs13, hb13⟩
                  obtain ⟨a13, c13, rfl, _⟩ := hs13.slice
                  replace y0 := ((hb13).cell (p := ⟨Y, 0, none⟩) yz).trans y0
                  replace y1 := ((hb13).cell (p := ⟨Y, 1, none⟩) yz).trans y1
                  replace yz := Nat.lt_of_lt_of_le yz (hb13).size
                  have B13 := Lib.hid (bel_below B12.out hb13)
                  have C4 := Lib.hid (CKD.out _ B13.out)
                  clear hs13 hb13 C3 B12 CKD
                  go_wp2_with fail
                  refine C4.out.mono ?_
                  rintro e w14 ⟨v14, rfl, hs14, hb14⟩
                  obtain ⟨a14, c14, rfl, _⟩ := hs14.slice
                  have B14 := Lib.hid (bel_below B13.out hb14)
                  clear hs14 hb14 C4 B13 y0 y1 yz
                  by_cases hk0 : ks.length = 0
                  · have hkb : (((ks.length : Nat) : Int) == 0) = true := by rw [beq_iff_eq]; omega
                    have CAM := Lib.hid (among_any w14 _ l (L10.out.below (bel_below y.below B14.out)) (by omega) n (HLE.out hk0))
                    go_wp2_with fail
                    refine CAM.out.mono ?_
                    rintro e w15 ⟨rfl, hb15⟩
                    have B15 := Lib.hid (bel_below B14.out hb15)
                    clear hb15 CAM
                    go_wp2_with fail
                    go_roundw
                    case rel => go_light; exact ⟨j + 1, by omega, by go_num, ⟨_, bel_below y.below B15.out⟩, rfl⟩
                    case measure => go_light; simp [intOf]; omega
                  · have hkb : (((ks.length : Nat) : Int) == 0) = false := by rw [beq_eq_false_iff_ne]; omega
                    go_wp2_with fail
                    go_roundw
                    case rel => go_light; exact ⟨j + 1, by omega, by go_num, ⟨_, bel_below y.below B14.out⟩, rfl⟩
                    case measure => go_light; simp [intOf]; omega
                · obtain rfl : j = ns.length := by omega
                  have Y11 := Lib.hid (show _ ∧ _ ∧ _ from ⟨y0, y1, yz⟩)
                  have B11 := Lib.hid (bel_below B10.out y.below)
                  have L11 := Lib.hid (L10.out.below y.below)
                  have T11 := Lib.hid (T10.out.below y.below)
                  clear y0 y1 yz Y10 L10 T10 G10 HDG HLF HNO HKL
                  obtain ⟨w11, hw11⟩ : ∃ z, z = y.world := ⟨_, rfl⟩
                  rw [← hw11] at Y11 B11 L11 T11 ⊢
                  clear hw11
                  go_wp2_with fail
                  go_loopw [127] (fun jj wi => ∃ j : Nat, j ≤ l.length ∧ jj = .int .i64 j ∧ Hid (∃ y : Later w11, wi = y.world)) (fun jj _ => l.length - (intOf jj).toNat)
                  case atStart => exact ⟨0, Nat.zero_le _, rfl, ⟨_, Below.refl _ _⟩, rfl⟩
                  case round =>
                    obtain ⟨j, hj, rfl, hy⟩ := hrel
                    obtain ⟨y, rfl⟩ := hy
                    obtain ⟨y0, y1, yz⟩ := Y11.out
                    replace y0 := ((y.below).cell (p := ⟨Y, 0, none⟩) yz).trans y0
                    replace y1 := ((y.below).cell (p := ⟨Y, 1, none⟩) yz).trans y1
                    replace yz := Nat.lt_of_lt_of_le yz (y.below).size
                    by_cases hltj : j < l.length
                    · obtain ⟨b, off, rfl, _, hbz, hck⟩ := L11.out.at j hltj y.world y.below
                      have hmem : nth l j ∈ l := nth_mem.2 ⟨j, hltj, rfl⟩
                      have okn := HOK.out _ hmem
                      have hdg := HDM.out _ hmem
                      obtain ⟨n, hne⟩ : ∃ z, z = nth l j := ⟨_, rfl⟩
                      rw [← hne] at hck okn hdg
                      have CD := depth_at y.world ma ta (T11.out.below y.below) n okn
                      rw [← HR.out] at CD
                      obtain ⟨d, hd⟩ : ∃ z, z = depthR ta n := ⟨_, rfl⟩
                      rw [← hd] at CD hdg
                      have CD := Lib.hid CD
                      have hd0 : ¬ d < 0 := by omega
                      clear hne okn hd hmem hdg
                      go_wp2_with fail
                      refine CD.out.mono ?_
                      rintro e w12 ⟨rfl, hb12⟩
                      have B12 := Lib.hid hb12
                      clear hb12 CD hck y0 y1 yz
                      go_wp2_with fail
                      go_roundw
                      case rel => go_light; exact ⟨j + 1, by omega, by go_num, ⟨_, bel_below y.below B12.out⟩, rfl⟩
                      case measure => go_light; simp [intOf]; omega
                    · obtain rfl : j = l.length := by omega
                      clear y0 y1 yz
                      go_wp2_with fail
                      refine (awake20_any _).mono ?_
                      rintro e w12 ⟨rfl, hb12⟩
                      have B12 := Lib.hid (bel_below (bel_below B11.out y.below) hb12)
                      clear hb12
                      go_wp2_with fail
                      go_ret
                      exact ⟨rfl, B12.out⟩
        · have hln := lvM_len f0 ms k
          have hlv : ∀ x ∈ lvM f0 ms k, livesR f0 x = true := fun x hx => lvM_lives hx
          obtain ⟨l, hl⟩ : ∃ z, z = lvM f0 ms k := ⟨_, rfl⟩
          rw [← hl] at hO hln hlv ⊢
          clear hl
          have HLV := Lib.hid hlv
          have HOK : Hid (∀ x ∈ l, okInt x) := fun x hx => by have := livesR_dom GD0.out.inv.dom (hlv x hx); exact okInt_dom (by omega) (by omega)
          have SL : Hid (SlAt 0 (fun i => .int .i64 (nth l i)) l.length wr (.slice ai l.length ci)) := (own_ints hO.out).base (Nat.zero_le _)
          have GR := Lib.hid (G7.out.below hB.out)
          have FR := Lib.hid (F7.out.below hB.out)
          have BR := Lib.hid (bel_below B7.out hB.out)
          clear hO hB hlv G7 F7 B7
          by_cases hn : 60 < nm.size
          · have hnI : (60 : Int) < ((nm.size : Nat) : Int) := by omega
            have hnm : (nm.extract 0 60).size ≤ 1000000 := by rw [ByteArray.size_extract]; omega
            obtain ⟨ta, hta, IA, JA⟩ := tree_good GD0.out F (keyH_place (nm.extract 0 60)) l HLV.out
            have CA := of_fin wr _ l (nm.extract 0 60) GR.out FR.out GD0.out.inv SL.out HOK.out (by omega) hnm
            unfold OfPost at CA
            rw [hta] at CA
            have CA := Lib.hid CA
            have HIA := Lib.hid IA
            have HJA := Lib.hid JA
            clear hta IA JA FR
            go_wp2_with fail
            refine CA.out.mono ?_
            rintro e w8 ⟨ma, rfl, hTA, _, hb8⟩
            have B8 := Lib.hid (bel_below BR.out hb8)
            have G8 := Lib.hid (GR.out.below hb8)
            have S8 := Lib.hid (SL.out.below hb8)
            have T8 := Lib.hid hTA
            clear hTA hb8 CA GR SL BR
            obtain ⟨r, hr⟩ : ∃ z, z = ta.root := ⟨_, rfl⟩
            have HR := Lib.hid hr
            rw [← hr]
            clear hr
            go_upto_region 19 with (fail)
            obtain ⟨w9, hw9⟩ : ∃ z, z = w8.alloc (.cells #[.int .i64 r, .map (some ma)] 87) := ⟨_, rfl⟩
            obtain ⟨Y, hY⟩ : ∃ z, z = w8.heap.size := ⟨_, rfl⟩
            have b89 : Below w8.heap.size w8 w9 := by rw [hw9]; exact bel_alloc (Below.refl _ _) _
            have y0 : w9.cell? ⟨Y, 0, none⟩ = some (.int .i64 r) := by rw [hw9, hY]; simp [go_sem]
            have y1 : w9.cell? ⟨Y, 1, none⟩ = some (.map (some ma)) := by rw [hw9, hY]; simp [go_sem]
            have yz : Y < w9.heap.size := by rw [hw9, hY]; simp
            have B9 := Lib.hid (bel_below B8.out b89)
            have G9 := Lib.hid (G8.out.below b89)
            have S9 := Lib.hid (S8.out.below b89)
            have T9 := Lib.hid (T8.out.below b89)
            rw [← hw9]
            try rw [← hY]
            clear hw9 hY b89 B8 G8 S8 T8
            have hcl : (circ f0).length ≤ 32 := by rw [circ_len]; exact length_liveL f0
            have CC := Lib.hid fun (x : Later w9) => of_at (G9.out.below x.below) GD0.out.inv
            refine wp_region_heads [0, 1, 2, 3, 4, 6] 9 (fun w' => ∃ x : Later w9, w' = x.world) (by kernel_rfl) (by kernel_rfl) ⟨⟨{ w9 with drawn := w9.drawn + 1 }, (RowKit.Below.refl _ _).drew⟩, rfl⟩ ?_ ?_
            · intro d v c a w h
              cases d <;> exact h
            simp only [headOps]
            repeat (refine wpTame_step (fun K hK => ?_); go_simp; refine hK _ ?_; clear hK K)
            refine wpTame_nil ?_
            have BD : Hid (RowKit.Below w9.heap.size w9 { w9 with drawn := w9.drawn + 1 }) := (RowKit.Below.refl _ _).drew
            refine wpAnyC_step (f := 3) [5] (by kernel_rfl) rfl rfl (fun i hi => ?_)
            simp only [List.mem_cons, List.not_mem_nil, or_false] at hi
            subst hi
            refine ⟨_, rfl, fun R hR => ?_⟩
            go_wp2_with fail
            refine (CC.out ⟨_, BD.out⟩).mono ?_
            rintro e wc ⟨av, iv, rfl, hav, hiv, hbc⟩
            obtain ⟨aa, ac, rfl, _⟩ := hav.slice
            obtain ⟨ia, ic, rfl, _⟩ := hiv.slice
            have BC := Lib.hid (bel_below BD.out hbc)
            have hiv2 : SlAt 0 (fun i => .int .u64 (nth ((circ f0).map (idR f0)) i)) ((circ f0).map (idR f0)).length wc (.slice ia (circ f0).length ic) := by simpa using hiv.base (Nat.zero_le _)
            have CK := Lib.hid (check_good GD0.out (keyH_place (nm.extract 0 60)) wc ma ta (T9.out.below BC.out) HIA.out HJA.out HLV.out aa ia (circ f0).length ac (circ f0).length ic (nm.extract 0 60) hnm rfl (fun wr hb => cowner_at wr (circ f0) ((circ f0).map (idR f0)) _ _ ((hav.base (Nat.zero_le _)).below hb) (hiv2.below hb) (by simp) (by omega) (circ_up GD0.out.inv) (keyH (nm.extract 0 60))))
            rw [← HR.out] at CK
            obtain ⟨cl, hcle⟩ : ∃ z, z = (circ f0).length := ⟨_, rfl⟩
            rw [← hcle] at CK ⊢
            clear hav hiv hiv2 hbc CC hcle hcl
            go_wp2_with fail
            refine hR _ _ ⟨⟨_, BC.out⟩, rfl⟩ ?_
            clear hR R
            refine wpAnyC_step (f := 2) [7] (by kernel_rfl) rfl rfl (fun i hi => ?_)
            simp only [List.mem_cons, List.not_mem_nil, or_false] at hi
            subst hi
            refine ⟨_, rfl, fun R hR => ?_⟩
            go_wp2_with fail
            refine CK.out.mono ?_
            rintro e wd ⟨rfl, hbd⟩
            have BE := Lib.hid (bel_below BC.out hbd)
            clear hbd CK BC BD
            go_wp2_with fail
            refine hR _ _ ⟨⟨_, BE.out⟩, rfl⟩ ?_
            clear hR R
            refine wpAnyC_step (f := 1) [8] (by kernel_rfl) rfl rfl (fun i hi => ?_)
            simp only [List.mem_cons, List.not_mem_nil, or_false] at hi
            subst hi
            refine ⟨_, rfl, fun R hR => ?_⟩
            go_wp2_with fail
            refine hR _ _ ⟨⟨_, BE.out⟩, rfl⟩ ?_
            clear hR R
            refine wpAnyC_end (k := 9) (by decide) rfl rfl (by kernel_rfl) ?_
            have y0 := (BE.out.cell (p := ⟨Y, 0, none⟩) yz).trans y0
            have y1 := (BE.out.cell (p := ⟨Y, 1, none⟩) yz).trans y1
            have yz := Nat.lt_of_lt_of_le yz BE.out.size
            have BW := Lib.hid (bel_below B9.out BE.out)
            have CN := Lib.hid (nodes_at wd ma ta (T9.out.below BE.out) HJA.out)
            rw [← HR.out] at CN
            go_wp2_with fail
            refine CN.out.mono ?_
            rintro e w10 ⟨v10, rfl, hs10, hb10⟩
            obtain ⟨a10, c10, rfl, _⟩ := hs10.slice
            have S10 := Lib.hid (hs10.base (Nat.zero_le _))
            have y0 := (hb10.cell (p := ⟨Y, 0, none⟩) yz).trans y0
            have y1 := (hb10.cell (p := ⟨Y, 1, none⟩) yz).trans y1
            have yz := Nat.lt_of_lt_of_le yz hb10.size
            have Y10 : Hid (w10.cell? ⟨Y, 0, none⟩ = some (.int .i64 r) ∧ w10.cell? ⟨Y, 1, none⟩ = some (.map (some ma)) ∧ Y < w10.heap.size) := ⟨y0, y1, yz⟩
            have b910 := bel_below BE.out hb10
            have B10 := Lib.hid (bel_below B9.out b910)
            have G10 := Lib.hid (G9.out.below b910)
            have L10 := Lib.hid (S9.out.below b910)
            have T10 := Lib.hid (T9.out.below b910)
            have hnn : (nodesS ta).length ≤ 4000000000 := by
              have h1 := T10.out.small
              have h2 := nodes_len ta
              have h3 : (keysL ta.ups).length = ta.ups.length := by simp [keysL]
              unfold nodesL at h2
              split at h2 <;> simp at h2 <;> omega
            have HDG := Lib.hid fun x (hx : x ∈ nodesS ta) => depth_good GD0.out (keyH_place (nm.extract 0 60)) HIA.out HJA.out HLV.out hx
            have HDM := Lib.hid fun x (hx : x ∈ l) => depth_mem GD0.out (keyH_place (nm.extract 0 60)) HIA.out HJA.out HLV.out hx
            have HLF := Lib.hid fun x (hx : x ∈ nodesS ta) => leaf_good GD0.out (keyH_place (nm.extract 0 60)) HIA.out HLV.out hx
            have HNO : Hid (∀ x, x ∈ nodesS ta → okInt x) := fun x hx => by
              rcases nodes_mem.1 hx with h | ⟨_, h⟩
              · obtain ⟨v, hv⟩ := Option.isSome_iff_exists.1 h
                exact (T10.out.up_ok hv).1
              · rw [h]; exact T10.out.root
            have HKL : Hid (∀ n, (kidsS ta n).length ≤ 4000000000) := fun n => by
              have h1 := T10.out.small
              have h3 : (keysL ta.ups).length = ta.ups.length := by simp [keysL]
              have : (kidsS ta n).length ≤ ta.ups.length := by
                unfold kidsS kidsL
                rw [List.length_mergeSort, ← h3]
                exact List.length_filter_le _ _
              omega
            obtain ⟨ns, hns⟩ : ∃ z, z = nodesS ta := ⟨_, rfl⟩
            rw [← hns] at S10 hnn HDG HLF HNO ⊢
            clear hns hs10 hb10 b910 CN BE BW B9 G9 S9 T9 y0 y1 yz
            go_wp2_with fail
            go_loopw [96] (fun jj wi => ∃ j : Nat, j ≤ ns.length ∧ jj = .int .i64 j ∧ Hid (∃ y : Later w10, wi = y.world)) (fun jj _ => ns.length - (intOf jj).toNat)
            case atStart => exact ⟨0, Nat.zero_le _, rfl, ⟨_, Below.refl _ _⟩, rfl⟩
            case round =>
              obtain ⟨j, hj, rfl, hy⟩ := hrel
              obtain ⟨y, rfl⟩ := hy
              obtain ⟨y0, y1, yz⟩ := Y10.out
              replace y0 := ((y.below).cell (p := ⟨Y, 0, none⟩) yz).trans y0
              replace y1 := ((y.below).cell (p := ⟨Y, 1, none⟩) yz).trans y1
              replace yz := Nat.lt_of_lt_of_le yz (y.below).size
              by_cases hltj : j < ns.length
              · obtain ⟨b, off, rfl, _, hbz, hck⟩ := S10.out.at j hltj y.world y.below
                have hmem : nth ns j ∈ ns := nth_mem.2 ⟨j, hltj, rfl⟩
                have okn := HNO.out _ hmem
                have hdg := HDG.out _ hmem
                have hlf := HLF.out _ hmem
                obtain ⟨n, hne⟩ : ∃ z, z = nth ns j := ⟨_, rfl⟩
                rw [← hne] at hck okn hdg hlf
                have CD : Hid (∀ w', Below y.world.heap.size y.world w' → Calls Tryz.prog 45 #[.agg #[.int .i64 r, .map (some ma)], .int .i64 n] w' fun e w'' => e = .returned (.int .i64 (depthR ta n)) ∧ Below w'.heap.size w' w'') := fun w' hb => by
                  have C := depth_at w' ma ta (T10.out.below (bel_below y.below hb)) n okn
                  rw [← HR.out] at C; exact C
                have CKD : Hid (∀ w', Below y.world.heap.size y.world w' → Calls Tryz.prog 46 #[.agg #[.int .i64 r, .map (some ma)], .int .i64 n] w' (NewList w' (kidsS ta n))) := fun w' hb => by
                  have C := kids_at w' ma ta (T10.out.below (bel_below y.below hb)) HJA.out n
                  rw [← HR.out] at C; exact C
                have CLV := Lib.hid fun w' (hb : Below y.world.heap.size y.world w') => live_at (G10.out.below (bel_below y.below hb))
                have hkl := HKL.out n
                obtain ⟨d, hd⟩ : ∃ z, z = depthR ta n := ⟨_, rfl⟩
                rw [← hd] at CD hdg
                obtain ⟨lv, hlve⟩ : ∃ z, z = liveL f0 := ⟨_, rfl⟩
                have hl32 : lv.length ≤ 32 := by rw [hlve]; exact length_liveL f0
                rw [← hlve] at CLV hdg
                obtain ⟨ks, hks⟩ : ∃ z, z = kidsS ta n := ⟨_, rfl⟩
                rw [← hks] at CKD hlf hkl
                have HLE := Lib.hid hlf
                have hd0 : ¬ d < 0 := by omega
                have hdl : ¬ ((lv.length : Nat) : Int) ≤ d := by omega
                clear hne okn hd hlve hks hlf hmem
                go_wp2_with fail
                refine (CD.out _ (Below.refl _ _)).mono ?_
                rintro e w11 ⟨rfl, hb11⟩
                replace y0 := ((hb11).cell (p := ⟨Y, 0, none⟩) yz).trans y0
                replace y1 := ((hb11).cell (p := ⟨Y, 1, none⟩) yz).trans y1
                replace yz := Nat.lt_of_lt_of_le yz (hb11).size
                have C2 := Lib.hid (CD.out _ hb11)
                have B11 := Lib.hid hb11
                clear hb11 CD hck
                go_wp2_with fail
                refine C2.out.mono ?_
                rintro e w12 ⟨rfl, hb12⟩
                replace y0 := ((hb12).cell (p := ⟨Y, 0, none⟩) yz).trans y0
                replace y1 := ((hb12).cell (p := ⟨Y, 1, none⟩) yz).trans y1
                replace yz := Nat.lt_of_lt_of_le yz (hb12).size
                have B12 := Lib.hid (bel_below B11.out hb12)
                have C3 := Lib.hid (CLV.out _ B12.out)
                clear hb12 C2 B11 CLV
                go_wp2_with fail
                refine C3.out.mono ?_
                rintro e w13 ⟨v13, rfl, hs13, hb13⟩
                obtain ⟨a13, c13, rfl, _⟩ := hs13.slice
                replace y0 := ((hb13).cell (p := ⟨Y, 0, none⟩) yz).trans y0
                replace y1 := ((hb13).cell (p := ⟨Y, 1, none⟩) yz).trans y1
                replace yz := Nat.lt_of_lt_of_le yz (hb13).size
                have B13 := Lib.hid (bel_below B12.out hb13)
                have C4 := Lib.hid (CKD.out _ B13.out)
                clear hs13 hb13 C3 B12 CKD
                go_wp2_with fail
                refine C4.out.mono ?_
                rintro e w14 ⟨v14, rfl, hs14, hb14⟩
                obtain ⟨a14, c14, rfl, _⟩ := hs14.slice
                have B14 := Lib.hid (bel_below B13.out hb14)
                clear hs14 hb14 C4 B13 y0 y1 yz
                by_cases hk0 : ks.length = 0
                · have hkb : (((ks.length : Nat) : Int) == 0) = true := by rw [beq_iff_eq]; omega
                  have CAM := Lib.hid (among_any w14 _ l (L10.out.below (bel_below y.below B14.out)) (by omega) n (HLE.out hk0))
                  go_wp2_with fail
                  refine CAM.out.mono ?_
                  rintro e w15 ⟨rfl, hb15⟩
                  have B15 := Lib.hid (bel_below B14.out hb15)
                  clear hb15 CAM
                  go_wp2_with fail
                  go_roundw
                  case rel => go_light; exact ⟨j + 1, by omega, by go_num, ⟨_, bel_below y.below B15.out⟩, rfl⟩
                  case measure => go_light; simp [intOf]; omega
                · have hkb : (((ks.length : Nat) : Int) == 0) = false := by rw [beq_eq_false_iff_ne]; omega
                  go_wp2_with fail
                  go_roundw
                  case rel => go_light; exact ⟨j + 1, by omega, by go_num, ⟨_, bel_below y.below B14.out⟩, rfl⟩
                  case measure => go_light; simp [intOf]; omega
              · obtain rfl : j = ns.length := by omega
                have Y11 := Lib.hid (show _ ∧ _ ∧ _ from ⟨y0, y1, yz⟩)
                have B11 := Lib.hid (bel_below B10.out y.below)
                have L11 := Lib.hid (L10.out.below y.below)
                have T11 := Lib.hid (T10.out.below y.below)
                clear y0 y1 yz Y10 L10 T10 G10 HDG HLF HNO HKL
                obtain ⟨w11, hw11⟩ : ∃ z, z = y.world := ⟨_, rfl⟩
                rw [← hw11] at Y11 B11 L11 T11 ⊢
                clear hw11
                go_wp2_with fail
                go_loopw [127] (fun jj wi => ∃ j : Nat, j ≤ l.length ∧ jj = .int .i64 j ∧ Hid (∃ y : Later w11, wi = y.world)) (fun jj _ => l.length - (intOf jj).toNat)
                case atStart => exact ⟨0, Nat.zero_le _, rfl, ⟨_, Below.refl _ _⟩, rfl⟩
                case round =>
                  obtain ⟨j, hj, rfl, hy⟩ := hrel
                  obtain ⟨y, rfl⟩ := hy
                  obtain ⟨y0, y1, yz⟩ := Y11.out
                  replace y0 := ((y.below).cell (p := ⟨Y, 0, none⟩) yz).trans y0
                  replace y1 := ((y.below).cell (p := ⟨Y, 1, none⟩) yz).trans y1
                  replace yz := Nat.lt_of_lt_of_le yz (y.below).size
                  by_cases hltj : j < l.length
                  · obtain ⟨b, off, rfl, _, hbz, hck⟩ := L11.out.at j hltj y.world y.below
                    have hmem : nth l j ∈ l := nth_mem.2 ⟨j, hltj, rfl⟩
                    have okn := HOK.out _ hmem
                    have hdg := HDM.out _ hmem
                    obtain ⟨n, hne⟩ : ∃ z, z = nth l j := ⟨_, rfl⟩
                    rw [← hne] at hck okn hdg
                    have CD := depth_at y.world ma ta (T11.out.below y.below) n okn
                    rw [← HR.out] at CD
                    obtain ⟨d, hd⟩ : ∃ z, z = depthR ta n := ⟨_, rfl⟩
                    rw [← hd] at CD hdg
                    have CD := Lib.hid CD
                    have hd0 : ¬ d < 0 := by omega
                    clear hne okn hd hmem hdg
                    go_wp2_with fail
                    refine CD.out.mono ?_
                    rintro e w12 ⟨rfl, hb12⟩
                    have B12 := Lib.hid hb12
                    clear hb12 CD hck y0 y1 yz
                    go_wp2_with fail
                    go_roundw
                    case rel => go_light; exact ⟨j + 1, by omega, by go_num, ⟨_, bel_below y.below B12.out⟩, rfl⟩
                    case measure => go_light; simp [intOf]; omega
                  · obtain rfl : j = l.length := by omega
                    clear y0 y1 yz
                    go_wp2_with fail
                    refine (awake20_any _).mono ?_
                    rintro e w12 ⟨rfl, hb12⟩
                    have B12 := Lib.hid (bel_below (bel_below B11.out y.below) hb12)
                    clear hb12
                    go_wp2_with fail
                    go_ret
                    exact ⟨rfl, B12.out⟩
          · have hnI : ¬ (60 : Int) < ((nm.size : Nat) : Int) := by omega
            have hnm : nm.size ≤ 1000000 := by omega
            obtain ⟨ta, hta, IA, JA⟩ := tree_good GD0.out F (keyH_place nm) l HLV.out
            have CA := of_fin wr _ l nm GR.out FR.out GD0.out.inv SL.out HOK.out (by omega) hnm
            unfold OfPost at CA
            rw [hta] at CA
            have CA := Lib.hid CA
            have HIA := Lib.hid IA
            have HJA := Lib.hid JA
            clear hta IA JA FR
            go_wp2_with fail
            refine CA.out.mono ?_
            rintro e w8 ⟨ma, rfl, hTA, _, hb8⟩
            have B8 := Lib.hid (bel_below BR.out hb8)
            have G8 := Lib.hid (GR.out.below hb8)
            have S8 := Lib.hid (SL.out.below hb8)
            have T8 := Lib.hid hTA
            clear hTA hb8 CA GR SL BR
            obtain ⟨r, hr⟩ : ∃ z, z = ta.root := ⟨_, rfl⟩
            have HR := Lib.hid hr
            rw [← hr]
            clear hr
            go_upto_region 19 with (fail)
            obtain ⟨w9, hw9⟩ : ∃ z, z = w8.alloc (.cells #[.int .i64 r, .map (some ma)] 87) := ⟨_, rfl⟩
            obtain ⟨Y, hY⟩ : ∃ z, z = w8.heap.size := ⟨_, rfl⟩
            have b89 : Below w8.heap.size w8 w9 := by rw [hw9]; exact bel_alloc (Below.refl _ _) _
            have y0 : w9.cell? ⟨Y, 0, none⟩ = some (.int .i64 r) := by rw [hw9, hY]; simp [go_sem]
            have y1 : w9.cell? ⟨Y, 1, none⟩ = some (.map (some ma)) := by rw [hw9, hY]; simp [go_sem]
            have yz : Y < w9.heap.size := by rw [hw9, hY]; simp
            have B9 := Lib.hid (bel_below B8.out b89)
            have G9 := Lib.hid (G8.out.below b89)
            have S9 := Lib.hid (S8.out.below b89)
            have T9 := Lib.hid (T8.out.below b89)
            rw [← hw9]
            try rw [← hY]
            clear hw9 hY b89 B8 G8 S8 T8
            have hcl : (circ f0).length ≤ 32 := by rw [circ_len]; exact length_liveL f0
            have CC := Lib.hid fun (x : Later w9) => of_at (G9.out.below x.below) GD0.out.inv
            refine wp_region_heads [0, 1, 2, 3, 4, 6] 9 (fun w' => ∃ x : Later w9, w' = x.world) (by kernel_rfl) (by kernel_rfl) ⟨⟨{ w9 with drawn := w9.drawn + 1 }, (RowKit.Below.refl _ _).drew⟩, rfl⟩ ?_ ?_
            · intro d v c a w h
              cases d <;> exact h
            simp only [headOps]
            repeat (refine wpTame_step (fun K hK => ?_); go_simp; refine hK _ ?_; clear hK K)
            refine wpTame_nil ?_
            have BD : Hid (RowKit.Below w9.heap.size w9 { w9 with drawn := w9.drawn + 1 }) := (RowKit.Below.refl _ _).drew
            refine wpAnyC_step (f := 3) [5] (by kernel_rfl) rfl rfl (fun i hi => ?_)
            simp only [List.mem_cons, List.not_mem_nil, or_false] at hi
            subst hi
            refine ⟨_, rfl, fun R hR => ?_⟩
            go_wp2_with fail
            refine (CC.out ⟨_, BD.out⟩).mono ?_
            rintro e wc ⟨av, iv, rfl, hav, hiv, hbc⟩
            obtain ⟨aa, ac, rfl, _⟩ := hav.slice
            obtain ⟨ia, ic, rfl, _⟩ := hiv.slice
            have BC := Lib.hid (bel_below BD.out hbc)
            have hiv2 : SlAt 0 (fun i => .int .u64 (nth ((circ f0).map (idR f0)) i)) ((circ f0).map (idR f0)).length wc (.slice ia (circ f0).length ic) := by simpa using hiv.base (Nat.zero_le _)
            have CK := Lib.hid (check_good GD0.out (keyH_place nm) wc ma ta (T9.out.below BC.out) HIA.out HJA.out HLV.out aa ia (circ f0).length ac (circ f0).length ic nm hnm rfl (fun wr hb => cowner_at wr (circ f0) ((circ f0).map (idR f0)) _ _ ((hav.base (Nat.zero_le _)).below hb) (hiv2.below hb) (by simp) (by omega) (circ_up GD0.out.inv) (keyH nm)))
            rw [← HR.out] at CK
            obtain ⟨cl, hcle⟩ : ∃ z, z = (circ f0).length := ⟨_, rfl⟩
            rw [← hcle] at CK ⊢
            clear hav hiv hiv2 hbc CC hcle hcl
            go_wp2_with fail
            refine hR _ _ ⟨⟨_, BC.out⟩, rfl⟩ ?_
            clear hR R
            refine wpAnyC_step (f := 2) [7] (by kernel_rfl) rfl rfl (fun i hi => ?_)
            simp only [List.mem_cons, List.not_mem_nil, or_false] at hi
            subst hi
            refine ⟨_, rfl, fun R hR => ?_⟩
            go_wp2_with fail
            refine CK.out.mono ?_
            rintro e wd ⟨rfl, hbd⟩
            have BE := Lib.hid (bel_below BC.out hbd)
            clear hbd CK BC BD
            go_wp2_with fail
            refine hR _ _ ⟨⟨_, BE.out⟩, rfl⟩ ?_
            clear hR R
            refine wpAnyC_step (f := 1) [8] (by kernel_rfl) rfl rfl (fun i hi => ?_)
            simp only [List.mem_cons, List.not_mem_nil, or_false] at hi
            subst hi
            refine ⟨_, rfl, fun R hR => ?_⟩
            go_wp2_with fail
            refine hR _ _ ⟨⟨_, BE.out⟩, rfl⟩ ?_
            clear hR R
            refine wpAnyC_end (k := 9) (by decide) rfl rfl (by kernel_rfl) ?_
            have y0 := (BE.out.cell (p := ⟨Y, 0, none⟩) yz).trans y0
            have y1 := (BE.out.cell (p := ⟨Y, 1, none⟩) yz).trans y1
            have yz := Nat.lt_of_lt_of_le yz BE.out.size
            have BW := Lib.hid (bel_below B9.out BE.out)
            have CN := Lib.hid (nodes_at wd ma ta (T9.out.below BE.out) HJA.out)
            rw [← HR.out] at CN
            go_wp2_with fail
            refine CN.out.mono ?_
            rintro e w10 ⟨v10, rfl, hs10, hb10⟩
            obtain ⟨a10, c10, rfl, _⟩ := hs10.slice
            have S10 := Lib.hid (hs10.base (Nat.zero_le _))
            have y0 := (hb10.cell (p := ⟨Y, 0, none⟩) yz).trans y0
            have y1 := (hb10.cell (p := ⟨Y, 1, none⟩) yz).trans y1
            have yz := Nat.lt_of_lt_of_le yz hb10.size
            have Y10 : Hid (w10.cell? ⟨Y, 0, none⟩ = some (.int .i64 r) ∧ w10.cell? ⟨Y, 1, none⟩ = some (.map (some ma)) ∧ Y < w10.heap.size) := ⟨y0, y1, yz⟩
            have b910 := bel_below BE.out hb10
            have B10 := Lib.hid (bel_below B9.out b910)
            have G10 := Lib.hid (G9.out.below b910)
            have L10 := Lib.hid (S9.out.below b910)
            have T10 := Lib.hid (T9.out.below b910)
            have hnn : (nodesS ta).length ≤ 4000000000 := by
              have h1 := T10.out.small
              have h2 := nodes_len ta
              have h3 : (keysL ta.ups).length = ta.ups.length := by simp [keysL]
              unfold nodesL at h2
              split at h2 <;> simp at h2 <;> omega
            have HDG := Lib.hid fun x (hx : x ∈ nodesS ta) => depth_good GD0.out (keyH_place nm) HIA.out HJA.out HLV.out hx
            have HDM := Lib.hid fun x (hx : x ∈ l) => depth_mem GD0.out (keyH_place nm) HIA.out HJA.out HLV.out hx
            have HLF := Lib.hid fun x (hx : x ∈ nodesS ta) => leaf_good GD0.out (keyH_place nm) HIA.out HLV.out hx
            have HNO : Hid (∀ x, x ∈ nodesS ta → okInt x) := fun x hx => by
              rcases nodes_mem.1 hx with h | ⟨_, h⟩
              · obtain ⟨v, hv⟩ := Option.isSome_iff_exists.1 h
                exact (T10.out.up_ok hv).1
              · rw [h]; exact T10.out.root
            have HKL : Hid (∀ n, (kidsS ta n).length ≤ 4000000000) := fun n => by
              have h1 := T10.out.small
              have h3 : (keysL ta.ups).length = ta.ups.length := by simp [keysL]
              have : (kidsS ta n).length ≤ ta.ups.length := by
                unfold kidsS kidsL
                rw [List.length_mergeSort, ← h3]
                exact List.length_filter_le _ _
              omega
            obtain ⟨ns, hns⟩ : ∃ z, z = nodesS ta := ⟨_, rfl⟩
            rw [← hns] at S10 hnn HDG HLF HNO ⊢
            clear hns hs10 hb10 b910 CN BE BW B9 G9 S9 T9 y0 y1 yz
            go_wp2_with fail
            go_loopw [96] (fun jj wi => ∃ j : Nat, j ≤ ns.length ∧ jj = .int .i64 j ∧ Hid (∃ y : Later w10, wi = y.world)) (fun jj _ => ns.length - (intOf jj).toNat)
            case atStart => exact ⟨0, Nat.zero_le _, rfl, ⟨_, Below.refl _ _⟩, rfl⟩
            case round =>
              obtain ⟨j, hj, rfl, hy⟩ := hrel
              obtain ⟨y, rfl⟩ := hy
              obtain ⟨y0, y1, yz⟩ := Y10.out
              replace y0 := ((y.below).cell (p := ⟨Y, 0, none⟩) yz).trans y0
              replace y1 := ((y.below).cell (p := ⟨Y, 1, none⟩) yz).trans y1
              replace yz := Nat.lt_of_lt_of_le yz (y.below).size
              by_cases hltj : j < ns.length
              · obtain ⟨b, off, rfl, _, hbz, hck⟩ := S10.out.at j hltj y.world y.below
                have hmem : nth ns j ∈ ns := nth_mem.2 ⟨j, hltj, rfl⟩
                have okn := HNO.out _ hmem
                have hdg := HDG.out _ hmem
                have hlf := HLF.out _ hmem
                obtain ⟨n, hne⟩ : ∃ z, z = nth ns j := ⟨_, rfl⟩
                rw [← hne] at hck okn hdg hlf
                have CD : Hid (∀ w', Below y.world.heap.size y.world w' → Calls Tryz.prog 45 #[.agg #[.int .i64 r, .map (some ma)], .int .i64 n] w' fun e w'' => e = .returned (.int .i64 (depthR ta n)) ∧ Below w'.heap.size w' w'') := fun w' hb => by
                  have C := depth_at w' ma ta (T10.out.below (bel_below y.below hb)) n okn
                  rw [← HR.out] at C; exact C
                have CKD : Hid (∀ w', Below y.world.heap.size y.world w' → Calls Tryz.prog 46 #[.agg #[.int .i64 r, .map (some ma)], .int .i64 n] w' (NewList w' (kidsS ta n))) := fun w' hb => by
                  have C := kids_at w' ma ta (T10.out.below (bel_below y.below hb)) HJA.out n
                  rw [← HR.out] at C; exact C
                have CLV := Lib.hid fun w' (hb : Below y.world.heap.size y.world w') => live_at (G10.out.below (bel_below y.below hb))
                have hkl := HKL.out n
                obtain ⟨d, hd⟩ : ∃ z, z = depthR ta n := ⟨_, rfl⟩
                rw [← hd] at CD hdg
                obtain ⟨lv, hlve⟩ : ∃ z, z = liveL f0 := ⟨_, rfl⟩
                have hl32 : lv.length ≤ 32 := by rw [hlve]; exact length_liveL f0
                rw [← hlve] at CLV hdg
                obtain ⟨ks, hks⟩ : ∃ z, z = kidsS ta n := ⟨_, rfl⟩
                rw [← hks] at CKD hlf hkl
                have HLE := Lib.hid hlf
                have hd0 : ¬ d < 0 := by omega
                have hdl : ¬ ((lv.length : Nat) : Int) ≤ d := by omega
                clear hne okn hd hlve hks hlf hmem
                go_wp2_with fail
                refine (CD.out _ (Below.refl _ _)).mono ?_
                rintro e w11 ⟨rfl, hb11⟩
                replace y0 := ((hb11).cell (p := ⟨Y, 0, none⟩) yz).trans y0
                replace y1 := ((hb11).cell (p := ⟨Y, 1, none⟩) yz).trans y1
                replace yz := Nat.lt_of_lt_of_le yz (hb11).size
                have C2 := Lib.hid (CD.out _ hb11)
                have B11 := Lib.hid hb11
                clear hb11 CD hck
                go_wp2_with fail
                refine C2.out.mono ?_
                rintro e w12 ⟨rfl, hb12⟩
                replace y0 := ((hb12).cell (p := ⟨Y, 0, none⟩) yz).trans y0
                replace y1 := ((hb12).cell (p := ⟨Y, 1, none⟩) yz).trans y1
                replace yz := Nat.lt_of_lt_of_le yz (hb12).size
                have B12 := Lib.hid (bel_below B11.out hb12)
                have C3 := Lib.hid (CLV.out _ B12.out)
                clear hb12 C2 B11 CLV
                go_wp2_with fail
                refine C3.out.mono ?_
                rintro e w13 ⟨v13, rfl, hs13, hb13⟩
                obtain ⟨a13, c13, rfl, _⟩ := hs13.slice
                replace y0 := ((hb13).cell (p := ⟨Y, 0, none⟩) yz).trans y0
                replace y1 := ((hb13).cell (p := ⟨Y, 1, none⟩) yz).trans y1
                replace yz := Nat.lt_of_lt_of_le yz (hb13).size
                have B13 := Lib.hid (bel_below B12.out hb13)
                have C4 := Lib.hid (CKD.out _ B13.out)
                clear hs13 hb13 C3 B12 CKD
                go_wp2_with fail
                refine C4.out.mono ?_
                rintro e w14 ⟨v14, rfl, hs14, hb14⟩
                obtain ⟨a14, c14, rfl, _⟩ := hs14.slice
                have B14 := Lib.hid (bel_below B13.out hb14)
                clear hs14 hb14 C4 B13 y0 y1 yz
                by_cases hk0 : ks.length = 0
                · have hkb : (((ks.length : Nat) : Int) == 0) = true := by rw [beq_iff_eq]; omega
                  have CAM := Lib.hid (among_any w14 _ l (L10.out.below (bel_below y.below B14.out)) (by omega) n (HLE.out hk0))
                  go_wp2_with fail
                  refine CAM.out.mono ?_
                  rintro e w15 ⟨rfl, hb15⟩
                  have B15 := Lib.hid (bel_below B14.out hb15)
                  clear hb15 CAM
                  go_wp2_with fail
                  go_roundw
                  case rel => go_light; exact ⟨j + 1, by omega, by go_num, ⟨_, bel_below y.below B15.out⟩, rfl⟩
                  case measure => go_light; simp [intOf]; omega
                · have hkb : (((ks.length : Nat) : Int) == 0) = false := by rw [beq_eq_false_iff_ne]; omega
                  go_wp2_with fail
                  go_roundw
                  case rel => go_light; exact ⟨j + 1, by omega, by go_num, ⟨_, bel_below y.below B14.out⟩, rfl⟩
                  case measure => go_light; simp [intOf]; omega
              · obtain rfl : j = ns.length := by omega
                have Y11 := Lib.hid (show _ ∧ _ ∧ _ from ⟨y0, y1, yz⟩)
                have B11 := Lib.hid (bel_below B10.out y.below)
                have L11 := Lib.hid (L10.out.below y.below)
                have T11 := Lib.hid (T10.out.below y.below)
                clear y0 y1 yz Y10 L10 T10 G10 HDG HLF HNO HKL
                obtain ⟨w11, hw11⟩ : ∃ z, z = y.world := ⟨_, rfl⟩
                rw [← hw11] at Y11 B11 L11 T11 ⊢
                clear hw11
                go_wp2_with fail
                go_loopw [127] (fun jj wi => ∃ j : Nat, j ≤ l.length ∧ jj = .int .i64 j ∧ Hid (∃ y : Later w11, wi = y.world)) (fun jj _ => l.length - (intOf jj).toNat)
                case atStart => exact ⟨0, Nat.zero_le _, rfl, ⟨_, Below.refl _ _⟩, rfl⟩
                case round =>
                  obtain ⟨j, hj, rfl, hy⟩ := hrel
                  obtain ⟨y, rfl⟩ := hy
                  obtain ⟨y0, y1, yz⟩ := Y11.out
                  replace y0 := ((y.below).cell (p := ⟨Y, 0, none⟩) yz).trans y0
                  replace y1 := ((y.below).cell (p := ⟨Y, 1, none⟩) yz).trans y1
                  replace yz := Nat.lt_of_lt_of_le yz (y.below).size
                  by_cases hltj : j < l.length
                  · obtain ⟨b, off, rfl, _, hbz, hck⟩ := L11.out.at j hltj y.world y.below
                    have hmem : nth l j ∈ l := nth_mem.2 ⟨j, hltj, rfl⟩
                    have okn := HOK.out _ hmem
                    have hdg := HDM.out _ hmem
                    obtain ⟨n, hne⟩ : ∃ z, z = nth l j := ⟨_, rfl⟩
                    rw [← hne] at hck okn hdg
                    have CD := depth_at y.world ma ta (T11.out.below y.below) n okn
                    rw [← HR.out] at CD
                    obtain ⟨d, hd⟩ : ∃ z, z = depthR ta n := ⟨_, rfl⟩
                    rw [← hd] at CD hdg
                    have CD := Lib.hid CD
                    have hd0 : ¬ d < 0 := by omega
                    clear hne okn hd hmem hdg
                    go_wp2_with fail
                    refine CD.out.mono ?_
                    rintro e w12 ⟨rfl, hb12⟩
                    have B12 := Lib.hid hb12
                    clear hb12 CD hck y0 y1 yz
                    go_wp2_with fail
                    go_roundw
                    case rel => go_light; exact ⟨j + 1, by omega, by go_num, ⟨_, bel_below y.below B12.out⟩, rfl⟩
                    case measure => go_light; simp [intOf]; omega
                  · obtain rfl : j = l.length := by omega
                    clear y0 y1 yz
                    go_wp2_with fail
                    refine (awake20_any _).mono ?_
                    rintro e w12 ⟨rfl, hb12⟩
                    have B12 := Lib.hid (bel_below (bel_below B11.out y.below) hb12)
                    clear hb12
                    go_wp2_with fail
                    go_ret
                    exact ⟨rfl, B12.out⟩
set_option maxRecDepth 100000 in
theorem treeCalm_walk {H : Type} (enc : TypeId × Value → H) (W : World) (v0 : Value) (d0 : DataW H) (p0 : List MemPlace) {r0 : Reach} {b0 : Nat} (ok0 : Value.okWide Tryz.prog W r0 b0 22 v0) (h0 : DataW.Trod enc Tryz.prog W 0 (fun _ => true) true 22 v0 d0 p0)
    (hlt0 : ∀ x ∈ p0, x.block < W.heap.size) (sz0 : ∀ n ∈ d0.weights Tryz.prog 22, n ≤ reachBytes) (v1 : Value) (d1 : DataW H) (p1 : List MemPlace) {r1 : Reach} {b1 : Nat} (ok1 : Value.okWide Tryz.prog W r1 b1 23 v1) (h1 : DataW.Trod enc Tryz.prog W 0 (fun _ => true) true 23 v1 d1 p1)
    (hlt1 : ∀ x ∈ p1, x.block < W.heap.size) (sz1 : ∀ n ∈ d1.weights Tryz.prog 23, n ≤ reachBytes) (a2 : ByteArray) (y2 : a2.size ≤ 140737488351232) (v3 : Value) (d3 : DataW H) (p3 : List MemPlace) {r3 : Reach} {b3 : Nat} (ok3 : Value.okWide Tryz.prog W r3 b3 39 v3) (h3 : DataW.Trod enc Tryz.prog W 0 (fun _ => true) true 39 v3 d3 p3)
    (hlt3 : ∀ x ∈ p3, x.block < W.heap.size) (sz3 : ∀ n ∈ d3.weights Tryz.prog 39, n ≤ reachBytes) (hg : HandleAt W) :
    Calls Tryz.prog 8 #[v0, v1, .string a2, v3] W fun e W' => e = .returned (.bool true) ∧ RowKit.Below W.heap.size W W' := by
  obtain ⟨ids, hi, hp⟩ := ids_open ok0 h0
  obtain ⟨acts, ha, hao⟩ := acts_open ok1 h1
  obtain ⟨ms, hm, hmo⟩ := ints_open ok3 h3
  exact treeCalm_main W hg v0 v1 v3 ids acts a2 ms hi hp ha hao hm hmo
end Go.Proofs.YtbhaapkafgieiaaGreatDoor
