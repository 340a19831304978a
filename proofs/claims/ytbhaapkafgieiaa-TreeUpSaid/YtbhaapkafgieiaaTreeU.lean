
/-
  TreeUp walked.
-/
import Derived.Test.YtbhaapkafgieiaaTreeC
namespace Go.Proofs.Ytbhaapkafgieiaa
open Go.RowKit Go.Maps Go.Sort Go.WideShapes Go.ChangeShapes Go.Deep
set_option linter.unusedVariables false
set_option linter.unusedSimpArgs false
attribute [local go_sem] later_cell later_frozen later_lt cell_set_off cell_set_block

set_option maxRecDepth 100000 in
set_option maxHeartbeats 32000000 in
theorem treeUp_main (W : World) (v0 v1 : Value) (l0 m0 : List Int) (h0 : SlAt 0 (fun i => .int .i64 (nth l0 i)) l0.length W v0) (hl : ∀ x ∈ l0, okInt x) (h1 : SlAt 0 (fun i => .int .i64 (nth m0 i)) m0.length W v1) (hm : ∀ x ∈ m0, okInt x) :
    Calls Try.prog 3 #[v0, v1] W fun e w' => e = .returned (.bool true) ∧ Below W.heap.size W w' := by
  obtain ⟨a0, c0, rfl, hc0, hm0⟩ := h0.slice
  obtain ⟨a1, c1, rfl, hc1, hm1⟩ := h1.slice
  unfold maxLen at hm0 hm1
  have cut : ∀ (l : List Int) (a : Option Addr) (c : Nat), SlAt 0 (fun i => .int .i64 (nth l i)) l.length W (.slice a l.length c) → 12 < l.length → SlAt 0 (fun i => .int .i64 (nth (l.take 12) i)) (l.take 12).length W (.slice a 12 c) := fun l a c h hlt => by
    have e : (l.take 12).length = 12 := by simp; omega
    rw [e]
    exact (h.take (m := 12) (by omega)).congr fun i hi => by rw [nth_take hi]
  have cutm : ∀ (l : List Int), (∀ x ∈ l, okInt x) → ∀ x ∈ l.take 12, okInt x := fun l h x hx => h x (List.mem_of_mem_take hx)
  have len12 : ∀ l : List Int, 12 < l.length → (l.take 12).length = 12 := fun l h => by simp; omega
  go_enter Try.func3, Try.ntmps3
  have fin : ∀ l : List Int, ¬ 12 < l.length → l.length ≤ 12 := fun l h => by omega
  by_cases hA : 12 < l0.length
  · have hAI : (12 : Int) < ((l0.length : Nat) : Int) := by omega
    obtain ⟨l, hle⟩ : ∃ z, z = l0.take 12 := ⟨_, rfl⟩
    have SL := Lib.hid (cut _ _ _ h0 hA)
    have HLO := Lib.hid (cutm _ hl)
    have HL := len12 _ hA
    rw [← hle] at SL HLO HL
    have HL12 : l.length ≤ 12 := by omega
    have e0 : Value.slice a0 12 c0 = Value.slice a0 l.length c0 := by rw [HL]
    clear h0 hl hle HL hA
    by_cases hB : 12 < m0.length
    · have hBI : (12 : Int) < ((m0.length : Nat) : Int) := by omega
      obtain ⟨ms, hme⟩ : ∃ z, z = m0.take 12 := ⟨_, rfl⟩
      have SM := Lib.hid (cut _ _ _ h1 hB)
      have HMO := Lib.hid (cutm _ hm)
      have HM := len12 _ hB
      rw [← hme] at SM HMO HM
      have HM12 : ms.length ≤ 12 := by omega
      have e1 : Value.slice a1 12 c1 = Value.slice a1 ms.length c1 := by rw [HM]
      clear h1 hm hme HM hB cut cutm len12 fin
      go_upto_region 5 with (fail)
      rw [e0] at SL
      try rw [e0]
      rw [e1] at SM
      try rw [e1]
      clear e0 e1 hc0 hm0 hc1 hm1
      have hl12 : l.length ≤ 12 := HL12
      have hm12 : ms.length ≤ 12 := HM12
      have CO := of_list W _ _ l ms (ByteArray.mk #[103]) SL.out HLO.out SM.out HMO.out (by omega) (by decide)
      unfold OfPost at CO
      cases hT : treeR (nxL l) ms with
      | inr c =>
        rw [hT] at CO
        have CO := Lib.hid CO
        clear hT
        go_wp2_with fail
        refine CO.out.mono ?_
        rintro e w2 ⟨v, rfl, hE, hb2⟩
        have B2 := Lib.hid hb2
        clear hb2
        rcases hE with rfl | ⟨b, rfl, _⟩
        · go_wp2_with fail
          refine (awake20_any _).mono ?_
          rintro e w9 ⟨rfl, hb9⟩
          go_wp2_with fail
          go_ret
          exact ⟨rfl, bel_below (bel_alloc B2.out _) hb9⟩
        · go_wp2_with fail
          refine (awake20_any _).mono ?_
          rintro e w9 ⟨rfl, hb9⟩
          go_wp2_with fail
          go_ret
          exact ⟨rfl, bel_below (bel_alloc B2.out _) hb9⟩
      | inl t =>
        rw [hT] at CO
        obtain ⟨I, hgr, hroot⟩ := tree_inv hT
        have h0 : ms.length = 0 → t.root = -1 := fun h => by
          have : ms = [] := List.length_eq_zero_iff.1 h
          rw [this] at hgr
          have : t0 = t := by simpa [grows] using hgr
          rw [← this]; rfl
        have CO := Lib.hid CO
        have HI := Lib.hid I
        clear hT hgr I
        go_wp2_with fail
        refine CO.out.mono ?_
        rintro e w2 ⟨mb, rfl, hT, _, hb2⟩
        have T2 := Lib.hid hT
        have B2 := Lib.hid hb2
        obtain ⟨w3, hw3⟩ : ∃ z, z = w2.alloc (.cells #[.int .i64 t.root, .map (some mb)] 25) := ⟨_, rfl⟩
        obtain ⟨X, hX⟩ : ∃ z, z = w2.heap.size := ⟨_, rfl⟩
        have b23 : Below w2.heap.size w2 w3 := by rw [hw3]; exact bel_alloc (Below.refl _ _) _
        have x0 : w3.cell? ⟨X, 0, none⟩ = some (.int .i64 t.root) := by rw [hw3, hX]; simp [go_sem]
        have x1 : w3.cell? ⟨X, 1, none⟩ = some (.map (some mb)) := by rw [hw3, hX]; simp [go_sem]
        have xz : X < w3.heap.size := by rw [hw3, hX]; simp
        have B3 := Lib.hid (bel_below hb2 b23)
        have T3 := Lib.hid (hT.below b23)
        have CD := Lib.hid fun wr (hb : Below w3.heap.size w3 wr) n hn => depth_at wr mb t (T3.out.below hb) n hn
        have CK := Lib.hid fun wr (hb : Below w3.heap.size w3 wr) n => kids_at wr mb t (T3.out.below hb) HI.out n
        clear hT hb2 b23 CO
        by_cases hm0 : ms.length = 0
        · have hr := h0 hm0
          have hm0b : (((ms.length : Nat) : Int) == 0) = true := by rw [beq_iff_eq]; omega
          rw [hr] at x0 hw3 ⊢
          clear hm0 h0 hroot
          go_wp2_with fail
          rw [← hw3]
          try rw [← hX]
          clear hw3 hX
          refine (awake20_any _).mono ?_
          rintro e w9 ⟨rfl, hb9⟩
          have x0 := (hb9.cell (p := ⟨X, 0, none⟩) xz).trans x0
          have xz := Nat.lt_of_lt_of_le xz hb9.size
          have B9 := Lib.hid (bel_below B3.out hb9)
          clear hb9
          go_wp2_with fail
          go_ret
          exact ⟨rfl, B9.out⟩
        · have hm0b : (((ms.length : Nat) : Int) == 0) = false := by rw [beq_eq_false_iff_ne]; omega
          have hr := hroot (by omega)
          have HUP := Lib.hid fun n c h hd => depth_up HI.out hr (n := n) (c := c) h hd
          have HD0 := Lib.hid (depth_root HI.out hr)
          have HDB := Lib.hid fun n => (by
            have hs := T3.out.small
            rcases depth_iff HI.out hr n with ⟨d, hc, he⟩ | ⟨he, _⟩
            · have := climbs_le HI.out hr hc; omega
            · omega : -1 ≤ depthR t n ∧ depthR t n ≤ 100000)
          have HKM := Lib.hid fun n c => kids_mem (t := t) (n := n) (c := c)
          have HOK := Lib.hid fun n m (h : t.up n = some m) => T3.out.up_ok h
          have hrok := T3.out.root
          obtain ⟨r, hre⟩ : ∃ z, z = t.root := ⟨_, rfl⟩
          rw [← hre] at x0 CD CK HD0 hrok hw3 ⊢
          clear hm0 h0 hroot hr hre
          go_wp2_with fail
          rw [← hw3, ← hX]
          clear hw3 hX
          go_loopw [7] (fun i wr => ∃ k : Nat, k ≤ l.length ∧ i = .int .i64 k ∧ Hid (Below w3.heap.size w3 wr)) (fun i _ => l.length - (intOf i).toNat)
          case atStart => exact ⟨0, Nat.zero_le _, rfl, Below.refl _ _⟩
          case round =>
            obtain ⟨q, hq, rfl, hB⟩ := hrel
            have x0 := (hB.out.cell (p := ⟨X, 0, none⟩) xz).trans x0
            have x1 := (hB.out.cell (p := ⟨X, 1, none⟩) xz).trans x1
            have xz := Nat.lt_of_lt_of_le xz hB.out.size
            by_cases hlt : q < l.length
            · have hltI : ((q : Nat) : Int) < (l.length : Int) := by omega
              have CKq := Lib.hid (CK.out wr hB.out (q : Nat))
              obtain ⟨L, hL⟩ : ∃ z, z = kidsS t (q : Nat) := ⟨_, rfl⟩
              rw [← hL] at CKq
              have HL := Lib.hid hL
              clear hL
              go_wp2_with fail
              refine CKq.out.mono ?_
              rintro e w5 ⟨v5, rfl, hs5, hb5⟩
              obtain ⟨a5, c5, rfl, hc5, hm5⟩ := hs5.slice
              have hLm : L.length ≤ 9223372036854775807 := by unfold maxLen at hm5; omega
              have S5 := Lib.hid (hs5.base (Nat.zero_le _))
              have x0 := (hb5.cell (p := ⟨X, 0, none⟩) xz).trans x0
              have x1 := (hb5.cell (p := ⟨X, 1, none⟩) xz).trans x1
              have xz := Nat.lt_of_lt_of_le xz hb5.size
              have B5 := Lib.hid (bel_below hB.out hb5)
              clear hs5 hb5 hB
              go_wp2_with fail
              go_loopw [54] (fun i wr => ∃ k : Nat, k ≤ L.length ∧ i = .int .i64 k ∧ Hid (Below w5.heap.size w5 wr)) (fun i _ => L.length - (intOf i).toNat)
              case atStart => exact ⟨0, Nat.zero_le _, rfl, Below.refl _ _⟩
              case round =>
                obtain ⟨k, hk, rfl, hBi⟩ := hrel
                have x0 := (hBi.out.cell (p := ⟨X, 0, none⟩) xz).trans x0
                have x1 := (hBi.out.cell (p := ⟨X, 1, none⟩) xz).trans x1
                have xz := Nat.lt_of_lt_of_le xz hBi.out.size
                by_cases hlk : k < L.length
                · obtain ⟨b, off, rfl, _, hbz, hck⟩ := S5.out.at k hlk wr hBi.out
                  have hup := (HKM.out (q : Nat) (nth L k)).1 (by rw [← HL.out]; exact nth_mem.2 ⟨k, hlk, rfl⟩)
                  obtain ⟨c, hc⟩ : ∃ z, z = nth L k := ⟨_, rfl⟩
                  rw [← hc] at hck hup
                  have hok := HOK.out _ _ hup
                  have hdu := HUP.out _ _ hup
                  have C1 := Lib.hid fun wr' (hb : Below wr.heap.size wr wr') => CD.out wr' (bel_below B5.out (bel_below hBi.out hb)) (q : Nat) hok.2
                  have C2 := Lib.hid fun wr' (hb : Below wr.heap.size wr wr') => CD.out wr' (bel_below B5.out (bel_below hBi.out hb)) c hok.1
                  obtain ⟨dn, hdn⟩ : ∃ z, z = depthR t (q : Nat) := ⟨_, rfl⟩
                  obtain ⟨dc, hdc⟩ : ∃ z, z = depthR t c := ⟨_, rfl⟩
                  rw [← hdn] at C1 hdu
                  rw [← hdc] at C2 hdu
                  have hdb := HDB.out (q : Nat)
                  rw [← hdn] at hdb
                  clear hc hok hup hdn hdc
                  by_cases hd0 : 0 ≤ dn
                  · have hdd := hdu hd0
                    subst hdd
                    have hwp : IntKind.i64.wrap (dn + 1) = dn + 1 := by rw [IntKind.wrap_i64]; omega
                    clear hdu hdb
                    go_wp2_with fail
                    refine wp_region_calm (by kernel_rfl) (by kernel_rfl) ?_
                    repeat (first | (go_big_quiet_step ((first | (go_at_call_of 10 (Value.int .i64 c); exact calls_calm (C2.out _ (by (repeat (first | exact Below.refl _ _ | (with_reducible assumption) | (with_reducible refine bel_later ?_ _) | (with_reducible refine bel_alloc ?_ _) | (with_reducible refine bel_drew ?_) | (with_reducible refine bel_drewN ?_ _) | (with_reducible refine bel_set ?_ (by first | (simp; done) | (simp; omega) | (dsimp only; omega)) _)))))) | (go_at_call 10; exact calls_calm (C1.out _ (by (repeat (first | exact Below.refl _ _ | (with_reducible assumption) | (with_reducible refine bel_later ?_ _) | (with_reducible refine bel_alloc ?_ _) | (with_reducible refine bel_drew ?_) | (with_reducible refine bel_drewN ?_ _) | (with_reducible refine bel_set ?_ (by first | (simp; done) | (simp; omega) | (dsimp only; omega)) _))))))))) | (refine wpQuiet_step (fun K hK => ?_); go_simp; first | (refine hK _ ?_; clear hK K) | (apply Exists.intro; refine ⟨fun _ => ?_, hK _ ?_⟩; (first | (go_at_call_of 10 (Value.int .i64 c); exact calls_calm (C2.out _ (by (repeat (first | exact Below.refl _ _ | (with_reducible assumption) | (with_reducible refine bel_later ?_ _) | (with_reducible refine bel_alloc ?_ _) | (with_reducible refine bel_drew ?_) | (with_reducible refine bel_drewN ?_ _) | (with_reducible refine bel_set ?_ (by first | (simp; done) | (simp; omega) | (dsimp only; omega)) _)))))) | (go_at_call 10; exact calls_calm (C1.out _ (by (repeat (first | exact Below.refl _ _ | (with_reducible assumption) | (with_reducible refine bel_later ?_ _) | (with_reducible refine bel_alloc ?_ _) | (with_reducible refine bel_drew ?_) | (with_reducible refine bel_drewN ?_ _) | (with_reducible refine bel_set ?_ (by first | (simp; done) | (simp; omega) | (dsimp only; omega)) _))))))); clear hK K)))
                    refine wpQuiet_nil ?_
                    intro _ hw'
                    obtain ⟨xq, hw''⟩ := hw'
                    subst hw''
                    obtain ⟨wy, hby⟩ := xq
                    dsimp only
                    have BY := Lib.hid (bel_below hBi.out hby)
                    clear hby C1 C2 hck x0 x1 xz
                    go_wp2_with fail
                    go_roundw
                    case rel => go_light; exact ⟨k + 1, by omega, by go_num, BY⟩
                    case measure => go_light; simp [intOf]; omega
                  · have hd0b : decide (0 ≤ dn) = false := by simpa using hd0
                    have hd1 : dn < 0 := by omega
                    clear hdu hdb
                    go_wp2_with fail
                    refine wp_region_calm (by kernel_rfl) (by kernel_rfl) ?_
                    repeat (first | (go_big_quiet_step ((first | (go_at_call_of 10 (Value.int .i64 c); exact calls_calm (C2.out _ (by (repeat (first | exact Below.refl _ _ | (with_reducible assumption) | (with_reducible refine bel_later ?_ _) | (with_reducible refine bel_alloc ?_ _) | (with_reducible refine bel_drew ?_) | (with_reducible refine bel_drewN ?_ _) | (with_reducible refine bel_set ?_ (by first | (simp; done) | (simp; omega) | (dsimp only; omega)) _)))))) | (go_at_call 10; exact calls_calm (C1.out _ (by (repeat (first | exact Below.refl _ _ | (with_reducible assumption) | (with_reducible refine bel_later ?_ _) | (with_reducible refine bel_alloc ?_ _) | (with_reducible refine bel_drew ?_) | (with_reducible refine bel_drewN ?_ _) | (with_reducible refine bel_set ?_ (by first | (simp; done) | (simp; omega) | (dsimp only; omega)) _))))))))) | (refine wpQuiet_step (fun K hK => ?_); go_simp; first | (refine hK _ ?_; clear hK K) | (apply Exists.intro; refine ⟨fun _ => ?_, hK _ ?_⟩; (first | (go_at_call_of 10 (Value.int .i64 c); exact calls_calm (C2.out _ (by (repeat (first | exact Below.refl _ _ | (with_reducible assumption) | (with_reducible refine bel_later ?_ _) | (with_reducible refine bel_alloc ?_ _) | (with_reducible refine bel_drew ?_) | (with_reducible refine bel_drewN ?_ _) | (with_reducible refine bel_set ?_ (by first | (simp; done) | (simp; omega) | (dsimp only; omega)) _)))))) | (go_at_call 10; exact calls_calm (C1.out _ (by (repeat (first | exact Below.refl _ _ | (with_reducible assumption) | (with_reducible refine bel_later ?_ _) | (with_reducible refine bel_alloc ?_ _) | (with_reducible refine bel_drew ?_) | (with_reducible refine bel_drewN ?_ _) | (with_reducible refine bel_set ?_ (by first | (simp; done) | (simp; omega) | (dsimp only; omega)) _))))))); clear hK K)))
                    refine wpQuiet_nil ?_
                    intro _ hw'
                    obtain ⟨xq, hw''⟩ := hw'
                    subst hw''
                    obtain ⟨wy, hby⟩ := xq
                    dsimp only
                    have BY := Lib.hid (bel_below hBi.out hby)
                    clear hby C1 C2 hck x0 x1 xz
                    go_wp2_with fail
                    go_roundw
                    case rel => go_light; exact ⟨k + 1, by omega, by go_num, BY⟩
                    case measure => go_light; simp [intOf]; omega
                · obtain rfl : k = L.length := by omega
                  go_wp2_with fail
                  go_roundw
                  case rel => go_light; exact ⟨q + 1, by omega, by go_num, bel_below B5.out hBi.out⟩
                  case measure => go_light; simp [intOf]; omega
            · obtain rfl : q = l.length := by omega
              have hltI : ¬ ((l.length : Nat) : Int) < (l.length : Int) := by omega
              go_wp2_with fail
              refine (awake20_any _).mono ?_
              rintro e w9 ⟨rfl, hb9⟩
              have x0 := (hb9.cell (p := ⟨X, 0, none⟩) xz).trans x0
              have x1 := (hb9.cell (p := ⟨X, 1, none⟩) xz).trans x1
              have xz := Nat.lt_of_lt_of_le xz hb9.size
              have B9 := Lib.hid (bel_below hB.out hb9)
              have C1 := Lib.hid (CD.out w9 B9.out r hrok)
              rw [HD0.out] at C1
              clear hb9
              go_wp2_with fail
              refine C1.out.mono ?_
              rintro e wA ⟨rfl, hbA⟩
              go_wp2_with fail
              go_ret
              exact ⟨rfl, bel_below B3.out (bel_below B9.out hbA)⟩
    · have hBI : ¬ (12 : Int) < ((m0.length : Nat) : Int) := by omega
      obtain ⟨ms, rfl⟩ : ∃ z, z = m0 := ⟨_, rfl⟩
      have SM := Lib.hid h1
      have HMO := Lib.hid hm
      have HM12 := fin _ hB
      clear h1 hm hB cut cutm len12 fin
      go_upto_region 5 with (fail)
      rw [e0] at SL
      try rw [e0]
      clear e0 hc0 hm0 hc1 hm1
      have hl12 : l.length ≤ 12 := HL12
      have hm12 : ms.length ≤ 12 := HM12
      have CO := of_list W _ _ l ms (ByteArray.mk #[103]) SL.out HLO.out SM.out HMO.out (by omega) (by decide)
      unfold OfPost at CO
      cases hT : treeR (nxL l) ms with
      | inr c =>
        rw [hT] at CO
        have CO := Lib.hid CO
        clear hT
        go_wp2_with fail
        refine CO.out.mono ?_
        rintro e w2 ⟨v, rfl, hE, hb2⟩
        have B2 := Lib.hid hb2
        clear hb2
        rcases hE with rfl | ⟨b, rfl, _⟩
        · go_wp2_with fail
          refine (awake20_any _).mono ?_
          rintro e w9 ⟨rfl, hb9⟩
          go_wp2_with fail
          go_ret
          exact ⟨rfl, bel_below (bel_alloc B2.out _) hb9⟩
        · go_wp2_with fail
          refine (awake20_any _).mono ?_
          rintro e w9 ⟨rfl, hb9⟩
          go_wp2_with fail
          go_ret
          exact ⟨rfl, bel_below (bel_alloc B2.out _) hb9⟩
      | inl t =>
        rw [hT] at CO
        obtain ⟨I, hgr, hroot⟩ := tree_inv hT
        have h0 : ms.length = 0 → t.root = -1 := fun h => by
          have : ms = [] := List.length_eq_zero_iff.1 h
          rw [this] at hgr
          have : t0 = t := by simpa [grows] using hgr
          rw [← this]; rfl
        have CO := Lib.hid CO
        have HI := Lib.hid I
        clear hT hgr I
        go_wp2_with fail
        refine CO.out.mono ?_
        rintro e w2 ⟨mb, rfl, hT, _, hb2⟩
        have T2 := Lib.hid hT
        have B2 := Lib.hid hb2
        obtain ⟨w3, hw3⟩ : ∃ z, z = w2.alloc (.cells #[.int .i64 t.root, .map (some mb)] 25) := ⟨_, rfl⟩
        obtain ⟨X, hX⟩ : ∃ z, z = w2.heap.size := ⟨_, rfl⟩
        have b23 : Below w2.heap.size w2 w3 := by rw [hw3]; exact bel_alloc (Below.refl _ _) _
        have x0 : w3.cell? ⟨X, 0, none⟩ = some (.int .i64 t.root) := by rw [hw3, hX]; simp [go_sem]
        have x1 : w3.cell? ⟨X, 1, none⟩ = some (.map (some mb)) := by rw [hw3, hX]; simp [go_sem]
        have xz : X < w3.heap.size := by rw [hw3, hX]; simp
        have B3 := Lib.hid (bel_below hb2 b23)
        have T3 := Lib.hid (hT.below b23)
        have CD := Lib.hid fun wr (hb : Below w3.heap.size w3 wr) n hn => depth_at wr mb t (T3.out.below hb) n hn
        have CK := Lib.hid fun wr (hb : Below w3.heap.size w3 wr) n => kids_at wr mb t (T3.out.below hb) HI.out n
        clear hT hb2 b23 CO
        by_cases hm0 : ms.length = 0
        · have hr := h0 hm0
          have hm0b : (((ms.length : Nat) : Int) == 0) = true := by rw [beq_iff_eq]; omega
          rw [hr] at x0 hw3 ⊢
          clear hm0 h0 hroot
          go_wp2_with fail
          rw [← hw3]
          try rw [← hX]
          clear hw3 hX
          refine (awake20_any _).mono ?_
          rintro e w9 ⟨rfl, hb9⟩
          have x0 := (hb9.cell (p := ⟨X, 0, none⟩) xz).trans x0
          have xz := Nat.lt_of_lt_of_le xz hb9.size
          have B9 := Lib.hid (bel_below B3.out hb9)
          clear hb9
          go_wp2_with fail
          go_ret
          exact ⟨rfl, B9.out⟩
        · have hm0b : (((ms.length : Nat) : Int) == 0) = false := by rw [beq_eq_false_iff_ne]; omega
          have hr := hroot (by omega)
          have HUP := Lib.hid fun n c h hd => depth_up HI.out hr (n := n) (c := c) h hd
          have HD0 := Lib.hid (depth_root HI.out hr)
          have HDB := Lib.hid fun n => (by
            have hs := T3.out.small
            rcases depth_iff HI.out hr n with ⟨d, hc, he⟩ | ⟨he, _⟩
            · have := climbs_le HI.out hr hc; omega
            · omega : -1 ≤ depthR t n ∧ depthR t n ≤ 100000)
          have HKM := Lib.hid fun n c => kids_mem (t := t) (n := n) (c := c)
          have HOK := Lib.hid fun n m (h : t.up n = some m) => T3.out.up_ok h
          have hrok := T3.out.root
          obtain ⟨r, hre⟩ : ∃ z, z = t.root := ⟨_, rfl⟩
          rw [← hre] at x0 CD CK HD0 hrok hw3 ⊢
          clear hm0 h0 hroot hr hre
          go_wp2_with fail
          rw [← hw3, ← hX]
          clear hw3 hX
          go_loopw [7] (fun i wr => ∃ k : Nat, k ≤ l.length ∧ i = .int .i64 k ∧ Hid (Below w3.heap.size w3 wr)) (fun i _ => l.length - (intOf i).toNat)
          case atStart => exact ⟨0, Nat.zero_le _, rfl, Below.refl _ _⟩
          case round =>
            obtain ⟨q, hq, rfl, hB⟩ := hrel
            have x0 := (hB.out.cell (p := ⟨X, 0, none⟩) xz).trans x0
            have x1 := (hB.out.cell (p := ⟨X, 1, none⟩) xz).trans x1
            have xz := Nat.lt_of_lt_of_le xz hB.out.size
            by_cases hlt : q < l.length
            · have hltI : ((q : Nat) : Int) < (l.length : Int) := by omega
              have CKq := Lib.hid (CK.out wr hB.out (q : Nat))
              obtain ⟨L, hL⟩ : ∃ z, z = kidsS t (q : Nat) := ⟨_, rfl⟩
              rw [← hL] at CKq
              have HL := Lib.hid hL
              clear hL
              go_wp2_with fail
              refine CKq.out.mono ?_
              rintro e w5 ⟨v5, rfl, hs5, hb5⟩
              obtain ⟨a5, c5, rfl, hc5, hm5⟩ := hs5.slice
              have hLm : L.length ≤ 9223372036854775807 := by unfold maxLen at hm5; omega
              have S5 := Lib.hid (hs5.base (Nat.zero_le _))
              have x0 := (hb5.cell (p := ⟨X, 0, none⟩) xz).trans x0
              have x1 := (hb5.cell (p := ⟨X, 1, none⟩) xz).trans x1
              have xz := Nat.lt_of_lt_of_le xz hb5.size
              have B5 := Lib.hid (bel_below hB.out hb5)
              clear hs5 hb5 hB
              go_wp2_with fail
              go_loopw [54] (fun i wr => ∃ k : Nat, k ≤ L.length ∧ i = .int .i64 k ∧ Hid (Below w5.heap.size w5 wr)) (fun i _ => L.length - (intOf i).toNat)
              case atStart => exact ⟨0, Nat.zero_le _, rfl, Below.refl _ _⟩
              case round =>
                obtain ⟨k, hk, rfl, hBi⟩ := hrel
                have x0 := (hBi.out.cell (p := ⟨X, 0, none⟩) xz).trans x0
                have x1 := (hBi.out.cell (p := ⟨X, 1, none⟩) xz).trans x1
                have xz := Nat.lt_of_lt_of_le xz hBi.out.size
                by_cases hlk : k < L.length
                · obtain ⟨b, off, rfl, _, hbz, hck⟩ := S5.out.at k hlk wr hBi.out
                  have hup := (HKM.out (q : Nat) (nth L k)).1 (by rw [← HL.out]; exact nth_mem.2 ⟨k, hlk, rfl⟩)
                  obtain ⟨c, hc⟩ : ∃ z, z = nth L k := ⟨_, rfl⟩
                  rw [← hc] at hck hup
                  have hok := HOK.out _ _ hup
                  have hdu := HUP.out _ _ hup
                  have C1 := Lib.hid fun wr' (hb : Below wr.heap.size wr wr') => CD.out wr' (bel_below B5.out (bel_below hBi.out hb)) (q : Nat) hok.2
                  have C2 := Lib.hid fun wr' (hb : Below wr.heap.size wr wr') => CD.out wr' (bel_below B5.out (bel_below hBi.out hb)) c hok.1
                  obtain ⟨dn, hdn⟩ : ∃ z, z = depthR t (q : Nat) := ⟨_, rfl⟩
                  obtain ⟨dc, hdc⟩ : ∃ z, z = depthR t c := ⟨_, rfl⟩
                  rw [← hdn] at C1 hdu
                  rw [← hdc] at C2 hdu
                  have hdb := HDB.out (q : Nat)
                  rw [← hdn] at hdb
                  clear hc hok hup hdn hdc
                  by_cases hd0 : 0 ≤ dn
                  · have hdd := hdu hd0
                    subst hdd
                    have hwp : IntKind.i64.wrap (dn + 1) = dn + 1 := by rw [IntKind.wrap_i64]; omega
                    clear hdu hdb
                    go_wp2_with fail
                    refine wp_region_calm (by kernel_rfl) (by kernel_rfl) ?_
                    repeat (first | (go_big_quiet_step ((first | (go_at_call_of 10 (Value.int .i64 c); exact calls_calm (C2.out _ (by (repeat (first | exact Below.refl _ _ | (with_reducible assumption) | (with_reducible refine bel_later ?_ _) | (with_reducible refine bel_alloc ?_ _) | (with_reducible refine bel_drew ?_) | (with_reducible refine bel_drewN ?_ _) | (with_reducible refine bel_set ?_ (by first | (simp; done) | (simp; omega) | (dsimp only; omega)) _)))))) | (go_at_call 10; exact calls_calm (C1.out _ (by (repeat (first | exact Below.refl _ _ | (with_reducible assumption) | (with_reducible refine bel_later ?_ _) | (with_reducible refine bel_alloc ?_ _) | (with_reducible refine bel_drew ?_) | (with_reducible refine bel_drewN ?_ _) | (with_reducible refine bel_set ?_ (by first | (simp; done) | (simp; omega) | (dsimp only; omega)) _))))))))) | (refine wpQuiet_step (fun K hK => ?_); go_simp; first | (refine hK _ ?_; clear hK K) | (apply Exists.intro; refine ⟨fun _ => ?_, hK _ ?_⟩; (first | (go_at_call_of 10 (Value.int .i64 c); exact calls_calm (C2.out _ (by (repeat (first | exact Below.refl _ _ | (with_reducible assumption) | (with_reducible refine bel_later ?_ _) | (with_reducible refine bel_alloc ?_ _) | (with_reducible refine bel_drew ?_) | (with_reducible refine bel_drewN ?_ _) | (with_reducible refine bel_set ?_ (by first | (simp; done) | (simp; omega) | (dsimp only; omega)) _)))))) | (go_at_call 10; exact calls_calm (C1.out _ (by (repeat (first | exact Below.refl _ _ | (with_reducible assumption) | (with_reducible refine bel_later ?_ _) | (with_reducible refine bel_alloc ?_ _) | (with_reducible refine bel_drew ?_) | (with_reducible refine bel_drewN ?_ _) | (with_reducible refine bel_set ?_ (by first | (simp; done) | (simp; omega) | (dsimp only; omega)) _))))))); clear hK K)))
                    refine wpQuiet_nil ?_
                    intro _ hw'
                    obtain ⟨xq, hw''⟩ := hw'
                    subst hw''
                    obtain ⟨wy, hby⟩ := xq
                    dsimp only
                    have BY := Lib.hid (bel_below hBi.out hby)
                    clear hby C1 C2 hck x0 x1 xz
                    go_wp2_with fail
                    go_roundw
                    case rel => go_light; exact ⟨k + 1, by omega, by go_num, BY⟩
                    case measure => go_light; simp [intOf]; omega
                  · have hd0b : decide (0 ≤ dn) = false := by simpa using hd0
                    have hd1 : dn < 0 := by omega
                    clear hdu hdb
                    go_wp2_with fail
                    refine wp_region_calm (by kernel_rfl) (by kernel_rfl) ?_
                    repeat (first | (go_big_quiet_step ((first | (go_at_call_of 10 (Value.int .i64 c); exact calls_calm (C2.out _ (by (repeat (first | exact Below.refl _ _ | (with_reducible assumption) | (with_reducible refine bel_later ?_ _) | (with_reducible refine bel_alloc ?_ _) | (with_reducible refine bel_drew ?_) | (with_reducible refine bel_drewN ?_ _) | (with_reducible refine bel_set ?_ (by first | (simp; done) | (simp; omega) | (dsimp only; omega)) _)))))) | (go_at_call 10; exact calls_calm (C1.out _ (by (repeat (first | exact Below.refl _ _ | (with_reducible assumption) | (with_reducible refine bel_later ?_ _) | (with_reducible refine bel_alloc ?_ _) | (with_reducible refine bel_drew ?_) | (with_reducible refine bel_drewN ?_ _) | (with_reducible refine bel_set ?_ (by first | (simp; done) | (simp; omega) | (dsimp only; omega)) _))))))))) | (refine wpQuiet_step (fun K hK => ?_); go_simp; first | (refine hK _ ?_; clear hK K) | (apply Exists.intro; refine ⟨fun _ => ?_, hK _ ?_⟩; (first | (go_at_call_of 10 (Value.int .i64 c); exact calls_calm (C2.out _ (by (repeat (first | exact Below.refl _ _ | (with_reducible assumption) | (with_reducible refine bel_later ?_ _) | (with_reducible refine bel_alloc ?_ _) | (with_reducible refine bel_drew ?_) | (with_reducible refine bel_drewN ?_ _) | (with_reducible refine bel_set ?_ (by first | (simp; done) | (simp; omega) | (dsimp only; omega)) _)))))) | (go_at_call 10; exact calls_calm (C1.out _ (by (repeat (first | exact Below.refl _ _ | (with_reducible assumption) | (with_reducible refine bel_later ?_ _) | (with_reducible refine bel_alloc ?_ _) | (with_reducible refine bel_drew ?_) | (with_reducible refine bel_drewN ?_ _) | (with_reducible refine bel_set ?_ (by first | (simp; done) | (simp; omega) | (dsimp only; omega)) _))))))); clear hK K)))
                    refine wpQuiet_nil ?_
                    intro _ hw'
                    obtain ⟨xq, hw''⟩ := hw'
                    subst hw''
                    obtain ⟨wy, hby⟩ := xq
                    dsimp only
                    have BY := Lib.hid (bel_below hBi.out hby)
                    clear hby C1 C2 hck x0 x1 xz
                    go_wp2_with fail
                    go_roundw
                    case rel => go_light; exact ⟨k + 1, by omega, by go_num, BY⟩
                    case measure => go_light; simp [intOf]; omega
                · obtain rfl : k = L.length := by omega
                  go_wp2_with fail
                  go_roundw
                  case rel => go_light; exact ⟨q + 1, by omega, by go_num, bel_below B5.out hBi.out⟩
                  case measure => go_light; simp [intOf]; omega
            · obtain rfl : q = l.length := by omega
              have hltI : ¬ ((l.length : Nat) : Int) < (l.length : Int) := by omega
              go_wp2_with fail
              refine (awake20_any _).mono ?_
              rintro e w9 ⟨rfl, hb9⟩
              have x0 := (hb9.cell (p := ⟨X, 0, none⟩) xz).trans x0
              have x1 := (hb9.cell (p := ⟨X, 1, none⟩) xz).trans x1
              have xz := Nat.lt_of_lt_of_le xz hb9.size
              have B9 := Lib.hid (bel_below hB.out hb9)
              have C1 := Lib.hid (CD.out w9 B9.out r hrok)
              rw [HD0.out] at C1
              clear hb9
              go_wp2_with fail
              refine C1.out.mono ?_
              rintro e wA ⟨rfl, hbA⟩
              go_wp2_with fail
              go_ret
              exact ⟨rfl, bel_below B3.out (bel_below B9.out hbA)⟩
  · have hAI : ¬ (12 : Int) < ((l0.length : Nat) : Int) := by omega
    obtain ⟨l, rfl⟩ : ∃ z, z = l0 := ⟨_, rfl⟩
    have SL := Lib.hid h0
    have HLO := Lib.hid hl
    have HL12 := fin _ hA
    clear h0 hl hA
    by_cases hB : 12 < m0.length
    · have hBI : (12 : Int) < ((m0.length : Nat) : Int) := by omega
      obtain ⟨ms, hme⟩ : ∃ z, z = m0.take 12 := ⟨_, rfl⟩
      have SM := Lib.hid (cut _ _ _ h1 hB)
      have HMO := Lib.hid (cutm _ hm)
      have HM := len12 _ hB
      rw [← hme] at SM HMO HM
      have HM12 : ms.length ≤ 12 := by omega
      have e1 : Value.slice a1 12 c1 = Value.slice a1 ms.length c1 := by rw [HM]
      clear h1 hm hme HM hB cut cutm len12 fin
      go_upto_region 5 with (fail)
      rw [e1] at SM
      try rw [e1]
      clear e1 hc0 hm0 hc1 hm1
      have hl12 : l.length ≤ 12 := HL12
      have hm12 : ms.length ≤ 12 := HM12
      have CO := of_list W _ _ l ms (ByteArray.mk #[103]) SL.out HLO.out SM.out HMO.out (by omega) (by decide)
      unfold OfPost at CO
      cases hT : treeR (nxL l) ms with
      | inr c =>
        rw [hT] at CO
        have CO := Lib.hid CO
        clear hT
        go_wp2_with fail
        refine CO.out.mono ?_
        rintro e w2 ⟨v, rfl, hE, hb2⟩
        have B2 := Lib.hid hb2
        clear hb2
        rcases hE with rfl | ⟨b, rfl, _⟩
        · go_wp2_with fail
          refine (awake20_any _).mono ?_
          rintro e w9 ⟨rfl, hb9⟩
          go_wp2_with fail
          go_ret
          exact ⟨rfl, bel_below (bel_alloc B2.out _) hb9⟩
        · go_wp2_with fail
          refine (awake20_any _).mono ?_
          rintro e w9 ⟨rfl, hb9⟩
          go_wp2_with fail
          go_ret
          exact ⟨rfl, bel_below (bel_alloc B2.out _) hb9⟩
      | inl t =>
        rw [hT] at CO
        obtain ⟨I, hgr, hroot⟩ := tree_inv hT
        have h0 : ms.length = 0 → t.root = -1 := fun h => by
          have : ms = [] := List.length_eq_zero_iff.1 h
          rw [this] at hgr
          have : t0 = t := by simpa [grows] using hgr
          rw [← this]; rfl
        have CO := Lib.hid CO
        have HI := Lib.hid I
        clear hT hgr I
        go_wp2_with fail
        refine CO.out.mono ?_
        rintro e w2 ⟨mb, rfl, hT, _, hb2⟩
        have T2 := Lib.hid hT
        have B2 := Lib.hid hb2
        obtain ⟨w3, hw3⟩ : ∃ z, z = w2.alloc (.cells #[.int .i64 t.root, .map (some mb)] 25) := ⟨_, rfl⟩
        obtain ⟨X, hX⟩ : ∃ z, z = w2.heap.size := ⟨_, rfl⟩
        have b23 : Below w2.heap.size w2 w3 := by rw [hw3]; exact bel_alloc (Below.refl _ _) _
        have x0 : w3.cell? ⟨X, 0, none⟩ = some (.int .i64 t.root) := by rw [hw3, hX]; simp [go_sem]
        have x1 : w3.cell? ⟨X, 1, none⟩ = some (.map (some mb)) := by rw [hw3, hX]; simp [go_sem]
        have xz : X < w3.heap.size := by rw [hw3, hX]; simp
        have B3 := Lib.hid (bel_below hb2 b23)
        have T3 := Lib.hid (hT.below b23)
        have CD := Lib.hid fun wr (hb : Below w3.heap.size w3 wr) n hn => depth_at wr mb t (T3.out.below hb) n hn
        have CK := Lib.hid fun wr (hb : Below w3.heap.size w3 wr) n => kids_at wr mb t (T3.out.below hb) HI.out n
        clear hT hb2 b23 CO
        by_cases hm0 : ms.length = 0
        · have hr := h0 hm0
          have hm0b : (((ms.length : Nat) : Int) == 0) = true := by rw [beq_iff_eq]; omega
          rw [hr] at x0 hw3 ⊢
          clear hm0 h0 hroot
          go_wp2_with fail
          rw [← hw3]
          try rw [← hX]
          clear hw3 hX
          refine (awake20_any _).mono ?_
          rintro e w9 ⟨rfl, hb9⟩
          have x0 := (hb9.cell (p := ⟨X, 0, none⟩) xz).trans x0
          have xz := Nat.lt_of_lt_of_le xz hb9.size
          have B9 := Lib.hid (bel_below B3.out hb9)
          clear hb9
          go_wp2_with fail
          go_ret
          exact ⟨rfl, B9.out⟩
        · have hm0b : (((ms.length : Nat) : Int) == 0) = false := by rw [beq_eq_false_iff_ne]; omega
          have hr := hroot (by omega)
          have HUP := Lib.hid fun n c h hd => depth_up HI.out hr (n := n) (c := c) h hd
          have HD0 := Lib.hid (depth_root HI.out hr)
          have HDB := Lib.hid fun n => (by
            have hs := T3.out.small
            rcases depth_iff HI.out hr n with ⟨d, hc, he⟩ | ⟨he, _⟩
            · have := climbs_le HI.out hr hc; omega
            · omega : -1 ≤ depthR t n ∧ depthR t n ≤ 100000)
          have HKM := Lib.hid fun n c => kids_mem (t := t) (n := n) (c := c)
          have HOK := Lib.hid fun n m (h : t.up n = some m) => T3.out.up_ok h
          have hrok := T3.out.root
          obtain ⟨r, hre⟩ : ∃ z, z = t.root := ⟨_, rfl⟩
          rw [← hre] at x0 CD CK HD0 hrok hw3 ⊢
          clear hm0 h0 hroot hr hre
          go_wp2_with fail
          rw [← hw3, ← hX]
          clear hw3 hX
          go_loopw [7] (fun i wr => ∃ k : Nat, k ≤ l.length ∧ i = .int .i64 k ∧ Hid (Below w3.heap.size w3 wr)) (fun i _ => l.length - (intOf i).toNat)
          case atStart => exact ⟨0, Nat.zero_le _, rfl, Below.refl _ _⟩
          case round =>
            obtain ⟨q, hq, rfl, hB⟩ := hrel
            have x0 := (hB.out.cell (p := ⟨X, 0, none⟩) xz).trans x0
            have x1 := (hB.out.cell (p := ⟨X, 1, none⟩) xz).trans x1
            have xz := Nat.lt_of_lt_of_le xz hB.out.size
            by_cases hlt : q < l.length
            · have hltI : ((q : Nat) : Int) < (l.length : Int) := by omega
              have CKq := Lib.hid (CK.out wr hB.out (q : Nat))
              obtain ⟨L, hL⟩ : ∃ z, z = kidsS t (q : Nat) := ⟨_, rfl⟩
              rw [← hL] at CKq
              have HL := Lib.hid hL
              clear hL
              go_wp2_with fail
              refine CKq.out.mono ?_
              rintro e w5 ⟨v5, rfl, hs5, hb5⟩
              obtain ⟨a5, c5, rfl, hc5, hm5⟩ := hs5.slice
              have hLm : L.length ≤ 9223372036854775807 := by unfold maxLen at hm5; omega
              have S5 := Lib.hid (hs5.base (Nat.zero_le _))
              have x0 := (hb5.cell (p := ⟨X, 0, none⟩) xz).trans x0
              have x1 := (hb5.cell (p := ⟨X, 1, none⟩) xz).trans x1
              have xz := Nat.lt_of_lt_of_le xz hb5.size
              have B5 := Lib.hid (bel_below hB.out hb5)
              clear hs5 hb5 hB
              go_wp2_with fail
              go_loopw [54] (fun i wr => ∃ k : Nat, k ≤ L.length ∧ i = .int .i64 k ∧ Hid (Below w5.heap.size w5 wr)) (fun i _ => L.length - (intOf i).toNat)
              case atStart => exact ⟨0, Nat.zero_le _, rfl, Below.refl _ _⟩
              case round =>
                obtain ⟨k, hk, rfl, hBi⟩ := hrel
                have x0 := (hBi.out.cell (p := ⟨X, 0, none⟩) xz).trans x0
                have x1 := (hBi.out.cell (p := ⟨X, 1, none⟩) xz).trans x1
                have xz := Nat.lt_of_lt_of_le xz hBi.out.size
                by_cases hlk : k < L.length
                · obtain ⟨b, off, rfl, _, hbz, hck⟩ := S5.out.at k hlk wr hBi.out
                  have hup := (HKM.out (q : Nat) (nth L k)).1 (by rw [← HL.out]; exact nth_mem.2 ⟨k, hlk, rfl⟩)
                  obtain ⟨c, hc⟩ : ∃ z, z = nth L k := ⟨_, rfl⟩
                  rw [← hc] at hck hup
                  have hok := HOK.out _ _ hup
                  have hdu := HUP.out _ _ hup
                  have C1 := Lib.hid fun wr' (hb : Below wr.heap.size wr wr') => CD.out wr' (bel_below B5.out (bel_below hBi.out hb)) (q : Nat) hok.2
                  have C2 := Lib.hid fun wr' (hb : Below wr.heap.size wr wr') => CD.out wr' (bel_below B5.out (bel_below hBi.out hb)) c hok.1
                  obtain ⟨dn, hdn⟩ : ∃ z, z = depthR t (q : Nat) := ⟨_, rfl⟩
                  obtain ⟨dc, hdc⟩ : ∃ z, z = depthR t c := ⟨_, rfl⟩
                  rw [← hdn] at C1 hdu
                  rw [← hdc] at C2 hdu
                  have hdb := HDB.out (q : Nat)
                  rw [← hdn] at hdb
                  clear hc hok hup hdn hdc
                  by_cases hd0 : 0 ≤ dn
                  · have hdd := hdu hd0
                    subst hdd
                    have hwp : IntKind.i64.wrap (dn + 1) = dn + 1 := by rw [IntKind.wrap_i64]; omega
                    clear hdu hdb
                    go_wp2_with fail
                    refine wp_region_calm (by kernel_rfl) (by kernel_rfl) ?_
                    repeat (first | (go_big_quiet_step ((first | (go_at_call_of 10 (Value.int .i64 c); exact calls_calm (C2.out _ (by (repeat (first | exact Below.refl _ _ | (with_reducible assumption) | (with_reducible refine bel_later ?_ _) | (with_reducible refine bel_alloc ?_ _) | (with_reducible refine bel_drew ?_) | (with_reducible refine bel_drewN ?_ _) | (with_reducible refine bel_set ?_ (by first | (simp; done) | (simp; omega) | (dsimp only; omega)) _)))))) | (go_at_call 10; exact calls_calm (C1.out _ (by (repeat (first | exact Below.refl _ _ | (with_reducible assumption) | (with_reducible refine bel_later ?_ _) | (with_reducible refine bel_alloc ?_ _) | (with_reducible refine bel_drew ?_) | (with_reducible refine bel_drewN ?_ _) | (with_reducible refine bel_set ?_ (by first | (simp; done) | (simp; omega) | (dsimp only; omega)) _))))))))) | (refine wpQuiet_step (fun K hK => ?_); go_simp; first | (refine hK _ ?_; clear hK K) | (apply Exists.intro; refine ⟨fun _ => ?_, hK _ ?_⟩; (first | (go_at_call_of 10 (Value.int .i64 c); exact calls_calm (C2.out _ (by (repeat (first | exact Below.refl _ _ | (with_reducible assumption) | (with_reducible refine bel_later ?_ _) | (with_reducible refine bel_alloc ?_ _) | (with_reducible refine bel_drew ?_) | (with_reducible refine bel_drewN ?_ _) | (with_reducible refine bel_set ?_ (by first | (simp; done) | (simp; omega) | (dsimp only; omega)) _)))))) | (go_at_call 10; exact calls_calm (C1.out _ (by (repeat (first | exact Below.refl _ _ | (with_reducible assumption) | (with_reducible refine bel_later ?_ _) | (with_reducible refine bel_alloc ?_ _) | (with_reducible refine bel_drew ?_) | (with_reducible refine bel_drewN ?_ _) | (with_reducible refine bel_set ?_ (by first | (simp; done) | (simp; omega) | (dsimp only; omega)) _))))))); clear hK K)))
                    refine wpQuiet_nil ?_
                    intro _ hw'
                    obtain ⟨xq, hw''⟩ := hw'
                    subst hw''
                    obtain ⟨wy, hby⟩ := xq
                    dsimp only
                    have BY := Lib.hid (bel_below hBi.out hby)
                    clear hby C1 C2 hck x0 x1 xz
                    go_wp2_with fail
                    go_roundw
                    case rel => go_light; exact ⟨k + 1, by omega, by go_num, BY⟩
                    case measure => go_light; simp [intOf]; omega
                  · have hd0b : decide (0 ≤ dn) = false := by simpa using hd0
                    have hd1 : dn < 0 := by omega
                    clear hdu hdb
                    go_wp2_with fail
                    refine wp_region_calm (by kernel_rfl) (by kernel_rfl) ?_
                    repeat (first | (go_big_quiet_step ((first | (go_at_call_of 10 (Value.int .i64 c); exact calls_calm (C2.out _ (by (repeat (first | exact Below.refl _ _ | (with_reducible assumption) | (with_reducible refine bel_later ?_ _) | (with_reducible refine bel_alloc ?_ _) | (with_reducible refine bel_drew ?_) | (with_reducible refine bel_drewN ?_ _) | (with_reducible refine bel_set ?_ (by first | (simp; done) | (simp; omega) | (dsimp only; omega)) _)))))) | (go_at_call 10; exact calls_calm (C1.out _ (by (repeat (first | exact Below.refl _ _ | (with_reducible assumption) | (with_reducible refine bel_later ?_ _) | (with_reducible refine bel_alloc ?_ _) | (with_reducible refine bel_drew ?_) | (with_reducible refine bel_drewN ?_ _) | (with_reducible refine bel_set ?_ (by first | (simp; done) | (simp; omega) | (dsimp only; omega)) _))))))))) | (refine wpQuiet_step (fun K hK => ?_); go_simp; first | (refine hK _ ?_; clear hK K) | (apply Exists.intro; refine ⟨fun _ => ?_, hK _ ?_⟩; (first | (go_at_call_of 10 (Value.int .i64 c); exact calls_calm (C2.out _ (by (repeat (first | exact Below.refl _ _ | (with_reducible assumption) | (with_reducible refine bel_later ?_ _) | (with_reducible refine bel_alloc ?_ _) | (with_reducible refine bel_drew ?_) | (with_reducible refine bel_drewN ?_ _) | (with_reducible refine bel_set ?_ (by first | (simp; done) | (simp; omega) | (dsimp only; omega)) _)))))) | (go_at_call 10; exact calls_calm (C1.out _ (by (repeat (first | exact Below.refl _ _ | (with_reducible assumption) | (with_reducible refine bel_later ?_ _) | (with_reducible refine bel_alloc ?_ _) | (with_reducible refine bel_drew ?_) | (with_reducible refine bel_drewN ?_ _) | (with_reducible refine bel_set ?_ (by first | (simp; done) | (simp; omega) | (dsimp only; omega)) _))))))); clear hK K)))
                    refine wpQuiet_nil ?_
                    intro _ hw'
                    obtain ⟨xq, hw''⟩ := hw'
                    subst hw''
                    obtain ⟨wy, hby⟩ := xq
                    dsimp only
                    have BY := Lib.hid (bel_below hBi.out hby)
                    clear hby C1 C2 hck x0 x1 xz
                    go_wp2_with fail
                    go_roundw
                    case rel => go_light; exact ⟨k + 1, by omega, by go_num, BY⟩
                    case measure => go_light; simp [intOf]; omega
                · obtain rfl : k = L.length := by omega
                  go_wp2_with fail
                  go_roundw
                  case rel => go_light; exact ⟨q + 1, by omega, by go_num, bel_below B5.out hBi.out⟩
                  case measure => go_light; simp [intOf]; omega
            · obtain rfl : q = l.length := by omega
              have hltI : ¬ ((l.length : Nat) : Int) < (l.length : Int) := by omega
              go_wp2_with fail
              refine (awake20_any _).mono ?_
              rintro e w9 ⟨rfl, hb9⟩
              have x0 := (hb9.cell (p := ⟨X, 0, none⟩) xz).trans x0
              have x1 := (hb9.cell (p := ⟨X, 1, none⟩) xz).trans x1
              have xz := Nat.lt_of_lt_of_le xz hb9.size
              have B9 := Lib.hid (bel_below hB.out hb9)
              have C1 := Lib.hid (CD.out w9 B9.out r hrok)
              rw [HD0.out] at C1
              clear hb9
              go_wp2_with fail
              refine C1.out.mono ?_
              rintro e wA ⟨rfl, hbA⟩
              go_wp2_with fail
              go_ret
              exact ⟨rfl, bel_below B3.out (bel_below B9.out hbA)⟩
    · have hBI : ¬ (12 : Int) < ((m0.length : Nat) : Int) := by omega
      obtain ⟨ms, rfl⟩ : ∃ z, z = m0 := ⟨_, rfl⟩
      have SM := Lib.hid h1
      have HMO := Lib.hid hm
      have HM12 := fin _ hB
      clear h1 hm hB cut cutm len12 fin
      go_upto_region 5 with (fail)
      clear hc0 hm0 hc1 hm1
      have hl12 : l.length ≤ 12 := HL12
      have hm12 : ms.length ≤ 12 := HM12
      have CO := of_list W _ _ l ms (ByteArray.mk #[103]) SL.out HLO.out SM.out HMO.out (by omega) (by decide)
      unfold OfPost at CO
      cases hT : treeR (nxL l) ms with
      | inr c =>
        rw [hT] at CO
        have CO := Lib.hid CO
        clear hT
        go_wp2_with fail
        refine CO.out.mono ?_
        rintro e w2 ⟨v, rfl, hE, hb2⟩
        have B2 := Lib.hid hb2
        clear hb2
        rcases hE with rfl | ⟨b, rfl, _⟩
        · go_wp2_with fail
          refine (awake20_any _).mono ?_
          rintro e w9 ⟨rfl, hb9⟩
          go_wp2_with fail
          go_ret
          exact ⟨rfl, bel_below (bel_alloc B2.out _) hb9⟩
        · go_wp2_with fail
          refine (awake20_any _).mono ?_
          rintro e w9 ⟨rfl, hb9⟩
          go_wp2_with fail
          go_ret
          exact ⟨rfl, bel_below (bel_alloc B2.out _) hb9⟩
      | inl t =>
        rw [hT] at CO
        obtain ⟨I, hgr, hroot⟩ := tree_inv hT
        have h0 : ms.length = 0 → t.root = -1 := fun h => by
          have : ms = [] := List.length_eq_zero_iff.1 h
          rw [this] at hgr
          have : t0 = t := by simpa [grows] using hgr
          rw [← this]; rfl
        have CO := Lib.hid CO
        have HI := Lib.hid I
        clear hT hgr I
        go_wp2_with fail
        refine CO.out.mono ?_
        rintro e w2 ⟨mb, rfl, hT, _, hb2⟩
        have T2 := Lib.hid hT
        have B2 := Lib.hid hb2
        obtain ⟨w3, hw3⟩ : ∃ z, z = w2.alloc (.cells #[.int .i64 t.root, .map (some mb)] 25) := ⟨_, rfl⟩
        obtain ⟨X, hX⟩ : ∃ z, z = w2.heap.size := ⟨_, rfl⟩
        have b23 : Below w2.heap.size w2 w3 := by rw [hw3]; exact bel_alloc (Below.refl _ _) _
        have x0 : w3.cell? ⟨X, 0, none⟩ = some (.int .i64 t.root) := by rw [hw3, hX]; simp [go_sem]
        have x1 : w3.cell? ⟨X, 1, none⟩ = some (.map (some mb)) := by rw [hw3, hX]; simp [go_sem]
        have xz : X < w3.heap.size := by rw [hw3, hX]; simp
        have B3 := Lib.hid (bel_below hb2 b23)
        have T3 := Lib.hid (hT.below b23)
        have CD := Lib.hid fun wr (hb : Below w3.heap.size w3 wr) n hn => depth_at wr mb t (T3.out.below hb) n hn
        have CK := Lib.hid fun wr (hb : Below w3.heap.size w3 wr) n => kids_at wr mb t (T3.out.below hb) HI.out n
        clear hT hb2 b23 CO
        by_cases hm0 : ms.length = 0
        · have hr := h0 hm0
          have hm0b : (((ms.length : Nat) : Int) == 0) = true := by rw [beq_iff_eq]; omega
          rw [hr] at x0 hw3 ⊢
          clear hm0 h0 hroot
          go_wp2_with fail
          rw [← hw3]
          try rw [← hX]
          clear hw3 hX
          refine (awake20_any _).mono ?_
          rintro e w9 ⟨rfl, hb9⟩
          have x0 := (hb9.cell (p := ⟨X, 0, none⟩) xz).trans x0
          have xz := Nat.lt_of_lt_of_le xz hb9.size
          have B9 := Lib.hid (bel_below B3.out hb9)
          clear hb9
          go_wp2_with fail
          go_ret
          exact ⟨rfl, B9.out⟩
        · have hm0b : (((ms.length : Nat) : Int) == 0) = false := by rw [beq_eq_false_iff_ne]; omega
          have hr := hroot (by omega)
          have HUP := Lib.hid fun n c h hd => depth_up HI.out hr (n := n) (c := c) h hd
          have HD0 := Lib.hid (depth_root HI.out hr)
          have HDB := Lib.hid fun n => (by
            have hs := T3.out.small
            rcases depth_iff HI.out hr n with ⟨d, hc, he⟩ | ⟨he, _⟩
            · have := climbs_le HI.out hr hc; omega
            · omega : -1 ≤ depthR t n ∧ depthR t n ≤ 100000)
          have HKM := Lib.hid fun n c => kids_mem (t := t) (n := n) (c := c)
          have HOK := Lib.hid fun n m (h : t.up n = some m) => T3.out.up_ok h
          have hrok := T3.out.root
          obtain ⟨r, hre⟩ : ∃ z, z = t.root := ⟨_, rfl⟩
          rw [← hre] at x0 CD CK HD0 hrok hw3 ⊢
          clear hm0 h0 hroot hr hre
          go_wp2_with fail
          rw [← hw3, ← hX]
          clear hw3 hX
          go_loopw [7] (fun i wr => ∃ k : Nat, k ≤ l.length ∧ i = .int .i64 k ∧ Hid (Below w3.heap.size w3 wr)) (fun i _ => l.length - (intOf i).toNat)
          case atStart => exact ⟨0, Nat.zero_le _, rfl, Below.refl _ _⟩
          case round =>
            obtain ⟨q, hq, rfl, hB⟩ := hrel
            have x0 := (hB.out.cell (p := ⟨X, 0, none⟩) xz).trans x0
            have x1 := (hB.out.cell (p := ⟨X, 1, none⟩) xz).trans x1
            have xz := Nat.lt_of_lt_of_le xz hB.out.size
            by_cases hlt : q < l.length
            · have hltI : ((q : Nat) : Int) < (l.length : Int) := by omega
              have CKq := Lib.hid (CK.out wr hB.out (q : Nat))
              obtain ⟨L, hL⟩ : ∃ z, z = kidsS t (q : Nat) := ⟨_, rfl⟩
              rw [← hL] at CKq
              have HL := Lib.hid hL
              clear hL
              go_wp2_with fail
              refine CKq.out.mono ?_
              rintro e w5 ⟨v5, rfl, hs5, hb5⟩
              obtain ⟨a5, c5, rfl, hc5, hm5⟩ := hs5.slice
              have hLm : L.length ≤ 9223372036854775807 := by unfold maxLen at hm5; omega
              have S5 := Lib.hid (hs5.base (Nat.zero_le _))
              have x0 := (hb5.cell (p := ⟨X, 0, none⟩) xz).trans x0
              have x1 := (hb5.cell (p := ⟨X, 1, none⟩) xz).trans x1
              have xz := Nat.lt_of_lt_of_le xz hb5.size
              have B5 := Lib.hid (bel_below hB.out hb5)
              clear hs5 hb5 hB
              go_wp2_with fail
              go_loopw [54] (fun i wr => ∃ k : Nat, k ≤ L.length ∧ i = .int .i64 k ∧ Hid (Below w5.heap.size w5 wr)) (fun i _ => L.length - (intOf i).toNat)
              case atStart => exact ⟨0, Nat.zero_le _, rfl, Below.refl _ _⟩
              case round =>
                obtain ⟨k, hk, rfl, hBi⟩ := hrel
                have x0 := (hBi.out.cell (p := ⟨X, 0, none⟩) xz).trans x0
                have x1 := (hBi.out.cell (p := ⟨X, 1, none⟩) xz).trans x1
                have xz := Nat.lt_of_lt_of_le xz hBi.out.size
                by_cases hlk : k < L.length
                · obtain ⟨b, off, rfl, _, hbz, hck⟩ := S5.out.at k hlk wr hBi.out
                  have hup := (HKM.out (q : Nat) (nth L k)).1 (by rw [← HL.out]; exact nth_mem.2 ⟨k, hlk, rfl⟩)
                  obtain ⟨c, hc⟩ : ∃ z, z = nth L k := ⟨_, rfl⟩
                  rw [← hc] at hck hup
                  have hok := HOK.out _ _ hup
                  have hdu := HUP.out _ _ hup
                  have C1 := Lib.hid fun wr' (hb : Below wr.heap.size wr wr') => CD.out wr' (bel_below B5.out (bel_below hBi.out hb)) (q : Nat) hok.2
                  have C2 := Lib.hid fun wr' (hb : Below wr.heap.size wr wr') => CD.out wr' (bel_below B5.out (bel_below hBi.out hb)) c hok.1
                  obtain ⟨dn, hdn⟩ : ∃ z, z = depthR t (q : Nat) := ⟨_, rfl⟩
                  obtain ⟨dc, hdc⟩ : ∃ z, z = depthR t c := ⟨_, rfl⟩
                  rw [← hdn] at C1 hdu
                  rw [← hdc] at C2 hdu
                  have hdb := HDB.out (q : Nat)
                  rw [← hdn] at hdb
                  clear hc hok hup hdn hdc
                  by_cases hd0 : 0 ≤ dn
                  · have hdd := hdu hd0
                    subst hdd
                    have hwp : IntKind.i64.wrap (dn + 1) = dn + 1 := by rw [IntKind.wrap_i64]; omega
                    clear hdu hdb
                    go_wp2_with fail
                    refine wp_region_calm (by kernel_rfl) (by kernel_rfl) ?_
                    repeat (first | (go_big_quiet_step ((first | (go_at_call_of 10 (Value.int .i64 c); exact calls_calm (C2.out _ (by (repeat (first | exact Below.refl _ _ | (with_reducible assumption) | (with_reducible refine bel_later ?_ _) | (with_reducible refine bel_alloc ?_ _) | (with_reducible refine bel_drew ?_) | (with_reducible refine bel_drewN ?_ _) | (with_reducible refine bel_set ?_ (by first | (simp; done) | (simp; omega) | (dsimp only; omega)) _)))))) | (go_at_call 10; exact calls_calm (C1.out _ (by (repeat (first | exact Below.refl _ _ | (with_reducible assumption) | (with_reducible refine bel_later ?_ _) | (with_reducible refine bel_alloc ?_ _) | (with_reducible refine bel_drew ?_) | (with_reducible refine bel_drewN ?_ _) | (with_reducible refine bel_set ?_ (by first | (simp; done) | (simp; omega) | (dsimp only; omega)) _))))))))) | (refine wpQuiet_step (fun K hK => ?_); go_simp; first | (refine hK _ ?_; clear hK K) | (apply Exists.intro; refine ⟨fun _ => ?_, hK _ ?_⟩; (first | (go_at_call_of 10 (Value.int .i64 c); exact calls_calm (C2.out _ (by (repeat (first | exact Below.refl _ _ | (with_reducible assumption) | (with_reducible refine bel_later ?_ _) | (with_reducible refine bel_alloc ?_ _) | (with_reducible refine bel_drew ?_) | (with_reducible refine bel_drewN ?_ _) | (with_reducible refine bel_set ?_ (by first | (simp; done) | (simp; omega) | (dsimp only; omega)) _)))))) | (go_at_call 10; exact calls_calm (C1.out _ (by (repeat (first | exact Below.refl _ _ | (with_reducible assumption) | (with_reducible refine bel_later ?_ _) | (with_reducible refine bel_alloc ?_ _) | (with_reducible refine bel_drew ?_) | (with_reducible refine bel_drewN ?_ _) | (with_reducible refine bel_set ?_ (by first | (simp; done) | (simp; omega) | (dsimp only; omega)) _))))))); clear hK K)))
                    refine wpQuiet_nil ?_
                    intro _ hw'
                    obtain ⟨xq, hw''⟩ := hw'
                    subst hw''
                    obtain ⟨wy, hby⟩ := xq
                    dsimp only
                    have BY := Lib.hid (bel_below hBi.out hby)
                    clear hby C1 C2 hck x0 x1 xz
                    go_wp2_with fail
                    go_roundw
                    case rel => go_light; exact ⟨k + 1, by omega, by go_num, BY⟩
                    case measure => go_light; simp [intOf]; omega
                  · have hd0b : decide (0 ≤ dn) = false := by simpa using hd0
                    have hd1 : dn < 0 := by omega
                    clear hdu hdb
                    go_wp2_with fail
                    refine wp_region_calm (by kernel_rfl) (by kernel_rfl) ?_
                    repeat (first | (go_big_quiet_step ((first | (go_at_call_of 10 (Value.int .i64 c); exact calls_calm (C2.out _ (by (repeat (first | exact Below.refl _ _ | (with_reducible assumption) | (with_reducible refine bel_later ?_ _) | (with_reducible refine bel_alloc ?_ _) | (with_reducible refine bel_drew ?_) | (with_reducible refine bel_drewN ?_ _) | (with_reducible refine bel_set ?_ (by first | (simp; done) | (simp; omega) | (dsimp only; omega)) _)))))) | (go_at_call 10; exact calls_calm (C1.out _ (by (repeat (first | exact Below.refl _ _ | (with_reducible assumption) | (with_reducible refine bel_later ?_ _) | (with_reducible refine bel_alloc ?_ _) | (with_reducible refine bel_drew ?_) | (with_reducible refine bel_drewN ?_ _) | (with_reducible refine bel_set ?_ (by first | (simp; done) | (simp; omega) | (dsimp only; omega)) _))))))))) | (refine wpQuiet_step (fun K hK => ?_); go_simp; first | (refine hK _ ?_; clear hK K) | (apply Exists.intro; refine ⟨fun _ => ?_, hK _ ?_⟩; (first | (go_at_call_of 10 (Value.int .i64 c); exact calls_calm (C2.out _ (by (repeat (first | exact Below.refl _ _ | (with_reducible assumption) | (with_reducible refine bel_later ?_ _) | (with_reducible refine bel_alloc ?_ _) | (with_reducible refine bel_drew ?_) | (with_reducible refine bel_drewN ?_ _) | (with_reducible refine bel_set ?_ (by first | (simp; done) | (simp; omega) | (dsimp only; omega)) _)))))) | (go_at_call 10; exact calls_calm (C1.out _ (by (repeat (first | exact Below.refl _ _ | (with_reducible assumption) | (with_reducible refine bel_later ?_ _) | (with_reducible refine bel_alloc ?_ _) | (with_reducible refine bel_drew ?_) | (with_reducible refine bel_drewN ?_ _) | (with_reducible refine bel_set ?_ (by first | (simp; done) | (simp; omega) | (dsimp only; omega)) _))))))); clear hK K)))
                    refine wpQuiet_nil ?_
                    intro _ hw'
                    obtain ⟨xq, hw''⟩ := hw'
                    subst hw''
                    obtain ⟨wy, hby⟩ := xq
                    dsimp only
                    have BY := Lib.hid (bel_below hBi.out hby)
                    clear hby C1 C2 hck x0 x1 xz
                    go_wp2_with fail
                    go_roundw
                    case rel => go_light; exact ⟨k + 1, by omega, by go_num, BY⟩
                    case measure => go_light; simp [intOf]; omega
                · obtain rfl : k = L.length := by omega
                  go_wp2_with fail
                  go_roundw
                  case rel => go_light; exact ⟨q + 1, by omega, by go_num, bel_below B5.out hBi.out⟩
                  case measure => go_light; simp [intOf]; omega
            · obtain rfl : q = l.length := by omega
              have hltI : ¬ ((l.length : Nat) : Int) < (l.length : Int) := by omega
              go_wp2_with fail
              refine (awake20_any _).mono ?_
              rintro e w9 ⟨rfl, hb9⟩
              have x0 := (hb9.cell (p := ⟨X, 0, none⟩) xz).trans x0
              have x1 := (hb9.cell (p := ⟨X, 1, none⟩) xz).trans x1
              have xz := Nat.lt_of_lt_of_le xz hb9.size
              have B9 := Lib.hid (bel_below hB.out hb9)
              have C1 := Lib.hid (CD.out w9 B9.out r hrok)
              rw [HD0.out] at C1
              clear hb9
              go_wp2_with fail
              refine C1.out.mono ?_
              rintro e wA ⟨rfl, hbA⟩
              go_wp2_with fail
              go_ret
              exact ⟨rfl, bel_below B3.out (bel_below B9.out hbA)⟩
set_option maxRecDepth 100000 in
theorem treeUp_walk {H : Type} (enc : TypeId × Value → H) (W : World) (v0 : Value) (d0 : DataW H) (p0 : List MemPlace) {r0 : Reach} {b0 : Nat} (ok0 : Value.okWide Try.prog W r0 b0 22 v0) (h0 : DataW.Trod enc Try.prog W 0 (fun _ => true) true 22 v0 d0 p0)
    (hlt0 : ∀ x ∈ p0, x.block < W.heap.size) (sz0 : ∀ n ∈ d0.weights Try.prog 22, n ≤ reachBytes) (v1 : Value) (d1 : DataW H) (p1 : List MemPlace) {r1 : Reach} {b1 : Nat} (ok1 : Value.okWide Try.prog W r1 b1 22 v1) (h1 : DataW.Trod enc Try.prog W 0 (fun _ => true) true 22 v1 d1 p1)
    (hlt1 : ∀ x ∈ p1, x.block < W.heap.size) (sz1 : ∀ n ∈ d1.weights Try.prog 22, n ≤ reachBytes) :
    Calls Try.prog 3 #[v0, v1] W fun e W' => e = .returned (.bool true) ∧ Below W.heap.size W W' := by
  obtain ⟨l, hl, hlo⟩ := ints_open ok0 h0
  obtain ⟨ms, hm, hmo⟩ := ints_open ok1 h1
  exact treeUp_main W v0 v1 l ms hl hlo hm hmo
end Go.Proofs.Ytbhaapkafgieiaa
