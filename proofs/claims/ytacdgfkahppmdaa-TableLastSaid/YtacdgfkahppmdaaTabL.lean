


/-
  TableLast walked.
-/
import Derived.Test.YtacdgfkahppmdaaTabK
namespace Go.Proofs.Ytacdgfkahppmdaa
open Go.RowKit Go.Maps Go.Sort Go.WideShapes Go.ChangeShapes Go.Deep
set_option linter.unusedVariables false
set_option linter.unusedSimpArgs false
attribute [local go_sem] later_cell later_frozen later_lt cell_set_off cell_set_block keptT_cell keptT_lt

open Classical in
noncomputable def lastB (l : List Ent) (i k : Nat) : Bool := decide (∀ j, i < j → j < k → ¬ keyOf (cutE (entAt l j)) = keyOf (cutE (entAt l i)))
open Classical in
theorem lastB_iff (l : List Ent) (i k : Nat) : lastB l i k = true ↔ ∀ j, i < j → j < k → ¬ keyOf (cutE (entAt l j)) = keyOf (cutE (entAt l i)) := by
  unfold lastB; exact decide_eq_true_iff
theorem lastB_start (l : List Ent) (i : Nat) : lastB l i (i + 1) = true := (lastB_iff _ _ _).2 fun j h1 h2 => by omega
theorem lastB_same {l : List Ent} {i k : Nat} (hik : i < k) (h : ¬ keyOf (cutE (entAt l k)) = keyOf (cutE (entAt l i))) : lastB l i (k + 1) = lastB l i k := by
  rw [Bool.eq_iff_iff, lastB_iff, lastB_iff]
  constructor
  · intro h1 j h2 h3; exact h1 j h2 (by omega)
  · intro h1 j h2 h3
    by_cases e : j = k
    · rw [e]; exact h
    · exact h1 j h2 (by omega)
theorem lastB_not {l : List Ent} {i k : Nat} (hik : i < k) (h : keyOf (cutE (entAt l k)) = keyOf (cutE (entAt l i))) : lastB l i (k + 1) = false := by
  rw [← Bool.not_eq_true, lastB_iff]
  intro h1
  exact h1 k hik (by omega) h
theorem lastB_stay {l : List Ent} {i k : Nat} (h : lastB l i k = false) : lastB l i (k + 1) = false := by
  rw [← Bool.not_eq_true, lastB_iff] at *
  intro h1
  exact h fun j h2 h3 => h1 j h2 (by omega)
theorem one_key : ∀ {T : List Ent}, OrdE T → ∀ {g : Str} {c : Int}, (∃ e ∈ T, e.g = g ∧ e.c = c) → T.countP (fun e => decide (e.g = g ∧ e.c = c)) = 1
  | [], _, _, _, h => by obtain ⟨e, he, _⟩ := h; simp at he
  | y :: T, hT, g, c, h => by
    have hp := List.pairwise_cons.1 hT
    by_cases hy : y.g = g ∧ y.c = c
    · rw [List.countP_cons_of_pos (by simpa using hy)]
      have : T.countP (fun e => decide (e.g = g ∧ e.c = c)) = 0 := List.countP_eq_zero.2 fun e he => by
        simp only [decide_eq_true_eq]
        intro hk
        have := hp.1 e he
        rw [hy.1, hy.2, hk.1, hk.2] at this
        exact klt_irrefl _ _ this
      rw [this]
    · rw [List.countP_cons_of_neg (by simpa using hy)]
      refine one_key hp.2 ?_
      obtain ⟨e, he, hk⟩ := h
      rcases List.mem_cons.1 he with e1 | e1
      · rw [e1] at hk; exact absurd hk hy
      · exact ⟨e, e1, hk⟩
def cntC (c : Int) (K : List Ent) (j : Nat) : Nat := (K.take j).countP fun e => decide (e.c = c)
theorem cntC_succ (c : Int) (K : List Ent) {j : Nat} (hj : j < K.length) : cntC c K (j + 1) = if (entAt K j).c = c then cntC c K j + 1 else cntC c K j := by
  unfold cntC
  rw [List.take_succ_eq_append_getElem hj, List.countP_append, entAt_eq hj]
  by_cases h : K[j].c = c
  · rw [if_pos h]; simp [h]
  · rw [if_neg h]; simp [h]
theorem cutL_at {l : List Ent} {i : Nat} (h1 : i < l.length) (h2 : i < 30) : i < (cutL l).length ∧ entAt (cutL l) i = cutE (entAt l i) := by
  have hl : i < (cutL l).length := by unfold cutL; simp; omega
  refine ⟨hl, ?_⟩
  rw [entAt_eq hl, entAt_eq h1]
  simp [cutL]
theorem last_count {l : List Ent} {i : Nat} (h1 : i < l.length) (h2 : i < 30) {x : Ent} (hx : x = cutE (entAt l i)) : cntC x.c (kidsE (putsE [] (cutL l)) x.g) (kidsE (putsE [] (cutL l)) x.g).length = 1 := by
  obtain ⟨hl, he⟩ := cutL_at h1 h2
  obtain ⟨e, hm, hk⟩ := puts_has (cutL l) hl
  rw [he, ← hx] at hk
  have hk' : e.g = x.g ∧ e.c = x.c := by unfold keyOf at hk; simpa using hk
  have h := one_key (cut_ord l) (g := x.g) (c := x.c) ⟨e, hm, hk'⟩
  unfold cntC
  rw [List.take_length]
  unfold kidsE
  rw [List.countP_map, List.countP_filter, ← h]
  congr 1
  funext e
  simp only [Function.comp, clean_c]
  rw [Bool.eq_iff_iff]
  simp
  exact and_comm
theorem last_till {l : List Ent} {i : Nat} (h1 : i < l.length) (h2 : i < 30) {x : Ent} (hx : x = cutE (entAt l i)) {k : Nat} (hk : lastB l i k = true) (hkl : (cutL l).length ≤ k) {e : Ent} (he : e ∈ kidsE (putsE [] (cutL l)) x.g) (hc : e.c = x.c) : e.t = x.t := by
  unfold kidsE at he
  obtain ⟨e0, hm, rfl⟩ := List.mem_map.1 he
  obtain ⟨hm1, hm2⟩ := List.mem_filter.1 hm
  rw [decide_eq_true_eq] at hm2
  rw [clean_c] at hc
  rw [clean_t]
  obtain ⟨j, hj, rfl, hlast⟩ := puts_last _ _ hm1
  rw [clean_g] at hm2
  rw [clean_c] at hc
  rw [clean_t]
  obtain ⟨hl, hie⟩ := cutL_at h1 h2
  have hjl : j < l.length ∧ j < 30 := by unfold cutL at hj; simp at hj; omega
  have hje := (cutL_at hjl.1 hjl.2).2
  rw [hje] at hm2 hc ⊢
  have hij : j = i := by
    rcases Nat.lt_trichotomy j i with h | h | h
    · exfalso
      refine hlast i h hl ?_
      rw [hie, ← hx, key_clean, hje]
      unfold keyOf; rw [hm2, hc]
    · exact h
    · exfalso
      rw [lastB_iff] at hk
      refine hk j h (by omega) ?_
      rw [← hx]; unfold keyOf; rw [hm2, hc]
  rw [hij, ← hx]
set_option maxRecDepth 100000 in
set_option maxHeartbeats 16000000 in
theorem tableLast_main (W : World) (v : Value) (l : List Ent) (hE : EntsIn (fun _ => True) l W v) :
    Calls Try.prog 3 #[v] W fun e W' => e = .returned (.bool true) ∧ Below W.heap.size W W' := by
  obtain ⟨a0, c0, rfl, _⟩ := hE.slice
  have HE := Lib.hid hE
  clear hE
  go_enter Try.func3, Try.ntmps3
  go_wp2_with fail
  obtain ⟨w1, hw1⟩ : ∃ z, z = W.alloc (.cells #[.slice none 0 0] 24) := ⟨_, rfl⟩
  obtain ⟨X, hX⟩ : ∃ z, z = W.heap.size := ⟨_, rfl⟩
  have T1 : Hid (TabW W w1 X (putsE [] ((l.take 0).map cutE))) := show TabW _ _ _ _ by rw [hw1, hX]; exact tabW_new W
  rw [← hw1]
  try rw [← hX]
  clear hw1 hX
  go_loopw [4] (fun i wr => ∃ k : Nat, k ≤ l.length ∧ k ≤ 30 ∧ i = .int .i64 k ∧ Hid (TabW W wr X (putsE [] ((l.take k).map cutE)))) (fun i _ => l.length - (intOf i).toNat)
  case atStart => exact ⟨0, Nat.zero_le _, Nat.zero_le _, rfl, T1.out⟩
  case round =>
    obtain ⟨k, hk, hk30, rfl, hT⟩ := hrel
    by_cases hlt : k < l.length
    · by_cases hl30 : k < 30
      · obtain ⟨b, off, fa, fc, rfl, _, hbz, d0, d1, d2, d3, d4, dS⟩ := (HE.out.below hT.out.bel).at k hlt
        have hsu := puts_step l hlt
        have hroom := puts_room l (k := k) (by omega) (entAt l k)
        obtain ⟨E, hEe⟩ : ∃ z, z = entAt l k := ⟨_, rfl⟩
        rw [← hEe] at d0 d1 d2 d3 d4 dS hsu hroom
        obtain ⟨eg', ec, efs, ea, et⟩ := E
        dsimp only at d0 d1 d2 d3 d4 dS
        have DS := Lib.hid dS.slAt
        have HSU := Lib.hid hsu
        have HRM := Lib.hid hroom
        clear hEe dS hsu hroom
        go_wp2_with fail
        refine (cut_any _ ⟨eg', ec, efs, ea, et⟩ (.slice fa efs.length fc) DS.out).mono ?_
        rintro e w5 ⟨v5, rfl, hs5, hb5⟩
        have T5 := Lib.hid (hT.out.later hb5)
        have S5 := Lib.hid hs5
        obtain ⟨f5, q5, rfl, _⟩ := hs5.slice
        obtain ⟨x5, hx5⟩ : ∃ z, z = cutE ⟨eg', ec, efs, ea, et⟩ := ⟨_, rfl⟩
        have hx16 : x5.fs.length ≤ 20 := by rw [hx5]; exact cutE_len _
        rw [← hx5] at S5 HRM HSU ⊢
        obtain ⟨g5, c5, fs5, any5, t5⟩ := x5
        dsimp only at S5 hx16
        have CP := Lib.hid (tabW_put T5.out ⟨g5, c5, fs5, any5, t5⟩ _ (S5.out.base (Nat.zero_le _)) (show fs5.length ≤ _ by omega) HRM.out)
        rw [← HSU.out] at CP
        unfold EntV at CP ⊢
        dsimp only at CP ⊢
        rw [show sV g5 = .string (bs g5) from rfl] at CP ⊢
        clear hs5 hb5 hx5 d0 d1 d2 d3 d4
        go_wp2_with fail
        refine CP.out.mono ?_
        rintro e w6 ⟨rfl, hT6⟩
        have T6 := Lib.hid hT6
        clear hT6 CP T5
        go_wp2_with fail
        go_roundw
        case rel => go_light; exact ⟨k + 1, by omega, by omega, by go_num, T6.out⟩
        case measure => go_light; simp [intOf]; omega
      · have hend : Hid (putsE [] ((l.take k).map cutE) = putsE [] (cutL l)) := show _ = _ by unfold cutL; rw [show k = 30 by omega]
        have T2 := Lib.hid hT.out
        rw [hend.out] at T2
        clear hT hend
        obtain ⟨T, hTe⟩ : ∃ z, z = putsE [] (cutL l) := ⟨_, rfl⟩
        have HTE := Lib.hid hTe
        rw [← hTe] at T2
        clear hTe
        go_wp2_with fail
        go_loopw [5] (fun ii wq => ∃ i : Nat, i ≤ l.length ∧ i ≤ 30 ∧ ii = .int .i64 i ∧ Hid (TabW W wq X T)) (fun ii _ => l.length - (intOf ii).toNat)
        case atStart => exact ⟨0, Nat.zero_le _, Nat.zero_le _, rfl, T2.out⟩
        case round =>
          obtain ⟨i, hil, hi30, rfl, hT⟩ := hrel
          by_cases hlt' : i < l.length
          · by_cases hl30' : i < 30
            · obtain ⟨b, off, fa, fc, e0, _, hbz, d0, d1, d2, d3, d4, dS⟩ := (HE.out.below hT.out.bel).at i hlt'
              subst e0
              obtain ⟨E, hEe⟩ : ∃ z, z = entAt l i := ⟨_, rfl⟩
              have HEe := Lib.hid hEe
              rw [← hEe] at d0 d1 d2 d3 d4 dS
              obtain ⟨eg', ec, efs, ea, et⟩ := E
              dsimp only at d0 d1 d2 d3 d4 dS
              have DS := Lib.hid dS.slAt
              clear hEe dS
              go_wp2_with fail
              refine (cut_any _ ⟨eg', ec, efs, ea, et⟩ (.slice fa efs.length fc) DS.out).mono ?_
              rintro e w5 ⟨v5, rfl, hs5, hb5⟩
              have T5 := Lib.hid (hT.out.later hb5)
              obtain ⟨f5, q5, rfl, _⟩ := hs5.slice
              obtain ⟨x5, hx5⟩ : ∃ z, z = cutE ⟨eg', ec, efs, ea, et⟩ := ⟨_, rfl⟩
              have HX : Hid (x5 = cutE (entAt l i)) := show _ = _ by rw [hx5, HEe.out]
              rw [← hx5]
              obtain ⟨g5, c5, fs5, any5, t5⟩ := x5
              unfold EntV
              dsimp only
              rw [show sV g5 = .string (bs g5) from rfl]
              clear hs5 hb5 hx5 d0 d1 d2 d3 d4 HEe DS
              obtain ⟨w6, hw6⟩ : ∃ z, z = w5.alloc (.cells #[.string (bs g5), .int .i64 c5, .slice f5 fs5.length q5, .bool any5, .int .i64 t5] 30) := ⟨_, rfl⟩
              obtain ⟨XB, hXB⟩ : ∃ z, z = w5.heap.size := ⟨_, rfl⟩
              have XS : Hid (Box5 w6 XB (.string (bs g5)) (.int .i64 c5) (.slice f5 fs5.length q5) (.bool any5) (.int .i64 t5)) := by rw [hw6, hXB]; exact box5_new w5 _ _ _ _ _ _
              have T6 : Hid (TabW W w6 X T) := T5.out.later (by rw [hw6]; exact bel_alloc (Below.refl _ _) _)
              go_wp2_with fail
              rw [← hw6]
              try rw [← hXB]
              clear hw6 hXB T5
              go_loopw [7, 8] (fun lst kk wk => ∃ k : Nat, i + 1 ≤ k ∧ k ≤ l.length ∧ k ≤ 30 ∧ kk = .int .i64 k ∧ lst = .bool (lastB l i k) ∧ Hid (Below w6.heap.size w6 wk)) (fun _ kk _ => l.length - (intOf kk).toNat)
              case atStart => exact ⟨i + 1, Nat.le_refl _, by omega, by omega, by go_num, by rw [lastB_start], Below.refl _ _⟩
              case round =>
                obtain ⟨k, hik, hkl, hk30', rfl, rfl, hBk⟩ := hrel
                obtain ⟨x0, x1, -, -, x4, -, -, -, -, -, xz⟩ := XS.out.below hBk.out
                obtain ⟨lb, hlb⟩ : ∃ z, z = lastB l i k := ⟨_, rfl⟩
                have HLB := Lib.hid hlb
                rw [← hlb]
                clear hlb
                by_cases hltk : k < l.length
                · by_cases hl30k : k < 30
                  · obtain ⟨b2, off2, fa2, fc2, e2, _, hbz2, d0, d1, d2, d3, d4, dS⟩ := (HE.out.below (bel_below T6.out.bel hBk.out)).at k hltk
                    cases e2
                    obtain ⟨E, hEe⟩ : ∃ z, z = entAt l k := ⟨_, rfl⟩
                    have HEe := Lib.hid hEe
                    rw [← hEe] at d0 d1 d2 d3 d4 dS
                    obtain ⟨eg', ec, efs, ea, et⟩ := E
                    dsimp only at d0 d1 d2 d3 d4 dS
                    have DS := Lib.hid dS.slAt
                    clear hEe dS
                    go_wp2_with fail
                    refine (cut_any _ ⟨eg', ec, efs, ea, et⟩ (.slice fa2 efs.length fc2) DS.out).mono ?_
                    rintro e w8 ⟨v8, rfl, hs8, hb8⟩
                    have B8 := Lib.hid (bel_below hBk.out hb8)
                    obtain ⟨f8, q8, rfl, _⟩ := hs8.slice
                    obtain ⟨y8, hy8⟩ : ∃ z, z = cutE ⟨eg', ec, efs, ea, et⟩ := ⟨_, rfl⟩
                    have HY : Hid (y8 = cutE (entAt l k)) := show _ = _ by rw [hy8, HEe.out]
                    rw [← hy8]
                    obtain ⟨g8, c8, fs8, any8, t8⟩ := y8
                    unfold EntV
                    dsimp only
                    rw [show sV g8 = .string (bs g8) from rfl]
                    obtain ⟨x0, x1, -, -, x4, -, -, -, -, -, xz⟩ := XS.out.below B8.out
                    have hkey : Hid (keyOf (cutE (entAt l k)) = keyOf (cutE (entAt l i)) ↔ g8 = g5 ∧ c8 = c5) := show _ ↔ _ by
                      rw [← HY.out, ← HX.out]; unfold keyOf; simp
                    clear hs8 hb8 hy8 d0 d1 d2 d3 d4 HEe DS HY
                    have hBy : Hid (∀ o, Below w6.heap.size w6 (w8.alloc o)) := fun o => bel_alloc B8.out o
                    cases lb with
                    | false =>
                      have HL2 : Hid (lastB l i (k + 1) = false) := lastB_stay HLB.out.symm
                      go_wp2_with fail
                      go_roundw
                      case rel => go_light; exact ⟨k + 1, by omega, by omega, by omega, by go_num, by rw [HL2.out], hBy.out _⟩
                      case measure => go_light; simp [intOf]; omega
                    | true =>
                      by_cases hg : g8 = g5
                      · have hgb : (!((bs g8).toList == (bs g5).toList)) = false := by rw [hg]; simp
                        by_cases hc : c8 = c5
                        · have hcb : (c8 != c5) = false := by simpa using hc
                          have HL2 : Hid (lastB l i (k + 1) = false) := lastB_not (by omega) (hkey.out.2 ⟨hg, hc⟩)
                          clear hg hc
                          go_wp2_with fail
                          go_roundw
                          case rel => go_light; exact ⟨k + 1, by omega, by omega, by omega, by go_num, by rw [HL2.out], hBy.out _⟩
                          case measure => go_light; simp [intOf]; omega
                        · have hcb : (c8 != c5) = true := by simpa using hc
                          have HL2 : Hid (lastB l i (k + 1) = true) := show _ = _ by rw [lastB_same (by omega) (fun h => hc (hkey.out.1 h).2)]; exact HLB.out.symm
                          clear hg hc
                          go_wp2_with fail
                          go_roundw
                          case rel => go_light; exact ⟨k + 1, by omega, by omega, by omega, by go_num, by rw [HL2.out], hBy.out _⟩
                          case measure => go_light; simp [intOf]; omega
                      · have hgb : (!((bs g8).toList == (bs g5).toList)) = true := by rw [bs_toList, bs_toList]; simpa using hg
                        have HL2 : Hid (lastB l i (k + 1) = true) := show _ = _ by rw [lastB_same (by omega) (fun h => hg (hkey.out.1 h).1)]; exact HLB.out.symm
                        clear hg
                        go_wp2_with fail
                        go_roundw
                        case rel => go_light; exact ⟨k + 1, by omega, by omega, by omega, by go_num, by rw [HL2.out], hBy.out _⟩
                        case measure => go_light; simp [intOf]; omega
                  · first
                    | (exfalso; omega)
                    | skip
                      have hce : (cutL l).length ≤ k := by unfold cutL; simp; omega
                      have TK := Lib.hid (T6.out.later hBk.out)
                      have CK := tabW_kids TK.out g5
                      have hcnt := last_count hlt' hl30' HX.out
                      have htil : Hid (∀ e, e ∈ kidsE (putsE [] (cutL l)) g5 → e.c = c5 → lb = true → e.t = t5) := fun e he hc hl => last_till hlt' hl30' HX.out (by rw [← HLB.out]; exact hl) hce he hc
                      rw [← HTE.out] at hcnt htil
                      dsimp only at hcnt
                      obtain ⟨K, hK⟩ : ∃ z, z = kidsE T g5 := ⟨_, rfl⟩
                      have hKl : K.length ≤ 30 := by
                        have h1 := cut_few l
                        rw [← HTE.out] at h1
                        rw [hK]; unfold kidsE; rw [List.length_map]
                        exact Nat.le_trans (List.length_filter_le _ _) h1
                      rw [← hK] at CK hcnt htil
                      have CK := Lib.hid CK
                      have HCN := Lib.hid hcnt
                      clear hK hcnt hce
                      go_wp2_with fail
                      refine CK.out.mono ?_
                      rintro e w8 ⟨v8, rfl, hE8, hb8⟩
                      obtain ⟨a8, q8, rfl, _⟩ := hE8.slice
                      have E8 := Lib.hid hE8
                      have T8 := Lib.hid (TK.out.later hb8)
                      have XS8 := Lib.hid (XS.out.below (bel_below hBk.out hb8))
                      clear hE8 hb8 CK x0 x1 x4 xz
                      go_wp2_with fail
                      go_loopw [10, 81] (fun nn jj wj => ∃ j : Nat, j ≤ K.length ∧ jj = .int .i64 j ∧ nn = .int .i64 (cntC c5 K j) ∧ Hid (Below w8.heap.size w8 wj)) (fun _ jj _ => K.length - (intOf jj).toNat)
                      case atStart => exact ⟨0, Nat.zero_le _, rfl, rfl, Below.refl _ _⟩
                      case round =>
                        obtain ⟨j, hj, rfl, rfl, hBj⟩ := hrel
                        obtain ⟨x0, x1, -, -, x4, -, -, -, -, -, xz⟩ := XS8.out.below hBj.out
                        by_cases hltj : j < K.length
                        · obtain ⟨b3, off3, fa3, fc3, e3, _, hbz3, d0, d1, d2, d3, d4, dS⟩ := (E8.out.below hBj.out).at j hltj
                          cases e3
                          have hsu := cntC_succ c5 K hltj
                          have hmem : entAt K j ∈ K := by rw [entAt_eq hltj]; exact List.getElem_mem hltj
                          have hti := htil.out _ hmem
                          obtain ⟨E, hEe⟩ : ∃ z, z = entAt K j := ⟨_, rfl⟩
                          rw [← hEe] at d0 d1 d2 d3 d4 hsu hti
                          obtain ⟨eg', ec, efs, ea, et⟩ := E
                          dsimp only at d0 d1 d2 d3 d4 hsu hti
                          clear hEe dS hmem
                          have hcl : cntC c5 K j ≤ 30 := Nat.le_trans List.countP_le_length (by rw [List.length_take]; omega)
                          obtain ⟨n, hn⟩ : ∃ z, z = cntC c5 K j := ⟨_, rfl⟩
                          rw [← hn] at hsu hcl ⊢
                          have HSU := Lib.hid hsu
                          clear hn hsu
                          by_cases hc : ec = c5
                          · have hcb : (ec == c5) = true := by simpa using hc
                            have HS2 : Hid (cntC c5 K (j + 1) = n + 1) := show _ = _ by rw [HSU.out, if_pos hc]
                            cases hlbq : lb with
                            | true =>
                              have ht : et = t5 := hti hc hlbq
                              have htb : (et != t5) = false := by simpa using ht
                              clear hc hti ht HSU
                              go_wp2_with fail
                              go_roundw
                              case rel => go_light; exact ⟨j + 1, by omega, by go_num, by rw [HS2.out]; first | done | go_num, bel_alloc hBj.out _⟩
                              case measure => go_light; simp [intOf]; omega
                            | false =>
                              clear hc hti HSU
                              go_wp2_with fail
                              go_roundw
                              case rel => go_light; exact ⟨j + 1, by omega, by go_num, by rw [HS2.out]; first | done | go_num, bel_alloc hBj.out _⟩
                              case measure => go_light; simp [intOf]; omega
                          · have hcb : (ec == c5) = false := by simpa using hc
                            have HS2 : Hid (cntC c5 K (j + 1) = n) := show _ = _ by rw [HSU.out, if_neg hc]
                            clear hc hti HSU
                            go_wp2_with fail
                            go_roundw
                            case rel => go_light; exact ⟨j + 1, by omega, by go_num, by rw [HS2.out], bel_alloc hBj.out _⟩
                            case measure => go_light; simp [intOf]; omega
                        · obtain rfl : j = K.length := by omega
                          rw [HCN.out]
                          have TJ := Lib.hid (T8.out.later hBj.out)
                          go_wp2_with fail
                          go_roundw
                          case rel => go_light; exact ⟨i + 1, by omega, by omega, by go_num, TJ.out⟩
                          case measure => go_light; simp [intOf]; omega
                · first
                  | (exfalso; omega)
                  | skip
                    have hce : (cutL l).length ≤ k := by unfold cutL; simp; omega
                    have TK := Lib.hid (T6.out.later hBk.out)
                    have CK := tabW_kids TK.out g5
                    have hcnt := last_count hlt' hl30' HX.out
                    have htil : Hid (∀ e, e ∈ kidsE (putsE [] (cutL l)) g5 → e.c = c5 → lb = true → e.t = t5) := fun e he hc hl => last_till hlt' hl30' HX.out (by rw [← HLB.out]; exact hl) hce he hc
                    rw [← HTE.out] at hcnt htil
                    dsimp only at hcnt
                    obtain ⟨K, hK⟩ : ∃ z, z = kidsE T g5 := ⟨_, rfl⟩
                    have hKl : K.length ≤ 30 := by
                      have h1 := cut_few l
                      rw [← HTE.out] at h1
                      rw [hK]; unfold kidsE; rw [List.length_map]
                      exact Nat.le_trans (List.length_filter_le _ _) h1
                    rw [← hK] at CK hcnt htil
                    have CK := Lib.hid CK
                    have HCN := Lib.hid hcnt
                    clear hK hcnt hce
                    go_wp2_with fail
                    refine CK.out.mono ?_
                    rintro e w8 ⟨v8, rfl, hE8, hb8⟩
                    obtain ⟨a8, q8, rfl, _⟩ := hE8.slice
                    have E8 := Lib.hid hE8
                    have T8 := Lib.hid (TK.out.later hb8)
                    have XS8 := Lib.hid (XS.out.below (bel_below hBk.out hb8))
                    clear hE8 hb8 CK x0 x1 x4 xz
                    go_wp2_with fail
                    go_loopw [10, 81] (fun nn jj wj => ∃ j : Nat, j ≤ K.length ∧ jj = .int .i64 j ∧ nn = .int .i64 (cntC c5 K j) ∧ Hid (Below w8.heap.size w8 wj)) (fun _ jj _ => K.length - (intOf jj).toNat)
                    case atStart => exact ⟨0, Nat.zero_le _, rfl, rfl, Below.refl _ _⟩
                    case round =>
                      obtain ⟨j, hj, rfl, rfl, hBj⟩ := hrel
                      obtain ⟨x0, x1, -, -, x4, -, -, -, -, -, xz⟩ := XS8.out.below hBj.out
                      by_cases hltj : j < K.length
                      · obtain ⟨b3, off3, fa3, fc3, e3, _, hbz3, d0, d1, d2, d3, d4, dS⟩ := (E8.out.below hBj.out).at j hltj
                        cases e3
                        have hsu := cntC_succ c5 K hltj
                        have hmem : entAt K j ∈ K := by rw [entAt_eq hltj]; exact List.getElem_mem hltj
                        have hti := htil.out _ hmem
                        obtain ⟨E, hEe⟩ : ∃ z, z = entAt K j := ⟨_, rfl⟩
                        rw [← hEe] at d0 d1 d2 d3 d4 hsu hti
                        obtain ⟨eg', ec, efs, ea, et⟩ := E
                        dsimp only at d0 d1 d2 d3 d4 hsu hti
                        clear hEe dS hmem
                        have hcl : cntC c5 K j ≤ 30 := Nat.le_trans List.countP_le_length (by rw [List.length_take]; omega)
                        obtain ⟨n, hn⟩ : ∃ z, z = cntC c5 K j := ⟨_, rfl⟩
                        rw [← hn] at hsu hcl ⊢
                        have HSU := Lib.hid hsu
                        clear hn hsu
                        by_cases hc : ec = c5
                        · have hcb : (ec == c5) = true := by simpa using hc
                          have HS2 : Hid (cntC c5 K (j + 1) = n + 1) := show _ = _ by rw [HSU.out, if_pos hc]
                          cases hlbq : lb with
                          | true =>
                            have ht : et = t5 := hti hc hlbq
                            have htb : (et != t5) = false := by simpa using ht
                            clear hc hti ht HSU
                            go_wp2_with fail
                            go_roundw
                            case rel => go_light; exact ⟨j + 1, by omega, by go_num, by rw [HS2.out]; first | done | go_num, bel_alloc hBj.out _⟩
                            case measure => go_light; simp [intOf]; omega
                          | false =>
                            clear hc hti HSU
                            go_wp2_with fail
                            go_roundw
                            case rel => go_light; exact ⟨j + 1, by omega, by go_num, by rw [HS2.out]; first | done | go_num, bel_alloc hBj.out _⟩
                            case measure => go_light; simp [intOf]; omega
                        · have hcb : (ec == c5) = false := by simpa using hc
                          have HS2 : Hid (cntC c5 K (j + 1) = n) := show _ = _ by rw [HSU.out, if_neg hc]
                          clear hc hti HSU
                          go_wp2_with fail
                          go_roundw
                          case rel => go_light; exact ⟨j + 1, by omega, by go_num, by rw [HS2.out], bel_alloc hBj.out _⟩
                          case measure => go_light; simp [intOf]; omega
                      · obtain rfl : j = K.length := by omega
                        rw [HCN.out]
                        have TJ := Lib.hid (T8.out.later hBj.out)
                        go_wp2_with fail
                        go_roundw
                        case rel => go_light; exact ⟨i + 1, by omega, by omega, by go_num, TJ.out⟩
                        case measure => go_light; simp [intOf]; omega
            · first
              | (exfalso; omega)
              | skip
                go_wp2_with fail
                refine (awake13_any _).mono ?_
                rintro e w9 ⟨rfl, hb9⟩
                have B9 := Lib.hid (bel_below hT.out.bel hb9)
                clear hb9
                go_wp2_with fail
                go_ret
                exact ⟨rfl, B9.out⟩
          · first
            | (exfalso; omega)
            | skip
              go_wp2_with fail
              refine (awake13_any _).mono ?_
              rintro e w9 ⟨rfl, hb9⟩
              have B9 := Lib.hid (bel_below hT.out.bel hb9)
              clear hb9
              go_wp2_with fail
              go_ret
              exact ⟨rfl, B9.out⟩
    · have hend : Hid (putsE [] ((l.take k).map cutE) = putsE [] (cutL l)) := show _ = _ by unfold cutL; rw [List.take_of_length_le (by omega : l.length ≤ k), List.take_of_length_le (by omega : l.length ≤ 30)]
      have T2 := Lib.hid hT.out
      rw [hend.out] at T2
      clear hT hend
      obtain ⟨T, hTe⟩ : ∃ z, z = putsE [] (cutL l) := ⟨_, rfl⟩
      have HTE := Lib.hid hTe
      rw [← hTe] at T2
      clear hTe
      go_wp2_with fail
      go_loopw [5] (fun ii wq => ∃ i : Nat, i ≤ l.length ∧ i ≤ 30 ∧ ii = .int .i64 i ∧ Hid (TabW W wq X T)) (fun ii _ => l.length - (intOf ii).toNat)
      case atStart => exact ⟨0, Nat.zero_le _, Nat.zero_le _, rfl, T2.out⟩
      case round =>
        obtain ⟨i, hil, hi30, rfl, hT⟩ := hrel
        by_cases hlt' : i < l.length
        · by_cases hl30' : i < 30
          · obtain ⟨b, off, fa, fc, e0, _, hbz, d0, d1, d2, d3, d4, dS⟩ := (HE.out.below hT.out.bel).at i hlt'
            subst e0
            obtain ⟨E, hEe⟩ : ∃ z, z = entAt l i := ⟨_, rfl⟩
            have HEe := Lib.hid hEe
            rw [← hEe] at d0 d1 d2 d3 d4 dS
            obtain ⟨eg', ec, efs, ea, et⟩ := E
            dsimp only at d0 d1 d2 d3 d4 dS
            have DS := Lib.hid dS.slAt
            clear hEe dS
            go_wp2_with fail
            refine (cut_any _ ⟨eg', ec, efs, ea, et⟩ (.slice fa efs.length fc) DS.out).mono ?_
            rintro e w5 ⟨v5, rfl, hs5, hb5⟩
            have T5 := Lib.hid (hT.out.later hb5)
            obtain ⟨f5, q5, rfl, _⟩ := hs5.slice
            obtain ⟨x5, hx5⟩ : ∃ z, z = cutE ⟨eg', ec, efs, ea, et⟩ := ⟨_, rfl⟩
            have HX : Hid (x5 = cutE (entAt l i)) := show _ = _ by rw [hx5, HEe.out]
            rw [← hx5]
            obtain ⟨g5, c5, fs5, any5, t5⟩ := x5
            unfold EntV
            dsimp only
            rw [show sV g5 = .string (bs g5) from rfl]
            clear hs5 hb5 hx5 d0 d1 d2 d3 d4 HEe DS
            obtain ⟨w6, hw6⟩ : ∃ z, z = w5.alloc (.cells #[.string (bs g5), .int .i64 c5, .slice f5 fs5.length q5, .bool any5, .int .i64 t5] 30) := ⟨_, rfl⟩
            obtain ⟨XB, hXB⟩ : ∃ z, z = w5.heap.size := ⟨_, rfl⟩
            have XS : Hid (Box5 w6 XB (.string (bs g5)) (.int .i64 c5) (.slice f5 fs5.length q5) (.bool any5) (.int .i64 t5)) := by rw [hw6, hXB]; exact box5_new w5 _ _ _ _ _ _
            have T6 : Hid (TabW W w6 X T) := T5.out.later (by rw [hw6]; exact bel_alloc (Below.refl _ _) _)
            go_wp2_with fail
            rw [← hw6]
            try rw [← hXB]
            clear hw6 hXB T5
            go_loopw [7, 8] (fun lst kk wk => ∃ k : Nat, i + 1 ≤ k ∧ k ≤ l.length ∧ k ≤ 30 ∧ kk = .int .i64 k ∧ lst = .bool (lastB l i k) ∧ Hid (Below w6.heap.size w6 wk)) (fun _ kk _ => l.length - (intOf kk).toNat)
            case atStart => exact ⟨i + 1, Nat.le_refl _, by omega, by omega, by go_num, by rw [lastB_start], Below.refl _ _⟩
            case round =>
              obtain ⟨k, hik, hkl, hk30', rfl, rfl, hBk⟩ := hrel
              obtain ⟨x0, x1, -, -, x4, -, -, -, -, -, xz⟩ := XS.out.below hBk.out
              obtain ⟨lb, hlb⟩ : ∃ z, z = lastB l i k := ⟨_, rfl⟩
              have HLB := Lib.hid hlb
              rw [← hlb]
              clear hlb
              by_cases hltk : k < l.length
              · by_cases hl30k : k < 30
                · obtain ⟨b2, off2, fa2, fc2, e2, _, hbz2, d0, d1, d2, d3, d4, dS⟩ := (HE.out.below (bel_below T6.out.bel hBk.out)).at k hltk
                  cases e2
                  obtain ⟨E, hEe⟩ : ∃ z, z = entAt l k := ⟨_, rfl⟩
                  have HEe := Lib.hid hEe
                  rw [← hEe] at d0 d1 d2 d3 d4 dS
                  obtain ⟨eg', ec, efs, ea, et⟩ := E
                  dsimp only at d0 d1 d2 d3 d4 dS
                  have DS := Lib.hid dS.slAt
                  clear hEe dS
                  go_wp2_with fail
                  refine (cut_any _ ⟨eg', ec, efs, ea, et⟩ (.slice fa2 efs.length fc2) DS.out).mono ?_
                  rintro e w8 ⟨v8, rfl, hs8, hb8⟩
                  have B8 := Lib.hid (bel_below hBk.out hb8)
                  obtain ⟨f8, q8, rfl, _⟩ := hs8.slice
                  obtain ⟨y8, hy8⟩ : ∃ z, z = cutE ⟨eg', ec, efs, ea, et⟩ := ⟨_, rfl⟩
                  have HY : Hid (y8 = cutE (entAt l k)) := show _ = _ by rw [hy8, HEe.out]
                  rw [← hy8]
                  obtain ⟨g8, c8, fs8, any8, t8⟩ := y8
                  unfold EntV
                  dsimp only
                  rw [show sV g8 = .string (bs g8) from rfl]
                  obtain ⟨x0, x1, -, -, x4, -, -, -, -, -, xz⟩ := XS.out.below B8.out
                  have hkey : Hid (keyOf (cutE (entAt l k)) = keyOf (cutE (entAt l i)) ↔ g8 = g5 ∧ c8 = c5) := show _ ↔ _ by
                    rw [← HY.out, ← HX.out]; unfold keyOf; simp
                  clear hs8 hb8 hy8 d0 d1 d2 d3 d4 HEe DS HY
                  have hBy : Hid (∀ o, Below w6.heap.size w6 (w8.alloc o)) := fun o => bel_alloc B8.out o
                  cases lb with
                  | false =>
                    have HL2 : Hid (lastB l i (k + 1) = false) := lastB_stay HLB.out.symm
                    go_wp2_with fail
                    go_roundw
                    case rel => go_light; exact ⟨k + 1, by omega, by omega, by omega, by go_num, by rw [HL2.out], hBy.out _⟩
                    case measure => go_light; simp [intOf]; omega
                  | true =>
                    by_cases hg : g8 = g5
                    · have hgb : (!((bs g8).toList == (bs g5).toList)) = false := by rw [hg]; simp
                      by_cases hc : c8 = c5
                      · have hcb : (c8 != c5) = false := by simpa using hc
                        have HL2 : Hid (lastB l i (k + 1) = false) := lastB_not (by omega) (hkey.out.2 ⟨hg, hc⟩)
                        clear hg hc
                        go_wp2_with fail
                        go_roundw
                        case rel => go_light; exact ⟨k + 1, by omega, by omega, by omega, by go_num, by rw [HL2.out], hBy.out _⟩
                        case measure => go_light; simp [intOf]; omega
                      · have hcb : (c8 != c5) = true := by simpa using hc
                        have HL2 : Hid (lastB l i (k + 1) = true) := show _ = _ by rw [lastB_same (by omega) (fun h => hc (hkey.out.1 h).2)]; exact HLB.out.symm
                        clear hg hc
                        go_wp2_with fail
                        go_roundw
                        case rel => go_light; exact ⟨k + 1, by omega, by omega, by omega, by go_num, by rw [HL2.out], hBy.out _⟩
                        case measure => go_light; simp [intOf]; omega
                    · have hgb : (!((bs g8).toList == (bs g5).toList)) = true := by rw [bs_toList, bs_toList]; simpa using hg
                      have HL2 : Hid (lastB l i (k + 1) = true) := show _ = _ by rw [lastB_same (by omega) (fun h => hg (hkey.out.1 h).1)]; exact HLB.out.symm
                      clear hg
                      go_wp2_with fail
                      go_roundw
                      case rel => go_light; exact ⟨k + 1, by omega, by omega, by omega, by go_num, by rw [HL2.out], hBy.out _⟩
                      case measure => go_light; simp [intOf]; omega
                · first
                  | (exfalso; omega)
                  | skip
                    have hce : (cutL l).length ≤ k := by unfold cutL; simp; omega
                    have TK := Lib.hid (T6.out.later hBk.out)
                    have CK := tabW_kids TK.out g5
                    have hcnt := last_count hlt' hl30' HX.out
                    have htil : Hid (∀ e, e ∈ kidsE (putsE [] (cutL l)) g5 → e.c = c5 → lb = true → e.t = t5) := fun e he hc hl => last_till hlt' hl30' HX.out (by rw [← HLB.out]; exact hl) hce he hc
                    rw [← HTE.out] at hcnt htil
                    dsimp only at hcnt
                    obtain ⟨K, hK⟩ : ∃ z, z = kidsE T g5 := ⟨_, rfl⟩
                    have hKl : K.length ≤ 30 := by
                      have h1 := cut_few l
                      rw [← HTE.out] at h1
                      rw [hK]; unfold kidsE; rw [List.length_map]
                      exact Nat.le_trans (List.length_filter_le _ _) h1
                    rw [← hK] at CK hcnt htil
                    have CK := Lib.hid CK
                    have HCN := Lib.hid hcnt
                    clear hK hcnt hce
                    go_wp2_with fail
                    refine CK.out.mono ?_
                    rintro e w8 ⟨v8, rfl, hE8, hb8⟩
                    obtain ⟨a8, q8, rfl, _⟩ := hE8.slice
                    have E8 := Lib.hid hE8
                    have T8 := Lib.hid (TK.out.later hb8)
                    have XS8 := Lib.hid (XS.out.below (bel_below hBk.out hb8))
                    clear hE8 hb8 CK x0 x1 x4 xz
                    go_wp2_with fail
                    go_loopw [10, 81] (fun nn jj wj => ∃ j : Nat, j ≤ K.length ∧ jj = .int .i64 j ∧ nn = .int .i64 (cntC c5 K j) ∧ Hid (Below w8.heap.size w8 wj)) (fun _ jj _ => K.length - (intOf jj).toNat)
                    case atStart => exact ⟨0, Nat.zero_le _, rfl, rfl, Below.refl _ _⟩
                    case round =>
                      obtain ⟨j, hj, rfl, rfl, hBj⟩ := hrel
                      obtain ⟨x0, x1, -, -, x4, -, -, -, -, -, xz⟩ := XS8.out.below hBj.out
                      by_cases hltj : j < K.length
                      · obtain ⟨b3, off3, fa3, fc3, e3, _, hbz3, d0, d1, d2, d3, d4, dS⟩ := (E8.out.below hBj.out).at j hltj
                        cases e3
                        have hsu := cntC_succ c5 K hltj
                        have hmem : entAt K j ∈ K := by rw [entAt_eq hltj]; exact List.getElem_mem hltj
                        have hti := htil.out _ hmem
                        obtain ⟨E, hEe⟩ : ∃ z, z = entAt K j := ⟨_, rfl⟩
                        rw [← hEe] at d0 d1 d2 d3 d4 hsu hti
                        obtain ⟨eg', ec, efs, ea, et⟩ := E
                        dsimp only at d0 d1 d2 d3 d4 hsu hti
                        clear hEe dS hmem
                        have hcl : cntC c5 K j ≤ 30 := Nat.le_trans List.countP_le_length (by rw [List.length_take]; omega)
                        obtain ⟨n, hn⟩ : ∃ z, z = cntC c5 K j := ⟨_, rfl⟩
                        rw [← hn] at hsu hcl ⊢
                        have HSU := Lib.hid hsu
                        clear hn hsu
                        by_cases hc : ec = c5
                        · have hcb : (ec == c5) = true := by simpa using hc
                          have HS2 : Hid (cntC c5 K (j + 1) = n + 1) := show _ = _ by rw [HSU.out, if_pos hc]
                          cases hlbq : lb with
                          | true =>
                            have ht : et = t5 := hti hc hlbq
                            have htb : (et != t5) = false := by simpa using ht
                            clear hc hti ht HSU
                            go_wp2_with fail
                            go_roundw
                            case rel => go_light; exact ⟨j + 1, by omega, by go_num, by rw [HS2.out]; first | done | go_num, bel_alloc hBj.out _⟩
                            case measure => go_light; simp [intOf]; omega
                          | false =>
                            clear hc hti HSU
                            go_wp2_with fail
                            go_roundw
                            case rel => go_light; exact ⟨j + 1, by omega, by go_num, by rw [HS2.out]; first | done | go_num, bel_alloc hBj.out _⟩
                            case measure => go_light; simp [intOf]; omega
                        · have hcb : (ec == c5) = false := by simpa using hc
                          have HS2 : Hid (cntC c5 K (j + 1) = n) := show _ = _ by rw [HSU.out, if_neg hc]
                          clear hc hti HSU
                          go_wp2_with fail
                          go_roundw
                          case rel => go_light; exact ⟨j + 1, by omega, by go_num, by rw [HS2.out], bel_alloc hBj.out _⟩
                          case measure => go_light; simp [intOf]; omega
                      · obtain rfl : j = K.length := by omega
                        rw [HCN.out]
                        have TJ := Lib.hid (T8.out.later hBj.out)
                        go_wp2_with fail
                        go_roundw
                        case rel => go_light; exact ⟨i + 1, by omega, by omega, by go_num, TJ.out⟩
                        case measure => go_light; simp [intOf]; omega
              · first
                | (exfalso; omega)
                | skip
                  have hce : (cutL l).length ≤ k := by unfold cutL; simp; omega
                  have TK := Lib.hid (T6.out.later hBk.out)
                  have CK := tabW_kids TK.out g5
                  have hcnt := last_count hlt' hl30' HX.out
                  have htil : Hid (∀ e, e ∈ kidsE (putsE [] (cutL l)) g5 → e.c = c5 → lb = true → e.t = t5) := fun e he hc hl => last_till hlt' hl30' HX.out (by rw [← HLB.out]; exact hl) hce he hc
                  rw [← HTE.out] at hcnt htil
                  dsimp only at hcnt
                  obtain ⟨K, hK⟩ : ∃ z, z = kidsE T g5 := ⟨_, rfl⟩
                  have hKl : K.length ≤ 30 := by
                    have h1 := cut_few l
                    rw [← HTE.out] at h1
                    rw [hK]; unfold kidsE; rw [List.length_map]
                    exact Nat.le_trans (List.length_filter_le _ _) h1
                  rw [← hK] at CK hcnt htil
                  have CK := Lib.hid CK
                  have HCN := Lib.hid hcnt
                  clear hK hcnt hce
                  go_wp2_with fail
                  refine CK.out.mono ?_
                  rintro e w8 ⟨v8, rfl, hE8, hb8⟩
                  obtain ⟨a8, q8, rfl, _⟩ := hE8.slice
                  have E8 := Lib.hid hE8
                  have T8 := Lib.hid (TK.out.later hb8)
                  have XS8 := Lib.hid (XS.out.below (bel_below hBk.out hb8))
                  clear hE8 hb8 CK x0 x1 x4 xz
                  go_wp2_with fail
                  go_loopw [10, 81] (fun nn jj wj => ∃ j : Nat, j ≤ K.length ∧ jj = .int .i64 j ∧ nn = .int .i64 (cntC c5 K j) ∧ Hid (Below w8.heap.size w8 wj)) (fun _ jj _ => K.length - (intOf jj).toNat)
                  case atStart => exact ⟨0, Nat.zero_le _, rfl, rfl, Below.refl _ _⟩
                  case round =>
                    obtain ⟨j, hj, rfl, rfl, hBj⟩ := hrel
                    obtain ⟨x0, x1, -, -, x4, -, -, -, -, -, xz⟩ := XS8.out.below hBj.out
                    by_cases hltj : j < K.length
                    · obtain ⟨b3, off3, fa3, fc3, e3, _, hbz3, d0, d1, d2, d3, d4, dS⟩ := (E8.out.below hBj.out).at j hltj
                      cases e3
                      have hsu := cntC_succ c5 K hltj
                      have hmem : entAt K j ∈ K := by rw [entAt_eq hltj]; exact List.getElem_mem hltj
                      have hti := htil.out _ hmem
                      obtain ⟨E, hEe⟩ : ∃ z, z = entAt K j := ⟨_, rfl⟩
                      rw [← hEe] at d0 d1 d2 d3 d4 hsu hti
                      obtain ⟨eg', ec, efs, ea, et⟩ := E
                      dsimp only at d0 d1 d2 d3 d4 hsu hti
                      clear hEe dS hmem
                      have hcl : cntC c5 K j ≤ 30 := Nat.le_trans List.countP_le_length (by rw [List.length_take]; omega)
                      obtain ⟨n, hn⟩ : ∃ z, z = cntC c5 K j := ⟨_, rfl⟩
                      rw [← hn] at hsu hcl ⊢
                      have HSU := Lib.hid hsu
                      clear hn hsu
                      by_cases hc : ec = c5
                      · have hcb : (ec == c5) = true := by simpa using hc
                        have HS2 : Hid (cntC c5 K (j + 1) = n + 1) := show _ = _ by rw [HSU.out, if_pos hc]
                        cases hlbq : lb with
                        | true =>
                          have ht : et = t5 := hti hc hlbq
                          have htb : (et != t5) = false := by simpa using ht
                          clear hc hti ht HSU
                          go_wp2_with fail
                          go_roundw
                          case rel => go_light; exact ⟨j + 1, by omega, by go_num, by rw [HS2.out]; first | done | go_num, bel_alloc hBj.out _⟩
                          case measure => go_light; simp [intOf]; omega
                        | false =>
                          clear hc hti HSU
                          go_wp2_with fail
                          go_roundw
                          case rel => go_light; exact ⟨j + 1, by omega, by go_num, by rw [HS2.out]; first | done | go_num, bel_alloc hBj.out _⟩
                          case measure => go_light; simp [intOf]; omega
                      · have hcb : (ec == c5) = false := by simpa using hc
                        have HS2 : Hid (cntC c5 K (j + 1) = n) := show _ = _ by rw [HSU.out, if_neg hc]
                        clear hc hti HSU
                        go_wp2_with fail
                        go_roundw
                        case rel => go_light; exact ⟨j + 1, by omega, by go_num, by rw [HS2.out], bel_alloc hBj.out _⟩
                        case measure => go_light; simp [intOf]; omega
                    · obtain rfl : j = K.length := by omega
                      rw [HCN.out]
                      have TJ := Lib.hid (T8.out.later hBj.out)
                      go_wp2_with fail
                      go_roundw
                      case rel => go_light; exact ⟨i + 1, by omega, by omega, by go_num, TJ.out⟩
                      case measure => go_light; simp [intOf]; omega
          · first
            | (exfalso; omega)
            | skip
              go_wp2_with fail
              refine (awake13_any _).mono ?_
              rintro e w9 ⟨rfl, hb9⟩
              have B9 := Lib.hid (bel_below hT.out.bel hb9)
              clear hb9
              go_wp2_with fail
              go_ret
              exact ⟨rfl, B9.out⟩
        · first
          | (exfalso; omega)
          | skip
            go_wp2_with fail
            refine (awake13_any _).mono ?_
            rintro e w9 ⟨rfl, hb9⟩
            have B9 := Lib.hid (bel_below hT.out.bel hb9)
            clear hb9
            go_wp2_with fail
            go_ret
            exact ⟨rfl, B9.out⟩
set_option maxRecDepth 100000 in
theorem tableLast_walk {H : Type} (enc : TypeId × Value → H) (W : World) (v0 : Value) (d0 : DataW H) (p0 : List MemPlace) {r0 : Reach} {b0 : Nat} (ok0 : Value.okWide Try.prog W r0 b0 22 v0) (h0 : DataW.Trod enc Try.prog W 0 (fun _ => true) true 22 v0 d0 p0)
    (hlt0 : ∀ x ∈ p0, x.block < W.heap.size) (sz0 : ∀ n ∈ d0.weights Try.prog 22, n ≤ reachBytes) :
    Calls Try.prog 3 #[v0] W fun e W' => e = .returned (.bool true) ∧ Below W.heap.size W W' := by
  obtain ⟨l, hE, _⟩ := ents_open ok0 h0
  exact tableLast_main W v0 l hE
end Go.Proofs.Ytacdgfkahppmdaa
