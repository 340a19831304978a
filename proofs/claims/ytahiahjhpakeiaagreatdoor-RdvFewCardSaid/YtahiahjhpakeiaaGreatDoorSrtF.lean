
/-
-/
import Derived.Test.YtahiahjhpakeiaaGreatDoorSrtM
import Derived.Test.YtahiahjhpakeiaaGreatDoorSrtE

/-
  The stable sort of moves: blocks, merged two by two.
-/
namespace Go.Proofs.YtahiahjhpakeiaaGreatDoor
open Go.RowKit Go.Maps Go.Sort Go.WideShapes Go.ChangeShapes Go.Deep
set_option linter.unusedVariables false
set_option linter.unusedSimpArgs false
attribute [local go_sem] later_cell later_frozen later_lt cell_set_off cell_set_block keptT_cell keptT_lt

/-- Blocks of one length, each in order. -/
def BlkOk (s : Nat) (Bs : List (List Mv)) : Prop := ∀ X ∈ Bs, X.length = s ∧ SortedB mlt X
theorem BlkOk.snoc {s : Nat} {Bs : List (List Mv)} (h : BlkOk s Bs) {Z : List Mv} (hl : Z.length = s) (hs : SortedB mlt Z) : BlkOk s (Bs ++ [Z]) := fun X hX => by
  rcases List.mem_append.1 hX with h1 | h1
  · exact h X h1
  · simp at h1; subst h1; exact ⟨hl, hs⟩
theorem flatten_snoc (Bs : List (List Mv)) (Z : List Mv) : (Bs ++ [Z]).flatten = Bs.flatten ++ Z := by simp
/-- The first blocks are in order, then comes what isn't. -/
structure Stb0 (l : List Mv) (a : Nat) (M : List Mv) : Prop where
  ex : ∃ Bs R, BlkOk 20 Bs ∧ M = Bs.flatten ++ R ∧ a = Bs.flatten.length
  perm : M.Perm l
/-- All is in blocks of one length, but for what is left. -/
structure Stb1 (l : List Mv) (s : Nat) (M : List Mv) : Prop where
  ex : ∃ Bs T, BlkOk s Bs ∧ M = Bs.flatten ++ T ∧ T.length < s ∧ SortedB mlt T
  perm : M.Perm l
/-- The first blocks are of twice the length. -/
structure Stb2 (l : List Mv) (s a : Nat) (M : List Mv) : Prop where
  ex : ∃ Cs Bs T, BlkOk (2 * s) Cs ∧ BlkOk s Bs ∧ M = Cs.flatten ++ (Bs.flatten ++ T) ∧ a = Cs.flatten.length ∧ T.length < s ∧ SortedB mlt T
  perm : M.Perm l
section
variable {l M : List Mv} {a s : Nat}
theorem Stb0.start (l : List Mv) : Stb0 l 0 l := ⟨⟨[], l, by simp [BlkOk], by simp, by simp⟩, List.Perm.refl _⟩
theorem Stb0.lt (h : Stb0 l a M) : a ≤ l.length ∧ M.length = l.length := by
  obtain ⟨Bs, R, h1, rfl, h3⟩ := h.ex
  have h2 := h.perm.length_eq
  have h4 := h2
  rw [List.length_append] at h4
  omega
theorem perm_mid {P X Z S l : List Mv} (h : (P ++ (X ++ S)).Perm l) (hz : Z.Perm X) : (P ++ (Z ++ S)).Perm l := (List.Perm.append_left P (List.Perm.append_right S hz)).trans h
/-- One block more. -/
theorem Stb0.open (h : Stb0 l a M) (hb : a + 20 ≤ l.length) : ∃ P X S, M = P ++ (X ++ S) ∧ P.length = a ∧ X.length = 20 ∧ P.length + X.length + S.length = l.length ∧ ∀ Z, Z.Perm X → SortedB mlt Z → Stb0 l (a + 20) (P ++ (Z ++ S)) := by
  obtain ⟨⟨Bs, R, h1, h2, h3⟩, hp⟩ := h
  have hl := hp.length_eq
  have hl2 := congrArg List.length h2
  rw [List.length_append] at hl2
  have hR : R.length = l.length - a := by omega
  have e : R = R.take 20 ++ R.drop 20 := (List.take_append_drop _ _).symm
  refine ⟨Bs.flatten, R.take 20, R.drop 20, by rw [← e]; exact h2, h3.symm, by rw [List.length_take]; omega, by rw [List.length_take, List.length_drop]; omega, fun Z hz hs => ?_⟩
  have hZl : Z.length = 20 := by rw [hz.length_eq, List.length_take]; omega
  refine ⟨⟨Bs ++ [Z], R.drop 20, h1.snoc hZl hs, by rw [flatten_snoc, List.append_assoc], by rw [flatten_snoc, List.length_append]; omega⟩, ?_⟩
  refine perm_mid (X := R.take 20) ?_ hz
  rw [← e, ← h2]; exact hp
/-- The last one. -/
theorem Stb0.last (h : Stb0 l a M) (hb : l.length < a + 20) : ∃ P X, M = P ++ (X ++ []) ∧ P.length = a ∧ P.length + X.length + 0 = l.length ∧ ∀ Z, Z.Perm X → SortedB mlt Z → Stb1 l 20 (P ++ (Z ++ [])) := by
  obtain ⟨⟨Bs, R, h1, h2, h3⟩, hp⟩ := h
  have hl := hp.length_eq
  have hl2 := congrArg List.length h2
  rw [List.length_append] at hl2
  refine ⟨Bs.flatten, R, by rw [List.append_nil]; exact h2, h3.symm, by omega, fun Z hz hs => ?_⟩
  refine ⟨⟨Bs, Z, h1, by rw [List.append_nil], by rw [hz.length_eq]; omega, hs⟩, perm_mid (X := R) (by rw [List.append_nil, ← h2]; exact hp) hz⟩
theorem Stb1.two (h : Stb1 l s M) : Stb2 l s 0 M := by
  obtain ⟨⟨Bs, T, h1, h2, h3, h4⟩, hp⟩ := h
  exact ⟨⟨[], Bs, T, by simp [BlkOk], h1, by simpa using h2, by simp, h3, h4⟩, hp⟩
theorem Stb1.done (h : Stb1 l s M) (hs : l.length ≤ s) (h0 : 0 < s) : SortedB mlt M := by
  obtain ⟨⟨Bs, T, h1, h2, h3, h4⟩, hp⟩ := h
  have hl := hp.length_eq
  subst h2
  rcases Bs with _ | ⟨X, Bs⟩
  · simpa using h4
  · obtain ⟨hx, hxs⟩ := h1 X (by simp)
    simp only [List.flatten_cons, List.length_append] at hl
    have e1 : Bs.flatten = [] := List.length_eq_zero_iff.1 (by omega)
    have e2 : T = [] := List.length_eq_zero_iff.1 (by omega)
    simp [e1, e2]; exact hxs
theorem Stb2.lt (h : Stb2 l s a M) : a ≤ l.length ∧ M.length = l.length := by
  obtain ⟨Cs, Bs, T, h1, h2, rfl, h4, _⟩ := h.ex
  have h2 := h.perm.length_eq
  have h4 := h2
  rw [List.length_append] at h4
  omega
/-- Two blocks to merge. -/
theorem Stb2.open (h : Stb2 l s a M) (h0 : 0 < s) (hb : a + 2 * s ≤ l.length) : ∃ P X Y S, M = P ++ (X ++ (Y ++ S)) ∧ P.length = a ∧ X.length = s ∧ Y.length = s ∧ SortedB mlt X ∧ SortedB mlt Y ∧ P.length + X.length + Y.length + S.length = l.length ∧
    ∀ Z, Z.Perm (X ++ Y) → SortedB mlt Z → Stb2 l s (a + 2 * s) (P ++ (Z ++ S)) := by
  obtain ⟨⟨Cs, Bs, T, h1, h2, h3, h4, h5, h6⟩, hp⟩ := h
  have hl := hp.length_eq
  have hl2 := congrArg List.length h3
  simp only [List.length_append] at hl2
  rcases Bs with _ | ⟨X, _ | ⟨Y, Bs⟩⟩
  · simp only [List.flatten_nil, List.length_nil] at hl2; omega
  · have := (h2 X (by simp)).1
    simp only [List.flatten_cons, List.flatten_nil, List.append_nil] at hl2; omega
  · obtain ⟨hx, hxs⟩ := h2 X (by simp)
    obtain ⟨hy, hys⟩ := h2 Y (by simp)
    simp only [List.flatten_cons, List.length_append] at hl2
    refine ⟨Cs.flatten, X, Y, Bs.flatten ++ T, by rw [h3]; simp, h4.symm, hx, hy, hxs, hys, by rw [List.length_append]; omega, fun Z hz hs => ?_⟩
    have hZl : Z.length = 2 * s := by rw [hz.length_eq, List.length_append]; omega
    refine ⟨⟨Cs ++ [Z], Bs, T, h1.snoc hZl hs, fun W hW => h2 W (by simp [hW]), by rw [flatten_snoc, List.append_assoc], by rw [flatten_snoc, List.length_append]; omega, h5, h6⟩, ?_⟩
    refine perm_mid (X := X ++ Y) ?_ hz
    rw [h3] at hp
    simpa using hp
/-- One block and what is left to merge. -/
theorem Stb2.last (h : Stb2 l s a M) (h0 : 0 < s) (hb : l.length < a + 2 * s) (hm : a + s < l.length) : ∃ P X Y, M = P ++ (X ++ (Y ++ [])) ∧ P.length = a ∧ X.length = s ∧ 0 < Y.length ∧ SortedB mlt X ∧ SortedB mlt Y ∧ P.length + X.length + Y.length + 0 = l.length ∧
    ∀ Z, Z.Perm (X ++ Y) → SortedB mlt Z → Stb1 l (2 * s) (P ++ (Z ++ [])) := by
  obtain ⟨⟨Cs, Bs, T, h1, h2, h3, h4, h5, h6⟩, hp⟩ := h
  have hl := hp.length_eq
  have hl2 := congrArg List.length h3
  simp only [List.length_append] at hl2
  rcases Bs with _ | ⟨X, _ | ⟨Y, Bs⟩⟩
  · simp only [List.flatten_nil, List.length_nil] at hl2; omega
  · obtain ⟨hx, hxs⟩ := h2 X (by simp)
    simp only [List.flatten_cons, List.flatten_nil, List.append_nil] at hl2 h3
    refine ⟨Cs.flatten, X, T, by rw [h3, List.append_nil], h4.symm, hx, by omega, hxs, h6, by omega, fun Z hz hs => ?_⟩
    refine ⟨⟨Cs, Z, h1, by rw [List.append_nil], by rw [hz.length_eq, List.length_append]; omega, hs⟩, ?_⟩
    refine perm_mid (X := X ++ T) ?_ hz
    rw [h3] at hp
    simpa using hp
  · obtain ⟨hx, hxs⟩ := h2 X (by simp)
    obtain ⟨hy, hys⟩ := h2 Y (by simp)
    simp only [List.flatten_cons, List.length_append] at hl2
    omega
/-- Nothing more to merge. -/
theorem Stb2.none (h : Stb2 l s a M) (h0 : 0 < s) (hm : l.length ≤ a + s) : Stb1 l (2 * s) M := by
  obtain ⟨⟨Cs, Bs, T, h1, h2, h3, h4, h5, h6⟩, hp⟩ := h
  have hl := hp.length_eq
  have hl2 := congrArg List.length h3
  simp only [List.length_append] at hl2
  rcases Bs with _ | ⟨X, _ | ⟨Y, Bs⟩⟩
  · exact ⟨⟨Cs, T, h1, by simpa using h3, by omega, h6⟩, hp⟩
  · obtain ⟨hx, hxs⟩ := h2 X (by simp)
    simp only [List.flatten_cons, List.flatten_nil, List.append_nil] at hl2 h3
    have e2 : T = [] := List.length_eq_zero_iff.1 (by omega)
    exact ⟨⟨Cs, X, h1, by rw [h3, e2, List.append_nil], by omega, hxs⟩, hp⟩
  · obtain ⟨hx, hxs⟩ := h2 X (by simp)
    obtain ⟨hy, hys⟩ := h2 Y (by simp)
    simp only [List.flatten_cons, List.length_append] at hl2
    omega
end
end Go.Proofs.YtahiahjhpakeiaaGreatDoor

/-
  The stable sort of moves: the walk of stableCmpFunc.
-/
namespace Go.Proofs.YtahiahjhpakeiaaGreatDoor
open Go.RowKit Go.Maps Go.Sort Go.WideShapes Go.ChangeShapes Go.Deep
set_option linter.unusedVariables false
set_option linter.unusedSimpArgs false
attribute [local go_sem] later_cell later_frozen later_lt cell_set_off cell_set_block keptT_cell keptT_lt

set_option maxRecDepth 100000 in
set_option maxHeartbeats 8000000 in
theorem stb_any (w : World) (q n cap : Nat) (l : List Mv) (hM : MvIn w q l) (hn : l.length = n) (hnl : n ≤ 1000000) :
    Calls Tryz.prog 113 #[.slice (some ⟨q, 0, none⟩) n cap, .int .i64 n, .func (.func 59) #[] #[]] w (SrtPost w q [] l []) := by
  have HM := Lib.hid hM
  have HN := Lib.hid hn
  have HP : Hid (∀ Z w', Z.Perm l → SortedB mlt Z → MvIn w' q Z → Kept (fun b => b = q) w w' → SrtPost w q [] l [] (.returned (.tuple #[])) w') := fun Z w' h1 h2 h3 h4 => ⟨rfl, Z, h1, h2, by simpa using h3, h4⟩
  clear hM hn
  go_enter Tryz.func113, Tryz.ntmps113
  go_wp2_with fail
  go_loopw [7, 8] (fun va vb wr => ∃ (a b : Nat) (M : List Mv), va = .int .i64 a ∧ vb = .int .i64 b ∧ a + 20 ≤ b ∧ b ≤ a + 20 ∧ a ≤ n ∧ Hid (Stb0 l a M) ∧ Hid (MvIn wr q M) ∧ Hid (Kept (fun b => b = q) w wr)) (fun va _ _ => n + 1 - (intOf va).toNat)
  case atStart => exact ⟨0, 20, l, rfl, rfl, by omega, by omega, by omega, Stb0.start l, HM.out, Kept.refl _ _⟩
  case round =>
    obtain ⟨a, b, M, rfl, rfl, hab1, hab2, han, hS, hI, hK⟩ := hrel
    by_cases hlt : b ≤ n
    · have hltI : (b : Int) ≤ (n : Int) := by omega
      obtain ⟨P, X, R, hMe, hPl, hXl, hnl2, hnext⟩ := hS.out.open (by rw [HN.out]; omega)
      rw [hMe] at hI
      have CI := insc_any wr q n cap P X R hI.out (by rw [hnl2, HN.out]) hnl a b hPl.symm (by rw [hXl]; omega)
      have CI := Lib.hid CI
      have HNX := Lib.hid hnext
      clear hMe hPl hXl hnl2 hnext hI hS
      go_wp2_with fail
      refine CI.out.mono ?_
      rintro e w2 ⟨rfl, Z, hz1, hz2, hM2, hK2⟩
      have S2 : Hid (Stb0 l b (P ++ (Z ++ R))) := show Stb0 _ _ _ from (show a + 20 = b by omega) ▸ HNX.out Z hz1 hz2
      have M2 := Lib.hid hM2
      have K2 := Lib.hid (hK.out.trans hK2)
      clear hz1 hz2 hM2 hK2 CI
      go_wp2_with fail
      go_roundw
      case rel => go_light; exact ⟨b, b + 20, _, by first | rfl | go_num, by go_num, by omega, by omega, by omega, S2.out, M2.out, K2.out⟩
      case measure => go_light; simp [intOf]; omega
    · have hltI : ¬ (b : Int) ≤ (n : Int) := by omega
      obtain ⟨P, X, hMe, hPl, hnl2, hnext⟩ := hS.out.last (by rw [HN.out]; omega)
      rw [hMe] at hI
      have CI := insc_any wr q n cap P X [] hI.out (by rw [← HN.out, ← hnl2]; rfl) hnl a n hPl.symm (by rw [← HN.out]; omega)
      have CI := Lib.hid CI
      have HNX := Lib.hid hnext
      clear hMe hPl hnl2 hnext hI hS
      go_wp2_with fail
      refine CI.out.mono ?_
      rintro e w2 ⟨rfl, Z, hz1, hz2, hM2, hK2⟩
      have S2 := Lib.hid (HNX.out Z hz1 hz2)
      have M2 := Lib.hid hM2
      have K2 := Lib.hid (hK.out.trans hK2)
      clear hz1 hz2 hM2 hK2 CI HNX
      go_wp2_with fail
      go_loopw [6] (fun vs wr => ∃ (s : Nat) (M : List Mv), vs = .int .i64 s ∧ 20 ≤ s ∧ s ≤ 20 + 2 * n ∧ Hid (Stb1 l s M) ∧ Hid (MvIn wr q M) ∧ Hid (Kept (fun b => b = q) w wr)) (fun vs _ => n - (intOf vs).toNat)
      case atStart => exact ⟨20, _, rfl, by omega, by omega, S2.out, M2.out, K2.out⟩
      case round =>
        obtain ⟨s, M, rfl, h20, hsn, hS, hI, hK⟩ := hrel
        by_cases hlt : s < n
        · have hltI : (s : Int) < (n : Int) := by omega
          have hS2 := Lib.hid hS.out.two
          clear hS
          go_wp2_with fail
          go_loopw [7, 8] (fun va vb wi => ∃ (a b : Nat) (M : List Mv), va = .int .i64 a ∧ vb = .int .i64 b ∧ a + 2 * s ≤ b ∧ b ≤ a + 2 * s ∧ a ≤ n ∧ Hid (Stb2 l s a M) ∧ Hid (MvIn wi q M) ∧ Hid (Kept (fun b => b = q) w wi)) (fun va _ _ => n + 1 - (intOf va).toNat)
          case atStart => exact ⟨0, 2 * s, M, rfl, by first | rfl | (congr 1; omega) | (congr 1), by omega, by omega, by omega, hS2.out, hI.out, hK.out⟩
          case round =>
            obtain ⟨a, b, M, rfl, rfl, hab1, hab2, han, hS, hI, hK⟩ := hrel
            obtain ⟨ms, hms⟩ : ∃ z, z = a + s := ⟨_, rfl⟩
            have hmsI : (a : Int) + (s : Int) = (ms : Int) := by omega
            have hms1 : a + s ≤ ms := by omega
            have hms2 : ms ≤ a + s := by omega
            clear hms
            by_cases hab : b ≤ n
            · have habI : (b : Int) ≤ (n : Int) := by omega
              obtain ⟨P, X, Y, R, hMe, hPl, hXl, hYl, hX, hY, hnl2, hnext⟩ := hS.out.open (by omega) (by rw [HN.out]; omega)
              rw [hMe] at hI
              have CI := sym_any q n cap hnl (X.length + Y.length + 1) P X Y R wr (by omega) (by omega) (by omega) hX hY hI.out (by rw [hnl2, HN.out]) a ms b hPl.symm (by rw [hXl]; omega) (by rw [hYl]; omega)
              have CI := Lib.hid CI
              have HNX := Lib.hid hnext
              clear hMe hPl hXl hYl hX hY hnl2 hnext hI hS
              go_wp2_with fail
              refine CI.out.mono ?_
              rintro e w2 ⟨rfl, Z, hz1, hz2, hM2, hK2⟩
              have S2 : Hid (Stb2 l s b (P ++ (Z ++ R))) := show Stb2 _ _ _ _ from (show a + 2 * s = b by omega) ▸ HNX.out Z hz1 hz2
              have M2 := Lib.hid hM2
              have K2 := Lib.hid (hK.out.trans hK2)
              clear hz1 hz2 hM2 hK2 CI
              go_wp2_with fail
              go_roundw
              case rel => go_light; exact ⟨b, b + 2 * s, _, by first | rfl | go_num, by first | rfl | (congr 1; done) | (congr 1; omega), by omega, by omega, by omega, S2.out, M2.out, K2.out⟩
              case measure => go_light; simp [intOf]; omega
            · have habI : ¬ (b : Int) ≤ (n : Int) := by omega
              by_cases hm : ms < n
              · have hmI : (ms : Int) < (n : Int) := by omega
                obtain ⟨P, X, Y, hMe, hPl, hXl, hYl, hX, hY, hnl2, hnext⟩ := hS.out.last (by omega) (by rw [HN.out]; omega) (by rw [HN.out]; omega)
                rw [hMe] at hI
                have CI := sym_any q n cap hnl (X.length + Y.length + 1) P X Y [] wr (by omega) (by omega) hYl hX hY hI.out (by rw [← HN.out, ← hnl2]; rfl) a ms n hPl.symm (by rw [hXl]; omega) (by have := HN.out; omega)
                have CI := Lib.hid CI
                have HNX := Lib.hid hnext
                clear hMe hPl hXl hYl hX hY hnl2 hnext hI hS
                go_wp2_with fail
                refine CI.out.mono ?_
                rintro e w2 ⟨rfl, Z, hz1, hz2, hM2, hK2⟩
                have S2 := Lib.hid (HNX.out Z hz1 hz2)
                have M2 := Lib.hid hM2
                have K2 := Lib.hid (hK.out.trans hK2)
                clear hz1 hz2 hM2 hK2 CI
                go_wp2_with fail
                go_roundw
                case rel => go_light; exact ⟨2 * s, _, by first | rfl | (congr 1; done) | (congr 1; omega), by omega, by omega, S2.out, M2.out, K2.out⟩
                case measure => go_light; simp [intOf]; omega
              · have hmI : ¬ (ms : Int) < (n : Int) := by omega
                have S2 := Lib.hid (hS.out.none (by omega) (by rw [HN.out]; omega))
                go_wp2_with fail
                go_roundw
                case rel => go_light; exact ⟨2 * s, _, by first | rfl | (congr 1; done) | (congr 1; omega), by omega, by omega, S2.out, hI.out, hK.out⟩
                case measure => go_light; simp [intOf]; omega
        · have hltI : ¬ (s : Int) < (n : Int) := by omega
          have hD := Lib.hid (hS.out.done (by rw [HN.out]; omega) (by omega))
          go_wp2_with fail
          go_end0
          exact HP.out M _ hS.out.perm hD.out hI.out hK.out
set_option maxRecDepth 100000 in
/-- The library's stable sort, at moves. -/
theorem ssf_any (w : World) (q n cap : Nat) (l : List Mv) (hM : MvIn w q l) (hn : l.length = n) (hnl : n ≤ 1000000) :
    Calls Tryz.prog 58 #[.slice (some ⟨q, 0, none⟩) n cap, .func (.func 59) #[] #[]] w (SrtPost w q [] l []) := by
  have C := Lib.hid (stb_any w q n cap l hM hn hnl)
  clear hM hn
  go_enter Tryz.func58, Tryz.ntmps58
  go_wp2_with fail
  refine C.out.mono ?_
  rintro e w2 ⟨rfl, hz⟩
  have HZ := Lib.hid hz
  clear hz
  go_wp2_with fail
  go_end0
  exact ⟨rfl, HZ.out⟩
end Go.Proofs.YtahiahjhpakeiaaGreatDoor
