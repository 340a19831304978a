
/-
  The closed facts of the row together.
  WigwagWays: on a ring on which all is as it should be all ways to one place end at one member, the owner, and each member on such a way goes on as the way does; for every list of places and calls, and every place; no conditions (errors.errorType is tied).
-/
import Derived.Test.YtidlmlecgjoddaaGreatDoorWaysF
import Derived.Test.YtidlmlecgjoddaaGreatDoorMade
import Derived.Test.YtidlmlecgjoddaaGreatDoorRouteD
import Derived.Test.YtidlmlecgjoddaaGreatDoorRows
import Derived.Test.YtidlmlecgjoddaaGreatDoorTie
import Derived.Test.YtidlmlecgjoddaaGreatDoorCards
import Derived.WalkKit
import Derived.ProofKit
import Derived.OpenShut
import Derived.ShutString
import Derived.ChangeOld
import Derived.ChangeSame
import Derived.ChangeVars
import Derived.Below
import Derived.SizedLaws
import Derived.Carry
import Derived.Deep.Slices
import Derived.JoinedOf
import Derived.RowKit
import Derived.RowKitTokens
import Derived.LaidLaws
import Derived.LaidHandle
import Derived.Stop.Joined
import Derived.SevenTiedAt
namespace Go.Proofs.YtidlmlecgjoddaaGreatDoor.wigwagWays
open Go
set_option linter.unusedVariables false
set_option maxRecDepth 100000 in
theorem joined_eq (P : Program) (f : FuncId) (fn : Func) (s : ChangeSpec) (c : OpenClaim) : joinedFacts P f fn s c = (((((((((((((((((((((((((((((((((fun (P : Program) (f : FuncId) (fn : Func) (s : ChangeSpec) (c : OpenClaim) => (c.wf (OpenSpec.ofChange s) : Bool)) P f fn s c) && ((fun (P : Program) (f : FuncId) (fn : Func) (s : ChangeSpec) (c : OpenClaim) => (laidOutB P : Bool)) P f fn s c)) && ((fun (P : Program) (f : FuncId) (fn : Func) (s : ChangeSpec) (c : OpenClaim) => (mapsRowed P : Bool)) P f fn s c)) && ((fun (P : Program) (f : FuncId) (fn : Func) (s : ChangeSpec) (c : OpenClaim) => (fn.params.all (P.readableRec ·) : Bool)) P f fn s c)) && ((fun (P : Program) (f : FuncId) (fn : Func) (s : ChangeSpec) (c : OpenClaim) => (namedTie P c.named s.vars : Bool)) P f fn s c)) && ((fun (P : Program) (f : FuncId) (fn : Func) (s : ChangeSpec) (c : OpenClaim) => ((c.stops == []) : Bool)) P f fn s c)) && ((fun (P : Program) (f : FuncId) (fn : Func) (s : ChangeSpec) (c : OpenClaim) => ((P.stops == []) : Bool)) P f fn s c)) && ((fun (P : Program) (f : FuncId) (fn : Func) (s : ChangeSpec) (c : OpenClaim) => ((c.knobs == []) : Bool)) P f fn s c)) && ((fun (P : Program) (f : FuncId) (fn : Func) (s : ChangeSpec) (c : OpenClaim) => ((P.stopKnobs == []) : Bool)) P f fn s c)) && ((fun (P : Program) (f : FuncId) (fn : Func) (s : ChangeSpec) (c : OpenClaim) => ((c.inPlace == P.inPlace f) : Bool)) P f fn s c)) && ((fun (P : Program) (f : FuncId) (fn : Func) (s : ChangeSpec) (c : OpenClaim) => ((c.unfollowed == P.unfollowed f) : Bool)) P f fn s c)) && ((fun (P : Program) (f : FuncId) (fn : Func) (s : ChangeSpec) (c : OpenClaim) => ((c.recurses == P.recurses f) : Bool)) P f fn s c)) && ((fun (P : Program) (f : FuncId) (fn : Func) (s : ChangeSpec) (c : OpenClaim) => ((c.named == P.varsNamed f) : Bool)) P f fn s c)) && ((fun (P : Program) (f : FuncId) (fn : Func) (s : ChangeSpec) (c : OpenClaim) => ((c.maps == (fn.params.toList ++ s.plain.varTypes P).any (P.mapsRec ·)) : Bool)) P f fn s c)) && ((fun (P : Program) (f : FuncId) (fn : Func) (s : ChangeSpec) (c : OpenClaim) => ((c.ifaces == (fn.params.toList ++ s.plain.varTypes P).any (P.ifacesRec ·)) : Bool)) P f fn s c)) && ((fun (P : Program) (f : FuncId) (fn : Func) (s : ChangeSpec) (c : OpenClaim) => ((c.mapsOut == P.mapsAmong fn.resultTypes.toList) : Bool)) P f fn s c)) && ((fun (P : Program) (f : FuncId) (fn : Func) (s : ChangeSpec) (c : OpenClaim) => ((c.loops == (fn.params.toList ++ s.plain.varTypes P).any (P.loopsFrom ·)) : Bool)) P f fn s c)) && ((fun (P : Program) (f : FuncId) (fn : Func) (s : ChangeSpec) (c : OpenClaim) => ((c.wideKeys == (fn.params.toList ++ s.plain.varTypes P ++ fn.resultTypes.toList).any (P.wideKeysFrom ·)) : Bool)) P f fn s c)) && ((fun (P : Program) (f : FuncId) (fn : Func) (s : ChangeSpec) (c : OpenClaim) => (s.vars.all (P.varReadable ·) : Bool)) P f fn s c)) && ((fun (P : Program) (f : FuncId) (fn : Func) (s : ChangeSpec) (c : OpenClaim) => (fn.resultTypes.all (fun t => P.readableRec t && decide (t < P.types.size)) : Bool)) P f fn s c)) && ((fun (P : Program) (f : FuncId) (fn : Func) (s : ChangeSpec) (c : OpenClaim) => ((c.ifacesOut == fn.resultTypes.toList.any (P.ifacesRec ·)) : Bool)) P f fn s c)) && ((fun (P : Program) (f : FuncId) (fn : Func) (s : ChangeSpec) (c : OpenClaim) => ((c.loopsOut == fn.resultTypes.toList.any (P.loopsFrom ·)) : Bool)) P f fn s c)) && ((fun (P : Program) (f : FuncId) (fn : Func) (s : ChangeSpec) (c : OpenClaim) => ((c.plainKeys == P.plainKeys) : Bool)) P f fn s c)) && ((fun (P : Program) (f : FuncId) (fn : Func) (s : ChangeSpec) (c : OpenClaim) => (c.shortTexts.isNone : Bool)) P f fn s c)) && ((fun (P : Program) (f : FuncId) (fn : Func) (s : ChangeSpec) (c : OpenClaim) => (P.stopsHeard : Bool)) P f fn s c)) && ((fun (P : Program) (f : FuncId) (fn : Func) (s : ChangeSpec) (c : OpenClaim) => (P.mayEnter : Bool)) P f fn s c)) && ((fun (P : Program) (f : FuncId) (fn : Func) (s : ChangeSpec) (c : OpenClaim) => ((c.lifted == P.liftsFinal) : Bool)) P f fn s c)) && ((fun (P : Program) (f : FuncId) (fn : Func) (s : ChangeSpec) (c : OpenClaim) => ((P.make == some c.make) : Bool)) P f fn s c)) && ((fun (P : Program) (f : FuncId) (fn : Func) (s : ChangeSpec) (c : OpenClaim) => ((c.kinds == (if c.domain.isEmpty then [] else fn.params.toList.map fun t => match P.underlying t with | some (.int k) => some k | _ => none)) : Bool)) P f fn s c)) && ((fun (P : Program) (f : FuncId) (fn : Func) (s : ChangeSpec) (c : OpenClaim) => ((c.pinned == c.pinnedBy) : Bool)) P f fn s c)) && ((fun (P : Program) (f : FuncId) (fn : Func) (s : ChangeSpec) (c : OpenClaim) => ((c.veiled == (fn.params.toList ++ s.plain.varTypes P ++ fn.resultTypes.toList).any (P.veiledRec ·)) : Bool)) P f fn s c)) && ((fun (P : Program) (f : FuncId) (fn : Func) (s : ChangeSpec) (c : OpenClaim) => (c.veiledFits P fn.params.toList (fn.params.toList ++ s.plain.varTypes P ++ fn.resultTypes.toList) : Bool)) P f fn s c)) := rfl
set_option maxRecDepth 100000 in
theorem closed : joinedFacts Tryz.prog 8 Tryz.f8 Rows.wigwagWaysSpec Rows.wigwagWaysRow = true :=
  (joined_eq Tryz.prog 8 Tryz.f8 Rows.wigwagWaysSpec Rows.wigwagWaysRow).trans (andT (andT (andT (andT (andT (andT (andT (andT (andT (andT (andT (andT (andT (andT (andT (andT (andT (andT (andT (andT (andT (andT (andT (andT (andT (andT (andT (andT (andT (andT (andT fact0 fact1) fact2) fact3) fact4) fact5) fact6) fact7) fact8) fact9) fact10) fact11) fact12) fact13) fact14) fact15) fact16) fact17) fact18) fact19) fact20) fact21) fact22) fact23) fact24) fact25) fact26) fact27) fact28) fact29) fact30) fact31)
end Go.Proofs.YtidlmlecgjoddaaGreatDoor.wigwagWays


/-
  WigwagWays walked.
-/
namespace Go.Proofs.YtidlmlecgjoddaaGreatDoor
open Go.RowKit Go.Maps Go.Sort Go.WideShapes Go.ChangeShapes Go.Deep
set_option linter.unusedVariables false
set_option linter.unusedSimpArgs false
attribute [local go_sem] later_cell later_frozen later_lt cell_set_off cell_set_block

theorem both_ok {S Q : Nat → Prop} {W w : World} {rb mb : Nat} {f : RS} {p : Where} (h : Both S Q W w rb mb f p) : RingOk W.heap.size W w rb mb f := by
  obtain ⟨g, hg⟩ := h.ring
  exact ⟨⟨g, hg.same (Nat.le_refl _) (fun _ _ _ => rfl) (fun b _ hS => h.low b hS) fun b hb => by have := h.below.size; omega⟩, h.inv, h.below⟩
/-- What Made leaves, as the laws use it that look at the ring alone. -/
theorem made_ring (W : World) (hH : HandleAt W) (v0 v1 : Value) (ids : List Int) (acts : List ActD) (n : Nat) (hi : SlAt 0 (fun i => .int .u64 (nth ids i)) ids.length W v0) (hp : ∀ x ∈ ids, isPlace x)
    (ha : ActsAt acts W v1) (hao : ∀ k, k < acts.length → (actAt acts k).ok) (hn : n ≤ 1000) (m : Int) (hm : m = n) : Calls Tryz.prog 9 #[v0, v1, .int .i64 m] W fun e w' =>
      (e = .returned (.tuple #[.pointer none, .agg #[.slice none 0 0, .slice none 0 0, .slice none 0 0, .slice none 0 0], .bool false]) ∧ RowKit.Below W.heap.size W w') ∨
      ∃ (rb mb : Nat) (f : RS) (p : Where), e = .returned (.tuple #[.pointer (some ⟨rb, 0, none⟩), (.agg #[.slice (some ⟨(p).b1, (p).o1, none⟩) 32 (p).k1, .slice (some ⟨(p).b2, (p).o2, none⟩) 32 (p).k2, .slice (some ⟨(p).b3, (p).o3, none⟩) 32 (p).k3, .slice (some ⟨(p).b4, (p).o4, none⟩) 32 (p).k4]), .bool true]) ∧ RingOk W.heap.size W w' rb mb f := by
  subst hm
  refine (made_any W hH v0 v1 ids acts n hi hp ha hao hn).mono fun e w' h => ?_
  unfold MadePost at h
  split at h
  · obtain ⟨rb, mb, f, p, S, Q, rfl, hB⟩ := h
    exact Or.inr ⟨rb, mb, f, p, rfl, both_ok hB⟩
  · exact Or.inl h

theorem circ_lenW (w : World) (aa : Option Addr) (n ac : Nat) (iv : Value) : Calls Tryz.prog 39 #[.agg #[.slice aa n ac, iv]] w fun e w' => e = .returned (.int .i64 n) ∧ RowKit.Below w.heap.size w w' := by
  go_enter Tryz.func39, Tryz.ntmps39
  go_wp2
  go_ret
  exact ⟨rfl, by (repeat (first | exact Below.refl _ _ | (with_reducible assumption) | (with_reducible refine bel_later ?_ _) | (with_reducible refine bel_alloc ?_ _) | (with_reducible refine bel_drew ?_) | (with_reducible refine bel_drewN ?_ _) | (with_reducible refine bel_set ?_ (by first | (simp; done) | (simp; omega) | (dsimp only; omega)) _)))⟩
theorem ring_base {W w0 w : World} {rb mb : Nat} {f : RS} (h : RingOk w0.heap.size w0 w rb mb f) (hb : RowKit.Below W.heap.size W w0) : RingOk W.heap.size W w rb mb f := by
  obtain ⟨g, hg⟩ := h.ring
  have := hb.size
  exact ⟨⟨g, hg.same (Nat.le_refl _) (fun _ _ _ => rfl) (fun b _ hS => by show W.heap.size ≤ b; exact Nat.le_trans this hS) fun b hb' => by show W.heap.size ≤ b; have := h.below.size; omega⟩, h.inv, bel_below hb h.below⟩
theorem acts_nil (w : World) : ActsAt [] w (.slice none 0 0) := ⟨none, 0, rfl, Nat.le_refl _, Nat.zero_le _, Or.inl rfl⟩
set_option maxRecDepth 100000 in
set_option maxHeartbeats 16000000 in
theorem wigwagWays_main (W : World) (hH : HandleAt W) (v0 v1 : Value) (ids : List Int) (acts : List ActD) (X : Int) (hX : isPlace X) (hi : SlAt 0 (fun i => .int .u64 (nth ids i)) ids.length W v0) (hp : ∀ x ∈ ids, isPlace x)
    (ha : ActsAt acts W v1) (hao : ∀ k, k < acts.length → (actAt acts k).ok) : Calls Tryz.prog 8 #[v0, v1, .int .u64 X] W (OneYes W) := by
  have CM := Lib.hid fun (w : World) (hb : RowKit.Below W.heap.size W w) => made_ring w (hH.below hb) v0 v1 ids acts 30 (hi.below hb) hp (ha.below hb) hao (by omega) 30 rfl
  have HH := Lib.hid hH
  obtain ⟨a0, c0, rfl, _⟩ := hi.slice
  obtain ⟨a1, q1, rfl, _, _⟩ := ha.slice
  clear hi hp ha hao hH
  go_enter Tryz.func8, Tryz.ntmps8
  go_wp2_with fail
  obtain ⟨w1, hw1⟩ : ∃ z, z = W.alloc (.cells #[.int .u64 10, .int .u64 20, .int .u64 30, .int .u64 40] 43) := ⟨_, rfl⟩
  have B1 : Hid (RowKit.Below W.heap.size W w1) := by rw [hw1]; exact bel_alloc (RowKit.Below.refl _ _) _
  have SL : Hid (SlAt 0 (fun i => .int .u64 (nth [10, 20, 30, 40] i)) 4 w1 (.slice (some ⟨W.heap.size, 0, none⟩) 4 4)) := by
    rw [hw1]; exact sl_new W .u64 [10, 20, 30, 40] 43 _ 4 rfl rfl (by simp [maxLen])
  have CO : Hid (Calls Tryz.prog 9 #[.slice (some ⟨W.heap.size, 0, none⟩) 4 4, .slice none 0 0, .int .i64 0] w1 (MadePostN 0 w1 [10, 20, 30, 40])) := made_anyN w1 (HH.out.below B1.out) _ _ [10, 20, 30, 40] [] 0 SL.out (by intro x hx; simp at hx; rcases hx with rfl | rfl | rfl | rfl <;> (constructor <;> decide)) (acts_nil w1) (fun k hk => by simp at hk) (by omega)
  rw [← hw1]
  clear hw1 SL
  refine CO.out.mono ?_
  intro e w2 hm
  unfold MadePostN at hm
  rw [if_pos (show fourB [10, 20, 30, 40] = true by show fourB ids0 = true; unfold fourB; rw [set0]; rfl)] at hm
  obtain ⟨rb, mb, f, p, S, Q, rfl, hBo, hf⟩ := hm
  obtain rfl : f = F0 := (hf rfl).trans (by show newF ids0 (setI ids0) 4 = F0; rw [set0, f0_eq])
  have R2 := Lib.hid (ring_base (both_ok hBo) B1.out)
  clear hBo hf CO B1
  go_wp2_with fail
  obtain ⟨w3, hw3⟩ : ∃ z, z = w2.alloc (.cells #[.slice (some ⟨p.b1, p.o1, none⟩) 32 p.k1, .slice (some ⟨p.b2, p.o2, none⟩) 32 p.k2, .slice (some ⟨p.b3, p.o3, none⟩) 32 p.k3, .slice (some ⟨p.b4, p.o4, none⟩) 32 p.k4] 32) := ⟨_, rfl⟩
  have R3 : Hid (RingOk W.heap.size W w3 rb mb F0) := by rw [hw3]; exact R2.out.later (bel_alloc (RowKit.Below.refl _ _) _)
  rw [← hw3]
  clear hw3 R2
  obtain ⟨g3, G3⟩ := R3.out.ring
  have CF := of_at G3 R3.out.inv
  rw [circ0.1] at CF
  clear G3
  refine CF.mono ?_
  rintro e w4 ⟨av, iv, rfl, hav, hiv, hB4⟩
  obtain ⟨aa, ac, rfl, _⟩ := hav.slice
  obtain ⟨ia, ic, rfl, _⟩ := hiv.slice
  have R4 := Lib.hid (R3.out.later hB4)
  clear hav hiv hB4 R3 CF
  go_wp2_with fail
  refine (circ_lenW _ _ _ _ _).mono ?_
  rintro e w5 ⟨rfl, hB5⟩
  have R5 := Lib.hid (R4.out.later hB5)
  clear hB5 R4
  obtain ⟨g5, G5⟩ := R5.out.ring
  have CF := Lib.hid (of_at G5 R5.out.inv)
  rw [circ0.1] at CF
  clear G5
  go_wp2_with fail
  refine CF.out.mono ?_
  rintro e w6 ⟨av, iv, rfl, hav, hiv, hB6⟩
  have CW := cowner_at w6 [0, 1, 2, 3] ([0, 1, 2, 3].map (idR F0)) _ _ (hav.base (Nat.zero_le _)) (hiv.base (Nat.zero_le _)) rfl (by simp) (by rw [circ0.2.1]; exact up0) 25
  rw [circ0.2.1, own0.1] at CW
  obtain ⟨aa, ac, rfl, _⟩ := hav.slice
  obtain ⟨ia, ic, rfl, _⟩ := hiv.slice
  have R6 := Lib.hid (R5.out.later hB6)
  have CW := Lib.hid CW
  clear hav hiv hB6 R5 CF
  go_wp2_with fail
  refine CW.out.mono ?_
  rintro e w7 ⟨rfl, hB7⟩
  have B7 : Hid (RowKit.Below W.heap.size W w7) := (R6.out.later hB7).below
  clear hB7 R6 CW
  go_wp2_with fail
  refine (CM.out w7 B7.out).mono ?_
  rintro e w1 (⟨rfl, hm⟩ | ⟨rb, mb, f, p, rfl, hR0⟩)
  · have BE := Lib.hid (bel_below B7.out hm)
    clear hm
    go_wp2_with fail
    go_ret
    first | exact ⟨rfl, BE.out⟩ | exact ⟨rfl, bel_alloc BE.out _⟩
  · have hR := ring_base hR0 B7.out
    clear hR0 B7
    have R1 := Lib.hid hR
    have hlen := length_liveL f
    obtain ⟨nl, hnl⟩ : ∃ n, n = (liveL f).length := ⟨_, rfl⟩
    rw [← hnl] at hlen
    have HN := Lib.hid hnl
    have HIN := Lib.hid hR.inv
    clear hR CM hnl
    go_wp2_with fail
    obtain ⟨w2, hw2⟩ : ∃ z, z = w1.alloc (.cells #[.slice (some ⟨p.b1, p.o1, none⟩) 32 p.k1, .slice (some ⟨p.b2, p.o2, none⟩) 32 p.k2, .slice (some ⟨p.b3, p.o3, none⟩) 32 p.k3, .slice (some ⟨p.b4, p.o4, none⟩) 32 p.k4] 32) := ⟨_, rfl⟩
    have R2 : Hid (RingOk W.heap.size W w2 rb mb f) := by rw [hw2]; exact R1.out.later (bel_alloc (RowKit.Below.refl _ _) _)
    rw [← hw2]
    clear hw2 R1
    go_loopw [13] (fun i wr => ∃ j : Nat, j ≤ 4 * nl + 8 ∧ i = .int .i64 j ∧ Hid (RingOk W.heap.size W wr rb mb (rn j f))) (fun i _ => 4 * nl + 8 - (intOf i).toNat)
    case atStart => exact ⟨0, by omega, rfl, R2.out⟩
    case round =>
      obtain ⟨j, hj, rfl, hRj⟩ := hrel
      obtain ⟨g3, G3⟩ := hRj.out.ring
      have CLV := live_at G3
      rw [liveL_rn] at CLV
      have hn2 := HN.out
      obtain ⟨L, hL⟩ : ∃ L, L = liveL f := ⟨_, rfl⟩
      rw [← hL] at CLV hn2
      have CV := Lib.hid CLV
      clear G3 CLV hL
      by_cases hlj : j < 4 * nl + 8
      · have hljI : (j : Int) < 4 * (nl : Int) + 8 := by omega
        go_wp2_with fail
        refine CV.out.mono ?_
        rintro e w4 ⟨v4, rfl, hs4, hB4⟩
        obtain ⟨a4, q4, rfl, _⟩ := hs4.slice
        have R4 := Lib.hid (hRj.out.later hB4)
        rw [← hn2]
        clear hs4 hB4 hn2
        obtain ⟨g5, G5⟩ := R4.out.ring
        have CR := Lib.hid (round_at G5 R4.out.inv.heads)
        clear G5
        go_wp2_with fail
        refine (rounds_any _ (by omega) (by omega) _).mono ?_
        rintro e w5 ⟨rfl, rfl⟩
        go_wp2_with fail
        refine CR.out.mono ?_
        rintro e w5 ⟨rfl, hg5, hk5⟩
        have R5 : Hid (RingOk W.heap.size W w5 rb mb (rn (j + 1) f)) := R4.out.step (inv_round R4.out.inv) ⟨_, hg5⟩ hk5
        clear hg5 hk5
        go_wp2_with fail
        go_roundw
        case rel => go_light; exact ⟨j + 1, by omega, by go_num, R5.out⟩
        case measure => go_light; simp [intOf]; omega
      have hljI : ¬ (j : Int) < 4 * (nl : Int) + 8 := by omega
      have GD0 : Hid (Good (rn j f)) := good_rn HIN.out (by have := HN.out; omega)
      have HLF0 : Hid (nl = (liveL (rn j f)).length) := show nl = _ by rw [liveL_rn]; exact HN.out
      have HIS0 : Hid (isB (rn j f) = true) := calmLaw f HIN.out j (by have := HN.out; omega)
      obtain ⟨f0, hf0⟩ : ∃ f0, f0 = rn j f := ⟨_, rfl⟩
      rw [← hf0] at GD0 HLF0 hRj HIS0
      clear hf0
      go_wp2_with fail
      refine CV.out.mono ?_
      rintro e w4 ⟨v4, rfl, hs4, hB4⟩
      obtain ⟨a4, q4, rfl, _⟩ := hs4.slice
      have R4 := Lib.hid (hRj.out.later hB4)
      rw [← hn2]
      clear hs4 hB4 hn2 hRj CV
      go_wp2_with fail
      refine (rounds_any _ (by omega) (by omega) _).mono ?_
      rintro e w5 ⟨rfl, rfl⟩
      go_wp2_with fail
      obtain ⟨w5, hw5⟩ : ∃ z, z = w4 := ⟨_, rfl⟩
      rw [← hw5] at R4 ⊢
      clear hw5 hljI hlj HN HIN R2
      obtain ⟨g, hG⟩ := R4.out.ring
      refine (newf_any w5 rb).mono ?_
      rintro e w6 ⟨fb, fm, rfl, hf, hb6⟩
      have G6 := Lib.hid (hG.now hb6)
      have F6 := Lib.hid hf
      have B6 := Lib.hid (bel_below R4.out.below hb6)
      have hnow : ¬ Now (fun b => W.heap.size ≤ b) w5 w6 fm := fun h => by
        have h2 := hf.fmQ
        have h3 := hf.fmz
        rcases h with ⟨_, h⟩ | h <;> omega
      have CRF := Lib.hid (roundf_at G6.out F6.out GD0.out.inv.heads hnow)
      clear hf hb6 hG
      go_wp2_with fail
      refine CRF.out.mono ?_
      rintro e w7 ⟨rfl, hf7, hk7⟩
      have G7 := Lib.hid (G6.out.off hk7 hnow)
      obtain ⟨F, hF⟩ : ∃ z, z = fixes f0 (fun _ => []) (liveL f0) := ⟨_, rfl⟩
      rw [← hF] at hf7
      have F7 := Lib.hid hf7
      have B7 : Hid (RowKit.Below W.heap.size W w7) := show RowKit.Below _ _ _ from B6.out.trans (hk7.toBelow B6.out.size (fun b hb e => by
        have := F6.out.fmQ
        have := R4.out.below.size
        omega))
      clear hf7 hk7 CRF hF F6 G6 hnow R4 B6
      go_wp2_with fail
      have hlc : (circ f0).length ≤ 32 := by rw [circ_len]; exact length_liveL f0
      refine (of_at G7.out GD0.out.inv).mono ?_
      rintro e w8 ⟨av, iv, rfl, hav, hiv, hB8⟩
      have CW := Lib.hid (cowner_at w8 (circ f0) ((circ f0).map (idR f0)) _ _ (hav.base (Nat.zero_le _)) (by have := hiv.base (Nat.zero_le _); simpa using this) (by simp) (by omega) (circ_up GD0.out.inv) X)
      obtain ⟨aa, ac, rfl, _⟩ := hav.slice
      obtain ⟨ia, ic, rfl, _⟩ := hiv.slice
      have HOL := Lib.hid (owner_lives GD0.out.inv X)
      obtain ⟨o, ho⟩ : ∃ z, z = own f0 X := ⟨_, rfl⟩
      rw [← show o = cOwner (circ f0) ((circ f0).map (idR f0)) X from ho] at CW HOL
      have HO := Lib.hid ho
      have G8 := Lib.hid (G7.out.below hB8)
      have F8 := Lib.hid (F7.out.below hB8)
      have B8 := Lib.hid (bel_below B7.out hB8)
      obtain ⟨cl, hcl⟩ : ∃ cl, cl = (circ f0).length := ⟨_, rfl⟩
      rw [← hcl] at CW ⊢
      clear hav hiv hB8 ho hcl hlc G7 F7 B7
      go_wp2_with fail
      refine CW.out.mono ?_
      rintro e w9 ⟨rfl, hB9⟩
      have G9 := Lib.hid (G8.out.below hB9)
      have F9 := Lib.hid (F8.out.below hB9)
      have B9 := Lib.hid (bel_below B8.out hB9)
      have CLV := live_at G9.out
      have hmem := Lib.hid (fun x (hx : x ∈ liveL f0) => (mem_liveL GD0.out.inv.dom).1 hx)
      obtain ⟨L, hL⟩ : ∃ L, L = liveL f0 := ⟨_, rfl⟩
      rw [← hL] at CLV hmem HLF0
      have hlL : L.length ≤ 32 := by rw [hL]; exact length_liveL f0
      have CV := Lib.hid CLV
      clear hB9 CW CLV hL G8 F8 B8
      go_wp2_with fail
      refine CV.out.mono ?_
      rintro e wA ⟨vA, rfl, hsA, hBA⟩
      obtain ⟨aA, qA, rfl, _⟩ := hsA.slice
      have GA := Lib.hid (G9.out.below hBA)
      have FA := Lib.hid (F9.out.below hBA)
      have BA := Lib.hid (bel_below B9.out hBA)
      have SA := Lib.hid (hsA.base (Nat.zero_le _))
      clear hsA hBA CV G9 F9 B9
      go_wp2_with fail
      go_loopw [73] (fun i wr => ∃ k : Nat, k ≤ L.length ∧ i = .int .i64 k ∧ Hid (RowKit.Below wA.heap.size wA wr)) (fun i _ => L.length - (intOf i).toNat)
      case atStart => exact ⟨0, Nat.zero_le _, rfl, RowKit.Below.refl _ _⟩
      case round =>
        obtain ⟨k, hk, rfl, hB⟩ := hrel
        by_cases hlt : k < L.length
        · obtain ⟨b, off, rfl, _, hbz, hck⟩ := SA.out.at k hlt wr hB.out
          have hly := hmem.out _ (nth_mem.2 ⟨k, hlt, rfl⟩)
          have hdy := livesR_dom GD0.out.inv.dom hly
          obtain ⟨y, hy⟩ : ∃ z, z = nth L k := ⟨_, rfl⟩
          rw [← hy] at hck hly hdy
          have Gr := Lib.hid (GA.out.below hB.out)
          have Fr := Lib.hid (FA.out.below hB.out)
          obtain ⟨l, hl, hGW⟩ := good_path GD0.out F hX hly
          have hW := (path_way _ _ _ hl).1
          have hl32 := good_len GD0.out hGW
          have CP := Lib.hid (path_some Gr.out Fr.out GD0.out.inv.heads y X (okInt_dom (by omega) (by omega)) hly hl)
          have hlast : Hid (nth l (l.length - 1) = o) := show _ = o by rw [HO.out]; exact hGW.last
          have hpos := hW.pos
          have HPL := Lib.hid hl
          have HLV := Lib.hid hGW.lives
          have hl32' : l.length ≤ 32 := by have := length_liveL f0; omega
          clear hy hly hdy hl hGW hW hl32
          go_wp2_with fail
          refine CP.out.mono ?_
          rintro e wB ⟨v8, rfl, hs8, hb8⟩
          obtain ⟨a8, c8, rfl, _⟩ := hs8.slice
          obtain ⟨b8, o8, rfl, _, hz8, hc8⟩ := hs8.at (l.length - 1) (by omega) wB (RowKit.Below.refl _ _)
          rw [hlast.out] at hc8
          have S8 := Lib.hid (hs8.base (Nat.zero_le _))
          have B8 := Lib.hid (bel_below hB.out hb8)
          have G8 := Lib.hid (Gr.out.below hb8)
          have F8 := Lib.hid (Fr.out.below hb8)
          obtain ⟨m, hm⟩ : ∃ m, l.length = m + 1 := ⟨l.length - 1, by omega⟩
          have hL1 : ¬ ((m : Nat) : Int) + 1 < 1 := by omega
          have hL2 : ¬ (((m + 1 : Nat)) : Int) < 1 := by omega
          have hL3 : ((m : Nat) : Int) < ((m : Nat) : Int) + 1 := by omega
          have hL4 : m < m + 1 := by omega
          have hmw : IntKind.i64.wrap ((m : Nat) : Int) = ((m : Nat) : Int) := by rw [IntKind.wrap_i64]; omega
          have HM := Lib.hid hm
          rw [hm] at hc8 ⊢
          rw [Nat.add_sub_cancel] at hc8
          clear hs8 hb8 CP hck hbz hlast hpos hm Gr Fr
          go_wp2_with fail
          go_loopw [103] (fun i wr => ∃ j : Nat, j ≤ m + 1 ∧ i = .int .i64 j ∧ Hid (RowKit.Below wB.heap.size wB wr)) (fun i _ => m + 1 - (intOf i).toNat)
          case atStart => exact ⟨0, Nat.zero_le _, rfl, RowKit.Below.refl _ _⟩
          case round =>
            obtain ⟨j, hj, rfl, hBj⟩ := hrel
            by_cases hjm : j < m + 1
            · obtain ⟨b9, o9, e9, _, hz9, hc9⟩ := S8.out.at j (by have := HM.out; omega) wr hBj.out
              cases e9
              have hjl : j < l.length := by have := HM.out; omega
              have hly := HLV.out _ (nth_mem.2 ⟨j, hjl, rfl⟩)
              have hdy := livesR_dom GD0.out.inv.dom hly
              have CP := path_some (G8.out.below hBj.out) (F8.out.below hBj.out) GD0.out.inv.heads (nth l j) X (okInt_dom (by omega) (by omega)) hly (path_rest _ _ _ HPL.out j hjl)
              rw [show (l.drop j).length = m + 1 - j by rw [List.length_drop, HM.out]] at CP
              obtain ⟨z, hz⟩ : ∃ z, z = nth l j := ⟨_, rfl⟩
              rw [← hz] at hc9 CP
              have CP := Lib.hid CP
              obtain ⟨d, hd⟩ : ∃ d, m + 1 - j = d := ⟨_, rfl⟩
              rw [hd] at CP
              have hjI : ((j : Nat) : Int) < ((m + 1 : Nat) : Int) := by omega
              have hjI2 : ((j : Nat) : Int) < ((m : Nat) : Int) + 1 := by omega
              have HD : Hid (((m + 1 : Nat) : Int) - (j : Int) = (d : Int)) := show _ = _ by omega
              have HD2 : Hid (((m : Nat) : Int) + 1 - (j : Int) = (d : Int)) := show _ = _ by omega
              have hdw : IntKind.i64.wrap ((d : Nat) : Int) = ((d : Nat) : Int) := by rw [IntKind.wrap_i64]; have := HM.out; omega
              clear hz hly hdy hd
              go_wp2_with fail
              refine CP.out.mono ?_
              rintro e wC ⟨v9, rfl, hs9, hb9⟩
              obtain ⟨a9, c9, rfl, _⟩ := hs9.slice
              have B9 := Lib.hid (bel_below hBj.out hb9)
              have hd1 := HD.out
              have hd2 := HD2.out
              clear hs9 hb9 CP hc9
              go_wp2_with fail
              go_roundw
              case rel => go_light; exact ⟨j + 1, by omega, by go_num, B9⟩
              case measure => go_light; simp [intOf]; omega
            · obtain rfl : j = m + 1 := by omega
              have BY := Lib.hid (bel_below B8.out hBj.out)
              go_wp2_with fail
              go_roundw
              case rel => go_light; exact ⟨k + 1, by omega, by go_num, BY⟩
              case measure => go_light; simp [intOf]; omega
        · obtain rfl : k = L.length := by omega
          have Gr := Lib.hid (GA.out.below hB.out)
          have Br := Lib.hid (bel_below BA.out hB.out)
          have CI := is_at Gr.out GD0.out.inv
          rw [HIS0.out] at CI
          have CI := Lib.hid CI
          have hdo := livesR_dom GD0.out.inv.dom HOL.out
          have OKO : Hid (okInt o) := okInt_dom (by omega) (by omega)
          clear hdo
          go_wp2_with fail
          refine CI.out.mono ?_
          rintro e wB ⟨rfl, hb⟩
          have CL := lives_at (Gr.out.below hb) o OKO.out
          rw [HOL.out] at CL
          have CL := Lib.hid CL
          have BE := Lib.hid (bel_below Br.out hb)
          clear hb CI
          go_wp2_with fail
          refine CL.out.mono ?_
          rintro e wC ⟨rfl, rfl⟩
          go_wp2_with fail
          go_ret
          first | exact ⟨rfl, BE.out⟩ | exact ⟨rfl, bel_alloc BE.out _⟩
set_option maxRecDepth 100000 in
theorem wigwagWays_walk {H : Type} (enc : TypeId × Value → H) (W : World) (v0 : Value) (d0 : DataW H) (p0 : List MemPlace) {r0 : Reach} {b0 : Nat} (ok0 : Value.okWide Tryz.prog W r0 b0 22 v0) (h0 : DataW.Trod enc Tryz.prog W 0 (fun _ => true) true 22 v0 d0 p0)
    (hlt0 : ∀ x ∈ p0, x.block < W.heap.size) (sz0 : ∀ n ∈ d0.weights Tryz.prog 22, n ≤ reachBytes) (v1 : Value) (d1 : DataW H) (p1 : List MemPlace) {r1 : Reach} {b1 : Nat} (ok1 : Value.okWide Tryz.prog W r1 b1 23 v1) (h1 : DataW.Trod enc Tryz.prog W 0 (fun _ => true) true 23 v1 d1 p1)
    (hlt1 : ∀ x ∈ p1, x.block < W.heap.size) (sz1 : ∀ n ∈ d1.weights Tryz.prog 23, n ≤ reachBytes) (a3 : Int) (w3 : (Lit.int .u64 a3).wf = true) (hg : HandleAt W) :
    Calls Tryz.prog 8 #[v0, v1, .int .u64 a3] W fun e W' => e = .returned (.bool true) ∧ RowKit.Below W.heap.size W W' := by
  obtain ⟨ids, hi, hp⟩ := ids_open ok0 h0
  obtain ⟨acts, ha, hao⟩ := acts_open ok1 h1
  exact wigwagWays_main W hg v0 v1 ids acts a3 (placeOf w3) hi hp ha hao
end Go.Proofs.YtidlmlecgjoddaaGreatDoor
namespace Go.Proofs.YtidlmlecgjoddaaGreatDoor.wigwagWays
open Go.ChangeShapes Go.WideShapes Go.ChangeAt Go.RowKit
open Go.ChangeMaps (open_string shut_string)
set_option linter.unusedVariables false
set_option linter.unusedSimpArgs false
theorem own : ownKnob Tryz.prog.godebug = none := by kernel_rfl
theorem laid : laidOutB Tryz.prog = true := by kernel_rfl
abbrev LAID {H : Type} : List (String × DataW H) := [("errors.errorType", Rows.laid_errors_errorType)]
theorem et : Tryz.prog.globalNamed "errors.errorType" = some 0 := by kernel_rfl
theorem rt : (Tryz.prog.cutTypes.find? (·.1 == "internal/reflectlite.rtype")).map (·.2) = some 254 := by kernel_rfl
theorem oneRow : ((List.range Tryz.prog.types.size).filter fun t => Tryz.prog.rowNamed t [101, 114, 114, 111, 114]) = [60] := by kernel_rfl
/-- What the condition gives a walk: the variable's one cell. -/
theorem handle_of_laid {W : World} (h : laidMetH Tryz.prog LAID W) : HandleAt W := by
  have h' : laidMet Tryz.prog [] W ∧ handlesMet Tryz.prog LAID W := h
  obtain ⟨name, u, ty, e1, e2, e3, e4, e5⟩ := h'.2 _ (List.mem_singleton.2 rfl)
  have en : name = [101, 114, 114, 111, 114] := (Option.some.inj e1).symm
  subst en
  obtain rfl := Option.some.inj (rt.symm.trans e2)
  have hm : ty ∈ (List.range Tryz.prog.types.size).filter fun t => Tryz.prog.rowNamed t [101, 114, 114, 111, 114] := List.mem_filter.2 ⟨List.mem_range.2 e3, e4⟩
  rw [oneRow] at hm
  obtain rfl := List.mem_singleton.1 hm
  have hh : typeHandle Tryz.prog 60 = .pointer (some ⟨1, 60, none⟩) := by kernel_rfl
  rw [hh] at e5
  unfold HandleAt
  simpa using World.var?_cell et e5 0
/-- A world that meets the condition. -/
noncomputable def laidWorld (os : Os) : World :=
  let w0 := World.holding Tryz.prog os ⟨#[], #[], []⟩
  { w0 with heap := w0.heap.modify 0 fun
      | .cells _ t frozen => .cells #[.iface 254 (.agg #[.pointer (some ⟨1, 60, none⟩)])] t frozen
      | o => o }
theorem laidWorld_met (os : Os) (args : Array Value) : laidMetH Tryz.prog LAID ((laidWorld os).forCall (fun _ _ => 0) ⟨#[], args, []⟩).memory :=
  laidMetH_of_parts (laidMet_nil _ _) (by kernel_rfl)
set_option maxRecDepth 100000 in
theorem lifted (os : Os) (started : os.Started) (H : Type) (enc : TypeId × Value → H) :
    ReturnsInHanded {} Tryz.checked os 8 .any (fun w args => (Rows.wigwagWaysSpec.pre enc Tryz.prog Tryz.f8 [] false w args ∧ laidMetH Tryz.prog LAID w) ∧ sizedMet enc Tryz.prog Tryz.f8 (OpenSpec.ofChange Rows.wigwagWaysSpec) false w args) (Rows.wigwagWaysSpec.post enc Tryz.prog Tryz.f8 false true false false) := by
  refine returnsInHanded_of_change_and (C := Tryz.checked) (X := fun w _ => laidMetH Tryz.prog LAID w) (fun _ _ _ hh h => h.of_heap hh) own started (by kernel_rfl) Tryz.func8
    (ChangeSpec.witness_at (enc := enc) (C := Tryz.checked) (os := os) (X := fun w _ => laidMetH Tryz.prog LAID w) false (laidWorld os) #[.slice none 0 0, .slice none 0 0, .int .u64 0] 8 rfl (by kernel_rfl) (by kernel_rfl) (by kernel_rfl) (by kernel_rfl) (by kernel_rfl) (laidWorld_met os _)) ?_
  intro W base args ds gs before hval0 hW hcnd hsz0 hL _
  have hg := handle_of_laid hL
  have hsz : (DataW.weightsEach Tryz.prog (Tryz.f8.params.toList ++ Rows.wigwagWaysSpec.plain.varTypes Tryz.prog) (ds ++ gs)).all (· ≤ reachBytes) = true := hsz0
  have hval : ∀ (j : Nat) t v, Tryz.f8.params[j]? = some t → args[j]? = some v → Value.okWide Tryz.prog W .any base t v := hval0
  have hW' := hW
  obtain ⟨p, q, hA0, hV, rfl, hfz, hnd⟩ := hW
  have hA : DataW.TrodAll enc Tryz.prog W 0 (fun _ => true) true Tryz.f8.params.toList args.toList ds p := hA0
  rw [Tryz.params8] at hA hval hsz
  obtain ⟨v0, vs0, d0, ds0, p0, q0, hargs, rfl, rfl, h0, r0⟩ := trodAll_cons hA
  obtain ⟨v1, vs1, d1, ds1, p1, q1, rfl, rfl, rfl, h1, r1⟩ := trodAll_cons r0
  obtain ⟨v2, vs2, d2, ds2, p2, q2, rfl, rfl, rfl, h2, r2⟩ := trodAll_cons r1
  obtain ⟨rfl, rfl, rfl⟩ := trodAll_nil r2
  obtain rfl : args = #[v0, v1, v2] := by cases args; simp_all
  obtain ⟨rfl, rfl⟩ := trodVars_none hV
  have hlt0 : ∀ x ∈ p0, x.block < W.heap.size := fun x hx => hW'.lt x (by simp [hx])
  have ok0 := hval 0 22 v0 rfl rfl
  have sz0 : ∀ n ∈ d0.weights Tryz.prog 22, n ≤ reachBytes := fun n hn => by
    have := List.all_eq_true.1 hsz n (DataW.weights_mem_each (j := 0) rfl rfl n hn)
    simpa using this
  have hlt1 : ∀ x ∈ p1, x.block < W.heap.size := fun x hx => hW'.lt x (by simp [hx])
  have ok1 := hval 1 23 v1 rfl rfl
  have sz1 : ∀ n ∈ d1.weights Tryz.prog 23, n ≤ reachBytes := fun n hn => by
    have := List.all_eq_true.1 hsz n (DataW.weights_mem_each (j := 1) rfl rfl n hn)
    simpa using this
  obtain ⟨a2, rfl, rfl, rfl, w2⟩ := open_int Tryz.underlying43 (hval 2 43 v2 rfl rfl) h2
  refine (wigwagWays_walk enc W v0 d0 p0 ok0 h0 hlt0 sz0 v1 d1 p1 ok1 h1 hlt1 sz1 a2 w2 hg).mono fun e W' ⟨he, bel⟩ => ?_
  subst he
  exact ⟨_, rfl, _, _, _, [], _, [], hW', trodAll_mk1 (shut_bool Tryz.underlying4 _), (trodAll_cons_mk (Below.trod laid (by kernel_rfl) (of_decide_eq_true (by kernel_rfl)) h0 bel hlt0) (trodAll_cons_mk (Below.trod laid (by kernel_rfl) (of_decide_eq_true (by kernel_rfl)) h1 bel hlt1) (trodAll_cons_mk (shut_int Tryz.underlying43 w2) trodAll_mk0))), rfl, bel.frame _, fun h => by cases h⟩
theorem over : Rows.wigwagWaysRow.holds Tryz.pinned (OpenSpec.ofChange Rows.wigwagWaysSpec) :=
  OpenClaim.holds_of_wide 8 Tryz.f8 rfl rfl rfl rfl rfl rfl rfl ⟨rfl, rfl, rfl, rfl, rfl⟩ rfl rfl rfl rfl rfl cardNamed Tryz.func8 closed
    (of_decide_eq_true cardInst) (by unfold Func.isWrapper; first | (rw [if_pos (by decide +kernel)]; kernel_rfl) | (rw [if_neg (by decide +kernel)]; exact ⟨rfl, rfl⟩))
    (fun os started H enc _ => lifted os started H enc)
/-- The tied card. -/
theorem card : Claim7.holds Tryz.pinned (.plain (OpenSpec.ofChange Rows.wigwagWaysSpec)) Rows.wigwagWaysCard :=
  Claim7.holds_tied_plain_at .later [] [.handle] true (true, "607aaaf8e7ad0e9200a888a6983d79766d96e9e1bad3dfcaad2febbefc58f4f0") true
    over (fun _ h => by cases h) cardWf (fun _ h => by cases h) wigwagWays_row_tie rfl ⟨rfl, rfl⟩ cardMain rfl
    (fun f fn hf hfn => by
      obtain rfl : f = 8 := Option.some.inj (cardNamed.symm.trans hf) |>.symm
      obtain rfl : fn = Tryz.f8 := (Option.some.inj (Tryz.func8.symm.trans hfn)).symm
      exact ⟨cardLooks, fun j t ht => by
        rw [Tryz.params8] at ht
        have hall : ∀ t ∈ (#[22, 23, 43] : Array TypeId), Tryz.prog.wantsStandIn t = false := by
          intro t ht
          simp only [List.mem_toArray, List.mem_cons, List.not_mem_nil, or_false] at ht
          rcases ht with rfl | rfl | rfl
          · exact cardWants0
          · exact cardWants1
          · exact cardWants2
        exact hall t (Array.mem_of_getElem? ht)⟩)
    cardGoes
end Go.Proofs.YtidlmlecgjoddaaGreatDoor.wigwagWays
namespace Go.Proofs.YtidlmlecgjoddaaGreatDoor
/-- WigwagWays: on a ring on which all is as it should be all ways to one place end at one member, the owner, and each member on such a way goes on as the way does; for every list of places and calls, and every place; no conditions (errors.errorType is tied). -/
theorem wigwagWays_holds : Rows.WigwagWaysCardSaid := wigwagWays.card
#print axioms wigwagWays_holds
end Go.Proofs.YtidlmlecgjoddaaGreatDoor
