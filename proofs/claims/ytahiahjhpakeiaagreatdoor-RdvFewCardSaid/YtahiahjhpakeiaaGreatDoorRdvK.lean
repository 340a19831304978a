
/-
  The keepers of a group: the owner of its key, and the two behind it.
-/
import Derived.Test.YtahiahjhpakeiaaGreatDoorHashA
import Derived.Test.YtahiahjhpakeiaaGreatDoorRdvM
namespace Go.Proofs.YtahiahjhpakeiaaGreatDoor
open Go.RowKit Go.Maps Go.Sort Go.WideShapes Go.ChangeShapes Go.Deep
set_option linter.unusedVariables false
set_option linter.unusedSimpArgs false
attribute [local go_sem] later_cell later_frozen later_lt cell_set_off cell_set_block

theorem own_shapeK {w : World} {base e n k : Nat} {v : Value} {xs : List Value} (h : w.ownsRow base e k v n xs) : ∃ a c, v = .slice a n c := by
  rcases h.2 with ⟨rfl, rfl⟩ | ⟨g', cap', cur, rfl, _⟩
  · exact ⟨_, _, rfl⟩
  · exact ⟨_, _, rfl⟩
/-- What Keepers answers. -/
def KeepPost (w : World) (f : RS) (X : Int) (e : Ending) (w' : World) : Prop :=
  ∃ v : Value, e = .returned v ∧ SlAt w.heap.size (fun j => .int .i64 (nth (keepK f X) j)) 3 w' v ∧ Below w.heap.size w w'
set_option maxRecDepth 100000 in
set_option maxHeartbeats 4000000 in
theorem keep_any (w : World) (f : RS) (I : Inv f) (av iv : Value) (hc : SlAt 0 (fun i => .int .i64 (nth (circ f) i)) (circ f).length w av) (hi : SlAt 0 (fun i => .int .u64 (nth ((circ f).map (idR f)) i)) (circ f).length w iv) (nm : ByteArray) (hnm : nm.size ≤ 1000000) :
    Calls Tryz.prog 16 #[.agg #[av, iv], .string nm] w (KeepPost w f (keyH nm)) := by
  obtain ⟨i0, hi0, hz0, hz1, hz2⟩ : ∃ i0, Tryz.prog.info? 3 = some i0 ∧ i0.zero = some (Value.int .i64 0) ∧ i0.size = 1 ∧ i0.bytes = 8 := ⟨intI, intI_at, by kernel_rfl, by kernel_rfl, by kernel_rfl⟩
  have hcl : (circ f).length ≤ 32 := by rw [circ_len]; exact length_liveL f
  obtain ⟨i, hoi⟩ := own_at I (keyH nm)
  have hi2 : SlAt 0 (fun j => .int .u64 (nth ((circ f).map (idR f)) j)) ((circ f).map (idR f)).length w iv := by simpa using hi
  have CO := Lib.hid fun wr (hb : Below w.heap.size w wr) => cowner_at wr (circ f) ((circ f).map (idR f)) av iv (hc.below hb) (hi2.below hb) (by simp) (by omega) (circ_up I) (keyH nm)
  have CP := Lib.hid fun wr (hb : Below w.heap.size w wr) => (cpeer_at wr (circ f) ((circ f).map (idR f)) av iv (hc.below hb) (hi2.below hb) (by simp) (by omega) (cAt (circ f) i)).mono fun e w' h => know_at I (i : Int) h
  have CK := Lib.hid fun wr => key_any nm wr hnm
  have hkk : keepK f (keyH nm) = keepL f i := keepK_eq I hoi
  have HK : Hid (∀ v w', SlAt w.heap.size (fun j => .int .i64 (nth (keepL f i) j)) 3 w' v → Below w.heap.size w w' → KeepPost w f (keyH nm) (.returned v) w') := show ∀ v w', _ from fun v w' h1 h2 => by
    unfold KeepPost; rw [hkk]; exact ⟨v, rfl, h1, h2⟩
  have hne : cAt (circ f) i ≠ -1 := fun e => by
    have h := owner_lives I (keyH nm)
    rw [show cOwner (circ f) ((circ f).map (idR f)) (keyH nm) = cAt (circ f) i from hoi] at h
    have := livesR_dom I.dom h
    omega
  have hoi' : cOwner (circ f) ((circ f).map (idR f)) (keyH nm) = cAt (circ f) i := hoi
  rw [hoi'] at CO
  obtain ⟨aa, ac, rfl, _⟩ := hc.slice
  obtain ⟨ia, ic, rfl, _⟩ := hi.slice
  have HKL : Hid (keepL f i = [cAt (circ f) i, cAt (circ f) ((i : Int) + 1), cAt (circ f) ((i : Int) + 2)]) := show keepL f i = _ from rfl
  obtain ⟨kl, hkl⟩ : ∃ z, z = keepL f i := ⟨_, rfl⟩
  rw [← hkl] at HK HKL
  obtain ⟨id0, hid0⟩ : ∃ z, z = idR f (cAt (circ f) i) := ⟨_, rfl⟩
  obtain ⟨pr0, hpr0⟩ : ∃ z, z = cAt (circ f) ((i : Int) - 1) := ⟨_, rfl⟩
  obtain ⟨s0, hs0⟩ : ∃ z, z = cAt (circ f) ((i : Int) + 1) := ⟨_, rfl⟩
  obtain ⟨s1, hs1⟩ : ∃ z, z = cAt (circ f) ((i : Int) + 2) := ⟨_, rfl⟩
  obtain ⟨s2, hs2⟩ : ∃ z, z = cAt (circ f) ((i : Int) + 3) := ⟨_, rfl⟩
  obtain ⟨o, ho⟩ : ∃ z, z = cAt (circ f) i := ⟨_, rfl⟩
  rw [← hid0, ← hpr0, ← hs0, ← hs1, ← hs2, ← ho] at CP
  rw [← ho, ← hs0, ← hs1] at HKL
  rw [← ho] at CO hne
  obtain ⟨cl, hcle⟩ : ∃ z, z = (circ f).length := ⟨_, rfl⟩
  rw [← hcle] at CO CP ⊢
  have hob : (o == -1) = false := by simpa using hne
  clear hc hi hi2 hoi hoi' hne hkk hkl hid0 hpr0 hs0 hs1 hs2 ho hcl hcle
  go_enter Tryz.func16, Tryz.ntmps16
  go_wp2_with fail
  refine wp_region_calm (by kernel_rfl) (by kernel_rfl) ?_
  repeat (first | (go_big_quiet_step ((first | (go_at_call 22; exact calls_calm (CK.out _)) | (go_at_call 21; exact calls_calm (CO.out _ (by (repeat (first | exact Below.refl _ _ | (with_reducible assumption) | (with_reducible refine bel_later ?_ _) | (with_reducible refine bel_alloc ?_ _) | (with_reducible refine bel_drew ?_) | (with_reducible refine bel_drewN ?_ _) | (with_reducible refine bel_set ?_ (by first | (simp; done) | (simp; omega) | (dsimp only; omega)) _))))))))) | (refine wpQuiet_step (fun K hK => ?_); go_simp; first | (refine hK _ ?_; clear hK K) | (apply Exists.intro; refine ⟨fun _ => ?_, hK _ ?_⟩; (first | (go_at_call 22; exact calls_calm (CK.out _)) | (go_at_call 21; exact calls_calm (CO.out _ (by (repeat (first | exact Below.refl _ _ | (with_reducible assumption) | (with_reducible refine bel_later ?_ _) | (with_reducible refine bel_alloc ?_ _) | (with_reducible refine bel_drew ?_) | (with_reducible refine bel_drewN ?_ _) | (with_reducible refine bel_set ?_ (by first | (simp; done) | (simp; omega) | (dsimp only; omega)) _))))))); clear hK K)))
  refine wpQuiet_nil ?_
  intro _ hw'
  obtain ⟨xq, hw''⟩ := hw'
  subst hw''
  obtain ⟨w2, hb2⟩ := xq
  dsimp only
  obtain ⟨w1, hw1⟩ : ∃ z, z = w.alloc (.cells #[.slice aa cl ac, .slice ia cl ic] 38) := ⟨_, rfl⟩
  have b1 : Below w.heap.size w w1 := by rw [hw1]; exact bel_alloc (Below.refl _ _) _
  have y0 : w1.cell? ⟨w.heap.size, 0, none⟩ = some (.slice aa cl ac) := by rw [hw1]; simp [go_sem]
  have y1 : w1.cell? ⟨w.heap.size, 1, none⟩ = some (.slice ia cl ic) := by rw [hw1]; simp [go_sem]
  have yz : w.heap.size < w1.heap.size := by rw [hw1]; simp
  rw [← hw1] at hb2
  have y0 := (hb2.cell (p := ⟨w.heap.size, 0, none⟩) yz).trans y0
  have y1 := (hb2.cell (p := ⟨w.heap.size, 1, none⟩) yz).trans y1
  have yz := Nat.lt_of_lt_of_le yz hb2.size
  have B2 := Lib.hid (bel_below b1 hb2)
  have C2 := Lib.hid (CP.out w2 B2.out)
  clear hw1 b1 hb2 CP CO CK
  go_wp2_with fail
  refine C2.out.mono ?_
  rintro e w3 ⟨v3, l, rfl, _, _, rfl, hs3, hb3⟩
  obtain ⟨va, vc, rfl, hvc, hvm⟩ := hs3.slice
  have B3 := Lib.hid (bel_below B2.out hb3)
  have S3 := Lib.hid (hs3.take (m := 2) (by omega))
  have hv2 : 2 ≤ vc := by omega
  clear hs3 hb3 C2 B2 y0 y1 yz
  go_wp2_with (at_builtin; refine wpList_app rfl _ _ 36 rfl w.heap.size 3 i0 (.int .i64 0) 8 Tryz.underlying36 hi0 hz0 hz1 hz2 rfl _ 1 [.int .i64 o] rfl (own_lit _ [.int .i64 o] 3 _ _ 1 ?c7 rfl ?c0 ?c1) _ _ 2 _ rfl ((S3.out.base (B' := 0) (Nat.zero_le _)).below ?c2) ?c3 ?c4 ?c5 ?c6 ?_)
  case c7 => simp
  case c0 => have := B3.out.size; simp; omega
  case c1 => simp [maxLen]
  case c2 => exact bel_alloc (bel_alloc (Below.refl _ _) _) _
  case c3 => intro i; rfl
  case c4 => simp only [maxLen]; omega
  case c5 => omega
  case c6 => have := B3.out.size; simp; omega
  intro v5 w5 ho hg
  have B5 : Hid (Below w.heap.size w w5) := (bel_alloc (bel_alloc B3.out _) _).grown hg (by have := B3.out.size; simp; omega) (fun k hk => by simp [Value.ownBlock] at hk; have := B3.out.size; omega)
  have ho' : w5.ownsRow w.heap.size 3 1 v5 3 ([o, s0, s1].map (Value.int .i64)) := ho
  obtain ⟨a5, c5, rfl⟩ := own_shapeK ho'
  have S5 := Lib.hid (own_ints ho')
  clear ho ho' hg
  go_wp2_with fail
  go_ret
  exact HK.out _ _ (by rw [HKL.out]; exact S5.out) B5.out
end Go.Proofs.YtahiahjhpakeiaaGreatDoor
