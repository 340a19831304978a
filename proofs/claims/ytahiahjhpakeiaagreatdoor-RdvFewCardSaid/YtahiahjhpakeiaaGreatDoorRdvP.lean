

/-
  A wish is put at all keepers of its group.
-/
import Derived.Test.YtahiahjhpakeiaaGreatDoorRdvS
import Derived.Test.YtahiahjhpakeiaaGreatDoorRdvK
namespace Go.Proofs.YtahiahjhpakeiaaGreatDoor
open Go.RowKit Go.Maps Go.Sort Go.WideShapes Go.ChangeShapes Go.Deep
set_option linter.unusedVariables false
set_option linter.unusedSimpArgs false
attribute [local go_sem] later_cell later_frozen later_lt cell_set_off cell_set_block keptT_cell keptT_lt

def putT (x : Ent) (T : Int → Option (List Ent)) (n : Int) : Int → Option (List Ent) := setT T n (putE ((T n).getD []) (cleanE x))
def putsT (x : Ent) (T : Int → Option (List Ent)) (ks : List Int) : Int → Option (List Ent) := ks.foldl (putT x) T
theorem putsT_snoc (x : Ent) (T : Int → Option (List Ent)) (ks : List Int) (n : Int) : putsT x T (ks ++ [n]) = putT x (putsT x T ks) n := by unfold putsT; rw [List.foldl_append]; rfl
theorem setT_setT (T : Int → Option (List Ent)) (n : Int) (l l' : List Ent) : setT (setT T n l) n l' = setT T n l' := funext fun j => by
  by_cases e : j = n
  · rw [e, setT_same, setT_same]
  · rw [setT_ne _ _ e, setT_ne _ _ e, setT_ne _ _ e]
theorem putsT_few (x : Ent) {c : Nat} : ∀ (ks : List Int) (T : Int → Option (List Ent)), (∀ n l, T n = some l → l.length ≤ c) → ∀ n l, putsT x T ks n = some l → l.length ≤ c + ks.length := fun ks => by
  induction ks generalizing c with
  | nil => intro T h n l e; exact h n l e
  | cons k ks ih =>
    intro T h n l e
    have h2 : ∀ m l, putT x T k m = some l → l.length ≤ c + 1 := fun m l e => by
      unfold putT at e
      by_cases e' : m = k
      · subst e'
        rw [setT_same] at e
        cases e
        rw [len_putE]
        have : ((T m).getD []).length ≤ c := by
          cases hT : T m with
          | none => simp
          | some l0 => exact h m l0 hT
        split <;> omega
      · rw [setT_ne _ _ e'] at e
        have := h m l e; omega
    have := ih (putT x T k) h2 n l e
    rw [List.length_cons]; omega
theorem slIn_at {B : Nat} {Q : Nat → Prop} {l : List Int} {w : World} {v : Value} (h : SlAt B (fun i => .int .i64 (nth l i)) l.length w v) (hQ : ∀ b, B ≤ b → b < w.heap.size → Q b) : SlIn Q l w v := by
  obtain ⟨a, cap, rfl, h1, h2, h3, h4⟩ := h
  refine ⟨a, cap, rfl, h1, h2, h3, h4.imp id ?_⟩
  rintro ⟨b, off, rfl, h7, h5, h6⟩
  exact ⟨b, off, rfl, hQ b h7 h5, h5, h6⟩
set_option maxRecDepth 100000 in
set_option maxHeartbeats 8000000 in
theorem sput_any {R : Int → Nat → Prop} {tb : Int → Nat} {D : Nat → Prop} {W w : World} {sb mb : Nat} {T : Int → Option (List Ent)} (h : StoreIn R tb D W w sb mb T) (hfew : ∀ n l, T n = some l → l.length ≤ 390)
    (f : RS) (I : Inv f) (av iv : Value) (hc : SlAt 0 (fun i => .int .i64 (nth (circ f) i)) (circ f).length w av) (hi : SlAt 0 (fun i => .int .u64 (nth ((circ f).map (idR f)) i)) (circ f).length w iv)
    (x : Ent) (hg : (bs x.g).size ≤ 1000000) (fv : Value) (hf : SlT D x.fs w fv) (hl : x.fs.length ≤ 1000000) :
    Calls Tryz.prog 26 #[.pointer (some ⟨sb, 0, none⟩), .agg #[av, iv], EntV x fv] w fun e w' => e = .returned .nilIface ∧ StoreW D W w' sb mb (putsT x T (keepK f (keyH (bs x.g)))) ∧ Kept (fun b => ¬ D b) w w' := by
  have HC := Lib.hid hc
  have HI := Lib.hid hi
  have HF := Lib.hid hf
  have H := Lib.hid h
  have HIV := Lib.hid I
  have HFW := Lib.hid hfew
  obtain ⟨aa, ac, rfl, _⟩ := hc.slice
  obtain ⟨ia, ic, rfl, _⟩ := hi.slice
  obtain ⟨fa, fc, rfl, _⟩ := hf.slice
  have HEV : Hid (EntV x (.slice fa x.fs.length fc) = .agg #[.string (bs x.g), .int .i64 x.c, .slice fa x.fs.length fc, .bool x.any, .int .i64 x.t]) := show _ = _ from rfl
  have e0 := HEV.out
  rw [e0]
  obtain ⟨kk, hkk⟩ : ∃ z, z = keepK f (keyH (bs x.g)) := ⟨_, rfl⟩
  have HK3 : Hid (kk.length = 3) := show _ = _ by rw [hkk]; rfl
  have HKD : Hid (∀ n ∈ kk, 0 ≤ n ∧ n < 32) := fun n hn => livesR_dom I.dom (keepK_lives I _ n (hkk ▸ hn))
  have HKK := Lib.hid hkk
  rw [← hkk]
  clear hc hi hf h I hfew hkk e0
  go_enter Tryz.func26, Tryz.ntmps26
  go_upto_region 1 with (fail)
  obtain ⟨Cb, hCb⟩ : ∃ z, z = w.heap.size := ⟨_, rfl⟩
  obtain ⟨E, hE⟩ : ∃ z, z = Cb + 1 := ⟨_, rfl⟩
  obtain ⟨w1, hw1⟩ : ∃ z, z = (w.alloc (.cells #[.slice aa (circ f).length ac, .slice ia (circ f).length ic] 38)).alloc (.cells #[.string (bs x.g), .int .i64 x.c, .slice fa x.fs.length fc, .bool x.any, .int .i64 x.t] 79) := ⟨_, rfl⟩
  have b1 : Below w.heap.size w w1 := by rw [hw1]; exact bel_alloc (bel_alloc (Below.refl _ _) _) _
  have y0 : w1.cell? ⟨Cb, 0, none⟩ = some (.slice aa (circ f).length ac) := by rw [hw1, hCb]; simp [go_sem]
  have y1 : w1.cell? ⟨Cb, 1, none⟩ = some (.slice ia (circ f).length ic) := by rw [hw1, hCb]; simp [go_sem]
  have yz : Cb < w1.heap.size := by rw [hw1, hCb]; simp; omega
  have x0 : w1.cell? ⟨E, 0, none⟩ = some (.string (bs x.g)) := by rw [hw1, hE, hCb]; simp [go_sem]
  have x1 : w1.cell? ⟨E, 1, none⟩ = some (.int .i64 x.c) := by rw [hw1, hE, hCb]; simp [go_sem]
  have x2 : w1.cell? ⟨E, 2, none⟩ = some (.slice fa x.fs.length fc) := by rw [hw1, hE, hCb]; simp [go_sem]
  have x3 : w1.cell? ⟨E, 3, none⟩ = some (.bool x.any) := by rw [hw1, hE, hCb]; simp [go_sem]
  have x4 : w1.cell? ⟨E, 4, none⟩ = some (.int .i64 x.t) := by rw [hw1, hE, hCb]; simp [go_sem]
  have xz : E < w1.heap.size := by rw [hw1, hE, hCb]; simp
  have hEl : w.heap.size ≤ E := by omega
  have CKP := Lib.hid (keep_any w1 f HIV.out _ _ (HC.out.below b1) (HI.out.below b1) (bs x.g) hg)
  have S1 := Lib.hid (H.out.later b1)
  have B1 := Lib.hid b1
  rw [← hw1]
  try rw [← hCb]
  try rw [← hE]
  clear hw1 hE hCb b1
  go_wp2_with fail
  refine CKP.out.mono ?_
  rintro e w2 ⟨v2, rfl, hs2, hb2⟩
  rw [← HKK.out] at hs2
  obtain ⟨a2, c2, rfl, _⟩ := hs2.slice
  have x0 := (hb2.cell (p := ⟨E, 0, none⟩) xz).trans x0
  have x1 := (hb2.cell (p := ⟨E, 1, none⟩) xz).trans x1
  have x2 := (hb2.cell (p := ⟨E, 2, none⟩) xz).trans x2
  have x3 := (hb2.cell (p := ⟨E, 3, none⟩) xz).trans x3
  have x4 := (hb2.cell (p := ⟨E, 4, none⟩) xz).trans x4
  have S2 := Lib.hid (S1.out.later hb2)
  obtain ⟨D2, hD2⟩ : ∃ z : Nat → Prop, z = fun b => (D b ∨ (w.heap.size ≤ b ∧ b < w1.heap.size)) ∨ (w1.heap.size ≤ b ∧ b < w2.heap.size) := ⟨_, rfl⟩
  rw [← hD2] at S2
  obtain ⟨S, hS⟩ : ∃ z : Nat → Prop, z = fun b => ¬ D2 b := ⟨_, rfl⟩
  have hSE : ¬ S E := by rw [hS, hD2]; exact fun h => h (Or.inl (Or.inr ⟨hEl, xz⟩))
  have HDD : Hid (∀ b, D b → D2 b) := show ∀ b, _ → _ from fun b hd => by rw [hD2]; exact Or.inl (Or.inl hd)
  have HSS := Lib.hid hS
  have L2 : Hid (SlIn D2 kk w2 (.slice a2 3 c2)) := show SlIn _ _ _ _ from slIn_at (by rw [HK3.out]; exact hs2) fun b h1 h2 => by rw [hD2]; exact Or.inr ⟨h1, h2⟩
  have F2 : Hid (SlT D2 x.fs w2 (.slice fa x.fs.length fc)) := show SlT _ _ _ _ from (HF.out.below (bel_below B1.out hb2)).imp (fun b _ hd => HDD.out b hd) (Nat.le_refl _) fun _ _ _ => rfl
  have B2 := Lib.hid (bel_below B1.out hb2)
  have xz := Nat.lt_of_lt_of_le xz hb2.size
  clear hD2 hS hs2 hb2 CKP S1 B1 y0 y1 yz hEl
  go_wp2_with fail
  go_loopw [24] (fun i wr => ∃ k : Nat, k ≤ 3 ∧ i = .int .i64 k ∧ Hid (StoreW D2 W wr sb mb (putsT x T (kk.take k))) ∧ Hid (Kept S w2 wr)) (fun i _ => 3 - (intOf i).toNat)
  case atStart => exact ⟨0, by omega, rfl, ⟨_, _, S2.out⟩, Kept.refl _ _⟩
  case round =>
    obtain ⟨k, hk, rfl, hSt, hKp⟩ := hrel
    have hsz := hKp.out.size
    by_cases hlt : k < 3
    · have hkI : ((k : Nat) : Int) < 3 := by omega
      have L4 : SlAt 0 (fun i => .int .i64 (nth kk i)) 3 wr (.slice a2 3 c2) := by
        have := (L2.out.imp (fun _ _ h => h) hsz fun b hb hd => hKp.out.block b hb (by rw [HSS.out]; exact fun h => h hd)).slAt
        rwa [HK3.out] at this
      obtain ⟨lb, lo, rfl, _, hlz, hlc⟩ := L4.at k hlt wr (Below.refl _ _)
      have hnd := HKD.out _ (nth_mem.2 ⟨k, by rw [HK3.out]; exact hlt, rfl⟩)
      have HTK : Hid (putsT x T (kk.take (k + 1)) = putT x (putsT x T (kk.take k)) (nth kk k)) := show _ = _ by
        rw [List.take_succ_eq_append_getElem (by rw [HK3.out]; exact hlt), putsT_snoc, nth_eq (by rw [HK3.out]; exact hlt)]
      have hfew2 := putsT_few x (kk.take k) T HFW.out
      obtain ⟨n, hne⟩ : ∃ z, z = nth kk k := ⟨_, rfl⟩
      rw [← hne] at hlc hnd HTK
      obtain ⟨Tk, hTk⟩ : ∃ z, z = putsT x T (kk.take k) := ⟨_, rfl⟩
      rw [← hTk] at hSt HTK hfew2
      have hfull : fullB ((Tk n).getD []) x = false := by
        have : ((Tk n).getD []).length ≤ 390 + (kk.take k).length := by
          cases hT : Tk n with
          | none => simp
          | some l0 => exact hfew2 n l0 hT
        rw [List.length_take] at this
        have h2 : ¬ 400 ≤ ((Tk n).getD []).length := by omega
        unfold fullB
        simp [h2]
      have HFL := Lib.hid hfull
      obtain ⟨R3, tb3, hS3⟩ := hSt.out
      have HS3 := Lib.hid hS3
      have x0 := (World.cell?_of_block (hKp.out.block E xz hSE)).trans x0
      have x1 := (World.cell?_of_block (hKp.out.block E xz hSE)).trans x1
      have x2 := (World.cell?_of_block (hKp.out.block E xz hSE)).trans x2
      have x3 := (World.cell?_of_block (hKp.out.block E xz hSE)).trans x3
      have x4 := (World.cell?_of_block (hKp.out.block E xz hSE)).trans x4
      have xzr := Nat.lt_of_lt_of_le xz hsz
      clear hS3 hSt L4 hne hTk hfew2 hfull
      go_wp2_with fail
      refine wp_region_heads [0, 1, 3] 5 (fun w' => ∃ x : KeptT S wr, w' = x.world) (by kernel_rfl) (by kernel_rfl) ⟨⟨{ wr with drawn := wr.drawn + 1 }, (Kept.refl S wr).drew⟩, rfl⟩ (fun d v c a w h => by cases d <;> exact h) ?_
      simp only [headOps]
      repeat (refine wpTame_step (fun K hK => ?_); go_simp; refine hK _ ?_; clear hK K)
      refine wpTame_nil ?_
      refine wpAnyC_step (f := 2) [2] (by kernel_rfl) rfl rfl (fun i hi => ?_)
      simp only [List.mem_cons, List.not_mem_nil, or_false] at hi
      subst hi
      refine ⟨_, rfl, fun R hR => ?_⟩
      go_wp2_with fail
      refine (sat_any (HS3.out.keep (RowKit.Below.refl _ _).drew) n hnd.1 hnd.2).mono ?_
      rintro e w3 ⟨R4, tb4, rfl, hS4, hK4⟩
      rw [← HSS.out] at hK4
      have K4 : Hid (Kept S wr w3) := ((Kept.refl S wr).drew).trans hK4
      have HS4 := Lib.hid hS4
      clear hS4 hK4 HS3
      go_wp2_with fail
      refine hR _ _ ⟨⟨w3, K4.out⟩, rfl⟩ ?_
      clear hR R
      refine wpAnyC_step (f := 1) [4] (by kernel_rfl) rfl rfl (fun i hi => ?_)
      have F3 : Hid (SlT D2 x.fs w3 (.slice fa x.fs.length fc)) := show SlT _ _ _ _ from F2.out.imp (fun _ _ h => h) (Nat.le_trans hsz K4.out.size) fun b hb hd => (K4.out.block b (Nat.lt_of_lt_of_le hb hsz) (by rw [HSS.out]; exact fun h => h hd)).trans (hKp.out.block b hb (by rw [HSS.out]; exact fun h => h hd))
      have CP := put_ok (HS4.out.tab n _ (setT_same _ _ _)) x _ F3.out.sls hl HFL.out
      rw [HEV.out] at CP
      have CP := Lib.hid CP
      simp only [List.mem_cons, List.not_mem_nil, or_false] at hi
      subst hi
      refine ⟨_, rfl, fun R hR => ?_⟩
      go_wp2_with fail
      refine CP.out.mono ?_
      rintro e w4 ⟨rfl, ⟨R5, hR5, hT5⟩, hk5⟩
      obtain ⟨hS5, hK5⟩ := HS4.out.turn (setT_same _ _ _) hR5 hT5 hk5
      rw [setT_setT] at hS5
      rw [← HSS.out] at hK5
      have HS5 := Lib.hid hS5
      have K5 : Hid (Kept S wr w4) := K4.out.trans hK5
      clear hS5 hK5 hT5 hR5 hk5 CP HS4 K4 F3
      go_wp2_with fail
      refine hR _ _ ⟨⟨w4, K5.out⟩, rfl⟩ ?_
      clear hR R
      refine wpAnyC_end (k := 5) (by decide) rfl rfl (by kernel_rfl) ?_
      go_wp2_with fail
      go_roundw
      case rel => go_light; exact ⟨k + 1, by omega, by go_num, (by show StoreW _ _ _ _ _ _; rw [HTK.out]; exact ⟨_, _, HS5.out⟩), hKp.out.trans K5.out⟩
      case measure => go_light; simp [intOf]; omega
    · obtain rfl : k = 3 := by omega
      have hkI : ¬ ((3 : Nat) : Int) < 3 := by omega
      have hall : kk.take 3 = kk := List.take_of_length_le (by rw [HK3.out]; exact Nat.le_refl _)
      rw [hall] at hSt
      go_wp2_with fail
      go_ret
      refine ⟨rfl, ?_, ((Kept.refl (fun b => ¬ D b) w).below B2.out).trans (hKp.out.more fun b hb hd => by rw [HSS.out] at hb; exact hb (HDD.out b hd))⟩
      obtain ⟨R6, tb6, h6⟩ := hSt.out
      exact ⟨R6, tb6, h6.less HDD.out⟩
end Go.Proofs.YtahiahjhpakeiaaGreatDoor
