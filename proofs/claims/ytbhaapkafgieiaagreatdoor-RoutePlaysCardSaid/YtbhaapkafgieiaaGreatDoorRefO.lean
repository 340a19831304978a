

/-
  The document's ways: the way, the fingers.
-/
import Derived.Test.YtbhaapkafgieiaaGreatDoorRefQ
namespace Go.Proofs.YtbhaapkafgieiaaGreatDoor
open Go.RowKit Go.Maps Go.Sort Go.WideShapes Go.ChangeShapes Go.Deep
set_option linter.unusedVariables false
set_option linter.unusedSimpArgs false
attribute [local go_sem] later_cell later_frozen later_lt cell_set_off cell_set_block
variable {Q Z Z' : Nat → Prop} {w w' : World} {p : Where} {f : RS} {V : Nat → Value} {vb : Nat} {G : Int → List Int}
/-! ### Path -/
theorem wpAnyC_end2 {P : Program} {ops : Array Oper} {md : Region.Mode} {C : World → Prop} {Q' : Exit → Act → World → Prop} {n k : Nat} {o o' : Oper} {listed : Array Bool} {a : Act} {w : World} (hnk : n ≤ k) (ho : ops[k]? = some o) (ho' : ops[k + 1]? = some o') (hk : ops.size = k + 2)
    (hB : Region.seqB md ops 2 k listed = true) (h : wpList P ops Q' [o, o'] a w) : wpAnyC P md ops C n Q' 2 listed a w :=
  wpAnyC_of_list [o, o'] k listed a w hnk (fun j => by
    match j with
    | 0 => simpa using ho.symm
    | 1 => simpa using ho'.symm
    | j + 2 => simp [Array.getElem?_eq_none (show ops.size ≤ k + (j + 2) by omega)]) hB h
def RPathPost (w : World) (f : RS) (G : Int → List Int) (n x : Int) (e : Ending) (w' : World) : Prop :=
  match pathR (fun m => nextR f G m x) 65 n with
  | some l => ∃ v, e = .returned (.tuple #[v, .bool true]) ∧ SlAt w.heap.size (fun i => .int .i64 (nth l i)) l.length w' v ∧ RowKit.Below w.heap.size w w'
  | none => e = .returned (.tuple #[.slice none 0 0, .bool false]) ∧ RowKit.Below w.heap.size w w'
set_option maxRecDepth 100000 in
set_option maxHeartbeats 8000000 in
theorem rpath_any (h : RefIs Q w p f V) (I : Inv f) (hT : TabIs Z w vb G) (n : Int) (hlv : livesR f n = true) (x : Int) (hx : isPlace x) :
    Calls Tryz.prog 29 #[(.agg #[.slice (some ⟨(p).b1, (p).o1, none⟩) 32 (p).k1, .slice (some ⟨(p).b2, (p).o2, none⟩) 32 (p).k2, .slice (some ⟨(p).b3, (p).o3, none⟩) 32 (p).k3, .slice (some ⟨(p).b4, (p).o4, none⟩) 32 (p).k4]), .slice (some ⟨vb, 0, none⟩) 32 32, .int .i64 n, .int .u64 x] w (RPathPost w f G n x) := by
  obtain ⟨i0, hi, hz0, hz1, hz2⟩ : ∃ i0, Tryz.prog.info? 3 = some i0 ∧ i0.zero = some (Value.int .i64 0) ∧ i0.size = 1 ∧ i0.bytes = 8 := ⟨intI, intI_at, by kernel_rfl, by kernel_rfl, by kernel_rfl⟩
  have H0 : Hid (OnWay f G n x 0 [] n) := show OnWay f G n x 0 [] n from ⟨hlv, rfl, by simp⟩
  have HR := Lib.hid h
  have HI := Lib.hid I
  have HT := Lib.hid hT
  obtain ⟨PR, hPR⟩ : ∃ z, z = pathR (fun m => nextR f G m x) 65 n := ⟨_, rfl⟩
  have HPS : Hid (∀ l v w', PR = some l → SlAt w.heap.size (fun i => .int .i64 (nth l i)) l.length w' v → RowKit.Below w.heap.size w w' → RPathPost w f G n x (.returned (.tuple #[v, .bool true])) w') := show ∀ l v w', _ from fun l v w' h0 h1 h2 => by
    unfold RPathPost; rw [← hPR, h0]; exact ⟨v, rfl, h1, h2⟩
  have HPN : Hid (∀ w', PR = none → RowKit.Below w.heap.size w w' → RPathPost w f G n x (.returned (.tuple #[.slice none 0 0, .bool false])) w') := show ∀ w', _ from fun w' h0 h2 => by
    unfold RPathPost; rw [← hPR, h0]; exact ⟨rfl, h2⟩
  have HPR := Lib.hid hPR
  clear h I hT hlv hPR
  go_enter Tryz.func29, Tryz.ntmps29
  go_upto_region 1 with (fail)
  obtain ⟨w1, hw1⟩ : ∃ z, z = w.alloc (.cells #[.slice (some ⟨p.b1, p.o1, none⟩) 32 p.k1, .slice (some ⟨p.b2, p.o2, none⟩) 32 p.k2, .slice (some ⟨p.b3, p.o3, none⟩) 32 p.k3, .slice (some ⟨p.b4, p.o4, none⟩) 32 p.k4] 33) := ⟨_, rfl⟩
  obtain ⟨R, hR⟩ : ∃ z, z = w.heap.size := ⟨_, rfl⟩
  have B1 : Hid (RowKit.Below w.heap.size w w1) := by rw [hw1]; exact bel_alloc (RowKit.Below.refl _ _) _
  have j0 : w1.cell? ⟨R, 0, none⟩ = some (.slice (some ⟨p.b1, p.o1, none⟩) 32 p.k1) := by rw [hw1, hR]; simp [go_sem]
  have j1 : w1.cell? ⟨R, 1, none⟩ = some (.slice (some ⟨p.b2, p.o2, none⟩) 32 p.k2) := by rw [hw1, hR]; simp [go_sem]
  have j2 : w1.cell? ⟨R, 2, none⟩ = some (.slice (some ⟨p.b3, p.o3, none⟩) 32 p.k3) := by rw [hw1, hR]; simp [go_sem]
  have j3 : w1.cell? ⟨R, 3, none⟩ = some (.slice (some ⟨p.b4, p.o4, none⟩) 32 p.k4) := by rw [hw1, hR]; simp [go_sem]
  have jz : R < w1.heap.size := by rw [hw1, hR]; simp
  have O0 : Hid ((w1.alloc (.cells #[.int .i64 n] 3)).ownsRow w1.heap.size 3 1 (.slice (some ⟨w1.heap.size, 0, none⟩) 1 1) 1 (([] ++ [n]).map (Value.int .i64))) := own_lit w1 [.int .i64 n] 3 _ _ 1 rfl rfl (Nat.le_refl _) (by simp [maxLen])
  have B0 : Hid (RowKit.Below w1.heap.size w1 (w1.alloc (.cells #[.int .i64 n] 3))) := bel_alloc (RowKit.Below.refl _ _) _
  rw [← hw1]
  try rw [← hR]
  clear hw1 hR
  go_wp2_with fail
  go_loopw [10, 11, 12] (fun v i _ wr => ∃ (k : Nat) (pre : List Int) (y : Int), k ≤ 65 ∧ i = .int .i64 k ∧ Hid (OnWay f G n x k pre y) ∧ Hid (wr.ownsRow w1.heap.size 3 1 v (k + 1) ((pre ++ [y]).map (Value.int .i64))) ∧ Hid (RowKit.Below w1.heap.size w1 wr))
    (fun _ i _ _ => 65 - (intOf i).toNat)
  case atStart => exact ⟨0, [], n, by omega, rfl, H0, O0, B0⟩
  case round =>
    obtain ⟨k, pre, y, hk, rfl, hW, hO, hB⟩ := hrel
    obtain ⟨q, hq⟩ : ∃ q, q = k + 1 := ⟨_, rfl⟩
    have hpl : pre.length = k := hW.out.2.1
    rw [← hq] at hO
    have HQ := Lib.hid hq
    obtain ⟨av, cv, rfl⟩ := own_shapeQ hO.out
    have hS : SlAt 0 (fun i => .int .i64 (nth (pre ++ [y]) i)) q wr (.slice av q cv) := by
      have := (own_ints hO.out).base (B' := 0) (Nat.zero_le _)
      rwa [show (pre ++ [y]).length = q by simp; omega] at this
    by_cases hlt : k < 65
    · obtain ⟨sb, so, rfl, _, hsz, hck⟩ := hS.at k (by omega) wr (RowKit.Below.refl _ _)
      have hny : nth (pre ++ [y]) k = y := by unfold nth; simp [hpl]
      rw [hny] at hck
      have hkI : ((k : Nat) : Int) < 65 := by omega
      have hcast : ((q : Nat) : Int) - 1 = ((k : Nat) : Int) := by omega
      have hkq : k < q := by omega
      have j0 := ((hB.out).cell (p := ⟨R, 0, none⟩) jz).trans j0
      have j1 := ((hB.out).cell (p := ⟨R, 1, none⟩) jz).trans j1
      have j2 := ((hB.out).cell (p := ⟨R, 2, none⟩) jz).trans j2
      have j3 := ((hB.out).cell (p := ⟨R, 3, none⟩) jz).trans j3
      have jz := Nat.lt_of_lt_of_le jz (hB.out).size
      have BW := Lib.hid (bel_below B1.out hB.out)
      have CN := Lib.hid fun wr' (hb : RowKit.Below wr.heap.size wr wr') => rnext_any (HR.out.below (bel_below BW.out hb)) HI.out (HT.out.below (bel_below BW.out hb)) y hW.out.1 x hx
      have HNL := Lib.hid (next_lives HI.out.heads G hW.out.1 x)
      have hst : Hid ((nextR f G y x = y → PR = some (pre ++ [y])) ∧ (nextR f G y x ≠ y → PR = (pathR (fun m => nextR f G m x) (65 - (k + 1)) (nextR f G y x)).map ((pre ++ [y]) ++ ·))) := by
        have h3 := hW.out.2.2
        rw [show 65 - k = (65 - (k + 1)) + 1 by omega] at h3
        rw [HPR.out]
        exact path_loop h3
      obtain ⟨z, hz⟩ : ∃ z, z = nextR f G y x := ⟨_, rfl⟩
      rw [← hz] at CN HNL hst
      have HPL := Lib.hid hpl
      clear hz hS hny hq hpl
      go_wp2_with fail
      refine wp_region_calm (by kernel_rfl) (by kernel_rfl) ?_
      repeat (first | (go_big_quiet_step ((first | (go_at_call 30; exact calls_calm (CN.out _ (by (repeat (first | exact Below.refl _ _ | (with_reducible assumption) | (with_reducible refine bel_later ?_ _) | (with_reducible refine bel_alloc ?_ _) | (with_reducible refine bel_drew ?_) | (with_reducible refine bel_drewN ?_ _) | (with_reducible refine bel_set ?_ (by first | (simp; done) | (simp; omega) | (dsimp only; omega)) _))))))))) | (refine wpQuiet_step (fun K hK => ?_); go_simp; first | (refine hK _ ?_; clear hK K) | (apply Exists.intro; refine ⟨fun _ => ?_, hK _ ?_⟩; (first | (go_at_call 30; exact calls_calm (CN.out _ (by (repeat (first | exact Below.refl _ _ | (with_reducible assumption) | (with_reducible refine bel_later ?_ _) | (with_reducible refine bel_alloc ?_ _) | (with_reducible refine bel_drew ?_) | (with_reducible refine bel_drewN ?_ _) | (with_reducible refine bel_set ?_ (by first | (simp; done) | (simp; omega) | (dsimp only; omega)) _))))))); clear hK K)))
      refine wpQuiet_nil ?_
      intro _ hw'
      obtain ⟨xq, hw''⟩ := hw'
      subst hw''
      obtain ⟨w2, hb2⟩ := xq
      dsimp only
      have j0 := ((hb2).cell (p := ⟨R, 0, none⟩) jz).trans j0
      have j1 := ((hb2).cell (p := ⟨R, 1, none⟩) jz).trans j1
      have j2 := ((hb2).cell (p := ⟨R, 2, none⟩) jz).trans j2
      have j3 := ((hb2).cell (p := ⟨R, 3, none⟩) jz).trans j3
      have jz := Nat.lt_of_lt_of_le jz (hb2).size
      have hck := (hb2.cell (p := ⟨sb, so + k, none⟩) hsz).trans hck
      have hsz := Nat.lt_of_lt_of_le hsz hb2.size
      have hO1 := Lib.hid (owns_below hO.out hb2)
      have B2 := Lib.hid (bel_below hB.out hb2)
      clear hb2 CN hB hO
      by_cases hzy : z = y
      · have hzb : (z == y) = true := by simpa using hzy
        have hE := Lib.hid (hst.out.1 hzy)
        clear hst hzy
        go_wp2_with fail
        go_ret2
        refine HPS.out _ _ _ hE.out ?_ (bel_below B1.out B2.out)
        have := (own_ints hO1.out).base (B' := w.heap.size) B1.out.size
        simpa [HPL.out] using this
      · have hzb : (z == y) = false := by simpa using hzy
        have hE := Lib.hid (hst.out.2 hzy)
        clear hst hzy
        go_wp2_with (at_builtin; refine wpList_app rfl _ _ 39 rfl w1.heap.size 3 i0 (.int .i64 0) 8 Tryz.underlying39 hi hz0 hz1 hz2 rfl _ q _ rfl (hO1.out.alloc _) 0 _ 1 _ rfl (sl_new _ .i64 [z] 3 _ 1 rfl rfl (by simp [maxLen])) (fun _ => rfl) ?qc1 ?qc2 ?qc3 ?_)
        case qc1 => simp only [maxLen]; omega
        case qc2 => omega
        case qc3 => have := B2.out.size; simp; omega
        intro v' w3 ho3 hg3
        have B3 : Hid (RowKit.Below w1.heap.size w1 w3) := (bel_alloc B2.out _).grown hg3 (by have := B2.out.size; simp; omega) (fun q hq => (hO1.out.lt q hq).1)
        have HO3 := Lib.hid ho3
        clear ho3 hg3 hO1 B2 j0 j1 j2 j3 jz hck hsz
        go_wp2_with fail
        go_roundw
        case rel =>
          go_light
          refine ⟨k + 1, pre ++ [y], z, by omega, by go_num, ⟨HNL.out, by rw [List.length_append, HPL.out]; rfl, by rw [← HPR.out]; exact hE.out⟩, ?_, B3⟩
          have := HO3.out
          rw [HQ.out] at this
          show World.ownsRow _ _ _ _ _ _ _
          simpa [nth] using this
        case measure => go_light; simp [intOf]; omega
    · obtain rfl : k = 65 := by omega
      have hN : Hid (PR = none) := show PR = none by
        have := hW.out.2.2
        rw [HPR.out, this]; rfl
      have hkI : ¬ ((65 : Nat) : Int) < 65 := by omega
      go_wp2_with fail
      go_ret2
      exact HPN.out _ hN.out (bel_below B1.out hB.out)

/-! ### Fix -/
theorem fixN_lenQ (f : RS) (G : Int → List Int) (n : Int) (k : Nat) : (fixN f G n k).length ≤ k := fixN_len f G n k
set_option maxRecDepth 100000 in
set_option maxHeartbeats 8000000 in
theorem rfix_any (h : RefIs Q w p f V) (I : Inv f) (hT : TabIs Z w vb G) (n : Int) (hlv : livesR f n = true) :
    Calls Tryz.prog 22 #[(.agg #[.slice (some ⟨(p).b1, (p).o1, none⟩) 32 (p).k1, .slice (some ⟨(p).b2, (p).o2, none⟩) 32 (p).k2, .slice (some ⟨(p).b3, (p).o3, none⟩) 32 (p).k3, .slice (some ⟨(p).b4, (p).o4, none⟩) 32 (p).k4]), .slice (some ⟨vb, 0, none⟩) 32 32, .int .i64 n] w fun e w' => ∃ v, e = .returned v ∧ SlAt w.heap.size (fun i => .int .i64 (nth (fixR f G n) i)) (fixR f G n).length w' v ∧ RowKit.Below w.heap.size w w' := by
  obtain ⟨i0, hi, hz0, hz1, hz2⟩ : ∃ i0, Tryz.prog.info? 3 = some i0 ∧ i0.zero = some (Value.int .i64 0) ∧ i0.size = 1 ∧ i0.bytes = 8 := ⟨intI, intI_at, by kernel_rfl, by kernel_rfl, by kernel_rfl⟩
  have hnd := livesR_dom I.dom hlv
  obtain ⟨m, rfl⟩ : ∃ m : Nat, n = m := ⟨n.toNat, by omega⟩
  have hm : m < 32 := by omega
  have c0 := h.rows.at_id hm
  have cz := h.rows.ids.z
  have HR := Lib.hid h
  have HI := Lib.hid I
  have HT := Lib.hid hT
  have HL := Lib.hid hlv
  have HS := Lib.hid fun k => fixN_succ f G m k
  have HLN := Lib.hid fun k => fixN_len f G m k
  have HFX : Hid (fixR f G m = fixN f G m 64) := show _ = _ from rfl
  obtain ⟨fx, hfx⟩ : ∃ z, z = fixR f G m := ⟨_, rfl⟩
  obtain ⟨fn, hfn⟩ : ∃ z : Nat → List Int, z = fixN f G m := ⟨_, rfl⟩
  have HF0 : Hid (fn 0 = []) := show fn 0 = [] by rw [hfn]; rfl
  rw [← hfx, ← hfn] at HFX
  rw [← hfn] at HS HLN
  rw [← hfx]
  obtain ⟨id, hid⟩ : ∃ z, z = idR f m := ⟨_, rfl⟩
  rw [← hid] at c0
  have HID := Lib.hid hid
  clear h I hT hlv hnd hfx hfn hid
  go_enter Tryz.func22, Tryz.ntmps22
  go_upto_region 1 with (fail)
  obtain ⟨w1, hw1⟩ : ∃ z, z = w.alloc (.cells #[.slice (some ⟨p.b1, p.o1, none⟩) 32 p.k1, .slice (some ⟨p.b2, p.o2, none⟩) 32 p.k2, .slice (some ⟨p.b3, p.o3, none⟩) 32 p.k3, .slice (some ⟨p.b4, p.o4, none⟩) 32 p.k4] 33) := ⟨_, rfl⟩
  obtain ⟨R, hR⟩ : ∃ z, z = w.heap.size := ⟨_, rfl⟩
  have B1 : Hid (RowKit.Below w.heap.size w w1) := by rw [hw1]; exact bel_alloc (RowKit.Below.refl _ _) _
  have j0 : w1.cell? ⟨R, 0, none⟩ = some (.slice (some ⟨p.b1, p.o1, none⟩) 32 p.k1) := by rw [hw1, hR]; simp [go_sem]
  have j1 : w1.cell? ⟨R, 1, none⟩ = some (.slice (some ⟨p.b2, p.o2, none⟩) 32 p.k2) := by rw [hw1, hR]; simp [go_sem]
  have j2 : w1.cell? ⟨R, 2, none⟩ = some (.slice (some ⟨p.b3, p.o3, none⟩) 32 p.k3) := by rw [hw1, hR]; simp [go_sem]
  have j3 : w1.cell? ⟨R, 3, none⟩ = some (.slice (some ⟨p.b4, p.o4, none⟩) 32 p.k4) := by rw [hw1, hR]; simp [go_sem]
  have jz : R < w1.heap.size := by rw [hw1, hR]; simp
  have c0 := (B1.out.cell (p := ⟨p.b3, p.o3 + m, none⟩) cz).trans c0
  have cz := Nat.lt_of_lt_of_le cz B1.out.size
  have O0 : Hid ((w1.alloc (.cells #[] 3)).ownsRow w1.heap.size 3 1 (.slice (some ⟨w1.heap.size, 0, none⟩) 0 0) (fn 0).length ((fn 0).map (Value.int .i64))) := show World.ownsRow _ _ _ _ _ _ _ by
    rw [HF0.out]; exact own_nil w1 3 _ 1 _ rfl (Nat.le_refl _)
  have B0 : Hid (RowKit.Below w1.heap.size w1 (w1.alloc (.cells #[] 3))) := bel_alloc (RowKit.Below.refl _ _) _
  rw [← hw1]
  try rw [← hR]
  clear hw1 hR
  go_wp2_with fail
  go_loopw [7, 8, 9, 10] (fun v i _ _ wr => ∃ k : Nat, k ≤ 64 ∧ i = .int .i64 k ∧ Hid (wr.ownsRow w1.heap.size 3 1 v (fn k).length ((fn k).map (Value.int .i64))) ∧ Hid (RowKit.Below w1.heap.size w1 wr))
    (fun _ i _ _ _ => 64 - (intOf i).toNat)
  case atStart => exact ⟨0, by omega, rfl, O0, B0⟩
  case round =>
    obtain ⟨k, hk, rfl, hO, hB⟩ := hrel
    by_cases hlt : k < 64
    · have hkI : ((k : Nat) : Int) < 64 := by omega
      obtain ⟨av, cv, rfl⟩ := own_shapeQ hO.out
      have j0 := ((hB.out).cell (p := ⟨R, 0, none⟩) jz).trans j0
      have j1 := ((hB.out).cell (p := ⟨R, 1, none⟩) jz).trans j1
      have j2 := ((hB.out).cell (p := ⟨R, 2, none⟩) jz).trans j2
      have j3 := ((hB.out).cell (p := ⟨R, 3, none⟩) jz).trans j3
      have jz := Nat.lt_of_lt_of_le jz (hB.out).size
      have c0 := (hB.out.cell (p := ⟨p.b3, p.o3 + m, none⟩) cz).trans c0
      have cz := Nat.lt_of_lt_of_le cz hB.out.size
      have BW := Lib.hid (bel_below B1.out hB.out)
      obtain ⟨sx, hsx⟩ : ∃ z, z = startR (idR f m) k := ⟨_, rfl⟩
      have CS : Hid (∀ w', Calls Tryz.prog 57 #[.int .u64 id, .int .i64 k] w' fun e w'' => e = .returned (.int .u64 sx) ∧ w' = w'') := fun w' => by
        rw [hsx, ← HID.out]; exact rstartQ id k (by omega) w'
      have CP := Lib.hid fun wr' (hb : RowKit.Below wr.heap.size wr wr') => rpath_any (HR.out.below (bel_below BW.out hb)) HI.out (HT.out.below (bel_below BW.out hb)) m HL.out sx (by rw [hsx]; exact place_start _ _)
      have hs := HS.out k
      unfold fixS at hs
      rw [← hsx] at hs
      have HPL := Lib.hid fun l (hl : pathR (fun y => nextR f G y sx) 65 m = some l) => And.intro (path_way _ _ _ hl).1.pos (path_way _ _ _ hl).2
      clear hsx
      obtain ⟨P, hP⟩ : ∃ z, z = pathR (fun y => nextR f G y sx) 65 m := ⟨_, rfl⟩
      unfold RPathPost at CP
      rw [← hP] at CP hs HPL
      clear hP
      have hs1 := HLN.out k
      have hmI : ((m : Nat) : Int) < 32 := by omega
      go_wp2_with fail
      refine wp_region_heads [0, 1, 2, 3, 4, 5, 6, 7, 8, 9] 16 (fun w' => ∃ x : Later wr, w' = x.world) (by kernel_rfl) (by kernel_rfl) ⟨⟨{ wr with drawn := wr.drawn + 1 }, (RowKit.Below.refl _ _).drew⟩, rfl⟩ (fun d v c a w h => by cases d <;> exact h) ?_
      simp only [headOps]
      repeat (refine wpTame_step (fun K hK => ?_); go_simp; refine hK _ ?_; clear hK K)
      refine wpTame_nil ?_
      have BD : Hid (RowKit.Below wr.heap.size wr { wr with drawn := wr.drawn + 1 }) := (RowKit.Below.refl _ _).drew
      refine wpAnyC_step (f := 6) [10] (by kernel_rfl) rfl rfl (fun i hi => ?_)
      simp only [List.mem_cons, List.not_mem_nil, or_false] at hi
      subst hi
      refine ⟨_, rfl, fun R hR => ?_⟩
      go_wp2_with (go_at_call 57; refine (CS.out _).mono ?_; rintro e w' ⟨rfl, rfl⟩)
      refine hR _ _ ⟨⟨_, BD.out⟩, rfl⟩ ?_
      clear hR R
      refine wpAnyC_step (f := 5) [11] (by kernel_rfl) rfl rfl (fun i hi => ?_)
      simp only [List.mem_cons, List.not_mem_nil, or_false] at hi
      subst hi
      refine ⟨_, rfl, fun R hR => ?_⟩
      go_wp2_with fail
      refine (CP.out _ BD.out).mono ?_
      cases P with
      | none =>
        have hs' : fn (k + 1) = fn k := hs
        have HSS := Lib.hid hs'
        clear hs hs'
        rintro e w2 ⟨rfl, hb2⟩
        have hb2 := bel_below BD.out hb2
        have hO1 := Lib.hid (owns_below hO.out hb2)
        have B2 := Lib.hid (bel_below hB.out hb2)
        have B22 := Lib.hid hb2
        clear CP CS hb2 hO hB BD j0 j1 j2 j3 jz c0 cz
        go_wp2_with fail
        refine hR _ _ ⟨⟨w2, B22.out⟩, rfl⟩ ?_
        clear hR R
        refine wpAnyC_mid (f := 1) [12, 13, 14, 15] ⟨⟨w2, B22.out⟩, rfl⟩ (by kernel_rfl) (fun d v c a w h => by cases d <;> exact h) ?_
        simp only [headOps]
        repeat (refine wpTame_step (fun K hK => ?_); go_simp; refine hK _ ?_; clear hK K)
        refine wpTame_nil ?_
        refine wpAnyC_end (k := 16) (by decide) rfl rfl (by kernel_rfl) ?_
        go_wp2_with fail
        refine wp_region_calm (by kernel_rfl) (by kernel_rfl) ?_
        repeat (first | (go_big_quiet_step ((fail))) | (refine wpQuiet_step (fun K hK => ?_); go_simp; first | (refine hK _ ?_; clear hK K) | (apply Exists.intro; refine ⟨fun _ => ?_, hK _ ?_⟩; (fail); clear hK K)))
        refine wpQuiet_nil ?_
        intro _ hw'
        obtain ⟨xq, hw''⟩ := hw'
        subst hw''
        obtain ⟨w3, hb3⟩ := xq
        dsimp only
        have hO1 := Lib.hid (owns_below hO1.out hb3)
        have B2 := Lib.hid (bel_below B2.out hb3)
        clear hb3
        go_wp2_with fail
        go_roundw
        case rel =>
          go_light
          refine ⟨k + 1, by omega, by go_num, ?_, B2⟩
          show World.ownsRow _ _ _ _ _ _ _
          rw [HSS.out]; exact hO1.out
        case measure => go_light; simp [intOf]; omega
      | some l =>
        have hs' : fn (k + 1) = addF (fn k) (lastL l) := hs
        have HSS := Lib.hid hs'
        obtain ⟨hl0, hl65⟩ := HPL.out l rfl
        obtain ⟨o, ho⟩ : ∃ z, z = lastL l := ⟨_, rfl⟩
        have HO0 := Lib.hid (show nth l (l.length - 1) = o from ho.symm)
        rw [← ho] at HSS
        clear hs hs' ho
        rintro e w2 ⟨v2, rfl, hsl, hb2⟩
        obtain ⟨va, vc, rfl, _⟩ := hsl.slice
        obtain ⟨lj, hlj⟩ : ∃ z, z = l.length - 1 := ⟨_, rfl⟩
        obtain ⟨sb, so, rfl, _, hvz, hv⟩ := hsl.at lj (by omega) w2 (RowKit.Below.refl _ _)
        rw [← hlj] at HO0
        rw [HO0.out] at hv
        have hcast : ((l.length : Nat) : Int) - 1 = ((lj : Nat) : Int) := by omega
        have hljl : ((lj : Nat) : Int) < ((l.length : Nat) : Int) := by omega
        clear hsl hlj
        have hb2 := bel_below BD.out hb2
        have hO1 := Lib.hid (owns_below hO.out hb2)
        have B2 := Lib.hid (bel_below hB.out hb2)
        have B22 := Lib.hid hb2
        clear CP CS hb2 hO hB BD j0 j1 j2 j3 jz c0 cz
        go_wp2_with fail
        refine hR _ _ ⟨⟨w2, B22.out⟩, rfl⟩ ?_
        clear hR R
        refine wpAnyC_mid (f := 1) [12, 13, 14, 15] ⟨⟨w2, B22.out⟩, rfl⟩ (by kernel_rfl) (fun d v c a w h => by cases d <;> exact h) ?_
        simp only [headOps]
        repeat (refine wpTame_step (fun K hK => ?_); go_simp; refine hK _ ?_; clear hK K)
        refine wpTame_nil ?_
        refine wpAnyC_end (k := 16) (by decide) rfl rfl (by kernel_rfl) ?_
        go_wp2_with fail
        obtain ⟨q, hq⟩ : ∃ z, z = (fn k).length := ⟨_, rfl⟩
        have HQ := Lib.hid hq
        rw [← hq] at hO1 hs1 ⊢
        by_cases hq0 : q = 0
        · have hqb : (((q : Nat) : Int) == 0) = true := by rw [beq_iff_eq]; omega
          have HAD : Hid (addF (fn k) o = fn k ++ [o]) := show _ = _ by unfold addF; rw [if_neg (by omega)]
          clear hq hq0
          refine wp_region_calm (by kernel_rfl) (by kernel_rfl) ?_
          repeat (first | (go_big_quiet_step ((fail))) | (refine wpQuiet_step (fun K hK => ?_); go_simp; first | (refine hK _ ?_; clear hK K) | (apply Exists.intro; refine ⟨fun _ => ?_, hK _ ?_⟩; (fail); clear hK K)))
          refine wpQuiet_nil ?_
          intro _ hw'
          obtain ⟨xq, hw''⟩ := hw'
          subst hw''
          obtain ⟨w3, hb3⟩ := xq
          dsimp only
          have hO1 := Lib.hid (owns_below hO1.out hb3)
          have B2 := Lib.hid (bel_below B2.out hb3)
          have hv := (hb3.cell (p := ⟨sb, so + lj, none⟩) hvz).trans hv
          have hvz := Nat.lt_of_lt_of_le hvz hb3.size
          clear hb3
          go_wp2_with (at_builtin; refine wpList_app rfl _ _ 39 rfl w1.heap.size 3 i0 (.int .i64 0) 8 Tryz.underlying39 hi hz0 hz1 hz2 rfl _ q _ rfl (hO1.out.alloc _) 0 _ 1 _ rfl (sl_new _ .i64 [o] 3 _ 1 rfl rfl (by simp [maxLen])) (fun _ => rfl) ?qc1 ?qc2 ?qc3 ?_)
          case qc1 => simp only [maxLen]; omega
          case qc2 => omega
          case qc3 => have := B2.out.size; simp; omega
          intro v' w4 ho4 hg4
          have B4 : Hid (RowKit.Below w1.heap.size w1 w4) := (bel_alloc B2.out _).grown hg4 (by have := B2.out.size; simp; omega) (fun q hq => (hO1.out.lt q hq).1)
          have HO4 := Lib.hid ho4
          clear ho4 hg4 hO1 B2 hv hvz
          go_wp2_with fail
          go_roundw
          case rel =>
            go_light
            refine ⟨k + 1, by omega, by go_num, ?_, B4⟩
            have := HO4.out
            show World.ownsRow _ _ _ _ _ _ _
            rw [HSS.out, HAD.out, List.length_append, ← HQ.out]
            simpa [nth] using this
          case measure => go_light; simp [intOf]; omega
        · have hqb : (((q : Nat) : Int) == 0) = false := by rw [beq_eq_false_iff_ne]; omega
          obtain ⟨j, hj⟩ : ∃ z, z = q - 1 := ⟨_, rfl⟩
          have hcq : ((q : Nat) : Int) - 1 = ((j : Nat) : Int) := by omega
          have hjq : ((j : Nat) : Int) < ((q : Nat) : Int) := by omega
          obtain ⟨gb, go, rfl, _, hgz, hg⟩ := ((own_ints hO1.out).base (B' := 0) (Nat.zero_le _) |> (hq ▸ ·) : SlAt 0 (fun i => .int .i64 (nth (fn k) i)) q w2 (.slice av q cv)).at j (by omega) w2 (RowKit.Below.refl _ _)
          obtain ⟨lo, hlo⟩ : ∃ z, z = nth (fn k) j := ⟨_, rfl⟩
          have hll : lastL (fn k) = lo := by rw [hlo, hj, hq]; rfl
          rw [← hlo] at hg
          by_cases hoe : lo = o
          · have hob : (lo != o) = false := by simpa using hoe
            have HAD : Hid (addF (fn k) o = fn k) := show _ = _ by unfold addF; rw [if_pos ⟨by omega, hll.trans hoe⟩]
            clear hq hq0 hj hlo hll hoe
            refine wp_region_calm (by kernel_rfl) (by kernel_rfl) ?_
            repeat (first | (go_big_quiet_step ((fail))) | (refine wpQuiet_step (fun K hK => ?_); go_simp; first | (refine hK _ ?_; clear hK K) | (apply Exists.intro; refine ⟨fun _ => ?_, hK _ ?_⟩; (fail); clear hK K)))
            refine wpQuiet_nil ?_
            intro _ hw'
            obtain ⟨xq, hw''⟩ := hw'
            subst hw''
            obtain ⟨w3, hb3⟩ := xq
            dsimp only
            have hO1 := Lib.hid (owns_below hO1.out hb3)
            have B2 := Lib.hid (bel_below B2.out hb3)
            clear hb3
            go_wp2_with fail
            go_roundw
            case rel =>
              go_light
              refine ⟨k + 1, by omega, by go_num, ?_, B2⟩
              show World.ownsRow _ _ _ _ _ _ _
              rw [HSS.out, HAD.out, ← HQ.out]; exact hO1.out
            case measure => go_light; simp [intOf]; omega
          · have hob : (lo != o) = true := by simpa using hoe
            have HAD : Hid (addF (fn k) o = fn k ++ [o]) := show _ = _ by unfold addF; rw [if_neg (fun h => hoe (hll.symm.trans h.2))]
            clear hq hq0 hj hlo hll hoe
            refine wp_region_calm (by kernel_rfl) (by kernel_rfl) ?_
            repeat (first | (go_big_quiet_step ((fail))) | (refine wpQuiet_step (fun K hK => ?_); go_simp; first | (refine hK _ ?_; clear hK K) | (apply Exists.intro; refine ⟨fun _ => ?_, hK _ ?_⟩; (fail); clear hK K)))
            refine wpQuiet_nil ?_
            intro _ hw'
            obtain ⟨xq, hw''⟩ := hw'
            subst hw''
            obtain ⟨w3, hb3⟩ := xq
            dsimp only
            have hO1 := Lib.hid (owns_below hO1.out hb3)
            have B2 := Lib.hid (bel_below B2.out hb3)
            have hv := (hb3.cell (p := ⟨sb, so + lj, none⟩) hvz).trans hv
            have hvz := Nat.lt_of_lt_of_le hvz hb3.size
            clear hb3
            go_wp2_with (at_builtin; refine wpList_app rfl _ _ 39 rfl w1.heap.size 3 i0 (.int .i64 0) 8 Tryz.underlying39 hi hz0 hz1 hz2 rfl _ q _ rfl (hO1.out.alloc _) 0 _ 1 _ rfl (sl_new _ .i64 [o] 3 _ 1 rfl rfl (by simp [maxLen])) (fun _ => rfl) ?qc1 ?qc2 ?qc3 ?_)
            case qc1 => simp only [maxLen]; omega
            case qc2 => omega
            case qc3 => have := B2.out.size; simp; omega
            intro v' w4 ho4 hg4
            have B4 : Hid (RowKit.Below w1.heap.size w1 w4) := (bel_alloc B2.out _).grown hg4 (by have := B2.out.size; simp; omega) (fun q hq => (hO1.out.lt q hq).1)
            have HO4 := Lib.hid ho4
            clear ho4 hg4 hO1 B2 hv hvz
            go_wp2_with fail
            go_roundw
            case rel =>
              go_light
              refine ⟨k + 1, by omega, by go_num, ?_, B4⟩
              have := HO4.out
              show World.ownsRow _ _ _ _ _ _ _
              rw [HSS.out, HAD.out, List.length_append, ← HQ.out]
              simpa [nth] using this
            case measure => go_light; simp [intOf]; omega
    · obtain rfl : k = 64 := by omega
      have hkI : ¬ ((64 : Nat) : Int) < 64 := by omega
      go_wp2_with fail
      go_ret
      refine ⟨_, rfl, ?_, bel_below B1.out hB.out⟩
      rw [HFX.out]
      exact (own_ints hO.out).base B1.out.size
end Go.Proofs.YtbhaapkafgieiaaGreatDoor
