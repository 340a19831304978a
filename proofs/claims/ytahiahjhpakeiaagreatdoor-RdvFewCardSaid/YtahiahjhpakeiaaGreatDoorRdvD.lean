


/-
  RdvFew walked.
-/
import Derived.Test.YtahiahjhpakeiaaGreatDoorRdvB
namespace Go.Proofs.YtahiahjhpakeiaaGreatDoor
open Go.RowKit Go.Maps Go.Sort Go.WideShapes Go.ChangeShapes Go.Deep
set_option linter.unusedVariables false
set_option linter.unusedSimpArgs false
attribute [local go_sem] later_cell later_frozen later_lt cell_set_off cell_set_block keptT_cell keptT_lt

def nameT (s : Str) : Str := s.take 30
theorem nameT_len (s : Str) : (nameT s).length ≤ 30 := by unfold nameT; rw [List.length_take]; omega
theorem bs_extractN (s : Str) : (bs s).extract 0 30 = bs (nameT s) := by
  apply ByteArray.ext
  rw [ByteArray.data_extract]
  apply Array.toList_inj.1
  simp [bs, nameT]
def namesK (l : List Str) (k : Nat) : List Str := (l.take k).map nameT
theorem namesK_succ {l : List Str} {k : Nat} (hk : k < l.length) : (namesK l (k + 1)).map sV = (namesK l k).map sV ++ [sV (nameT (nthT l k))] := by
  unfold namesK
  rw [List.take_succ_eq_append_getElem hk, List.map_append, List.map_append, nthT_eq hk]; rfl
/-- The names that a statement takes. -/
def namesL (l : List Str) : List Str := namesK l 30
theorem namesL_len (l : List Str) : (namesL l).length ≤ 30 := by unfold namesL namesK; rw [List.length_map, List.length_take]; omega
theorem namesL_size (l : List Str) : ∀ s ∈ namesL l, (bs s).size ≤ 30 := fun s hs => by
  unfold namesL namesK at hs
  obtain ⟨x, _, rfl⟩ := List.mem_map.1 hs
  exact nameT_len x
theorem namesK_all {l : List Str} {k : Nat} (hk : k ≤ l.length) (h : k = l.length ∨ k = 30) (h30 : k ≤ 30) : namesK l k = namesL l := by
  unfold namesL namesK
  rcases h with h | h
  · rw [h, List.take_length, List.take_of_length_le (by omega)]
  · rw [h]
set_option maxRecDepth 100000 in
set_option maxHeartbeats 4000000 in
theorem names_any (w : World) (v : Value) (l : List Str) (h : SlS 0 l w v) : Calls Tryz.prog 12 #[v] w fun e w' => ∃ v', e = .returned v' ∧ SlS w.heap.size (namesL l) w' v' ∧ Below w.heap.size w w' := by
  obtain ⟨i0, hi, hz0, hz1, hz2⟩ : ∃ i0, Tryz.prog.info? 9 = some i0 ∧ i0.zero = some (Value.string ByteArray.empty) ∧ i0.size = 1 ∧ i0.bytes = 16 := ⟨strI, strI_at, by kernel_rfl, by kernel_rfl, by kernel_rfl⟩
  obtain ⟨a, c, rfl, _, hcm⟩ := h.slice
  have hll : l.length ≤ 9223372036854775807 := by obtain ⟨_, _, e, h1, h2, _⟩ := h; unfold maxLen at h2; omega
  have HS := Lib.hid h
  have HP : Hid (∀ v' w', SlS w.heap.size (namesL l) w' v' → Below w.heap.size w w' → ∃ v'', Ending.returned v' = .returned v'' ∧ SlS w.heap.size (namesL l) w' v'' ∧ Below w.heap.size w w') := fun v' w' h1 h2 => ⟨v', rfl, h1, h2⟩
  clear h hcm
  go_enter Tryz.func12, Tryz.ntmps12
  go_upto_region 2 with (fail)
  obtain ⟨w1, hw1⟩ : ∃ z, z = w.alloc (.cells #[] 9) := ⟨_, rfl⟩
  have B1 : Hid (Below w.heap.size w w1) := by rw [hw1]; exact bel_alloc (Below.refl _ _) _
  have O1 : Hid (w1.ownsRow w.heap.size 9 1 (.slice (some ⟨w.heap.size, 0, none⟩) 0 0) 0 []) := by rw [hw1]; exact World.ownsRow_made w #[] 0 (Nat.le_refl _) (Nat.zero_le _) (by simp)
  rw [← hw1]
  clear hw1
  go_wp2_with fail
  go_loopw [3, 4] (fun vo i wr => ∃ k : Nat, k ≤ l.length ∧ k ≤ 30 ∧ i = .int .i64 k ∧ Hid (wr.ownsRow w.heap.size 9 1 vo k ((namesK l k).map sV)) ∧ Hid (Below w.heap.size w wr)) (fun _ i _ => 30 - (intOf i).toNat)
  case atStart => exact ⟨0, Nat.zero_le _, Nat.zero_le _, rfl, O1.out, B1.out⟩
  case round =>
    obtain ⟨k, hk, hk30, rfl, hO, hB⟩ := hrel
    by_cases hc : k < l.length ∧ k < 30
    · obtain ⟨hlt, hlt2⟩ := hc
      have hltI : (k : Int) < (l.length : Int) := by omega
      have hltI2 : (k : Int) < 30 := by omega
      obtain ⟨b, off, rfl, _, hbz, hcell⟩ := SlAt.at HS.out k hlt wr hB.out
      obtain ⟨s, hs⟩ : ∃ z, z = nthT l k := ⟨_, rfl⟩
      replace hcell : wr.cell? ⟨b, off + k, none⟩ = some (.string (bs s)) := by rw [hs]; exact hcell
      have hsz := bs_size s
      have hbz2 := hB.out.size
      have HSN := Lib.hid (namesK_succ hlt)
      rw [← hs] at HSN
      obtain ⟨L, hL⟩ : ∃ z, z = (namesK l k).map sV := ⟨_, rfl⟩
      rw [← hL] at HSN hO
      clear hs hL
      obtain ⟨ao, co, rfl⟩ := own_shape hO.out
      by_cases h30 : 30 < s.length
      · have hI : (30 : Int) < (((bs s).size : Nat) : Int) := by omega
        have hx := bs_extractN s
        obtain ⟨eg, heg⟩ : ∃ z, z = nameT s := ⟨_, rfl⟩
        rw [← heg] at HSN hx
        clear heg
        go_wp2_with (at_builtin; go_loud (refine wpList_app rfl _ _ 24 rfl w.heap.size 9 i0 (.string ByteArray.empty) 16 Tryz.underlying24 hi hz0 hz1 hz2 rfl _ k L rfl ?c0 0 (fun _ => sV eg) 1 _ rfl (slS_one _ eg 9 _ ?c4) (fun _ => rfl) ?c1 ?c2 ?c3 ?_))
        case c0 => exact ownsRow_same hO.out fun q hq => (bel_alloc (Below.refl _ wr) _).block q (hO.out.lt q hq).2
        case c1 => simp only [maxLen]; omega
        case c2 => omega
        case c3 => first | omega | (simp; omega)
        case c4 => simp
        intro va wa ho hg
        have HO : Hid (wa.ownsRow w.heap.size 9 1 va (k + 1) ((namesK l (k + 1)).map sV)) := show World.ownsRow _ _ _ _ _ _ _ by rw [HSN.out]; exact ho
        have BA : Hid (Below w.heap.size w wa) := (bel_alloc hB.out _).grown hg (by first | omega | (simp; omega)) (fun q hq => (hO.out.lt q hq).1)
        clear ho hg
        go_wp2_with fail
        go_roundw
        case rel => go_light; exact ⟨k + 1, by omega, by omega, by go_num, HO.out, BA.out⟩
        case measure => go_light; simp [intOf]; omega
      · have hI : ¬ (30 : Int) < (((bs s).size : Nat) : Int) := by omega
        have hx : nameT s = s := by unfold nameT; exact List.take_of_length_le (by omega)
        rw [hx] at HSN
        clear hx
        go_wp2_with (at_builtin; go_loud (refine wpList_app rfl _ _ 24 rfl w.heap.size 9 i0 (.string ByteArray.empty) 16 Tryz.underlying24 hi hz0 hz1 hz2 rfl _ k L rfl ?c0 0 (fun _ => sV s) 1 _ rfl (slS_one _ s 9 _ ?c4) (fun _ => rfl) ?c1 ?c2 ?c3 ?_))
        case c0 => exact ownsRow_same hO.out fun q hq => (bel_alloc (Below.refl _ wr) _).block q (hO.out.lt q hq).2
        case c1 => simp only [maxLen]; omega
        case c2 => omega
        case c3 => first | omega | (simp; omega)
        case c4 => simp
        intro va wa ho hg
        have HO : Hid (wa.ownsRow w.heap.size 9 1 va (k + 1) ((namesK l (k + 1)).map sV)) := show World.ownsRow _ _ _ _ _ _ _ by rw [HSN.out]; exact ho
        have BA : Hid (Below w.heap.size w wa) := (bel_alloc hB.out _).grown hg (by first | omega | (simp; omega)) (fun q hq => (hO.out.lt q hq).1)
        clear ho hg
        go_wp2_with fail
        go_roundw
        case rel => go_light; exact ⟨k + 1, by omega, by omega, by go_num, HO.out, BA.out⟩
        case measure => go_light; simp [intOf]; omega
    · have hend : k = l.length ∨ k = 30 := by omega
      have hall := namesK_all hk hend hk30
      have hrow := hO.out
      rw [hall] at hrow
      have hkl : k = (namesL l).length := by rw [← hall]; unfold namesK; rw [List.length_map, List.length_take]; omega
      have hsl := (OwnS.of_row (l := namesL l) (by rw [← hkl]; exact hrow)).slAt
      obtain ⟨a9, c9, rfl⟩ := own_shape hO.out
      have HSL := Lib.hid hsl
      clear hrow hsl hall hkl hO
      rcases hend with h1 | h1
      · have hltI : ¬ (k : Int) < (l.length : Int) := by omega
        clear h1 hc hk
        go_wp2_with fail
        go_ret
        exact HP.out _ _ HSL.out hB.out
      · have hltI2 : ¬ (k : Int) < 30 := by omega
        clear h1 hc hk30
        go_wp2_with fail
        all_goals
          go_ret
          exact HP.out _ _ HSL.out hB.out
/-- Who joins is one more, and nobody else comes or goes. -/
theorem join_grow {f : RS} (I : Inv f) {n id via : Int} (hid : isPlace id) (hc : joinC f n id via = 0) :
    (∀ y, livesR f y = true → livesR (joinR f n id via) y = true ∧ idR (joinR f n id via) y = idR f y) ∧ (∀ y, livesR (joinR f n id via) y = true → livesR f y = true ∨ y = n) ∧ livesR f n = false := by
  obtain ⟨h0, h1, hn, _, _, z, _, _, _, e⟩ := (joinC_cases I hid).2 hc
  rw [e]
  refine ⟨fun y hy => ⟨?_, join_id hn hy⟩, fun y hy => ?_, by unfold livesR; rw [hn]⟩
  · rw [join_lives]; split <;> first | rfl | exact hy
  · rw [join_lives] at hy
    by_cases hyn : y = n
    · exact Or.inr hyn
    · rw [if_neg hyn] at hy; exact Or.inl hy
/-- A plan where one member came. -/
theorem plan_few {f f' : RS} (I : Inv f) (I' : Inv f') {n : Int} (h1 : ∀ y, livesR f y = true → livesR f' y = true ∧ idR f' y = idR f y) (h2 : ∀ y, livesR f' y = true → livesR f y = true ∨ y = n) {gs : List Str} {m : Mv} (hm : m ∈ planU (fun g => keyH (bs g)) f f' gs) :
    m.to = n ∧ livesR f m.fr = true := by
  unfold planU at hm
  obtain ⟨g, _, hm⟩ := List.mem_flatMap.1 hm
  obtain ⟨Y, hY⟩ : ∃ z, z = keyH (bs g) := ⟨_, rfl⟩
  have hm2 : m ∈ planG f f' Y g := hY ▸ hm
  have hpl : isPlace Y := by rw [hY]; exact keyH_place (bs g)
  clear hm hY
  rcases planG_few I I' hpl h1 h2 g with e | e
  · rw [e] at hm2; cases hm2
  · rw [e] at hm2
    obtain rfl := List.mem_singleton.1 hm2
    exact ⟨rfl, owner_lives I _⟩
theorem ordM_step {L : List Mv} {n : Int} (h : OrdM L) (ht : ∀ m ∈ L, m.to = n) {k : Nat} (hk : k + 1 < L.length) : (elt L k).g < (elt L (k + 1)).g := by
  have h2 := List.pairwise_iff_getElem.1 h k (k + 1) (by omega) hk (by omega)
  rw [elt_eq (by omega), elt_eq hk]
  have e1 := ht _ (List.getElem_mem (show k < L.length by omega))
  have e2 := ht _ (List.getElem_mem hk)
  rw [e1, e2] at h2
  rcases h2 with h | ⟨_, h⟩
  · exact h
  · omega
theorem cellsStr1 : Tryz.prog.cellsOf 9 = 1 := by kernel_rfl
set_option maxRecDepth 100000 in
theorem strs_open {H : Type} {enc : TypeId × Value → H} {W : World} {v0 : Value} {d0 : DataW H} {p0 : List MemPlace} {r0 : Reach} {b0 : Nat} (ok0 : Value.okWide Tryz.prog W r0 b0 24 v0) (h0 : DataW.Trod enc Tryz.prog W 0 (fun _ => true) true 24 v0 d0 p0) :
    ∃ l : List Str, SlS 0 l W v0 := by
  obtain ⟨a, n, c, rfl⟩ := okWide_slice Tryz.underlying24 ok0
  obtain ⟨fuel, hf⟩ := h0
  obtain ⟨n', m, V, hs, hV⟩ := slAt_of_trod Tryz.underlying24 cellsStr1 hf
  have hV' : ∀ i, i < n' → ∃ s : Str, V i = .string (bs s) := fun i hi => by
    obtain ⟨y, hy⟩ := hV i hi
    obtain ⟨s, hs, _⟩ := DataW.trod_string Tryz.underlying9 hy
    simp at hs
    exact ⟨s.data.toList, by rw [hs]; cases s; simp [bs]⟩
  obtain ⟨g, hg⟩ := choose_lt hV'
  refine ⟨(List.range n').map g, ?_⟩
  show SlAt _ _ _ _ _
  rw [List.length_map, List.length_range]
  refine hs.congr fun i hi => ?_
  rw [hg i hi]
  unfold nthT
  rw [List.getD_eq_getElem?_getD, List.getElem?_map, List.getElem?_range hi]; rfl
set_option maxRecDepth 100000 in
set_option maxHeartbeats 16000000 in
theorem rdvFew_main (W : World) (v0 v1 : Value) (acts : List ActD) (gl : List Str) (ha : ActsAt acts W v0) (hao : ∀ k, k < acts.length → (actAt acts k).ok) (hg : SlS 0 gl W v1) :
    Calls Tryz.prog 4 #[v0, v1] W fun e w' => e = .returned (.bool true) ∧ Below W.heap.size W w' := by
  have HA := Lib.hid ha
  have HAO := Lib.hid hao
  have HGL := Lib.hid hg
  obtain ⟨a0, q0, rfl, _, hm1⟩ := ha.slice
  obtain ⟨a1, q1, rfl, _⟩ := hg.slice
  have ham : acts.length ≤ 9223372036854775807 := by unfold maxLen at hm1; omega
  clear ha hao hm1 hg
  go_enter Tryz.func4, Tryz.ntmps4
  go_wp2_with fail
  refine (base_any _).mono ?_
  rintro e w1 ⟨vb, rfl, hs1, hB1⟩
  have CB := Lib.hid (base_made W w1 hB1 vb (hs1.base (Nat.zero_le _)))
  clear hs1 hB1
  go_wp2_with fail
  refine CB.out.mono ?_
  rintro e w2 ⟨rb, mb, f, p, rfl, hR⟩
  have R2 := Lib.hid hR
  clear hR CB
  go_upto_region 2 with (fail)
  obtain ⟨w3, hw3⟩ : ∃ z, z = w2.alloc (.cells #[.slice (some ⟨p.b1, p.o1, none⟩) 32 p.k1, .slice (some ⟨p.b2, p.o2, none⟩) 32 p.k2, .slice (some ⟨p.b3, p.o3, none⟩) 32 p.k3, .slice (some ⟨p.b4, p.o4, none⟩) 32 p.k4] 32) := ⟨_, rfl⟩
  have R3 : Hid (RingOk W.heap.size W w3 rb mb f) := by rw [hw3]; exact R2.out.later (bel_alloc (RowKit.Below.refl _ _) _)
  rw [← hw3]
  clear hw3 R2
  by_cases hn : acts.length < 1
  · have hnI : (acts.length : Int) < 1 := by omega
    go_wp2_with fail
    refine (awake21_any _).mono ?_
    rintro e wz ⟨rfl, hbz⟩
    have BZ := Lib.hid (bel_below (R3.out.below) hbz)
    clear hbz
    go_wp2_with fail
    go_ret
    exact ⟨rfl, BZ.out⟩
  · have hnI : ¬ (acts.length : Int) < 1 := by omega
    have hlt0 : 0 < acts.length := by omega
    obtain ⟨g, hG⟩ := R3.out.ring
    have HIN := Lib.hid R3.out.inv
    have CC := Lib.hid (of_at hG R3.out.inv)
    have HG := Lib.hid hG
    clear hG
    go_wp2_with fail
    refine CC.out.mono ?_
    rintro e w4 ⟨av, iv, rfl, hav, hiv, hb4⟩
    obtain ⟨aa, ac, rfl, _⟩ := hav.slice
    obtain ⟨ia, ic, rfl, _⟩ := hiv.slice
    have HAV := Lib.hid hav
    have HIV := Lib.hid hiv
    obtain ⟨cl, hcl⟩ : ∃ z, z = (circ f).length := ⟨_, rfl⟩
    have HCL := Lib.hid hcl
    have B34 := Lib.hid hb4
    rw [← hcl]
    clear hcl hav hiv hb4 CC
    go_upto_region 5 with (fail)
    obtain ⟨w5, hw5⟩ : ∃ z, z = w4.alloc (.cells #[.slice aa cl ac, .slice ia cl ic] 38) := ⟨_, rfl⟩
    obtain ⟨X, hX⟩ : ∃ z, z = w4.heap.size := ⟨_, rfl⟩
    have b45 : Below w4.heap.size w4 w5 := by rw [hw5]; exact bel_alloc (Below.refl _ _) _
    have x0 : w5.cell? ⟨X, 0, none⟩ = some (.slice aa cl ac) := by rw [hw5, hX]; simp [go_sem]
    have x1 : w5.cell? ⟨X, 1, none⟩ = some (.slice ia cl ic) := by rw [hw5, hX]; simp [go_sem]
    have xz : X < w5.heap.size := by rw [hw5, hX]; simp
    have hX3 : w3.heap.size ≤ X := by rw [hX]; exact B34.out.size
    have B35 := Lib.hid (bel_below B34.out b45)
    have AV5 := Lib.hid (HAV.out.below b45)
    have IV5 := Lib.hid (HIV.out.below b45)
    have CN := Lib.hid (names_any w5 _ gl (SlAt.below HGL.out (bel_below R3.out.below B35.out)))
    rw [← hw5]
    try rw [← hX]
    clear hw5 hX b45 HAV HIV B34
    go_wp2_with fail
    refine CN.out.mono ?_
    rintro e w6 ⟨v6, rfl, hs6, hb6⟩
    obtain ⟨a6, c6, rfl, _⟩ := SlAt.slice hs6
    have S6 := Lib.hid (show SlAt w3.heap.size _ _ w6 _ from hs6.base B35.out.size)
    have x0 := (hb6.cell (p := ⟨X, 0, none⟩) xz).trans x0
    have x1 := (hb6.cell (p := ⟨X, 1, none⟩) xz).trans x1
    have xz6 := Nat.lt_of_lt_of_le xz hb6.size
    have B36 := Lib.hid (bel_below B35.out hb6)
    have AV6 := Lib.hid (AV5.out.below hb6)
    have IV6 := Lib.hid (IV5.out.below hb6)
    obtain ⟨nl, hnl⟩ : ∃ z, z = (namesL gl).length := ⟨_, rfl⟩
    have HNL := Lib.hid hnl
    have hnl30 : nl ≤ 30 := by rw [hnl]; exact namesL_len gl
    rw [← hnl]
    obtain ⟨b, off, rfl, hb, c0, c1, c2, c3⟩ := HA.out.at 0 hlt0 w6 (bel_below R3.out.below B36.out)
    have hok := HAO.out 0 hlt0
    generalize hAk : actAt acts 0 = A at c0 c1 c2 c3 hok
    obtain ⟨kd, an, av2, ai⟩ := A
    have HOK := Lib.hid hok
    dsimp only at c0 c1 c2 c3
    simp only [Nat.zero_mul, Nat.add_zero] at c0 c1 c2 c3
    have CJ := Lib.hid (join_act (HG.out.now B36.out) HIN.out.heads an ai 0 HOK.out.n (okInt_dom (by omega) (by omega)) HOK.out.id)
    clear hAk hok c0 c2 hs6 hb6 CN AV5 IV5 B35 hnl
    go_wp2_with fail
    refine CJ.out.mono ?_
    rintro e w7 ⟨v7, rfl, hv7, ⟨g7, hg7⟩, hk7⟩
    have hold : Hid (∀ b, w3.heap.size ≤ b → b < w6.heap.size → ¬ Now (fun b => W.heap.size ≤ b) w3 w6 b) := fun b h1 h2 h3 => by rcases h3 with h | h <;> omega
    have B7 : Hid (Below W.heap.size W w7) := (bel_below R3.out.below B36.out).trans (hk7.toBelow (bel_below R3.out.below B36.out).size fun b hb h => by
      have := (bel_below R3.out.below B36.out).size
      rcases h with h | h <;> omega)
    have AV7 := Lib.hid (slAt_kept2 AV6.out hk7 fun b h1 h2 => hold.out b h1 h2)
    have IV7 := Lib.hid (slAt_kept2 IV6.out hk7 fun b h1 h2 => hold.out b h1 h2)
    have S7 := Lib.hid (slAt_kept2 S6.out hk7 fun b h1 h2 => hold.out b h1 h2)
    have x0 := (World.cell?_of_block (a := ⟨X, 0, none⟩) (hk7.block X xz6 (hold.out X hX3 xz6))).trans x0
    have x1 := (World.cell?_of_block (a := ⟨X, 1, none⟩) (hk7.block X xz6 (hold.out X hX3 xz6))).trans x1
    have xz7 := Nat.lt_of_lt_of_le xz6 hk7.size
    have HG7 := Lib.hid hg7
    by_cases hc : joinC f an ai 0 = 0
    · obtain rfl : v7 = .nilIface := by
        rcases hv7 with ⟨_, h⟩ | ⟨h, _⟩
        · exact h
        · exact absurd hc h
      have JG := Lib.hid (join_grow HIN.out HOK.out.id hc)
      have HIN2 := Lib.hid (inv_joinR (via := 0) (n := an) HIN.out HOK.out.id)
      obtain ⟨f', hf'⟩ : ∃ z, z = joinR f an ai 0 := ⟨_, rfl⟩
      rw [← hf'] at JG HIN2 HG7
      have CC2 := Lib.hid (of_at HG7.out HIN2.out)
      clear hv7 hg7 hk7 hf' hc CJ AV6 IV6 S6 hold
      go_wp2_with fail
      refine CC2.out.mono ?_
      rintro e w8 ⟨bv, jv, rfl, hbv, hjv, hb8⟩
      obtain ⟨ba, bc, rfl, _⟩ := hbv.slice
      obtain ⟨ja, jc, rfl, _⟩ := hjv.slice
      have HBV := Lib.hid (hbv.base (B' := 0) (Nat.zero_le _))
      have HJV := Lib.hid (hjv.base (B' := 0) (Nat.zero_le _))
      obtain ⟨cl2, hcl⟩ : ∃ z, z = (circ f').length := ⟨_, rfl⟩
      have HCL2 := Lib.hid hcl
      have B78 := Lib.hid hb8
      rw [← hcl]
      clear hcl hbv hjv hb8 CC2
      go_upto_region 10 with (fail)
      obtain ⟨w9, hw9⟩ : ∃ z, z = w8.alloc (.cells #[.slice ba cl2 bc, .slice ja cl2 jc] 38) := ⟨_, rfl⟩
      obtain ⟨Y, hY⟩ : ∃ z, z = w8.heap.size := ⟨_, rfl⟩
      have b89 : Below w8.heap.size w8 w9 := by rw [hw9]; exact bel_alloc (Below.refl _ _) _
      have y0 : w9.cell? ⟨Y, 0, none⟩ = some (.slice ba cl2 bc) := by rw [hw9, hY]; simp [go_sem]
      have y1 : w9.cell? ⟨Y, 1, none⟩ = some (.slice ja cl2 jc) := by rw [hw9, hY]; simp [go_sem]
      have yz : Y < w9.heap.size := by rw [hw9, hY]; simp
      have B79 := Lib.hid (bel_below B78.out b89)
      have B9 := Lib.hid (bel_below B7.out B79.out)
      have x0 := (B79.out.cell (p := ⟨X, 0, none⟩) xz7).trans x0
      have x1 := (B79.out.cell (p := ⟨X, 1, none⟩) xz7).trans x1
      have xz9 := Nat.lt_of_lt_of_le xz7 B79.out.size
      have S9 := Lib.hid (S7.out.below B79.out)
      have BV9 := Lib.hid (HBV.out.below b89)
      have JV9 := Lib.hid (HJV.out.below b89)
      have CP := plan_any w9 f f' HIN.out HIN2.out _ _ _ _ ((AV7.out.base (Nat.zero_le _)).below B79.out) ((IV7.out.base (Nat.zero_le _)).below B79.out) BV9.out JV9.out _ (namesL gl) (show SlAt _ _ _ _ _ from S9.out.base (Nat.zero_le _)) (by have := HNL.out; omega) (fun s hs => Nat.le_trans (namesL_size gl s hs) (by omega))
      rw [← HCL.out, ← HCL2.out, ← HNL.out] at CP
      have CP := Lib.hid CP
      have HMV : Hid (∀ L : List Mv, L.Perm (planU (fun g => keyH (bs g)) f f' (setS (namesL gl))) → ∀ m ∈ L, m.to = an ∧ livesR f m.fr = true) := fun L hp m hm => plan_few HIN.out HIN2.out JG.out.1 JG.out.2.1 (hp.mem_iff.1 hm)
      have HG9 := Lib.hid (HG7.out.below B79.out)
      rw [← hw9]
      try rw [← hY]
      clear hw9 hY b89 B78 B79 HBV HJV AV7 IV7 S7 HG7
      go_wp2_with fail
      refine CP.out.mono ?_
      unfold PlanPost
      rintro e w10 ⟨v10, L, rfl, hm, hord, hperm, hb10⟩
      have hLm : L.length ≤ 90 := by
        have h1 := hperm.length_eq
        have h2 := planU_len (fun g => keyH (bs g)) f f' (setS (namesL gl))
        have h3 := setS_len (namesL gl)
        have h4 := namesL_len gl
        omega
      have HML := Lib.hid (HMV.out L hperm)
      have HORD := Lib.hid hord
      have HM := Lib.hid hm
      obtain ⟨pa, pc, rfl⟩ := hm.slice
      have B910 := Lib.hid hb10
      have B10 := Lib.hid (bel_below B9.out hb10)
      have y0 := (hb10.cell (p := ⟨Y, 0, none⟩) yz).trans y0
      have y1 := (hb10.cell (p := ⟨Y, 1, none⟩) yz).trans y1
      have yz10 := Nat.lt_of_lt_of_le yz hb10.size
      have S10 := Lib.hid (S9.out.below hb10)
      have BV10 := Lib.hid (BV9.out.below hb10)
      have JV10 := Lib.hid (JV9.out.below hb10)
      have HG10 := Lib.hid (HG9.out.below hb10)
      clear hm hord hperm hb10 CP HMV S9 BV9 JV9 HG9 x0 x1
      go_wp2_with fail
      go_loopw [60] (fun i wr => ∃ k : Nat, k ≤ L.length ∧ i = .int .i64 k ∧ Hid (Below w10.heap.size w10 wr)) (fun i _ => L.length - (intOf i).toNat)
      case atStart => exact ⟨0, Nat.zero_le _, rfl, Below.refl _ _⟩
      case round =>
        obtain ⟨k, hk, rfl, hB⟩ := hrel
        by_cases hlt : k < L.length
        · have hkI : (k : Int) < (L.length : Int) := by omega
          have hMI : ∃ q : Nat, pa = some ⟨q, 0, none⟩ ∧ MvIn w10 q L := by
            rcases HM.out with ⟨h1, _⟩ | ⟨q, cap, h1, _, _, _, h2⟩
            · rw [h1] at hlt; simp at hlt
            · injection h1 with h3 h4 h5
              exact ⟨q, h3, h2⟩
          obtain ⟨q, rfl, hMI⟩ := hMI
          have hMw := hMI.below hB.out
          obtain ⟨m0, m1, m2⟩ := hMw.all k hlt
          have hqz := hMw.lt
          have hto := (HML.out (elt L k) (by rw [elt_eq hlt]; exact List.getElem_mem hlt))
          have hfr2 := (JG.out.1 _ hto.2).1
          have hne : (elt L k).fr ≠ an := fun e => by have h1 := hto.2; rw [e, JG.out.2.2] at h1; cases h1
          have hfd := livesR_dom HIN2.out.dom hfr2
          have CL := Lib.hid fun wx (hb : Below wr.heap.size wr wx) => lives_at ((HG10.out.below hB.out).below hb) (elt L k).fr (okInt_dom (by omega) (by omega))
          rw [hfr2] at CL
          have hbl : ∀ j, j + 1 = k → Op.bytesLess (bs (elt L j).g).toList (bs (elt L k).g).toList = true := fun j hj => by
            rw [bs_toList, bs_toList, bytesLess_iff]
            have := ordM_step HORD.out (fun m hm => (HML.out m hm).1) (k := j) (by omega)
            rw [hj] at this
            simpa using this
          have HBL := Lib.hid hbl
          obtain ⟨E, hE⟩ : ∃ z, z = elt L k := ⟨_, rfl⟩
          have HTO := hto.1
          rw [← hE] at m0 m1 m2 HTO hne CL HBL
          clear hE hto hfr2 hbl hMI
          obtain ⟨eg, efr, eto⟩ := E
          dsimp only at m0 m1 m2 HTO hne CL HBL
          subst HTO
          have hneb : (efr == eto) = false := by simpa using hne
          clear hne hfd
          go_wp2_with fail
          obtain ⟨w11, hw11⟩ : ∃ z, z = wr.alloc (.cells #[.string (bs eg), .int .i64 efr, .int .i64 eto] 53) := ⟨_, rfl⟩
          have b11 : Below wr.heap.size wr w11 := by rw [hw11]; exact bel_alloc (Below.refl _ _) _
          have z0 : w11.cell? ⟨wr.heap.size, 0, none⟩ = some (.string (bs eg)) := by rw [hw11]; simp [go_sem]
          have zz : wr.heap.size < w11.heap.size := by rw [hw11]; simp
          have M11 := Lib.hid (hMw.below b11)
          have B11 := Lib.hid (bel_below hB.out b11)
          rw [← hw11]
          clear hw11
          refine (CL.out _ b11).mono ?_
          rintro e w12 ⟨rfl, hw12⟩
          subst hw12
          clear b11 CL m0 m1 m2
          by_cases h0 : 0 < k
          case neg =>
            have hk0 : ¬ (0 : Int) < (k : Int) := by omega
            have hk1 := h0
            go_wp2_with fail
            refine wp_region_calm (by kernel_rfl) (by kernel_rfl) ?_
            repeat (first | (go_big_quiet_step ((fail))) | (refine wpQuiet_step (fun K hK => ?_); go_simp; first | (refine hK _ ?_; clear hK K) | (apply Exists.intro; refine ⟨fun _ => ?_, hK _ ?_⟩; (fail); clear hK K)))
            refine wpQuiet_nil ?_
            intro _ hw'
            obtain ⟨xq, hw''⟩ := hw'
            subst hw''
            have BX := Lib.hid (bel_below B11.out xq.below)
            go_wp2_with fail
            go_roundw
            case rel => go_light; exact ⟨k + 1, by omega, by go_num, BX.out⟩
            case measure => go_light; simp [intOf]; omega
          case pos =>
            have hk0 : (0 : Int) < (k : Int) := by omega
            have hk1 : 0 < k := h0
            obtain ⟨j, hj⟩ : ∃ z, z + 1 = k := ⟨k - 1, by omega⟩
            have hjI : (k : Int) - 1 = (j : Int) := by omega
            have hjl : j < L.length := by omega
            have hjI2 : (j : Int) < (L.length : Int) := by omega
            have hbl := HBL.out j hj
            have j0 := (M11.out.all j hjl).c0
            have hqz11 := M11.out.lt
            obtain ⟨gj, hgj⟩ : ∃ z, z = (elt L j).g := ⟨_, rfl⟩
            rw [← hgj] at j0 hbl
            clear h0 hj hgj
            go_wp2_with fail
            refine wp_region_calm (by kernel_rfl) (by kernel_rfl) ?_
            repeat (first | (go_big_quiet_step ((fail))) | (refine wpQuiet_step (fun K hK => ?_); go_simp; first | (refine hK _ ?_; clear hK K) | (apply Exists.intro; refine ⟨fun _ => ?_, hK _ ?_⟩; (fail); clear hK K)))
            refine wpQuiet_nil ?_
            intro _ hw'
            obtain ⟨xq, hw''⟩ := hw'
            subst hw''
            have BX := Lib.hid (bel_below B11.out xq.below)
            go_wp2_with fail
            go_roundw
            case rel => go_light; exact ⟨k + 1, by omega, by go_num, BX.out⟩
            case measure => go_light; simp [intOf]; omega
        · obtain rfl : k = L.length := by omega
          have hkI : ¬ (L.length : Int) < (L.length : Int) := by omega
          go_wp2_with fail
          go_loopw [98] (fun i wr => ∃ k : Nat, k ≤ nl ∧ i = .int .i64 k ∧ Hid (Below w10.heap.size w10 wr)) (fun i _ => nl - (intOf i).toNat)
          case atStart => exact ⟨0, Nat.zero_le _, rfl, hB.out⟩
          case round =>
            clear hB
            obtain ⟨k, hk, rfl, hB⟩ := hrel
            by_cases hlt2 : k < nl
            · have hkI2 : (k : Int) < (nl : Int) := by omega
              have hS11 := S10.out.below hB.out
              rw [← HNL.out] at hS11
              obtain ⟨sb, so, rfl, _, hsz, hsc⟩ := SlAt.at hS11 k hlt2 _ (Below.refl _ _)
              obtain ⟨s, hs⟩ : ∃ z, z = nthT (namesL gl) k := ⟨_, rfl⟩
              replace hsc : wr.cell? ⟨sb, so + k, none⟩ = some (.string (bs s)) := by rw [hs]; exact hsc
              have hss : (bs s).size ≤ 1000000 := by
                rw [hs]
                exact Nat.le_trans (namesL_size gl _ (by rw [nthT_eq (by rw [← HNL.out]; exact hlt2)]; exact List.getElem_mem _)) (by omega)
              have y0 := (hB.out.cell (p := ⟨Y, 0, none⟩) yz10).trans y0
              have y1 := (hB.out.cell (p := ⟨Y, 1, none⟩) yz10).trans y1
              have yzr := Nat.lt_of_lt_of_le yz10 hB.out.size
              have CK := keep_any wr f' HIN2.out _ _ (BV10.out.below hB.out) (JV10.out.below hB.out) (bs s) hss
              rw [← HCL2.out] at CK
              have CK := Lib.hid CK
              have HKD := keepK_nodup HIN2.out (keyH (bs s))
              unfold KeepPost at CK
              obtain ⟨ks, hks⟩ : ∃ z, z = keepK f' (keyH (bs s)) := ⟨_, rfl⟩
              have HK3 : Hid (ks.length = 3) := show _ = _ by rw [hks]; rfl
              rw [← hks] at CK HKD
              have HKD := Lib.hid HKD
              clear hs hss hks hS11
              go_wp2_with fail
              refine CK.out.mono ?_
              rintro e w12 ⟨v12, rfl, hs12, hb12⟩
              obtain ⟨a12, c12, rfl, _⟩ := hs12.slice
              have S12 := hs12.base (B' := 0) (Nat.zero_le _)
              obtain ⟨qb, qo, hq, _, hqz, hl0⟩ := S12.at 0 (by omega) w12 (Below.refl _ _)
              subst hq
              rw [Nat.add_zero] at hl0
              have hl1 : w12.cell? ⟨qb, qo + 1, none⟩ = some (.int .i64 (nth ks 1)) := by
                obtain ⟨qb', qo', hq', _, _, h2⟩ := S12.at 1 (by omega) w12 (Below.refl _ _)
                cases hq'
                exact h2
              have hl2 : w12.cell? ⟨qb, qo + 2, none⟩ = some (.int .i64 (nth ks 2)) := by
                obtain ⟨qb', qo', hq', _, _, h2⟩ := S12.at 2 (by omega) w12 (Below.refl _ _)
                cases hq'
                exact h2
              have hne : ∀ i j, i < j → j < 3 → (nth ks i == nth ks j) = false := fun i j h1 h2 => by
                have h3 := List.pairwise_iff_getElem.1 HKD.out i j (by rw [HK3.out]; omega) (by rw [HK3.out]; omega) h1
                rw [← nth_eq (by rw [HK3.out]; omega), ← nth_eq (by rw [HK3.out]; omega)] at h3
                simpa using h3
              have n01 := hne 0 1 (by omega) (by omega)
              have n12 := hne 1 2 (by omega) (by omega)
              have n02 := hne 0 2 (by omega) (by omega)
              obtain ⟨o0, ho0⟩ : ∃ z, z = nth ks 0 := ⟨_, rfl⟩
              obtain ⟨o1, ho1⟩ : ∃ z, z = nth ks 1 := ⟨_, rfl⟩
              obtain ⟨o2, ho2⟩ : ∃ z, z = nth ks 2 := ⟨_, rfl⟩
              rw [← ho0] at hl0 n01 n02
              rw [← ho1] at hl1 n01 n12
              rw [← ho2] at hl2 n02 n12
              have B12 := Lib.hid (bel_below hB.out hb12)
              clear hs12 hb12 S12 CK hne ho0 ho1 ho2 HKD HK3 hsc hsz y0 y1
              go_wp2_with fail
              refine wp_region_calm (by kernel_rfl) (by kernel_rfl) ?_
              repeat (first | (go_big_quiet_step ((fail))) | (refine wpQuiet_step (fun K hK => ?_); go_simp; first | (refine hK _ ?_; clear hK K) | (apply Exists.intro; refine ⟨fun _ => ?_, hK _ ?_⟩; (fail); clear hK K)))
              refine wpQuiet_nil ?_
              intro _ hw'
              obtain ⟨xq, hw''⟩ := hw'
              subst hw''
              have BX := Lib.hid (bel_below B12.out xq.below)
              go_wp2_with fail
              go_roundw
              case rel => go_light; exact ⟨k + 1, by omega, by go_num, BX.out⟩
              case measure => go_light; simp [intOf]; omega
            · obtain rfl : k = nl := by omega
              have hkI2 : ¬ (k : Int) < (k : Int) := by omega
              go_wp2_with fail
              refine (awake21_any _).mono ?_
              rintro e wz ⟨rfl, hbz⟩
              have BZ := Lib.hid (bel_below (bel_below B10.out hB.out) hbz)
              clear hbz
              go_wp2_with fail
              go_ret
              exact ⟨rfl, BZ.out⟩
    · have hE : IsErr w6.heap.size w7 v7 (joinC f an ai 0) := by
        rcases hv7 with ⟨h, _⟩ | ⟨_, h⟩
        · exact absurd h hc
        · exact h
      obtain ⟨bE, rfl, _⟩ := hE
      clear hv7 hg7 hk7 HG7 CJ AV6 IV6 S6 hold
      go_wp2_with fail
      refine (awake21_any _).mono ?_
      rintro e wz ⟨rfl, hbz⟩
      have BZ := Lib.hid (bel_below (B7.out) hbz)
      clear hbz
      go_wp2_with fail
      go_ret
      exact ⟨rfl, BZ.out⟩
set_option maxRecDepth 100000 in
theorem rdvFew_walk {H : Type} (enc : TypeId × Value → H) (W : World) (v0 : Value) (d0 : DataW H) (p0 : List MemPlace) {r0 : Reach} {b0 : Nat} (ok0 : Value.okWide Tryz.prog W r0 b0 23 v0) (h0 : DataW.Trod enc Tryz.prog W 0 (fun _ => true) true 23 v0 d0 p0)
    (hlt0 : ∀ x ∈ p0, x.block < W.heap.size) (sz0 : ∀ n ∈ d0.weights Tryz.prog 23, n ≤ reachBytes) (v1 : Value) (d1 : DataW H) (p1 : List MemPlace) {r1 : Reach} {b1 : Nat} (ok1 : Value.okWide Tryz.prog W r1 b1 24 v1) (h1 : DataW.Trod enc Tryz.prog W 0 (fun _ => true) true 24 v1 d1 p1)
    (hlt1 : ∀ x ∈ p1, x.block < W.heap.size) (sz1 : ∀ n ∈ d1.weights Tryz.prog 24, n ≤ reachBytes) (hg : HandleAt W) :
    Calls Tryz.prog 4 #[v0, v1] W fun e W' => e = .returned (.bool true) ∧ RowKit.Below W.heap.size W W' := by
  obtain ⟨acts, ha, hao⟩ := acts_open ok0 h0
  obtain ⟨l, hl⟩ := strs_open ok1 h1
  exact rdvFew_main W v0 v1 acts l ha hao hl
end Go.Proofs.YtahiahjhpakeiaaGreatDoor
