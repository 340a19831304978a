

/-
  WigwagRoot walked.
-/
import Derived.Test.YtekinomnjgbgmaaGreatRdvK
import Derived.Test.YtekinomnjgbgmaaGreatTreeF
import Derived.Test.YtekinomnjgbgmaaGreatTreeK
import Derived.Deep.DeepCutAuto
namespace Go.Proofs.YtekinomnjgbgmaaGreat
open Go.RowKit Go.Maps Go.Sort Go.WideShapes Go.ChangeShapes Go.Deep
set_option linter.unusedVariables false
set_option linter.unusedSimpArgs false
attribute [local go_sem] later_cell later_frozen later_lt cell_set_off cell_set_block

section
variable {P : Program} {ops : Array Oper} {md : Region.Mode} {C : World → Prop} {Q' : Exit → Act → World → Prop}
def headInvB (md : Region.Mode) (ops : Array Oper) (n : Nat) (listed : Array Bool) : Bool :=
  listed.size == ops.size && (List.range ops.size).all (fun j => match ops[j]? with
    | some oj => !listed.getD j false || oj.after.all (fun e => !Region.binds md e || listed.getD e.on false)
    | none => true) && (List.range ops.size).all (fun t => decide (t < n) || !listed.getD t true)
theorem headInv_of {n : Nat} {listed : Array Bool} (h : headInvB md ops n listed = true) : HeadInv md ops n listed := by
  unfold headInvB at h
  simp only [Bool.and_eq_true, beq_iff_eq] at h
  obtain ⟨⟨h1, h2⟩, h3⟩ := h
  refine ⟨h1, fun j oj hj hl e he hb => ?_, fun t ht hts => ?_⟩
  · have hjs : j < ops.size := (Array.getElem?_eq_some_iff.1 hj).1
    have := List.all_eq_true.1 h2 j (List.mem_range.2 hjs)
    rw [hj] at this
    simp only [hl, Bool.not_true, Bool.false_or] at this
    have h5 := Array.all_eq_true.1 this
    obtain ⟨i, hi, rfl⟩ := Array.mem_iff_getElem.1 he
    have := h5 i hi
    simpa [hb] using this
  · have := List.all_eq_true.1 h3 t (List.mem_range.2 hts)
    simpa [show ¬ t < n by omega] using this
/-- Operations that leave the very world, in the midst of a region. -/
theorem wpAnyC_mid {n f : Nat} {listed : Array Bool} {a : Act} {w : World} (ks : List Nat) (hC : C w) (hB : (Region.noSelect ops && ks.all (· < n) && decide (n < ops.size) && Region.sinkB md ops n && Region.chainB md ops n && headInvB md ops n listed && headNums md ops ks listed) = true)
    (hQ : ∀ (d : Option Tmp) v c a w, Q' (.panic c) (a.put d v) w → Q' (.panic c) a w)
    (h : wpTame P ops C (fun a' => wpAnyC P md ops C n Q' f (listAll ks listed) a' w) (headOps ops ks) a) : wpAnyC P md ops C n Q' (ks.length + f) listed a w := by
  simp only [Bool.and_eq_true, decide_eq_true_eq] at hB
  obtain ⟨⟨⟨⟨⟨⟨h1, h2⟩, h3⟩, h4⟩, h5⟩, h6⟩, h7⟩ := hB
  exact wpAnyC_heads (Lq := fun a' => wpAnyC P md ops C n Q' f (listAll ks listed) a' w) hC h1 h4 h5 h3 hQ ks listed a (fun k hk => by simpa using List.all_eq_true.1 h2 k hk) (headInv_of h6) h7 (fun a' h => h) h
end

section
variable {f : RS} {F : Int → List Int} {X : Int} (G : Good f) (hX : isPlace X)
include G hX
/-- A tree of members that live is right: no fault is found. -/
theorem check_good (w : World) (ma : Nat) (t : TS) (h : TreeAt w ma t) {ms : List Int} (T : IsTree f F X ms t) (I : TInv t) (hm : ∀ m ∈ ms, livesR f m = true) (aa ia : Option Addr) (n ac m ic : Nat) (nm : ByteArray) (hnm : nm.size ≤ 1000000) (hXn : X = keyH nm)
    (CO : ∀ wr, Below w.heap.size w wr → Calls Tryz.prog 16 #[.agg #[.slice aa n ac, .slice ia m ic], .int .u64 (keyH nm)] wr fun e w' => e = .returned (.int .i64 (own f X)) ∧ Below wr.heap.size wr w') :
    Calls Tryz.prog 18 #[.agg #[.int .i64 t.root, .map (some ma)], .agg #[.slice aa n ac, .slice ia m ic], .string nm] w (ChkPost w none) := by
  by_cases e : ms = []
  · have hr : t.root = -1 := by rw [T.root, if_pos e]
    have hu : t.ups = [] := by
      rcases hups : t.ups with _ | ⟨p, l⟩
      · rfl
      · exfalso
        have h1 : (t.up p.1).isSome = true := by
          show (upL t.ups p.1).isSome = true
          rw [hups]
          obtain ⟨k, v⟩ := p
          simp [upL]
        obtain ⟨m, h2, _⟩ := (T.ups _).1 h1
        rw [e] at h2; cases h2
    have C := check_none w ma t h aa ia n ac m ic nm hr
    rw [hu] at C
    exact C
  · have hro : t.root = own f X := by rw [T.root, if_neg e]
    have hr : t.root ≠ -1 := by rw [hro]; exact own_ne G hX
    have hu : t.up t.root = none := by
      cases hup : t.up t.root with
      | none => rfl
      | some v =>
        exfalso
        obtain ⟨m, _, _, h3⟩ := (T.ups t.root).1 (by rw [hup]; rfl)
        exact h3 hro
    refine check_deep w ma t h aa ia n ac m ic nm hnm hr (by rw [hro]; exact CO) hu none (fun _ => rfl) ?_
    rintro ⟨x, hx, hd⟩
    obtain ⟨m, h1, h2, _⟩ := (T.ups x).1 hx
    have := (depth_way G F hX T I hm ⟨m, h1, h2⟩).2
    omega
/-- All of the tree of all members is all members. -/
theorem nodes_all {t : TS} (T : IsTree f F X (liveL f) t) (I : TInv t) : nodesS t = liveL f :=
  up_uniq (nodes_up I) (liveL_up f) fun x => by
    have hm : ∀ m ∈ liveL f, livesR f m = true := fun m h => (mem_liveL G.inv.dom).1 h
    rw [nodes_mem, node_iff G F hX T hm x]
    constructor
    · rintro ⟨m, h1, h2⟩
      exact (mem_liveL G.inv.dom).2 ((way_sub G F hX (hm m h1)) x h2).1
    · exact fun h => ⟨x, h, way_first G F hX (hm x h)⟩
end

set_option maxRecDepth 100000 in
set_option maxHeartbeats 16000000 in
theorem wigwagRoot_main (W : World) (v0 : Value) (acts : List ActD) (nm : ByteArray) (ha : ActsAt acts W v0) (hao : ∀ k, k < acts.length → (actAt acts k).ok) : Calls Tryz.prog 3 #[v0, .string nm] W (OneYes W) := by
  have HA := Lib.hid ha
  have HAO := Lib.hid hao
  obtain ⟨a0, q0, rfl, _, hm1⟩ := ha.slice
  have ham : acts.length ≤ 9223372036854775807 := by unfold maxLen at hm1; omega
  clear ha hao hm1
  go_enter Tryz.func3, Tryz.ntmps3
  go_wp2_with fail
  refine (base_any _).mono ?_
  rintro e w1 ⟨v1, rfl, hs1, hB1⟩
  have CB := Lib.hid (born_any W w1 hB1 v1 ids0 (hs1.base (Nat.zero_le _)) (by unfold ids0 isPlace; simp))
  clear hs1 hB1
  go_wp2_with fail
  refine CB.out.mono ?_
  intro e w2 hq
  unfold Born at hq
  rw [show fourB ids0 = true from by unfold fourB; rw [set0]; rfl, if_pos rfl] at hq
  obtain ⟨rb, mb, rfl, hR1⟩ := hq
  have R1 := Lib.hid hR1
  clear hR1 CB
  by_cases hn : 60 < nm.size
  · have hnI : (60 : Int) < ((nm.size : Nat) : Int) := by omega
    go_wp2_with fail
    go_ret
    exact ⟨rfl, R1.out.below⟩
  · have hnI : ¬ (60 : Int) < ((nm.size : Nat) : Int) := by omega
    have hnm : nm.size ≤ 1000000 := by omega
    go_wp2_with fail
    go_loopw [7] (fun i wr => ∃ (k : Nat) (f : RS), k ≤ 25 ∧ i = .int .i64 k ∧ Hid (RingOk W.heap.size W wr rb mb f)) (fun i _ => 25 - (intOf i).toNat)
    case atStart => exact ⟨0, _, by omega, rfl, R1.out⟩
    case round =>
      clear R1
      obtain ⟨k, f, hk, rfl, hR⟩ := hrel
      by_cases hlt : k < acts.length ∧ k < 25
      · obtain ⟨hlt, hlt2⟩ := hlt
        obtain ⟨b, off, rfl, hb, c0, c1, c2, c3⟩ := HA.out.at k hlt wr hR.out.below
        have hok := HAO.out k hlt
        generalize hA : actAt acts k = A at c0 c1 c2 c3 hok
        obtain ⟨kd, an, av, ai⟩ := A
        have HOK := Lib.hid hok
        clear hA hok
        dsimp only at c0 c1 c2 c3
        have R2 := Lib.hid (hR.out.later (bel_alloc (RowKit.Below.refl _ wr) (.cells #[.int .i64 kd, .int .i64 an, .int .i64 av, .int .u64 ai] 33)))
        obtain ⟨g2, hg2⟩ := R2.out.ring
        have G2 := Lib.hid hg2
        clear hg2
        by_cases hk1 : kd = 1
        · subst hk1
          go_wp2_with fail
          refine (join_act G2.out R2.out.inv.heads _ _ _ HOK.out.n HOK.out.via HOK.out.id).mono ?_
          rintro e w5 ⟨v, rfl, _, hg5, hk5⟩
          have R5 := Lib.hid (R2.out.step (inv_joinR R2.out.inv HOK.out.id) hg5 hk5)
          clear hg5 hk5 R2 G2
          go_wp2_with fail
          go_roundw
          case rel => go_light; exact ⟨k + 1, _, by omega, by go_num, R5.out⟩
          case measure => go_light; simp [intOf]; omega
        have hb1 : (kd == 1) = false := by simpa using hk1
        clear hk1
        by_cases hk2 : kd = 2
        · subst hk2
          go_wp2_with fail
          refine (fail_act G2.out _ HOK.out.n).mono ?_
          rintro e w5 ⟨v, rfl, _, hg5, hk5⟩
          have R5 := Lib.hid (R2.out.step (inv_failR R2.out.inv _) hg5 hk5)
          clear hg5 hk5 R2 G2
          go_wp2_with fail
          go_roundw
          case rel => go_light; exact ⟨k + 1, _, by omega, by go_num, R5.out⟩
          case measure => go_light; simp [intOf]; omega
        have hb2 : (kd == 2) = false := by simpa using hk2
        clear hk2
        by_cases hk4 : kd = 4
        · subst hk4
          go_wp2_with fail
          refine (round_at G2.out R2.out.inv.heads).mono ?_
          rintro e w5 ⟨rfl, hg5, hk5⟩
          have R5 := Lib.hid (R2.out.step (inv_round R2.out.inv) ⟨_, hg5⟩ hk5)
          clear hg5 hk5 R2 G2
          go_wp2_with fail
          go_roundw
          case rel => go_light; exact ⟨k + 1, _, by omega, by go_num, R5.out⟩
          case measure => go_light; simp [intOf]; omega
        have hb4 : (kd == 4) = false := by simpa using hk4
        clear hk4
        have R5 := R2
        clear R2 G2
        go_wp2_with fail
        go_roundw
        case rel => go_light; exact ⟨k + 1, _, by omega, by go_num, R5.out⟩
        case measure => go_light; simp [intOf]; omega
      · have hcase : acts.length ≤ k ∨ k < acts.length ∧ k = 25 := by omega
        clear hlt
        go_upto_region 5 with (fail)
        go_cut [44] (fun s44 wx => s44 = .bool false ∧ Hid (RingOk W.heap.size W wx rb mb f))
        case first =>
          rcases hcase with hcase | ⟨hcase, rfl⟩
          · go_wp2_with fail
            go_meet
            case rel => exact ⟨rfl, hR⟩
          · go_wp2_with fail
            go_meet
            case rel => exact ⟨rfl, hR⟩
        case rest =>
          as_aux_lemma =>
            clear hR hcase
            obtain ⟨rfl, hR⟩ := hcut
            obtain ⟨nl, hnl⟩ : ∃ n, n = (liveL f).length := ⟨_, rfl⟩
            have hlen := length_liveL f
            rw [← hnl] at hlen
            have HN := Lib.hid hnl
            have HIN := Lib.hid hR.out.inv
            have R2 := hR
            clear hnl hR
            go_wp2_with fail
            go_loopw [9] (fun i wr => ∃ j : Nat, j ≤ 4 * nl + 8 ∧ i = .int .i64 j ∧ Hid (RingOk W.heap.size W wr rb mb (rn j f))) (fun i _ => 4 * nl + 8 - (intOf i).toNat)
            case atStart => exact ⟨0, by omega, rfl, R2.out⟩
            case round =>
              obtain ⟨j, hj, rfl, hRj⟩ := hrel
              obtain ⟨g3, G3⟩ := hRj.out.ring
              have CLV := live_at G3
              rw [liveL_rn] at CLV
              have hn2 := HN.out
              obtain ⟨L, hL⟩ : ∃ L, L = liveL f := ⟨_, rfl⟩
              rw [← hL] at CLV hn2
              have CV := Lib.hid CLV
              clear G3 CLV hL
              by_cases hlj : j < 4 * nl + 8
              · have hljI : (j : Int) < 4 * (nl : Int) + 8 := by omega
                go_wp2_with fail
                refine CV.out.mono ?_
                rintro e w4 ⟨v4, rfl, hs4, hB4⟩
                obtain ⟨a4, q4, rfl, _⟩ := hs4.slice
                have R4 := Lib.hid (hRj.out.later hB4)
                rw [← hn2]
                clear hs4 hB4 hn2
                obtain ⟨g5, G5⟩ := R4.out.ring
                have CR := Lib.hid (round_at G5 R4.out.inv.heads)
                clear G5
                go_wp2_with fail
                refine (rounds_any _ (by omega) (by omega) _).mono ?_
                rintro e w5 ⟨rfl, rfl⟩
                go_wp2_with fail
                refine CR.out.mono ?_
                rintro e w5 ⟨rfl, hg5, hk5⟩
                have R5 : Hid (RingOk W.heap.size W w5 rb mb (rn (j + 1) f)) := R4.out.step (inv_round R4.out.inv) ⟨_, hg5⟩ hk5
                clear hg5 hk5
                go_wp2_with fail
                go_roundw
                case rel => go_light; exact ⟨j + 1, by omega, by go_num, R5.out⟩
                case measure => go_light; simp [intOf]; omega
              have hljI : ¬ (j : Int) < 4 * (nl : Int) + 8 := by omega
              have GD0 : Hid (Good (rn j f)) := good_rn HIN.out (by have := HN.out; omega)
              have HLF0 : Hid (nl = (liveL (rn j f)).length) := show nl = _ by rw [liveL_rn]; exact HN.out
              have HIS0 : Hid (isB (rn j f) = true) := calmLaw f HIN.out j (by have := HN.out; omega)
              obtain ⟨f0, hf0⟩ : ∃ f0, f0 = rn j f := ⟨_, rfl⟩
              rw [← hf0] at GD0 HLF0 hRj HIS0
              clear hf0
              go_wp2_with fail
              refine CV.out.mono ?_
              rintro e w4 ⟨v4, rfl, hs4, hB4⟩
              obtain ⟨a4, q4, rfl, _⟩ := hs4.slice
              have R4 := Lib.hid (hRj.out.later hB4)
              rw [← hn2]
              clear hs4 hB4 hn2 hRj CV
              go_wp2_with fail
              refine (rounds_any _ (by omega) (by omega) _).mono ?_
              rintro e w5 ⟨rfl, rfl⟩
              go_wp2_with fail
              obtain ⟨w5, hw5⟩ : ∃ z, z = w4 := ⟨_, rfl⟩
              rw [← hw5] at R4 ⊢
              clear hw5 hljI hlj HN HIN R2
              obtain ⟨g, hG⟩ := R4.out.ring
              refine (newf_any w5 rb).mono ?_
              rintro e w6 ⟨fb, fm, rfl, hf, hb6⟩
              have G6 := Lib.hid (hG.now hb6)
              have F6 := Lib.hid hf
              have B6 := Lib.hid (bel_below R4.out.below hb6)
              have hnow : ¬ Now (fun b => W.heap.size ≤ b) w5 w6 fm := fun h => by
                have h2 := hf.fmQ
                have h3 := hf.fmz
                rcases h with ⟨_, h⟩ | h <;> omega
              have CRF := Lib.hid (roundf_at G6.out F6.out GD0.out.inv.heads hnow)
              clear hf hb6 hG
              go_wp2_with fail
              refine CRF.out.mono ?_
              rintro e w7 ⟨rfl, hf7, hk7⟩
              have G7 := Lib.hid (G6.out.off hk7 hnow)
              obtain ⟨F, hF⟩ : ∃ z, z = fixes f0 (fun _ => []) (liveL f0) := ⟨_, rfl⟩
              rw [← hF] at hf7
              have F7 := Lib.hid hf7
              have B7 : Hid (RowKit.Below W.heap.size W w7) := show RowKit.Below _ _ _ from B6.out.trans (hk7.toBelow B6.out.size (fun b hb e => by
                have := F6.out.fmQ
                have := R4.out.below.size
                omega))
              clear hf7 hk7 CRF hF F6 G6 hnow R4 B6
              have hcl : (circ f0).length ≤ 32 := by rw [circ_len]; exact length_liveL f0
              have hll := length_liveL f0
              have hl4 := live4 GD0.out.inv
              have CC := Lib.hid (of_at G7.out GD0.out.inv)
              go_wp2_with fail
              refine CC.out.mono ?_
              rintro e w8 ⟨av, iv, rfl, hav, hiv, hb8⟩
              obtain ⟨aa, ac, rfl, _⟩ := hav.slice
              obtain ⟨ia, ic, rfl, _⟩ := hiv.slice
              go_upto_region 22 with (fail)
              obtain ⟨w9, hw9⟩ : ∃ z, z = w8.alloc (.cells #[.slice aa (circ f0).length ac, .slice ia (circ f0).length ic] 42) := ⟨_, rfl⟩
              obtain ⟨Y, hY⟩ : ∃ z, z = w8.heap.size := ⟨_, rfl⟩
              have b89 : Below w8.heap.size w8 w9 := by rw [hw9]; exact bel_alloc (Below.refl _ _) _
              have y0 : w9.cell? ⟨Y, 0, none⟩ = some (.slice aa (circ f0).length ac) := by rw [hw9, hY]; simp [go_sem]
              have y1 : w9.cell? ⟨Y, 1, none⟩ = some (.slice ia (circ f0).length ic) := by rw [hw9, hY]; simp [go_sem]
              have yz : Y < w9.heap.size := by rw [hw9, hY]; simp
              have B79 := Lib.hid (bel_below hb8 b89)
              have G9 := Lib.hid (G7.out.below B79.out)
              have F9 := Lib.hid (F7.out.below B79.out)
              have B9 := Lib.hid (bel_below B7.out B79.out)
              have AV9 := Lib.hid ((hav.base (Nat.zero_le _)).below b89)
              have IV9 := Lib.hid ((hiv.base (Nat.zero_le _)).below b89)
              have CL := Lib.hid (live_at G9.out)
              rw [← hw9]
              try rw [← hY]
              clear hw9 hY b89 B79 hav hiv hb8 CC G7 F7 B7
              obtain ⟨ta, hta, IA, JA⟩ := tree_good GD0.out F (keyH_place nm) (liveL f0) (fun m h => (mem_liveL GD0.out.inv.dom).1 h)
              have hroot : ta.root = own f0 (keyH nm) := by rw [IA.root, if_neg]; intro e; rw [e] at hl4; simp at hl4
              have HNALL := Lib.hid (nodes_all GD0.out (keyH_place nm) IA JA)
              have HROOT := Lib.hid hroot
              clear hroot
              have HIA := Lib.hid IA
              have HJA := Lib.hid JA
              have HOK : Hid (∀ x ∈ liveL f0, okInt x) := fun x hx => by have := livesR_dom GD0.out.inv.dom ((mem_liveL GD0.out.inv.dom).1 hx); exact okInt_dom (by omega) (by omega)
              have CA := Lib.hid fun (wr : World) (hb : Below w9.heap.size w9 wr) (mv : Value) (hm : SlAt 0 (fun i => .int .i64 (nth (liveL f0) i)) (liveL f0).length wr mv) => (by
                have h := of_fin wr mv (liveL f0) nm (G9.out.below hb) (F9.out.below hb) GD0.out.inv hm HOK.out (by omega) hnm
                unfold OfPost at h
                rw [hta] at h
                exact h)
              go_wp2_with fail
              refine CL.out.mono ?_
              rintro e w10 ⟨v10, rfl, hs10, hb10⟩
              obtain ⟨a10, c10, rfl, _⟩ := hs10.slice
              have C10 := Lib.hid (CA.out w10 hb10 _ (hs10.base (Nat.zero_le _)))
              have y0 := (hb10.cell (p := ⟨Y, 0, none⟩) yz).trans y0
              have y1 := (hb10.cell (p := ⟨Y, 1, none⟩) yz).trans y1
              have yz := Nat.lt_of_lt_of_le yz hb10.size
              have B910 := Lib.hid hb10
              clear hs10 hb10 CL CA HOK IA JA hta
              go_wp2_with fail
              refine C10.out.mono ?_
              rintro e w11 ⟨ma, rfl, hTA, _, hb11⟩
              have y0 := (hb11.cell (p := ⟨Y, 0, none⟩) yz).trans y0
              have y1 := (hb11.cell (p := ⟨Y, 1, none⟩) yz).trans y1
              have yz := Nat.lt_of_lt_of_le yz hb11.size
              have B911 := Lib.hid (bel_below B910.out hb11)
              have T11 := Lib.hid hTA
              clear hTA hb11 C10 B910
              go_upto_region 23 with (fail)
              obtain ⟨w12, hw12⟩ : ∃ z, z = w11.alloc (.cells #[.int .i64 ta.root, .map (some ma)] 46) := ⟨_, rfl⟩
              obtain ⟨Z, hZ⟩ : ∃ z, z = w11.heap.size := ⟨_, rfl⟩
              obtain ⟨r, hr⟩ : ∃ z, z = ta.root := ⟨_, rfl⟩
              have HR := Lib.hid hr
              have b12 : Below w11.heap.size w11 w12 := by rw [hw12]; exact bel_alloc (Below.refl _ _) _
              have z0 : w12.cell? ⟨Z, 0, none⟩ = some (.int .i64 r) := by rw [hw12, hZ, hr]; simp [go_sem]
              have z1 : w12.cell? ⟨Z, 1, none⟩ = some (.map (some ma)) := by rw [hw12, hZ]; simp [go_sem]
              have zz : Z < w12.heap.size := by rw [hw12, hZ]; simp
              have y0 := (b12.cell (p := ⟨Y, 0, none⟩) yz).trans y0
              have y1 := (b12.cell (p := ⟨Y, 1, none⟩) yz).trans y1
              have yz := Nat.lt_of_lt_of_le yz b12.size
              have B12 := Lib.hid (bel_below B911.out b12)
              have T12 := Lib.hid (T11.out.below b12)
              have CKP := Lib.hid (keep_any w12 f0 GD0.out.inv _ _ (AV9.out.below B12.out) (IV9.out.below B12.out) nm hnm)
              rw [← hr] at HROOT hw12
              try rw [← hr]
              rw [← hw12]
              try rw [← hZ]
              clear hw12 hZ b12 B911 T11 hr
              go_wp2_with fail
              refine CKP.out.mono ?_
              rintro e w13 ⟨v13, rfl, hs13, hb13⟩
              obtain ⟨a13, c13, rfl, _⟩ := hs13.slice
              obtain ⟨kb, ko, rfl, _, hkz, hk0⟩ := (hs13.base (B' := 0) (Nat.zero_le _)).at 0 (by omega) w13 (Below.refl _ _)
              rw [keepK_head GD0.out.inv, ← HROOT.out, Nat.add_zero] at hk0
              have z0 := (hb13.cell (p := ⟨Z, 0, none⟩) zz).trans z0
              have z1 := (hb13.cell (p := ⟨Z, 1, none⟩) zz).trans z1
              have zz := Nat.lt_of_lt_of_le zz hb13.size
              have y0 := (hb13.cell (p := ⟨Y, 0, none⟩) yz).trans y0
              have y1 := (hb13.cell (p := ⟨Y, 1, none⟩) yz).trans y1
              have yz := Nat.lt_of_lt_of_le yz hb13.size
              have B13 := Lib.hid (bel_below B12.out hb13)
              have T13 := Lib.hid (T12.out.below hb13)
              have G13 := Lib.hid (G9.out.below B13.out)
              have AV13 := Lib.hid (AV9.out.below B13.out)
              have IV13 := Lib.hid (IV9.out.below B13.out)
              have BW := Lib.hid (bel_below B9.out B13.out)
              have CKY := Lib.hid fun wr => key_any nm wr hnm
              have CO := Lib.hid fun wr (hb : Below w13.heap.size w13 wr) => cowner_at wr (circ f0) ((circ f0).map (idR f0)) _ _ (AV13.out.below hb) (by have := IV13.out.below hb; simpa using this) (by simp) (by omega) (circ_up GD0.out.inv) (keyH nm)
              have CCK := Lib.hid fun wr (hb : Below w13.heap.size w13 wr) => check_good GD0.out (keyH_place nm) wr ma ta (T13.out.below hb) HIA.out HJA.out (fun m h => (mem_liveL GD0.out.inv.dom).1 h) aa ia (circ f0).length ac (circ f0).length ic nm hnm rfl (fun wr' hb' => CO.out wr' (bel_below hb hb'))
              have CN := Lib.hid fun wr (hb : Below w13.heap.size w13 wr) => nodes_at wr ma ta (T13.out.below hb) HJA.out
              have CLV := Lib.hid fun wr (hb : Below w13.heap.size w13 wr) => live_at (G13.out.below hb)
              rw [show cOwner (circ f0) ((circ f0).map (idR f0)) (keyH nm) = r from HROOT.out.symm] at CO
              rw [← HR.out] at CCK CN
              rw [HNALL.out] at CN
              obtain ⟨cl, hcle⟩ : ∃ z, z = (circ f0).length := ⟨_, rfl⟩
              obtain ⟨L, hL⟩ : ∃ z, z = liveL f0 := ⟨_, rfl⟩
              rw [← hcle] at CO CCK y0 y1
              rw [← hL] at CN CLV hll
              have HL := Lib.hid hll
              clear hs13 hb13 HROOT HNALL hcl hcle hL hll hl4 B12 B13 T12 T13 G9 G13 F9 B9 AV9 IV9 AV13 IV13 HIA HJA HR GD0 HLF0 HIS0 CKP
              go_wp2_with fail
              refine wp_region_heads [0, 1, 2, 3, 4, 5, 6, 7, 8, 9, 10, 11, 12, 13, 14, 15, 16, 17, 18, 19] 38 (fun w' => ∃ x : Later w13, w' = x.world) (by kernel_rfl) (by kernel_rfl) ⟨⟨{ w13 with drawn := w13.drawn + 1 }, (RowKit.Below.refl _ _).drew⟩, rfl⟩ (fun d v c a w h => by cases d <;> exact h) ?_
              simp only [headOps]
              repeat (refine wpTame_step (fun K hK => ?_); go_simp; refine hK _ ?_; clear hK K)
              refine wpTame_nil ?_
              have BD : Hid (RowKit.Below w13.heap.size w13 { w13 with drawn := w13.drawn + 1 }) := (RowKit.Below.refl _ _).drew
              refine wpAnyC_step (f := 18) [20] (by kernel_rfl) rfl rfl (fun i hi => ?_)
              simp only [List.mem_cons, List.not_mem_nil, or_false] at hi
              subst hi
              refine ⟨_, rfl, fun R hR => ?_⟩
              go_wp2_with fail
              refine (CKY.out _).mono ?_
              rintro e wa ⟨rfl, hba⟩
              have BA := Lib.hid (bel_below BD.out hba)
              clear hba BD CKY
              go_wp2_with fail
              refine hR _ _ ⟨⟨wa, (BA).out⟩, rfl⟩ ?_
              clear hR R
              refine wpAnyC_step (f := 17) [21] (by kernel_rfl) rfl rfl (fun i hi => ?_)
              simp only [List.mem_cons, List.not_mem_nil, or_false] at hi
              subst hi
              refine ⟨_, rfl, fun R hR => ?_⟩
              go_wp2_with fail
              refine (CO.out _ BA.out).mono ?_
              rintro e wb ⟨rfl, hbb⟩
              have BB := Lib.hid (bel_below BA.out hbb)
              clear hbb BA CO
              go_wp2_with fail
              refine hR _ _ ⟨⟨wb, (BB).out⟩, rfl⟩ ?_
              clear hR R
              refine wpAnyC_mid (f := 11) [22, 23, 24, 25, 26, 27] ⟨⟨wb, BB.out⟩, rfl⟩ (by kernel_rfl) (fun d v c a w h => by cases d <;> exact h) ?_
              simp only [headOps]
              repeat (refine wpTame_step (fun K hK => ?_); go_simp; refine hK _ ?_; clear hK K)
              refine wpTame_nil ?_
              refine wpAnyC_step (f := 10) [28] (by kernel_rfl) rfl rfl (fun i hi => ?_)
              simp only [List.mem_cons, List.not_mem_nil, or_false] at hi
              subst hi
              refine ⟨_, rfl, fun R hR => ?_⟩
              go_wp2_with fail
              refine (CCK.out _ BB.out).mono ?_
              rintro e wc ⟨rfl, hbc⟩
              have BC := Lib.hid (bel_below BB.out hbc)
              clear hbc BB CCK
              go_wp2_with fail
              refine hR _ _ ⟨⟨wc, (BC).out⟩, rfl⟩ ?_
              clear hR R
              refine wpAnyC_mid (f := 5) [29, 30, 31, 32, 34] ⟨⟨wc, BC.out⟩, rfl⟩ (by kernel_rfl) (fun d v c a w h => by cases d <;> exact h) ?_
              simp only [headOps]
              repeat (refine wpTame_step (fun K hK => ?_); go_simp; refine hK _ ?_; clear hK K)
              refine wpTame_nil ?_
              refine wpAnyC_step (f := 4) [33] (by kernel_rfl) rfl rfl (fun i hi => ?_)
              simp only [List.mem_cons, List.not_mem_nil, or_false] at hi
              subst hi
              refine ⟨_, rfl, fun R hR => ?_⟩
              go_wp2_with fail
              refine (CN.out _ BC.out).mono ?_
              rintro e wd ⟨vd, rfl, hsd, hbd⟩
              obtain ⟨ad, cd, rfl, _⟩ := hsd.slice
              have SD := Lib.hid (hsd.base (Nat.zero_le _))
              have BE := Lib.hid (bel_below BC.out hbd)
              clear hsd hbd BC CN
              go_wp2_with fail
              refine hR _ _ ⟨⟨wd, (BE).out⟩, rfl⟩ ?_
              clear hR R
              refine wpAnyC_step (f := 3) [35] (by kernel_rfl) rfl rfl (fun i hi => ?_)
              simp only [List.mem_cons, List.not_mem_nil, or_false] at hi
              subst hi
              refine ⟨_, rfl, fun R hR => ?_⟩
              go_wp2_with fail
              refine (CLV.out _ BE.out).mono ?_
              rintro e wf ⟨vf, rfl, hsf, hbf⟩
              obtain ⟨af, cf, rfl, _⟩ := hsf.slice
              have CI := Lib.hid (rints_any wf _ _ L L (SD.out.below hbf) (hsf.base (Nat.zero_le _)) (by have := HL.out; omega))
              rw [sameI_all (a := L) (b := L) rfl (fun _ _ => rfl)] at CI
              have BF := Lib.hid (bel_below BE.out hbf)
              clear hsf hbf BE SD CLV
              go_wp2_with fail
              refine hR _ _ ⟨⟨wf, (BF).out⟩, rfl⟩ ?_
              clear hR R
              refine wpAnyC_step (f := 2) [36] (by kernel_rfl) rfl rfl (fun i hi => ?_)
              simp only [List.mem_cons, List.not_mem_nil, or_false] at hi
              subst hi
              refine ⟨_, rfl, fun R hR => ?_⟩
              go_wp2_with fail
              refine CI.out.mono ?_
              rintro e wg ⟨rfl, hbg⟩
              have BG := Lib.hid (bel_below BF.out hbg)
              clear hbg BF CI
              go_wp2_with fail
              refine hR _ _ ⟨⟨wg, (BG).out⟩, rfl⟩ ?_
              clear hR R
              refine wpAnyC_mid (f := 1) [37] ⟨⟨wg, BG.out⟩, rfl⟩ (by kernel_rfl) (fun d v c a w h => by cases d <;> exact h) ?_
              simp only [headOps]
              repeat (refine wpTame_step (fun K hK => ?_); go_simp; refine hK _ ?_; clear hK K)
              refine wpTame_nil ?_
              refine wpAnyC_end (k := 38) (by decide) rfl rfl (by kernel_rfl) ?_
              go_wp2_with fail
              go_ret
              exact ⟨rfl, bel_below BW.out BG.out⟩
end Go.Proofs.YtekinomnjgbgmaaGreat
