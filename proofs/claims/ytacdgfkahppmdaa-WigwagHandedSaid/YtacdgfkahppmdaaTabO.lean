


/-
  TableMoves walked.
-/
import Derived.Test.YtacdgfkahppmdaaTabR
namespace Go.Proofs.Ytacdgfkahppmdaa
open Go.RowKit Go.Maps Go.Sort Go.WideShapes Go.ChangeShapes Go.Deep
set_option linter.unusedVariables false
set_option linter.unusedSimpArgs false
attribute [local go_sem] later_cell later_frozen later_lt cell_set_off cell_set_block keptT_cell keptT_lt

def PK (l : List Ent) (k : Nat) : List Ent := putsE [] ((l.take k).map cutE)
theorem stay_stay (p : Ent → Bool) (L : List Ent) : stayE p (stayE p L) = stayE p L := by unfold stayE; rw [List.filter_filter]; congr 1; funext e; simp
theorem stay_none (p : Ent → Bool) (L : List Ent) : (stayE p L).filter p = [] := by
  rw [List.filter_eq_nil_iff]
  intro e he
  have := (List.mem_filter.1 he).2
  simpa using this
theorem back_all {L : List Ent} (hL : OrdE L) (hc : ∀ e ∈ L, cleanE e = e) (p : Ent → Bool) : putsE (stayE p L) (L.filter p) = L := by
  unfold stayE
  rw [put_back hL hc]
  exact filter_all fun e _ => by cases p e <;> rfl
theorem fam_two {D : Nat → Prop} {W w : World} {X k : Nat} {l L : List Ent} (h : Fam D W w X [PK l k, PK l k]) (e : PK l k = putsE [] (cutL l)) (hL : L = putsE [] (cutL l)) : Fam D W w X [L, L] := by
  rw [hL, ← e]; exact h
theorem fam_back {D : Nat → Prop} {W w : World} {X : Nat} {S0 M L : List Ent} (h : Fam D W w X [putsE S0 (M.take M.length), L]) (e : putsE S0 M = L) : Fam D W w X [L, L] := by
  rw [List.take_length, e] at h; exact h
theorem moved_pack {D Q : Nat → Prop} {W w : World} {X : Nat} {ls : List (List Ent)} {M : List Ent} {v : Value} (h : Fam (fun b => D b ∨ Q b) W w X ls) (hE : EntsIn Q M w v) : ∃ D2, Fam D2 W w X ls ∧ EntsIn D2 M w v :=
  ⟨_, h, hE.imp (fun b _ h => Or.inr h) (Nat.le_refl _) fun _ _ _ => rfl⟩
theorem groupsE_len (l : List Ent) : (groupsE l).length ≤ l.length := by
  unfold groupsE Lib.compact Lib.compactUpTo
  rw [List.length_map]
  exact Nat.le_trans (List.length_filter_le _ _) (by simp)
set_option maxRecDepth 100000 in
set_option maxHeartbeats 16000000 in
theorem tableMoves_main (W : World) (v : Value) (l : List Ent) (hE : EntsIn (fun _ => True) l W v) (a b : Int) (ha : isPlace a) (hb : isPlace b) :
    Calls Try.prog 5 #[v, .int .u64 a, .int .u64 b] W fun e W' => e = .returned (.bool true) ∧ Below W.heap.size W W' := by
  obtain ⟨a0, c0, rfl, _⟩ := hE.slice
  have HE := Lib.hid hE
  clear hE
  obtain ⟨D, hD⟩ : ∃ D : Nat → Prop, D = fun _ => False := ⟨_, rfl⟩
  go_enter Try.func5, Try.ntmps5
  go_wp2_with fail
  obtain ⟨w2, hw2⟩ : ∃ z, z = (W.alloc (.cells #[.slice none 0 0] 24)).alloc (.cells #[.slice none 0 0] 24) := ⟨_, rfl⟩
  obtain ⟨X, hX⟩ : ∃ z, z = W.heap.size := ⟨_, rfl⟩
  have es : (W.alloc (.cells #[.slice none 0 0] 24)).heap.size = W.heap.size + 1 := by simp
  have F0 : Hid (Fam D W w2 X [PK l 0, PK l 0]) := show Fam _ _ _ _ _ by
    rw [hw2, hX, hD]
    exact ((Fam.nil W W.heap.size).snoc (by simp)).snoc (by simp)
  rw [← hw2]
  try rw [es]
  try rw [← hX]
  clear hw2 hX es
  go_loopw [9] (fun i wr => ∃ k : Nat, k ≤ l.length ∧ k ≤ 30 ∧ i = .int .i64 k ∧ Hid (Fam D W wr X [PK l k, PK l k])) (fun i _ => l.length - (intOf i).toNat)
  case atStart => exact ⟨0, Nat.zero_le _, Nat.zero_le _, rfl, F0.out⟩
  case round =>
    obtain ⟨k, hk, hk30, rfl, hF⟩ := hrel
    by_cases hlt : k < l.length
    · by_cases hl30 : k < 30
      · obtain ⟨b, off, fa1, fc1, rfl, _, hbz, d0, d1, d2, d3, d4, dS⟩ := (HE.out.below hF.out.bel).at k hlt
        have hsu := puts_step l hlt
        have hroom := puts_room l (k := k) (by omega) (entAt l k)
        obtain ⟨E, hEe⟩ : ∃ z, z = entAt l k := ⟨_, rfl⟩
        have HEe := Lib.hid hEe
        rw [← hEe] at d0 d1 d2 d3 d4 dS hsu hroom
        obtain ⟨eg', ec, efs, ea, et⟩ := E
        dsimp only at d0 d1 d2 d3 d4 dS
        have DS1 := Lib.hid dS.slAt
        have HSU : Hid (PK l (k + 1) = putE (PK l k) (cleanE (cutE ⟨eg', ec, efs, ea, et⟩))) := hsu
        have HRM : Hid (fullB (PK l k) (cutE ⟨eg', ec, efs, ea, et⟩) = false) := hroom
        clear hEe dS hsu hroom
        have F1 := hF
        go_wp2_with fail
        refine (cut_any _ ⟨eg', ec, efs, ea, et⟩ (.slice fa1 efs.length fc1) DS1.out).mono ?_
        rintro e wc1 ⟨vc1, rfl, hsc1, hbc1⟩
        have FC1 := Lib.hid ((F1.out.later hbc1).less (D' := D) fun b hb => Or.inl hb)
        have SC1 := Lib.hid hsc1
        obtain ⟨fx1, qx1, rfl, _⟩ := hsc1.slice
        have CP1 := Lib.hid (FC1.out.put (i := 0) rfl (cutE ⟨eg', ec, efs, ea, et⟩) _ (SC1.out.base (Nat.zero_le _)) (Nat.le_trans (cutE_len _) (by omega)) HRM.out)
        obtain ⟨x5, hx5⟩ : ∃ z, z = cutE ⟨eg', ec, efs, ea, et⟩ := ⟨_, rfl⟩
        rw [← hx5] at CP1 HSU HRM ⊢
        have HX5 := Lib.hid hx5
        obtain ⟨g5, c5, fs5, any5, t5⟩ := x5
        rw [← HSU.out] at CP1
        unfold EntV at CP1 ⊢
        dsimp only at CP1 ⊢
        rw [show sV g5 = .string (bs g5) from rfl] at CP1 ⊢
        rw [HX5.out] at HSU HRM
        clear hsc1 hbc1 hx5 F1
        clear d0 d1 d2 d3 d4
        go_wp2_with fail
        refine CP1.out.mono ?_
        rintro e w6 ⟨rfl, hF6, _⟩
        have F2 := Lib.hid hF6
        obtain ⟨b', off', fa2, fc2, e2, _, hbz2, d0, d1, d2, d3, d4, dS⟩ := (HE.out.below hF6.bel).at k hlt
        cases e2
        rw [← HEe.out] at d0 d1 d2 d3 d4 dS
        dsimp only at d0 d1 d2 d3 d4 dS
        have DS2 := Lib.hid dS.slAt
        clear hF6 CP1 FC1 SC1 dS HX5
        go_wp2_with fail
        refine (cut_any _ ⟨eg', ec, efs, ea, et⟩ (.slice fa2 efs.length fc2) DS2.out).mono ?_
        rintro e wc2 ⟨vc2, rfl, hsc2, hbc2⟩
        have FC2 := Lib.hid ((F2.out.later hbc2).less (D' := D) fun b hb => Or.inl hb)
        have SC2 := Lib.hid hsc2
        obtain ⟨fx2, qx2, rfl, _⟩ := hsc2.slice
        have CP2 := Lib.hid (FC2.out.put (i := 1) rfl (cutE ⟨eg', ec, efs, ea, et⟩) _ (SC2.out.base (Nat.zero_le _)) (Nat.le_trans (cutE_len _) (by omega)) HRM.out)
        obtain ⟨x5, hx5⟩ : ∃ z, z = cutE ⟨eg', ec, efs, ea, et⟩ := ⟨_, rfl⟩
        rw [← hx5] at CP2 HSU HRM ⊢
        have HX5 := Lib.hid hx5
        obtain ⟨g5, c5, fs5, any5, t5⟩ := x5
        rw [← HSU.out] at CP2
        unfold EntV at CP2 ⊢
        dsimp only at CP2 ⊢
        rw [show sV g5 = .string (bs g5) from rfl] at CP2 ⊢
        rw [HX5.out] at HSU HRM
        clear hsc2 hbc2 hx5 F2
        clear d0 d1 d2 d3 d4
        go_wp2_with fail
        refine CP2.out.mono ?_
        rintro e w8 ⟨rfl, hF8, _⟩
        have F8 : Hid (Fam D W w8 X [PK l (k + 1), PK l (k + 1)]) := hF8
        clear hF8 CP2 FC2 SC2
        go_wp2_with fail
        go_roundw
        case rel => go_light; exact ⟨k + 1, by omega, by omega, by go_num, F8.out⟩
        case measure => go_light; simp [intOf]; omega
      · have hend : Hid (PK l k = putsE [] (cutL l)) := show _ = _ by unfold PK cutL; rw [show k = 30 by omega]
        obtain ⟨L, hL⟩ : ∃ z, z = putsE [] (cutL l) := ⟨_, rfl⟩
        have F1 := Lib.hid (fam_two hF.out hend.out hL)
        have HSM : Hid (∀ e ∈ L, e.g.length ≤ 1000000) := fun e he => by rw [hL] at he; have := cut_mem he; omega
        have HCL : Hid (∀ e ∈ L, cleanE e = e) := fun e he => by rw [hL] at he; exact cut_clean he
        have HOR : Hid (OrdE L) := by rw [hL]; exact cut_ord l
        have hfew : L.length ≤ 30 := by rw [hL]; exact cut_few l
        clear hL hend hF
        have CL := Lib.hid (F1.out.len (i := 0) rfl)
        go_wp2_with fail
        refine CL.out.mono ?_
        rintro e w3 ⟨rfl, rfl⟩
        clear CL
        obtain ⟨p, hp⟩ : ∃ z, z = inE a b := ⟨_, rfl⟩
        have CM := F1.out.move (i := 0) rfl HSM.out a b
        have HM : Hid ((L.filter p).map cleanE = L.filter p) := map_clean HCL.out p
        rw [← hp, HM.out] at CM
        have hpl := part_len p L
        have HBA : Hid (putsE (stayE p L) (L.filter p) = L) := back_all HOR.out HCL.out p
        have HMC : Hid (∀ e ∈ L.filter p, e.fs.length ≤ 16) := fun e he => few_fs (HCL.out e (List.mem_filter.1 he).1)
        obtain ⟨M, hM⟩ : ∃ z, z = L.filter p := ⟨_, rfl⟩
        rw [← hM] at CM hpl HBA HMC
        have HSS : Hid ((stayE p (stayE p L)) = stayE p L) := stay_stay p L
        have HSN : Hid ((stayE p L).filter p = []) := stay_none p L
        have HSM2 : Hid (∀ e ∈ stayE p L, e.g.length ≤ 1000000) := fun e he => HSM.out e (List.mem_filter.1 he).1
        obtain ⟨S0, hS0⟩ : ∃ z, z = stayE p L := ⟨_, rfl⟩
        rw [← hS0] at CM hpl HBA HSS HSN HSM2
        clear HM hM hS0
        go_wp2_with fail
        refine CM.mono ?_
        rintro e w4 ⟨v4, rfl, hE4, hF4, _⟩
        obtain ⟨a4, c4, rfl, _⟩ := hE4.slice
        obtain ⟨D2, hF4', hE4'⟩ := moved_pack hF4 hE4
        have F4 : Hid (Fam D2 W w4 X [S0, L]) := hF4'
        have E4 := Lib.hid hE4'
        clear hF4' hE4'
        have CL := Lib.hid (F4.out.len (i := 0) rfl)
        clear CM hE4 hF4 F1
        go_wp2_with fail
        refine CL.out.mono ?_
        rintro e w5 ⟨rfl, rfl⟩
        have hsum : (((S0.length : Int) + (M.length : Int)) != (L.length : Int)) = false := by rw [bne_eq_false_iff_eq]; omega
        have CM := F4.out.move (i := 0) rfl HSM2.out a b
        rw [← hp, HSS.out, HSN.out] at CM
        clear CL
        go_wp2_with fail
        refine CM.mono ?_
        rintro e w6 ⟨v6, rfl, hE6, hF6, hk6⟩
        obtain ⟨a6, c6, rfl, _⟩ := hE6.slice
        have F6 : Hid (Fam D2 W w6 X [S0, L]) := Fam.less hF6 fun b hb => Or.inl hb
        have E6 : Hid (EntsIn D2 M w6 (.slice a4 M.length c4)) := E4.out.imp (fun b _ h => h) hk6.size fun b hb h => hk6.block b hb fun hn => hn h
        clear CM hE6 hF6 hk6 E4 F4
        go_wp2_with fail
        go_loopw [69] (fun jj wj => ∃ j : Nat, j ≤ M.length ∧ jj = .int .i64 j ∧ Hid (Fam D2 W wj X [putsE S0 (M.take j), L]) ∧ Hid (EntsIn D2 M wj (.slice a4 M.length c4))) (fun jj _ => M.length - (intOf jj).toNat)
        case atStart => exact ⟨0, Nat.zero_le _, rfl, F6.out, E6.out⟩
        case round =>
          obtain ⟨j, hj, rfl, hFj, hEj⟩ := hrel
          by_cases hltj : j < M.length
          · obtain ⟨b3, off3, fa3, fc3, e3, hD3, hbz3, d0, d1, d2, d3, d4, dS⟩ := EntsIn.at hEj.out j hltj
            cases e3
            have hsu : putsE S0 (M.take (j + 1)) = putE (putsE S0 (M.take j)) (cleanE (entAt M j)) := by
              rw [List.take_succ_eq_append_getElem hltj, entAt_eq hltj]; exact putsE_snoc _ _ _
            have hfs := HMC.out (entAt M j) (by rw [entAt_eq hltj]; exact List.getElem_mem hltj)
            have hroom : fullB (putsE S0 (M.take j)) (entAt M j) = false := by
              have h1 := len_putsE S0 (M.take j)
              have h2 : (M.take j).length ≤ j := by simp; omega
              unfold fullB
              rw [show decide (400 ≤ (putsE S0 (M.take j)).length) = false from decide_eq_false (by omega)]; simp
            obtain ⟨E, hEe⟩ : ∃ z, z = entAt M j := ⟨_, rfl⟩
            rw [← hEe] at d0 d1 d2 d3 d4 dS hsu hroom hfs
            obtain ⟨eg', ec, efs, ea, et⟩ := E
            dsimp only at d0 d1 d2 d3 d4 dS hfs
            have FB := (hFj.out.later (bel_alloc (RowKit.Below.refl _ _) (.cells #[.string (bs eg'), .int .i64 ec, .slice fa3 efs.length fc3, .bool ea, .int .i64 et] 30))).less (D' := D2) fun b hb => Or.inl hb
            have DS : SlS 0 efs _ (.slice fa3 efs.length fc3) := (dS.slAt).below (bel_alloc (RowKit.Below.refl _ _) (.cells #[.string (bs eg'), .int .i64 ec, .slice fa3 efs.length fc3, .bool ea, .int .i64 et] 30))
            have CP := FB.put (i := 0) rfl ⟨eg', ec, efs, ea, et⟩ _ DS (show efs.length ≤ _ by omega) hroom
            unfold EntV at CP
            dsimp only at CP
            rw [← hsu, show sV eg' = .string (bs eg') from rfl] at CP
            have EB := Lib.hid (hEj.out.below (bel_alloc (RowKit.Below.refl _ _) (.cells #[.string (bs eg'), .int .i64 ec, .slice fa3 efs.length fc3, .bool ea, .int .i64 et] 30)))
            clear hEe dS hsu hroom DS FB hFj hEj hfs
            go_wp2_with fail
            refine CP.mono ?_
            rintro e w8 ⟨rfl, hF8, hk8⟩
            have F8 : Hid (Fam D2 W w8 X [putsE S0 (M.take (j + 1)), L]) := hF8
            have E8 := Lib.hid (EB.out.imp (fun b _ h => h) hk8.size fun b hb h => hk8.block b hb fun hn => hn h)
            clear hF8 hk8 CP EB d0 d1 d2 d3 d4
            go_wp2_with fail
            go_roundw
            case rel => go_light; exact ⟨j + 1, by omega, by go_num, F8.out, E8.out⟩
            case measure => go_light; simp [intOf]; omega
          · obtain rfl : j = M.length := by omega
            have F7 : Hid (Fam D2 W _ X [L, L]) := fam_back hFj.out HBA.out
            clear hFj hEj
            have CG := Lib.hid (F7.out.groups (i := 0) rfl)
            go_wp2_with fail
            refine CG.out.mono ?_
            rintro e w8 ⟨v8, rfl, hS8, hb8⟩
            have F8 := Lib.hid (F7.out.later hb8)
            have S8 := Lib.hid hS8
            obtain ⟨a8, c8, rfl, _⟩ := hS8.slice
            have CG2 := Lib.hid (F8.out.groups (i := 1) rfl)
            clear hS8 CG hb8
            go_wp2_with fail
            refine CG2.out.mono ?_
            rintro e w9 ⟨v9, rfl, hS9, hb9⟩
            have F9 := Lib.hid (F8.out.later hb9)
            have S9 := Lib.hid hS9
            have S89 := Lib.hid (SlAt.below S8.out hb9)
            obtain ⟨a9, c9, rfl, _⟩ := hS9.slice
            have CLa := Lib.hid (F9.out.len (i := 0) rfl)
            have CLb := Lib.hid (F9.out.len (i := 1) rfl)
            have hnn : ((L.length : Int) != (L.length : Int)) = false := by simp
            obtain ⟨G, hG⟩ : ∃ z, z = groupsE L := ⟨_, rfl⟩
            have hgl : G.length ≤ 30 := by rw [hG]; exact Nat.le_trans (groupsE_len L) hfew
            rw [← hG] at S9 S89 ⊢
            have hgg : ((G.length : Int) != (G.length : Int)) = false := by simp
            clear hS9 CG2 hb9 hG S8 F8
            go_wp2_with fail
            refine CLa.out.mono ?_
            rintro e w10 ⟨rfl, rfl⟩
            go_wp2_with fail
            refine CLb.out.mono ?_
            rintro e w11 ⟨rfl, rfl⟩
            clear CLa CLb
            go_wp2_with fail
            go_loopw [91] (fun ii wi => ∃ i : Nat, i ≤ G.length ∧ ii = .int .i64 i ∧ Hid (∃ y : Later w9, wi = y.world)) (fun ii _ => G.length - (intOf ii).toNat)
            case atStart => exact ⟨0, Nat.zero_le _, rfl, ⟨_, Below.refl _ _⟩, rfl⟩
            case round =>
              obtain ⟨i, hi, rfl, hy⟩ := hrel
              obtain ⟨y, rfl⟩ := hy
              by_cases hlti : i < G.length
              · obtain ⟨b1, off1, ea1, _, hbz1, d1⟩ := SlAt.at S89.out i hlti _ y.below
                obtain ⟨b2, off2, ea2, _, hbz2, d2⟩ := SlAt.at S9.out i hlti _ y.below
                cases ea1
                cases ea2
                obtain ⟨g, hg⟩ : ∃ z, z = nthT G i := ⟨_, rfl⟩
                have d1' : y.world.cell? ⟨b1, off1 + i, none⟩ = some (.string (bs g)) := by rw [hg]; exact d1
                have d2' : y.world.cell? ⟨b2, off2 + i, none⟩ = some (.string (bs g)) := by rw [hg]; exact d2
                have hgb : (!((bs g).toList == (bs g).toList)) = false := by simp
                have CKa : Hid (∀ x : Later y.world, Calls Try.prog 11 #[.pointer (some ⟨X, 0, none⟩), .string (bs g)] x.world (NewEnts x.world (kidsE L g))) := fun x => ((F9.out.later y.below).later x.below).kids (i := 0) rfl g
                have CKb : Hid (∀ x : Later y.world, Calls Try.prog 11 #[.pointer (some ⟨X + 1, 0, none⟩), .string (bs g)] x.world (NewEnts x.world (kidsE L g))) := fun x => ((F9.out.later y.below).later x.below).kids (i := 1) rfl g
                obtain ⟨KI, hKI⟩ : ∃ z, z = kidsE L g := ⟨_, rfl⟩
                have hKl : KI.length ≤ 30 := by rw [hKI]; unfold kidsE; rw [List.length_map]; exact Nat.le_trans (List.length_filter_le _ _) hfew
                rw [← hKI] at CKa CKb
                have hkk : ((KI.length : Int) != (KI.length : Int)) = false := by simp
                clear d1 d2 hg hKI
                go_wp2_with fail
                refine wp_region_heads [0, 1, 2, 3, 5, 6, 7, 8] 11 (fun w' => ∃ x : Later y.world, w' = x.world) (by kernel_rfl) (by kernel_rfl) ⟨⟨{ y.world with drawn := y.world.drawn + 1 }, (RowKit.Below.refl _ _).drew⟩, rfl⟩ ?_ ?_
                · intro d v c a w h
                  cases d <;> exact h
                simp only [headOps]
                repeat (refine wpTame_step (fun K hK => ?_); go_simp; refine hK _ ?_; clear hK K)
                refine wpTame_nil ?_
                have BD : Hid (RowKit.Below y.world.heap.size y.world { y.world with drawn := y.world.drawn + 1 }) := (RowKit.Below.refl _ _).drew
                refine wpAnyC_step (f := 3) [4] (by kernel_rfl) rfl rfl (fun i hi => ?_)
                simp only [List.mem_cons, List.not_mem_nil, or_false] at hi
                subst hi
                refine ⟨_, rfl, fun R hR => ?_⟩
                go_wp2_with fail
                refine (CKa.out ⟨_, BD.out⟩).mono ?_
                rintro e wc ⟨vc, rfl, hEc, hbc⟩
                obtain ⟨ac, cc, rfl, _⟩ := hEc.slice
                have BC := Lib.hid (bel_below BD.out hbc)
                clear hEc hbc
                go_wp2_with fail
                refine hR _ _ ⟨⟨_, BC.out⟩, rfl⟩ ?_
                clear hR R
                refine wpAnyC_step (f := 2) [9] (by kernel_rfl) rfl rfl (fun i hi => ?_)
                simp only [List.mem_cons, List.not_mem_nil, or_false] at hi
                subst hi
                refine ⟨_, rfl, fun R hR => ?_⟩
                go_wp2_with fail
                refine (CKb.out ⟨_, BC.out⟩).mono ?_
                rintro e wd ⟨vd, rfl, hEd, hbd⟩
                obtain ⟨ad, cd, rfl, _⟩ := hEd.slice
                have BE := Lib.hid (bel_below BC.out hbd)
                clear hEd hbd BC
                go_wp2_with fail
                refine hR _ _ ⟨⟨_, BE.out⟩, rfl⟩ ?_
                clear hR R
                refine wpAnyC_step (f := 1) [10] (by kernel_rfl) rfl rfl (fun i hi => ?_)
                simp only [List.mem_cons, List.not_mem_nil, or_false] at hi
                subst hi
                refine ⟨_, rfl, fun R hR => ?_⟩
                go_wp2_with fail
                refine hR _ _ ⟨⟨_, BE.out⟩, rfl⟩ ?_
                clear hR R
                refine wpAnyC_end (k := 11) (by decide) rfl rfl (by kernel_rfl) ?_
                go_wp2_with fail
                have e1 := BE.out.cell (p := ⟨b1, off1 + i, none⟩) hbz1
                have e2 := BE.out.cell (p := ⟨b2, off2 + i, none⟩) hbz2
                rw [d1'] at e1
                rw [d2'] at e2
                have hz1 : b1 < wd.heap.size := Nat.lt_of_lt_of_le hbz1 BE.out.size
                have hz2 : b2 < wd.heap.size := Nat.lt_of_lt_of_le hbz2 BE.out.size
                refine wp_region_calm (by kernel_rfl) (by kernel_rfl) ?_
                repeat (first | (go_big_quiet_step ((fail))) | (refine wpQuiet_step (fun K hK => ?_); go_simp; first | (refine hK _ ?_; clear hK K) | (apply Exists.intro; refine ⟨fun _ => ?_, hK _ ?_⟩; (fail); clear hK K)))
                refine wpQuiet_nil ?_
                intro _ hw'
                obtain ⟨xq, hw''⟩ := hw'
                subst hw''
                have BF := Lib.hid (bel_below BE.out xq.below)
                clear e1 e2 d1' d2'
                go_wp2_with fail
                go_roundw
                case rel => go_light; exact ⟨i + 1, by omega, by go_num, ⟨_, bel_below y.below BF.out⟩, rfl⟩
                case measure => go_light; simp [intOf]; omega
              · obtain rfl : i = G.length := by omega
                go_wp2_with fail
                refine (awake13_any _).mono ?_
                rintro e w12 ⟨rfl, hb12⟩
                have B12 := Lib.hid (bel_below (bel_below F9.out.bel y.below) hb12)
                clear hb12
                go_wp2_with fail
                go_ret
                exact ⟨rfl, B12.out⟩
    · have hend : Hid (PK l k = putsE [] (cutL l)) := show _ = _ by unfold PK cutL; rw [List.take_of_length_le (by omega : l.length ≤ k), List.take_of_length_le (by omega : l.length ≤ 30)]
      obtain ⟨L, hL⟩ : ∃ z, z = putsE [] (cutL l) := ⟨_, rfl⟩
      have F1 := Lib.hid (fam_two hF.out hend.out hL)
      have HSM : Hid (∀ e ∈ L, e.g.length ≤ 1000000) := fun e he => by rw [hL] at he; have := cut_mem he; omega
      have HCL : Hid (∀ e ∈ L, cleanE e = e) := fun e he => by rw [hL] at he; exact cut_clean he
      have HOR : Hid (OrdE L) := by rw [hL]; exact cut_ord l
      have hfew : L.length ≤ 30 := by rw [hL]; exact cut_few l
      clear hL hend hF
      have CL := Lib.hid (F1.out.len (i := 0) rfl)
      go_wp2_with fail
      refine CL.out.mono ?_
      rintro e w3 ⟨rfl, rfl⟩
      clear CL
      obtain ⟨p, hp⟩ : ∃ z, z = inE a b := ⟨_, rfl⟩
      have CM := F1.out.move (i := 0) rfl HSM.out a b
      have HM : Hid ((L.filter p).map cleanE = L.filter p) := map_clean HCL.out p
      rw [← hp, HM.out] at CM
      have hpl := part_len p L
      have HBA : Hid (putsE (stayE p L) (L.filter p) = L) := back_all HOR.out HCL.out p
      have HMC : Hid (∀ e ∈ L.filter p, e.fs.length ≤ 16) := fun e he => few_fs (HCL.out e (List.mem_filter.1 he).1)
      obtain ⟨M, hM⟩ : ∃ z, z = L.filter p := ⟨_, rfl⟩
      rw [← hM] at CM hpl HBA HMC
      have HSS : Hid ((stayE p (stayE p L)) = stayE p L) := stay_stay p L
      have HSN : Hid ((stayE p L).filter p = []) := stay_none p L
      have HSM2 : Hid (∀ e ∈ stayE p L, e.g.length ≤ 1000000) := fun e he => HSM.out e (List.mem_filter.1 he).1
      obtain ⟨S0, hS0⟩ : ∃ z, z = stayE p L := ⟨_, rfl⟩
      rw [← hS0] at CM hpl HBA HSS HSN HSM2
      clear HM hM hS0
      go_wp2_with fail
      refine CM.mono ?_
      rintro e w4 ⟨v4, rfl, hE4, hF4, _⟩
      obtain ⟨a4, c4, rfl, _⟩ := hE4.slice
      obtain ⟨D2, hF4', hE4'⟩ := moved_pack hF4 hE4
      have F4 : Hid (Fam D2 W w4 X [S0, L]) := hF4'
      have E4 := Lib.hid hE4'
      clear hF4' hE4'
      have CL := Lib.hid (F4.out.len (i := 0) rfl)
      clear CM hE4 hF4 F1
      go_wp2_with fail
      refine CL.out.mono ?_
      rintro e w5 ⟨rfl, rfl⟩
      have hsum : (((S0.length : Int) + (M.length : Int)) != (L.length : Int)) = false := by rw [bne_eq_false_iff_eq]; omega
      have CM := F4.out.move (i := 0) rfl HSM2.out a b
      rw [← hp, HSS.out, HSN.out] at CM
      clear CL
      go_wp2_with fail
      refine CM.mono ?_
      rintro e w6 ⟨v6, rfl, hE6, hF6, hk6⟩
      obtain ⟨a6, c6, rfl, _⟩ := hE6.slice
      have F6 : Hid (Fam D2 W w6 X [S0, L]) := Fam.less hF6 fun b hb => Or.inl hb
      have E6 : Hid (EntsIn D2 M w6 (.slice a4 M.length c4)) := E4.out.imp (fun b _ h => h) hk6.size fun b hb h => hk6.block b hb fun hn => hn h
      clear CM hE6 hF6 hk6 E4 F4
      go_wp2_with fail
      go_loopw [69] (fun jj wj => ∃ j : Nat, j ≤ M.length ∧ jj = .int .i64 j ∧ Hid (Fam D2 W wj X [putsE S0 (M.take j), L]) ∧ Hid (EntsIn D2 M wj (.slice a4 M.length c4))) (fun jj _ => M.length - (intOf jj).toNat)
      case atStart => exact ⟨0, Nat.zero_le _, rfl, F6.out, E6.out⟩
      case round =>
        obtain ⟨j, hj, rfl, hFj, hEj⟩ := hrel
        by_cases hltj : j < M.length
        · obtain ⟨b3, off3, fa3, fc3, e3, hD3, hbz3, d0, d1, d2, d3, d4, dS⟩ := EntsIn.at hEj.out j hltj
          cases e3
          have hsu : putsE S0 (M.take (j + 1)) = putE (putsE S0 (M.take j)) (cleanE (entAt M j)) := by
            rw [List.take_succ_eq_append_getElem hltj, entAt_eq hltj]; exact putsE_snoc _ _ _
          have hfs := HMC.out (entAt M j) (by rw [entAt_eq hltj]; exact List.getElem_mem hltj)
          have hroom : fullB (putsE S0 (M.take j)) (entAt M j) = false := by
            have h1 := len_putsE S0 (M.take j)
            have h2 : (M.take j).length ≤ j := by simp; omega
            unfold fullB
            rw [show decide (400 ≤ (putsE S0 (M.take j)).length) = false from decide_eq_false (by omega)]; simp
          obtain ⟨E, hEe⟩ : ∃ z, z = entAt M j := ⟨_, rfl⟩
          rw [← hEe] at d0 d1 d2 d3 d4 dS hsu hroom hfs
          obtain ⟨eg', ec, efs, ea, et⟩ := E
          dsimp only at d0 d1 d2 d3 d4 dS hfs
          have FB := (hFj.out.later (bel_alloc (RowKit.Below.refl _ _) (.cells #[.string (bs eg'), .int .i64 ec, .slice fa3 efs.length fc3, .bool ea, .int .i64 et] 30))).less (D' := D2) fun b hb => Or.inl hb
          have DS : SlS 0 efs _ (.slice fa3 efs.length fc3) := (dS.slAt).below (bel_alloc (RowKit.Below.refl _ _) (.cells #[.string (bs eg'), .int .i64 ec, .slice fa3 efs.length fc3, .bool ea, .int .i64 et] 30))
          have CP := FB.put (i := 0) rfl ⟨eg', ec, efs, ea, et⟩ _ DS (show efs.length ≤ _ by omega) hroom
          unfold EntV at CP
          dsimp only at CP
          rw [← hsu, show sV eg' = .string (bs eg') from rfl] at CP
          have EB := Lib.hid (hEj.out.below (bel_alloc (RowKit.Below.refl _ _) (.cells #[.string (bs eg'), .int .i64 ec, .slice fa3 efs.length fc3, .bool ea, .int .i64 et] 30)))
          clear hEe dS hsu hroom DS FB hFj hEj hfs
          go_wp2_with fail
          refine CP.mono ?_
          rintro e w8 ⟨rfl, hF8, hk8⟩
          have F8 : Hid (Fam D2 W w8 X [putsE S0 (M.take (j + 1)), L]) := hF8
          have E8 := Lib.hid (EB.out.imp (fun b _ h => h) hk8.size fun b hb h => hk8.block b hb fun hn => hn h)
          clear hF8 hk8 CP EB d0 d1 d2 d3 d4
          go_wp2_with fail
          go_roundw
          case rel => go_light; exact ⟨j + 1, by omega, by go_num, F8.out, E8.out⟩
          case measure => go_light; simp [intOf]; omega
        · obtain rfl : j = M.length := by omega
          have F7 : Hid (Fam D2 W _ X [L, L]) := fam_back hFj.out HBA.out
          clear hFj hEj
          have CG := Lib.hid (F7.out.groups (i := 0) rfl)
          go_wp2_with fail
          refine CG.out.mono ?_
          rintro e w8 ⟨v8, rfl, hS8, hb8⟩
          have F8 := Lib.hid (F7.out.later hb8)
          have S8 := Lib.hid hS8
          obtain ⟨a8, c8, rfl, _⟩ := hS8.slice
          have CG2 := Lib.hid (F8.out.groups (i := 1) rfl)
          clear hS8 CG hb8
          go_wp2_with fail
          refine CG2.out.mono ?_
          rintro e w9 ⟨v9, rfl, hS9, hb9⟩
          have F9 := Lib.hid (F8.out.later hb9)
          have S9 := Lib.hid hS9
          have S89 := Lib.hid (SlAt.below S8.out hb9)
          obtain ⟨a9, c9, rfl, _⟩ := hS9.slice
          have CLa := Lib.hid (F9.out.len (i := 0) rfl)
          have CLb := Lib.hid (F9.out.len (i := 1) rfl)
          have hnn : ((L.length : Int) != (L.length : Int)) = false := by simp
          obtain ⟨G, hG⟩ : ∃ z, z = groupsE L := ⟨_, rfl⟩
          have hgl : G.length ≤ 30 := by rw [hG]; exact Nat.le_trans (groupsE_len L) hfew
          rw [← hG] at S9 S89 ⊢
          have hgg : ((G.length : Int) != (G.length : Int)) = false := by simp
          clear hS9 CG2 hb9 hG S8 F8
          go_wp2_with fail
          refine CLa.out.mono ?_
          rintro e w10 ⟨rfl, rfl⟩
          go_wp2_with fail
          refine CLb.out.mono ?_
          rintro e w11 ⟨rfl, rfl⟩
          clear CLa CLb
          go_wp2_with fail
          go_loopw [91] (fun ii wi => ∃ i : Nat, i ≤ G.length ∧ ii = .int .i64 i ∧ Hid (∃ y : Later w9, wi = y.world)) (fun ii _ => G.length - (intOf ii).toNat)
          case atStart => exact ⟨0, Nat.zero_le _, rfl, ⟨_, Below.refl _ _⟩, rfl⟩
          case round =>
            obtain ⟨i, hi, rfl, hy⟩ := hrel
            obtain ⟨y, rfl⟩ := hy
            by_cases hlti : i < G.length
            · obtain ⟨b1, off1, ea1, _, hbz1, d1⟩ := SlAt.at S89.out i hlti _ y.below
              obtain ⟨b2, off2, ea2, _, hbz2, d2⟩ := SlAt.at S9.out i hlti _ y.below
              cases ea1
              cases ea2
              obtain ⟨g, hg⟩ : ∃ z, z = nthT G i := ⟨_, rfl⟩
              have d1' : y.world.cell? ⟨b1, off1 + i, none⟩ = some (.string (bs g)) := by rw [hg]; exact d1
              have d2' : y.world.cell? ⟨b2, off2 + i, none⟩ = some (.string (bs g)) := by rw [hg]; exact d2
              have hgb : (!((bs g).toList == (bs g).toList)) = false := by simp
              have CKa : Hid (∀ x : Later y.world, Calls Try.prog 11 #[.pointer (some ⟨X, 0, none⟩), .string (bs g)] x.world (NewEnts x.world (kidsE L g))) := fun x => ((F9.out.later y.below).later x.below).kids (i := 0) rfl g
              have CKb : Hid (∀ x : Later y.world, Calls Try.prog 11 #[.pointer (some ⟨X + 1, 0, none⟩), .string (bs g)] x.world (NewEnts x.world (kidsE L g))) := fun x => ((F9.out.later y.below).later x.below).kids (i := 1) rfl g
              obtain ⟨KI, hKI⟩ : ∃ z, z = kidsE L g := ⟨_, rfl⟩
              have hKl : KI.length ≤ 30 := by rw [hKI]; unfold kidsE; rw [List.length_map]; exact Nat.le_trans (List.length_filter_le _ _) hfew
              rw [← hKI] at CKa CKb
              have hkk : ((KI.length : Int) != (KI.length : Int)) = false := by simp
              clear d1 d2 hg hKI
              go_wp2_with fail
              refine wp_region_heads [0, 1, 2, 3, 5, 6, 7, 8] 11 (fun w' => ∃ x : Later y.world, w' = x.world) (by kernel_rfl) (by kernel_rfl) ⟨⟨{ y.world with drawn := y.world.drawn + 1 }, (RowKit.Below.refl _ _).drew⟩, rfl⟩ ?_ ?_
              · intro d v c a w h
                cases d <;> exact h
              simp only [headOps]
              repeat (refine wpTame_step (fun K hK => ?_); go_simp; refine hK _ ?_; clear hK K)
              refine wpTame_nil ?_
              have BD : Hid (RowKit.Below y.world.heap.size y.world { y.world with drawn := y.world.drawn + 1 }) := (RowKit.Below.refl _ _).drew
              refine wpAnyC_step (f := 3) [4] (by kernel_rfl) rfl rfl (fun i hi => ?_)
              simp only [List.mem_cons, List.not_mem_nil, or_false] at hi
              subst hi
              refine ⟨_, rfl, fun R hR => ?_⟩
              go_wp2_with fail
              refine (CKa.out ⟨_, BD.out⟩).mono ?_
              rintro e wc ⟨vc, rfl, hEc, hbc⟩
              obtain ⟨ac, cc, rfl, _⟩ := hEc.slice
              have BC := Lib.hid (bel_below BD.out hbc)
              clear hEc hbc
              go_wp2_with fail
              refine hR _ _ ⟨⟨_, BC.out⟩, rfl⟩ ?_
              clear hR R
              refine wpAnyC_step (f := 2) [9] (by kernel_rfl) rfl rfl (fun i hi => ?_)
              simp only [List.mem_cons, List.not_mem_nil, or_false] at hi
              subst hi
              refine ⟨_, rfl, fun R hR => ?_⟩
              go_wp2_with fail
              refine (CKb.out ⟨_, BC.out⟩).mono ?_
              rintro e wd ⟨vd, rfl, hEd, hbd⟩
              obtain ⟨ad, cd, rfl, _⟩ := hEd.slice
              have BE := Lib.hid (bel_below BC.out hbd)
              clear hEd hbd BC
              go_wp2_with fail
              refine hR _ _ ⟨⟨_, BE.out⟩, rfl⟩ ?_
              clear hR R
              refine wpAnyC_step (f := 1) [10] (by kernel_rfl) rfl rfl (fun i hi => ?_)
              simp only [List.mem_cons, List.not_mem_nil, or_false] at hi
              subst hi
              refine ⟨_, rfl, fun R hR => ?_⟩
              go_wp2_with fail
              refine hR _ _ ⟨⟨_, BE.out⟩, rfl⟩ ?_
              clear hR R
              refine wpAnyC_end (k := 11) (by decide) rfl rfl (by kernel_rfl) ?_
              go_wp2_with fail
              have e1 := BE.out.cell (p := ⟨b1, off1 + i, none⟩) hbz1
              have e2 := BE.out.cell (p := ⟨b2, off2 + i, none⟩) hbz2
              rw [d1'] at e1
              rw [d2'] at e2
              have hz1 : b1 < wd.heap.size := Nat.lt_of_lt_of_le hbz1 BE.out.size
              have hz2 : b2 < wd.heap.size := Nat.lt_of_lt_of_le hbz2 BE.out.size
              refine wp_region_calm (by kernel_rfl) (by kernel_rfl) ?_
              repeat (first | (go_big_quiet_step ((fail))) | (refine wpQuiet_step (fun K hK => ?_); go_simp; first | (refine hK _ ?_; clear hK K) | (apply Exists.intro; refine ⟨fun _ => ?_, hK _ ?_⟩; (fail); clear hK K)))
              refine wpQuiet_nil ?_
              intro _ hw'
              obtain ⟨xq, hw''⟩ := hw'
              subst hw''
              have BF := Lib.hid (bel_below BE.out xq.below)
              clear e1 e2 d1' d2'
              go_wp2_with fail
              go_roundw
              case rel => go_light; exact ⟨i + 1, by omega, by go_num, ⟨_, bel_below y.below BF.out⟩, rfl⟩
              case measure => go_light; simp [intOf]; omega
            · obtain rfl : i = G.length := by omega
              go_wp2_with fail
              refine (awake13_any _).mono ?_
              rintro e w12 ⟨rfl, hb12⟩
              have B12 := Lib.hid (bel_below (bel_below F9.out.bel y.below) hb12)
              clear hb12
              go_wp2_with fail
              go_ret
              exact ⟨rfl, B12.out⟩
set_option maxRecDepth 100000 in
theorem tableMoves_walk {H : Type} (enc : TypeId × Value → H) (W : World) (v0 : Value) (d0 : DataW H) (p0 : List MemPlace) {r0 : Reach} {b0 : Nat} (ok0 : Value.okWide Try.prog W r0 b0 22 v0) (h0 : DataW.Trod enc Try.prog W 0 (fun _ => true) true 22 v0 d0 p0)
    (hlt0 : ∀ x ∈ p0, x.block < W.heap.size) (sz0 : ∀ n ∈ d0.weights Try.prog 22, n ≤ reachBytes) (a1 : Int) (w1 : (Lit.int .u64 a1).wf = true) (a2 : Int) (w2 : (Lit.int .u64 a2).wf = true) :
    Calls Try.prog 5 #[v0, .int .u64 a1, .int .u64 a2] W fun e W' => e = .returned (.bool true) ∧ Below W.heap.size W W' := by
  obtain ⟨l, hE, _⟩ := ents_open ok0 h0
  exact tableMoves_main W v0 l hE a1 a2 (placeOfT w1) (placeOfT w2)
end Go.Proofs.Ytacdgfkahppmdaa
