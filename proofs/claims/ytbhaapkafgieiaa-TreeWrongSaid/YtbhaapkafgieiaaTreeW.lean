

/-
  TreeOrder walked.
-/
import Derived.Test.YtbhaapkafgieiaaTreeF
import Derived.Test.YtbhaapkafgieiaaTreeC
import Derived.Maps.AppendAt
namespace Go.Proofs.Ytbhaapkafgieiaa
open Go.RowKit Go.Maps Go.Sort Go.WideShapes Go.ChangeShapes Go.Deep
set_option linter.unusedVariables false
set_option linter.unusedSimpArgs false
attribute [local go_sem] later_cell later_frozen later_lt cell_set_off cell_set_block

section
variable {P : Program} {ops : Array Oper} {md : Region.Mode} {C : World → Prop} {Q' : Exit → Act → World → Prop}
def headInvB (md : Region.Mode) (ops : Array Oper) (n : Nat) (listed : Array Bool) : Bool :=
  listed.size == ops.size && (List.range ops.size).all (fun j => match ops[j]? with
    | some oj => !listed.getD j false || oj.after.all (fun e => !Region.binds md e || listed.getD e.on false)
    | none => true) && (List.range ops.size).all (fun t => decide (t < n) || !listed.getD t true)
theorem headInv_of {n : Nat} {listed : Array Bool} (h : headInvB md ops n listed = true) : HeadInv md ops n listed := by
  unfold headInvB at h
  simp only [Bool.and_eq_true, beq_iff_eq] at h
  obtain ⟨⟨h1, h2⟩, h3⟩ := h
  refine ⟨h1, fun j oj hj hl e he hb => ?_, fun t ht hts => ?_⟩
  · have hjs : j < ops.size := (Array.getElem?_eq_some_iff.1 hj).1
    have := List.all_eq_true.1 h2 j (List.mem_range.2 hjs)
    rw [hj] at this
    simp only [hl, Bool.not_true, Bool.false_or] at this
    have h5 := Array.all_eq_true.1 this
    obtain ⟨i, hi, rfl⟩ := Array.mem_iff_getElem.1 he
    have := h5 i hi
    simpa [hb] using this
  · have := List.all_eq_true.1 h3 t (List.mem_range.2 hts)
    simpa [show ¬ t < n by omega] using this
/-- Operations that leave the very world, in the midst of a region. -/
theorem wpAnyC_mid {n f : Nat} {listed : Array Bool} {a : Act} {w : World} (ks : List Nat) (hC : C w) (hB : (Region.noSelect ops && ks.all (· < n) && decide (n < ops.size) && Region.sinkB md ops n && Region.chainB md ops n && headInvB md ops n listed && headNums md ops ks listed) = true)
    (hQ : ∀ (d : Option Tmp) v c a w, Q' (.panic c) (a.put d v) w → Q' (.panic c) a w)
    (h : wpTame P ops C (fun a' => wpAnyC P md ops C n Q' f (listAll ks listed) a' w) (headOps ops ks) a) : wpAnyC P md ops C n Q' (ks.length + f) listed a w := by
  simp only [Bool.and_eq_true, decide_eq_true_eq] at hB
  obtain ⟨⟨⟨⟨⟨⟨h1, h2⟩, h3⟩, h4⟩, h5⟩, h6⟩, h7⟩ := hB
  exact wpAnyC_heads (Lq := fun a' => wpAnyC P md ops C n Q' f (listAll ks listed) a' w) hC h1 h4 h5 h3 hQ ks listed a (fun k hk => by simpa using List.all_eq_true.1 h2 k hk) (headInv_of h6) h7 (fun a' h => h) h
end

theorem live0 : liveL F0 = [0, 1, 2, 3] := by decide +kernel
theorem hr0 : ∀ k ∈ [0, 1, 2, 3], (∀ y ∈ [0, 1, 2, 3], withinB (idR F0 y) (idR F0 k) (idR F0 (headR F0 k)) = false) ∧ predR F0 (headR F0 k) = k := by decide +kernel
/-- On the ring of the base all is as it should be. -/
theorem base_good : Good F0 := by
  have hm : ∀ k, livesR F0 k = true → k ∈ [0, 1, 2, 3] := fun k hk => by rw [← live0]; exact (mem_liveL inv0.dom).2 hk
  exact ⟨inv0, fun k hk y hy => (hr0 k (hm k hk)).1 y (hm y hy), fun k hk => (hr0 k (hm k hk)).2⟩
/-- Trees of the same members are the same. -/
theorem same_tree {f : RS} {F : Int → List Int} {X : Int} {a b : List Int} {s t : TS} (A : IsTree f F X a s) (B : IsTree f F X b t) (h : ∀ x, x ∈ a ↔ x ∈ b) : s.root = t.root ∧ ∀ x, s.up x = t.up x := by
  constructor
  · rw [A.root, B.root]
    have : a = [] ↔ b = [] := by
      rw [List.eq_nil_iff_forall_not_mem, List.eq_nil_iff_forall_not_mem]
      exact forall_congr' fun x => not_congr (h x)
    by_cases e : a = []
    · rw [if_pos e, if_pos (this.1 e)]
    · rw [if_neg e, if_neg (fun e2 => e (this.2 e2))]
  · intro x
    have hs : (s.up x).isSome = true ↔ (t.up x).isSome = true := by
      rw [A.ups, B.ups]
      exact ⟨fun ⟨m, h1, h2⟩ => ⟨m, (h m).1 h1, h2⟩, fun ⟨m, h1, h2⟩ => ⟨m, (h m).2 h1, h2⟩⟩
    cases e1 : s.up x with
    | none =>
      cases e2 : t.up x with
      | none => rfl
      | some v => rw [e1, e2] at hs; simp at hs
    | some u =>
      cases e2 : t.up x with
      | none => rw [e1, e2] at hs; simp at hs
      | some v => rw [(A.tg.val x u e1).1, (B.tg.val x v e2).1]
theorem same_nodes {s t : TS} (I : TInv s) (J : TInv t) (h : s.root = t.root ∧ ∀ x, s.up x = t.up x) : nodesS s = nodesS t :=
  up_uniq (nodes_up I) (nodes_up J) fun x => by rw [nodes_mem, nodes_mem, h.1, h.2]
theorem same_kids {s t : TS} (I : TInv s) (J : TInv t) (h : s.root = t.root ∧ ∀ x, s.up x = t.up x) (n : Int) : kidsS s n = kidsS t n :=
  up_uniq (kids_up I n) (kids_up J n) fun x => by rw [kids_mem, kids_mem, h.2]
theorem slAt_grown {B : Nat} {gg : Nat → Value} {n : Nat} {w w' : World} {v : Value} {row : Option Nat} (h : SlAt B gg n w v) (hg : w.grownBy w' row) (hr : ∀ q, row = some q → q < B) : SlAt B gg n w' v := by
  obtain ⟨a, cap, rfl, h1, h2, h6, h3⟩ := h
  refine ⟨a, cap, rfl, h1, h2, h6, h3.imp id ?_⟩
  rintro ⟨b, off, rfl, h7, h4, h5⟩
  refine ⟨b, off, rfl, h7, Nat.lt_of_lt_of_le h4 hg.size, fun i hi => (World.cell?_of_block (hg.block b h4 fun e => ?_)).trans (h5 i hi)⟩
  have := hr b (by first | exact e | exact e.symm)
  omega
theorem map_nth (l : List Int) : (List.range l.length).map (fun i => Value.int .i64 (nth l i)) = l.map (Value.int .i64) := by
  refine List.ext_getElem (by simp) fun i h1 h2 => ?_
  simp at h1
  simp [nth_eq h1]
/-- Those that live, of the first k. -/
def livK (f : RS) (ms : List Int) (k : Nat) : List Int := (ms.take k).filter fun n => livesR f n
theorem livK_succ (f : RS) (ms : List Int) {k : Nat} (hk : k < ms.length) : livK f ms (k + 1) = if livesR f (nth ms k) = true then livK f ms k ++ [nth ms k] else livK f ms k := by
  unfold livK
  rw [List.take_succ_eq_append_getElem hk, List.filter_append, ← nth_eq hk]
  by_cases h : livesR f (nth ms k) = true
  · rw [if_pos h]; simp [h]
  · rw [if_neg h]; simp [h]
theorem livK_len (f : RS) (ms : List Int) (k : Nat) : (livK f ms k).length ≤ k := by
  have := List.length_filter_le (fun n => livesR f n) (ms.take k)
  have := List.length_take_le k ms
  unfold livK; omega
set_option maxRecDepth 100000 in
set_option maxHeartbeats 16000000 in
theorem treeOrder_main (W : World) (nm : ByteArray) (v : Value) (ms : List Int) (hm : SlAt 0 (fun i => .int .i64 (nth ms i)) ms.length W v) (hmo : ∀ x ∈ ms, okInt x) :
    Calls Try.prog 5 #[.string nm, v] W fun e w' => e = .returned (.bool true) ∧ Below W.heap.size W w' := by
  obtain ⟨i0, hi0, hz0, hz1, hz2⟩ : ∃ i0, Try.prog.info? 3 = some i0 ∧ i0.zero = some (Value.int .i64 0) ∧ i0.size = 1 ∧ i0.bytes = 8 := ⟨intI, intI_at, by kernel_rfl, by kernel_rfl, by kernel_rfl⟩
  obtain ⟨a0, c0, rfl, _⟩ := hm.slice
  have SM := Lib.hid hm
  have HMO := Lib.hid hmo
  clear hm hmo
  go_enter Try.func5, Try.ntmps5
  go_wp2_with fail
  refine (base_any _).mono ?_
  rintro e w1 ⟨v1, rfl, hs1, hB1⟩
  go_wp2_with fail
  refine (new_any w1 v1 ids0 (hs1.base (Nat.zero_le _)) (by unfold ids0 isPlace; simp)).mono ?_
  intro e w2 hp
  unfold AskPost at hp
  rw [show fourB ids0 = true from by unfold fourB; rw [set0]; rfl, if_pos rfl] at hp
  obtain ⟨rb, mb, g, rfl, R2, hB2⟩ := hp
  rw [set0, f0_eq] at R2
  have B2 := Lib.hid (bel_below hB1 hB2)
  have H2 := Lib.hid R2
  clear hs1 hB1 R2 hB2
  by_cases hn : 60 < nm.size
  · have hnI : (60 : Int) < ((nm.size : Nat) : Int) := by omega
    go_wp2_with fail
    refine (awake20_any _).mono ?_
    rintro e w3 ⟨rfl, hb3⟩
    go_wp2_with fail
    go_ret
    exact ⟨rfl, bel_below B2.out hb3⟩
  · have hnI : ¬ (60 : Int) < ((nm.size : Nat) : Int) := by omega
    by_cases hl : 12 < ms.length
    · have hlI : (12 : Int) < ((ms.length : Nat) : Int) := by omega
      go_wp2_with fail
      refine (awake20_any _).mono ?_
      rintro e w3 ⟨rfl, hb3⟩
      go_wp2_with fail
      go_ret
      exact ⟨rfl, bel_below B2.out hb3⟩
    · have hlI : ¬ (12 : Int) < ((ms.length : Nat) : Int) := by omega
      go_wp2_with fail
      clear hlI hnI
      obtain ⟨w3, hw3⟩ : ∃ z, z = (w2.alloc (.cells #[] 3)).alloc (.cells #[] 3) := ⟨_, rfl⟩
      have B23 : Hid (Below w2.heap.size w2 w3) := by rw [hw3]; exact bel_alloc (bel_alloc (Below.refl _ _) _) _
      have OA : Hid (w3.ownsRow w2.heap.size 3 1 (.slice (some ⟨w2.heap.size, 0, none⟩) 0 0) (livK F0 ms 0).length ((livK F0 ms 0).map (Value.int .i64))) := by
        rw [hw3]; exact (own_lit w2 [] 3 _ _ 0 rfl rfl (Nat.le_refl _) (by simp)).alloc _
      have SB : Hid (SlAt (w2.heap.size + 1) (fun i => .int .i64 (nth (livK F0 ms 0).reverse i)) (livK F0 ms 0).reverse.length w3 (.slice (some ⟨w2.heap.size + 1, 0, none⟩) 0 0)) := by
        rw [hw3]; exact own_ints (l := []) (own_lit _ [] 3 _ _ 0 (by simp) rfl (by simp) (by simp))
      have es : (w2.alloc (.cells #[] 3)).heap.size = w2.heap.size + 1 := by simp
      rw [← hw3]
      try rw [es]
      clear hw3 es
      go_loopw [7, 8, 52] (fun vi vb i wr => ∃ (k B1 : Nat), k ≤ ms.length ∧ i = .int .i64 k ∧ Hid (wr.ownsRow w2.heap.size 3 1 vi (livK F0 ms k).length ((livK F0 ms k).map (Value.int .i64))) ∧ Hid (SlAt B1 (fun i => .int .i64 (nth (livK F0 ms k).reverse i)) (livK F0 ms k).reverse.length wr vb) ∧ Hid (∀ q, vi.ownBlock = some q → q < B1) ∧ Hid (Below w2.heap.size w2 wr)) (fun _ _ i _ => ms.length - (intOf i).toNat)
      case atStart => exact ⟨0, w2.heap.size + 1, Nat.zero_le _, rfl, OA.out, SB.out, (fun q hq => by have h := Option.some.inj hq; rw [← h]; exact Nat.lt_succ_self _), B23.out⟩
      case round =>
        obtain ⟨k, B1, hk, rfl, hO, hS, hq, hB⟩ := hrel
        have hlen := livK_len F0 ms k
        by_cases hlt : k < ms.length
        · obtain ⟨b, off, rfl, _, hbz, hck⟩ := SM.out.at k hlt wr (bel_below B2.out hB.out)
          have okn := HMO.out _ (nth_mem.2 ⟨k, hlt, rfl⟩)
          have hsu := livK_succ F0 ms hlt
          obtain ⟨n, hne⟩ : ∃ z, z = nth ms k := ⟨_, rfl⟩
          rw [← hne] at hck okn hsu
          have CL := lives_at (H2.out.below hB.out) n okn
          cases hlv : livesR F0 n with
          | false =>
            rw [hlv] at CL hsu
            rw [if_neg (by decide)] at hsu
            have CL := Lib.hid CL
            have HSU := Lib.hid hsu
            clear hsu hlv hne okn
            go_wp2_with fail
            refine CL.out.mono ?_
            rintro e w9 ⟨rfl, rfl⟩
            go_wp2_with fail
            go_roundw
            case rel => go_light; exact ⟨k + 1, B1, by omega, by go_num, (by show World.ownsRow _ _ _ _ _ _ _; rw [HSU.out]; exact hO.out), (by show SlAt _ _ _ _ _; rw [HSU.out]; exact hS.out), hq, hB⟩
            case measure => go_light; simp [intOf]; omega
          | true =>
            rw [hlv] at CL hsu
            rw [if_pos rfl] at hsu
            have CL := Lib.hid CL
            have HSU := Lib.hid hsu
            clear hsu hlv hne okn
            go_wp2_with fail
            refine CL.out.mono ?_
            rintro e w9 ⟨rfl, rfl⟩
            obtain ⟨l, hl⟩ : ∃ z, z = livK F0 ms k := ⟨_, rfl⟩
            rw [← hl] at HSU hlen hO hS
            clear hl CL
            go_wp2_with (at_builtin; go_loud (refine wpList_append_own_at _ rfl _ _ 22 rfl w2.heap.size 3 i0 (.int .i64 0) 1 8 Try.underlying22 hi0 hz0 hz1 hz2 rfl (by decide) _ l.length _ rfl (hO.out.alloc _) _ 1 1 _ rfl rfl (cell_one_new _ _ _) (by simp [Value.oneCell']) ?qc1 ?qc2 ?qc3 ?_))
            case qc1 => simp only [maxLen]; omega
            case qc2 => omega
            case qc3 => have := hB.out.size; simp; omega
            intro va wa hoa hga _ hata
            have hBa : Below w2.heap.size w2 wa := (bel_alloc hB.out _).grown hga (by have := hB.out.size; simp; omega) (fun q hq => (hO.out.lt q hq).1)
            have BA := Lib.hid hBa
            have SBA := Lib.hid (slAt_grown (hS.out.below (bel_alloc (Below.refl _ _) _)) hga hq.out)
            have OA9 := Lib.hid hoa
            have hqa : Hid (∀ q, va.ownBlock = some q → q < wa.heap.size) := fun q hq => (hoa.lt q hq).2
            clear hoa hga hata hBa hO hS hB hq hck hbz
            obtain ⟨ba, bc, rfl, _⟩ := SBA.out.slice
            go_wp2_with (at_builtin; refine wpList_app rfl _ _ 22 rfl wa.heap.size 3 i0 (.int .i64 0) 8 Try.underlying22 hi0 hz0 hz1 hz2 rfl _ 1 [.int .i64 n] rfl (own_lit _ [.int .i64 n] _ _ _ 1 rfl rfl (Nat.le_refl _) (by simp [maxLen])) B1 _ _ _ rfl (SBA.out.below (bel_alloc (Below.refl _ _) _)) (fun _ => rfl) ?qc1 ?qc2 ?qc3 ?_)
            case qc1 => simp only [maxLen, List.length_reverse]; omega
            case qc2 => simp only [List.length_reverse]; omega
            case qc3 => simp
            intro vb' wb hob hgb
            have hBb : Hid (Below w2.heap.size w2 wb) := (bel_alloc BA.out _).grown hgb (by have := BA.out.size; simp; omega) (fun q hq => by have e := Option.some.inj hq; rw [← e]; exact BA.out.size)
            have OB := Lib.hid hob
            have OAb : Hid (wb.ownsRow w2.heap.size 3 1 va (l.length + 1) (l.map (Value.int .i64) ++ [.int .i64 n])) := by
              exact (OA9.out.alloc _).kept hgb (Or.inr fun e => absurd (hqa.out _ e) (Nat.lt_irrefl _))
            go_wp2_with fail
            go_roundw
            case rel =>
              go_light
              refine ⟨k + 1, wa.heap.size, by omega, by go_num, ?_, ?_, hqa, hBb⟩
              · show World.ownsRow _ _ _ _ _ _ _
                rw [HSU.out]
                simpa using OAb.out
              · show SlAt _ _ _ _ _
                rw [HSU.out]
                have e : (List.range l.length).map (fun i => Value.int .i64 (nth l.reverse i)) = l.reverse.map (Value.int .i64) := by have := map_nth l.reverse; rwa [List.length_reverse] at this
                have h := OB.out
                rw [e] at h
                have h2 := own_ints (l := n :: l.reverse) h
                simpa [List.reverse_append] using h2
            case measure => go_light; simp [intOf]; omega
        · obtain rfl : k = ms.length := by omega
          have hA := own_ints hO.out
          obtain ⟨aA, cA, rfl, _⟩ := hA.slice
          obtain ⟨aB, cB, rfl, _⟩ := hS.out.slice
          have hlive : ∀ x ∈ livK F0 ms ms.length, livesR F0 x = true := fun x hx => (List.mem_filter.1 hx).2
          have SA := Lib.hid (hA.base (Nat.zero_le _))
          have SR := Lib.hid (hS.out.base (Nat.zero_le _))
          obtain ⟨l, hl⟩ : ∃ z, z = livK F0 ms ms.length := ⟨_, rfl⟩
          rw [← hl] at SA SR hlive hlen ⊢
          rw [List.length_reverse] at *
          have HLV := Lib.hid hlive
          have Hr := Lib.hid (H2.out.below hB.out)
          have Br := Lib.hid (bel_below B2.out hB.out)
          have hl12 : l.length ≤ 12 := by omega
          clear hA hO hS hq hB hlive hl OA SB B23 hlen hk hlt SM H2 B2
          go_wp2_with fail
          refine (newf_any wr rb).mono ?_
          rintro e w4 ⟨fb, fm, rfl, hf, hb4⟩
          have H4 := Lib.hid (Hr.out.below hb4)
          have F4 := Lib.hid hf
          have B4 := Lib.hid (bel_below Br.out hb4)
          have SA4 := Lib.hid (SA.out.below hb4)
          have SR4 := Lib.hid (SR.out.below hb4)
          obtain ⟨ta, hta, IA, JA⟩ := tree_good base_good (fun _ => []) (keyH_place nm) l HLV.out
          obtain ⟨tb, htb, IB, JB⟩ := tree_good base_good (fun _ => []) (keyH_place nm) l.reverse (fun x hx => HLV.out x (List.mem_reverse.1 hx))
          have hsame := same_tree IA IB (fun x => List.mem_reverse.symm)
          have hok : ∀ x ∈ l, okInt x := fun x hx => by have := livesR_dom inv0.dom (HLV.out x hx); exact okInt_dom (by omega) (by omega)
          have CA := of_fin w4 _ l nm H4.out F4.out inv0 SA4.out hok (by omega) (by omega)
          unfold OfPost at CA
          rw [hta] at CA
          have CA := Lib.hid CA
          have CB := Lib.hid fun (w' : World) (hb : Below w4.heap.size w4 w') => (by
            have C := of_fin w' _ l.reverse nm (H4.out.below hb) (F4.out.below hb) inv0 (by rw [List.length_reverse]; exact SR4.out.below hb) (fun x hx => hok x (List.mem_reverse.1 hx)) (by rw [List.length_reverse]; omega) (by omega)
            unfold OfPost at C
            rw [htb] at C
            exact C : Calls Try.prog 7 _ w' _)
          have HRT : Hid (ta.root = if l = [] then -1 else own F0 (keyH nm)) := IA.root
          have HS := Lib.hid hsame
          have HJA := Lib.hid JA
          have HJB := Lib.hid JB
          have Hroot := Lib.hid hsame.1
          clear hf hb4 Hr SA SR F4 SA4 SR4 hok hta htb IA IB JA JB hsame
          go_wp2_with fail
          refine CA.out.mono ?_
          rintro e w5 ⟨ma, rfl, hTA, _, hb5⟩
          obtain ⟨r, hr⟩ : ∃ z, z = ta.root := ⟨_, rfl⟩
          obtain ⟨w6, hw6⟩ : ∃ z, z = w5.alloc (.cells #[.int .i64 r, .map (some ma)] 25) := ⟨_, rfl⟩
          obtain ⟨X, hX⟩ : ∃ z, z = w5.heap.size := ⟨_, rfl⟩
          have b56 : Below w5.heap.size w5 w6 := by rw [hw6]; exact bel_alloc (Below.refl _ _) _
          have x0 : w6.cell? ⟨X, 0, none⟩ = some (.int .i64 r) := by rw [hw6, hX]; simp [go_sem]
          have x1 : w6.cell? ⟨X, 1, none⟩ = some (.map (some ma)) := by rw [hw6, hX]; simp [go_sem]
          have xz : X < w6.heap.size := by rw [hw6, hX]; simp
          have TA := Lib.hid (hTA.below b56)
          have B46 := Lib.hid (bel_below hb5 b56)
          have CB6 := Lib.hid (CB.out w6 B46.out)
          rw [← hr] at Hroot HRT ⊢
          have HR := Lib.hid hr
          clear hTA hb5 b56 CA CB hr
          go_wp2_with fail
          rw [← hw6]
          try rw [← hX]
          clear hw6 hX
          refine CB6.out.mono ?_
          rintro e w7 ⟨mb2, rfl, hTB, _, hb7⟩
          rw [← Hroot.out]
          obtain ⟨w8, hw8⟩ : ∃ z, z = w7.alloc (.cells #[.int .i64 r, .map (some mb2)] 25) := ⟨_, rfl⟩
          obtain ⟨Y, hY⟩ : ∃ z, z = w7.heap.size := ⟨_, rfl⟩
          have b78 : Below w7.heap.size w7 w8 := by rw [hw8]; exact bel_alloc (Below.refl _ _) _
          have b68 := bel_below hb7 b78
          have y0 : w8.cell? ⟨Y, 0, none⟩ = some (.int .i64 r) := by rw [hw8, hY]; simp [go_sem]
          have y1 : w8.cell? ⟨Y, 1, none⟩ = some (.map (some mb2)) := by rw [hw8, hY]; simp [go_sem]
          have yz : Y < w8.heap.size := by rw [hw8, hY]; simp
          have x0 := (b68.cell (p := ⟨X, 0, none⟩) xz).trans x0
          have x1 := (b68.cell (p := ⟨X, 1, none⟩) xz).trans x1
          have xz := Nat.lt_of_lt_of_le xz b68.size
          have H8 := Lib.hid (H4.out.below (bel_below B46.out b68))
          have B8 := Lib.hid (bel_below B4.out (bel_below B46.out b68))
          have TA8 := Lib.hid (TA.out.below b68)
          have TB8 := Lib.hid (hTB.below b78)
          have CNA : Hid (∀ wr, Below w8.heap.size w8 wr → Calls Try.prog 16 #[.agg #[.int .i64 r, .map (some ma)]] wr (NewList wr (nodesS ta))) := fun wr hb => by
            have C := nodes_at wr ma ta (TA8.out.below hb) HJA.out; rw [← HR.out] at C; exact C
          have CNB : Hid (∀ wr, Below w8.heap.size w8 wr → Calls Try.prog 16 #[.agg #[.int .i64 r, .map (some mb2)]] wr (NewList wr (nodesS ta))) := fun wr hb => by
            have C := nodes_at wr mb2 tb (TB8.out.below hb) HJB.out; rw [← Hroot.out, ← same_nodes HJA.out HJB.out HS.out] at C; exact C
          have CKA : Hid (∀ wr n, Below w8.heap.size w8 wr → Calls Try.prog 9 #[.agg #[.int .i64 r, .map (some ma)], .int .i64 n] wr (NewList wr (kidsS ta n))) := fun wr n hb => by
            have C := kids_at wr ma ta (TA8.out.below hb) HJA.out n; rw [← HR.out] at C; exact C
          have CKB : Hid (∀ wr n, Below w8.heap.size w8 wr → Calls Try.prog 9 #[.agg #[.int .i64 r, .map (some mb2)], .int .i64 n] wr (NewList wr (kidsS ta n))) := fun wr n hb => by
            have C := kids_at wr mb2 tb (TB8.out.below hb) HJB.out n; rw [← Hroot.out, ← same_kids HJA.out HJB.out HS.out] at C; exact C
          have HNL : Hid ((nodesS ta).length ≤ 4000000000) := show _ ≤ _ by
            have h1 := TA8.out.small
            have h2 := nodes_len ta
            have h3 : (keysL ta.ups).length = ta.ups.length := by simp [keysL]
            unfold nodesL at h2
            split at h2 <;> simp at h2 <;> omega
          have HKL : Hid (∀ n, (kidsS ta n).length ≤ 4000000000) := fun n => by
            have h1 := TA8.out.small
            have h2 : (kidsS ta n).length ≤ ta.ups.length := by
              have h3 : (keysL ta.ups).length = ta.ups.length := by simp [keysL]
              unfold kidsS kidsL
              rw [List.length_mergeSort, ← h3]
              exact List.length_filter_le _ _
            omega
          clear hTB hb7 b78 b68 CB6 TA TA8 TB8 HS HJA HJB Hroot H4 B46 B4
          go_wp2_with fail
          rw [← hw8]
          try rw [← hY]
          clear hw8 hY
          obtain ⟨ns, hns⟩ : ∃ z, z = nodesS ta := ⟨_, rfl⟩
          rw [← hns] at CNA CNB HNL
          clear hns
          refine wp_region_all [0, 1, 2, 3, 4, 5, 6, 7, 8, 9, 10, 11, 12, 13, 14, 16] (fun w' => ∃ y : Later w8, w' = y.world) (by kernel_rfl) (by kernel_rfl) ⟨⟨{ w8 with drawn := w8.drawn + 1 }, (RowKit.Below.refl _ _).drew⟩, rfl⟩ (fun d v c a w h => by cases d <;> exact h) ?_
          simp only [headOps]
          repeat (refine wpTame_step (fun K hK => ?_); go_simp; refine hK _ ?_; clear hK K)
          refine wpTame_nil ?_
          refine wpAnyC_step (f := 4) [15] (by kernel_rfl) rfl rfl (fun i hi => ?_)
          simp only [List.mem_cons, List.not_mem_nil, or_false] at hi
          subst hi
          refine ⟨_, rfl, fun R hR => ?_⟩
          go_wp2_with fail
          refine (CNA.out _ (bel_drew (RowKit.Below.refl _ _))).mono ?_
          rintro e wa ⟨va, rfl, hsa, hba⟩
          obtain ⟨pa, qa, rfl, _⟩ := hsa.slice
          have BA := Lib.hid ((bel_drew (RowKit.Below.refl _ _)).trans (hba.mono (by simp)) : RowKit.Below w8.heap.size w8 wa)
          have SNA := Lib.hid (hsa.base (Nat.zero_le _))
          clear hsa hba
          go_wp2_with fail
          refine hR _ _ ⟨⟨wa, (BA).out⟩, rfl⟩ ?_
          clear hR R
          refine wpAnyC_step (f := 3) [17] (by kernel_rfl) rfl rfl (fun i hi => ?_)
          simp only [List.mem_cons, List.not_mem_nil, or_false] at hi
          subst hi
          refine ⟨_, rfl, fun R hR => ?_⟩
          go_wp2_with fail
          refine (CNB.out _ BA.out).mono ?_
          rintro e wb ⟨vb, rfl, hsb, hbb⟩
          obtain ⟨pb, qb, rfl, _⟩ := hsb.slice
          have BB := Lib.hid (bel_below BA.out hbb)
          have SNA2 := Lib.hid (SNA.out.below hbb)
          have SNB := Lib.hid (hsb.base (Nat.zero_le _))
          clear hsb hbb SNA
          go_wp2_with fail
          refine hR _ _ ⟨⟨wb, (BB).out⟩, rfl⟩ ?_
          clear hR R
          refine wpAnyC_step (f := 2) [18] (by kernel_rfl) rfl rfl (fun i hi => ?_)
          simp only [List.mem_cons, List.not_mem_nil, or_false] at hi
          subst hi
          refine ⟨_, rfl, fun R hR => ?_⟩
          go_wp2_with fail
          refine (rints_any _ _ _ ns ns SNA2.out SNB.out HNL.out).mono ?_
          rw [show sameI ns ns = true by simp [sameI]]
          rintro e wc ⟨rfl, hbc⟩
          have BC := Lib.hid (bel_below BB.out hbc)
          clear hbc SNA2 SNB BA BB
          go_wp2_with fail
          refine hR _ _ ⟨⟨wc, (BC).out⟩, rfl⟩ ?_
          clear hR R
          refine wpAnyC_step (f := 1) [19] (by kernel_rfl) rfl rfl (fun i hi => ?_)
          simp only [List.mem_cons, List.not_mem_nil, or_false] at hi
          subst hi
          refine ⟨_, rfl, fun R hR => ?_⟩
          go_wp2_with fail
          refine hR _ _ ⟨⟨wc, BC.out⟩, rfl⟩ ?_
          clear hR R
          refine wpAnyC_step (f := 0) [20] (by kernel_rfl) rfl rfl (fun i hi => ?_)
          simp only [List.mem_cons, List.not_mem_nil, or_false] at hi
          subst hi
          refine ⟨_, rfl, fun R hR => ?_⟩
          go_wp2_with fail
          refine hR _ _ ⟨⟨wc, BC.out⟩, rfl⟩ ?_
          clear hR R
          refine wpAnyC_done (by kernel_rfl) ?_
          have x0 := (BC.out.cell (p := ⟨X, 0, none⟩) xz).trans x0
          have x1 := (BC.out.cell (p := ⟨X, 1, none⟩) xz).trans x1
          have xz := Nat.lt_of_lt_of_le xz BC.out.size
          have y0 := (BC.out.cell (p := ⟨Y, 0, none⟩) yz).trans y0
          have y1 := (BC.out.cell (p := ⟨Y, 1, none⟩) yz).trans y1
          have yz := Nat.lt_of_lt_of_le yz BC.out.size
          go_wp2_with fail
          refine (CNA.out _ BC.out).mono ?_
          rintro e w9 ⟨v9, rfl, hs9, hb9⟩
          obtain ⟨p9, q9, rfl, _⟩ := hs9.slice
          have S9 := Lib.hid (hs9.base (Nat.zero_le _))
          have B9 := Lib.hid (bel_below BC.out hb9)
          have x0 := (hb9.cell (p := ⟨X, 0, none⟩) xz).trans x0
          have x1 := (hb9.cell (p := ⟨X, 1, none⟩) xz).trans x1
          have xz := Nat.lt_of_lt_of_le xz hb9.size
          have y0 := (hb9.cell (p := ⟨Y, 0, none⟩) yz).trans y0
          have y1 := (hb9.cell (p := ⟨Y, 1, none⟩) yz).trans y1
          have yz := Nat.lt_of_lt_of_le yz hb9.size
          clear hs9 hb9 BC CNA CNB
          go_wp2_with fail
          go_loopw [110] (fun i wr => ∃ k : Nat, k ≤ ns.length ∧ i = .int .i64 k ∧ Hid (RowKit.Below w9.heap.size w9 wr)) (fun i _ => ns.length - (intOf i).toNat)
          case atStart => exact ⟨0, Nat.zero_le _, rfl, RowKit.Below.refl _ _⟩
          case round =>
            obtain ⟨k, hk, rfl, hB⟩ := hrel
            have x0 := (hB.out.cell (p := ⟨X, 0, none⟩) xz).trans x0
            have x1 := (hB.out.cell (p := ⟨X, 1, none⟩) xz).trans x1
            have xz := Nat.lt_of_lt_of_le xz hB.out.size
            have y0 := (hB.out.cell (p := ⟨Y, 0, none⟩) yz).trans y0
            have y1 := (hB.out.cell (p := ⟨Y, 1, none⟩) yz).trans y1
            have yz := Nat.lt_of_lt_of_le yz hB.out.size
            by_cases hlt : k < ns.length
            · obtain ⟨b, off, rfl, _, hbz, hck⟩ := S9.out.at k hlt wr hB.out
              obtain ⟨n, hne⟩ : ∃ z, z = nth ns k := ⟨_, rfl⟩
              rw [← hne] at hck
              clear hne
              obtain ⟨L, hL⟩ : ∃ z, z = kidsS ta n := ⟨_, rfl⟩
              have CA := Lib.hid fun w' (hb : RowKit.Below wr.heap.size wr w') => hL ▸ CKA.out w' n (bel_below B9.out (bel_below hB.out hb))
              have CB := Lib.hid fun w' (hb : RowKit.Below wr.heap.size wr w') => hL ▸ CKB.out w' n (bel_below B9.out (bel_below hB.out hb))
              have HLL : Hid (L.length ≤ 4000000000) := show _ by rw [hL]; exact HKL.out n
              clear hL
              go_wp2_with fail
              refine wp_region_all [0, 1, 3, 4] (fun w' => ∃ y : Later wr, w' = y.world) (by kernel_rfl) (by kernel_rfl) ⟨⟨{ wr with drawn := wr.drawn + 1 }, (RowKit.Below.refl _ _).drew⟩, rfl⟩ (fun d v c a w h => by cases d <;> exact h) ?_
              simp only [headOps]
              repeat (refine wpTame_step (fun K hK => ?_); go_simp; refine hK _ ?_; clear hK K)
              refine wpTame_nil ?_
              refine wpAnyC_step (f := 3) [2] (by kernel_rfl) rfl rfl (fun i hi => ?_)
              simp only [List.mem_cons, List.not_mem_nil, or_false] at hi
              subst hi
              refine ⟨_, rfl, fun R hR => ?_⟩
              go_wp2_with fail
              refine (CA.out _ (bel_drew (RowKit.Below.refl _ _))).mono ?_
              rintro e wa ⟨va, rfl, hsa, hba⟩
              obtain ⟨pa, qa, rfl, _⟩ := hsa.slice
              have BA := Lib.hid ((bel_drew (RowKit.Below.refl _ _)).trans (hba.mono (by simp)) : RowKit.Below wr.heap.size wr wa)
              have SNA := Lib.hid (hsa.base (Nat.zero_le _))
              clear hsa hba CA
              go_wp2_with fail
              refine hR _ _ ⟨⟨wa, (BA).out⟩, rfl⟩ ?_
              clear hR R
              refine wpAnyC_step (f := 2) [5] (by kernel_rfl) rfl rfl (fun i hi => ?_)
              simp only [List.mem_cons, List.not_mem_nil, or_false] at hi
              subst hi
              refine ⟨_, rfl, fun R hR => ?_⟩
              go_wp2_with fail
              refine (CB.out _ BA.out).mono ?_
              rintro e wb ⟨vb, rfl, hsb, hbb⟩
              obtain ⟨pb, qb, rfl, _⟩ := hsb.slice
              have BB := Lib.hid (bel_below BA.out hbb)
              have SNA2 := Lib.hid (SNA.out.below hbb)
              have SNB := Lib.hid (hsb.base (Nat.zero_le _))
              clear hsb hbb SNA CB
              go_wp2_with fail
              refine hR _ _ ⟨⟨wb, (BB).out⟩, rfl⟩ ?_
              clear hR R
              refine wpAnyC_step (f := 1) [6] (by kernel_rfl) rfl rfl (fun i hi => ?_)
              simp only [List.mem_cons, List.not_mem_nil, or_false] at hi
              subst hi
              refine ⟨_, rfl, fun R hR => ?_⟩
              go_wp2_with fail
              refine (rints_any _ _ _ L L SNA2.out SNB.out HLL.out).mono ?_
              rw [show sameI L L = true by simp [sameI]]
              rintro e wc ⟨rfl, hbc⟩
              have BC := Lib.hid (bel_below BB.out hbc)
              clear hbc SNA2 SNB BA BB
              go_wp2_with fail
              refine hR _ _ ⟨⟨wc, (BC).out⟩, rfl⟩ ?_
              clear hR R
              refine wpAnyC_step (f := 0) [7] (by kernel_rfl) rfl rfl (fun i hi => ?_)
              simp only [List.mem_cons, List.not_mem_nil, or_false] at hi
              subst hi
              refine ⟨_, rfl, fun R hR => ?_⟩
              go_wp2_with fail
              refine hR _ _ ⟨⟨wc, BC.out⟩, rfl⟩ ?_
              clear hR R
              refine wpAnyC_done (by kernel_rfl) ?_
              have BY := Lib.hid (bel_below hB.out BC.out)
              have hnl := HNL.out
              clear BC x0 x1 y0 y1 xz yz hck hbz
              go_wp2_with fail
              go_roundw
              case rel => go_light; exact ⟨k + 1, by omega, by go_num, BY⟩
              case measure => go_light; simp [intOf]; omega
            · obtain rfl : k = ns.length := by omega
              have BW := Lib.hid (bel_below B9.out hB.out)
              have HW := Lib.hid (H8.out.below BW.out)
              have BWW := Lib.hid (bel_below B8.out BW.out)
              clear CKA CKB S9 B9 H8 B8 y0 y1 yz HNL HKL hB
              go_wp2_with fail
              by_cases hl0 : l = []
              · have hl0b : (((l.length : Nat) : Int) == 0) = true := by rw [hl0]; rfl
                clear hl0 HRT
                refine wp_region_heads [] 16 (fun w' => ∃ y : Later wr, w' = y.world) (by kernel_rfl) (by kernel_rfl) ⟨⟨{ wr with drawn := wr.drawn + 1 }, (RowKit.Below.refl _ _).drew⟩, rfl⟩ ?_ ?_
                · intro d v c a w h
                  cases d <;> exact h
                simp only [headOps]
                repeat (refine wpTame_step (fun K hK => ?_); go_simp; refine hK _ ?_; clear hK K)
                refine wpTame_nil ?_
                refine wpAnyC_step (f := 16) [0] (by kernel_rfl) rfl rfl (fun i hi => ?_)
                simp only [List.mem_cons, List.not_mem_nil, or_false] at hi
                subst hi
                refine ⟨_, rfl, fun R hR => ?_⟩
                go_wp2_with fail
                refine (awake20_any _).mono ?_
                rintro e wa ⟨rfl, hba⟩
                have BA := Lib.hid ((bel_drew (RowKit.Below.refl _ _)).trans (hba.mono (by simp)) : RowKit.Below wr.heap.size wr wa)
                clear hba
                go_wp2_with fail
                refine hR _ _ ⟨⟨wa, (BA).out⟩, rfl⟩ ?_
                clear hR R
                refine wpAnyC_mid (f := 11) [1, 2, 3, 4, 5] ⟨⟨wa, BA.out⟩, rfl⟩ (by kernel_rfl) (fun d v c a w h => by cases d <;> exact h) ?_
                simp only [headOps]
                repeat (refine wpTame_step (fun K hK => ?_); go_simp; refine hK _ ?_; clear hK K)
                refine wpTame_nil ?_
                refine wpAnyC_mid (f := 7) [6, 7, 8, 10] ⟨⟨wa, BA.out⟩, rfl⟩ (by kernel_rfl) (fun d v c a w h => by cases d <;> exact h) ?_
                simp only [headOps]
                repeat (refine wpTame_step (fun K hK => ?_); go_simp; refine hK _ ?_; clear hK K)
                refine wpTame_nil ?_
                refine wpAnyC_step (f := 6) [9] (by kernel_rfl) rfl rfl (fun i hi => ?_)
                simp only [List.mem_cons, List.not_mem_nil, or_false] at hi
                subst hi
                refine ⟨_, rfl, fun R hR => ?_⟩
                go_wp2_with fail
                refine hR _ _ ⟨⟨wa, BA.out⟩, rfl⟩ ?_
                clear hR R
                refine wpAnyC_step (f := 5) [11] (by kernel_rfl) rfl rfl (fun i hi => ?_)
                simp only [List.mem_cons, List.not_mem_nil, or_false] at hi
                subst hi
                refine ⟨_, rfl, fun R hR => ?_⟩
                go_wp2_with fail
                refine hR _ _ ⟨⟨wa, BA.out⟩, rfl⟩ ?_
                clear hR R
                refine wpAnyC_step (f := 4) [12] (by kernel_rfl) rfl rfl (fun i hi => ?_)
                simp only [List.mem_cons, List.not_mem_nil, or_false] at hi
                subst hi
                refine ⟨_, rfl, fun R hR => ?_⟩
                go_wp2_with fail
                refine hR _ _ ⟨⟨wa, BA.out⟩, rfl⟩ ?_
                clear hR R
                refine wpAnyC_mid (f := 1) [13, 14, 15] ⟨⟨wa, BA.out⟩, rfl⟩ (by kernel_rfl) (fun d v c a w h => by cases d <;> exact h) ?_
                simp only [headOps]
                repeat (refine wpTame_step (fun K hK => ?_); go_simp; refine hK _ ?_; clear hK K)
                refine wpTame_nil ?_
                refine wpAnyC_end (k := 16) (by decide) rfl rfl (by kernel_rfl) ?_
                go_wp2_with fail
                go_ret
                exact ⟨rfl, bel_below BWW.out BA.out⟩
              · have hl0b : (((l.length : Nat) : Int) == 0) = false := by
                  rw [beq_eq_false_iff_ne]
                  intro e
                  exact hl0 (List.length_eq_zero_iff.1 (by omega))
                have hro : Hid (r = own F0 (keyH nm)) := show _ = _ by rw [HRT.out, if_neg hl0]
                clear hl0 HRT
                refine wp_region_heads [] 16 (fun w' => ∃ y : Later wr, w' = y.world) (by kernel_rfl) (by kernel_rfl) ⟨⟨{ wr with drawn := wr.drawn + 1 }, (RowKit.Below.refl _ _).drew⟩, rfl⟩ ?_ ?_
                · intro d v c a w h
                  cases d <;> exact h
                simp only [headOps]
                repeat (refine wpTame_step (fun K hK => ?_); go_simp; refine hK _ ?_; clear hK K)
                refine wpTame_nil ?_
                refine wpAnyC_step (f := 16) [0] (by kernel_rfl) rfl rfl (fun i hi => ?_)
                simp only [List.mem_cons, List.not_mem_nil, or_false] at hi
                subst hi
                refine ⟨_, rfl, fun R hR => ?_⟩
                go_wp2_with fail
                refine (awake20_any _).mono ?_
                rintro e wa ⟨rfl, hba⟩
                have BA := Lib.hid ((bel_drew (RowKit.Below.refl _ _)).trans (hba.mono (by simp)) : RowKit.Below wr.heap.size wr wa)
                clear hba
                go_wp2_with fail
                refine hR _ _ ⟨⟨wa, (BA).out⟩, rfl⟩ ?_
                clear hR R
                refine wpAnyC_mid (f := 11) [1, 2, 3, 4, 5] ⟨⟨wa, BA.out⟩, rfl⟩ (by kernel_rfl) (fun d v c a w h => by cases d <;> exact h) ?_
                simp only [headOps]
                repeat (refine wpTame_step (fun K hK => ?_); go_simp; refine hK _ ?_; clear hK K)
                refine wpTame_nil ?_
                refine wpAnyC_mid (f := 7) [6, 7, 8, 10] ⟨⟨wa, BA.out⟩, rfl⟩ (by kernel_rfl) (fun d v c a w h => by cases d <;> exact h) ?_
                simp only [headOps]
                repeat (refine wpTame_step (fun K hK => ?_); go_simp; refine hK _ ?_; clear hK K)
                refine wpTame_nil ?_
                refine wpAnyC_step (f := 6) [9] (by kernel_rfl) rfl rfl (fun i hi => ?_)
                simp only [List.mem_cons, List.not_mem_nil, or_false] at hi
                subst hi
                refine ⟨_, rfl, fun R hR => ?_⟩
                go_wp2_with fail
                refine (of_at (HW.out.below BA.out) inv0).mono ?_
                rintro e wb ⟨av, iv, rfl, hav, hiv, hbb⟩
                rw [circ0.1] at hav hiv
                have CW : ∀ w', RowKit.Below wb.heap.size wb w' → Calls Try.prog 20 #[.agg #[av, iv], .int .u64 (keyH nm)] w' fun e w'' => e = .returned (.int .i64 r) ∧ RowKit.Below w'.heap.size w' w'' := fun w' hb => by
                  have C := cowner_at w' [0, 1, 2, 3] ([0, 1, 2, 3].map (idR F0)) _ _ ((hav.base (Nat.zero_le _)).below hb) ((hiv.base (Nat.zero_le _)).below hb) rfl (by simp) (by rw [circ0.2.1]; exact up0) (keyH nm)
                  rw [← show own F0 (keyH nm) = cOwner [0, 1, 2, 3] ([0, 1, 2, 3].map (idR F0)) (keyH nm) by show cOwner (circ F0) ((circ F0).map (idR F0)) _ = _; rw [circ0.1], ← hro.out] at C
                  exact C
                obtain ⟨aa, ac, rfl, _⟩ := hav.slice
                obtain ⟨ia, ic, rfl, _⟩ := hiv.slice
                have BB := Lib.hid (bel_below BA.out hbb)
                have CW := Lib.hid CW
                clear hav hiv
                go_wp2_with fail
                refine hR _ _ ⟨⟨wb, (BB).out⟩, rfl⟩ ?_
                clear hR R
                refine wpAnyC_step (f := 5) [11] (by kernel_rfl) rfl rfl (fun i hi => ?_)
                simp only [List.mem_cons, List.not_mem_nil, or_false] at hi
                subst hi
                refine ⟨_, rfl, fun R hR => ?_⟩
                go_wp2_with fail
                refine (key_any nm _ (by omega)).mono ?_
                rintro e wc ⟨rfl, hbc⟩
                have BC := Lib.hid (bel_below BB.out hbc)
                have CW2 := Lib.hid (CW.out wc hbc)
                clear hbc
                go_wp2_with fail
                refine hR _ _ ⟨⟨wc, (BC).out⟩, rfl⟩ ?_
                clear hR R
                refine wpAnyC_step (f := 4) [12] (by kernel_rfl) rfl rfl (fun i hi => ?_)
                simp only [List.mem_cons, List.not_mem_nil, or_false] at hi
                subst hi
                refine ⟨_, rfl, fun R hR => ?_⟩
                go_wp2_with fail
                refine CW2.out.mono ?_
                rintro e wd ⟨rfl, hbd⟩
                have BD := Lib.hid (bel_below BC.out hbd)
                clear hbd CW CW2
                go_wp2_with fail
                refine hR _ _ ⟨⟨wd, (BD).out⟩, rfl⟩ ?_
                clear hR R
                refine wpAnyC_mid (f := 1) [13, 14, 15] ⟨⟨wd, BD.out⟩, rfl⟩ (by kernel_rfl) (fun d v c a w h => by cases d <;> exact h) ?_
                simp only [headOps]
                repeat (refine wpTame_step (fun K hK => ?_); go_simp; refine hK _ ?_; clear hK K)
                refine wpTame_nil ?_
                refine wpAnyC_end (k := 16) (by decide) rfl rfl (by kernel_rfl) ?_
                go_wp2_with fail
                go_ret
                exact ⟨rfl, bel_below BWW.out BD.out⟩
set_option maxRecDepth 100000 in
theorem treeOrder_walk {H : Type} (enc : TypeId × Value → H) (W : World) (a0 : ByteArray) (y0 : a0.size ≤ 140737488351232) (v1 : Value) (d1 : DataW H) (p1 : List MemPlace) {r1 : Reach} {b1 : Nat} (ok1 : Value.okWide Try.prog W r1 b1 22 v1) (h1 : DataW.Trod enc Try.prog W 0 (fun _ => true) true 22 v1 d1 p1)
    (hlt1 : ∀ x ∈ p1, x.block < W.heap.size) (sz1 : ∀ n ∈ d1.weights Try.prog 22, n ≤ reachBytes) :
    Calls Try.prog 5 #[.string a0, v1] W fun e W' => e = .returned (.bool true) ∧ Below W.heap.size W W' := by
  obtain ⟨ms, hm, hmo⟩ := ints_open ok1 h1
  exact treeOrder_main W a0 v1 ms hm hmo
end Go.Proofs.Ytbhaapkafgieiaa
