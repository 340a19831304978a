

/-
  TreeMore walked.
-/
import Derived.Test.YtbhaapkafgieiaaTreeW
import Derived.Test.YtbhaapkafgieiaaErrIs
namespace Go.Proofs.Ytbhaapkafgieiaa
open Go.RowKit Go.Maps Go.Sort Go.WideShapes Go.ChangeShapes Go.Deep
set_option linter.unusedVariables false
set_option linter.unusedSimpArgs false
attribute [local go_sem] later_cell later_frozen later_lt cell_set_off cell_set_block

theorem among_any (w : World) (v : Value) (l : List Int) (h : SlAt 0 (fun i => .int .i64 (nth l i)) l.length w v) (hl : l.length ≤ 4000000000) (n : Int) (hn : n ∈ l) :
    Calls Try.prog 17 #[v, .int .i64 n] w fun e w' => e = .returned (.bool true) ∧ Below w.heap.size w w' := by
  obtain ⟨a, c, rfl, _⟩ := h.slice
  have S := Lib.hid h
  have HN := Lib.hid hn
  clear h hn
  go_enter Try.func17, Try.ntmps17
  go_wp2_with fail
  go_loopw [9] (fun i wr => ∃ k : Nat, k ≤ l.length ∧ i = .int .i64 k ∧ Hid (∀ j, j < k → nth l j ≠ n) ∧ Hid (Below w.heap.size w wr)) (fun i _ => l.length - (intOf i).toNat)
  case atStart => exact ⟨0, Nat.zero_le _, rfl, fun j hj => absurd hj (Nat.not_lt_zero _), Below.refl _ _⟩
  case round =>
    obtain ⟨k, hk, rfl, hno, hB⟩ := hrel
    by_cases hlt : k < l.length
    · obtain ⟨b, off, rfl, _, hbz, hck⟩ := S.out.at k hlt wr hB.out
      by_cases hx : nth l k = n
      · rw [hx] at hck
        clear hx
        go_wp2_with fail
        go_ret
        exact ⟨rfl, hB.out⟩
      · have hno' : Hid (∀ j, j < k + 1 → nth l j ≠ n) := fun j hj => by
          rcases Nat.lt_or_ge j k with h | h
          · exact hno.out j h
          · have : j = k := by omega
            rw [this]; exact hx
        have hxb : (nth l k == n) = false := by simpa using hx
        obtain ⟨y, hy⟩ : ∃ z, z = nth l k := ⟨_, rfl⟩
        rw [← hy] at hck hxb
        clear hx hy
        go_wp2_with fail
        go_roundw
        case rel => go_light; exact ⟨k + 1, by omega, by go_num, hno', hB⟩
        case measure => go_light; simp [intOf]; omega
    · exfalso
      obtain ⟨j, hj, e⟩ := nth_mem.1 HN.out
      exact hno.out j (by omega) e
/-- One of the members does not live: there is no tree. -/
theorem first_dead {f : RS} : ∀ (l : List Int), (∃ m ∈ l, livesR f m = false) → ∃ a n b, l = a ++ n :: b ∧ (∀ x ∈ a, livesR f x = true) ∧ livesR f n = false
  | [], h => by obtain ⟨m, h, _⟩ := h; cases h
  | x :: l, h => by
    cases hx : livesR f x with
    | false => exact ⟨[], x, l, rfl, (fun y hy => by cases hy), hx⟩
    | true =>
      obtain ⟨m, hm, hd⟩ := h
      have hm' : m ∈ l := by
        rcases List.mem_cons.1 hm with e | e
        · rw [e, hx] at hd; cases hd
        · exact e
      obtain ⟨a, n, b, e, h1, h2⟩ := first_dead l ⟨m, hm', hd⟩
      exact ⟨x :: a, n, b, by rw [e]; rfl, fun y hy => by
        rcases List.mem_cons.1 hy with e | e
        · rw [e]; exact hx
        · exact h1 y e, h2⟩
theorem tree_dead {f : RS} (G : Good f) (F : Int → List Int) {X : Int} (hX : isPlace X) (ms : List Int) (h : ∃ m ∈ ms, livesR f m = false) : treeR (nxG f F X) ms = .inr 6 := by
  obtain ⟨a, n, b, rfl, ha, hn⟩ := first_dead ms h
  obtain ⟨t, ht, T⟩ := grows_good G F hX a ha
  have h1 : ¬ ((t.up n).isSome = true ∨ (t.root ≠ -1 ∧ n = t.root)) := by
    rintro (h | ⟨h, e⟩)
    · obtain ⟨v, hv⟩ := Option.isSome_iff_exists.1 h
      have := (T.tg.val n v hv).2.2
      rw [hn] at this; cases this
    · have hr := T.tg.root.resolve_left h
      have := owner_lives G.inv X
      rw [e, hr] at hn
      exact absurd (hn.symm.trans this) (by decide)
  have h2 : climb (nxG f F X) 66 t n = .inr 6 := by
    unfold climb
    rw [if_neg h1]
    unfold nxG
    rw [hn]; rfl
  have h3 : grows (nxG f F X) (a ++ n :: b) = .inr 6 := by
    have e : grows (nxG f F X) (a ++ n :: b) = b.foldl (grow1 (nxG f F X)) (grow1 (nxG f F X) (grows (nxG f F X) a) n) := by unfold grows; rw [List.foldl_append]; rfl
    rw [e, ht, show grow1 (nxG f F X) (.inl t) n = .inr 6 from h2]
    exact grow_inr _ _ _
  unfold treeR
  rw [h3]
/-- A tree of more members has all that the tree of fewer has. -/
theorem more_tree {f : RS} (G : Good f) (F : Int → List Int) {X : Int} (hX : isPlace X) {a b : List Int} {s t : TS} (A : IsTree f F X a s) (B : IsTree f F X b t) (h : ∀ x ∈ a, x ∈ b) : ∀ x v, s.up x = some v → t.up x = some v := fun x v hx => by
  obtain ⟨m, h1, h2⟩ := (A.ups x).1 (by rw [hx]; rfl)
  have hs := (B.ups x).2 ⟨m, h m h1, h2⟩
  obtain ⟨u, hu⟩ := Option.isSome_iff_exists.1 hs
  rw [hu, (A.tg.val x v hx).1, (B.tg.val x u hu).1]
theorem is_codeC (c : Int) (w : World) : Calls Try.prog 15 #[.iface 44 (.int .i64 c), .iface 44 (.int .i64 c)] w fun e w' => e = .returned (.bool true) ∧ w = w' := by
  obtain ⟨i, hi, hcmp⟩ := Option.map_eq_some_iff.1 isComp
  have h8 := @run_callFunc_extern Try.prog 29 _ Extern.ReflectliteType.typeOf Try.func29 (by kernel_rfl) (by kernel_rfl) (by kernel_rfl) (by kernel_rfl)
  have h32 := @run_callFunc_extern Try.prog 125 _ extC Try.func125 (by kernel_rfl) (by kernel_rfl) (by kernel_rfl) (by kernel_rfl)
  have tT := isTypeOf
  have cT := isComparable
  have mR := isMethodComparable
  have heq := run_eql_iface_int (P := Try.prog) w c c Try.underlying27 Try.underlying44 hi hcmp
  have hq : (c == c) = true := by simp
  rw [hq] at heq
  clear hq
  go_enter Try.func15, Try.ntmps15
  go_wp2
  refine wp_loop_rounds 1 ?_
  rw [rounds_succ]
  go_wp2
  go_ret
  exact ⟨rfl, rfl⟩
/-- An error of a code is of that code. -/
theorem is_errV {B : Nat} {w : World} {v : Value} {c : Int} (h : ErrV B w v c) : Calls Try.prog 15 #[v, .iface 44 (.int .i64 c)] w fun e w' => e = .returned (.bool true) ∧ w = w' := by
  rcases h with rfl | ⟨b, rfl, _, _, hc⟩
  · exact is_codeC c w
  · refine (is_code b c c w hc).mono fun e w' h => ?_
    have : (c == c) = true := by simp
    rw [this] at h; exact h
theorem ErrV.below {B : Nat} {w w' : World} {v : Value} {c : Int} (h : ErrV B w v c) (hb : Below w.heap.size w w') : ErrV B w' v c := h.imp id fun h => IsErr.below h hb
set_option maxRecDepth 100000 in
set_option maxHeartbeats 16000000 in
theorem treeMore_main (W : World) (nm : ByteArray) (v : Value) (ms : List Int) (cut : Int) (hm : SlAt 0 (fun i => .int .i64 (nth ms i)) ms.length W v) (hmo : ∀ x ∈ ms, okInt x) :
    Calls Try.prog 4 #[.string nm, v, .int .i64 cut] W fun e w' => e = .returned (.bool true) ∧ Below W.heap.size W w' := by
  obtain ⟨a0, c0, rfl, hc0, hc1⟩ := hm.slice
  have SM := Lib.hid hm
  have HMO := Lib.hid hmo
  clear hm hmo
  go_enter Try.func4, Try.ntmps4
  go_wp2_with fail
  refine (base_any _).mono ?_
  rintro e w1 ⟨v1, rfl, hs1, hB1⟩
  go_wp2_with fail
  refine (new_any w1 v1 ids0 (hs1.base (Nat.zero_le _)) (by unfold ids0 isPlace; simp)).mono ?_
  intro e w2 hp
  unfold AskPost at hp
  rw [show fourB ids0 = true from by unfold fourB; rw [set0]; rfl, if_pos rfl] at hp
  obtain ⟨rb, mb, g, rfl, R2, hB2⟩ := hp
  rw [set0, f0_eq] at R2
  have B2 := Lib.hid (bel_below hB1 hB2)
  have H2 := Lib.hid R2
  clear hs1 hB1 R2 hB2
  by_cases hn : 60 < nm.size
  · have hnI : (60 : Int) < ((nm.size : Nat) : Int) := by omega
    go_wp2_with fail
    refine (awake20_any _).mono ?_
    rintro e w3 ⟨rfl, hb3⟩
    go_wp2_with fail
    go_ret
    exact ⟨rfl, bel_below B2.out hb3⟩
  · have hnI : ¬ (60 : Int) < ((nm.size : Nat) : Int) := by omega
    by_cases hl : 12 < ms.length
    · have hlI : (12 : Int) < ((ms.length : Nat) : Int) := by omega
      go_wp2_with fail
      refine (awake20_any _).mono ?_
      rintro e w3 ⟨rfl, hb3⟩
      go_wp2_with fail
      go_ret
      exact ⟨rfl, bel_below B2.out hb3⟩
    · have hlI : ¬ (12 : Int) < ((ms.length : Nat) : Int) := by omega
      by_cases hc : cut < 0
      · go_wp2_with fail
        refine (awake20_any _).mono ?_
        rintro e w3 ⟨rfl, hb3⟩
        go_wp2_with fail
        go_ret
        exact ⟨rfl, bel_below B2.out hb3⟩
      · by_cases hcm : ((ms.length : Nat) : Int) < cut
        · go_wp2_with fail
          refine (awake20_any _).mono ?_
          rintro e w3 ⟨rfl, hb3⟩
          go_wp2_with fail
          go_ret
          exact ⟨rfl, bel_below B2.out hb3⟩
        · obtain ⟨c, rfl⟩ : ∃ c : Nat, cut = c := ⟨cut.toNat, by omega⟩
          have hcl : c ≤ ms.length := by omega
          have hcc : ((c : Nat) : Int) ≤ (c0 : Int) := by omega
          have hcc2 : c ≤ c0 := by omega
          go_wp2_with fail
          refine (newf_any w2 rb).mono ?_
          rintro e w3 ⟨fb, fm, rfl, hf, hb3⟩
          have H3 := Lib.hid (H2.out.below hb3)
          have F3 := Lib.hid hf
          have B3 := Lib.hid (bel_below B2.out hb3)
          have S3 := Lib.hid (SM.out.below B3.out)
          clear hf hb3 H2 B2
          go_wp2_with fail
          go_loopw [66] (fun i wr => ∃ k : Nat, k ≤ ms.length ∧ i = .int .i64 k ∧ Hid (∀ x ∈ ms.take k, livesR F0 x = true) ∧ Hid (Below w3.heap.size w3 wr)) (fun i _ => ms.length - (intOf i).toNat)
          case atStart => exact ⟨0, Nat.zero_le _, rfl, (fun x hx => by simp at hx), Below.refl _ _⟩
          case round =>
            obtain ⟨k, hk, rfl, hlv, hB⟩ := hrel
            by_cases hlt : k < ms.length
            · obtain ⟨b, off, rfl, _, hbz, hck⟩ := S3.out.at k hlt wr hB.out
              have okn := HMO.out _ (nth_mem.2 ⟨k, hlt, rfl⟩)
              have hmem : nth ms k ∈ ms := nth_mem.2 ⟨k, hlt, rfl⟩
              have CL := lives_at (H3.out.below hB.out) (nth ms k) okn
              cases hlive : livesR F0 (nth ms k) with
              | false =>
                rw [hlive] at CL
                have CL := Lib.hid CL
                have CO := of_fin wr _ ms nm (H3.out.below hB.out) (F3.out.below hB.out) inv0 (S3.out.below hB.out) HMO.out (by omega) (by omega)
                unfold OfPost at CO
                rw [tree_dead base_good (fun _ => []) (keyH_place nm) ms ⟨_, hmem, hlive⟩] at CO
                have CO := Lib.hid CO
                obtain ⟨n, hne⟩ : ∃ z, z = nth ms k := ⟨_, rfl⟩
                rw [← hne] at hck CL
                clear hne hlive okn hmem
                go_wp2_with fail
                refine CL.out.mono ?_
                rintro e w9 ⟨rfl, rfl⟩
                clear CL
                go_wp2_with fail
                refine CO.out.mono ?_
                rintro e w4 ⟨v, rfl, hE, hb4⟩
                have B4 := Lib.hid (bel_below B3.out (bel_below hB.out hb4))
                have HE := Lib.hid hE
                clear hE hb4 CO hck hbz
                go_wp2_with fail
                refine (awake20_any _).mono ?_
                rintro e w5 ⟨rfl, hb5⟩
                have HE5 := Lib.hid (HE.out.below (bel_below (bel_alloc (Below.refl _ _) _) hb5))
                have B5 := Lib.hid (bel_below (bel_alloc B4.out _) hb5)
                clear hb5 HE B4
                go_wp2_with fail
                refine (is_errV HE5.out).mono ?_
                rintro e w6 ⟨rfl, rfl⟩
                go_wp2_with fail
                go_ret
                exact ⟨rfl, B5.out⟩
              | true =>
                rw [hlive] at CL
                have CL := Lib.hid CL
                have HLV : Hid (∀ x ∈ ms.take (k + 1), livesR F0 x = true) := fun x hx => by
                  rw [List.take_succ_eq_append_getElem hlt] at hx
                  rcases List.mem_append.1 hx with h | h
                  · exact hlv.out x h
                  · rw [List.mem_singleton.1 h, ← nth_eq hlt]; exact hlive
                obtain ⟨n, hne⟩ : ∃ z, z = nth ms k := ⟨_, rfl⟩
                rw [← hne] at hck CL
                clear hne hlive okn hmem
                go_wp2_with fail
                refine CL.out.mono ?_
                rintro e w9 ⟨rfl, rfl⟩
                go_wp2_with fail
                go_roundw
                case rel => go_light; exact ⟨k + 1, by omega, by go_num, HLV, hB⟩
                case measure => go_light; simp [intOf]; omega
            · obtain rfl : k = ms.length := by omega
              have hlive := hlv.out
              rw [List.take_length] at hlive
              have HLV := Lib.hid hlive
              have H4 := Lib.hid (H3.out.below hB.out)
              have F4 := Lib.hid (F3.out.below hB.out)
              have B4 := Lib.hid (bel_below B3.out hB.out)
              have S4 := Lib.hid (S3.out.below hB.out)
              obtain ⟨l, hle⟩ : ∃ z, z = ms.take c := ⟨_, rfl⟩
              have hll : l.length = c := by rw [hle, List.length_take]; omega
              have hsub : ∀ x ∈ l, x ∈ ms := fun x hx => by rw [hle] at hx; exact List.mem_of_mem_take hx
              have SL : SlAt 0 (fun i => .int .i64 (nth l i)) l.length wr (.slice a0 c c0) := by
                rw [hll]
                exact (S4.out.take (m := c) (by omega)).congr fun i hi => by rw [hle, nth_take hi]
              obtain ⟨ta, hta, IA, JA⟩ := tree_good base_good (fun _ => []) (keyH_place nm) l (fun x hx => HLV.out x (hsub x hx))
              obtain ⟨tb, htb, IB, JB⟩ := tree_good base_good (fun _ => []) (keyH_place nm) ms HLV.out
              have CA := of_fin wr _ l nm H4.out F4.out inv0 SL (fun x hx => HMO.out x (hsub x hx)) (by omega) (by omega)
              unfold OfPost at CA
              rw [hta] at CA
              have CA := Lib.hid CA
              have CB := Lib.hid fun (w' : World) (hb : Below wr.heap.size wr w') => (by
                have C := of_fin w' _ ms nm (H4.out.below hb) (F4.out.below hb) inv0 (S4.out.below hb) HMO.out (by omega) (by omega)
                unfold OfPost at C
                rw [htb] at C
                exact C : Calls Try.prog 7 _ w' _)
              have HML : Hid (∀ m ∈ l, livesR F0 m = true) := fun x hx => HLV.out x (hsub x hx)
              have HNL : Hid (∀ x, x ∈ nodesS ta → depthR tb x = depthR ta x ∧ x ∈ nodesS tb) := fun x hx => by
                have h1 := (node_iff base_good _ (keyH_place nm) IA HML.out x).1 (nodes_mem.1 hx)
                have h2 : ∃ m ∈ ms, x ∈ wayOf F0 (fun _ => []) (keyH nm) m := by obtain ⟨m, a, b⟩ := h1; exact ⟨m, hsub m a, b⟩
                refine ⟨?_, nodes_mem.2 ((node_iff base_good _ (keyH_place nm) IB HLV.out x).2 h2)⟩
                rw [(depth_way base_good _ (keyH_place nm) IA JA HML.out h1).2.1, (depth_way base_good _ (keyH_place nm) IB JB HLV.out h2).2.1]
              have HLL : Hid ((nodesS ta).length ≤ (nodesS tb).length) := up_sub_len (nodes_up JB) (nodes_up JA) fun x hx => (HNL.out x hx).2
              have HKS : Hid (∀ n x, x ∈ kidsS ta n → x ∈ kidsS tb n) := fun n x hx => kids_mem.2 (more_tree base_good _ (keyH_place nm) IA IB hsub x n (kids_mem.1 hx))
              have HRT : Hid (c = 0 ∨ ta.root = tb.root) := show _ ∨ _ by
                by_cases h0 : c = 0
                · exact Or.inl h0
                · right
                  rw [IA.root, IB.root, if_neg (fun e => by rw [e] at hll; simp at hll; omega), if_neg (fun e => by rw [e] at hcl; simp at hcl; omega)]
              have HJA := Lib.hid JA
              have HJB := Lib.hid JB
              clear hlive hlv HLV HML hsub hle SL hta htb IA IB JA JB S3 S4 F3 F4 H3 B3
              go_wp2_with fail
              refine CA.out.mono ?_
              rintro e w5 ⟨ma, rfl, hTA, _, hb5⟩
              obtain ⟨r, hr⟩ : ∃ z, z = ta.root := ⟨_, rfl⟩
              obtain ⟨w6, hw6⟩ : ∃ z, z = w5.alloc (.cells #[.int .i64 r, .map (some ma)] 25) := ⟨_, rfl⟩
              obtain ⟨X, hX⟩ : ∃ z, z = w5.heap.size := ⟨_, rfl⟩
              have b56 : Below w5.heap.size w5 w6 := by rw [hw6]; exact bel_alloc (Below.refl _ _) _
              have x0 : w6.cell? ⟨X, 0, none⟩ = some (.int .i64 r) := by rw [hw6, hX]; simp [go_sem]
              have x1 : w6.cell? ⟨X, 1, none⟩ = some (.map (some ma)) := by rw [hw6, hX]; simp [go_sem]
              have xz : X < w6.heap.size := by rw [hw6, hX]; simp
              have TA := Lib.hid (hTA.below b56)
              have B46 := Lib.hid (bel_below hb5 b56)
              have CB6 := Lib.hid (CB.out w6 B46.out)
              rw [← hr] at HRT ⊢
              have HR := Lib.hid hr
              clear hTA hb5 b56 CA CB hr
              go_wp2_with fail
              rw [← hw6]
              try rw [← hX]
              clear hw6 hX
              refine CB6.out.mono ?_
              rintro e w7 ⟨mb2, rfl, hTB, _, hb7⟩
              obtain ⟨r2, hr2⟩ : ∃ z, z = tb.root := ⟨_, rfl⟩
              obtain ⟨w8, hw8⟩ : ∃ z, z = w7.alloc (.cells #[.int .i64 r2, .map (some mb2)] 25) := ⟨_, rfl⟩
              obtain ⟨Y, hY⟩ : ∃ z, z = w7.heap.size := ⟨_, rfl⟩
              have b78 : Below w7.heap.size w7 w8 := by rw [hw8]; exact bel_alloc (Below.refl _ _) _
              have b68 := bel_below hb7 b78
              have y0 : w8.cell? ⟨Y, 0, none⟩ = some (.int .i64 r2) := by rw [hw8, hY]; simp [go_sem]
              have y1 : w8.cell? ⟨Y, 1, none⟩ = some (.map (some mb2)) := by rw [hw8, hY]; simp [go_sem]
              have yz : Y < w8.heap.size := by rw [hw8, hY]; simp
              have x0 := (b68.cell (p := ⟨X, 0, none⟩) xz).trans x0
              have x1 := (b68.cell (p := ⟨X, 1, none⟩) xz).trans x1
              have xz := Nat.lt_of_lt_of_le xz b68.size
              have B8 := Lib.hid (bel_below B4.out (bel_below B46.out b68))
              have TA8 := Lib.hid (TA.out.below b68)
              have TB8 := Lib.hid (hTB.below b78)
              rw [← hr2] at HRT ⊢
              have HR2 := Lib.hid hr2
              clear hr2
              have CNA : Hid (∀ wr, Below w8.heap.size w8 wr → Calls Try.prog 16 #[.agg #[.int .i64 r, .map (some ma)]] wr (NewList wr (nodesS ta))) := fun wr hb => by
                have C := nodes_at wr ma ta (TA8.out.below hb) HJA.out; rw [← HR.out] at C; exact C
              have CNB : Hid (∀ wr, Below w8.heap.size w8 wr → Calls Try.prog 16 #[.agg #[.int .i64 r2, .map (some mb2)]] wr (NewList wr (nodesS tb))) := fun wr hb => by
                have C := nodes_at wr mb2 tb (TB8.out.below hb) HJB.out; rw [← HR2.out] at C; exact C
              have CKA : Hid (∀ wr n, Below w8.heap.size w8 wr → Calls Try.prog 9 #[.agg #[.int .i64 r, .map (some ma)], .int .i64 n] wr (NewList wr (kidsS ta n))) := fun wr n hb => by
                have C := kids_at wr ma ta (TA8.out.below hb) HJA.out n; rw [← HR.out] at C; exact C
              have CKB : Hid (∀ wr n, Below w8.heap.size w8 wr → Calls Try.prog 9 #[.agg #[.int .i64 r2, .map (some mb2)], .int .i64 n] wr (NewList wr (kidsS tb n))) := fun wr n hb => by
                have C := kids_at wr mb2 tb (TB8.out.below hb) HJB.out n; rw [← HR2.out] at C; exact C
              have CDA : Hid (∀ wr n, okInt n → Below w8.heap.size w8 wr → Calls Try.prog 10 #[.agg #[.int .i64 r, .map (some ma)], .int .i64 n] wr fun e w' => e = .returned (.int .i64 (depthR ta n)) ∧ Below wr.heap.size wr w') := fun wr n hn hb => by
                have C := depth_at wr ma ta (TA8.out.below hb) n hn; rw [← HR.out] at C; exact C
              have CDB : Hid (∀ wr n, okInt n → Below w8.heap.size w8 wr → Calls Try.prog 10 #[.agg #[.int .i64 r2, .map (some mb2)], .int .i64 n] wr fun e w' => e = .returned (.int .i64 (depthR tb n)) ∧ Below wr.heap.size wr w') := fun wr n hn hb => by
                have C := depth_at wr mb2 tb (TB8.out.below hb) n hn; rw [← HR2.out] at C; exact C
              have HKL : Hid (∀ n, (kidsS ta n).length ≤ 4000000000 ∧ (kidsS tb n).length ≤ 4000000000) := fun n => by
                have h1 := TA8.out.small
                have h2 := TB8.out.small
                have key : ∀ t : TS, (kidsS t n).length ≤ t.ups.length := fun t => by
                  have h3 : (keysL t.ups).length = t.ups.length := by simp [keysL]
                  unfold kidsS kidsL
                  rw [List.length_mergeSort, ← h3]
                  exact List.length_filter_le _ _
                have := key ta
                have := key tb
                exact ⟨by omega, by omega⟩
              have HNN : Hid ((nodesS ta).length ≤ 4000000000 ∧ (nodesS tb).length ≤ 4000000000) := show _ ∧ _ by
                have h1 := TA8.out.small
                have h2 := TB8.out.small
                have key : ∀ t : TS, (nodesS t).length ≤ t.ups.length + 1 := fun t => by
                  have h2 := nodes_len t
                  have h3 : (keysL t.ups).length = t.ups.length := by simp [keysL]
                  unfold nodesL at h2
                  split at h2 <;> simp at h2 <;> omega
                have := key ta
                have := key tb
                exact ⟨by omega, by omega⟩
              have HOK : Hid (∀ x, x ∈ nodesS ta → okInt x) := fun x hx => by
                rcases nodes_mem.1 hx with h | ⟨_, h⟩
                · obtain ⟨v, hv⟩ := Option.isSome_iff_exists.1 h
                  exact (TA8.out.up_ok hv).1
                · rw [h]; exact TA8.out.root
              clear hTB hb7 b78 b68 CB6 TA TA8 TB8 HJA HJB H4 B46 B4 HR HR2
              go_upto_region 14 with (fail)
              rw [← hw8]
              try rw [← hY]
              clear hw8 hY
              obtain ⟨ns, hns⟩ : ∃ z, z = nodesS ta := ⟨_, rfl⟩
              obtain ⟨nt, hnt⟩ : ∃ z, z = nodesS tb := ⟨_, rfl⟩
              rw [← hns] at CNA HNL HLL HNN HOK
              rw [← hnt] at CNB HNL HLL HNN
              clear hns hnt
              go_wp2_with fail
              refine (CNA.out _ (Below.refl _ _)).mono ?_
              rintro e w9 ⟨v9, rfl, hs9, hb9⟩
              obtain ⟨p9, q9, rfl, _⟩ := hs9.slice
              have S9 := Lib.hid (hs9.base (Nat.zero_le _))
              have B9 := Lib.hid hb9
              have x0 := (hb9.cell (p := ⟨X, 0, none⟩) xz).trans x0
              have x1 := (hb9.cell (p := ⟨X, 1, none⟩) xz).trans x1
              have xz := Nat.lt_of_lt_of_le xz hb9.size
              have y0 := (hb9.cell (p := ⟨Y, 0, none⟩) yz).trans y0
              have y1 := (hb9.cell (p := ⟨Y, 1, none⟩) yz).trans y1
              have yz := Nat.lt_of_lt_of_le yz hb9.size
              clear hs9 hb9
              go_wp2_with fail
              go_loopw [116] (fun i wr => ∃ k : Nat, k ≤ ns.length ∧ i = .int .i64 k ∧ Hid (RowKit.Below w9.heap.size w9 wr)) (fun i _ => ns.length - (intOf i).toNat)
              case atStart => exact ⟨0, Nat.zero_le _, rfl, RowKit.Below.refl _ _⟩
              case round =>
                obtain ⟨k, hk, rfl, hB⟩ := hrel
                have x0 := (hB.out.cell (p := ⟨X, 0, none⟩) xz).trans x0
                have x1 := (hB.out.cell (p := ⟨X, 1, none⟩) xz).trans x1
                have xz := Nat.lt_of_lt_of_le xz hB.out.size
                have y0 := (hB.out.cell (p := ⟨Y, 0, none⟩) yz).trans y0
                have y1 := (hB.out.cell (p := ⟨Y, 1, none⟩) yz).trans y1
                have yz := Nat.lt_of_lt_of_le yz hB.out.size
                by_cases hlt : k < ns.length
                · obtain ⟨b, off, rfl, _, hbz, hck⟩ := S9.out.at k hlt wr hB.out
                  have hmem : nth ns k ∈ ns := nth_mem.2 ⟨k, hlt, rfl⟩
                  have okn := HOK.out _ hmem
                  have hdd := (HNL.out _ hmem).1
                  obtain ⟨n, hne⟩ : ∃ z, z = nth ns k := ⟨_, rfl⟩
                  rw [← hne] at hck okn hdd
                  have BB := Lib.hid (bel_below B9.out hB.out)
                  have C1 := Lib.hid fun w' (hb : RowKit.Below wr.heap.size wr w') => CDA.out w' n okn (bel_below BB.out hb)
                  have C2 := Lib.hid fun w' (hb : RowKit.Below wr.heap.size wr w') => CDB.out w' n okn (bel_below BB.out hb)
                  rw [hdd] at C2
                  obtain ⟨d, hd⟩ : ∃ z, z = depthR ta n := ⟨_, rfl⟩
                  rw [← hd] at C1 C2
                  obtain ⟨L, hL⟩ : ∃ z, z = kidsS ta n := ⟨_, rfl⟩
                  obtain ⟨M, hM⟩ : ∃ z, z = kidsS tb n := ⟨_, rfl⟩
                  have CK1 : Hid (∀ w', RowKit.Below wr.heap.size wr w' → Calls Try.prog 9 #[.agg #[.int .i64 r, .map (some ma)], .int .i64 n] w' (NewList w' L)) := fun w' hb => by rw [hL]; exact CKA.out w' n (bel_below BB.out hb)
                  have CK2 : Hid (∀ w', RowKit.Below wr.heap.size wr w' → Calls Try.prog 9 #[.agg #[.int .i64 r2, .map (some mb2)], .int .i64 n] w' (NewList w' M)) := fun w' hb => by rw [hM]; exact CKB.out w' n (bel_below BB.out hb)
                  have HLM : Hid (∀ x ∈ L, x ∈ M) := fun x hx => by rw [hL] at hx; rw [hM]; exact HKS.out n x hx
                  have HLn : Hid (L.length ≤ 4000000000 ∧ M.length ≤ 4000000000) := show _ ∧ _ by rw [hL, hM]; exact HKL.out n
                  clear hmem okn hdd hne hd hL hM
                  go_wp2_with fail
                  refine wp_region_calm (by kernel_rfl) (by kernel_rfl) ?_
                  repeat (first | (go_big_quiet_step ((first | (go_at_call_of 10 (Value.agg #[Value.int .i64 r, Value.map (some ma)]); exact calls_calm (C1.out _ (by (repeat (first | exact Below.refl _ _ | (with_reducible assumption) | (with_reducible refine bel_later ?_ _) | (with_reducible refine bel_alloc ?_ _) | (with_reducible refine bel_drew ?_) | (with_reducible refine bel_drewN ?_ _) | (with_reducible refine bel_set ?_ (by first | (simp; done) | (simp; omega) | (dsimp only; omega)) _)))))) | (go_at_call 10; exact calls_calm (C2.out _ (by (repeat (first | exact Below.refl _ _ | (with_reducible assumption) | (with_reducible refine bel_later ?_ _) | (with_reducible refine bel_alloc ?_ _) | (with_reducible refine bel_drew ?_) | (with_reducible refine bel_drewN ?_ _) | (with_reducible refine bel_set ?_ (by first | (simp; done) | (simp; omega) | (dsimp only; omega)) _))))))))) | (refine wpQuiet_step (fun K hK => ?_); go_simp; first | (refine hK _ ?_; clear hK K) | (apply Exists.intro; refine ⟨fun _ => ?_, hK _ ?_⟩; (first | (go_at_call_of 10 (Value.agg #[Value.int .i64 r, Value.map (some ma)]); exact calls_calm (C1.out _ (by (repeat (first | exact Below.refl _ _ | (with_reducible assumption) | (with_reducible refine bel_later ?_ _) | (with_reducible refine bel_alloc ?_ _) | (with_reducible refine bel_drew ?_) | (with_reducible refine bel_drewN ?_ _) | (with_reducible refine bel_set ?_ (by first | (simp; done) | (simp; omega) | (dsimp only; omega)) _)))))) | (go_at_call 10; exact calls_calm (C2.out _ (by (repeat (first | exact Below.refl _ _ | (with_reducible assumption) | (with_reducible refine bel_later ?_ _) | (with_reducible refine bel_alloc ?_ _) | (with_reducible refine bel_drew ?_) | (with_reducible refine bel_drewN ?_ _) | (with_reducible refine bel_set ?_ (by first | (simp; done) | (simp; omega) | (dsimp only; omega)) _))))))); clear hK K)))
                  refine wpQuiet_nil ?_
                  intro _ hw'
                  obtain ⟨xq, hw''⟩ := hw'
                  subst hw''
                  obtain ⟨wy, hby⟩ := xq
                  dsimp only
                  have x0 := (hby.cell (p := ⟨X, 0, none⟩) xz).trans x0
                  have x1 := (hby.cell (p := ⟨X, 1, none⟩) xz).trans x1
                  have xz := Nat.lt_of_lt_of_le xz hby.size
                  have y0 := (hby.cell (p := ⟨Y, 0, none⟩) yz).trans y0
                  have y1 := (hby.cell (p := ⟨Y, 1, none⟩) yz).trans y1
                  have yz := Nat.lt_of_lt_of_le yz hby.size
                  have BY := Lib.hid hby
                  clear hby C1 C2 hck hbz
                  go_wp2_with fail
                  refine (CK1.out _ BY.out).mono ?_
                  rintro e wk ⟨vk, rfl, hsk, hbk⟩
                  obtain ⟨pk, qk, rfl, _⟩ := hsk.slice
                  have SK := Lib.hid (hsk.base (Nat.zero_le _))
                  have BK := Lib.hid (bel_below BY.out hbk)
                  have y0 := (hbk.cell (p := ⟨Y, 0, none⟩) yz).trans y0
                  have y1 := (hbk.cell (p := ⟨Y, 1, none⟩) yz).trans y1
                  have yz := Nat.lt_of_lt_of_le yz hbk.size
                  have hnl := HNN.out.1
                  have hml := HLn.out.1
                  clear hsk hbk BY x0 x1 xz
                  go_wp2_with fail
                  go_loopw [131] (fun i wr => ∃ j : Nat, j ≤ L.length ∧ i = .int .i64 j ∧ Hid (RowKit.Below wk.heap.size wk wr)) (fun i _ => L.length - (intOf i).toNat)
                  case atStart => exact ⟨0, Nat.zero_le _, rfl, RowKit.Below.refl _ _⟩
                  case round =>
                    obtain ⟨j, hj, rfl, hBi⟩ := hrel
                    have y0 := (hBi.out.cell (p := ⟨Y, 0, none⟩) yz).trans y0
                    have y1 := (hBi.out.cell (p := ⟨Y, 1, none⟩) yz).trans y1
                    have yz := Nat.lt_of_lt_of_le yz hBi.out.size
                    by_cases hjl : j < L.length
                    · obtain ⟨b2, off2, rfl, _, hbz2, hcj⟩ := SK.out.at j hjl wr hBi.out
                      have hmx := HLM.out _ (nth_mem.2 ⟨j, hjl, rfl⟩)
                      obtain ⟨x, hx⟩ : ∃ z, z = nth L j := ⟨_, rfl⟩
                      rw [← hx] at hcj hmx
                      have HMX := Lib.hid hmx
                      have CK := Lib.hid (CK2.out wr (bel_below BK.out hBi.out))
                      clear hx hmx
                      go_wp2_with fail
                      refine CK.out.mono ?_
                      rintro e wm ⟨vm, rfl, hsm, hbm⟩
                      obtain ⟨pm, qm, rfl, _⟩ := hsm.slice
                      have CAm := Lib.hid (among_any wm _ M (hsm.base (Nat.zero_le _)) HLn.out.2 x HMX.out)
                      have BM := Lib.hid (bel_below hBi.out hbm)
                      clear hsm hbm hcj hbz2 CK y0 y1 yz
                      go_wp2_with fail
                      refine CAm.out.mono ?_
                      rintro e wn ⟨rfl, hbn⟩
                      have BN := Lib.hid (bel_below BM.out hbn)
                      clear hbn CAm
                      go_wp2_with fail
                      go_roundw
                      case rel => go_light; exact ⟨j + 1, by omega, by go_num, BN⟩
                      case measure => go_light; simp [intOf]; omega
                    · obtain rfl : j = L.length := by omega
                      have BX := Lib.hid (bel_below hB.out (bel_below BK.out hBi.out))
                      go_wp2_with fail
                      go_roundw
                      case rel => go_light; exact ⟨k + 1, by omega, by go_num, BX⟩
                      case measure => go_light; simp [intOf]; omega
                · obtain rfl : k = ns.length := by omega
                  have BW := Lib.hid (bel_below B9.out hB.out)
                  have BE := Lib.hid (bel_below B8.out BW.out)
                  have HGE : Hid (((ns.length : Nat) : Int) ≤ ((nt.length : Nat) : Int)) := show _ ≤ _ by have := HLL.out; omega
                  clear CKA CKB CDA CDB S9 B9 B8 HNN HKL hB HNL HLL HOK HKS
                  go_wp2_with fail
                  by_cases h0 : c = 0
                  · have h0b : (((c : Nat) : Int) == 0) = true := by rw [h0]; rfl
                    clear HRT
                    refine wp_region_heads [] 21 (fun w' => ∃ y : Later wr, w' = y.world) (by kernel_rfl) (by kernel_rfl) ⟨⟨{ wr with drawn := wr.drawn + 1 }, (RowKit.Below.refl _ _).drew⟩, rfl⟩ ?_ ?_
                    · intro d v c a w h
                      cases d <;> exact h
                    simp only [headOps]
                    repeat (refine wpTame_step (fun K hK => ?_); go_simp; refine hK _ ?_; clear hK K)
                    refine wpTame_nil ?_
                    refine wpAnyC_step (f := 21) [0] (by kernel_rfl) rfl rfl (fun i hi => ?_)
                    simp only [List.mem_cons, List.not_mem_nil, or_false] at hi
                    subst hi
                    refine ⟨_, rfl, fun R hR => ?_⟩
                    go_wp2_with fail
                    refine (awake20_any _).mono ?_
                    rintro e wa ⟨rfl, hba⟩
                    have BA := Lib.hid ((bel_drew (RowKit.Below.refl _ _)).trans (hba.mono (by simp)) : RowKit.Below wr.heap.size wr wa)
                    clear hba
                    go_wp2_with fail
                    refine hR _ _ ⟨⟨wa, (BA).out⟩, rfl⟩ ?_
                    clear hR R
                    refine wpAnyC_mid (f := 17) [1, 2, 3, 4] ⟨⟨wa, BA.out⟩, rfl⟩ (by kernel_rfl) (fun d v c a w h => by cases d <;> exact h) ?_
                    simp only [headOps]
                    repeat (refine wpTame_step (fun K hK => ?_); go_simp; refine hK _ ?_; clear hK K)
                    refine wpTame_nil ?_
                    refine wpAnyC_mid (f := 9) [5, 6, 7, 8, 9, 10, 11, 12] ⟨⟨wa, BA.out⟩, rfl⟩ (by kernel_rfl) (fun d v c a w h => by cases d <;> exact h) ?_
                    simp only [headOps]
                    repeat (refine wpTame_step (fun K hK => ?_); go_simp; refine hK _ ?_; clear hK K)
                    refine wpTame_nil ?_
                    refine wpAnyC_mid (f := 7) [13, 16] ⟨⟨wa, BA.out⟩, rfl⟩ (by kernel_rfl) (fun d v c a w h => by cases d <;> exact h) ?_
                    simp only [headOps]
                    repeat (refine wpTame_step (fun K hK => ?_); go_simp; refine hK _ ?_; clear hK K)
                    refine wpTame_nil ?_
                    refine wpAnyC_step (f := 6) [14] (by kernel_rfl) rfl rfl (fun i hi => ?_)
                    simp only [List.mem_cons, List.not_mem_nil, or_false] at hi
                    subst hi
                    refine ⟨_, rfl, fun R hR => ?_⟩
                    go_wp2_with fail
                    refine (CNB.out _ (bel_below BW.out BA.out)).mono ?_
                    rintro e wb ⟨vb, rfl, hsb, hbb⟩
                    obtain ⟨pb, qb, rfl, _⟩ := hsb.slice
                    have BB := Lib.hid (bel_below BA.out hbb)
                    clear hsb hbb
                    go_wp2_with fail
                    refine hR _ _ ⟨⟨wb, (BB).out⟩, rfl⟩ ?_
                    clear hR R
                    refine wpAnyC_mid (f := 5) [15] ⟨⟨wb, BB.out⟩, rfl⟩ (by kernel_rfl) (fun d v c a w h => by cases d <;> exact h) ?_
                    simp only [headOps]
                    repeat (refine wpTame_step (fun K hK => ?_); go_simp; refine hK _ ?_; clear hK K)
                    refine wpTame_nil ?_
                    refine wpAnyC_step (f := 4) [17] (by kernel_rfl) rfl rfl (fun i hi => ?_)
                    simp only [List.mem_cons, List.not_mem_nil, or_false] at hi
                    subst hi
                    refine ⟨_, rfl, fun R hR => ?_⟩
                    go_wp2_with fail
                    refine (CNA.out _ (bel_below BW.out BB.out)).mono ?_
                    rintro e wc ⟨vc, rfl, hsc, hbc⟩
                    obtain ⟨pc, qc, rfl, _⟩ := hsc.slice
                    have BC := Lib.hid (bel_below BB.out hbc)
                    clear hsc hbc
                    go_wp2_with fail
                    refine hR _ _ ⟨⟨wc, (BC).out⟩, rfl⟩ ?_
                    clear hR R
                    have hge := HGE.out
                    refine wpAnyC_mid (f := 1) [18, 19, 20] ⟨⟨wc, BC.out⟩, rfl⟩ (by kernel_rfl) (fun d v c a w h => by cases d <;> exact h) ?_
                    simp only [headOps]
                    repeat (refine wpTame_step (fun K hK => ?_); go_simp; refine hK _ ?_; clear hK K)
                    refine wpTame_nil ?_
                    refine wpAnyC_end (k := 21) (by decide) rfl rfl (by kernel_rfl) ?_
                    go_wp2_with fail
                    go_ret
                    exact ⟨rfl, bel_below BE.out BC.out⟩
                  · have h0b : (((c : Nat) : Int) == 0) = false := by rw [beq_eq_false_iff_ne]; omega
                    obtain rfl : r = r2 := HRT.out.resolve_left h0
                    clear h0 HRT
                    refine wp_region_heads [] 21 (fun w' => ∃ y : Later wr, w' = y.world) (by kernel_rfl) (by kernel_rfl) ⟨⟨{ wr with drawn := wr.drawn + 1 }, (RowKit.Below.refl _ _).drew⟩, rfl⟩ ?_ ?_
                    · intro d v c a w h
                      cases d <;> exact h
                    simp only [headOps]
                    repeat (refine wpTame_step (fun K hK => ?_); go_simp; refine hK _ ?_; clear hK K)
                    refine wpTame_nil ?_
                    refine wpAnyC_step (f := 21) [0] (by kernel_rfl) rfl rfl (fun i hi => ?_)
                    simp only [List.mem_cons, List.not_mem_nil, or_false] at hi
                    subst hi
                    refine ⟨_, rfl, fun R hR => ?_⟩
                    go_wp2_with fail
                    refine (awake20_any _).mono ?_
                    rintro e wa ⟨rfl, hba⟩
                    have BA := Lib.hid ((bel_drew (RowKit.Below.refl _ _)).trans (hba.mono (by simp)) : RowKit.Below wr.heap.size wr wa)
                    clear hba
                    go_wp2_with fail
                    refine hR _ _ ⟨⟨wa, (BA).out⟩, rfl⟩ ?_
                    clear hR R
                    refine wpAnyC_mid (f := 17) [1, 2, 3, 4] ⟨⟨wa, BA.out⟩, rfl⟩ (by kernel_rfl) (fun d v c a w h => by cases d <;> exact h) ?_
                    simp only [headOps]
                    repeat (refine wpTame_step (fun K hK => ?_); go_simp; refine hK _ ?_; clear hK K)
                    refine wpTame_nil ?_
                    refine wpAnyC_mid (f := 9) [5, 6, 7, 8, 9, 10, 11, 12] ⟨⟨wa, BA.out⟩, rfl⟩ (by kernel_rfl) (fun d v c a w h => by cases d <;> exact h) ?_
                    simp only [headOps]
                    repeat (refine wpTame_step (fun K hK => ?_); go_simp; refine hK _ ?_; clear hK K)
                    refine wpTame_nil ?_
                    refine wpAnyC_mid (f := 7) [13, 16] ⟨⟨wa, BA.out⟩, rfl⟩ (by kernel_rfl) (fun d v c a w h => by cases d <;> exact h) ?_
                    simp only [headOps]
                    repeat (refine wpTame_step (fun K hK => ?_); go_simp; refine hK _ ?_; clear hK K)
                    refine wpTame_nil ?_
                    refine wpAnyC_step (f := 6) [14] (by kernel_rfl) rfl rfl (fun i hi => ?_)
                    simp only [List.mem_cons, List.not_mem_nil, or_false] at hi
                    subst hi
                    refine ⟨_, rfl, fun R hR => ?_⟩
                    go_wp2_with fail
                    refine (CNB.out _ (bel_below BW.out BA.out)).mono ?_
                    rintro e wb ⟨vb, rfl, hsb, hbb⟩
                    obtain ⟨pb, qb, rfl, _⟩ := hsb.slice
                    have BB := Lib.hid (bel_below BA.out hbb)
                    clear hsb hbb
                    go_wp2_with fail
                    refine hR _ _ ⟨⟨wb, (BB).out⟩, rfl⟩ ?_
                    clear hR R
                    refine wpAnyC_mid (f := 5) [15] ⟨⟨wb, BB.out⟩, rfl⟩ (by kernel_rfl) (fun d v c a w h => by cases d <;> exact h) ?_
                    simp only [headOps]
                    repeat (refine wpTame_step (fun K hK => ?_); go_simp; refine hK _ ?_; clear hK K)
                    refine wpTame_nil ?_
                    refine wpAnyC_step (f := 4) [17] (by kernel_rfl) rfl rfl (fun i hi => ?_)
                    simp only [List.mem_cons, List.not_mem_nil, or_false] at hi
                    subst hi
                    refine ⟨_, rfl, fun R hR => ?_⟩
                    go_wp2_with fail
                    refine (CNA.out _ (bel_below BW.out BB.out)).mono ?_
                    rintro e wc ⟨vc, rfl, hsc, hbc⟩
                    obtain ⟨pc, qc, rfl, _⟩ := hsc.slice
                    have BC := Lib.hid (bel_below BB.out hbc)
                    clear hsc hbc
                    go_wp2_with fail
                    refine hR _ _ ⟨⟨wc, (BC).out⟩, rfl⟩ ?_
                    clear hR R
                    have hge := HGE.out
                    refine wpAnyC_mid (f := 1) [18, 19, 20] ⟨⟨wc, BC.out⟩, rfl⟩ (by kernel_rfl) (fun d v c a w h => by cases d <;> exact h) ?_
                    simp only [headOps]
                    repeat (refine wpTame_step (fun K hK => ?_); go_simp; refine hK _ ?_; clear hK K)
                    refine wpTame_nil ?_
                    refine wpAnyC_end (k := 21) (by decide) rfl rfl (by kernel_rfl) ?_
                    go_wp2_with fail
                    go_ret
                    exact ⟨rfl, bel_below BE.out BC.out⟩
set_option maxRecDepth 100000 in
theorem treeMore_walk {H : Type} (enc : TypeId × Value → H) (W : World) (a0 : ByteArray) (y0 : a0.size ≤ 140737488351232) (v1 : Value) (d1 : DataW H) (p1 : List MemPlace) {r1 : Reach} {b1 : Nat} (ok1 : Value.okWide Try.prog W r1 b1 22 v1) (h1 : DataW.Trod enc Try.prog W 0 (fun _ => true) true 22 v1 d1 p1)
    (hlt1 : ∀ x ∈ p1, x.block < W.heap.size) (sz1 : ∀ n ∈ d1.weights Try.prog 22, n ≤ reachBytes) (a2 : Int) (w2 : (Lit.int .i64 a2).wf = true) :
    Calls Try.prog 4 #[.string a0, v1, .int .i64 a2] W fun e W' => e = .returned (.bool true) ∧ Below W.heap.size W W' := by
  obtain ⟨ms, hm, hmo⟩ := ints_open ok1 h1
  exact treeMore_main W a0 v1 ms a2 hm hmo
end Go.Proofs.Ytbhaapkafgieiaa
