
/-
  How a tree is made, of fingers.
-/
import Derived.Test.YtbhaapkafgieiaaTreeB
import Derived.Test.YtbhaapkafgieiaaTreeG
namespace Go.Proofs.Ytbhaapkafgieiaa
open Go.RowKit Go.Maps Go.Sort Go.WideShapes Go.ChangeShapes Go.Deep
set_option linter.unusedVariables false
set_option linter.unusedSimpArgs false
attribute [local go_sem] later_cell later_frozen later_lt cell_set_off cell_set_block


theorem method_fnext (k b : Nat) (w : World) : (method (k + 1) 40 (.pointer (some ⟨b, 0, none⟩)) "Next").run Try.prog w = .ok (107, .pointer (some ⟨b, 0, none⟩)) w := by kernel_rfl
theorem ahead_fnext (k b : Nat) (w : World) : (nilAhead (k + 1) 40 (.pointer (some ⟨b, 0, none⟩)) "Next").run Try.prog w = .ok (some false) w := by kernel_rfl
variable {S Q : Nat → Prop} {rb mb : Nat} {g : Int → Nat} {f : RS} {F : Int → List Int} {fb fm : Nat}
theorem fnext_any (wr : World) (h : RAt S wr rb mb g f) (hf : FinIs Q wr fb rb fm F) (hh : Heads f) (n x : Int) (hn : okInt n) (ho : ∀ m, livesR f m = true → okInt m) :
    Calls Try.prog 107 #[.pointer (some ⟨fb, 0, none⟩), .int .i64 n, .int .u64 x] wr (NxPost wr (nxG f F x) n) := by
  cases hl : livesR f n with
  | true =>
    refine (next_live h hf n x hn hl).mono fun e w' hq => ?_
    unfold NxPost nxG
    rw [if_pos hl]
    exact ⟨⟨hq.1, ho _ (next_lives hh F hl x)⟩, hq.2⟩
  | false =>
    refine (next_dead h hf n x hn hl).mono fun e w' hq => ?_
    unfold NxPost nxG
    rw [hl, if_neg (by decide)]
    obtain ⟨⟨v, he, hv⟩, hb⟩ := hq
    exact ⟨⟨v, he, Or.inr hv⟩, hb⟩
set_option maxRecDepth 100000 in
set_option maxHeartbeats 16000000 in
theorem of_fin (w : World) (mv : Value) (ms : List Int) (nm : ByteArray) (h : RAt S w rb mb g f) (hf : FinIs Q w fb rb fm F) (I : Inv f) (hm : SlAt 0 (fun i => .int .i64 (nth ms i)) ms.length w mv) (hmo : ∀ x ∈ ms, okInt x) (hm40 : ms.length ≤ 40) (hnm : nm.size ≤ 1000000) :
    Calls Try.prog 7 #[.iface 40 (.pointer (some ⟨fb, 0, none⟩)), .string nm, mv] w (OfPost w (nxG f F (keyH nm)) ms) := by
  obtain ⟨ma, mc, rfl, _⟩ := hm.slice
  obtain ⟨nx, hnx⟩ : ∃ z, z = nxG f F (keyH nm) := ⟨_, rfl⟩
  have CN := Lib.hid fun (wr : World) (hb : Below w.heap.size w wr) (n : Int) (hn : okInt n) => hnx ▸ fnext_any wr (h.below hb) (hf.below hb) I.heads n (keyH nm) hn (fun m hm => by have := livesR_dom I.dom hm; exact okInt_dom (by omega) (by omega))
  rw [← hnx]
  have SM := Lib.hid hm
  have HMO := Lib.hid hmo
  have hmm := method_fnext
  have hma := ahead_fnext
  clear hm hmo hnx h hf I
  have hmk : ∀ (w : World), (Instr.makeMap 23 none).run Try.prog w = .ok (.map (some w.heap.size)) (w.alloc (.map #[] 0)) := fun w => run_makeMap 23 w
  have HPL : Hid (∀ t mb w', treeR nx ms = .inl t → TreeAt w' mb t → w.heap.size ≤ mb → Below w.heap.size w w' → OfPost w nx ms (.returned (.tuple #[.agg #[.int .i64 t.root, .map (some mb)], .nilIface])) w') := show ∀ t mb w', _ from fun t mb w' h0 h1 h2 h3 => by
    unfold OfPost; rw [h0]; exact ⟨mb, rfl, h1, h2, h3⟩
  have HPR : Hid (∀ c v w', treeR nx ms = .inr c → ErrV w.heap.size w' v c → Below w.heap.size w w' → OfPost w nx ms (.returned (.tuple #[.agg #[.int .i64 0, .map none], v])) w') := show ∀ c v w', _ from fun c v w' h0 h1 h2 => by
    unfold OfPost; rw [h0]; exact ⟨v, rfl, h1, h2⟩
  go_enter Try.func7, Try.ntmps7
  go_wp2_with fail
  obtain ⟨w1, hw1⟩ : ∃ z, z = ((w.alloc (.cells #[.int .i64 0, .map none] 25)).alloc (.map #[] 0)).alloc (.cells #[.int .i64 (-1), .map (some (w.heap.size + 1))] 25) := ⟨_, rfl⟩
  have T1 : Hid (TreeW w w.heap.size (w.heap.size + 1) (w.heap.size + 1 + 1) w1 t0) := by
    show TreeW _ _ _ _ _ _
    rw [hw1]
    exact treeW_new w
  rw [← hw1]
  clear hw1
  refine (key_any nm _ hnm).mono ?_
  rintro e w2 ⟨rfl, hb2⟩
  have T2 := Lib.hid (T1.out.later hb2)
  clear hb2 T1
  go_wp2_with fail
  go_loopw [22] (fun i wr => ∃ (k : Nat) (t : TS), k ≤ ms.length ∧ i = .int .i64 k ∧ Hid (grows nx (ms.take k) = .inl t ∧ t.ups.length ≤ 66 * k) ∧ Hid (TreeW w w.heap.size (w.heap.size + 1) (w.heap.size + 1 + 1) wr t)) (fun i _ => ms.length - (intOf i).toNat)
  case atStart => exact ⟨0, t0, Nat.zero_le _, rfl, ⟨rfl, by simp [t0]⟩, T2⟩
  case round =>
    obtain ⟨k, t, hk, rfl, hgr, hT⟩ := hrel
    by_cases hlt : k < ms.length
    · obtain ⟨b, off, rfl, _, hbz, hck⟩ := SM.out.at k hlt wr hT.out.below
      have okn := HMO.out _ (nth_mem.2 ⟨k, hlt, rfl⟩)
      have HGR : Hid (grows nx (ms.take (k + 1)) = climb nx 66 t (nth ms k)) := show _ = _ by
        rw [List.take_succ_eq_append_getElem hlt, grows_snoc, hgr.out.1, ← nth_eq hlt]; rfl
      obtain ⟨n0, hn0⟩ : ∃ z, z = nth ms k := ⟨_, rfl⟩
      rw [← hn0] at hck okn HGR
      have hgl := hgr.out.2
      clear hn0
      go_wp2_with fail
      obtain ⟨wo, hwo⟩ : ∃ wo : World, wo = wr := ⟨_, rfl⟩
      rw [← hwo] at hT ⊢
      clear hwo hck hbz
      go_loopw [11, 26] (fun nv j wr => ∃ (q : Nat) (t' : TS) (y : Int), q ≤ 66 ∧ j = .int .i64 q ∧ nv = .int .i64 y ∧ Hid (climb nx 66 t n0 = climb nx (66 - q) t' y ∧ t'.ups.length ≤ 66 * k + q ∧ okInt y) ∧ Hid (TreeW w w.heap.size (w.heap.size + 1) (w.heap.size + 1 + 1) wr t')) (fun _ j _ => 66 - (intOf j).toNat)
      case atStart => exact ⟨0, t, n0, by omega, rfl, rfl, ⟨rfl, by omega, okn⟩, hT⟩
      case round =>
        obtain ⟨q, t', y, hq, rfl, rfl, hcl, hT⟩ := hrel
        by_cases hq66 : q < 66
        · have hqI : ((q : Nat) : Int) < 66 := by omega
          have hcc : climb nx (66 - q) t' y = if (t'.up y).isSome ∨ (t'.root ≠ -1 ∧ y = t'.root) then .inl t' else match nx y with
              | none => .inr 6
              | some m => if m = y then (if t'.root ≠ -1 then .inr 5 else .inl ⟨y, t'.ups⟩) else climb nx (66 - (q + 1)) (t'.add y m) m := by
            rw [show 66 - q = 66 - (q + 1) + 1 by omega]; rfl
          have hlk := hT.out.tree.look y hcl.out.2.2
          have x0 := hT.out.c0
          have x1 := hT.out.c1
          have xz := hT.out.zt
          cases hup : t'.up y with
          | some v =>
            have HC : Hid (climb nx (66 - q) t' y = .inl t') := show _ = _ by rw [hcc, if_pos (Or.inl (by rw [hup]; rfl))]
            rw [hup] at hlk
            dsimp only [Option.getD, Option.isSome] at hlk
            clear hcc hup
            go_wp2_with fail
            go_roundw
            case rel => go_light; exact ⟨k + 1, _, by omega, by go_num, ⟨HGR.out.trans (hcl.out.1.trans HC.out), by have := hcl.out.2.1; first | omega | (simp only [TS.add]; omega)⟩, hT⟩
            case measure => go_light; simp [intOf]; omega
          | none =>
            rw [hup] at hlk
            dsimp only [Option.getD, Option.isSome] at hlk
            by_cases hr0 : t'.root = -1
            · have hrb0 : (t'.root != -1) = false := by simpa using hr0
              rw [if_neg (by rw [hup]; simp [hr0])] at hcc
              clear hr0
              have CNy := CN.out wr hT.out.below y hcl.out.2.2
              obtain ⟨u, hu⟩ : ∃ u, u = nx y := ⟨_, rfl⟩
              rw [← hu] at hcc
              unfold NxPost at CNy
              rw [← hu] at CNy
              have CNY := Lib.hid CNy
              clear hu CNy
              cases u with
              | none =>
                have HC : Hid (climb nx (66 - q) t' y = .inr 6) := hcc
                obtain ⟨ec, hec⟩ : ∃ z : Int, z = 6 := ⟨_, rfl⟩
                rw [← hec] at HC
                have HEC := Lib.hid hec
                clear hcc hec
                go_wp2_with fail
                refine CNY.out.mono ?_
                rintro e w5 ⟨⟨v, rfl, hE⟩, hb5⟩
                have hzr := hT.out.zr
                have hlow := hT.out.below.size
                have hT5 := Lib.hid (hT.out.later hb5)
                clear CNY
                rcases hE with rfl | hE
                · have HTR : Hid (treeR nx ms = .inr ec) := show treeR nx ms = .inr ec by
                    have e := HGR.out.trans (hcl.out.1.trans HC.out)
                    have e2 : grows nx ms = .inr ec := by
                      unfold grows at e ⊢
                      rw [← List.take_append_drop (k + 1) ms, List.foldl_append, e]
                      exact grow_inr _ _ _
                    unfold treeR
                    rw [e2]
                  have BE := Lib.hid hT5.out.below
                  have rr0 := hT5.out.r0
                  have rr1 := hT5.out.r1
                  have rf0 := hT5.out.fr0
                  have rf1 := hT5.out.fr1
                  have rz := hT5.out.zr
                  have rl := hT5.out.low1
                  go_wp2_with fail
                  refine bodyPost_ret (v := .tuple #[.agg #[.int .i64 0, .map none], .iface 44 (.int .i64 6)]) ?_ rfl (HPR.out _ _ _ HTR.out ?_ ?_)
                  · simp [results, Try.results7, go_sem, rr0, rr1]
                  · exact Or.inl (by rw [HEC.out])
                  · exact bel_set (bel_set BE.out (by exact rl) _) (by exact rl) _
                · have hEE := Lib.hid (hE.set2 hzr hlow)
                  obtain ⟨b, rfl, _⟩ := hE
                  have HTR : Hid (treeR nx ms = .inr ec) := show treeR nx ms = .inr ec by
                    have e := HGR.out.trans (hcl.out.1.trans HC.out)
                    have e2 : grows nx ms = .inr ec := by
                      unfold grows at e ⊢
                      rw [← List.take_append_drop (k + 1) ms, List.foldl_append, e]
                      exact grow_inr _ _ _
                    unfold treeR
                    rw [e2]
                  have BE := Lib.hid hT5.out.below
                  have rr0 := hT5.out.r0
                  have rr1 := hT5.out.r1
                  have rf0 := hT5.out.fr0
                  have rf1 := hT5.out.fr1
                  have rz := hT5.out.zr
                  have rl := hT5.out.low1
                  go_wp2_with fail
                  refine bodyPost_ret (v := .tuple #[.agg #[.int .i64 0, .map none], .iface 91 (.pointer (some ⟨b, 0, none⟩))]) ?_ rfl (HPR.out _ _ _ HTR.out ?_ ?_)
                  · simp [results, Try.results7, go_sem, rr0, rr1]
                  · exact Or.inr (by rw [HEC.out]; exact hEE.out _ _)
                  · exact bel_set (bel_set BE.out (by exact rl) _) (by exact rl) _
              | some m =>
                have hcc' : climb nx (66 - q) t' y = if m = y then (if t'.root ≠ -1 then .inr 5 else .inl ⟨y, t'.ups⟩) else climb nx (66 - (q + 1)) (t'.add y m) m := hcc
                have HCC := Lib.hid hcc'
                clear hcc hcc'
                go_wp2_with fail
                refine CNY.out.mono ?_
                rintro e w5 ⟨⟨rfl, okm⟩, hb5⟩
                have hT5 := Lib.hid (hT.out.later hb5)
                have x0 := hT5.out.c0
                have x1 := hT5.out.c1
                have xf := hT5.out.fz
                have xz := hT5.out.zt
                clear CNY hb5
                by_cases hmy : m = y
                · have hmb : (m == y) = true := by simpa using hmy
                  have HC : Hid (climb nx (66 - q) t' y = .inl ⟨y, t'.ups⟩) := show _ = _ by rw [HCC.out, if_pos hmy, if_neg (by simpa using hrb0)]
                  have T6 := Lib.hid (hT5.out.setRoot hcl.out.2.2)
                  clear hmy
                  go_wp2_with fail
                  go_roundw
                  case rel => go_light; exact ⟨k + 1, _, by omega, by go_num, ⟨HGR.out.trans (hcl.out.1.trans HC.out), by have := hcl.out.2.1; first | omega | (simp only [TS.add]; omega)⟩, T6⟩
                  case measure => go_light; simp [intOf]; omega
                · have hmb : (m == y) = false := by simpa using hmy
                  have HC : Hid (climb nx (66 - q) t' y = climb nx (66 - (q + 1)) (t'.add y m) m) := show _ = _ by rw [HCC.out, if_neg hmy]
                  obtain ⟨w6, hrun, hT6⟩ := hT5.out.put hcl.out.2.2 okm hup (by have := hcl.out.2.1; omega)
                  have T6 := Lib.hid hT6
                  clear hmy hT6
                  go_wp2_with fail
                  go_roundw
                  case rel => go_light; exact ⟨q + 1, _, m, by omega, by go_num, rfl, ⟨hcl.out.1.trans HC.out, by have := hcl.out.2.1; simp only [TS.add, List.length_append, List.length_cons, List.length_nil]; omega, okm⟩, T6⟩
                  case measure => go_light; simp [intOf]; omega
            · have hrb0 : (t'.root != -1) = true := by simpa using hr0
              by_cases hyr : y = t'.root
              · have hyb : (y == t'.root) = true := by simpa using hyr
                have HC : Hid (climb nx (66 - q) t' y = .inl t') := show _ = _ by rw [hcc, if_pos (Or.inr ⟨hr0, hyr⟩)]
                clear hcc hyr hr0
                go_wp2_with fail
                go_roundw
                case rel => go_light; exact ⟨k + 1, _, by omega, by go_num, ⟨HGR.out.trans (hcl.out.1.trans HC.out), by have := hcl.out.2.1; first | omega | (simp only [TS.add]; omega)⟩, hT⟩
                case measure => go_light; simp [intOf]; omega
              · have hyb : (y == t'.root) = false := by simpa using hyr
                rw [if_neg (by rw [hup]; simp [hyr])] at hcc
                clear hyr hr0
                have CNy := CN.out wr hT.out.below y hcl.out.2.2
                obtain ⟨u, hu⟩ : ∃ u, u = nx y := ⟨_, rfl⟩
                rw [← hu] at hcc
                unfold NxPost at CNy
                rw [← hu] at CNy
                have CNY := Lib.hid CNy
                clear hu CNy
                cases u with
                | none =>
                  have HC : Hid (climb nx (66 - q) t' y = .inr 6) := hcc
                  obtain ⟨ec, hec⟩ : ∃ z : Int, z = 6 := ⟨_, rfl⟩
                  rw [← hec] at HC
                  have HEC := Lib.hid hec
                  clear hcc hec
                  go_wp2_with fail
                  refine CNY.out.mono ?_
                  rintro e w5 ⟨⟨v, rfl, hE⟩, hb5⟩
                  have hzr := hT.out.zr
                  have hlow := hT.out.below.size
                  have hT5 := Lib.hid (hT.out.later hb5)
                  clear CNY
                  rcases hE with rfl | hE
                  · have HTR : Hid (treeR nx ms = .inr ec) := show treeR nx ms = .inr ec by
                      have e := HGR.out.trans (hcl.out.1.trans HC.out)
                      have e2 : grows nx ms = .inr ec := by
                        unfold grows at e ⊢
                        rw [← List.take_append_drop (k + 1) ms, List.foldl_append, e]
                        exact grow_inr _ _ _
                      unfold treeR
                      rw [e2]
                    have BE := Lib.hid hT5.out.below
                    have rr0 := hT5.out.r0
                    have rr1 := hT5.out.r1
                    have rf0 := hT5.out.fr0
                    have rf1 := hT5.out.fr1
                    have rz := hT5.out.zr
                    have rl := hT5.out.low1
                    go_wp2_with fail
                    refine bodyPost_ret (v := .tuple #[.agg #[.int .i64 0, .map none], .iface 44 (.int .i64 6)]) ?_ rfl (HPR.out _ _ _ HTR.out ?_ ?_)
                    · simp [results, Try.results7, go_sem, rr0, rr1]
                    · exact Or.inl (by rw [HEC.out])
                    · exact bel_set (bel_set BE.out (by exact rl) _) (by exact rl) _
                  · have hEE := Lib.hid (hE.set2 hzr hlow)
                    obtain ⟨b, rfl, _⟩ := hE
                    have HTR : Hid (treeR nx ms = .inr ec) := show treeR nx ms = .inr ec by
                      have e := HGR.out.trans (hcl.out.1.trans HC.out)
                      have e2 : grows nx ms = .inr ec := by
                        unfold grows at e ⊢
                        rw [← List.take_append_drop (k + 1) ms, List.foldl_append, e]
                        exact grow_inr _ _ _
                      unfold treeR
                      rw [e2]
                    have BE := Lib.hid hT5.out.below
                    have rr0 := hT5.out.r0
                    have rr1 := hT5.out.r1
                    have rf0 := hT5.out.fr0
                    have rf1 := hT5.out.fr1
                    have rz := hT5.out.zr
                    have rl := hT5.out.low1
                    go_wp2_with fail
                    refine bodyPost_ret (v := .tuple #[.agg #[.int .i64 0, .map none], .iface 91 (.pointer (some ⟨b, 0, none⟩))]) ?_ rfl (HPR.out _ _ _ HTR.out ?_ ?_)
                    · simp [results, Try.results7, go_sem, rr0, rr1]
                    · exact Or.inr (by rw [HEC.out]; exact hEE.out _ _)
                    · exact bel_set (bel_set BE.out (by exact rl) _) (by exact rl) _
                | some m =>
                  have hcc' : climb nx (66 - q) t' y = if m = y then (if t'.root ≠ -1 then .inr 5 else .inl ⟨y, t'.ups⟩) else climb nx (66 - (q + 1)) (t'.add y m) m := hcc
                  have HCC := Lib.hid hcc'
                  clear hcc hcc'
                  go_wp2_with fail
                  refine CNY.out.mono ?_
                  rintro e w5 ⟨⟨rfl, okm⟩, hb5⟩
                  have hT5 := Lib.hid (hT.out.later hb5)
                  have x0 := hT5.out.c0
                  have x1 := hT5.out.c1
                  have xf := hT5.out.fz
                  have xz := hT5.out.zt
                  clear CNY hb5
                  by_cases hmy : m = y
                  · have hmb : (m == y) = true := by simpa using hmy
                    obtain ⟨ec, hec⟩ : ∃ z : Int, z = 5 := ⟨_, rfl⟩
                    have HC : Hid (climb nx (66 - q) t' y = .inr ec) := show _ = _ by rw [HCC.out, if_pos hmy, if_pos (by simpa using hrb0), hec]
                    have HEC := Lib.hid hec
                    clear hmy hec
                    go_wp2_with fail
                    refine (tfault_any _ _).mono ?_
                    rintro e w6 ⟨v, rfl, hE, hb6⟩
                    have hEE := Lib.hid (hE.set2 hT5.out.zr hT5.out.below.size)
                    have hT5 := Lib.hid (hT5.out.later hb6)
                    obtain ⟨b, rfl, _⟩ := hE
                    clear x0 x1 xf xz hb6
                    have HTR : Hid (treeR nx ms = .inr ec) := show treeR nx ms = .inr ec by
                      have e := HGR.out.trans (hcl.out.1.trans HC.out)
                      have e2 : grows nx ms = .inr ec := by
                        unfold grows at e ⊢
                        rw [← List.take_append_drop (k + 1) ms, List.foldl_append, e]
                        exact grow_inr _ _ _
                      unfold treeR
                      rw [e2]
                    have BE := Lib.hid hT5.out.below
                    have rr0 := hT5.out.r0
                    have rr1 := hT5.out.r1
                    have rf0 := hT5.out.fr0
                    have rf1 := hT5.out.fr1
                    have rz := hT5.out.zr
                    have rl := hT5.out.low1
                    go_wp2_with fail
                    refine bodyPost_ret (v := .tuple #[.agg #[.int .i64 0, .map none], .iface 91 (.pointer (some ⟨b, 0, none⟩))]) ?_ rfl (HPR.out _ _ _ HTR.out ?_ ?_)
                    · simp [results, Try.results7, go_sem, rr0, rr1]
                    · exact Or.inr (by rw [HEC.out]; exact hEE.out _ _)
                    · exact bel_set (bel_set BE.out (by exact rl) _) (by exact rl) _
                  · have hmb : (m == y) = false := by simpa using hmy
                    have HC : Hid (climb nx (66 - q) t' y = climb nx (66 - (q + 1)) (t'.add y m) m) := show _ = _ by rw [HCC.out, if_neg hmy]
                    obtain ⟨w6, hrun, hT6⟩ := hT5.out.put hcl.out.2.2 okm hup (by have := hcl.out.2.1; omega)
                    have T6 := Lib.hid hT6
                    clear hmy hT6
                    go_wp2_with fail
                    go_roundw
                    case rel => go_light; exact ⟨q + 1, _, m, by omega, by go_num, rfl, ⟨hcl.out.1.trans HC.out, by have := hcl.out.2.1; simp only [TS.add, List.length_append, List.length_cons, List.length_nil]; omega, okm⟩, T6⟩
                    case measure => go_light; simp [intOf]; omega
        · obtain rfl : q = 66 := by omega
          have hqI : ¬ ((66 : Nat) : Int) < 66 := by omega
          have HC : Hid (climb nx (66 - 66) t' y = .inl t') := show _ = _ from rfl
          go_wp2_with fail
          go_roundw
          case rel => go_light; exact ⟨k + 1, _, by omega, by go_num, ⟨HGR.out.trans (hcl.out.1.trans HC.out), by have := hcl.out.2.1; first | omega | (simp only [TS.add]; omega)⟩, hT⟩
          case measure => go_light; simp [intOf]; omega
    · obtain rfl : k = ms.length := by omega
      have hgr1 := hgr.out.1
      rw [List.take_length] at hgr1
      have x0 := hT.out.c0
      have x1 := hT.out.c1
      have xz := hT.out.zt
      have rr0 := hT.out.r0
      have rr1 := hT.out.r1
      have rf0 := hT.out.fr0
      have rf1 := hT.out.fr1
      have rz := hT.out.zr
      have rl := hT.out.low1
      by_cases hm0 : ms.length = 0
      · have hm0b : ¬ (0 : Int) < ((ms.length : Nat) : Int) := by omega
        have HTR : Hid (treeR nx ms = .inl t) := show _ = _ by unfold treeR; rw [hgr1]; simp [hm0]
        clear hgr1 hm0
        have hT5 := hT
        go_wp2_with fail
        refine bodyPost_ret (v := .tuple #[.agg #[.int .i64 t.root, .map (some (w.heap.size + 1))], .nilIface]) ?_ rfl (HPL.out _ _ _ HTR.out ?_ hT5.out.low2 ?_)
        · simp [results, Try.results7, go_sem, rr0, rr1, x0, x1]
        · exact hT5.out.tree.block (by rw [Below.heap_setCell _ _ _ _ (Ne.symm hT5.out.ne2), Below.heap_setCell _ _ _ _ (Ne.symm hT5.out.ne2)])
        · exact bel_set (bel_set hT5.out.below (by exact rl) _) (by exact rl) _
      · have hm0b : (0 : Int) < ((ms.length : Nat) : Int) := by omega
        by_cases hr0 : t.root = -1
        · have hrb0 : (t.root == -1) = true := by simpa using hr0
          have HTR : Hid (treeR nx ms = .inr 13) := show _ = _ by unfold treeR; rw [hgr1]; simp [hm0, hr0]; first | done | omega
          clear hgr1 hm0 hr0
          go_wp2_with fail
          refine (tfault_any _ _).mono ?_
          rintro e w6 ⟨v, rfl, hE, hb6⟩
          have hEE := Lib.hid (hE.set2 hT.out.zr hT.out.below.size)
          have hT5 := Lib.hid (hT.out.later hb6)
          obtain ⟨b, rfl, _⟩ := hE
          have BE := Lib.hid hT5.out.below
          have rr0 := hT5.out.r0
          have rr1 := hT5.out.r1
          have rf0 := hT5.out.fr0
          have rf1 := hT5.out.fr1
          have rz := hT5.out.zr
          clear x0 x1 xz hb6
          go_wp2_with fail
          refine bodyPost_ret (v := .tuple #[.agg #[.int .i64 0, .map none], .iface 91 (.pointer (some ⟨b, 0, none⟩))]) ?_ rfl (HPR.out _ _ _ HTR.out ?_ ?_)
          · simp [results, Try.results7, go_sem, rr0, rr1]
          · exact Or.inr (hEE.out _ _)
          · exact bel_set (bel_set BE.out (by exact rl) _) (by exact rl) _
        · have hrb0 : (t.root == -1) = false := by simpa using hr0
          have HTR : Hid (treeR nx ms = .inl t) := show _ = _ by unfold treeR; rw [hgr1]; simp [hr0]
          clear hgr1 hm0 hr0
          have hT5 := hT
          go_wp2_with fail
          refine bodyPost_ret (v := .tuple #[.agg #[.int .i64 t.root, .map (some (w.heap.size + 1))], .nilIface]) ?_ rfl (HPL.out _ _ _ HTR.out ?_ hT5.out.low2 ?_)
          · simp [results, Try.results7, go_sem, rr0, rr1, x0, x1]
          · exact hT5.out.tree.block (by rw [Below.heap_setCell _ _ _ _ (Ne.symm hT5.out.ne2), Below.heap_setCell _ _ _ _ (Ne.symm hT5.out.ne2)])
          · exact bel_set (bel_set hT5.out.below (by exact rl) _) (by exact rl) _
end Go.Proofs.Ytbhaapkafgieiaa
