/-
  A list of entries that came in, opened. Rows of entries of the call's own: a part, the tail. One entry leaves a table: slices.Delete at entries, Drop.
-/
import Derived.Test.YtahiahjhpakeiaaGreatDoorKept19
import Derived.Deep.RegionLaw
section
namespace Go.Proofs.YtahiahjhpakeiaaGreatDoor
open Go.RowKit Go.Maps Go.Sort Go.WideShapes Go.ChangeShapes Go.Deep
set_option linter.unusedVariables false
set_option linter.unusedSimpArgs false
section
variable {H : Type} {enc : TypeId × Value → H} {P : Program} {w : World} {base : Nat} {spare : Nat → Bool} {held : Bool}
end
theorem spot_cellT {w : World} {a : Addr} {v : Value} (h : w.cell? a = some v) : a.spot = none ∧ a.block < w.heap.size := by
  unfold World.cell? at h
  constructor
  · cases hsp : a.spot with
    | none => rfl
    | some s => rw [hsp] at h; simp at h; split at h <;> simp_all
  · rcases Nat.lt_or_ge a.block w.heap.size with h' | h'
    · exact h'
    · rw [Array.getElem?_eq_none h'] at h; simp at h
theorem placeOfT {a : Int} (h : (Lit.int .u64 a).wf = true) : isPlace a := by
  simp [Lit.wf, IntKind.min, IntKind.max, IntKind.bits, IntKind.signed] at h; unfold isPlace; omega
instance : Inhabited Row := ⟨⟨default, undef⟩⟩
theorem bs_data (b : ByteArray) : bs b.data.toList = b := by cases b; simp [bs]
theorem cellsStrT : Tryz.prog.cellsOf 9 = 1 := by kernel_rfl
end Go.Proofs.YtahiahjhpakeiaaGreatDoor
end
section
namespace Go.Proofs.YtahiahjhpakeiaaGreatDoor
open Go.RowKit Go.Maps Go.Sort Go.WideShapes Go.ChangeShapes Go.Deep
set_option linter.unusedVariables false
set_option linter.unusedSimpArgs false

/-- Row k of a row of one's own. -/
theorem own_rowAt {w : World} {base e q n cap : Nat} {rs : List Row} (h : w.ownsRow base e 5 (.slice (some ⟨q, 0, none⟩) n cap) n (flat rs)) {k : Nat} (hk : k < rs.length) : RowAt w q (k * 5) rs[k] := by
  have hc := h.cells (g := q) rfl
  refine rowAt_of fun j u hu => ?_
  have hj : j < 5 := by
    have := (List.getElem?_eq_some_iff.1 hu).1
    rwa [Row.len] at this
  have := hc (k * 5 + j) u (by rw [flat_cell hk hj]; exact hu)
  rw [add_spot _ _ rfl] at this
  dsimp only at this
  rw [Nat.zero_add] at this
  exact this
/-- What lies behind the first i rows may turn. -/
theorem own_tail {w : World} {base e q i cap : Nat} {rs : List Row} (h : w.ownsRow base e 5 (.slice (some ⟨q, 0, none⟩) i cap) i (flat rs)) (hn : rs.length = i) (vs : List Value) :
    (w.setCells q (i * 5) vs).ownsRow base e 5 (.slice (some ⟨q, 0, none⟩) i cap) i (flat rs) := by
  obtain ⟨cur, hB, hg, hnc, hm, hs, ht⟩ : ∃ cur, base ≤ q ∧ w.heap[q]? = some (.cells cur e (0, 0)) ∧ i ≤ cap ∧ cap ≤ maxLen ∧ cur.size = cap * 5 ∧ cur.toList.take (i * 5) = flat rs := by
    rcases h.2 with ⟨h0, _⟩ | ⟨g', cap', cur, e0, hB, hg, hnc, hm, hs, ht⟩
    · cases h0
    · cases e0
      exact ⟨cur, hB, hg, hnc, hm, hs, ht⟩
  obtain ⟨cur', q1, q2⟩ := heap_setCells_row_e q vs (i * 5) w cur e (0, 0) hg
  refine own_row_wide q1 (by omega) hnc hm hB (by rw [flat_length, hn]) (fun j u hu => ?_)
  have hj : j < i * 5 := by
    have := (List.getElem?_eq_some_iff.1 hu).1
    rw [flat_length] at this
    omega
  rw [World.cell?_setCells_out q _ _ _ _ (fun _ _ => Or.inl hj), cell_of_row w q j cur e (0, 0) hg]
  rw [← ht, List.getElem?_take, if_pos hj] at hu
  simpa using hu
end Go.Proofs.YtahiahjhpakeiaaGreatDoor
end
section
namespace Go.Proofs.YtahiahjhpakeiaaGreatDoor
open Go.RowKit Go.Maps Go.Sort Go.WideShapes Go.ChangeShapes Go.Deep
set_option linter.unusedVariables false
set_option linter.unusedSimpArgs false
attribute [local go_sem] later_cell later_frozen later_lt cell_set_off cell_set_block keptT_cell keptT_lt

theorem flat_erase (rs : List Row) (i : Nat) : flat (rs.eraseIdx i) = (flat rs).take (i * 5) ++ flat (rs.drop (i + 1)) := by
  rw [List.eraseIdx_eq_take_drop_succ]
  unfold flat
  rw [List.flatMap_append, ← flat_take Row.cells Row.len rs i]
set_option maxRecDepth 100000 in
set_option maxHeartbeats 8000000 in
theorem delE_any (w : World) (rs : List Row) (q cap m i : Nat) (hown : w.ownsRow 0 79 5 (.slice (some ⟨q, 0, none⟩) (m + 1) cap) (m + 1) (flat rs)) (hm : rs.length = m + 1) (hsh : ∀ r ∈ rs, r.v.oneCell' = true) (hi : i ≤ m) (hl : m ≤ 1000000) :
    Calls Tryz.prog 124 #[.slice (some ⟨q, 0, none⟩) (m + 1) cap, .int .i64 i, .int .i64 ((i : Int) + 1)] w fun e w' =>
      e = .returned (.slice (some ⟨q, 0, none⟩) m cap) ∧ w'.ownsRow 0 79 5 (.slice (some ⟨q, 0, none⟩) m cap) m (flat (rs.eraseIdx i)) ∧ Kept (fun b => b = q) w w' := by
  obtain ⟨i0, hi0, _, hz1, _⟩ := insW_info
  obtain ⟨cur, hB, hg, hnc, hmx, hs, ht⟩ : ∃ cur, 0 ≤ q ∧ w.heap[q]? = some (.cells cur 79 (0, 0)) ∧ m + 1 ≤ cap ∧ cap ≤ maxLen ∧ cur.size = cap * 5 ∧ cur.toList.take ((m + 1) * 5) = flat rs := by
    rcases hown.2 with ⟨h0, _⟩ | ⟨g', cap', cur, e0, hB, hg, hnc, hm', hs, ht⟩
    · cases h0
    · cases e0
      exact ⟨cur, hB, hg, hnc, hm', hs, ht⟩
  have hcell : ∀ j u, (flat rs)[j]? = some u → w.cell? ⟨q, j, none⟩ = some u := fun j u hu => by
    have := hown.cells (g := q) rfl j u hu
    rw [add_spot _ _ rfl] at this
    simpa using this
  have hfz : ∀ o, w.frozen? ⟨q, o, none⟩ = false := fun o => own_frozen hown rfl o
  obtain ⟨news, hnews⟩ : ∃ news, news = flat (rs.drop (i + 1)) := ⟨_, rfl⟩
  have hlen : news.length = (m - i) * 5 := by rw [hnews, flat_length, List.length_drop, hm]; congr 1; omega
  have hget : ∀ t u, news[t]? = some u → w.cell? ⟨q, (i + 1) * 5 + t, none⟩ = some u := fun t u hu => by
    refine hcell _ _ ?_
    rw [hnews] at hu
    unfold flat at hu ⊢
    rw [← flat_drop Row.cells Row.len rs (i + 1), List.getElem?_drop] at hu
    exact hu
  have hone : ∀ u ∈ news, u.oneCell' = true := by
    rw [hnews]
    exact flat_one fun r hr => hsh r (List.mem_of_mem_drop hr)
  obtain ⟨A, hA, hsrc⟩ : ∃ A : Addr, (if cap = i + 1 then (some (⟨q, 0, none⟩ : Addr)) else some ⟨q, (i + 1) * 5, none⟩) = some A ∧ Hid (∀ t u, news[t]? = some u → w.drew.cell? (A.add t) = some u) := by
    by_cases h : cap = i + 1
    · refine ⟨⟨q, 0, none⟩, by simp [h], fun t u hu => ?_⟩
      have h0 : news.length = 0 := by rw [hlen]; omega
      rw [List.length_eq_zero_iff.1 h0] at hu
      simp at hu
    · refine ⟨⟨q, (i + 1) * 5, none⟩, by simp [h], fun t u hu => ?_⟩
      rw [Addr.add_lit]
      exact hget t u hu
  have hsome : ∀ (w' : World) cur', w'.heap[q]? = some (.cells cur' 79 (0, 0)) → cur'.size = cap * 5 → ∀ j, j < (m + 1) * 5 → (w'.cell? ⟨q, j, none⟩).isSome = true := fun w' cur' h1 h2 j hj => by
    rw [cell_of_row w' q j cur' 79 (0, 0) h1, Array.getElem?_eq_getElem (by rw [h2]; omega)]; rfl
  have s1 : Hid (news.length = (m - i) * 5) := hlen
  have s2 : Hid (∀ u ∈ news, u.oneCell' = true) := hone
  have s3 : Hid (∀ t, t < news.length → (w.drew.cell? ⟨q, 0 + i * 5 + t, none⟩).isSome = true ∧ w.drew.frozen? ⟨q, 0 + i * 5 + t, none⟩ = false) := by
    intro t ht'
    rw [hlen] at ht'
    exact ⟨hsome w cur hg hs _ (by omega), hfz _⟩
  obtain ⟨W1, hW1⟩ : ∃ W1, W1 = w.drew.setCells q (0 + i * 5) news := ⟨_, rfl⟩
  have hK1 : Kept (fun b => b = q) w W1 := by rw [hW1]; exact ((Kept.refl _ w).drew).trans (kept_setCells q _ _ _ rfl)
  obtain ⟨cur1, hg1, hs1⟩ : ∃ cur1, W1.heap[q]? = some (.cells cur1 79 (0, 0)) ∧ cur1.size = cap * 5 := by
    obtain ⟨cur', q1, q2⟩ := heap_setCells_row_e q news (0 + i * 5) w.drew cur 79 (0, 0) hg
    exact ⟨cur', by rw [hW1]; exact q1, by omega⟩
  have hflen : (flat rs).length = (m + 1) * 5 := by rw [flat_length, hm]
  have O1 : W1.ownsRow 0 79 5 (.slice (some ⟨q, 0, none⟩) m cap) m (flat (rs.eraseIdx i)) := by
    refine own_row_wide hg1 hs1 (by omega) hmx hB ?_ (fun j u hu => ?_)
    · rw [flat_length, List.length_eraseIdx, if_pos (by omega), hm]; rfl
    · rw [flat_erase, ← hnews] at hu
      have hcs : ∀ j, j < news.length → (w.drew.cell? ⟨q, (0 + i * 5) + j, none⟩).isSome = true := fun j hj => (s3.out j hj).1
      rw [hW1]
      have htl : ((flat rs).take (i * 5)).length = i * 5 := by rw [List.length_take, hflen]; omega
      by_cases hj : j < i * 5
      · rw [World.cell?_setCells_out q _ _ _ _ (fun _ _ => Or.inl (by show j < _; omega))]
        rw [List.getElem?_append_left (by omega), List.getElem?_take, if_pos hj] at hu
        exact hcell j u hu
      · rw [List.getElem?_append_right (by omega), htl] at hu
        have hj2 : j - i * 5 < news.length := (List.getElem?_eq_some_iff.1 hu).1
        have z := World.cell?_setCells_in q news (0 + i * 5) w.drew hcs (j - i * 5) hj2
        rw [show 0 + i * 5 + (j - i * 5) = j by omega] at z
        rw [z]
        exact (List.getElem?_eq_some_iff.1 hu).2 ▸ rfl
  have hrl : (rs.eraseIdx i).length = m := by rw [List.length_eraseIdx, if_pos (by omega), hm]; rfl
  have hcl : ∀ ty c, (Builtin.clear_ #[94] ty #[.slice (some ⟨q, m * 5, none⟩) 1 c]).run Tryz.prog W1 = .ok (.tuple #[]) (W1.setCells q (m * 5) (Builtin.zeroCells zW.cells 1).toList) := fun ty c =>
    run_clear_wide W1 94 79 ty zW Tryz.underlying94 Tryz.zeroValue79 q (m * 5) _ _ (by omega) (fun t ht' => hsome W1 cur1 hg1 hs1 _ (by rw [Array.length_toList, zeros_len] at ht'; omega)) (fun t ht' => own_frozen O1 rfl _) (zeros_one _)
  have OE : Hid ((W1.setCells q (m * 5) (Builtin.zeroCells zW.cells 1).toList).ownsRow 0 79 5 (.slice (some ⟨q, 0, none⟩) m cap) m (flat (rs.eraseIdx i))) := own_tail O1 hrl _
  have KE : Hid (Kept (fun b => b = q) w (W1.setCells q (m * 5) (Builtin.zeroCells zW.cells 1).toList)) := hK1.trans (kept_setCells q _ _ _ rfl)
  obtain ⟨Z, hZ⟩ : ∃ Z, Z = (Builtin.zeroCells zW.cells 1).toList := ⟨_, rfl⟩
  rw [← hZ] at hcl OE KE
  have hW : Hid (W1 = w.drew.setCells q (0 + i * 5) news) := hW1
  have hOW := Lib.hid hown
  have hic : i ≤ cap := by omega
  have hi1 : i + 1 ≤ cap := by omega
  have hiI : ((i : Int) == (i : Int) + 1) = false := beq_eq_false_iff_ne.2 (by omega)
  have hicI : (i : Int) + 1 ≤ (m : Int) + 1 := by omega
  have hi0I : (0 : Int) ≤ (i : Int) + 1 := by omega
  have hmi : i + (m - i) = m := by omega
  have hm1 : m + 1 - m = 1 := by omega
  clear hZ hW1 hK1 hg1 hs1 hflen O1 hrl hsome hone hget hlen hnews hfz hcell hg hs ht hown hm hsh
  go_enter Tryz.func124, Tryz.ntmps124
  go_wp2_with fail
  go_region_law (refine step_append_room rfl (.tmp 22) (.tmp 25) 94 rfl 79 i0 5 Tryz.underlying94 hi0 hz1 q 0 i cap (by simp [Act.eval, Act.put]) A (m - i) (cap - (i + 1)) news (by simp [Act.eval, Act.put]) s1.out hsrc.out s2.out (by omega) s3.out ?_; rw [← hW.out])
  go_wp2_with fail
  go_ret
  exact ⟨rfl, OE.out, KE.out⟩
/-- An entry goes. -/
def dropE (l : List Ent) (g : Str) (c : Int) : List Ent := l.eraseIdx (findI l g c)
theorem entsOf_erase (rs : List Row) (i : Nat) : entsOf (rs.eraseIdx i) = (entsOf rs).eraseIdx i := by
  unfold entsOf
  rw [List.eraseIdx_eq_take_drop_succ, List.eraseIdx_eq_take_drop_succ, List.map_append, List.map_take, List.map_drop]
def DropPost (R : Nat → Prop) (w : World) (tb : Nat) (l : List Ent) (g : Str) (c : Int) (e : Ending) (w' : World) : Prop :=
  (if hitB l g c = true then e = .returned .nilIface ∧ TabAt 79 R w' tb (dropE l g c) else ∃ v, e = .returned v ∧ IsFlt w.heap.size w' v 9 ∧ TabAt 79 R w' tb l) ∧ Kept R w w'
set_option maxRecDepth 100000 in
set_option maxHeartbeats 8000000 in
theorem drop_at {R : Nat → Prop} {w : World} {tb : Nat} {l : List Ent} (h : TabAt 79 R w tb l) (g : Str) (c : Int) :
    Calls Tryz.prog 86 #[.pointer (some ⟨tb, 0, none⟩), .string (bs g), .int .i64 c] w (DropPost R w tb l g c) := by
  obtain ⟨v, rs, rfl, hT⟩ := h
  have HT := Lib.hid hT
  have hfi := findI_le (entsOf rs) g c
  rw [entsOf_len] at hfi
  have hfew := hT.few
  have CF := Lib.hid (find_any ⟨v, rs, rfl, hT⟩ (bs g) c)
  rw [bs_toList] at CF
  have HP : Hid (∀ e w', ((if hitB (entsOf rs) g c = true then e = Ending.returned .nilIface ∧ TabAt 79 R w' tb (dropE (entsOf rs) g c) else ∃ v, e = .returned v ∧ IsFlt w.heap.size w' v 9 ∧ TabAt 79 R w' tb (entsOf rs)) ∧ Kept R w w') → DropPost R w tb (entsOf rs) g c e w') := fun e w' h => h
  obtain ⟨i, hi⟩ : ∃ z, z = findI (entsOf rs) g c := ⟨_, rfl⟩
  have HI := Lib.hid hi
  rw [← hi] at hfi CF
  cases hh : hitB (entsOf rs) g c with
  | true =>
    rw [hh] at CF
    have hit : i < rs.length := by have := hh; unfold hitB at this; rw [decide_eq_true_eq, ← HI.out, entsOf_len] at this; exact this.1
    have HH := Lib.hid hh
    obtain ⟨m, hm⟩ : ∃ m, rs.length = m + 1 := ⟨rs.length - 1, by omega⟩
    have HM := Lib.hid hm
    clear hT hi hh
    go_enter Tryz.func86, Tryz.ntmps86
    go_wp2_with fail
    refine CF.out.mono ?_
    rintro e w2 ⟨rfl, hb2⟩
    have B2 := Lib.hid hb2
    have T2 := Lib.hid (HT.out.below hb2)
    clear hb2 CF
    obtain ⟨va, vc, rfl, hv1, hv2⟩ := T2.out.rows.slice
    rw [entsOf_len] at *
    obtain ⟨q, rfl⟩ : ∃ q, va = some ⟨q, 0, none⟩ := by
      rcases T2.out.row.2 with ⟨e0, h0⟩ | ⟨g', cap', cur, e0, _⟩
      · omega
      · cases e0; exact ⟨g', rfl⟩
    have tc := T2.out.cell
    have tz := T2.out.tbz
    have hqR := T2.out.rowR q rfl
    have hqz := T2.out.old q hqR.1
    rw [hm] at tc
    have hrow := T2.out.row
    rw [hm] at hrow
    have CD := Lib.hid (delE_any w2 rs q vc m i hrow hm (fun r hr => by obtain ⟨a, c, e, _⟩ := (T2.out.fs r hr).slice; rw [e]; rfl) (by omega) (by omega))
    clear hm hrow
    go_wp2_with fail
    refine CD.out.mono ?_
    rintro e w3 ⟨rfl, hO, hK⟩
    have O3 := Lib.hid hO
    have K3 := Lib.hid hK
    have hne : tb ≠ q := fun e => hqR.2 e.symm
    have tc3 := (World.cell?_of_block (hK.block tb tz hne)).trans tc
    have tf3 := (World.frozen?_of_block (hK.block tb tz hne)).trans T2.out.fz
    have tz3 := Nat.lt_of_lt_of_le tz hK.size
    clear hO hK CD tc
    go_wp2_with fail
    go_ret
    have KT : Kept (fun b => b = tb ∨ b = q) w2 (w3.setCell ⟨tb, 0, none⟩ (.slice (some ⟨q, 0, none⟩) m vc)) :=
      Kept.set (S := fun b => b = tb ∨ b = q) (K3.out.more fun b hb => Or.inr hb) (p := ⟨tb, 0, none⟩) (show _ = _ ∨ _ from Or.inl rfl) _
    have hel : (rs.eraseIdx i).length = m := by rw [List.length_eraseIdx, if_pos hit, HM.out]; rfl
    refine HP.out _ _ ⟨?_, ?_⟩
    · rw [if_pos HH.out]
      refine ⟨rfl, .slice (some ⟨q, 0, none⟩) m vc, rs.eraseIdx i, by rw [entsOf_erase, HI.out]; rfl, ?_⟩
      refine { tbR := T2.out.tbR, cell := World.cell?_setCell_same _ _ _ tc3, fz := by rw [World.frozen?_setCell]; exact tf3, row := ?_, rowR := fun q' hq => by (cases hq; exact hqR), fs := fun r hr => ?_,
               old := fun b hR => Nat.lt_of_lt_of_le (T2.out.old b hR) KT.size, ord := ?_, few := ?_, clean := fun r hr => T2.out.clean r (List.mem_of_mem_eraseIdx hr) }
      · rw [hel]
        exact ownsRow_same O3.out fun q' hq => by cases hq; exact Below.heap_setCell _ _ _ _ hqR.2
      · refine (T2.out.fs r (List.mem_of_mem_eraseIdx hr)).imp (fun b hb hq => ⟨hq.1, hq.2.1, fun e => hq.2.2 e⟩) KT.size fun b hb hq => KT.block b hb fun hS => ?_
        rcases hS with h | h
        · exact hq.2.1 h
        · exact hq.2.2 (by rw [h]; rfl)
      · rw [entsOf_erase]; exact T2.out.ord.sublist (List.eraseIdx_sublist _ _)
      · rw [hel]; have := HM.out; omega
    · exact ((Kept.refl R w).below B2.out).trans (KT.more fun b hb => by
        rcases hb with h | h
        · rw [h]; exact T2.out.tbR
        · rw [h]; exact hqR.1)
  | false =>
    rw [hh] at CF
    have HH := Lib.hid hh
    clear hT hi hh
    go_enter Tryz.func86, Tryz.ntmps86
    go_wp2_with fail
    refine CF.out.mono ?_
    rintro e w2 ⟨rfl, hb2⟩
    have B2 := Lib.hid hb2
    clear hb2 CF
    go_wp2_with fail
    refine (tflt_any w2 9).mono ?_
    rintro e w3 ⟨v3, rfl, hF, hb3⟩
    have F3 := Lib.hid hF
    have B3 := Lib.hid (bel_below B2.out hb3)
    have hbz := B2.out.size
    obtain ⟨bE, rfl, _⟩ := hF
    clear hb3
    go_wp2_with fail
    go_ret
    refine HP.out _ _ ⟨?_, (Kept.refl R w).below B3.out⟩
    rw [if_neg (by rw [HH.out]; simp)]
    exact ⟨_, rfl, F3.out.base hbz, _, rs, rfl, HT.out.below B3.out⟩
end Go.Proofs.YtahiahjhpakeiaaGreatDoor
end
