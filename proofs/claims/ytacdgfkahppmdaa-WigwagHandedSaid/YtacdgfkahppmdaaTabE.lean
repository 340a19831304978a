

/-
  What leaves a table: IndexFunc, DeleteFunc, leave.
-/
import Derived.Test.YtacdgfkahppmdaaTabD
namespace Go.Proofs.Ytacdgfkahppmdaa
open Go.RowKit Go.Maps Go.Sort Go.WideShapes Go.ChangeShapes Go.Deep
set_option linter.unusedVariables false
set_option linter.unusedSimpArgs false
attribute [local go_sem] later_cell later_frozen later_lt cell_set_off cell_set_block keptT_cell keptT_lt

/-- A function value that tells of some entries whether p holds. -/
def PredE (S : Nat → Prop) (g : Nat) (lb : Array Value) (p : Ent → Bool) (l : List Ent) (w0 : World) : Prop :=
  ∀ w', Kept S w0 w' → ∀ k, k < l.length → ∀ a n c, Calls Try.prog g (#[.agg #[.string (bs (entAt l k).g), .int .i64 (entAt l k).c, .slice a n c, .bool (entAt l k).any, .int .i64 (entAt l k).t]] ++ lb) w' fun e' w'' => e' = .returned (.bool (p (entAt l k))) ∧ Below w'.heap.size w' w''
theorem PredE.kept {S : Nat → Prop} {g : Nat} {lb : Array Value} {p : Ent → Bool} {l : List Ent} {w0 w1 : World} (h : PredE S g lb p l w0) (hk : Kept S w0 w1) : PredE S g lb p l w1 := fun w' hw => h w' (hk.trans hw)
/-- The first of which it is true. -/
def idxE (p : Ent → Bool) (l : List Ent) (e : Ending) : Prop :=
  (e = .returned (.int .i64 (-1)) ∧ ∀ k, k < l.length → p (entAt l k) = false) ∨ ∃ k, k < l.length ∧ e = .returned (.int .i64 (k : Nat)) ∧ p (entAt l k) = true ∧ ∀ j, j < k → p (entAt l j) = false
set_option maxRecDepth 100000 in
set_option maxHeartbeats 8000000 in
theorem idxf_any {Q S : Nat → Prop} (w : World) (l : List Ent) (v : Value) (hE : EntsIn Q l w v) (hl : l.length ≤ 1000000) (g : Nat) (lb : Array Value) (eg : ∀ args w, (callFunc g args).run Try.prog w = .ok (.enter g args) w) (p : Ent → Bool) (hp : PredE S g lb p l w) :
    Calls Try.prog 49 #[v, .func (.func g) #[] lb] w fun e w' => idxE p l e ∧ Below w.heap.size w w' := by
  obtain ⟨a0, c0, rfl, hc1, hc2⟩ := hE.slice
  have HE := Lib.hid hE
  have PP := Lib.hid hp
  have H1 : Hid (∀ w', (∀ k, k < l.length → p (entAt l k) = false) → Below w.heap.size w w' → idxE p l (.returned (.int .i64 (-1))) ∧ Below w.heap.size w w') := fun w' h1 h2 => ⟨Or.inl ⟨rfl, h1⟩, h2⟩
  have H2 : Hid (∀ k w', k < l.length → p (entAt l k) = true → (∀ j, j < k → p (entAt l j) = false) → Below w.heap.size w w' → idxE p l (.returned (.int .i64 (k : Nat))) ∧ Below w.heap.size w w') := fun k w' h1 h2 h3 h4 => ⟨Or.inr ⟨k, h1, rfl, h2, h3⟩, h4⟩
  clear hE hp
  go_enter Try.func49, Try.ntmps49
  go_wp2_with fail
  go_loopw [8] (fun i wr => ∃ k : Nat, k ≤ l.length ∧ i = .int .i64 k ∧ Hid (∀ j, j < k → p (entAt l j) = false) ∧ Hid (Below w.heap.size w wr)) (fun i _ => l.length - (intOf i).toNat)
  case atStart => exact ⟨0, Nat.zero_le _, rfl, fun j hj => absurd hj (Nat.not_lt_zero _), Below.refl _ _⟩
  case round =>
    obtain ⟨k, hk, rfl, hN, hB⟩ := hrel
    by_cases hlt : k < l.length
    · obtain ⟨b, off, fa, fc, rfl, _, hbz, d0, d1, d2, d3, d4, dS⟩ := (HE.out.below hB.out).at k hlt
      have CP := PP.out wr ((Kept.refl S w).below hB.out) k hlt fa (entAt l k).fs.length fc
      obtain ⟨E, hEe⟩ : ∃ z, z = entAt l k := ⟨_, rfl⟩
      have HEe := Lib.hid hEe
      rw [← hEe] at d0 d1 d2 d3 d4 CP
      clear hEe dS
      obtain ⟨eg', ec, efs, ea, et⟩ := E
      dsimp only at d0 d1 d2 d3 d4 CP
      cases hq : p ⟨eg', ec, efs, ea, et⟩ with
      | true =>
        rw [hq] at CP
        have CP := Lib.hid CP
        have HQ : Hid (p (entAt l k) = true) := show _ = _ by rw [← HEe.out]; exact hq
        clear hq HEe
        go_wp2_with (go_at_fn g; refine CP.out.mono ?_; rintro e w' ⟨rfl, hb5⟩)
        go_ret
        exact H2.out k _ hlt HQ.out hN.out (bel_below hB.out hb5)
      | false =>
        rw [hq] at CP
        have CP := Lib.hid CP
        have HN2 : Hid (∀ j, j < k + 1 → p (entAt l j) = false) := fun j hj => by
          rcases Nat.lt_or_ge j k with h | h
          · exact hN.out j h
          · obtain rfl : j = k := by omega
            rw [← HEe.out]; exact hq
        clear hq HEe
        go_wp2_with (go_at_fn g; refine CP.out.mono ?_; rintro e w' ⟨rfl, hb5⟩)
        have B5 := Lib.hid (bel_below hB.out hb5)
        clear hb5
        go_roundw
        case rel => go_light; exact ⟨k + 1, by omega, by go_num, HN2, B5⟩
        case measure => go_light; simp [intOf]; omega
    · obtain rfl : k = l.length := by omega
      go_wp2_with fail
      go_ret
      exact H1.out _ hN.out hB.out
/-- Row k of a row of one's own. -/
theorem own_rowAt {w : World} {base e q n cap : Nat} {rs : List Row} (h : w.ownsRow base e 5 (.slice (some ⟨q, 0, none⟩) n cap) n (flat rs)) {k : Nat} (hk : k < rs.length) : RowAt w q (k * 5) rs[k] := by
  have hc := h.cells (g := q) rfl
  refine rowAt_of fun j u hu => ?_
  have hj : j < 5 := by
    have := (List.getElem?_eq_some_iff.1 hu).1
    rwa [Row.len] at this
  have := hc (k * 5 + j) u (by rw [flat_cell hk hj]; exact hu)
  rw [add_spot _ _ rfl] at this
  dsimp only at this
  rw [Nat.zero_add] at this
  exact this
theorem own_take {w : World} {base e q n cap : Nat} {rs : List Row} (h : w.ownsRow base e 5 (.slice (some ⟨q, 0, none⟩) n cap) n (flat rs)) (hn : rs.length = n) {i : Nat} (hi : i ≤ n) :
    w.ownsRow base e 5 (.slice (some ⟨q, 0, none⟩) i cap) i (flat (rs.take i)) := by
  obtain ⟨cur, hB, hg, hnc, hm, hs, ht⟩ : ∃ cur, base ≤ q ∧ w.heap[q]? = some (.cells cur e (0, 0)) ∧ n ≤ cap ∧ cap ≤ maxLen ∧ cur.size = cap * 5 ∧ cur.toList.take (n * 5) = flat rs := by
    rcases h.2 with ⟨h0, _⟩ | ⟨g', cap', cur, e0, hB, hg, hnc, hm, hs, ht⟩
    · cases h0
    · cases e0
      exact ⟨cur, hB, hg, hnc, hm, hs, ht⟩
  refine ⟨by rw [flat_length, List.length_take]; omega, Or.inr ⟨q, cap, cur, rfl, hB, hg, by omega, hm, hs, ?_⟩⟩
  have e1 : flat (rs.take i) = (flat rs).take (i * 5) := (flat_take Row.cells Row.len rs i).symm
  rw [e1, ← ht, List.take_take, Nat.min_eq_left (by omega)]
/-- What lies behind the first i rows may turn. -/
theorem own_tail {w : World} {base e q i cap : Nat} {rs : List Row} (h : w.ownsRow base e 5 (.slice (some ⟨q, 0, none⟩) i cap) i (flat rs)) (hn : rs.length = i) (vs : List Value) :
    (w.setCells q (i * 5) vs).ownsRow base e 5 (.slice (some ⟨q, 0, none⟩) i cap) i (flat rs) := by
  obtain ⟨cur, hB, hg, hnc, hm, hs, ht⟩ : ∃ cur, base ≤ q ∧ w.heap[q]? = some (.cells cur e (0, 0)) ∧ i ≤ cap ∧ cap ≤ maxLen ∧ cur.size = cap * 5 ∧ cur.toList.take (i * 5) = flat rs := by
    rcases h.2 with ⟨h0, _⟩ | ⟨g', cap', cur, e0, hB, hg, hnc, hm, hs, ht⟩
    · cases h0
    · cases e0
      exact ⟨cur, hB, hg, hnc, hm, hs, ht⟩
  obtain ⟨cur', q1, q2⟩ := heap_setCells_row q vs (i * 5) w cur e (0, 0) hg
  refine own_row_wide q1 (by omega) hnc hm hB (by rw [flat_length, hn]) (fun j u hu => ?_)
  have hj : j < i * 5 := by
    have := (List.getElem?_eq_some_iff.1 hu).1
    rw [flat_length] at this
    omega
  rw [World.cell?_setCells_out q _ _ _ _ (fun _ _ => Or.inl hj), cell_of_row w q j cur e (0, 0) hg]
  rw [← ht, List.getElem?_take, if_pos hj] at hu
  simpa using hu
theorem own_some {w : World} {base e q n cap : Nat} {rs : List Row} (h : w.ownsRow base e 5 (.slice (some ⟨q, 0, none⟩) n cap) n (flat rs)) (hn : rs.length = n) {j : Nat} (hj : j < n * 5) : (w.cell? ⟨q, j, none⟩).isSome = true := by
  have hc := h.cells (g := q) rfl
  have hl : j < (flat rs).length := by rw [flat_length, hn]; exact hj
  have := hc j _ (List.getElem?_eq_getElem hl)
  rw [show ((⟨q, 0, none⟩ : Addr).add j) = ⟨q, j, none⟩ from by unfold Addr.add; by_cases e : j = 0 <;> simp [e]] at this
  rw [this]; rfl
def keepR (p : Ent → Bool) (r : Row) : Bool := !p r.e
/-- A row from which some were struck, under way. -/
structure DelInv (p : Ent → Bool) (rs : List Row) (j i : Nat) (cur : List Row) : Prop where
  len : cur.length = rs.length
  lo : cur.take i = (rs.take j).filter (keepR p)
  hi : cur.drop j = rs.drop j
  lt : i < j
  le : j ≤ rs.length
section
variable {p : Ent → Bool} {rs cur : List Row} {i j : Nat}
theorem filter_all {α : Type} {f : α → Bool} {l : List α} (h : ∀ x ∈ l, f x = true) : l.filter f = l := List.filter_eq_self.2 h
theorem del_start {k : Nat} (hk : k < rs.length) (h1 : p rs[k].e = true) (h2 : ∀ j, j < k → p (entAt (entsOf rs) j) = false) : DelInv p rs (k + 1) k rs where
  len := rfl
  lo := by
    rw [List.take_succ_eq_append_getElem hk, List.filter_append, filter_all (l := rs.take k)]
    · simp [keepR, h1]
    · intro r hr
      obtain ⟨j, hj, rfl⟩ := List.getElem_of_mem hr
      rw [List.length_take] at hj
      rw [List.getElem_take]
      have := h2 j (by omega)
      rw [entAt_of (by omega)] at this
      simp [keepR, this]
  hi := rfl
  lt := by omega
  le := by omega
theorem DelInv.at (h : DelInv p rs j i cur) (hj : j < rs.length) : cur[j]? = some rs[j] := by
  have h1 : (cur.drop j)[0]? = (rs.drop j)[0]? := by rw [h.hi]
  rw [List.getElem?_drop, List.getElem?_drop, Nat.add_zero] at h1
  rw [h1]; exact List.getElem?_eq_getElem hj
theorem DelInv.skip (h : DelInv p rs j i cur) (hj : j < rs.length) (hp : p rs[j].e = true) : DelInv p rs (j + 1) i cur where
  len := h.len
  lo := by rw [h.lo, List.take_succ_eq_append_getElem hj, List.filter_append]; simp [keepR, hp]
  hi := by rw [← List.drop_drop, h.hi, List.drop_drop]
  lt := by have := h.lt; omega
  le := hj
theorem DelInv.keep (h : DelInv p rs j i cur) (hj : j < rs.length) (hp : p rs[j].e = false) : DelInv p rs (j + 1) (i + 1) (cur.set i rs[j]) where
  len := by rw [List.length_set]; exact h.len
  lo := by
    have hl := h.len
    have hlt := h.lt
    have hi : i < (cur.set i rs[j]).length := by rw [List.length_set]; omega
    rw [List.take_succ_eq_append_getElem hi, List.getElem_set_self, List.take_set_of_le (Nat.le_refl _), h.lo, List.take_succ_eq_append_getElem hj, List.filter_append]
    simp [keepR, hp]
  hi := by
    have hlt := h.lt
    rw [List.drop_set_of_lt (by omega), ← List.drop_drop, h.hi, List.drop_drop]
  lt := by have := h.lt; omega
  le := hj
theorem DelInv.end (h : DelInv p rs rs.length i cur) : cur.take i = rs.filter (keepR p) := by rw [h.lo, List.take_length]
end
/-- What DeleteFunc leaves. -/
def DelPost (w : World) (v : Value) (p : Ent → Bool) (rs : List Row) (e : Ending) (w' : World) : Prop :=
  ∃ v', e = .returned v' ∧ w'.ownsRow 0 30 5 v' (rs.filter (keepR p)).length (flat (rs.filter (keepR p))) ∧ v'.ownBlock = v.ownBlock ∧ Kept (fun b => v.ownBlock = some b) w w'
set_option maxRecDepth 100000 in
set_option maxHeartbeats 8000000 in
theorem delf_any {Q : Nat → Prop} (w : World) (rs : List Row) (v : Value) (hE : EntsIn Q (entsOf rs) w v) (hown : w.ownsRow 0 30 5 v rs.length (flat rs)) (hsh : ∀ r ∈ rs, ∃ a n c, r.v = .slice a n c) (hl : rs.length ≤ 1000000)
    (g : Nat) (lb : Array Value) (eg : ∀ args w, (callFunc g args).run Try.prog w = .ok (.enter g args) w) (p : Ent → Bool) (hp : PredE (fun b => v.ownBlock = some b) g lb p (entsOf rs) w) :
    Calls Try.prog 40 #[v, .func (.func g) #[] lb] w (DelPost w v p rs) := by
  have CI := Lib.hid (idxf_any w (entsOf rs) v hE (by rw [entsOf_len]; exact hl) g lb eg p hp)
  have PP := Lib.hid hp
  have HO := Lib.hid hown
  have HSH := Lib.hid hsh
  obtain ⟨a0, c0, rfl⟩ := own_shape hown
  clear hE hp hown hsh
  have HP : Hid (∀ v' w', w'.ownsRow 0 30 5 v' (rs.filter (keepR p)).length (flat (rs.filter (keepR p))) → v'.ownBlock = Value.ownBlock (.slice a0 rs.length c0) → Kept (fun b => Value.ownBlock (.slice a0 rs.length c0) = some b) w w' → DelPost w (.slice a0 rs.length c0) p rs (.returned v') w') := fun v' w' h1 h2 h3 => ⟨v', rfl, h1, h2, h3⟩
  go_enter Try.func40, Try.ntmps40
  go_wp2_with fail
  refine CI.out.mono ?_
  rintro e w1 ⟨hidx, hb1⟩
  have B1 := Lib.hid hb1
  clear hb1 CI
  rcases hidx with ⟨rfl, hno⟩ | ⟨k0, hk0, rfl, hp0, hlo⟩
  · have hall : Hid (rs.filter (keepR p) = rs) := show _ = _ from filter_all fun r hr => by
      obtain ⟨j, hj, rfl⟩ := List.getElem_of_mem hr
      have := hno j (by rw [entsOf_len]; exact hj)
      rw [entAt_of hj] at this
      simp [keepR, this]
    clear hno
    go_wp2_with fail
    go_ret
    refine HP.out _ _ ?_ rfl ((Kept.refl _ w).below B1.out)
    rw [hall.out]
    exact ownsRow_same HO.out fun q hq => B1.out.block q (HO.out.lt q hq).2
  · rw [entsOf_len] at hk0
    have hkb : ((k0 : Int) == -1) = false := beq_eq_false_iff_ne.2 (by omega)
    have hst := Lib.hid (del_start hk0 (by rw [entAt_of hk0] at hp0; exact hp0) hlo)
    obtain ⟨q, rfl⟩ : ∃ q, a0 = some ⟨q, 0, none⟩ := by
      rcases HO.out.2 with ⟨e0, h0⟩ | ⟨g', cap', cur, e0, _⟩
      · omega
      · cases e0; exact ⟨g', rfl⟩
    have hcap : rs.length ≤ c0 := by
      rcases HO.out.2 with ⟨e0, h0⟩ | ⟨g', cap', cur, e0, _, _, hnc, _⟩
      · cases e0
      · cases e0; exact hnc
    clear hp0 hlo
    obtain ⟨S, hS⟩ : ∃ S : Nat → Prop, S = fun b => Value.ownBlock (.slice (some ⟨q, 0, none⟩) rs.length c0) = some b := ⟨_, rfl⟩
    have HSq : Hid (∀ b, S b ↔ b = q) := fun b => by rw [hS]; simp [Value.ownBlock]; exact eq_comm
    rw [← hS] at PP HP
    clear hS
    have K1 := Lib.hid ((Kept.refl S w).below B1.out)
    have HO1 : Hid (w1.ownsRow 0 30 5 (.slice (some ⟨q, 0, none⟩) rs.length c0) rs.length (flat rs)) := ownsRow_same HO.out fun q hq => B1.out.block q (HO.out.lt q hq).2
    go_wp2_with fail
    go_loopw [5, 6] (fun i j wr => ∃ (ii jj : Nat) (cur : List Row), i = .int .i64 ii ∧ j = .int .i64 jj ∧ jj ≤ rs.length ∧ Hid (DelInv p rs jj ii cur) ∧ Hid (wr.ownsRow 0 30 5 (.slice (some ⟨q, 0, none⟩) rs.length c0) rs.length (flat cur)) ∧ Hid (Kept S w wr)) (fun _ j _ => rs.length - (intOf j).toNat)
    case atStart => exact ⟨k0, k0 + 1, rs, rfl, by go_num, by omega, hst.out, HO1.out, K1.out⟩
    case round =>
      obtain ⟨ii, jj, cur, rfl, rfl, hjl, hI, hO, hK⟩ := hrel
      have hij := hI.out.lt
      have hcl := hI.out.len
      by_cases hlt : jj < rs.length
      · have hRA : RowAt wr q (jj * 5) rs[jj] := by
          have h1 := own_rowAt hO.out (k := jj) (by omega)
          have h2 := hI.out.at hlt
          rw [List.getElem?_eq_getElem (by omega)] at h2
          rwa [Option.some.inj h2] at h1
        obtain ⟨fa, fn, fc, hrv⟩ := HSH.out _ (List.getElem_mem hlt)
        have CP := fun w' (hk : Kept S w w') => PP.out w' hk jj (by rw [entsOf_len]; exact hlt) fa fn fc
        rw [entAt_of hlt] at CP
        have hsk := fun h => Lib.hid (hI.out.skip hlt h)
        have hkp := fun h => Lib.hid (hI.out.keep hlt h)
        obtain ⟨r, hr⟩ : ∃ z, z = rs[jj] := ⟨_, rfl⟩
        rw [← hr] at hRA hrv CP hsk hkp
        clear hr
        obtain ⟨⟨eg', ec, efs, ea, et⟩, rv⟩ := r
        dsimp only at hrv CP hsk hkp
        subst hrv
        obtain ⟨d0, d1, d2, d3, d4⟩ := hRA
        dsimp only at d0 d1 d2 d3 d4
        rw [show sV eg' = .string (bs eg') from rfl] at d0
        cases hq : p ⟨eg', ec, efs, ea, et⟩ with
        | true =>
          rw [hq] at CP
          have CP := Lib.hid CP
          have HK2 := hsk hq
          clear hsk hkp hq
          go_wp2_with fail
          refine (CP.out _ (hK.out.alloc _)).mono ?_
          rintro e w5 ⟨rfl, hb5⟩
          have b5 : Below wr.heap.size wr w5 := bel_below (bel_alloc (Below.refl _ _) _) hb5
          have O5 : Hid (w5.ownsRow 0 30 5 (.slice (some ⟨q, 0, none⟩) rs.length c0) rs.length (flat cur)) := ownsRow_same hO.out fun q hq => b5.block q (hO.out.lt q hq).2
          have K5 := Lib.hid (hK.out.below b5)
          clear hb5 b5 d0 d1 d2 d3 d4
          go_wp2_with fail
          go_roundw
          case rel => go_light; exact ⟨ii, jj + 1, cur, rfl, by go_num, by omega, HK2, O5, K5⟩
          case measure => go_light; simp [intOf]; omega
        | false =>
          rw [hq] at CP
          have CP := Lib.hid CP
          have HK2 := hkp hq
          clear hsk hkp hq
          go_wp2_with fail
          obtain ⟨w4, hw4⟩ : ∃ z, z = wr.alloc (.cells #[.string (bs eg'), .int .i64 ec, .slice fa fn fc, .bool ea, .int .i64 et] 30) := ⟨_, rfl⟩
          have B4 : Hid (Below wr.heap.size wr w4) := by rw [hw4]; exact bel_alloc (Below.refl _ _) _
          have YS : Hid (Box5 w4 wr.heap.size (.string (bs eg')) (.int .i64 ec) (.slice fa fn fc) (.bool ea) (.int .i64 et)) := by rw [hw4]; exact box5_new wr _ _ _ _ _ _
          rw [← hw4]
          clear hw4
          refine (CP.out _ (hK.out.below B4.out)).mono ?_
          rintro e w5 ⟨rfl, hb5⟩
          have b5 : Below wr.heap.size wr w5 := bel_below B4.out hb5
          have O5 : Hid (w5.ownsRow 0 30 5 (.slice (some ⟨q, 0, none⟩) rs.length c0) rs.length (flat cur)) := ownsRow_same hO.out fun q hq => b5.block q (hO.out.lt q hq).2
          have K5 := Lib.hid (hK.out.below b5)
          obtain ⟨y0, y1, y2, y3, y4, -, -, -, -, -, yz⟩ := YS.out.below hb5
          clear hb5 b5 d0 d1 d2 d3 d4
          have hii : ii < cur.length := by omega
          obtain ⟨e0, e1, e2, e3, e4⟩ := own_rowAt O5.out hii
          have z0 := own_frozen O5.out rfl (ii * 5)
          have z1 := own_frozen O5.out rfl (ii * 5 + 1)
          have z2 := own_frozen O5.out rfl (ii * 5 + 2)
          have z3 := own_frozen O5.out rfl (ii * 5 + 3)
          have z4 := own_frozen O5.out rfl (ii * 5 + 4)
          have hSq : S q := (HSq.out q).2 rfl
          have O6 := Lib.hid (own_set (r := ⟨⟨eg', ec, efs, ea, et⟩, .slice fa fn fc⟩) O5.out (by omega) (i := ii) (by omega))
          have K6 : Hid (Kept S w (w5.setCells q (ii * 5) (Row.cells ⟨⟨eg', ec, efs, ea, et⟩, .slice fa fn fc⟩))) := K5.out.trans (kept_setCells q _ _ w5 hSq)
          obtain ⟨w6, hw6⟩ : ∃ z, z = w5.setCells q (ii * 5) (Row.cells ⟨⟨eg', ec, efs, ea, et⟩, .slice fa fn fc⟩) := ⟨_, rfl⟩
          rw [← hw6] at O6 K6
          have HW6 := Lib.hid hw6
          clear hw6
          go_wp2_with fail
          go_roundw
          case rel => go_light; exact ⟨ii + 1, jj + 1, _, by go_num, by go_num, by omega, HK2, (by have := O6.out; rw [HW6.out] at this; exact this), (by have := K6.out; rw [HW6.out] at this; exact this)⟩
          case measure => go_light; simp [intOf]; omega
      · obtain rfl : jj = rs.length := by omega
        have hend := hI.out.end
        have hil : ii < rs.length := by omega
        have OT := Lib.hid (own_tail (own_take hO.out hcl (Nat.le_of_lt hil)) (by rw [List.length_take]; omega) (Builtin.zeroCells zW.cells (rs.length - ii)).toList)
        rw [hend] at OT
        have hlen : (rs.filter (keepR p)).length = ii := by rw [← hend, List.length_take]; omega
        have hzl : ∀ t, t < (Builtin.zeroCells zW.cells (rs.length - ii)).toList.length → ii * 5 + t < rs.length * 5 := fun t ht => by rw [Array.length_toList, zeros_len] at ht; omega
        have hclr : ∀ ty, (Builtin.clear_ #[22] ty #[.slice (some ⟨q, ii * 5, none⟩) (rs.length - ii) (c0 - ii)]).run Try.prog wr = .ok (.tuple #[]) (wr.setCells q (ii * 5) (Builtin.zeroCells zW.cells (rs.length - ii)).toList) := fun ty =>
          run_clear_wide wr 22 30 ty zW Try.underlying22 Try.zeroValue30 q (ii * 5) _ _ (by omega) (fun t ht => own_some hO.out hcl (hzl t ht)) (fun t ht => own_frozen hO.out rfl _) (zeros_one _)
        have hSq : S q := (HSq.out q).2 rfl
        have KE : Hid (Kept S w (wr.setCells q (ii * 5) (Builtin.zeroCells zW.cells (rs.length - ii)).toList)) := hK.out.trans (kept_setCells q _ _ wr hSq)
        obtain ⟨Z, hZ⟩ : ∃ Z, Z = (Builtin.zeroCells zW.cells (rs.length - ii)).toList := ⟨_, rfl⟩
        rw [← hZ] at hclr OT KE
        clear hzl hZ hend
        go_wp2_with fail
        go_ret
        refine HP.out _ _ ?_ rfl KE.out
        rw [hlen]
        exact OT.out
end Go.Proofs.Ytacdgfkahppmdaa
