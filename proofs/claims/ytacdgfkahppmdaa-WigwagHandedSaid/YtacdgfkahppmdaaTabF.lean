

/-
  What leaves a table: leave, Move, Expire.
-/
import Derived.Test.YtacdgfkahppmdaaTabE
import Derived.Test.YtacdgfkahppmdaaHashA
import Derived.Test.YtacdgfkahppmdaaRingA
namespace Go.Proofs.Ytacdgfkahppmdaa
open Go.RowKit Go.Maps Go.Sort Go.WideShapes Go.ChangeShapes Go.Deep
set_option linter.unusedVariables false
set_option linter.unusedSimpArgs false
attribute [local go_sem] later_cell later_frozen later_lt cell_set_off cell_set_block keptT_cell keptT_lt

def leavK (p : Ent → Bool) (l : List Ent) (k : Nat) : List Ent := ((l.take k).filter p).map cleanE
theorem leavK_succ (p : Ent → Bool) (l : List Ent) {k : Nat} (hk : k < l.length) : leavK p l (k + 1) = if p (entAt l k) = true then leavK p l k ++ [cleanE (entAt l k)] else leavK p l k := by
  unfold leavK
  rw [List.take_succ_eq_append_getElem hk, List.filter_append, List.map_append, entAt_eq hk]
  by_cases h : p l[k] = true
  · rw [if_pos h]; simp [h]
  · rw [if_neg h]; simp [h]
theorem leavK_len (p : Ent → Bool) (l : List Ent) (k : Nat) : (leavK p l k).length ≤ l.length := by
  have h1 := List.length_filter_le p (l.take k)
  have h2 : (l.take k).length ≤ l.length := by simp; omega
  unfold leavK
  rw [List.length_map]; omega
theorem leavK_all (p : Ent → Bool) (l : List Ent) : leavK p l l.length = (l.filter p).map cleanE := by unfold leavK; rw [List.take_length]
def stayE (p : Ent → Bool) (l : List Ent) : List Ent := l.filter fun e => !p e
theorem entsOf_filter (p : Ent → Bool) (rs : List Row) : entsOf (rs.filter (keepR p)) = stayE p (entsOf rs) := by
  unfold entsOf stayE
  rw [List.filter_map]
  rfl
/-- What leave leaves. -/
def LeavePost (R : Nat → Prop) (w : World) (tb : Nat) (l : List Ent) (p : Ent → Bool) (e : Ending) (w' : World) : Prop :=
  ∃ v, e = .returned v ∧ EntsIn (fun b => w.heap.size ≤ b) ((l.filter p).map cleanE) w' v ∧ TabAt 30 R w' tb (stayE p l) ∧ Kept R w w'
set_option maxRecDepth 100000 in
set_option maxHeartbeats 8000000 in
theorem leave_at {R : Nat → Prop} {w : World} {tb : Nat} {l : List Ent} (h : TabAt 30 R w tb l) (g : Nat) (lb : Array Value) (eg : ∀ args w, (callFunc g args).run Try.prog w = .ok (.enter g args) w) (p : Ent → Bool) (hp : PredE R g lb p l w) :
    Calls Try.prog 26 #[.pointer (some ⟨tb, 0, none⟩), .func (.func g) #[] lb] w (LeavePost R w tb l p) := by
  have hcl := h.clean
  have hfew := h.few
  obtain ⟨v, rs, rfl, hT⟩ := h
  have HT := Lib.hid hT
  have PP := Lib.hid hp
  have HE := Lib.hid hT.rows
  have HFS : Hid (∀ k, k < (entsOf rs).length → (entAt (entsOf rs) k).fs.length ≤ 16) := fun k hk => few_fs (hcl _ (by rw [entAt_eq hk]; exact List.getElem_mem hk))
  have tc := hT.cell
  have tz := hT.tbz
  have HP : Hid (∀ v' w', EntsIn (fun b => w.heap.size ≤ b) (((entsOf rs).filter p).map cleanE) w' v' → TabAt 30 R w' tb (stayE p (entsOf rs)) → Kept R w w' → LeavePost R w tb (entsOf rs) p (.returned v') w') := fun v' w' h1 h2 h3 => ⟨v', rfl, h1, h2, h3⟩
  have HLA := Lib.hid (leavK_all p (entsOf rs))
  obtain ⟨a, cp, rfl, _⟩ := HE.out.slice
  have CD := Lib.hid fun w' (hb : Below w.heap.size w w') => delf_any w' rs _ (HE.out.below hb) (HT.out.below hb).row (fun r hr => by obtain ⟨a, c, e, _⟩ := (HT.out.fs r hr).slice; exact ⟨a, _, c, e⟩) (by rw [entsOf_len] at hfew; omega) g lb eg p
    (fun w'' hk k hkl => PP.out w'' (((Kept.refl R w).below hb).trans (hk.more fun b hb => (HT.out.rowR b hb).1)) k hkl)
  rw [entsOf_len] at tc HE CD HT
  obtain ⟨l, hl⟩ : ∃ z, z = entsOf rs := ⟨_, rfl⟩
  have HL := Lib.hid hl
  have hln : Hid (l.length = rs.length) := show _ = _ by rw [hl, entsOf_len]
  rw [← hl] at HFS hfew HP PP HLA ⊢
  have HEl : Hid (∀ wr, Below w.heap.size w wr → EntsIn R l wr (.slice a l.length cp)) := fun wr hb => by rw [hln.out, hl]; exact HE.out.below hb
  rw [← hln.out] at tc CD
  clear hT hp hcl hl HE
  go_enter Try.func26, Try.ntmps26
  go_wp2_with fail
  go_loopw [5, 13] (fun vo i wr => ∃ k : Nat, k ≤ l.length ∧ i = .int .i64 k ∧ Hid (OwnEnts w.heap.size (leavK p l k) wr vo) ∧ Hid (Below w.heap.size w wr)) (fun _ i _ => l.length - (intOf i).toNat)
  case atStart => exact ⟨0, Nat.zero_le _, rfl, ownEnts_nil _ _, Below.refl _ _⟩
  case round =>
    obtain ⟨k, hk, rfl, hO, hB⟩ := hrel
    by_cases hlt : k < l.length
    · obtain ⟨b, off, fa, fc, rfl, _, hbz, d0, d1, d2, d3, d4, dS⟩ := (HEl.out _ hB.out).at k hlt
      have hsu := leavK_succ p l hlt
      have hfs := HFS.out k hlt
      have hkl := leavK_len p l k
      have CP := fun w' (hb : Below w.heap.size w w') => PP.out w' ((Kept.refl R w).below hb) k hlt fa (entAt l k).fs.length fc
      obtain ⟨E, hEe⟩ : ∃ z, z = entAt l k := ⟨_, rfl⟩
      rw [← hEe] at d0 d1 d2 d3 d4 dS hsu hfs CP
      obtain ⟨eg', ec, efs, ea, et⟩ := E
      dsimp only at d0 d1 d2 d3 d4 dS hsu hfs CP
      have DS := Lib.hid dS.slAt
      have HSU := Lib.hid hsu
      clear hEe dS hsu
      obtain ⟨w1, hw1⟩ : ∃ z, z = wr.alloc (.cells #[.string (bs eg'), .int .i64 ec, .slice fa efs.length fc, .bool ea, .int .i64 et] 30) := ⟨_, rfl⟩
      have B1 : Hid (Below wr.heap.size wr w1) := by rw [hw1]; exact bel_alloc (Below.refl _ _) _
      have YS : Hid (Box5 w1 wr.heap.size (.string (bs eg')) (.int .i64 ec) (.slice fa efs.length fc) (.bool ea) (.int .i64 et)) := by rw [hw1]; exact box5_new wr _ _ _ _ _ _
      cases hq : p ⟨eg', ec, efs, ea, et⟩ with
      | true =>
        rw [hq] at CP
        have CP := Lib.hid CP
        have HSU2 : Hid (leavK p l (k + 1) = leavK p l k ++ [cleanE ⟨eg', ec, efs, ea, et⟩]) := show _ = _ by rw [HSU.out, if_pos hq]
        obtain ⟨L, hL⟩ : ∃ z, z = leavK p l k := ⟨_, rfl⟩
        rw [← hL] at HSU2 hkl hO
        clear hq HSU hL
        go_wp2_with fail
        rw [← hw1]
        clear hw1 d0 d1 d2 d3 d4
        refine (CP.out _ (bel_below hB.out B1.out)).mono ?_
        rintro e w8 ⟨rfl, hb8⟩
        obtain ⟨y0, y1, y2, y3, y4, -, -, -, -, -, yz⟩ := YS.out.below hb8
        have B8 := Lib.hid (bel_below B1.out hb8)
        clear hb8 CP
        go_wp2_with fail
        refine (clean_any w8 ⟨eg', ec, efs, ea, et⟩ (.slice fa efs.length fc) (DS.out.below B8.out) (show efs.length ≤ _ by omega)).mono ?_
        rintro e w2 ⟨v9, rfl, hs9, hb9⟩
        have B2 := Lib.hid (bel_below B8.out hb9)
        have S9 := Lib.hid hs9
        clear hs9 hb9 y0 y1 y2 y3 y4
        obtain ⟨x9, hx9⟩ : ∃ z, z = cleanE ⟨eg', ec, efs, ea, et⟩ := ⟨_, rfl⟩
        rw [← hx9] at S9 HSU2 ⊢
        clear hx9
        obtain ⟨f9, q9, rfl, _⟩ := S9.out.slice
        obtain ⟨g9, c9, fs9, any9, t9⟩ := x9
        unfold EntV
        dsimp only at S9 ⊢
        rw [show sV g9 = .string (bs g9) from rfl]
        have O2 := Lib.hid (hO.out.below B2.out)
        obtain ⟨ao, co, rfl⟩ := hO.out.slice
        have hno : Hid (∀ b, w8.heap.size ≤ b → Value.ownBlock (.slice ao L.length co) ≠ some b) := fun b hb h => by
          obtain ⟨rs', _, h1, _⟩ := hO.out
          have h2 := (h1.lt b h).2
          have h3 := B8.out.size
          omega
        have hbz2 := hB.out.size
        have hbz3 := B8.out.size
        have hbz4 := B2.out.size
        go_wp2_with (at_builtin; refine wpList_app_ent rfl _ _ rfl w.heap.size L _ rfl (O2.out.below (bel_alloc (Below.refl _ _) _)) w2.heap.size ⟨g9, c9, fs9, any9, t9⟩ (.slice f9 fs9.length q9) rfl ?rw ?rf (by omega) (by simp; omega) ?_)
        case rw => exact rowAt_box (box5_new w2 _ _ _ _ _ _)
        case rf => exact (SlT.of_slAt S9.out (Q := fun b => w.heap.size ≤ b ∧ Value.ownBlock (.slice ao L.length co) ≠ some b) (fun b hb _ => ⟨by omega, hno.out b hb⟩)).below (bel_alloc (Below.refl _ _) _)
        intro va wa HOA HGA
        have BA : Hid (Below w.heap.size w wa) := (bel_alloc (bel_below hB.out B2.out) _).grown HGA.out (by simp; omega) (fun q hq => by
          obtain ⟨rs', _, h1, _⟩ := O2.out
          exact (h1.lt q hq).1)
        go_wp2_with fail
        go_roundw
        case rel => go_light; exact ⟨k + 1, by omega, by go_num, (by show OwnEnts _ _ _ _; rw [HSU2.out]; exact HOA.out), BA⟩
        case measure => go_light; simp [intOf]; omega
      | false =>
        rw [hq] at CP
        have CP := Lib.hid CP
        have HSU2 : Hid (leavK p l (k + 1) = leavK p l k) := show _ = _ by rw [HSU.out, if_neg (by rw [hq]; simp)]
        clear hq HSU
        go_wp2_with fail
        rw [← hw1]
        clear hw1 d0 d1 d2 d3 d4
        refine (CP.out _ (bel_below hB.out B1.out)).mono ?_
        rintro e w8 ⟨rfl, hb8⟩
        have B8 := Lib.hid (bel_below B1.out hb8)
        have O8 := Lib.hid (hO.out.below B8.out)
        have BW8 := Lib.hid (bel_below hB.out B8.out)
        clear hb8 CP
        go_wp2_with fail
        go_roundw
        case rel => go_light; exact ⟨k + 1, by omega, by go_num, (by show OwnEnts _ _ _ _; rw [HSU2.out]; exact O8.out), BW8⟩
        case measure => go_light; simp [intOf]; omega
    · obtain rfl : k = l.length := by omega
      obtain ⟨a9, c9, rfl⟩ := hO.out.slice
      have tc := (hB.out.cell (p := ⟨tb, 0, none⟩) tz).trans tc
      have CDr := Lib.hid (CD.out wr hB.out)
      go_wp2_with fail
      refine CDr.out.mono ?_
      rintro e w5 ⟨v5, rfl, hown, hob, hk⟩
      have HTr := Lib.hid (HT.out.below hB.out)
      obtain ⟨a5, c5, rfl⟩ := own_shape hown
      have HOW := Lib.hid hown
      have HOB := Lib.hid hob
      have KD := Lib.hid hk
      have tne : Hid (¬ Value.ownBlock (.slice a l.length cp) = some tb) := fun e => (HTr.out.rowR tb (by rw [hln.out] at e; exact e)).2 rfl
      have tzr := HTr.out.tbz
      have tc5 := (World.cell?_of_block (hk.block tb tzr tne.out)).trans tc
      have tf5 := (World.frozen?_of_block (hk.block tb tzr tne.out)).trans HTr.out.fz
      clear hown hob hk CDr tc
      go_wp2_with fail
      go_ret
      have hlow : ∀ q, Value.ownBlock (.slice a l.length cp) = some q → R q ∧ q ≠ tb := fun q hq => HTr.out.rowR q (by rw [hln.out] at hq; exact hq)
      have KT : Kept (fun b => b = tb ∨ Value.ownBlock (.slice a l.length cp) = some b) wr (w5.setCell ⟨tb, 0, none⟩ (.slice a5 (rs.filter (keepR p)).length c5)) :=
        Kept.set (S := fun b => b = tb ∨ Value.ownBlock (.slice a l.length cp) = some b) (KD.out.more fun b hb => Or.inr hb) (p := ⟨tb, 0, none⟩) (show _ = _ ∨ _ from Or.inl rfl) _
      refine HP.out _ _ ?_ ?_ ?_
      · rw [← HLA.out]
        refine (hO.out.kept KT fun b hb _ hS => ?_).ents
        rcases hS with h | h
        · have := HT.out.tbz; omega
        · have := HT.out.old b (hlow b h).1; omega
      · refine ⟨.slice a5 (rs.filter (keepR p)).length c5, rs.filter (keepR p), by rw [entsOf_filter, ← HL.out], ?_⟩
        have hob : ∀ q, Value.ownBlock (.slice a5 (rs.filter (keepR p)).length c5) = some q → R q ∧ q ≠ tb := fun q hq => hlow q (by rw [← HOB.out]; exact hq)
        refine { tbR := HTr.out.tbR, cell := World.cell?_setCell_same _ _ _ tc5, fz := by rw [World.frozen?_setCell]; exact tf5, row := ownsRow_same HOW.out fun q hq => Below.heap_setCell _ _ _ _ (hob q hq).2, rowR := hob, fs := fun r hr => ?_,
                 old := fun b hR => Nat.lt_of_lt_of_le (HTr.out.old b hR) KT.size, ord := ?_, few := ?_, clean := fun r hr => HTr.out.clean r (List.mem_filter.1 hr).1 }
        · refine (HTr.out.fs r (List.mem_filter.1 hr).1).imp (fun b hb hq => ⟨hq.1, hq.2.1, fun e => hq.2.2 (by rw [HOB.out] at e; rw [← hln.out]; exact e)⟩) KT.size fun b hb hq => KT.block b hb fun hS => ?_
          rcases hS with h | h
          · exact hq.2.1 h
          · exact hq.2.2 (by rw [← hln.out]; exact h)
        · rw [entsOf_filter]; exact HTr.out.ord.sublist List.filter_sublist
        · exact Nat.le_trans (List.length_filter_le _ _) HTr.out.few
      · exact ((Kept.refl R w).below hB.out).trans (KT.more fun b hb => by
          rcases hb with h | h
          · rw [h]; exact HTr.out.tbR
          · exact (hlow b h).1)
/-- Does a group's place lie behind one place, up to another one? -/
def inE (a b : Int) (e : Ent) : Bool := inB (keyH (bs e.g)) a b
set_option maxRecDepth 100000 in
set_option maxHeartbeats 4000000 in
theorem move1_any (w : World) (gb : ByteArray) (hg : gb.size ≤ 1000000) (c : Int) (fa : Option Addr) (fn fc : Nat) (any : Bool) (t : Int) (b1 b2 : Nat) (x y : Int) (h1 : w.cell? ⟨b1, 0, none⟩ = some (.int .u64 x)) (h2 : w.cell? ⟨b2, 0, none⟩ = some (.int .u64 y)) :
    Calls Try.prog 27 #[.agg #[.string gb, .int .i64 c, .slice fa fn fc, .bool any, .int .i64 t], .pointer (some ⟨b1, 0, none⟩), .pointer (some ⟨b2, 0, none⟩)] w fun e w' => e = .returned (.bool (inB (keyH gb) x y)) ∧ Below w.heap.size w w' := by
  have z1 : b1 < w.heap.size := by
    rcases Nat.lt_or_ge b1 w.heap.size with h | h
    · exact h
    · unfold World.cell? at h1; simp [h] at h1
  have z2 : b2 < w.heap.size := by
    rcases Nat.lt_or_ge b2 w.heap.size with h | h
    · exact h
    · unfold World.cell? at h2; simp [h] at h2
  go_enter Try.func27, Try.ntmps27
  go_upto_region 1 with (fail)
  obtain ⟨w1, hw1⟩ : ∃ z, z = w.alloc (.cells #[.string gb, .int .i64 c, .slice fa fn fc, .bool any, .int .i64 t] 30) := ⟨_, rfl⟩
  obtain ⟨X, hX⟩ : ∃ z, z = w.heap.size := ⟨_, rfl⟩
  have b01 : Below w.heap.size w w1 := by rw [hw1]; exact bel_alloc (Below.refl _ _) _
  obtain ⟨x0, -, -, -, -, -, -, -, -, -, xz⟩ : Box5 w1 X (.string gb) (.int .i64 c) (.slice fa fn fc) (.bool any) (.int .i64 t) := by
    rw [hw1, hX]; exact box5_new w _ _ _ _ _ _
  have h1 := (b01.cell (p := ⟨b1, 0, none⟩) z1).trans h1
  have h2 := (b01.cell (p := ⟨b2, 0, none⟩) z2).trans h2
  have z1 := Nat.lt_of_lt_of_le z1 b01.size
  have z2 := Nat.lt_of_lt_of_le z2 b01.size
  rw [← hw1]
  try rw [← hX]
  have B01 := Lib.hid b01
  clear hw1 hX b01
  refine wp_region_calm (by kernel_rfl) (by kernel_rfl) ?_
  repeat (first | (go_big_quiet_step ((first | (go_at_call 29; exact calls_calm (key_any gb _ hg)) | (go_at_call 28; exact calls_calm_same (in_any _ _ _ _))))) | (refine wpQuiet_step (fun K hK => ?_); go_simp; first | (refine hK _ ?_; clear hK K) | (apply Exists.intro; refine ⟨fun _ => ?_, hK _ ?_⟩; (first | (go_at_call 29; exact calls_calm (key_any gb _ hg)) | (go_at_call 28; exact calls_calm_same (in_any _ _ _ _))); clear hK K)))
  refine wpQuiet_nil ?_
  intro _ hw'
  obtain ⟨xq, hw''⟩ := hw'
  subst hw''
  go_wp2_with fail
  go_ret
  exact ⟨rfl, bel_below B01.out xq.below⟩
set_option maxRecDepth 100000 in
theorem expire1_any (w : World) (gb : ByteArray) (c : Int) (fa : Option Addr) (fn fc : Nat) (any : Bool) (t : Int) (b1 : Nat) (x : Int) (h1 : w.cell? ⟨b1, 0, none⟩ = some (.int .i64 x)) :
    Calls Try.prog 31 #[.agg #[.string gb, .int .i64 c, .slice fa fn fc, .bool any, .int .i64 t], .pointer (some ⟨b1, 0, none⟩)] w fun e w' => e = .returned (.bool (decide (t < x))) ∧ Below w.heap.size w w' := by
  have z1 : b1 < w.heap.size := by
    rcases Nat.lt_or_ge b1 w.heap.size with h | h
    · exact h
    · unfold World.cell? at h1; simp [h] at h1
  go_enter Try.func31, Try.ntmps31
  go_wp2_with fail
  go_ret
  exact ⟨rfl, bel_alloc (Below.refl _ _) _⟩
theorem shortE {l : List Ent} (h : ∀ e ∈ l, e.g.length ≤ 1000000) {k : Nat} (hk : k < l.length) : (bs (entAt l k).g).size ≤ 1000000 := by
  rw [bs_size, entAt_eq hk]; exact h _ (List.getElem_mem hk)
set_option maxRecDepth 100000 in
/-- Move: those of the groups behind a place, up to another one, go, and are told. -/
theorem move_at {R : Nat → Prop} {w : World} {tb : Nat} {l : List Ent} (h : TabAt 30 R w tb l) (hs : ∀ e ∈ l, e.g.length ≤ 1000000) (x y : Int) :
    Calls Try.prog 15 #[.pointer (some ⟨tb, 0, none⟩), .int .u64 x, .int .u64 y] w (LeavePost R w tb l (inE x y)) := by
  obtain ⟨w2, hw2⟩ : ∃ z, z = (w.alloc (.cells #[.int .u64 x] 38)).alloc (.cells #[.int .u64 y] 38) := ⟨_, rfl⟩
  obtain ⟨X, hX⟩ : ∃ z, z = w.heap.size := ⟨_, rfl⟩
  have b2 : Below w.heap.size w w2 := by rw [hw2]; exact bel_alloc (bel_alloc (Below.refl _ _) _) _
  have c1 : w2.cell? ⟨X, 0, none⟩ = some (.int .u64 x) := by rw [hw2, hX]; simp [go_sem]
  have c2 : w2.cell? ⟨X + 1, 0, none⟩ = some (.int .u64 y) := by rw [hw2, hX]; simp [go_sem]
  have hz : X + 1 < w2.heap.size := by rw [hw2, hX]; simp
  have hR : ∀ b, R b → b < X := fun b hb => by rw [hX]; exact h.old b hb
  have hp : PredE R 27 #[.pointer (some ⟨X, 0, none⟩), .pointer (some ⟨X + 1, 0, none⟩)] (inE x y) l w2 := fun w' hk k hkl a n c =>
    move1_any w' _ (shortE hs hkl) _ a n c _ _ X (X + 1) x y ((World.cell?_of_block (hk.block X (by omega) fun hb => by have := hR _ hb; omega)).trans c1) ((World.cell?_of_block (hk.block (X + 1) hz fun hb => by have := hR _ hb; omega)).trans c2)
  have CL := Lib.hid (leave_at (h.below b2) 27 #[.pointer (some ⟨X, 0, none⟩), .pointer (some ⟨X + 1, 0, none⟩)] (enters_of Try.func27 (by kernel_rfl) rfl) (inE x y) hp)
  have B2 := Lib.hid b2
  have HP : Hid (∀ e w', LeavePost R w2 tb l (inE x y) e w' → LeavePost R w tb l (inE x y) e w') := fun e w' ⟨v, h1, h2, h3, h4⟩ => ⟨v, h1, h2.imp (fun b _ hq => Nat.le_trans b2.size hq) (Nat.le_refl _) (fun _ _ _ => rfl), h3, ((Kept.refl R w).below b2).trans h4⟩
  have es : (w.alloc (.cells #[.int .u64 x] 38)).heap.size = w.heap.size + 1 := by simp
  clear b2 c1 c2 hz hR hp h
  go_enter Try.func15, Try.ntmps15
  go_wp2_with fail
  rw [← hw2]
  try rw [es]
  try rw [← hX]
  clear hw2 hX es
  refine CL.out.mono ?_
  intro e w3 hpost
  have H3 := HP.out _ _ hpost
  obtain ⟨v, rfl, hv, _⟩ := hpost
  obtain ⟨a3, c3, rfl, _⟩ := hv.slice
  obtain ⟨n, hn⟩ : ∃ n, n = (((l.filter (inE x y)).map cleanE)).length := ⟨_, rfl⟩
  rw [← hn] at H3 ⊢
  have H3 := Lib.hid H3
  clear hv hn
  go_wp2_with fail
  go_ret
  exact H3.out
/-- How many go. -/
def ExpirePost (R : Nat → Prop) (w : World) (tb : Nat) (l : List Ent) (x : Int) (e : Ending) (w' : World) : Prop :=
  e = .returned (.int .i64 (l.filter fun e => decide (e.t < x)).length) ∧ TabAt 30 R w' tb (stayE (fun e => decide (e.t < x)) l) ∧ Kept R w w'
set_option maxRecDepth 100000 in
theorem expire_at {R : Nat → Prop} {w : World} {tb : Nat} {l : List Ent} (h : TabAt 30 R w tb l) (x : Int) :
    Calls Try.prog 17 #[.pointer (some ⟨tb, 0, none⟩), .int .i64 x] w (ExpirePost R w tb l x) := by
  obtain ⟨w2, hw2⟩ : ∃ z, z = w.alloc (.cells #[.int .i64 x] 3) := ⟨_, rfl⟩
  obtain ⟨X, hX⟩ : ∃ z, z = w.heap.size := ⟨_, rfl⟩
  have b2 : Below w.heap.size w w2 := by rw [hw2]; exact bel_alloc (Below.refl _ _) _
  have c1 : w2.cell? ⟨X, 0, none⟩ = some (.int .i64 x) := by rw [hw2, hX]; simp [go_sem]
  have hz : X < w2.heap.size := by rw [hw2, hX]; simp
  have hR : ∀ b, R b → b < X := fun b hb => by rw [hX]; exact h.old b hb
  obtain ⟨p, hpe⟩ : ∃ p : Ent → Bool, p = fun e => decide (e.t < x) := ⟨_, rfl⟩
  have hp : PredE R 31 #[.pointer (some ⟨X, 0, none⟩)] p l w2 := fun w' hk k hkl a n c => by
    rw [hpe]
    exact expire1_any w' _ _ a n c _ _ X x ((World.cell?_of_block (hk.block X hz fun hb => by have := hR _ hb; omega)).trans c1)
  have CL := Lib.hid (leave_at (h.below b2) 31 #[.pointer (some ⟨X, 0, none⟩)] (enters_of Try.func31 (by kernel_rfl) rfl) p hp)
  have B2 := Lib.hid b2
  have HP : Hid (∀ n w', n = (l.filter p).length → TabAt 30 R w' tb (stayE p l) → Kept R w2 w' → ExpirePost R w tb l x (.returned (.int .i64 (n : Nat))) w') := fun n w' h1 h2 h3 => ⟨by rw [h1, hpe], by rw [hpe] at h2; exact h2, ((Kept.refl R w).below b2).trans h3⟩
  clear b2 c1 hz hR hp h hpe
  go_enter Try.func17, Try.ntmps17
  go_wp2_with fail
  rw [← hw2]
  try rw [← hX]
  clear hw2 hX
  refine CL.out.mono ?_
  rintro e w3 ⟨v, rfl, hv, ht, hk⟩
  obtain ⟨a3, c3, rfl, _⟩ := hv.slice
  have HT := Lib.hid ht
  have HK := Lib.hid hk
  have hlen : Hid (((l.filter p).map cleanE).length = (l.filter p).length) := show _ = _ by rw [List.length_map]
  rw [hlen.out]
  clear hv ht hk
  go_wp2_with fail
  go_ret
  exact HP.out _ _ rfl HT.out HK.out
end Go.Proofs.Ytacdgfkahppmdaa
