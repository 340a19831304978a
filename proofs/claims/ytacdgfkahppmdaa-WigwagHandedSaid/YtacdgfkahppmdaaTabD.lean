

/-
  What a table tells: Children, Groups; what several want, as one: Join.
-/
import Derived.Test.YtacdgfkahppmdaaTabC
namespace Go.Proofs.Ytacdgfkahppmdaa
open Go.RowKit Go.Maps Go.Sort Go.WideShapes Go.ChangeShapes Go.Deep
set_option linter.unusedVariables false
set_option linter.unusedSimpArgs false
attribute [local go_sem] later_cell later_frozen later_lt cell_set_off cell_set_block keptT_cell keptT_lt

/-- Some entries in new memory. -/
def NewEnts (w : World) (l : List Ent) (e : Ending) (w' : World) : Prop := ∃ v, e = .returned v ∧ EntsIn (fun b => w.heap.size ≤ b) l w' v ∧ Below w.heap.size w w'
/-- A slice of one's own of entries, under way. -/
def OwnEnts (B : Nat) (l : List Ent) (w : World) (v : Value) : Prop := ∃ rs, entsOf rs = l ∧ w.ownsRow B 30 5 v rs.length (flat rs) ∧ ∀ r ∈ rs, SlT (fun b => B ≤ b ∧ v.ownBlock ≠ some b) r.e.fs w r.v
theorem OwnEnts.ents {B : Nat} {l : List Ent} {w : World} {v : Value} (h : OwnEnts B l w v) : EntsIn (fun b => B ≤ b) l w v := by
  obtain ⟨rs, rfl, h1, h2⟩ := h
  exact own_rows h1 (fun q hq => (h1.lt q hq).1) fun r hr => (h2 r hr).imp (fun _ _ h => h.1) (Nat.le_refl _) fun _ _ _ => rfl
theorem OwnEnts.slice {B : Nat} {l : List Ent} {w : World} {v : Value} (h : OwnEnts B l w v) : ∃ a cap, v = .slice a l.length cap := by
  obtain ⟨a, cap, e, _⟩ := h.ents.slice; exact ⟨a, cap, e⟩
theorem ownEnts_nil (B : Nat) (w : World) : OwnEnts B [] w (.slice none 0 0) := ⟨[], rfl, ⟨rfl, Or.inl ⟨rfl, rfl⟩⟩, by simp⟩
theorem OwnEnts.below {B : Nat} {l : List Ent} {w w' : World} {v : Value} (h : OwnEnts B l w v) (hb : Below w.heap.size w w') : OwnEnts B l w' v := by
  obtain ⟨rs, rfl, h1, h2⟩ := h
  exact ⟨rs, rfl, ownsRow_same h1 fun q hq => hb.block q (h1.lt q hq).2, fun r hr => (h2 r hr).below hb⟩
theorem OwnEnts.kept {S : Nat → Prop} {B : Nat} {l : List Ent} {w w' : World} {v : Value} (h : OwnEnts B l w v) (hk : Kept S w w') (hS : ∀ b, B ≤ b → b < w.heap.size → ¬ S b) : OwnEnts B l w' v := by
  obtain ⟨rs, rfl, h1, h2⟩ := h
  exact ⟨rs, rfl, ownsRow_same h1 fun q hq => hk.block q (h1.lt q hq).2 (hS q (h1.lt q hq).1 (h1.lt q hq).2), fun r hr => (h2 r hr).imp (fun _ _ h => h) hk.size fun b hb hq => hk.block b hb (hS b hq.1 hb)⟩
/-- One more entry, its filters in new memory. -/
theorem OwnEnts.snoc {B : Nat} {l : List Ent} {w w' : World} {v v' : Value} {x : Ent} {fv : Value} {rs : List Row} (h0 : entsOf rs = l) (h2 : ∀ r ∈ rs, SlT (fun b => B ≤ b ∧ v.ownBlock ≠ some b) r.e.fs w r.v)
    (hf : SlT (fun b => B ≤ b ∧ v.ownBlock ≠ some b) x.fs w fv) (hrow : w'.ownsRow B 30 5 v' (rs.length + 1) (flat rs ++ (Row.mk x fv).cells)) (hg : w.grownBy w' v.ownBlock) (hv : v'.ownBlock = v.ownBlock ∨ v'.ownBlock = some w.heap.size) : OwnEnts B (l ++ [x]) w' v' := by
  subst h0
  have hne : ∀ b, b < w.heap.size → v.ownBlock ≠ some b → v'.ownBlock ≠ some b := fun b hb h1 h2 => by
    rcases hv with h | h
    · rw [h] at h2; exact h1 h2
    · rw [h] at h2; cases h2; omega
  have hall : ∀ r ∈ rs ++ [Row.mk x fv], SlT (fun b => B ≤ b ∧ v.ownBlock ≠ some b) r.e.fs w r.v := fun r hr => by
    rcases List.mem_append.1 hr with h | h
    · exact h2 r h
    · simp at h; subst h; exact hf
  refine ⟨rs ++ [⟨x, fv⟩], by simp [entsOf], ?_, fun r hr => (hall r hr).imp (fun b hb hq => ⟨hq.1, hne b hb hq.2⟩) hg.size fun b hb hq => hg.block b hb fun e => hq.2 e.symm⟩
  rw [List.length_append]
  have e : flat (rs ++ [⟨x, fv⟩]) = flat rs ++ (Row.mk x fv).cells := by unfold flat; simp
  rw [e]; exact hrow
theorem rowAt_box {w : World} {b : Nat} {r : Row} (h : Box5 w b (sV r.e.g) (.int .i64 r.e.c) r.v (.bool r.e.any) (.int .i64 r.e.t)) : RowAt w b 0 r := ⟨h.c0, h.c1, h.c2, h.c3, h.c4⟩
/-- 'append(s, x)', s of the call's own, x an entry. -/
theorem wpList_app_ent {w : World} {ops : Array Oper} {rest : List Oper} {o : Oper} {a : Act} {Q : Exit → Act → World → Prop} (hgd : o.guard = none) (s x : Operand)
    (ho : o.op = .call { callee := .builtin .append, args := #[s, x], argTypes := #[22, 22] }) (B : Nat) (l : List Ent) (v : Value) (hs : a.eval s = v) (hown : OwnEnts B l w v)
    (b : Nat) (e : Ent) (fv : Value) (hx : a.eval x = .slice (some ⟨b, 0, none⟩) 1 1) (hrow : RowAt w b 0 ⟨e, fv⟩) (hf : SlT (fun b => B ≤ b ∧ v.ownBlock ≠ some b) e.fs w fv) (hl : l.length ≤ 1000000) (hB : B ≤ w.heap.size)
    (h : ∀ v' w', Hid (OwnEnts B (l ++ [e]) w' v') → Hid (w.grownBy w' v.ownBlock) → wpList Try.prog ops Q rest (a.put o.dst v') w') : wpList Try.prog ops Q (o :: rest) a w := by
  obtain ⟨i0, hi0, hz0, hz1, hz2⟩ := insW_info
  obtain ⟨rs, h0, h1, h2⟩ := hown
  have hrl : rs.length = l.length := by rw [← h0, entsOf_len]
  have hone : fv.oneCell' = true := hf.one
  have hlen := Row.len ⟨e, fv⟩
  refine wpList_app_wide (P := Try.prog) hgd s x 22 ho B 30 i0 zW 5 64 Try.underlying22 hi0 hz0 hz1 hz2 rfl (by decide) v rs.length (flat rs) hs h1 b 0 1 1 (fun j => (Row.cells ⟨e, fv⟩).getD j undef) hx (by decide) ?_ ?_ (by simp only [maxLen]; omega) (by omega) hB (Row.cells ⟨e, fv⟩) ?_ ?_
  · intro j hj
    have : j = 0 ∨ j = 1 ∨ j = 2 ∨ j = 3 ∨ j = 4 := by omega
    rcases this with rfl | rfl | rfl | rfl | rfl
    · exact hrow.c0
    · exact hrow.c1
    · exact hrow.c2
    · exact hrow.c3
    · exact hrow.c4
  · intro j hj
    refine Row.one (r := ⟨e, fv⟩) hone _ ?_
    have hj' : j < (Row.cells ⟨e, fv⟩).length := by omega
    show (Row.cells ⟨e, fv⟩).getD j undef ∈ _
    rw [List.getD_eq_getElem?_getD, List.getElem?_eq_getElem hj']
    exact List.getElem_mem hj'
  · rfl
  · intro v' w' q1 q2 q3
    exact h v' w' (OwnEnts.snoc h0 h2 hf q1 q2 q3) q2
def kidsK (l : List Ent) (g : Str) (k : Nat) : List Ent := kidsE (l.take k) g
theorem kidsK_succ (l : List Ent) (g : Str) {k : Nat} (hk : k < l.length) : kidsK l g (k + 1) = if (entAt l k).g = g then kidsK l g k ++ [cleanE (entAt l k)] else kidsK l g k := by
  unfold kidsK kidsE
  rw [List.take_succ_eq_append_getElem hk, List.filter_append, List.map_append, entAt_eq hk]
  by_cases h : l[k].g = g
  · rw [if_pos h]; simp [h]
  · rw [if_neg h]; simp [h]
theorem kidsK_len (l : List Ent) (g : Str) (k : Nat) : (kidsK l g k).length ≤ l.length := by
  have h1 := List.length_filter_le (fun e => decide (e.g = g)) (l.take k)
  have h2 : (l.take k).length ≤ l.length := by simp; omega
  unfold kidsK kidsE
  rw [List.length_map]; omega
theorem kidsK_all (l : List Ent) (g : Str) : kidsK l g l.length = kidsE l g := by unfold kidsK; rw [List.take_length]
noncomputable def entI2 : TypeInfo := (Try.prog.info? 30).get (by kernel_rfl)
theorem few_fs {x : Ent} (h : cleanE x = x) : x.fs.length ≤ 16 := by
  rw [← h]
  unfold cleanE
  split
  · simp
  · rename_i h; simp only [not_or, Nat.not_lt] at h; exact h.2
set_option maxRecDepth 100000 in
set_option maxHeartbeats 8000000 in
/-- Children: the entries of a group. -/
theorem kids_at {R : Nat → Prop} {w : World} {tb : Nat} {l : List Ent} (h : TabAt 30 R w tb l) (g : Str) : Calls Try.prog 11 #[.pointer (some ⟨tb, 0, none⟩), .string (bs g)] w (NewEnts w (kidsE l g)) := by
  obtain ⟨i0, hi0, hz0, hz1, hz2⟩ := insW_info
  have hcl := h.clean
  have hfew := h.few
  obtain ⟨v, rs, rfl, hT⟩ := h
  have HE := Lib.hid hT.rows
  have HFS : Hid (∀ k, k < (entsOf rs).length → (entAt (entsOf rs) k).fs.length ≤ 16) := fun k hk => few_fs (hcl _ (by rw [entAt_eq hk]; exact List.getElem_mem hk))
  have tc := hT.cell
  have tz := hT.tbz
  obtain ⟨l, hl⟩ : ∃ z, z = entsOf rs := ⟨_, rfl⟩
  rw [← hl] at HE HFS hfew ⊢
  clear hT hl hcl
  obtain ⟨a, cp, rfl, _⟩ := HE.out.slice
  have HP : Hid (∀ v w', EntsIn (fun b => w.heap.size ≤ b) (kidsE l g) w' v → Below w.heap.size w w' → NewEnts w (kidsE l g) (.returned v) w') := fun v w' h1 h2 => ⟨v, rfl, h1, h2⟩
  go_enter Try.func11, Try.ntmps11
  go_wp2_with fail
  go_loopw [5, 13] (fun vo i wr => ∃ k : Nat, k ≤ l.length ∧ i = .int .i64 k ∧ Hid (OwnEnts w.heap.size (kidsK l g k) wr vo) ∧ Hid (Below w.heap.size w wr)) (fun _ i _ => l.length - (intOf i).toNat)
  case atStart => exact ⟨0, Nat.zero_le _, rfl, ownEnts_nil _ _, Below.refl _ _⟩
  case round =>
    obtain ⟨k, hk, rfl, hO, hB⟩ := hrel
    by_cases hlt : k < l.length
    · obtain ⟨b, off, fa, fc, rfl, _, hbz, d0, d1, d2, d3, d4, dS⟩ := (HE.out.below hB.out).at k hlt
      have hsu := kidsK_succ l g hlt
      have hfs := HFS.out k hlt
      have hkl := kidsK_len l g k
      obtain ⟨E, hEe⟩ : ∃ z, z = entAt l k := ⟨_, rfl⟩
      rw [← hEe] at d0 d1 d2 d3 d4 dS hsu hfs
      obtain ⟨eg, ec, efs, ea, et⟩ := E
      dsimp only at d0 d1 d2 d3 d4 dS hsu hfs
      have DS := Lib.hid dS.slAt
      have HSU := Lib.hid hsu
      clear hEe dS hsu
      by_cases hg : eg = g
      · have hgb : ((bs eg).toList == (bs g).toList) = true := by rw [hg]; simp
        have HSU2 : Hid (kidsK l g (k + 1) = kidsK l g k ++ [cleanE ⟨eg, ec, efs, ea, et⟩]) := show _ = _ by rw [HSU.out, if_pos hg]
        obtain ⟨L, hL⟩ : ∃ z, z = kidsK l g k := ⟨_, rfl⟩
        rw [← hL] at HSU2 hkl hO
        clear hg HSU hL
        go_wp2_with fail
        obtain ⟨w1, hw1⟩ : ∃ z, z = wr.alloc (.cells #[.string (bs eg), .int .i64 ec, .slice fa efs.length fc, .bool ea, .int .i64 et] 30) := ⟨_, rfl⟩
        have B1 : Hid (Below wr.heap.size wr w1) := by rw [hw1]; exact bel_alloc (Below.refl _ _) _
        rw [← hw1]
        clear hw1 d0 d1 d2 d3 d4 hgb
        refine (clean_any w1 ⟨eg, ec, efs, ea, et⟩ (.slice fa efs.length fc) (DS.out.below B1.out) (show efs.length ≤ _ by omega)).mono ?_
        rintro e w2 ⟨v9, rfl, hs9, hb9⟩
        have B2 := Lib.hid (bel_below B1.out hb9)
        have S9 := Lib.hid hs9
        clear hs9 hb9
        obtain ⟨x9, hx9⟩ : ∃ z, z = cleanE ⟨eg, ec, efs, ea, et⟩ := ⟨_, rfl⟩
        rw [← hx9] at S9 HSU2 ⊢
        clear hx9
        obtain ⟨f9, q9, rfl, _⟩ := S9.out.slice
        obtain ⟨g9, c9, fs9, any9, t9⟩ := x9
        unfold EntV
        dsimp only at S9 ⊢
        rw [show sV g9 = .string (bs g9) from rfl]
        have O2 := Lib.hid (hO.out.below B2.out)
        obtain ⟨ao, co, rfl⟩ := hO.out.slice
        have hno : Hid (∀ b, w1.heap.size ≤ b → Value.ownBlock (.slice ao L.length co) ≠ some b) := fun b hb h => by
          obtain ⟨rs', _, h1, _⟩ := hO.out
          have h2 := (h1.lt b h).2
          have h3 := B1.out.size
          omega
        have hbz2 := hB.out.size
        have hbz3 := B1.out.size
        have hbz4 := B2.out.size
        go_wp2_with (at_builtin; refine wpList_app_ent rfl _ _ rfl w.heap.size L _ rfl (O2.out.below (bel_alloc (Below.refl _ _) _)) w2.heap.size ⟨g9, c9, fs9, any9, t9⟩ (.slice f9 fs9.length q9) rfl ?rw ?rf (by omega) (by simp; omega) ?_)
        case rw => exact rowAt_box (box5_new w2 _ _ _ _ _ _)
        case rf => exact (SlT.of_slAt S9.out (Q := fun b => w.heap.size ≤ b ∧ Value.ownBlock (.slice ao L.length co) ≠ some b) (fun b hb _ => ⟨by omega, hno.out b hb⟩)).below (bel_alloc (Below.refl _ _) _)
        intro va wa HOA HGA
        have BA : Hid (Below w.heap.size w wa) := (bel_alloc (bel_below hB.out B2.out) _).grown HGA.out (by simp; omega) (fun q hq => by
          obtain ⟨rs', _, h1, _⟩ := O2.out
          exact (h1.lt q hq).1)
        go_wp2_with fail
        go_roundw
        case rel => go_light; exact ⟨k + 1, by omega, by go_num, (by show OwnEnts _ _ _ _; rw [HSU2.out]; exact HOA.out), BA⟩
        case measure => go_light; simp [intOf]; omega
      · have hgb : ((bs eg).toList == (bs g).toList) = false := by rw [bs_toList, bs_toList]; simpa using hg
        have HSU2 : Hid (kidsK l g (k + 1) = kidsK l g k) := show _ = _ by rw [HSU.out, if_neg hg]
        clear hg HSU
        go_wp2_with fail
        go_roundw
        case rel => go_light; exact ⟨k + 1, by omega, by go_num, (by show OwnEnts _ _ _ _; rw [HSU2.out]; exact hO.out.below (bel_alloc (Below.refl _ _) _)), bel_alloc hB.out _⟩
        case measure => go_light; simp [intOf]; omega
    · obtain rfl : k = l.length := by omega
      obtain ⟨a9, c9, rfl⟩ := hO.out.slice
      go_wp2_with fail
      go_ret
      refine HP.out _ _ ?_ hB.out
      rw [← kidsK_all]
      exact hO.out.ents
theorem own_shape {w : World} {base e n k : Nat} {v : Value} {xs : List Value} (h : w.ownsRow base e k v n xs) : ∃ a c, v = .slice a n c := by
  rcases h.2 with ⟨rfl, rfl⟩ | ⟨g', cap', cur, rfl, _⟩
  · exact ⟨_, _, rfl⟩
  · exact ⟨_, _, rfl⟩
/-- Some texts in new memory. -/
def NewTexts (w : World) (l : List Str) (e : Ending) (w' : World) : Prop := ∃ v, e = .returned v ∧ SlS w.heap.size l w' v ∧ Below w.heap.size w w'
theorem slS_one (w : World) (s : Str) (t : TypeId) (g : Nat) (hg : g = w.heap.size) : SlAt 0 (fun _ => sV s) 1 (w.alloc (.cells #[sV s] t)) (.slice (some ⟨g, 0, none⟩) 1 1) := by
  subst hg
  refine ⟨_, 1, rfl, Nat.le_refl _, by simp [maxLen], (fun h => by cases h), Or.inr ⟨w.heap.size, 0, rfl, Nat.zero_le _, by simp, fun i hi => ?_⟩⟩
  obtain rfl : i = 0 := by omega
  simp [go_sem]
set_option maxRecDepth 100000 in
set_option maxHeartbeats 8000000 in
/-- Groups: those that have entries. -/
theorem groups_at {R : Nat → Prop} {w : World} {tb : Nat} {l : List Ent} (h : TabAt 30 R w tb l) : Calls Try.prog 16 #[.pointer (some ⟨tb, 0, none⟩)] w (NewTexts w (groupsE l)) := by
  obtain ⟨i0, hi, hz0, hz1, hz2⟩ : ∃ i0, Try.prog.info? 9 = some i0 ∧ i0.zero = some (Value.string ByteArray.empty) ∧ i0.size = 1 ∧ i0.bytes = 16 := ⟨strI, strI_at, by kernel_rfl, by kernel_rfl, by kernel_rfl⟩
  have hfew := h.few
  obtain ⟨v, rs, rfl, hT⟩ := h
  have HE := Lib.hid hT.rows
  have tc := hT.cell
  have tz := hT.tbz
  obtain ⟨l, hl⟩ : ∃ z, z = entsOf rs := ⟨_, rfl⟩
  rw [← hl] at HE hfew ⊢
  clear hT hl
  obtain ⟨a, cp, rfl, _⟩ := HE.out.slice
  have HP : Hid (∀ v w', SlS w.heap.size (groupsE l) w' v → Below w.heap.size w w' → NewTexts w (groupsE l) (.returned v) w') := fun v w' h1 h2 => ⟨v, rfl, h1, h2⟩
  go_enter Try.func16, Try.ntmps16
  go_wp2_with fail
  go_loopw [3, 11] (fun vo i wr => ∃ k : Nat, k ≤ l.length ∧ i = .int .i64 k ∧ Hid (wr.ownsRow w.heap.size 9 1 vo k (((l.take k).map (·.g)).map sV)) ∧ Hid (Below w.heap.size w wr)) (fun _ i _ => l.length - (intOf i).toNat)
  case atStart => exact ⟨0, Nat.zero_le _, rfl, ⟨rfl, Or.inl ⟨rfl, rfl⟩⟩, Below.refl _ _⟩
  case round =>
    obtain ⟨k, hk, rfl, hO, hB⟩ := hrel
    by_cases hlt : k < l.length
    · obtain ⟨b, off, fa, fc, rfl, _, hbz, d0, d1, d2, d3, d4, dS⟩ := (HE.out.below hB.out).at k hlt
      have hsu : Hid (((l.take (k + 1)).map (·.g)).map sV = ((l.take k).map (·.g)).map sV ++ [sV (entAt l k).g]) := show _ = _ by
        rw [List.take_succ_eq_append_getElem hlt, List.map_append, List.map_append, entAt_eq hlt]; rfl
      obtain ⟨E, hEe⟩ : ∃ z, z = entAt l k := ⟨_, rfl⟩
      rw [← hEe] at d0 d1 d2 d3 d4 hsu
      obtain ⟨eg, ec, efs, ea, et⟩ := E
      dsimp only at d0 d1 d2 d3 d4 hsu
      clear hEe dS
      have hbz2 := hB.out.size
      obtain ⟨L, hL⟩ : ∃ z, z = ((l.take k).map (·.g)).map sV := ⟨_, rfl⟩
      rw [← hL] at hsu hO
      clear hL
      obtain ⟨ao, co, rfl⟩ := own_shape hO.out
      go_wp2_with (at_builtin; go_loud (refine wpList_app rfl _ _ 28 rfl w.heap.size 9 i0 (.string ByteArray.empty) 16 Try.underlying28 hi hz0 hz1 hz2 rfl _ k L rfl ?c0 0 (fun _ => sV eg) 1 _ rfl (slS_one _ eg 9 _ ?c4) (fun _ => rfl) ?c1 ?c2 ?c3 ?_))
      case c0 => exact ownsRow_same hO.out fun q hq => (bel_alloc (bel_alloc (Below.refl _ wr) _) _).block q (hO.out.lt q hq).2
      case c1 => simp only [maxLen]; omega
      case c2 => omega
      case c3 => simp; omega
      case c4 => simp
      intro va wa ho hg
      have HO : Hid (wa.ownsRow w.heap.size 9 1 va (k + 1) (((l.take (k + 1)).map (·.g)).map sV)) := show World.ownsRow _ _ _ _ _ _ _ by rw [hsu.out]; exact ho
      have BA : Hid (Below w.heap.size w wa) := (bel_alloc (bel_alloc hB.out _) _).grown hg (by simp; omega) (fun q hq => (hO.out.lt q hq).1)
      clear ho hg
      go_wp2_with fail
      go_roundw
      case rel => go_light; exact ⟨k + 1, by omega, by go_num, HO, BA⟩
      case measure => go_light; simp [intOf]; omega
    · obtain rfl : k = l.length := by omega
      have hrow := hO.out
      rw [List.take_length] at hrow
      have ow := Lib.hid (OwnS.of_row (l := l.map (·.g)) (by rw [List.length_map]; exact hrow))
      clear hrow
      obtain ⟨a9, c9, rfl⟩ := own_shape hO.out
      go_wp2_with fail
      refine (compactS_any wr _ (l.map (·.g)) w.heap.size ow.out (by rw [List.length_map]; omega)).mono ?_
      rintro e w5 ⟨v5, rfl, hs5, hb5⟩
      obtain ⟨a5, c5, rfl, _⟩ := hs5.slice
      have S5 := Lib.hid hs5
      have B5 := Lib.hid (hB.out.trans hb5)
      clear hs5 hb5
      go_wp2_with fail
      go_ret
      exact HP.out _ _ S5.out B5.out
theorem Box5.same {w w' : World} {b : Nat} {v0 v1 v2 v3 v4 : Value} (h : Box5 w b v0 v1 v2 v3 v4) (hs : w.heap.size ≤ w'.heap.size) (hb : w'.heap[b]? = w.heap[b]?) : Box5 w' b v0 v1 v2 v3 v4 :=
  ⟨(World.cell?_of_block hb).trans h.c0, (World.cell?_of_block hb).trans h.c1, (World.cell?_of_block hb).trans h.c2, (World.cell?_of_block hb).trans h.c3, (World.cell?_of_block hb).trans h.c4,
   (World.frozen?_of_block hb).trans h.f0, (World.frozen?_of_block hb).trans h.f1, (World.frozen?_of_block hb).trans h.f2, (World.frozen?_of_block hb).trans h.f3, (World.frozen?_of_block hb).trans h.f4, Nat.lt_of_lt_of_le h.z hs⟩
theorem Box5.set2 {w : World} {b : Nat} {v0 v1 v2 v3 v4 : Value} (h : Box5 w b v0 v1 v2 v3 v4) (v : Value) : Box5 (w.setCell ⟨b, 2, none⟩ v) b v0 v1 v v3 v4 := by
  have f : ∀ o, (w.setCell ⟨b, 2, none⟩ v).frozen? ⟨b, o, none⟩ = w.frozen? ⟨b, o, none⟩ := fun o => World.frozen?_setCell _ _ _ _
  exact ⟨by rw [cell_set_off _ _ _ _ _ (by decide)]; exact h.c0, by rw [cell_set_off _ _ _ _ _ (by decide)]; exact h.c1, World.cell?_setCell_same _ _ _ h.c2, by rw [cell_set_off _ _ _ _ _ (by decide)]; exact h.c3, by rw [cell_set_off _ _ _ _ _ (by decide)]; exact h.c4,
    (f 0).trans h.f0, (f 1).trans h.f1, (f 2).trans h.f2, (f 3).trans h.f3, (f 4).trans h.f4, by rw [size_set]; exact h.z⟩
theorem Box5.set3 {w : World} {b : Nat} {v0 v1 v2 v3 v4 : Value} (h : Box5 w b v0 v1 v2 v3 v4) (v : Value) : Box5 (w.setCell ⟨b, 3, none⟩ v) b v0 v1 v2 v v4 := by
  have f : ∀ o, (w.setCell ⟨b, 3, none⟩ v).frozen? ⟨b, o, none⟩ = w.frozen? ⟨b, o, none⟩ := fun o => World.frozen?_setCell _ _ _ _
  exact ⟨by rw [cell_set_off _ _ _ _ _ (by decide)]; exact h.c0, by rw [cell_set_off _ _ _ _ _ (by decide)]; exact h.c1, by rw [cell_set_off _ _ _ _ _ (by decide)]; exact h.c2, World.cell?_setCell_same _ _ _ h.c3, by rw [cell_set_off _ _ _ _ _ (by decide)]; exact h.c4,
    (f 0).trans h.f0, (f 1).trans h.f1, (f 2).trans h.f2, (f 3).trans h.f3, (f 4).trans h.f4, by rw [size_set]; exact h.z⟩
def allK (l : List Ent) (k : Nat) : List Str := allE (l.take k)
def anyK (l : List Ent) (k : Nat) : Bool := anyE (l.take k)
theorem allK_succ (l : List Ent) {k : Nat} (hk : k < l.length) : allK l (k + 1) = allK l k ++ (entAt l k).fs := by
  unfold allK allE
  rw [List.take_succ_eq_append_getElem hk, List.flatMap_append, entAt_eq hk]; simp
theorem anyK_succ (l : List Ent) {k : Nat} (hk : k < l.length) : anyK l (k + 1) = (anyK l k || (entAt l k).any) := by
  unfold anyK anyE
  rw [List.take_succ_eq_append_getElem hk, List.any_append, entAt_eq hk]; simp
theorem allK_len (l : List Ent) (k : Nat) : (allK l k).length ≤ (allE l).length := by
  have e : allE l = allK l k ++ allE (l.drop k) := by
    unfold allK allE
    rw [← List.flatMap_append, List.take_append_drop]
  rw [e, List.length_append]; omega
/-- What Join answers. -/
def JoinPost (w : World) (l : List Ent) (e : Ending) (w' : World) : Prop := ∃ v, e = .returned (.tuple #[v, .bool (joinE l).any]) ∧ SlS w.heap.size (joinE l).fs w' v ∧ Below w.heap.size w w'
set_option maxRecDepth 100000 in
set_option maxHeartbeats 8000000 in
/-- Join: what several want, as one. -/
theorem join_any {Q : Nat → Prop} (w : World) (v : Value) (l : List Ent) (hE : EntsIn Q l w v) (hl : l.length ≤ 1000000) (ha : (allE l).length ≤ 1000000) : Calls Try.prog 13 #[v] w (JoinPost w l) := by
  obtain ⟨i0, hi, hz0, hz1, hz2⟩ : ∃ i0, Try.prog.info? 9 = some i0 ∧ i0.zero = some (Value.string ByteArray.empty) ∧ i0.size = 1 ∧ i0.bytes = 16 := ⟨strI, strI_at, by kernel_rfl, by kernel_rfl, by kernel_rfl⟩
  have HE := Lib.hid hE
  obtain ⟨a, cp, rfl, _⟩ := hE.slice
  clear hE
  have HP : Hid (∀ v w', SlS w.heap.size (joinE l).fs w' v → Below w.heap.size w w' → JoinPost w l (.returned (.tuple #[v, .bool (joinE l).any])) w') := fun v w' h1 h2 => ⟨v, rfl, h1, h2⟩
  go_enter Try.func13, Try.ntmps13
  go_wp2_with fail
  obtain ⟨w1, hw1⟩ : ∃ z, z = w.alloc (.cells #[.string { data := #[] }, .int .i64 0, .slice none 0 0, .bool false, .int .i64 0] 30) := ⟨_, rfl⟩
  obtain ⟨X, hX⟩ : ∃ z, z = w.heap.size := ⟨_, rfl⟩
  have B1 : Hid (Below w.heap.size w w1) := by rw [hw1]; exact bel_alloc (Below.refl _ _) _
  have XS : Hid (Box5 w1 X (.string { data := #[] }) (.int .i64 0) (.slice none 0 0) (.bool false) (.int .i64 0)) := by
    rw [hw1, hX]; exact box5_new w _ _ _ _ _ _
  have hXw : Hid (w.heap.size ≤ X) := show _ ≤ _ by omega
  have hXz : Hid (w1.heap.size = X + 1) := show _ = _ by rw [hw1, hX]; simp
  try rw [← hw1]
  try rw [← hX]
  clear hw1 hX
  go_loopw [9] (fun i wr => ∃ (k : Nat) (vr : Value), k ≤ l.length ∧ i = .int .i64 k ∧ Hid (Box5 wr X (.string { data := #[] }) (.int .i64 0) vr (.bool (anyK l k)) (.int .i64 0)) ∧ Hid (wr.ownsRow (X + 1) 9 1 vr (allK l k).length ((allK l k).map sV)) ∧ Hid (Below w.heap.size w wr)) (fun i _ => l.length - (intOf i).toNat)
  case atStart => exact ⟨0, _, Nat.zero_le _, rfl, XS.out, ⟨rfl, Or.inl ⟨rfl, rfl⟩⟩, B1.out⟩
  case round =>
    obtain ⟨k, vr, hk, rfl, hX5, hO, hB⟩ := hrel
    obtain ⟨x0, x1, x2, x3, x4, f0, f1, f2, f3, f4, xz⟩ := hX5.out
    by_cases hlt : k < l.length
    · obtain ⟨b, off, fa, fc, rfl, _, hbz, d0, d1, d2, d3, d4, dS⟩ := (HE.out.below hB.out).at k hlt
      have hsu := allK_succ l hlt
      have hsa := anyK_succ l hlt
      have hln := allK_len l (k + 1)
      obtain ⟨E, hEe⟩ : ∃ z, z = entAt l k := ⟨_, rfl⟩
      rw [← hEe] at d0 d1 d2 d3 d4 hsu hsa dS
      obtain ⟨eg, ec, efs, ea, et⟩ := E
      dsimp only at d0 d1 d2 d3 d4 hsu hsa dS
      have DS := Lib.hid dS.slAt
      have HSU := Lib.hid hsu
      have HSA := Lib.hid hsa
      rw [hsu, List.length_append] at hln
      have hbz2 := hB.out.size
      obtain ⟨L, hL⟩ : ∃ z, z = allK l k := ⟨_, rfl⟩
      obtain ⟨aa, haa⟩ : ∃ z, z = anyK l k := ⟨_, rfl⟩
      rw [← hL] at HSU hO hln
      rw [← haa] at HSA x3 hX5
      clear hL hEe dS hsu hsa haa
      obtain ⟨ao, co, rfl⟩ := own_shape hO.out
      obtain ⟨w2, hw2⟩ : ∃ z, z = wr.alloc (.cells #[.string (bs eg), .int .i64 ec, .slice fa efs.length fc, .bool ea, .int .i64 et] 30) := ⟨_, rfl⟩
      have B2 : Hid (Below wr.heap.size wr w2) := by rw [hw2]; exact bel_alloc (Below.refl _ _) _
      have YS : Hid (Box5 w2 wr.heap.size (.string (bs eg)) (.int .i64 ec) (.slice fa efs.length fc) (.bool ea) (.int .i64 et)) := by rw [hw2]; exact box5_new wr _ _ _ _ _ _
      go_upto_region 5 with (fail)
      rw [← hw2]
      clear hw2 d0 d1 d2 d3 d4
      have X2 := Lib.hid (hX5.out.below B2.out)
      have DS2 := Lib.hid (DS.out.below B2.out)
      have O2 : Hid (w2.ownsRow (X + 1) 9 1 (.slice ao L.length co) L.length (L.map sV)) := ownsRow_same hO.out fun q hq => B2.out.block q (hO.out.lt q hq).2
      have BW2 := Lib.hid (bel_below hB.out B2.out)
      obtain ⟨Y, hY⟩ : ∃ z, z = wr.heap.size := ⟨_, rfl⟩
      rw [← hY] at YS ⊢
      have hXY : X ≠ Y := by omega
      have hYO : Hid (∀ q, Value.ownBlock (.slice ao L.length co) = some q → q ≠ Y) := fun q hq => by have := (hO.out.lt q hq).2; omega
      have hYB : Hid (w.heap.size ≤ Y) := show _ ≤ _ by omega
      clear x0 x1 x2 x3 x4 f0 f1 f2 f3 f4 xz hX5 hO DS hB hY B2
      obtain ⟨x0, x1, x2, x3, x4, f0, f1, f2, f3, f4, xz⟩ := X2.out
      obtain ⟨y0, y1, y2, y3, y4, -, -, -, -, -, yz⟩ := YS.out
      go_wp2_with (at_builtin; go_loud (refine wpList_app rfl _ _ 28 rfl (X + 1) 9 i0 (.string ByteArray.empty) 16 Try.underlying28 hi hz0 hz1 hz2 rfl _ L.length (L.map sV) rfl O2.out 0 (fun i => sV (nthT efs i)) efs.length _ rfl DS2.out (fun _ => rfl) ?c1 ?c2 ?c3 ?_))
      case c1 => simp only [maxLen]; omega
      case c2 => omega
      case c3 => omega
      intro va wa ho hg
      obtain ⟨av, cv, rfl⟩ := own_shape ho
      have HO : Hid (wa.ownsRow (X + 1) 9 1 (.slice av (L.length + efs.length) cv) (allK l (k + 1)).length ((allK l (k + 1)).map sV)) := show World.ownsRow _ _ _ _ _ _ _ by
        rw [HSU.out, List.length_append, List.map_append]
        rw [map_range_nthT] at ho
        exact ho
      have X3 := Lib.hid (X2.out.same hg.size (hg.block X xz fun e => by have := (O2.out.lt X e.symm).1; omega))
      have Y3 := Lib.hid (YS.out.same hg.size (hg.block Y yz fun e => hYO.out Y e.symm rfl))
      have B3 : Hid (Below w.heap.size w wa) := BW2.out.grown hg BW2.out.size (fun q hq => by have := (O2.out.lt q hq).1; have := hXw.out; omega)
      clear ho hg x0 x1 x2 x3 x4 f0 f1 f2 f3 f4 xz y0 y1 y2 y3 y4 yz X2 YS BW2 O2 DS2 HSU
      obtain ⟨x0, x1, x2, x3, x4, f0, f1, f2, f3, f4, xz⟩ := X3.out
      obtain ⟨y0, y1, y2, y3, y4, -, -, -, -, -, yz⟩ := Y3.out
      have hrow : ∀ u, Hid ((wa.setCell ⟨X, 2, none⟩ (.slice av (L.length + efs.length) cv)).setCell ⟨X, 3, none⟩ u |>.ownsRow (X + 1) 9 1 (.slice av (L.length + efs.length) cv) (allK l (k + 1)).length ((allK l (k + 1)).map sV)) := fun u =>
        ownsRow_same HO.out fun q hq => by
          have h1 := (HO.out.lt q hq).1
          have h2 : q ≠ X := by omega
          rw [Below.heap_setCell _ _ _ _ h2, Below.heap_setCell _ _ _ _ h2]
      have HRW := Lib.hid hrow
      clear hrow
      cases aa with
      | true =>
        have HSA2 : Hid (anyK l (k + 1) = true) := show _ = _ by rw [HSA.out]; rfl
        go_wp2_with fail
        go_roundw
        case rel => go_light; exact ⟨k + 1, _, by omega, by go_num, (by show Box5 _ _ _ _ _ _ _; rw [HSA2.out]; exact (X3.out.set2 _).set3 _), (HRW.out _).out, bel_set (bel_set B3.out hXw.out _) hXw.out _⟩
        case measure => go_light; simp [intOf]; omega
      | false =>
        have HSA2 : Hid (anyK l (k + 1) = ea) := show _ = _ by rw [HSA.out]; rfl
        go_wp2_with fail
        go_roundw
        case rel => go_light; exact ⟨k + 1, _, by omega, by go_num, (by show Box5 _ _ _ _ _ _ _; rw [HSA2.out]; exact (X3.out.set2 _).set3 _), (HRW.out _).out, bel_set (bel_set B3.out hXw.out _) hXw.out _⟩
        case measure => go_light; simp [intOf]; omega
    · obtain rfl : k = l.length := by omega
      have eA : allK l l.length = allE l := by unfold allK; rw [List.take_length]
      have eN : anyK l l.length = anyE l := by unfold anyK; rw [List.take_length]
      rw [eA] at hO
      rw [eN] at x3 hX5
      obtain ⟨ao, co, rfl⟩ := own_shape hO.out
      have DS : Hid (SlS 0 (allE l) wr (.slice ao (allE l).length co)) := (OwnS.of_row hO.out).slAt.base (Nat.zero_le _)
      have HJ : Hid (cleanE ⟨[], 0, allE l, anyE l, 0⟩ = joinE l) := rfl
      obtain ⟨L, hL⟩ : ∃ z, z = allE l := ⟨_, rfl⟩
      obtain ⟨aa, haa⟩ : ∃ z, z = anyE l := ⟨_, rfl⟩
      rw [← hL] at DS HJ x2 hX5 ha
      rw [← haa] at HJ x3 hX5
      clear hO eA eN hL haa
      go_wp2_with fail
      refine (show Calls Try.prog 22 #[.agg #[.string { data := #[] }, .int .i64 0, .slice ao L.length co, .bool aa, .int .i64 0]] wr _ from clean_any wr ⟨[], 0, L, aa, 0⟩ (.slice ao L.length co) DS.out ha).mono ?_
      rintro e w5 ⟨v9, rfl, hs9, hb9⟩
      rw [HJ.out] at hs9 ⊢
      have X5 := Lib.hid (hX5.out.below hb9)
      have S9 := Lib.hid hs9
      have B5 := Lib.hid (bel_below hB.out hb9)
      have Z5 := Lib.hid hb9.size
      obtain ⟨f9, q9, rfl, _⟩ := hs9.slice
      obtain ⟨x9, hx9⟩ : ∃ z, z = joinE l := ⟨_, rfl⟩
      rw [← hx9] at HP S9 ⊢
      clear hs9 hb9 x0 x1 x2 x3 x4 f0 f1 f2 f3 f4 HJ hx9
      have xz9 := xz
      clear xz
      obtain ⟨g9, c9, fs9, any9, t9⟩ := x9
      unfold EntV
      dsimp only at S9 HP ⊢
      rw [show sV g9 = .string (bs g9) from rfl]
      obtain ⟨x0, x1, x2, x3, x4, f0, f1, f2, f3, f4, xz⟩ := X5.out
      go_wp2_with fail
      refine wp_region_calm (by kernel_rfl) (by kernel_rfl) ?_
      repeat (first | (go_big_quiet_step ((fail))) | (refine wpQuiet_step (fun K hK => ?_); go_simp; first | (refine hK _ ?_; clear hK K) | (apply Exists.intro; refine ⟨fun _ => ?_, hK _ ?_⟩; (fail); clear hK K)))
      refine wpQuiet_nil ?_
      intro _ hw'
      obtain ⟨xq, hw''⟩ := hw'
      subst hw''
      go_wp2_with fail
      go_ret2
      refine HP.out _ _ ?_ ?_
      · exact ((((((SlAt.set S9.out (p := ⟨X, 0, none⟩) xz9 _).set (p := ⟨X, 1, none⟩) xz9 _).set (p := ⟨X, 2, none⟩) xz9 _).set (p := ⟨X, 3, none⟩) xz9 _).set (p := ⟨X, 4, none⟩) xz9 _).base hB.out.size).below xq.below
      · exact bel_below (bel_set (bel_set (bel_set (bel_set (bel_set B5.out hXw.out _) hXw.out _) hXw.out _) hXw.out _) hXw.out _) xq.below
end Go.Proofs.Ytacdgfkahppmdaa
