
/-
  The tables of members in memory: a map from addresses to tables; New, at, Wishes.
-/
import Derived.Test.YtahiahjhpakeiaaGreatDoorRouteM
import Derived.Test.YtahiahjhpakeiaaGreatDoorTabD
namespace Go.Proofs.YtahiahjhpakeiaaGreatDoor
open Go.RowKit Go.Maps Go.Sort Go.WideShapes Go.ChangeShapes Go.Deep
set_option linter.unusedVariables false
set_option linter.unusedSimpArgs false
attribute [local go_sem] later_cell later_frozen later_lt cell_set_off cell_set_block

/-- The map's entries: the pointers to the tables. -/
def tptM (tb : Int → Nat) (T : Int → Option (List Ent)) (n : Int) : Option Value := (T n).map fun _ => Value.pointer (some ⟨tb n, 0, none⟩)
def setT (T : Int → Option (List Ent)) (n : Int) (l : List Ent) : Int → Option (List Ent) := fun j => if j = n then some l else T j
theorem setT_same (T : Int → Option (List Ent)) (n : Int) (l : List Ent) : setT T n l n = some l := by simp [setT]
theorem setT_ne (T : Int → Option (List Ent)) {n j : Int} (l : List Ent) (h : j ≠ n) : setT T n l j = T j := by simp [setT, h]
theorem setT_self {T : Int → Option (List Ent)} {n : Int} {l : List Ent} (h : T n = some l) : setT T n l = T := funext fun j => by
  by_cases e : j = n
  · rw [e, setT_same, h]
  · rw [setT_ne _ _ e]
/-- The tables, each in blocks of its own; blocks of D are none of theirs. -/
structure StoreIn (R : Int → Nat → Prop) (tb : Int → Nat) (D : Nat → Prop) (W w : World) (sb mb : Nat) (T : Int → Option (List Ent)) : Prop where
  c0 : w.cell? ⟨sb, 0, none⟩ = some (.map (some mb))
  sz : sb < w.heap.size
  map : MapX Tryz.prog 3 w mb (cntX (tptM tb T)) (tptM tb T)
  dom : ∀ n l, T n = some l → 0 ≤ n ∧ n < 32
  tab : ∀ n l, T n = some l → TabAt 79 (R n) w (tb n) l
  own : ∀ n l b, T n = some l → R n b → W.heap.size ≤ b ∧ b ≠ sb ∧ b ≠ mb ∧ ¬ D b
  dis : ∀ n m l k b, n ≠ m → T n = some l → T m = some k → R n b → ¬ R m b
  ne : sb ≠ mb
  lowS : W.heap.size ≤ sb
  lowM : W.heap.size ≤ mb
  dm : ∀ b, D b → b < w.heap.size ∧ b ≠ mb
  bel : Below W.heap.size W w
def StoreW (D : Nat → Prop) (W w : World) (sb mb : Nat) (T : Int → Option (List Ent)) : Prop := ∃ R tb, StoreIn R tb D W w sb mb T
section
variable {R : Int → Nat → Prop} {tb : Int → Nat} {D D' : Nat → Prop} {W w w' : World} {sb mb : Nat} {T : Int → Option (List Ent)}
/-- Nothing that was there has turned; what is new is nobody's. -/
theorem StoreIn.later (h : StoreIn R tb D W w sb mb T) (hb : Below w.heap.size w w') : StoreIn R tb (fun b => D b ∨ (w.heap.size ≤ b ∧ b < w'.heap.size)) W w' sb mb T where
  c0 := (hb.cell (p := ⟨sb, 0, none⟩) h.sz).trans h.c0
  sz := Nat.lt_of_lt_of_le h.sz hb.size
  map := h.map.block (hb.block _ h.map.lt)
  dom := h.dom
  tab := fun n l e => (h.tab n l e).below hb
  own := fun n l b e hR => ⟨(h.own n l b e hR).1, (h.own n l b e hR).2.1, (h.own n l b e hR).2.2.1, fun hD => by
    rcases hD with hD | hD
    · exact (h.own n l b e hR).2.2.2 hD
    · have := (h.tab n l e).old b hR; omega⟩
  dis := h.dis
  ne := h.ne
  lowS := h.lowS
  lowM := h.lowM
  dm := fun b hD => by
    have := h.map.lt
    rcases hD with hD | hD
    · exact ⟨Nat.lt_of_lt_of_le (h.dm b hD).1 hb.size, (h.dm b hD).2⟩
    · exact ⟨hD.2, by omega⟩
  bel := bel_below h.bel hb
theorem StoreIn.less (h : StoreIn R tb D W w sb mb T) (hD : ∀ b, D' b → D b) : StoreIn R tb D' W w sb mb T :=
  { h with own := fun n l b e hR => ⟨(h.own n l b e hR).1, (h.own n l b e hR).2.1, (h.own n l b e hR).2.2.1, fun hd => (h.own n l b e hR).2.2.2 (hD b hd)⟩, dm := fun b hd => h.dm b (hD b hd) }
/-- 's.m[n]'. -/
theorem StoreIn.look (h : StoreIn R tb D W w sb mb T) (n : Int) (hn : okInt n) : (Instr.lookup 142 (.map (some mb)) (.int .i64 n) false).run Tryz.prog w = .ok ((tptM tb T n).getD (.pointer none)) w :=
  h.map.look keyInt Tryz.underlying3 Tryz.underlying142 (by kernel_rfl) n hn
/-- One table turns. -/
theorem StoreIn.turn (h : StoreIn R tb D W w sb mb T) {n : Int} {l l' : List Ent} (hn : T n = some l) {R' : Nat → Prop} (hR : ∀ b, R' b → R n b ∨ w.heap.size ≤ b) (ht : TabAt 79 R' w' (tb n) l') (hk : Kept (R n) w w') :
    StoreIn (fun j => if j = n then R' else R j) tb D W w' sb mb (setT T n l') ∧ Kept (fun b => ¬ D b) w w' := by
  have hmz := h.map.lt
  have hsz := h.sz
  have nS : ¬ R n sb := fun hr => (h.own n l sb hn hr).2.1 rfl
  have nM : ¬ R n mb := fun hr => (h.own n l mb hn hr).2.2.1 rfl
  have hp : tptM tb (setT T n l') = tptM tb T := funext fun j => by
    unfold tptM
    by_cases e : j = n
    · rw [e, setT_same, hn]; rfl
    · rw [setT_ne _ _ e]
  have hbk : ∀ b, D b → w'.heap[b]? = w.heap[b]? := fun b hD => hk.block b (h.dm b hD).1 fun hr => (h.own n l b hn hr).2.2.2 hD
  refine ⟨{ c0 := (World.cell?_of_block (hk.block _ hsz nS)).trans h.c0, sz := Nat.lt_of_lt_of_le hsz hk.size, map := ?_, dom := fun j m e => ?_, tab := fun j m e => ?_, own := fun j m b e hr => ?_, dis := fun i j m k b hij e1 e2 h1 h2 => ?_, ne := h.ne, lowS := h.lowS, lowM := h.lowM, dm := fun b hD => ⟨Nat.lt_of_lt_of_le (h.dm b hD).1 hk.size, (h.dm b hD).2⟩, bel := ?_ }, hk.more fun b hr hD => (h.own n l b hn hr).2.2.2 hD⟩
  · rw [hp]; exact h.map.block (hk.block _ hmz nM)
  · by_cases e' : j = n
    · rw [e']; exact h.dom n l hn
    · rw [setT_ne _ _ e'] at e; exact h.dom j m e
  · by_cases e' : j = n
    · subst e'
      rw [setT_same] at e
      cases e
      try dsimp only
      rw [if_pos rfl]
      exact ht
    · rw [setT_ne _ _ e'] at e
      try dsimp only
      rw [if_neg e']
      exact (h.tab j m e).kept hk fun b hb hr => h.dis j n m l b e' e hn hb hr
  · try dsimp only at hr
    by_cases e' : j = n
    · rw [if_pos e'] at hr
      rcases hR b hr with h1 | h1
      · exact h.own n l b hn h1
      · have := h.bel.size
        exact ⟨by omega, by omega, by omega, fun hD => by have := (h.dm b hD).1; omega⟩
    · rw [if_neg e'] at hr
      rw [setT_ne _ _ e'] at e
      exact h.own j m b e hr
  · try dsimp only at h1 h2
    by_cases a : i = n
    · rw [if_pos a] at h1
      rw [if_neg (fun e => hij (a.trans e.symm))] at h2
      rw [setT_ne _ _ (fun e => hij (a.trans e.symm))] at e2
      rcases hR b h1 with h3 | h3
      · exact h.dis n j l k b (fun e => hij (a.trans e)) hn e2 h3 h2
      · have := (h.tab j k e2).old b h2; omega
    · rw [if_neg a] at h1
      rw [setT_ne _ _ a] at e1
      by_cases c : j = n
      · rw [if_pos c] at h2
        rcases hR b h2 with h3 | h3
        · exact h.dis i n m l b a e1 hn h1 h3
        · have := (h.tab i m e1).old b h1; omega
      · rw [if_neg c] at h2
        rw [setT_ne _ _ c] at e2
        exact h.dis i j m k b hij e1 e2 h1 h2
  · exact h.bel.trans (hk.toBelow h.bel.size fun b hb hr => by have := (h.own n l b hn hr).1; omega)
/-- One table more. -/
theorem StoreIn.add (h : StoreIn R tb D W w sb mb T) {n : Int} (h0 : 0 ≤ n) (h1 : n < 32) (hn : T n = none) :
    ∃ w', (Instr.mapUpdate 142 (.map (some mb)) (.int .i64 n) (.pointer (some ⟨w.heap.size, 0, none⟩))).run Tryz.prog (w.alloc (.cells #[.slice none 0 0] 191)) = .ok () w' ∧
      StoreIn (fun j => if j = n then fun b => b = w.heap.size else R j) (fun j => if j = n then w.heap.size else tb j) D W w' sb mb (setT T n []) ∧ Kept (fun b => ¬ D b) w w' := by
  have hmz := h.map.lt
  have hsz := h.sz
  have hWz := h.bel.size
  obtain ⟨w1, hw1⟩ : ∃ z, z = w.alloc (.cells #[.slice none 0 0] 191) := ⟨_, rfl⟩
  have hb : Below w.heap.size w w1 := by rw [hw1]; exact bel_alloc (Below.refl _ _) _
  have hz1 : w1.heap.size = w.heap.size + 1 := by rw [hw1]; simp
  have c1 : w1.cell? ⟨w.heap.size, 0, none⟩ = some (.slice none 0 0) := by rw [hw1]; simp [go_sem]
  have f1 : w1.frozen? ⟨w.heap.size, 0, none⟩ = false := by rw [hw1]; simp [go_sem]
  rw [← hw1]
  clear hw1
  obtain ⟨w', hrun, hm', ht⟩ := (h.map.block (hb.block _ hmz)).store keyInt Tryz.underlying3 Tryz.underlying142 (by have := cntX_le (tptM tb T); simp only [maxLen]; omega) n (okInt_dom (by omega) h1) (.pointer (some ⟨w.heap.size, 0, none⟩))
  have hg := ht.grown
  have hblk : ∀ b, b < w1.heap.size → b ≠ mb → w'.heap[b]? = w1.heap[b]? := fun b hb' hne => hg.block b hb' (fun e => hne (by cases e; rfl))
  have hk1 : Kept (fun b => b = mb) w1 w' := ⟨hg.os, hg.tape, hg.output, hg.size, hblk⟩
  have hk : Kept (fun b => b = mb) w w' := ((Kept.refl _ w).below hb).trans hk1
  have hp : tptM (fun j => if j = n then w.heap.size else tb j) (setT T n []) = setX (tptM tb T) n (.pointer (some ⟨w.heap.size, 0, none⟩)) := funext fun j => by
    unfold tptM
    by_cases e : j = n
    · subst e
      rw [setT_same, setX_same]; simp
    · rw [setT_ne _ _ e, setX_ne _ _ e]; simp [e]
  refine ⟨w', hrun, { c0 := (World.cell?_of_block (hk.block _ hsz h.ne)).trans h.c0, sz := Nat.lt_of_lt_of_le hsz hk.size, map := ?_, dom := fun j m e => ?_, tab := fun j m e => ?_, own := fun j m b e hr => ?_, dis := fun i j m k b hij e1 e2 r1 r2 => ?_, ne := h.ne, lowS := h.lowS, lowM := h.lowM, dm := fun b hD => ⟨Nat.lt_of_lt_of_le (h.dm b hD).1 hk.size, (h.dm b hD).2⟩, bel := ?_ }, hk.more fun b e hD => (h.dm b hD).2 e⟩
  · rw [hp, cntX_set _ _ h0 h1]; exact hm'
  · by_cases e' : j = n
    · rw [e']; exact ⟨h0, h1⟩
    · rw [setT_ne _ _ e'] at e; exact h.dom j m e
  · by_cases e' : j = n
    · subst e'
      rw [setT_same] at e
      cases e
      try dsimp only
      rw [if_pos rfl, if_pos rfl]
      exact (tab_new c1 f1 (by omega)).kept hk1 fun b hb' e => by omega
    · rw [setT_ne _ _ e'] at e
      try dsimp only
      rw [if_neg e', if_neg e']
      exact (h.tab j m e).kept hk fun b hb' hr => (h.own j m b e hb').2.2.1 hr
  · try dsimp only at hr
    by_cases e' : j = n
    · rw [if_pos e'] at hr
      exact ⟨by omega, by omega, by omega, fun hD => by have := (h.dm b hD).1; omega⟩
    · rw [if_neg e'] at hr
      rw [setT_ne _ _ e'] at e
      exact h.own j m b e hr
  · try dsimp only at r1 r2
    by_cases a : i = n
    · rw [if_pos a] at r1
      rw [if_neg (fun e => hij (a.trans e.symm))] at r2
      rw [setT_ne _ _ (fun e => hij (a.trans e.symm))] at e2
      have := (h.tab j k e2).old b r2; omega
    · rw [if_neg a] at r1
      rw [setT_ne _ _ a] at e1
      by_cases c : j = n
      · rw [if_pos c] at r2
        have := (h.tab i m e1).old b r1; omega
      · rw [if_neg c] at r2
        rw [setT_ne _ _ c] at e2
        exact h.dis i j m k b hij e1 e2 r1 r2
  · exact h.bel.trans (hk.toBelow h.bel.size fun b hb' e => by have := h.lowM; omega)
set_option maxRecDepth 100000 in
/-- A member's table; it is made where there is none. -/
theorem sat_any (h : StoreIn R tb D W w sb mb T) (n : Int) (h0 : 0 ≤ n) (h1 : n < 32) :
    Calls Tryz.prog 80 #[.pointer (some ⟨sb, 0, none⟩), .int .i64 n] w fun e w' => ∃ R' tb', e = .returned (.pointer (some ⟨tb' n, 0, none⟩)) ∧ StoreIn R' tb' D W w' sb mb (setT T n ((T n).getD [])) ∧ Kept (fun b => ¬ D b) w w' := by
  have hn : okInt n := okInt_dom (by omega) h1
  have c0 := h.c0
  have sz := h.sz
  have hlk := h.look n hn
  cases hT : T n with
  | some l =>
    have e1 : tptM tb T n = some (.pointer (some ⟨tb n, 0, none⟩)) := by unfold tptM; rw [hT]; rfl
    rw [e1] at hlk
    dsimp only [Option.getD] at hlk
    have H := Lib.hid h
    have HT := Lib.hid hT
    obtain ⟨tn, htn⟩ : ∃ z, z = tb n := ⟨_, rfl⟩
    have HTN := Lib.hid htn
    rw [← htn] at hlk
    clear h hT e1 htn hn
    go_enter Tryz.func80, Tryz.ntmps80
    go_wp2_with fail
    go_ret
    refine ⟨R, tb, by rw [HTN.out]; first | done | rfl, ?_, Kept.refl _ _⟩
    rw [show (some l : Option (List Ent)).getD [] = l from rfl, setT_self HT.out]
    exact H.out
  | none =>
    have e1 : tptM tb T n = none := by unfold tptM; rw [hT]; rfl
    rw [e1] at hlk
    dsimp only [Option.getD] at hlk
    obtain ⟨w', hrun, hS, hK⟩ := h.add h0 h1 hT
    have d0 := hS.c0
    have dz := hS.sz
    have hlk2 := hS.look n hn
    have e2 : tptM (fun j => if j = n then w.heap.size else tb j) (setT T n []) n = some (.pointer (some ⟨w.heap.size, 0, none⟩)) := by unfold tptM; rw [setT_same]; simp
    rw [e2] at hlk2
    dsimp only [Option.getD] at hlk2
    have HS := Lib.hid hS
    have HK := Lib.hid hK
    clear h hT e1 e2 hS hK hn
    go_enter Tryz.func80, Tryz.ntmps80
    go_wp2_with fail
    go_ret
    exact ⟨_, _, by (first | rfl | simp), HS.out, HK.out⟩
theorem StoreIn.keep (h : StoreIn R tb D W w sb mb T) (hb : Below w.heap.size w w') : StoreIn R tb D W w' sb mb T := (h.later hb).less fun b hD => Or.inl hD
/-- The wishes of a group, at a member. -/
theorem wish_any (h : StoreIn R tb D W w sb mb T) (n : Int) (h0 : 0 ≤ n) (h1 : n < 32) (g : Str) :
    Calls Tryz.prog 40 #[.pointer (some ⟨sb, 0, none⟩), .int .i64 n, .string (bs g)] w fun e w' => ∃ v R' tb', e = .returned v ∧ EntsIn (fun b => w.heap.size ≤ b) (kidsE ((T n).getD []) g) w' v ∧
      StoreIn R' tb' D W w' sb mb (setT T n ((T n).getD [])) ∧ Kept (fun b => ¬ D b) w w' := by
  have CA := Lib.hid (sat_any h n h0 h1)
  clear h
  go_enter Tryz.func40, Tryz.ntmps40
  go_wp2_with fail
  refine CA.out.mono ?_
  rintro e w1 ⟨R1, tb1, rfl, hS, hK⟩
  have HS := Lib.hid hS
  have HK := Lib.hid hK
  have CK := Lib.hid (kids_at (hS.tab n _ (setT_same _ _ _)) g)
  clear hS hK CA
  go_wp2_with fail
  refine CK.out.mono ?_
  rintro e w2 ⟨v, rfl, hE, hb⟩
  obtain ⟨a, c, rfl, _⟩ := hE.slice
  have HE := Lib.hid hE
  have HB := Lib.hid hb
  clear hE hb CK
  go_wp2_with fail
  go_ret
  exact ⟨_, _, _, rfl, HE.out.imp (fun b _ hq => Nat.le_trans HK.out.size hq) (Nat.le_refl _) (fun _ _ _ => rfl), HS.out.keep HB.out, HK.out.below HB.out⟩
end
/-- A new store: nobody has any. -/
theorem snew_any (w : World) : Calls Tryz.prog 24 #[] w fun e w' => ∃ sb mb, e = .returned (.pointer (some ⟨sb, 0, none⟩)) ∧ StoreW (fun b => b < w.heap.size) w w' sb mb (fun _ => none) ∧ Below w.heap.size w w' := by
  have hmk : ∀ (w : World), (Instr.makeMap 142 none).run Tryz.prog w = .ok (.map (some w.heap.size)) (w.alloc (.map #[] 0)) := fun w => run_makeMap 142 w
  go_enter Tryz.func24, Tryz.ntmps24
  go_wp2
  go_ret
  refine ⟨w.heap.size + 1, w.heap.size, by simp, ⟨fun _ _ => False, fun _ => 0, ?_⟩, by (repeat (first | exact Below.refl _ _ | (with_reducible assumption) | (with_reducible refine bel_later ?_ _) | (with_reducible refine bel_alloc ?_ _) | (with_reducible refine bel_drew ?_) | (with_reducible refine bel_drewN ?_ _) | (with_reducible refine bel_set ?_ (by first | (simp; done) | (simp; omega) | (dsimp only; omega)) _)))⟩
  have hm := mapX_new (P := Tryz.prog) (k := 3) w
  refine { c0 := by simp [go_sem], sz := by simp, map := ?_, dom := fun n l e => (by cases e), tab := fun n l e => (by cases e), own := fun n l b e => (by cases e), dis := fun n m l k b _ e => (by cases e), ne := by omega, lowS := by omega, lowM := Nat.le_refl _, dm := fun b hD => ⟨by simp; omega, by omega⟩, bel := by (repeat (first | exact Below.refl _ _ | (with_reducible assumption) | (with_reducible refine bel_later ?_ _) | (with_reducible refine bel_alloc ?_ _) | (with_reducible refine bel_drew ?_) | (with_reducible refine bel_drewN ?_ _) | (with_reducible refine bel_set ?_ (by first | (simp; done) | (simp; omega) | (dsimp only; omega)) _))) }
  have e0 : tptM (fun _ => 0) (fun _ => none) = fun _ => none := rfl
  rw [e0]
  refine (show cntX (fun _ => none) = 0 by decide) ▸ hm.block ?_
  exact Below.heap_alloc _ _ _ (by simp)
end Go.Proofs.YtahiahjhpakeiaaGreatDoor
