/-
  The tables of members in memory: a map from addresses to tables; New, at, Wishes. A wish is put at all keepers of its group. Wishes at their keepers: the plain law of Put, Do and Trim over the tables of members. No walk stands here. Has a member a wish? A list of calls that came in, opened. Each member forgets the groups that it doesn't keep; a member's table is lost.
-/
import Derived.Test.YtahiahjhpakeiaaGreatDoorKept12
import Derived.Test.YtahiahjhpakeiaaGreatDoorKept15
import Derived.Test.YtahiahjhpakeiaaGreatDoorKept19
import Derived.Test.YtahiahjhpakeiaaGreatDoorKept22
section
namespace Go.Proofs.YtahiahjhpakeiaaGreatDoor
open Go.RowKit Go.Maps Go.Sort Go.WideShapes Go.ChangeShapes Go.Deep
set_option linter.unusedVariables false
set_option linter.unusedSimpArgs false
attribute [local go_sem] later_cell later_frozen later_lt cell_set_off cell_set_block

/-- The map's entries: the pointers to the tables. -/
def tptM (tb : Int → Nat) (T : Int → Option (List Ent)) (n : Int) : Option Value := (T n).map fun _ => Value.pointer (some ⟨tb n, 0, none⟩)
def setT (T : Int → Option (List Ent)) (n : Int) (l : List Ent) : Int → Option (List Ent) := fun j => if j = n then some l else T j
theorem setT_same (T : Int → Option (List Ent)) (n : Int) (l : List Ent) : setT T n l n = some l := by simp [setT]
theorem setT_ne (T : Int → Option (List Ent)) {n j : Int} (l : List Ent) (h : j ≠ n) : setT T n l j = T j := by simp [setT, h]
theorem setT_self {T : Int → Option (List Ent)} {n : Int} {l : List Ent} (h : T n = some l) : setT T n l = T := funext fun j => by
  by_cases e : j = n
  · rw [e, setT_same, h]
  · rw [setT_ne _ _ e]
/-- The tables, each in blocks of its own; blocks of D are none of theirs. -/
structure StoreIn (R : Int → Nat → Prop) (tb : Int → Nat) (D : Nat → Prop) (W w : World) (sb mb : Nat) (T : Int → Option (List Ent)) : Prop where
  c0 : w.cell? ⟨sb, 0, none⟩ = some (.map (some mb))
  sz : sb < w.heap.size
  map : MapX Tryz.prog 3 w mb (cntX (tptM tb T)) (tptM tb T)
  dom : ∀ n l, T n = some l → 0 ≤ n ∧ n < 32
  tab : ∀ n l, T n = some l → TabAt 79 (R n) w (tb n) l
  own : ∀ n l b, T n = some l → R n b → W.heap.size ≤ b ∧ b ≠ sb ∧ b ≠ mb ∧ ¬ D b
  dis : ∀ n m l k b, n ≠ m → T n = some l → T m = some k → R n b → ¬ R m b
  ne : sb ≠ mb
  lowS : W.heap.size ≤ sb
  lowM : W.heap.size ≤ mb
  dm : ∀ b, D b → b < w.heap.size ∧ b ≠ mb
  bel : Below W.heap.size W w
def StoreW (D : Nat → Prop) (W w : World) (sb mb : Nat) (T : Int → Option (List Ent)) : Prop := ∃ R tb, StoreIn R tb D W w sb mb T
section
variable {R : Int → Nat → Prop} {tb : Int → Nat} {D D' : Nat → Prop} {W w w' : World} {sb mb : Nat} {T : Int → Option (List Ent)}
/-- Nothing that was there has turned; what is new is nobody's. -/
theorem StoreIn.later (h : StoreIn R tb D W w sb mb T) (hb : Below w.heap.size w w') : StoreIn R tb (fun b => D b ∨ (w.heap.size ≤ b ∧ b < w'.heap.size)) W w' sb mb T where
  c0 := (hb.cell (p := ⟨sb, 0, none⟩) h.sz).trans h.c0
  sz := Nat.lt_of_lt_of_le h.sz hb.size
  map := h.map.block (hb.block _ h.map.lt)
  dom := h.dom
  tab := fun n l e => (h.tab n l e).below hb
  own := fun n l b e hR => ⟨(h.own n l b e hR).1, (h.own n l b e hR).2.1, (h.own n l b e hR).2.2.1, fun hD => by
    rcases hD with hD | hD
    · exact (h.own n l b e hR).2.2.2 hD
    · have := (h.tab n l e).old b hR; omega⟩
  dis := h.dis
  ne := h.ne
  lowS := h.lowS
  lowM := h.lowM
  dm := fun b hD => by
    have := h.map.lt
    rcases hD with hD | hD
    · exact ⟨Nat.lt_of_lt_of_le (h.dm b hD).1 hb.size, (h.dm b hD).2⟩
    · exact ⟨hD.2, by omega⟩
  bel := bel_below h.bel hb
theorem StoreIn.less (h : StoreIn R tb D W w sb mb T) (hD : ∀ b, D' b → D b) : StoreIn R tb D' W w sb mb T :=
  { h with own := fun n l b e hR => ⟨(h.own n l b e hR).1, (h.own n l b e hR).2.1, (h.own n l b e hR).2.2.1, fun hd => (h.own n l b e hR).2.2.2 (hD b hd)⟩, dm := fun b hd => h.dm b (hD b hd) }
/-- 's.m[n]'. -/
theorem StoreIn.look (h : StoreIn R tb D W w sb mb T) (n : Int) (hn : okInt n) : (Instr.lookup 142 (.map (some mb)) (.int .i64 n) false).run Tryz.prog w = .ok ((tptM tb T n).getD (.pointer none)) w :=
  h.map.look keyInt Tryz.underlying3 Tryz.underlying142 (by kernel_rfl) n hn
/-- One table turns. -/
theorem StoreIn.turn (h : StoreIn R tb D W w sb mb T) {n : Int} {l l' : List Ent} (hn : T n = some l) {R' : Nat → Prop} (hR : ∀ b, R' b → R n b ∨ w.heap.size ≤ b) (ht : TabAt 79 R' w' (tb n) l') (hk : Kept (R n) w w') :
    StoreIn (fun j => if j = n then R' else R j) tb D W w' sb mb (setT T n l') ∧ Kept (fun b => ¬ D b) w w' := by
  have hmz := h.map.lt
  have hsz := h.sz
  have nS : ¬ R n sb := fun hr => (h.own n l sb hn hr).2.1 rfl
  have nM : ¬ R n mb := fun hr => (h.own n l mb hn hr).2.2.1 rfl
  have hp : tptM tb (setT T n l') = tptM tb T := funext fun j => by
    unfold tptM
    by_cases e : j = n
    · rw [e, setT_same, hn]; rfl
    · rw [setT_ne _ _ e]
  have hbk : ∀ b, D b → w'.heap[b]? = w.heap[b]? := fun b hD => hk.block b (h.dm b hD).1 fun hr => (h.own n l b hn hr).2.2.2 hD
  refine ⟨{ c0 := (World.cell?_of_block (hk.block _ hsz nS)).trans h.c0, sz := Nat.lt_of_lt_of_le hsz hk.size, map := ?_, dom := fun j m e => ?_, tab := fun j m e => ?_, own := fun j m b e hr => ?_, dis := fun i j m k b hij e1 e2 h1 h2 => ?_, ne := h.ne, lowS := h.lowS, lowM := h.lowM, dm := fun b hD => ⟨Nat.lt_of_lt_of_le (h.dm b hD).1 hk.size, (h.dm b hD).2⟩, bel := ?_ }, hk.more fun b hr hD => (h.own n l b hn hr).2.2.2 hD⟩
  · rw [hp]; exact h.map.block (hk.block _ hmz nM)
  · by_cases e' : j = n
    · rw [e']; exact h.dom n l hn
    · rw [setT_ne _ _ e'] at e; exact h.dom j m e
  · by_cases e' : j = n
    · subst e'
      rw [setT_same] at e
      cases e
      try dsimp only
      rw [if_pos rfl]
      exact ht
    · rw [setT_ne _ _ e'] at e
      try dsimp only
      rw [if_neg e']
      exact (h.tab j m e).kept hk fun b hb hr => h.dis j n m l b e' e hn hb hr
  · try dsimp only at hr
    by_cases e' : j = n
    · rw [if_pos e'] at hr
      rcases hR b hr with h1 | h1
      · exact h.own n l b hn h1
      · have := h.bel.size
        exact ⟨by omega, by omega, by omega, fun hD => by have := (h.dm b hD).1; omega⟩
    · rw [if_neg e'] at hr
      rw [setT_ne _ _ e'] at e
      exact h.own j m b e hr
  · try dsimp only at h1 h2
    by_cases a : i = n
    · rw [if_pos a] at h1
      rw [if_neg (fun e => hij (a.trans e.symm))] at h2
      rw [setT_ne _ _ (fun e => hij (a.trans e.symm))] at e2
      rcases hR b h1 with h3 | h3
      · exact h.dis n j l k b (fun e => hij (a.trans e)) hn e2 h3 h2
      · have := (h.tab j k e2).old b h2; omega
    · rw [if_neg a] at h1
      rw [setT_ne _ _ a] at e1
      by_cases c : j = n
      · rw [if_pos c] at h2
        rcases hR b h2 with h3 | h3
        · exact h.dis i n m l b a e1 hn h1 h3
        · have := (h.tab i m e1).old b h1; omega
      · rw [if_neg c] at h2
        rw [setT_ne _ _ c] at e2
        exact h.dis i j m k b hij e1 e2 h1 h2
  · exact h.bel.trans (hk.toBelow h.bel.size fun b hb hr => by have := (h.own n l b hn hr).1; omega)
/-- One table more. -/
theorem StoreIn.add (h : StoreIn R tb D W w sb mb T) {n : Int} (h0 : 0 ≤ n) (h1 : n < 32) (hn : T n = none) :
    ∃ w', (Instr.mapUpdate 142 (.map (some mb)) (.int .i64 n) (.pointer (some ⟨w.heap.size, 0, none⟩))).run Tryz.prog (w.alloc (.cells #[.slice none 0 0] 191)) = .ok () w' ∧
      StoreIn (fun j => if j = n then fun b => b = w.heap.size else R j) (fun j => if j = n then w.heap.size else tb j) D W w' sb mb (setT T n []) ∧ Kept (fun b => ¬ D b) w w' := by
  have hmz := h.map.lt
  have hsz := h.sz
  have hWz := h.bel.size
  obtain ⟨w1, hw1⟩ : ∃ z, z = w.alloc (.cells #[.slice none 0 0] 191) := ⟨_, rfl⟩
  have hb : Below w.heap.size w w1 := by rw [hw1]; exact bel_alloc (Below.refl _ _) _
  have hz1 : w1.heap.size = w.heap.size + 1 := by rw [hw1]; simp
  have c1 : w1.cell? ⟨w.heap.size, 0, none⟩ = some (.slice none 0 0) := by rw [hw1]; simp [go_sem]
  have f1 : w1.frozen? ⟨w.heap.size, 0, none⟩ = false := by rw [hw1]; simp [go_sem]
  rw [← hw1]
  clear hw1
  obtain ⟨w', hrun, hm', ht⟩ := (h.map.block (hb.block _ hmz)).store keyInt Tryz.underlying3 Tryz.underlying142 (by have := cntX_le (tptM tb T); simp only [maxLen]; omega) n (okInt_dom (by omega) h1) (.pointer (some ⟨w.heap.size, 0, none⟩))
  have hg := ht.grown
  have hblk : ∀ b, b < w1.heap.size → b ≠ mb → w'.heap[b]? = w1.heap[b]? := fun b hb' hne => hg.block b hb' (fun e => hne (by cases e; rfl))
  have hk1 : Kept (fun b => b = mb) w1 w' := ⟨hg.os, hg.tape, hg.output, hg.size, hblk⟩
  have hk : Kept (fun b => b = mb) w w' := ((Kept.refl _ w).below hb).trans hk1
  have hp : tptM (fun j => if j = n then w.heap.size else tb j) (setT T n []) = setX (tptM tb T) n (.pointer (some ⟨w.heap.size, 0, none⟩)) := funext fun j => by
    unfold tptM
    by_cases e : j = n
    · subst e
      rw [setT_same, setX_same]; simp
    · rw [setT_ne _ _ e, setX_ne _ _ e]; simp [e]
  refine ⟨w', hrun, { c0 := (World.cell?_of_block (hk.block _ hsz h.ne)).trans h.c0, sz := Nat.lt_of_lt_of_le hsz hk.size, map := ?_, dom := fun j m e => ?_, tab := fun j m e => ?_, own := fun j m b e hr => ?_, dis := fun i j m k b hij e1 e2 r1 r2 => ?_, ne := h.ne, lowS := h.lowS, lowM := h.lowM, dm := fun b hD => ⟨Nat.lt_of_lt_of_le (h.dm b hD).1 hk.size, (h.dm b hD).2⟩, bel := ?_ }, hk.more fun b e hD => (h.dm b hD).2 e⟩
  · rw [hp, cntX_set _ _ h0 h1]; exact hm'
  · by_cases e' : j = n
    · rw [e']; exact ⟨h0, h1⟩
    · rw [setT_ne _ _ e'] at e; exact h.dom j m e
  · by_cases e' : j = n
    · subst e'
      rw [setT_same] at e
      cases e
      try dsimp only
      rw [if_pos rfl, if_pos rfl]
      exact (tab_new c1 f1 (by omega)).kept hk1 fun b hb' e => by omega
    · rw [setT_ne _ _ e'] at e
      try dsimp only
      rw [if_neg e', if_neg e']
      exact (h.tab j m e).kept hk fun b hb' hr => (h.own j m b e hb').2.2.1 hr
  · try dsimp only at hr
    by_cases e' : j = n
    · rw [if_pos e'] at hr
      exact ⟨by omega, by omega, by omega, fun hD => by have := (h.dm b hD).1; omega⟩
    · rw [if_neg e'] at hr
      rw [setT_ne _ _ e'] at e
      exact h.own j m b e hr
  · try dsimp only at r1 r2
    by_cases a : i = n
    · rw [if_pos a] at r1
      rw [if_neg (fun e => hij (a.trans e.symm))] at r2
      rw [setT_ne _ _ (fun e => hij (a.trans e.symm))] at e2
      have := (h.tab j k e2).old b r2; omega
    · rw [if_neg a] at r1
      rw [setT_ne _ _ a] at e1
      by_cases c : j = n
      · rw [if_pos c] at r2
        have := (h.tab i m e1).old b r1; omega
      · rw [if_neg c] at r2
        rw [setT_ne _ _ c] at e2
        exact h.dis i j m k b hij e1 e2 r1 r2
  · exact h.bel.trans (hk.toBelow h.bel.size fun b hb' e => by have := h.lowM; omega)
set_option maxRecDepth 100000 in
/-- A member's table; it is made where there is none. -/
theorem sat_any (h : StoreIn R tb D W w sb mb T) (n : Int) (h0 : 0 ≤ n) (h1 : n < 32) :
    Calls Tryz.prog 80 #[.pointer (some ⟨sb, 0, none⟩), .int .i64 n] w fun e w' => ∃ R' tb', e = .returned (.pointer (some ⟨tb' n, 0, none⟩)) ∧ StoreIn R' tb' D W w' sb mb (setT T n ((T n).getD [])) ∧ Kept (fun b => ¬ D b) w w' := by
  have hn : okInt n := okInt_dom (by omega) h1
  have c0 := h.c0
  have sz := h.sz
  have hlk := h.look n hn
  cases hT : T n with
  | some l =>
    have e1 : tptM tb T n = some (.pointer (some ⟨tb n, 0, none⟩)) := by unfold tptM; rw [hT]; rfl
    rw [e1] at hlk
    dsimp only [Option.getD] at hlk
    have H := Lib.hid h
    have HT := Lib.hid hT
    obtain ⟨tn, htn⟩ : ∃ z, z = tb n := ⟨_, rfl⟩
    have HTN := Lib.hid htn
    rw [← htn] at hlk
    clear h hT e1 htn hn
    go_enter Tryz.func80, Tryz.ntmps80
    go_wp2_with fail
    go_ret
    refine ⟨R, tb, by rw [HTN.out]; first | done | rfl, ?_, Kept.refl _ _⟩
    rw [show (some l : Option (List Ent)).getD [] = l from rfl, setT_self HT.out]
    exact H.out
  | none =>
    have e1 : tptM tb T n = none := by unfold tptM; rw [hT]; rfl
    rw [e1] at hlk
    dsimp only [Option.getD] at hlk
    obtain ⟨w', hrun, hS, hK⟩ := h.add h0 h1 hT
    have d0 := hS.c0
    have dz := hS.sz
    have hlk2 := hS.look n hn
    have e2 : tptM (fun j => if j = n then w.heap.size else tb j) (setT T n []) n = some (.pointer (some ⟨w.heap.size, 0, none⟩)) := by unfold tptM; rw [setT_same]; simp
    rw [e2] at hlk2
    dsimp only [Option.getD] at hlk2
    have HS := Lib.hid hS
    have HK := Lib.hid hK
    clear h hT e1 e2 hS hK hn
    go_enter Tryz.func80, Tryz.ntmps80
    go_wp2_with fail
    go_ret
    exact ⟨_, _, by (first | rfl | simp), HS.out, HK.out⟩
theorem StoreIn.keep (h : StoreIn R tb D W w sb mb T) (hb : Below w.heap.size w w') : StoreIn R tb D W w' sb mb T := (h.later hb).less fun b hD => Or.inl hD
/-- The wishes of a group, at a member. -/
theorem wish_any (h : StoreIn R tb D W w sb mb T) (n : Int) (h0 : 0 ≤ n) (h1 : n < 32) (g : Str) :
    Calls Tryz.prog 40 #[.pointer (some ⟨sb, 0, none⟩), .int .i64 n, .string (bs g)] w fun e w' => ∃ v R' tb', e = .returned v ∧ EntsIn (fun b => w.heap.size ≤ b) (kidsE ((T n).getD []) g) w' v ∧
      StoreIn R' tb' D W w' sb mb (setT T n ((T n).getD [])) ∧ Kept (fun b => ¬ D b) w w' := by
  have CA := Lib.hid (sat_any h n h0 h1)
  clear h
  go_enter Tryz.func40, Tryz.ntmps40
  go_wp2_with fail
  refine CA.out.mono ?_
  rintro e w1 ⟨R1, tb1, rfl, hS, hK⟩
  have HS := Lib.hid hS
  have HK := Lib.hid hK
  have CK := Lib.hid (kids_at (hS.tab n _ (setT_same _ _ _)) g)
  clear hS hK CA
  go_wp2_with fail
  refine CK.out.mono ?_
  rintro e w2 ⟨v, rfl, hE, hb⟩
  obtain ⟨a, c, rfl, _⟩ := hE.slice
  have HE := Lib.hid hE
  have HB := Lib.hid hb
  clear hE hb CK
  go_wp2_with fail
  go_ret
  exact ⟨_, _, _, rfl, HE.out.imp (fun b _ hq => Nat.le_trans HK.out.size hq) (Nat.le_refl _) (fun _ _ _ => rfl), HS.out.keep HB.out, HK.out.below HB.out⟩
end
/-- A new store: nobody has any. -/
theorem snew_any (w : World) : Calls Tryz.prog 24 #[] w fun e w' => ∃ sb mb, e = .returned (.pointer (some ⟨sb, 0, none⟩)) ∧ StoreW (fun b => b < w.heap.size) w w' sb mb (fun _ => none) ∧ Below w.heap.size w w' := by
  have hmk : ∀ (w : World), (Instr.makeMap 142 none).run Tryz.prog w = .ok (.map (some w.heap.size)) (w.alloc (.map #[] 0)) := fun w => run_makeMap 142 w
  go_enter Tryz.func24, Tryz.ntmps24
  go_wp2
  go_ret
  refine ⟨w.heap.size + 1, w.heap.size, by simp, ⟨fun _ _ => False, fun _ => 0, ?_⟩, by (repeat (first | exact Below.refl _ _ | (with_reducible assumption) | (with_reducible refine bel_later ?_ _) | (with_reducible refine bel_alloc ?_ _) | (with_reducible refine bel_drew ?_) | (with_reducible refine bel_drewN ?_ _) | (with_reducible refine bel_set ?_ (by first | (simp; done) | (simp; omega) | (dsimp only; omega)) _)))⟩
  have hm := mapX_new (P := Tryz.prog) (k := 3) w
  refine { c0 := by simp [go_sem], sz := by simp, map := ?_, dom := fun n l e => (by cases e), tab := fun n l e => (by cases e), own := fun n l b e => (by cases e), dis := fun n m l k b _ e => (by cases e), ne := by omega, lowS := by omega, lowM := Nat.le_refl _, dm := fun b hD => ⟨by simp; omega, by omega⟩, bel := by (repeat (first | exact Below.refl _ _ | (with_reducible assumption) | (with_reducible refine bel_later ?_ _) | (with_reducible refine bel_alloc ?_ _) | (with_reducible refine bel_drew ?_) | (with_reducible refine bel_drewN ?_ _) | (with_reducible refine bel_set ?_ (by first | (simp; done) | (simp; omega) | (dsimp only; omega)) _))) }
  have e0 : tptM (fun _ => 0) (fun _ => none) = fun _ => none := rfl
  rw [e0]
  refine (show cntX (fun _ => none) = 0 by decide) ▸ hm.block ?_
  exact Below.heap_alloc _ _ _ (by simp)
end Go.Proofs.YtahiahjhpakeiaaGreatDoor
end
section
namespace Go.Proofs.YtahiahjhpakeiaaGreatDoor
open Go.RowKit Go.Maps Go.Sort Go.WideShapes Go.ChangeShapes Go.Deep
set_option linter.unusedVariables false
set_option linter.unusedSimpArgs false
attribute [local go_sem] later_cell later_frozen later_lt cell_set_off cell_set_block keptT_cell keptT_lt

def putT (x : Ent) (T : Int → Option (List Ent)) (n : Int) : Int → Option (List Ent) := setT T n (putE ((T n).getD []) (cleanE x))
def putsT (x : Ent) (T : Int → Option (List Ent)) (ks : List Int) : Int → Option (List Ent) := ks.foldl (putT x) T
theorem putsT_snoc (x : Ent) (T : Int → Option (List Ent)) (ks : List Int) (n : Int) : putsT x T (ks ++ [n]) = putT x (putsT x T ks) n := by unfold putsT; rw [List.foldl_append]; rfl
theorem setT_setT (T : Int → Option (List Ent)) (n : Int) (l l' : List Ent) : setT (setT T n l) n l' = setT T n l' := funext fun j => by
  by_cases e : j = n
  · rw [e, setT_same, setT_same]
  · rw [setT_ne _ _ e, setT_ne _ _ e, setT_ne _ _ e]
theorem putsT_few (x : Ent) {c : Nat} : ∀ (ks : List Int) (T : Int → Option (List Ent)), (∀ n l, T n = some l → l.length ≤ c) → ∀ n l, putsT x T ks n = some l → l.length ≤ c + ks.length := fun ks => by
  induction ks generalizing c with
  | nil => intro T h n l e; exact h n l e
  | cons k ks ih =>
    intro T h n l e
    have h2 : ∀ m l, putT x T k m = some l → l.length ≤ c + 1 := fun m l e => by
      unfold putT at e
      by_cases e' : m = k
      · subst e'
        rw [setT_same] at e
        cases e
        rw [len_putE]
        have : ((T m).getD []).length ≤ c := by
          cases hT : T m with
          | none => simp
          | some l0 => exact h m l0 hT
        split <;> omega
      · rw [setT_ne _ _ e'] at e
        have := h m l e; omega
    have := ih (putT x T k) h2 n l e
    rw [List.length_cons]; omega
theorem slIn_at {B : Nat} {Q : Nat → Prop} {l : List Int} {w : World} {v : Value} (h : SlAt B (fun i => .int .i64 (nth l i)) l.length w v) (hQ : ∀ b, B ≤ b → b < w.heap.size → Q b) : SlIn Q l w v := by
  obtain ⟨a, cap, rfl, h1, h2, h3, h4⟩ := h
  refine ⟨a, cap, rfl, h1, h2, h3, h4.imp id ?_⟩
  rintro ⟨b, off, rfl, h7, h5, h6⟩
  exact ⟨b, off, rfl, hQ b h7 h5, h5, h6⟩
set_option maxRecDepth 100000 in
set_option maxHeartbeats 8000000 in
theorem sput_any {R : Int → Nat → Prop} {tb : Int → Nat} {D : Nat → Prop} {W w : World} {sb mb : Nat} {T : Int → Option (List Ent)} (h : StoreIn R tb D W w sb mb T) (hfew : ∀ n l, T n = some l → l.length ≤ 390)
    (f : RS) (I : Inv f) (av iv : Value) (hc : SlAt 0 (fun i => .int .i64 (nth (circ f) i)) (circ f).length w av) (hi : SlAt 0 (fun i => .int .u64 (nth ((circ f).map (idR f)) i)) (circ f).length w iv)
    (x : Ent) (hg : (bs x.g).size ≤ 1000000) (fv : Value) (hf : SlT D x.fs w fv) (hl : x.fs.length ≤ 1000000) :
    Calls Tryz.prog 26 #[.pointer (some ⟨sb, 0, none⟩), .agg #[av, iv], EntV x fv] w fun e w' => e = .returned .nilIface ∧ StoreW D W w' sb mb (putsT x T (keepK f (keyH (bs x.g)))) ∧ Kept (fun b => ¬ D b) w w' := by
  have HC := Lib.hid hc
  have HI := Lib.hid hi
  have HF := Lib.hid hf
  have H := Lib.hid h
  have HIV := Lib.hid I
  have HFW := Lib.hid hfew
  obtain ⟨aa, ac, rfl, _⟩ := hc.slice
  obtain ⟨ia, ic, rfl, _⟩ := hi.slice
  obtain ⟨fa, fc, rfl, _⟩ := hf.slice
  have HEV : Hid (EntV x (.slice fa x.fs.length fc) = .agg #[.string (bs x.g), .int .i64 x.c, .slice fa x.fs.length fc, .bool x.any, .int .i64 x.t]) := show _ = _ from rfl
  have e0 := HEV.out
  rw [e0]
  obtain ⟨kk, hkk⟩ : ∃ z, z = keepK f (keyH (bs x.g)) := ⟨_, rfl⟩
  have HK3 : Hid (kk.length = 3) := show _ = _ by rw [hkk]; rfl
  have HKD : Hid (∀ n ∈ kk, 0 ≤ n ∧ n < 32) := fun n hn => livesR_dom I.dom (keepK_lives I _ n (hkk ▸ hn))
  have HKK := Lib.hid hkk
  rw [← hkk]
  clear hc hi hf h I hfew hkk e0
  go_enter Tryz.func26, Tryz.ntmps26
  go_upto_region 1 with (fail)
  obtain ⟨Cb, hCb⟩ : ∃ z, z = w.heap.size := ⟨_, rfl⟩
  obtain ⟨E, hE⟩ : ∃ z, z = Cb + 1 := ⟨_, rfl⟩
  obtain ⟨w1, hw1⟩ : ∃ z, z = (w.alloc (.cells #[.slice aa (circ f).length ac, .slice ia (circ f).length ic] 38)).alloc (.cells #[.string (bs x.g), .int .i64 x.c, .slice fa x.fs.length fc, .bool x.any, .int .i64 x.t] 79) := ⟨_, rfl⟩
  have b1 : Below w.heap.size w w1 := by rw [hw1]; exact bel_alloc (bel_alloc (Below.refl _ _) _) _
  have y0 : w1.cell? ⟨Cb, 0, none⟩ = some (.slice aa (circ f).length ac) := by rw [hw1, hCb]; simp [go_sem]
  have y1 : w1.cell? ⟨Cb, 1, none⟩ = some (.slice ia (circ f).length ic) := by rw [hw1, hCb]; simp [go_sem]
  have yz : Cb < w1.heap.size := by rw [hw1, hCb]; simp; omega
  have x0 : w1.cell? ⟨E, 0, none⟩ = some (.string (bs x.g)) := by rw [hw1, hE, hCb]; simp [go_sem]
  have x1 : w1.cell? ⟨E, 1, none⟩ = some (.int .i64 x.c) := by rw [hw1, hE, hCb]; simp [go_sem]
  have x2 : w1.cell? ⟨E, 2, none⟩ = some (.slice fa x.fs.length fc) := by rw [hw1, hE, hCb]; simp [go_sem]
  have x3 : w1.cell? ⟨E, 3, none⟩ = some (.bool x.any) := by rw [hw1, hE, hCb]; simp [go_sem]
  have x4 : w1.cell? ⟨E, 4, none⟩ = some (.int .i64 x.t) := by rw [hw1, hE, hCb]; simp [go_sem]
  have xz : E < w1.heap.size := by rw [hw1, hE, hCb]; simp
  have hEl : w.heap.size ≤ E := by omega
  have CKP := Lib.hid (keep_any w1 f HIV.out _ _ (HC.out.below b1) (HI.out.below b1) (bs x.g) hg)
  have S1 := Lib.hid (H.out.later b1)
  have B1 := Lib.hid b1
  rw [← hw1]
  try rw [← hCb]
  try rw [← hE]
  clear hw1 hE hCb b1
  go_wp2_with fail
  refine CKP.out.mono ?_
  rintro e w2 ⟨v2, rfl, hs2, hb2⟩
  rw [← HKK.out] at hs2
  obtain ⟨a2, c2, rfl, _⟩ := hs2.slice
  have x0 := (hb2.cell (p := ⟨E, 0, none⟩) xz).trans x0
  have x1 := (hb2.cell (p := ⟨E, 1, none⟩) xz).trans x1
  have x2 := (hb2.cell (p := ⟨E, 2, none⟩) xz).trans x2
  have x3 := (hb2.cell (p := ⟨E, 3, none⟩) xz).trans x3
  have x4 := (hb2.cell (p := ⟨E, 4, none⟩) xz).trans x4
  have S2 := Lib.hid (S1.out.later hb2)
  obtain ⟨D2, hD2⟩ : ∃ z : Nat → Prop, z = fun b => (D b ∨ (w.heap.size ≤ b ∧ b < w1.heap.size)) ∨ (w1.heap.size ≤ b ∧ b < w2.heap.size) := ⟨_, rfl⟩
  rw [← hD2] at S2
  obtain ⟨S, hS⟩ : ∃ z : Nat → Prop, z = fun b => ¬ D2 b := ⟨_, rfl⟩
  have hSE : ¬ S E := by rw [hS, hD2]; exact fun h => h (Or.inl (Or.inr ⟨hEl, xz⟩))
  have HDD : Hid (∀ b, D b → D2 b) := show ∀ b, _ → _ from fun b hd => by rw [hD2]; exact Or.inl (Or.inl hd)
  have HSS := Lib.hid hS
  have L2 : Hid (SlIn D2 kk w2 (.slice a2 3 c2)) := show SlIn _ _ _ _ from slIn_at (by rw [HK3.out]; exact hs2) fun b h1 h2 => by rw [hD2]; exact Or.inr ⟨h1, h2⟩
  have F2 : Hid (SlT D2 x.fs w2 (.slice fa x.fs.length fc)) := show SlT _ _ _ _ from (HF.out.below (bel_below B1.out hb2)).imp (fun b _ hd => HDD.out b hd) (Nat.le_refl _) fun _ _ _ => rfl
  have B2 := Lib.hid (bel_below B1.out hb2)
  have xz := Nat.lt_of_lt_of_le xz hb2.size
  clear hD2 hS hs2 hb2 CKP S1 B1 y0 y1 yz hEl
  go_wp2_with fail
  go_loopw [24] (fun i wr => ∃ k : Nat, k ≤ 3 ∧ i = .int .i64 k ∧ Hid (StoreW D2 W wr sb mb (putsT x T (kk.take k))) ∧ Hid (Kept S w2 wr)) (fun i _ => 3 - (intOf i).toNat)
  case atStart => exact ⟨0, by omega, rfl, ⟨_, _, S2.out⟩, Kept.refl _ _⟩
  case round =>
    obtain ⟨k, hk, rfl, hSt, hKp⟩ := hrel
    have hsz := hKp.out.size
    by_cases hlt : k < 3
    · have hkI : ((k : Nat) : Int) < 3 := by omega
      have L4 : SlAt 0 (fun i => .int .i64 (nth kk i)) 3 wr (.slice a2 3 c2) := by
        have := (L2.out.imp (fun _ _ h => h) hsz fun b hb hd => hKp.out.block b hb (by rw [HSS.out]; exact fun h => h hd)).slAt
        rwa [HK3.out] at this
      obtain ⟨lb, lo, rfl, _, hlz, hlc⟩ := L4.at k hlt wr (Below.refl _ _)
      have hnd := HKD.out _ (nth_mem.2 ⟨k, by rw [HK3.out]; exact hlt, rfl⟩)
      have HTK : Hid (putsT x T (kk.take (k + 1)) = putT x (putsT x T (kk.take k)) (nth kk k)) := show _ = _ by
        rw [List.take_succ_eq_append_getElem (by rw [HK3.out]; exact hlt), putsT_snoc, nth_eq (by rw [HK3.out]; exact hlt)]
      have hfew2 := putsT_few x (kk.take k) T HFW.out
      obtain ⟨n, hne⟩ : ∃ z, z = nth kk k := ⟨_, rfl⟩
      rw [← hne] at hlc hnd HTK
      obtain ⟨Tk, hTk⟩ : ∃ z, z = putsT x T (kk.take k) := ⟨_, rfl⟩
      rw [← hTk] at hSt HTK hfew2
      have hfull : fullB ((Tk n).getD []) x = false := by
        have : ((Tk n).getD []).length ≤ 390 + (kk.take k).length := by
          cases hT : Tk n with
          | none => simp
          | some l0 => exact hfew2 n l0 hT
        rw [List.length_take] at this
        have h2 : ¬ 400 ≤ ((Tk n).getD []).length := by omega
        unfold fullB
        simp [h2]
      have HFL := Lib.hid hfull
      obtain ⟨R3, tb3, hS3⟩ := hSt.out
      have HS3 := Lib.hid hS3
      have x0 := (World.cell?_of_block (hKp.out.block E xz hSE)).trans x0
      have x1 := (World.cell?_of_block (hKp.out.block E xz hSE)).trans x1
      have x2 := (World.cell?_of_block (hKp.out.block E xz hSE)).trans x2
      have x3 := (World.cell?_of_block (hKp.out.block E xz hSE)).trans x3
      have x4 := (World.cell?_of_block (hKp.out.block E xz hSE)).trans x4
      have xzr := Nat.lt_of_lt_of_le xz hsz
      clear hS3 hSt L4 hne hTk hfew2 hfull
      go_wp2_with fail
      refine wp_region_heads [0, 1, 3] 5 (fun w' => ∃ x : KeptT S wr, w' = x.world) (by kernel_rfl) (by kernel_rfl) ⟨⟨{ wr with drawn := wr.drawn + 1 }, (Kept.refl S wr).drew⟩, rfl⟩ (fun d v c a w h => by cases d <;> exact h) ?_
      simp only [headOps]
      repeat (refine wpTame_step (fun K hK => ?_); go_simp; refine hK _ ?_; clear hK K)
      refine wpTame_nil ?_
      refine wpAnyC_step (f := 2) [2] (by kernel_rfl) rfl rfl (fun i hi => ?_)
      simp only [List.mem_cons, List.not_mem_nil, or_false] at hi
      subst hi
      refine ⟨_, rfl, fun R hR => ?_⟩
      go_wp2_with fail
      refine (sat_any (HS3.out.keep (RowKit.Below.refl _ _).drew) n hnd.1 hnd.2).mono ?_
      rintro e w3 ⟨R4, tb4, rfl, hS4, hK4⟩
      rw [← HSS.out] at hK4
      have K4 : Hid (Kept S wr w3) := ((Kept.refl S wr).drew).trans hK4
      have HS4 := Lib.hid hS4
      clear hS4 hK4 HS3
      go_wp2_with fail
      refine hR _ _ ⟨⟨w3, K4.out⟩, rfl⟩ ?_
      clear hR R
      refine wpAnyC_step (f := 1) [4] (by kernel_rfl) rfl rfl (fun i hi => ?_)
      have F3 : Hid (SlT D2 x.fs w3 (.slice fa x.fs.length fc)) := show SlT _ _ _ _ from F2.out.imp (fun _ _ h => h) (Nat.le_trans hsz K4.out.size) fun b hb hd => (K4.out.block b (Nat.lt_of_lt_of_le hb hsz) (by rw [HSS.out]; exact fun h => h hd)).trans (hKp.out.block b hb (by rw [HSS.out]; exact fun h => h hd))
      have CP := put_ok (HS4.out.tab n _ (setT_same _ _ _)) x _ F3.out.sls hl HFL.out
      rw [HEV.out] at CP
      have CP := Lib.hid CP
      simp only [List.mem_cons, List.not_mem_nil, or_false] at hi
      subst hi
      refine ⟨_, rfl, fun R hR => ?_⟩
      go_wp2_with fail
      refine CP.out.mono ?_
      rintro e w4 ⟨rfl, ⟨R5, hR5, hT5⟩, hk5⟩
      obtain ⟨hS5, hK5⟩ := HS4.out.turn (setT_same _ _ _) hR5 hT5 hk5
      rw [setT_setT] at hS5
      rw [← HSS.out] at hK5
      have HS5 := Lib.hid hS5
      have K5 : Hid (Kept S wr w4) := K4.out.trans hK5
      clear hS5 hK5 hT5 hR5 hk5 CP HS4 K4 F3
      go_wp2_with fail
      refine hR _ _ ⟨⟨w4, K5.out⟩, rfl⟩ ?_
      clear hR R
      refine wpAnyC_end (k := 5) (by decide) rfl rfl (by kernel_rfl) ?_
      go_wp2_with fail
      go_roundw
      case rel => go_light; exact ⟨k + 1, by omega, by go_num, (by show StoreW _ _ _ _ _ _; rw [HTK.out]; exact ⟨_, _, HS5.out⟩), hKp.out.trans K5.out⟩
      case measure => go_light; simp [intOf]; omega
    · obtain rfl : k = 3 := by omega
      have hkI : ¬ ((3 : Nat) : Int) < 3 := by omega
      have hall : kk.take 3 = kk := List.take_of_length_le (by rw [HK3.out]; exact Nat.le_refl _)
      rw [hall] at hSt
      go_wp2_with fail
      go_ret
      refine ⟨rfl, ?_, ((Kept.refl (fun b => ¬ D b) w).below B2.out).trans (hKp.out.more fun b hb hd => by rw [HSS.out] at hb; exact hb (HDD.out b hd))⟩
      obtain ⟨R6, tb6, h6⟩ := hSt.out
      exact ⟨R6, tb6, h6.less HDD.out⟩
end Go.Proofs.YtahiahjhpakeiaaGreatDoor
end
section
namespace Go.Proofs.YtahiahjhpakeiaaGreatDoor
open Go.RowKit Go.Maps Go.Sort
set_option linter.unusedVariables false
set_option linter.unusedSimpArgs false
set_option linter.unusedSectionVars false

abbrev TT := Int → Option (List Ent)
/-- What a member has. -/
def tabs (T : TT) (n : Int) : List Ent := (T n).getD []
theorem tabs_setT (T : TT) (n : Int) (l : List Ent) (m : Int) : tabs (setT T n l) m = if m = n then l else tabs T m := by
  unfold tabs setT
  by_cases h : m = n <;> simp [h]
theorem tabs_putT (x : Ent) (T : TT) (n m : Int) : tabs (putT x T n) m = if m = n then putE (tabs T n) (cleanE x) else tabs T m := by
  unfold putT
  rw [tabs_setT]; rfl
theorem tabs_self (T : TT) (n : Int) (m : Int) : tabs (setT T n (tabs T n)) m = tabs T m := by
  rw [tabs_setT]
  split
  · rename_i h; rw [h]
  · rfl
/-- Each table in order, of these keys alone. -/
def FewK (ks : List (Str × Int)) (T : TT) : Prop := ∀ n, OrdE (tabs T n) ∧ ∀ x ∈ tabs T n, keyOf x ∈ ks
theorem nodup_len {α : Type} [DecidableEq α] : ∀ {l k : List α}, l.Nodup → (∀ x ∈ l, x ∈ k) → l.length ≤ k.length
  | [], _, _, _ => Nat.zero_le _
  | x :: l, k, hd, h => by
    have hd' := List.nodup_cons.1 hd
    have hx := h x (by simp)
    have := nodup_len (l := l) (k := k.erase x) hd'.2 fun y hy => by
      have hne : y ≠ x := fun e => hd'.1 (e ▸ hy)
      exact (List.mem_erase_of_ne hne).2 (h y (by simp [hy]))
    rw [List.length_erase_of_mem hx] at this
    have := List.length_pos_of_mem hx
    rw [List.length_cons]
    omega
theorem keys_nodup {l : List Ent} (h : OrdE l) : (keysE l).Nodup :=
  (keys_ord h).imp fun {a b} hab e => by subst e; exact klt_irrefl _ _ hab
theorem FewK.len {ks : List (Str × Int)} {T : TT} (h : FewK ks T) (n : Int) : (tabs T n).length ≤ ks.length := by
  have := nodup_len (keys_nodup (h n).1) (k := ks) fun k hk => by
    obtain ⟨x, hx, rfl⟩ := List.mem_map.1 hk
    exact (h n).2 x hx
  unfold keysE at this
  rwa [List.length_map] at this
theorem FewK.self {ks : List (Str × Int)} {T : TT} (h : FewK ks T) (n : Int) : FewK ks (setT T n (tabs T n)) := fun m => by rw [tabs_self]; exact h m
theorem FewK.put {ks : List (Str × Int)} {T : TT} (h : FewK ks T) {x : Ent} (hx : keyOf x ∈ ks) (n : Int) : FewK ks (putT x T n) := fun m => by
  rw [tabs_putT]
  split
  · refine ⟨ord_putE (h n).1 _, fun y hy => ?_⟩
    rcases (mem_putE (h n).1 _ _).1 hy with rfl | ⟨hy, _⟩
    · rw [key_clean]; exact hx
    · exact (h n).2 y hy
  · exact h m
theorem FewK.more {ks ks' : List (Str × Int)} {T : TT} (h : FewK ks T) (hk : ∀ k ∈ ks, k ∈ ks') : FewK ks' T := fun n => ⟨(h n).1, fun x hx => hk _ ((h n).2 x hx)⟩
theorem fewK_nil (ks : List (Str × Int)) : FewK ks (fun _ => none) := fun n => ⟨List.Pairwise.nil, fun x hx => by simp [tabs] at hx⟩
theorem mem_kids {l : List Ent} {g : Str} {y : Ent} : y ∈ kidsE l g ↔ ∃ x ∈ l, x.g = g ∧ y = cleanE x := by
  unfold kidsE
  rw [List.mem_map]
  constructor
  · rintro ⟨x, hx, rfl⟩
    obtain ⟨h1, h2⟩ := List.mem_filter.1 hx
    exact ⟨x, h1, by simpa using h2, rfl⟩
  · rintro ⟨x, hx, h, rfl⟩
    exact ⟨x, List.mem_filter.2 ⟨hx, by simpa using h⟩, rfl⟩
/-! ### Moves -/
def doX (to : Int) (T : TT) (xs : List Ent) : TT := xs.foldl (fun T x => putT x T to) T
theorem doX_snoc (to : Int) (T : TT) (xs : List Ent) (x : Ent) : doX to T (xs ++ [x]) = putT x (doX to T xs) to := by unfold doX; rw [List.foldl_append]; rfl
def doM (T : TT) (m : Mv) : TT := doX m.to (setT T m.fr (tabs T m.fr)) (kidsE (tabs T m.fr) m.g)
def doL (T : TT) (L : List Mv) : TT := L.foldl doM T
theorem doL_snoc (T : TT) (L : List Mv) (m : Mv) : doL T (L ++ [m]) = doM (doL T L) m := by unfold doL; rw [List.foldl_append]; rfl
theorem FewK.doX {ks : List (Str × Int)} (to : Int) : ∀ {xs : List Ent} {T : TT}, FewK ks T → (∀ x ∈ xs, keyOf x ∈ ks) → FewK ks (doX to T xs)
  | [], _, h, _ => h
  | x :: xs, T, h, hx => FewK.doX to (xs := xs) (h.put (hx x (by simp)) to) fun y hy => hx y (by simp [hy])
theorem FewK.kids {ks : List (Str × Int)} {T : TT} (h : FewK ks T) (n : Int) (g : Str) : ∀ x ∈ kidsE (tabs T n) g, keyOf x ∈ ks := fun x hx => by
  obtain ⟨y, hy, _, rfl⟩ := mem_kids.1 hx
  rw [key_clean]; exact (h n).2 y hy
theorem FewK.doM {ks : List (Str × Int)} {T : TT} (h : FewK ks T) (m : Mv) : FewK ks (doM T m) := (h.self _).doX m.to (h.kids _ _)
theorem FewK.doL {ks : List (Str × Int)} : ∀ {L : List Mv} {T : TT}, FewK ks T → FewK ks (doL T L)
  | [], _, h => h
  | m :: L, T, h => FewK.doL (L := L) (h.doM m)
/-- What isn't kept goes. -/
def trimT (K : Str → List Int) (T : TT) : TT := fun n => (T n).map fun l => l.filter fun x => (K x.g).contains n
theorem tabs_trim (K : Str → List Int) (T : TT) (n : Int) : tabs (trimT K T) n = (tabs T n).filter fun x => (K x.g).contains n := by
  unfold tabs trimT
  cases T n <;> simp
theorem FewK.trim {ks : List (Str × Int)} {T : TT} (h : FewK ks T) (K : Str → List Int) : FewK ks (trimT K T) := fun n => by
  rw [tabs_trim]
  exact ⟨(h n).1.sublist List.filter_sublist, fun x hx => (h n).2 x (List.mem_filter.1 hx).1⟩
/-! ### Who has a wish -/
/-- All entries are of all. -/
def AllAny (T : TT) : Prop := ∀ n, ∀ x ∈ tabs T n, x.any = true
theorem any_clean {x : Ent} (h : x.any = true) : (cleanE x).any = true := by unfold cleanE; rw [if_pos (Or.inl h)]
theorem AllAny.put {T : TT} (ho : ∀ n, OrdE (tabs T n)) (h : AllAny T) {x : Ent} (hx : x.any = true) (n : Int) : AllAny (putT x T n) := fun m y hy => by
  rw [tabs_putT] at hy
  split at hy
  · rcases (mem_putE (ho n) _ _).1 hy with rfl | ⟨hy, _⟩
    · exact any_clean hx
    · exact h n y hy
  · exact h m y hy
structure Fine (ks : List (Str × Int)) (T : TT) : Prop where
  few : FewK ks T
  any : AllAny T
def hasT (T : TT) (n : Int) (k : Str × Int) : Prop := ∃ x ∈ tabs T n, keyOf x = k
theorem Fine.put {ks : List (Str × Int)} {T : TT} (h : Fine ks T) {x : Ent} (hx : keyOf x ∈ ks) (ha : x.any = true) (n : Int) : Fine ks (putT x T n) :=
  ⟨h.few.put hx n, h.any.put (fun n => (h.few n).1) ha n⟩
theorem Fine.self {ks : List (Str × Int)} {T : TT} (h : Fine ks T) (n : Int) : Fine ks (setT T n (tabs T n)) := ⟨h.few.self n, fun m => by rw [tabs_self]; exact h.any m⟩
theorem Fine.doX {ks : List (Str × Int)} (to : Int) : ∀ {xs : List Ent} {T : TT}, Fine ks T → (∀ x ∈ xs, keyOf x ∈ ks ∧ x.any = true) → Fine ks (doX to T xs)
  | [], _, h, _ => h
  | x :: xs, T, h, hx => Fine.doX to (xs := xs) (h.put (hx x (by simp)).1 (hx x (by simp)).2 to) fun y hy => hx y (by simp [hy])
theorem Fine.kids {ks : List (Str × Int)} {T : TT} (h : Fine ks T) (n : Int) (g : Str) : ∀ x ∈ kidsE (tabs T n) g, keyOf x ∈ ks ∧ x.any = true := fun x hx => by
  refine ⟨h.few.kids n g x hx, ?_⟩
  obtain ⟨y, hy, _, rfl⟩ := mem_kids.1 hx
  exact any_clean (h.any n y hy)
theorem Fine.doM {ks : List (Str × Int)} {T : TT} (h : Fine ks T) (m : Mv) : Fine ks (doM T m) := (h.self _).doX m.to (h.kids _ _)
theorem Fine.doL {ks : List (Str × Int)} : ∀ {L : List Mv} {T : TT}, Fine ks T → Fine ks (doL T L)
  | [], _, h => h
  | m :: L, T, h => Fine.doL (L := L) (h.doM m)
theorem Fine.trim {ks : List (Str × Int)} {T : TT} (h : Fine ks T) (K : Str → List Int) : Fine ks (trimT K T) :=
  ⟨h.few.trim K, fun n x hx => by rw [tabs_trim] at hx; exact h.any n x (List.mem_filter.1 hx).1⟩
section
variable {ks : List (Str × Int)} {T : TT} (h : FewK ks T)
include h
theorem has_put {x : Ent} {n k : Int} {e : Str × Int} (he : hasT T n e) : hasT (putT x T k) n e := by
  obtain ⟨y, hy, hk⟩ := he
  unfold hasT
  rw [tabs_putT]
  split
  · rename_i h1
    rw [← h1]
    by_cases hq : y.g = (cleanE x).g ∧ y.c = (cleanE x).c
    · refine ⟨cleanE x, (mem_putE (h n).1 _ _).2 (Or.inl rfl), ?_⟩
      rw [← hk]
      unfold keyOf
      rw [hq.1, hq.2]
    · exact ⟨y, (mem_putE (h n).1 _ _).2 (Or.inr ⟨hy, hq⟩), hk⟩
  · exact ⟨y, hy, hk⟩
theorem has_new {x : Ent} {k : Int} : hasT (putT x T k) k (keyOf x) := by
  unfold hasT
  rw [tabs_putT, if_pos rfl]
  exact ⟨cleanE x, (mem_putE (h k).1 _ _).2 (Or.inl rfl), key_clean x⟩
theorem has_self {n k : Int} {e : Str × Int} (he : hasT T n e) : hasT (setT T k (tabs T k)) n e := by
  unfold hasT; rw [tabs_self]; exact he
end
theorem has_doX {ks : List (Str × Int)} (to n : Int) (e : Str × Int) : ∀ {xs : List Ent} {T : TT}, FewK ks T → (∀ x ∈ xs, keyOf x ∈ ks) → hasT T n e → hasT (doX to T xs) n e
  | [], _, _, _, he => he
  | x :: xs, T, h, hx, he => has_doX to n e (xs := xs) (h.put (hx x (by simp)) to) (fun y hy => hx y (by simp [hy])) (has_put h he)
theorem has_doX_to {ks : List (Str × Int)} (to : Int) {z : Ent} : ∀ {xs : List Ent} {T : TT}, FewK ks T → (∀ x ∈ xs, keyOf x ∈ ks) → z ∈ xs → hasT (doX to T xs) to (keyOf z)
  | x :: xs, T, h, hx, hz => by
    have hf := h.put (hx x (by simp)) to
    have hr : ∀ y ∈ xs, keyOf y ∈ ks := fun y hy => hx y (by simp [hy])
    rcases List.mem_cons.1 hz with rfl | hz
    · exact has_doX to to _ (xs := xs) hf hr (has_new h)
    · exact has_doX_to to (xs := xs) hf hr hz
theorem has_doM {ks : List (Str × Int)} {T : TT} (h : FewK ks T) (m : Mv) {n : Int} {e : Str × Int} (he : hasT T n e) : hasT (doM T m) n e :=
  has_doX _ _ _ (h.self _) (h.kids _ _) (has_self h he)
theorem has_doM_to {ks : List (Str × Int)} {T : TT} (h : FewK ks T) (m : Mv) {e : Str × Int} (he : hasT T m.fr e) (hg : e.1 = m.g) : hasT (doM T m) m.to e := by
  obtain ⟨y, hy, rfl⟩ := he
  have hz : cleanE y ∈ kidsE (tabs T m.fr) m.g := mem_kids.2 ⟨y, hy, hg, rfl⟩
  have := has_doX_to m.to (h.self m.fr) (h.kids m.fr m.g) hz
  rwa [key_clean] at this
theorem has_doL {ks : List (Str × Int)} {n : Int} {e : Str × Int} : ∀ {L : List Mv} {T : TT}, FewK ks T → hasT T n e → hasT (doL T L) n e
  | [], _, _, he => he
  | m :: L, T, h, he => has_doL (L := L) (h.doM m) (has_doM h m he)
theorem has_doL_to {ks : List (Str × Int)} {e : Str × Int} {m : Mv} (hg : e.1 = m.g) : ∀ {L : List Mv} {T : TT}, FewK ks T → m ∈ L → hasT T m.fr e → hasT (doL T L) m.to e
  | m' :: L, T, h, hm, he => by
    rcases List.mem_cons.1 hm with rfl | hm
    · exact has_doL (L := L) (h.doM _) (has_doM_to h _ he hg)
    · exact has_doL_to hg (L := L) (h.doM m') hm (has_doM h m' he)
theorem has_trim {T : TT} {K : Str → List Int} {n : Int} {e : Str × Int} (he : hasT T n e) (hn : n ∈ K e.1) : hasT (trimT K T) n e := by
  obtain ⟨x, hx, rfl⟩ := he
  unfold hasT
  rw [tabs_trim]
  exact ⟨x, List.mem_filter.2 ⟨hx, by have h2 : n ∈ K x.g := hn; simpa using h2⟩, rfl⟩
/-! ### Put at all keepers -/
theorem Fine.puts {ks : List (Str × Int)} {x : Ent} (hx : keyOf x ∈ ks) (ha : x.any = true) : ∀ {ns : List Int} {T : TT}, Fine ks T → Fine ks (putsT x T ns)
  | [], _, h => h
  | k :: ns, T, h => Fine.puts hx ha (ns := ns) (h.put hx ha k)
theorem has_puts {ks : List (Str × Int)} {x : Ent} (hx : keyOf x ∈ ks) {n : Int} {e : Str × Int} : ∀ {ns : List Int} {T : TT}, FewK ks T → hasT T n e → hasT (putsT x T ns) n e
  | [], _, _, he => he
  | k :: ns, T, h, he => has_puts hx (ns := ns) (h.put hx k) (has_put h he)
theorem has_puts_new {ks : List (Str × Int)} {x : Ent} (hx : keyOf x ∈ ks) {n : Int} : ∀ {ns : List Int} {T : TT}, FewK ks T → n ∈ ns → hasT (putsT x T ns) n (keyOf x)
  | k :: ns, T, h, hn => by
    rcases List.mem_cons.1 hn with rfl | hn
    · exact has_puts hx (ns := ns) (h.put hx _) (has_new h)
    · exact has_puts_new hx (ns := ns) (h.put hx k) hn
/-! ### The law: each wish is at all keepers of its group -/
/-- Each wish is at all keepers of its group but those who went (D). -/
def Kept1 (X : Str → Int) (f : RS) (D : List Int) (ks : List (Str × Int)) (T : TT) : Prop := ∀ k ∈ ks, ∀ n ∈ keepK f (X k.1), n ∉ D → hasT T n k
theorem kept_put {X : Str → Int} {f : RS} {ks : List (Str × Int)} {T : TT} (h : Fine ks T) (hk : Kept1 X f [] ks T) {x : Ent} (ha : x.any = true) :
    Fine (ks ++ [keyOf x]) (putsT x T (keepK f (X x.g))) ∧ Kept1 X f [] (ks ++ [keyOf x]) (putsT x T (keepK f (X x.g))) := by
  have hF : Fine (ks ++ [keyOf x]) T := ⟨h.few.more fun k hk => List.mem_append_left _ hk, h.any⟩
  have hx : keyOf x ∈ ks ++ [keyOf x] := by simp
  refine ⟨hF.puts hx ha, fun k hkm n hn _ => ?_⟩
  rcases List.mem_append.1 hkm with hkm | hkm
  · exact has_puts hx hF.few (hk k hkm n hn (by simp))
  · obtain rfl := List.mem_singleton.1 hkm
    exact has_puts_new hx hF.few hn
theorem nodup_out {l D : List Int} (hl : l.Nodup) (h : D.length < l.length) : ∃ n ∈ l, n ∉ D := by
  rcases Classical.em (∃ n ∈ l, n ∉ D) with h1 | h1
  · exact h1
  · exfalso
    have := nodup_len hl (k := D) fun x hx => by
      rcases Classical.em (x ∈ D) with h2 | h2
      · exact h2
      · exact absurd ⟨x, hx, h2⟩ h1
    omega
theorem kept_plan {X : Str → Int} {f f' : RS} (I : Inv f) (I' : Inv f') {D : List Int} {ks : List (Str × Int)} {T : TT} (hF : Fine ks T) (hk : Kept1 X f D ks T)
    (hd : ∀ n ∈ D, livesR f' n = false) (hl : ∀ n, livesR f n = true → n ∈ D ∨ livesR f' n = true) (hD : D.length ≤ 2) {gs : List Str} (hgs : ∀ k ∈ ks, k.1 ∈ gs) {L : List Mv} (hL : ∀ m ∈ planU X f f' gs, m ∈ L) :
    Kept1 X f' [] ks (trimT (fun g => keepK f' (X g)) (doL T L)) := fun k hkm n hn _ => by
  refine has_trim ?_ hn
  have hn' := keepK_lives I' _ n hn
  by_cases hin : n ∈ keepK f (X k.1)
  · exact has_doL hF.few (hk k hkm n hin fun h => by rw [hd n h] at hn'; cases hn')
  · obtain ⟨o, ho, hoD⟩ := nodup_out (keepK_nodup I (X k.1)) (D := D) (by rw [keepK_len I]; omega)
    have hol : livesR f' o = true := (hl o (keepK_lives I _ o ho)).resolve_left hoD
    cases hfi : (keepK f (X k.1)).find? (livesR f') with
    | none => exact absurd hol (by have := List.find?_eq_none.1 hfi o ho; simpa using this)
    | some p =>
      have hpl : livesR f' p = true := List.find?_some hfi
      have hpm := List.mem_of_find?_eq_some hfi
      have hpD : p ∉ D := fun h => by rw [hd p h] at hpl; cases hpl
      have hm : (⟨k.1, p, n⟩ : Mv) ∈ planU X f f' gs := by
        unfold planU
        refine List.mem_flatMap.2 ⟨k.1, hgs k hkm, ?_⟩
        unfold planG
        rw [hfi]
        exact List.mem_map.2 ⟨n, List.mem_filter.2 ⟨hn, by simpa using hin⟩, rfl⟩
      exact has_doL_to (m := ⟨k.1, p, n⟩) rfl hF.few (hL _ hm) (hk k hkm p hpm hpD)
end Go.Proofs.YtahiahjhpakeiaaGreatDoor
end
section
namespace Go.Proofs.YtahiahjhpakeiaaGreatDoor
open Go.RowKit Go.Maps Go.Sort Go.WideShapes Go.ChangeShapes Go.Deep
set_option linter.unusedVariables false
set_option linter.unusedSimpArgs false
attribute [local go_sem] later_cell later_frozen later_lt cell_set_off cell_set_block keptT_cell keptT_lt

/-! ### Calls -/
structure ActK where
  ring : ActD
  kind : Int
  x : Row
instance : Inhabited ActK := ⟨⟨default, 0, default⟩⟩
/-- A call in memory. -/
structure ActKIn (w : World) (b o : Nat) (A : ActK) : Prop where
  c0 : w.cell? ⟨b, o, none⟩ = some (.int .i64 A.ring.kind)
  c1 : w.cell? ⟨b, o + 1, none⟩ = some (.int .i64 A.ring.n)
  c2 : w.cell? ⟨b, o + 2, none⟩ = some (.int .i64 A.ring.via)
  c3 : w.cell? ⟨b, o + 3, none⟩ = some (.int .u64 A.ring.id)
  c4 : w.cell? ⟨b, o + 4, none⟩ = some (.int .i64 A.kind)
  row : RowAt w b (o + 5) A.x
  fs : SlT (fun _ => True) A.x.e.fs w A.x.v
  ok : A.ring.ok ∧ okInt A.kind ∧ okInt A.x.e.c ∧ okInt A.x.e.t
def actK (l : List ActK) (k : Nat) : ActK := l.getD k default
def ActsK (l : List ActK) (w : World) (v : Value) : Prop :=
  ∃ (a : Option Addr) (cap : Nat), v = .slice a l.length cap ∧ l.length ≤ cap ∧ cap ≤ maxLen ∧ (l.length = 0 ∨ ∃ b off : Nat, a = some ⟨b, off, none⟩ ∧ b < w.heap.size ∧ ∀ i, i < l.length → ActKIn w b (off + i * 10) (actK l i))
theorem ActsK.slice {l : List ActK} {w : World} {v : Value} (h : ActsK l w v) : ∃ a cap, v = .slice a l.length cap ∧ l.length ≤ 9223372036854775807 := by
  obtain ⟨a, cap, rfl, h1, h2, _⟩ := h; exact ⟨a, cap, rfl, by unfold maxLen at h2; omega⟩
theorem ActsK.at {l : List ActK} {w : World} {a : Option Addr} {cap : Nat} (h : ActsK l w (.slice a l.length cap)) (k : Nat) (hk : k < l.length) : ∃ b off : Nat, a = some ⟨b, off, none⟩ ∧ b < w.heap.size ∧ ActKIn w b (off + k * 10) (actK l k) := by
  obtain ⟨a', cap', e, _, _, h3⟩ := h
  injection e with e1 e2 e3
  subst e1
  obtain ⟨b, off, rfl, h5, h6⟩ := h3.resolve_left (by omega)
  exact ⟨b, off, rfl, h5, h6 k hk⟩
theorem ActKIn.below {w w' : World} {b o : Nat} {A : ActK} (h : ActKIn w b o A) (hb : Below w.heap.size w w') (hz : b < w.heap.size) : ActKIn w' b o A where
  c0 := (hb.cell (p := ⟨b, o, none⟩) hz).trans h.c0
  c1 := (hb.cell (p := ⟨b, o + 1, none⟩) hz).trans h.c1
  c2 := (hb.cell (p := ⟨b, o + 2, none⟩) hz).trans h.c2
  c3 := (hb.cell (p := ⟨b, o + 3, none⟩) hz).trans h.c3
  c4 := (hb.cell (p := ⟨b, o + 4, none⟩) hz).trans h.c4
  row := h.row.same (hb.block b hz)
  fs := h.fs.below hb
  ok := h.ok
section
variable {H : Type} {enc : TypeId × Value → H} {P : Program} {w : World} {base : Nat} {spare : Nat → Bool} {held : Bool}
theorem fields_of {t : TypeId} {fs : Array Field} {fuel : Nat} {cs : List Value} {x : DataW H × List MemPlace} (he : P.underlying t = some (.struct fs)) (hone : oneCellFields P fs = true) (hC : P.cellsOf t = fs.size) (h : DataW.trod enc P w base spare held fuel t cs = some x) :
    ∃ n, ∀ (j : Nat) (f : Field), fs[j]? = some f → ∃ (v : Value) (y : DataW H × List MemPlace), cs[j]? = some v ∧ DataW.trod enc P w base spare held n f.type [v] = some y := by
  obtain ⟨ys, n', hn', hy, hlen, hyl, hf⟩ := DataW.trod_struct he h
  refine ⟨n', fun j f hj => ?_⟩
  obtain ⟨ho, hk⟩ := hone_of hone j f hj
  have hjl : j < fs.size := (Array.getElem?_eq_some_iff.1 hj).1
  have h1 := hf j f hj
  rw [ho, hk] at h1
  have hone' : (cs.drop j).take 1 = [cs[j]'(by omega)] := by
    rw [List.drop_eq_getElem_cons (by omega)]
    rfl
  rw [hone'] at h1
  have hys : ys[j]? = some (ys[j]'(by omega)) := List.getElem?_eq_getElem (by omega)
  exact ⟨_, _, List.getElem?_eq_getElem (by omega), h1.trans hys⟩
end
set_option maxRecDepth 100000 in
theorem actsK_open {H : Type} {enc : TypeId × Value → H} {W : World} {v0 : Value} {d0 : DataW H} {p0 : List MemPlace} {r0 : Reach} {b0 : Nat} (ok0 : Value.okWide Tryz.prog W r0 b0 71 v0) (h0 : DataW.Trod enc Tryz.prog W 0 (fun _ => true) true 71 v0 d0 p0) :
    ∃ l : List ActK, ActsK l W v0 := by
  obtain ⟨a, n, c, rfl⟩ := okWide_slice Tryz.underlying71 ok0
  obtain ⟨fuel, hf⟩ := h0
  have hu : ∃ f0 f1 f2 : Field, Tryz.prog.underlying 81 = some (.struct #[f0, f1, f2]) ∧ f0.type = 45 ∧ f1.type = 3 ∧ f2.type = 79 ∧ f0.offset = 0 ∧ f1.offset = 4 ∧ f2.offset = 5 := ⟨_, _, _, Tryz.underlying81, rfl, rfl, rfl, rfl, rfl, rfl⟩
  have hur : ∃ f0 f1 f2 f3 : Field, Tryz.prog.underlying 45 = some (.struct #[f0, f1, f2, f3]) ∧ f0.type = 3 ∧ f1.type = 3 ∧ f2.type = 3 ∧ f3.type = 43 ∧ oneCellFields Tryz.prog #[f0, f1, f2, f3] = true := ⟨_, _, _, _, Tryz.underlying45, rfl, rfl, rfl, rfl, by kernel_rfl⟩
  have hue : ∃ f0 f1 f2 f3 f4 : Field, Tryz.prog.underlying 79 = some (.struct #[f0, f1, f2, f3, f4]) ∧ f0.type = 9 ∧ f1.type = 3 ∧ f2.type = 24 ∧ f3.type = 4 ∧ f4.type = 3 ∧ oneCellFields Tryz.prog #[f0, f1, f2, f3, f4] = true := ⟨_, _, _, _, _, Tryz.underlying79, rfl, rfl, rfl, rfl, rfl, by kernel_rfl⟩
  obtain ⟨f0, f1, f2, hu, t0, t1, t2, o0, o1, o2⟩ := hu
  obtain ⟨g0, g1, g2, g3, hur, s0, s1, s2, s3, honer⟩ := hur
  obtain ⟨e0, e1, e2, e3, e4, hue, q0, q1, q2, q3, q4, honee⟩ := hue
  have z1 : Tryz.prog.cellsOf 81 = 10 := by kernel_rfl
  have z2 : Tryz.prog.cellsOf 45 = 4 := by kernel_rfl
  have z3 : Tryz.prog.cellsOf 79 = 5 := by kernel_rfl
  have z4 : Tryz.prog.cellsOf 3 = 1 := by kernel_rfl
  rcases open_slice Tryz.underlying71 hf with ⟨hcs, _⟩ | ⟨a', len, cap, m, nn, D, Pl, hcs, _, hl, hm, hmm, _, hV⟩
  · simp [Value.cells] at hcs
    obtain ⟨rfl, rfl, rfl⟩ := hcs
    exact ⟨[], none, 0, rfl, Nat.le_refl _, Nat.zero_le _, Or.inl rfl⟩
  · simp [Value.cells] at hcs
    obtain ⟨rfl, rfl, rfl⟩ := hcs
    simp only [if_true] at hmm
    subst hmm
    rw [z1] at hV
    have hx : ∀ i, i < n → ∃ A : ActK, (A.ring.ok ∧ okInt A.kind ∧ okInt A.x.e.c ∧ okInt A.x.e.t ∧ SlT (fun _ => True) A.x.e.fs W A.x.v) ∧
        ∀ j u, ([Value.int .i64 A.ring.kind, .int .i64 A.ring.n, .int .i64 A.ring.via, .int .u64 A.ring.id, .int .i64 A.kind] ++ A.x.cells)[j]? = some u → W.cell? (a'.add (i * 10 + j)) = some u := by
      intro i hi
      obtain ⟨cs', hc, ht'⟩ := hV i (by omega)
      obtain ⟨_, hcl, hat⟩ := World.cells?_some hc
      obtain ⟨ys, n', hn', hy, hlen, hyl, hff⟩ := DataW.trod_struct hu ht'
      have hys : ∀ j, j < 3 → ys[j]? = some (ys.getD j default) := fun j hj => by
        have : j < ys.length := by rw [hyl]; exact hj
        rw [List.getD_eq_getElem?_getD, List.getElem?_eq_getElem this]; rfl
      have k0 := (hff 0 f0 rfl).trans (hys 0 (by omega))
      have k1 := (hff 1 f1 rfl).trans (hys 1 (by omega))
      have k2 := (hff 2 f2 rfl).trans (hys 2 (by omega))
      rw [o0, t0, z2] at k0
      rw [o1, t1, z4] at k1
      rw [o2, t2, z3] at k2
      rw [z1] at hlen
      obtain ⟨n0, F0⟩ := fields_of hur honer z2 k0
      obtain ⟨n2, F2⟩ := fields_of hue honee z3 k2
      have d0 : ∀ j, j < 4 → ((cs'.drop 0).take 4)[j]? = cs'[j]? := fun j hj => by rw [List.drop_zero, List.getElem?_take, if_pos hj]
      have d2 : ∀ j, j < 5 → ((cs'.drop 5).take 5)[j]? = cs'[5 + j]? := fun j hj => by rw [List.getElem?_take, if_pos hj, List.getElem?_drop]
      have d1 : (cs'.drop 4).take 1 = [cs'[4]'(by omega)] := by rw [List.drop_eq_getElem_cons (by omega)]; rfl
      rw [d1] at k1
      obtain ⟨v0, y0, c0, r0⟩ := F0 0 g0 rfl
      obtain ⟨v1, y1, c1, r1⟩ := F0 1 g1 rfl
      obtain ⟨v2, y2, c2, r2⟩ := F0 2 g2 rfl
      obtain ⟨v3, y3, c3, r3⟩ := F0 3 g3 rfl
      obtain ⟨u0, x0, b0, p0⟩ := F2 0 e0 rfl
      obtain ⟨u1, x1, b1, p1⟩ := F2 1 e1 rfl
      obtain ⟨u2, x2, b2, p2⟩ := F2 2 e2 rfl
      obtain ⟨u3, x3, b3, p3⟩ := F2 3 e3 rfl
      obtain ⟨u4, x4, b4, p4⟩ := F2 4 e4 rfl
      rw [d0 _ (by omega)] at c0 c1 c2 c3
      rw [d2 _ (by omega)] at b0 b1 b2 b3 b4
      rw [s0] at r0; rw [s1] at r1; rw [s2] at r2; rw [s3] at r3
      rw [q0] at p0; rw [q1] at p1; rw [q2] at p2; rw [q3] at p3; rw [q4] at p4
      obtain ⟨a0, h0, _, w0⟩ := DataW.trod_int Tryz.underlying3 r0
      obtain ⟨a1, h1, _, w1⟩ := DataW.trod_int Tryz.underlying3 r1
      obtain ⟨a2, h2, _, w2⟩ := DataW.trod_int Tryz.underlying3 r2
      obtain ⟨a3, h3, _, w3⟩ := DataW.trod_int Tryz.underlying43 r3
      obtain ⟨a4, h4, _, w4⟩ := DataW.trod_int Tryz.underlying3 k1
      obtain ⟨sg, i0, _⟩ := DataW.trod_string Tryz.underlying9 p0
      obtain ⟨zc, i1, _, wc⟩ := DataW.trod_int Tryz.underlying3 p1
      obtain ⟨za, i3, _⟩ := DataW.trod_bool Tryz.underlying4 p3
      obtain ⟨zt, i4, _, wt⟩ := DataW.trod_int Tryz.underlying3 p4
      simp at h0 h1 h2 h3 h4 i0 i1 i3 i4
      have c4 : cs'[4]? = some (.int .i64 a4) := by rw [← h4]; exact List.getElem?_eq_getElem (by omega)
      subst h0 h1 h2 h3 i0 i1 i3 i4
      obtain ⟨k, _, V, hs, hVs⟩ := slAt_of_trod Tryz.underlying24 cellsStrT p2
      have hV' : ∀ i, i < k → ∃ z : ByteArray, V i = .string z := by
        intro i hi
        obtain ⟨y, hy⟩ := hVs i hi
        obtain ⟨z, hz, _⟩ := DataW.trod_string Tryz.underlying9 hy
        simp at hz; exact ⟨z, hz⟩
      obtain ⟨f, hf⟩ := choose_lt hV'
      refine ⟨⟨⟨a0, a1, a2, a3⟩, a4, ⟨⟨sg.data.toList, zc, (List.range k).map fun i => (f i).data.toList, za, zt⟩, u2⟩⟩, ⟨⟨w1, w2, placeOfT w3, w0⟩, w4, wc, wt, ?_⟩, fun j u hj => ?_⟩
      · refine SlT.of_slAt (B := 0) ?_ (fun _ _ _ => trivial)
        rw [List.length_map, List.length_range]
        refine hs.congr fun i hi => ?_
        rw [hf i hi]
        unfold nthT sV
        rw [getD_map_range _ k i [] hi, bs_data]
      · have hj10 : j < 10 := (List.getElem?_eq_some_iff.1 hj).1
        have hcell : W.cell? (a'.add (i * 10 + j)) = cs'[j]? := by rw [← Go.Deep.add_add]; exact hat j hj10
        rw [hcell]
        have : j = 0 ∨ j = 1 ∨ j = 2 ∨ j = 3 ∨ j = 4 ∨ j = 5 ∨ j = 6 ∨ j = 7 ∨ j = 8 ∨ j = 9 := by omega
        have hsg : sV sg.data.toList = .string sg := by unfold sV; rw [bs_data]
        rcases this with rfl | rfl | rfl | rfl | rfl | rfl | rfl | rfl | rfl | rfl
        · cases hj; exact c0
        · cases hj; exact c1
        · cases hj; exact c2
        · cases hj; exact c3
        · cases hj; exact c4
        · cases hj; rw [hsg]; exact b0
        · cases hj; exact b1
        · cases hj; exact b2
        · cases hj; exact b3
        · cases hj; exact b4
    obtain ⟨f, hf⟩ := choose_lt hx
    have hgt : ∀ k, k < n → actK ((List.range n).map f) k = f k := fun k hk => by unfold actK; rw [getD_map_range _ n k default hk]
    refine ⟨(List.range n).map f, some a', _, by simp, by simpa using hl, hm, ?_⟩
    by_cases h0 : n = 0
    · exact Or.inl (by simp [h0])
    · right
      have h1 := (hf 0 (by omega)).2 0 _ rfl
      obtain ⟨hs, hb⟩ := spot_cellT h1
      have e : (a'.add (0 * 10 + 0)) = a' := by simp [Addr.add]
      rw [e] at hs hb
      refine ⟨a'.block, a'.off, by cases a'; simp at hs; subst hs; rfl, hb, fun i hi => ?_⟩
      rw [List.length_map, List.length_range] at hi
      rw [hgt i hi]
      obtain ⟨hok, hc⟩ := hf i hi
      have hc2 : ∀ j u, ([Value.int .i64 (f i).ring.kind, .int .i64 (f i).ring.n, .int .i64 (f i).ring.via, .int .u64 (f i).ring.id, .int .i64 (f i).kind] ++ (f i).x.cells)[j]? = some u → W.cell? ⟨a'.block, a'.off + i * 10 + j, none⟩ = some u := fun j u hu => by
        have := hc j u hu
        rw [add_spot _ _ hs] at this
        rw [Nat.add_assoc]; exact this
      exact ⟨hc2 0 _ rfl, hc2 1 _ rfl, hc2 2 _ rfl, hc2 3 _ rfl, hc2 4 _ rfl, ⟨hc2 5 _ rfl, hc2 6 _ rfl, hc2 7 _ rfl, hc2 8 _ rfl, hc2 9 _ rfl⟩, hok.2.2.2.2, hok.1, hok.2.1, hok.2.2.1, hok.2.2.2.1⟩
/-! ### Has a member a wish? -/
set_option maxRecDepth 100000 in
set_option maxHeartbeats 8000000 in
theorem has_any {R : Int → Nat → Prop} {tb : Int → Nat} {D : Nat → Prop} {W w : World} {sb mb : Nat} {T : TT} (h : StoreIn R tb D W w sb mb T) (n : Int) (h0 : 0 ≤ n) (h1 : n < 32) (g : Str) (c : Int) (fa : Option Addr) (fn fc : Nat) (an : Bool) (t : Int)
    (hx : ∃ x ∈ kidsE (tabs T n) g, x.c = c ∧ x.any = true) :
    Calls Tryz.prog 37 #[.pointer (some ⟨sb, 0, none⟩), .int .i64 n, .agg #[.string (bs g), .int .i64 c, .slice fa fn fc, .bool an, .int .i64 t]] w fun e w' =>
      e = .returned (.bool true) ∧ StoreW D W w' sb mb (setT T n (tabs T n)) ∧ Kept (fun b => ¬ D b) w w' := by
  have H := Lib.hid h
  have HX := Lib.hid hx
  clear h hx
  go_enter Tryz.func37, Tryz.ntmps37
  go_upto_region 1 with (fail)
  obtain ⟨w1, hw1⟩ : ∃ z, z = w.alloc (.cells #[.string (bs g), .int .i64 c, .slice fa fn fc, .bool an, .int .i64 t] 79) := ⟨_, rfl⟩
  obtain ⟨X, hX⟩ : ∃ z, z = w.heap.size := ⟨_, rfl⟩
  have b1 : Below w.heap.size w w1 := by rw [hw1]; exact bel_alloc (Below.refl _ _) _
  have x0 : w1.cell? ⟨X, 0, none⟩ = some (.string (bs g)) := by rw [hw1, hX]; simp [go_sem]
  have x1 : w1.cell? ⟨X, 1, none⟩ = some (.int .i64 c) := by rw [hw1, hX]; simp [go_sem]
  have xz : X < w1.heap.size := by rw [hw1, hX]; simp
  have S1 := Lib.hid (H.out.later b1)
  obtain ⟨D1, hD1⟩ : ∃ z : Nat → Prop, z = fun b => D b ∨ (w.heap.size ≤ b ∧ b < w1.heap.size) := ⟨_, rfl⟩
  rw [← hD1] at S1
  have HD1 : Hid ((∀ b, D b → D1 b) ∧ D1 X) := ⟨fun b hb => by rw [hD1]; exact Or.inl hb, by rw [hD1]; exact Or.inr ⟨by omega, xz⟩⟩
  have B1 := Lib.hid b1
  try rw [← hw1]
  try rw [← hX]
  clear hw1 hX b1 hD1
  have CW := Lib.hid (wish_any S1.out n h0 h1 g)
  go_wp2_with fail
  refine CW.out.mono ?_
  rintro e w2 ⟨v2, R2, tb2, rfl, hE, hS2, hK2⟩
  rw [show (T n).getD [] = tabs T n from rfl] at hE hS2
  obtain ⟨a2, c2, rfl, _⟩ := hE.slice
  have E2 := Lib.hid hE
  have S2 := Lib.hid hS2
  have x1 := (World.cell?_of_block (hK2.block X xz fun h => h HD1.out.2)).trans x1
  have xz2 := Nat.lt_of_lt_of_le xz hK2.size
  have K2 : Hid (Kept (fun b => ¬ D b) w w2) := ((Kept.refl _ w).below B1.out).trans (hK2.more fun b hb hd => hb (HD1.out.1 b hd))
  have HP : Hid (∀ w', Below w2.heap.size w2 w' → StoreW D W w' sb mb (setT T n (tabs T n)) ∧ Kept (fun b => ¬ D b) w w') := fun w' hb => ⟨⟨_, _, (S2.out.keep hb).less HD1.out.1⟩, K2.out.below hb⟩
  obtain ⟨KL, hKL⟩ : ∃ z, z = kidsE (tabs T n) g := ⟨_, rfl⟩
  have hkl : KL.length ≤ 1000000 := by
    have h3 : KL.length ≤ (tabs T n).length := by rw [hKL]; unfold kidsE; rw [List.length_map]; exact List.length_filter_le _ _
    have h4 := (S2.out.tab n _ (setT_same _ _ _)).few
    omega
  rw [← hKL] at E2 HX ⊢
  clear hKL hE hS2 hK2 x0 CW S1
  go_wp2_with fail
  go_loopw [15] (fun i wr => ∃ k : Nat, k ≤ KL.length ∧ i = .int .i64 k ∧ Hid (Below w2.heap.size w2 wr) ∧ Hid (∀ j, j < k → ¬ ((entAt KL j).c = c ∧ (entAt KL j).any = true))) (fun i _ => KL.length - (intOf i).toNat)
  case atStart => exact ⟨0, Nat.zero_le _, rfl, Below.refl _ _, fun j hj => by omega⟩
  case round =>
    obtain ⟨k, hk, rfl, hB, hN⟩ := hrel
    by_cases hlt : k < KL.length
    · have hkI : (k : Int) < (KL.length : Int) := by omega
      obtain ⟨b, off, fb, fd, rfl, _, hbz, d0, d1, d2, d3, d4, _⟩ := (E2.out.below hB.out).at k hlt
      have x1 := (hB.out.cell (p := ⟨X, 1, none⟩) xz2).trans x1
      have xzr := Nat.lt_of_lt_of_le xz2 hB.out.size
      obtain ⟨E, hE⟩ : ∃ z, z = entAt KL k := ⟨_, rfl⟩
      have HEe := Lib.hid hE
      rw [← hE] at d0 d1 d2 d3 d4
      clear hE
      obtain ⟨eg, ec, efs, ea, et⟩ := E
      dsimp only at d0 d1 d2 d3 d4
      have HB2 : Hid (∀ o : Obj, Below w2.heap.size w2 (wr.alloc o)) := fun o => bel_alloc hB.out _
      by_cases hc : ec = c
      · subst hc
        cases ea with
        | true =>
          go_wp2_with fail
          go_ret
          exact ⟨rfl, HP.out _ (HB2.out _)⟩
        | false =>
          have HN2 : Hid (∀ j, j < k + 1 → ¬ ((entAt KL j).c = ec ∧ (entAt KL j).any = true)) := fun j hj => by
            rcases Nat.lt_or_ge j k with h | h
            · exact hN.out j h
            · obtain rfl : j = k := by omega
              rw [← HEe.out]; simp
          go_wp2_with fail
          go_roundw
          case rel => go_light; exact ⟨k + 1, by omega, by go_num, HB2.out _, HN2⟩
          case measure => go_light; simp [intOf]; omega
      · have hcb : (ec == c) = false := by simpa using hc
        have HN2 : Hid (∀ j, j < k + 1 → ¬ ((entAt KL j).c = c ∧ (entAt KL j).any = true)) := fun j hj => by
          rcases Nat.lt_or_ge j k with h | h
          · exact hN.out j h
          · obtain rfl : j = k := by omega
            rw [← HEe.out]; exact fun h => hc h.1
        clear hc
        go_wp2_with fail
        go_roundw
        case rel => go_light; exact ⟨k + 1, by omega, by go_num, HB2.out _, HN2⟩
        case measure => go_light; simp [intOf]; omega
    · exfalso
      obtain ⟨x, hx, h2, h3⟩ := HX.out
      obtain ⟨j, hj, rfl⟩ := List.getElem_of_mem hx
      exact hN.out j (by omega) (by rw [entAt_eq hj]; exact ⟨h2, h3⟩)
end Go.Proofs.YtahiahjhpakeiaaGreatDoor
end
section
namespace Go.Proofs.YtahiahjhpakeiaaGreatDoor
open Go.RowKit Go.Maps Go.Sort Go.WideShapes Go.ChangeShapes Go.Deep
set_option linter.unusedVariables false
set_option linter.unusedSimpArgs false
attribute [local go_sem] later_cell later_frozen later_lt cell_set_off cell_set_block keptT_cell keptT_lt

/-! ### The plain law -/
def dropF (l : List Ent) (g : Str) (c : Int) : List Ent := l.filter fun x => !(decide (x.g = g) && decide (x.c = c))
theorem dropE_eq {l : List Ent} (h : OrdE l) {g : Str} {c : Int} (hh : hitB l g c = true) : dropE l g c = dropF l g c := by
  have h2 := hh
  unfold hitB at h2
  rw [decide_eq_true_eq] at h2
  obtain ⟨h1, h2, h3⟩ := h2
  rw [entAt_eq h1] at h2 h3
  unfold dropE
  generalize findI l g c = i at *
  have e : l = l.take i ++ l[i] :: l.drop (i + 1) := by rw [List.getElem_cons_drop h1, List.take_append_drop]
  have hp := h
  rw [e] at hp
  obtain ⟨p1, p2, p3⟩ := List.pairwise_append.1 hp
  have p4 := List.pairwise_cons.1 p2
  rw [List.eraseIdx_eq_take_drop_succ]
  unfold dropF
  conv => rhs; rw [e]
  rw [List.filter_append, List.filter_cons_of_neg (by simp [h2, h3])]
  congr 1
  · refine (List.filter_eq_self.2 fun x hx => ?_).symm
    have := p3 x hx l[i] List.mem_cons_self
    rw [h2, h3] at this
    by_cases q : x.g = g ∧ x.c = c
    · rw [q.1, q.2] at this; exact absurd this (klt_irrefl _ _)
    · simp only [Bool.not_eq_true', Bool.and_eq_false_iff, decide_eq_false_iff_not]
      rcases Classical.em (x.g = g) with a | a
      · exact Or.inr fun b => q ⟨a, b⟩
      · exact Or.inl a
  · refine (List.filter_eq_self.2 fun x hx => ?_).symm
    have := p4.1 x hx
    rw [h2, h3] at this
    by_cases q : x.g = g ∧ x.c = c
    · rw [q.1, q.2] at this; exact absurd this (klt_irrefl _ _)
    · simp only [Bool.not_eq_true', Bool.and_eq_false_iff, decide_eq_false_iff_not]
      rcases Classical.em (x.g = g) with a | a
      · exact Or.inr fun b => q ⟨a, b⟩
      · exact Or.inl a
/-- Entries of a group, of these children, are gone. -/
def remK (l : List Ent) (g : Str) (cs : List Int) : List Ent := l.filter fun x => !(decide (x.g = g) && cs.contains x.c)
theorem remK_nil (l : List Ent) (g : Str) : remK l g [] = l := by unfold remK; exact List.filter_eq_self.2 fun x hx => by simp
theorem remK_ord {l : List Ent} (h : OrdE l) (g : Str) (cs : List Int) : OrdE (remK l g cs) := h.sublist List.filter_sublist
theorem remK_snoc (l : List Ent) (g : Str) (cs : List Int) (c : Int) : dropF (remK l g cs) g c = remK l g (cs ++ [c]) := by
  unfold dropF remK
  rw [List.filter_filter]
  refine List.filter_congr fun x hx => ?_
  rw [Bool.eq_iff_iff]
  simp only [Bool.and_eq_true, Bool.not_eq_true', Bool.and_eq_false_iff, decide_eq_false_iff_not, List.contains_eq_mem, List.mem_append, List.mem_singleton, decide_eq_true_eq]
  by_cases a : x.g = g <;> by_cases b : x.c ∈ cs <;> by_cases d : x.c = c <;> simp [a, b, d]
theorem kids_c (l : List Ent) (g : Str) : (kidsE l g).map (·.c) = (l.filter fun e => decide (e.g = g)).map (·.c) := by
  unfold kidsE
  rw [List.map_map]
  exact List.map_congr_left fun x _ => clean_c x
theorem kids_nodup {l : List Ent} (h : OrdE l) (g : Str) : ((kidsE l g).map (·.c)).Nodup := by
  rw [kids_c]
  refine List.pairwise_map.2 ?_
  have hp : (l.filter fun e => decide (e.g = g)).Pairwise fun a b => klt a.g a.c b.g b.c := h.sublist List.filter_sublist
  refine List.Pairwise.imp_of_mem (fun {a b} ha hb hab e => ?_) hp
  have h1 : a.g = g := by simpa using (List.mem_filter.1 ha).2
  have h2 : b.g = g := by simpa using (List.mem_filter.1 hb).2
  rw [h1, h2, e] at hab
  exact klt_irrefl _ _ hab
theorem remK_hit {l : List Ent} (h : OrdE l) {g : Str} {j : Nat} (hj : j < (kidsE l g).length) : hitB (remK l g (((kidsE l g).take j).map (·.c))) g (entAt (kidsE l g) j).c = true := by
  rw [hit_iff (remK_ord h _ _), entAt_eq hj]
  obtain ⟨x, hx, hg, he⟩ := mem_kids.1 (List.getElem_mem hj)
  refine ⟨x, ?_, hg, by rw [he, clean_c]⟩
  unfold remK
  refine List.mem_filter.2 ⟨hx, ?_⟩
  have hnd := kids_nodup h g
  have hc : x.c ∉ ((kidsE l g).take j).map (·.c) := fun hm => by
    obtain ⟨y, hy, e⟩ := List.mem_map.1 hm
    obtain ⟨i, hi, rfl⟩ := List.getElem_of_mem hy
    rw [List.length_take] at hi
    rw [List.getElem_take] at e
    have h1 := List.pairwise_iff_getElem.1 hnd i j (by rw [List.length_map]; omega) (by rw [List.length_map]; omega) (by omega)
    rw [List.getElem_map, List.getElem_map] at h1
    exact h1 (e.trans (by rw [he, clean_c]))
  rw [Bool.not_eq_true', Bool.and_eq_false_iff]
  exact Or.inr (by simpa using hc)
theorem remK_succ {l : List Ent} (h : OrdE l) {g : Str} {j : Nat} (hj : j < (kidsE l g).length) :
    dropE (remK l g (((kidsE l g).take j).map (·.c))) g (entAt (kidsE l g) j).c = remK l g (((kidsE l g).take (j + 1)).map (·.c)) := by
  rw [dropE_eq (remK_ord h _ _) (remK_hit h hj), remK_snoc, List.take_succ_eq_append_getElem hj, List.map_append, entAt_eq hj]
  rfl
theorem remK_all (l : List Ent) (g : Str) : remK l g ((kidsE l g).map (·.c)) = l.filter fun x => !decide (x.g = g) := by
  unfold remK
  refine List.filter_congr fun x hx => ?_
  by_cases a : x.g = g
  · have : x.c ∈ (kidsE l g).map (·.c) := by
      rw [kids_c]
      exact List.mem_map.2 ⟨x, List.mem_filter.2 ⟨hx, by simpa using a⟩, rfl⟩
    simp [a, this]
  · simp [a]
/-- A table from which some groups went. -/
def trimJ (K : Str → List Int) (n : Int) (l : List Ent) (gs : List Str) : List Ent := l.filter fun x => !gs.contains x.g || (K x.g).contains n
theorem trimJ_nil (K : Str → List Int) (n : Int) (l : List Ent) : trimJ K n l [] = l := by unfold trimJ; exact List.filter_eq_self.2 fun x hx => by simp
theorem trimJ_keep {K : Str → List Int} {n : Int} {l : List Ent} {gs : List Str} {g : Str} (h : (K g).contains n = true) : trimJ K n l (gs ++ [g]) = trimJ K n l gs := by
  unfold trimJ
  refine List.filter_congr fun x hx => ?_
  by_cases a : x.g = g
  · rw [a, h]; simp
  · simp [a]
theorem trimJ_drop {K : Str → List Int} {n : Int} {l : List Ent} {gs : List Str} {g : Str} (h : (K g).contains n = false) : trimJ K n l (gs ++ [g]) = (trimJ K n l gs).filter fun x => !decide (x.g = g) := by
  unfold trimJ
  rw [List.filter_filter]
  refine List.filter_congr fun x hx => ?_
  by_cases a : x.g = g
  · rw [a, h]; simp
  · simp [a]
theorem groups_le {l : List Ent} (h : OrdE l) : (l.map (·.g)).Pairwise (· ≤ ·) :=
  List.pairwise_map.2 (h.imp fun {a b} hab => str_le.2 (hab.elim Or.inl fun e => Or.inr e.1))
theorem mem_groups {l : List Ent} (h : OrdE l) {x : Ent} (hx : x ∈ l) : x.g ∈ groupsE l := by
  have hs := (compactS_up (groups_le h) _ (Nat.le_refl _)).2.1 x.g
  refine hs.2 ?_
  obtain ⟨j, hj, rfl⟩ := List.getElem_of_mem hx
  exact ⟨j, by rw [List.length_map]; exact hj, by rw [nthT_eq (by rw [List.length_map]; exact hj), List.getElem_map]⟩
theorem groups_mem {l : List Ent} (h : OrdE l) {g : Str} (hg : g ∈ groupsE l) : ∃ x ∈ l, x.g = g := by
  obtain ⟨j, hj, e⟩ := (compactS_up (groups_le h) _ (Nat.le_refl _)).2.1 g |>.1 hg
  rw [nthT_eq hj, List.getElem_map] at e
  exact ⟨_, List.getElem_mem _, e⟩
theorem trimJ_all (K : Str → List Int) (n : Int) {l : List Ent} (h : OrdE l) : trimJ K n l (groupsE l) = l.filter fun x => (K x.g).contains n := by
  unfold trimJ
  refine List.filter_congr fun x hx => ?_
  have := mem_groups h hx
  simp [this]
theorem trimJ_ord {l : List Ent} (h : OrdE l) (K : Str → List Int) (n : Int) (gs : List Str) : OrdE (trimJ K n l gs) := h.sublist List.filter_sublist
/-- Those tables that have been visited are trimmed. -/
def visT (K : Str → List Int) (T : TT) (left : Int → Bool) : TT := fun i => if left i = true then T i else (T i).map fun l => l.filter fun x => (K x.g).contains i
theorem visT_start (K : Str → List Int) (T : TT) {left : Int → Bool} (h : ∀ i, left i = (T i).isSome) : visT K T left = T := funext fun i => by
  unfold visT
  rw [h i]
  cases T i <;> simp
theorem visT_end (K : Str → List Int) (T : TT) {left : Int → Bool} (h : ∀ i, left i = false) : visT K T left = trimT K T := funext fun i => by
  unfold visT trimT
  rw [h i]; simp
theorem visT_step (K : Str → List Int) (T : TT) {left : Int → Bool} {n : Int} {l : List Ent} (hn : left n = true) (hT : T n = some l) :
    visT K T (fun j => left j && !(j == n)) = setT (visT K T left) n (l.filter fun x => (K x.g).contains n) := funext fun i => by
  by_cases e : i = n
  · subst e
    rw [setT_same]
    unfold visT
    simp [hT]
  · rw [setT_ne _ _ e]
    unfold visT
    have : (i == n) = false := by simpa using e
    simp only [this, Bool.not_false, Bool.and_true]
theorem visT_at (K : Str → List Int) (T : TT) {left : Int → Bool} {n : Int} (hn : left n = true) : visT K T left n = T n := by unfold visT; rw [if_pos hn]
/-! ### The walks -/
theorem slAt_kept3 {B : Nat} {gg : Nat → Value} {n : Nat} {w w' : World} {v : Value} {S : Nat → Prop} (h : SlAt B gg n w v) (hk : Kept S w w') (hS : ∀ b, v.ownBlock = some b → ¬ S b) : SlAt B gg n w' v := by
  obtain ⟨a, cap, rfl, h1, h2, h3, h4⟩ := h
  refine ⟨a, cap, rfl, h1, h2, h3, h4.imp id ?_⟩
  rintro ⟨b, off, rfl, h7, h5, h6⟩
  exact ⟨b, off, rfl, h7, Nat.lt_of_lt_of_le h5 hk.size, fun i hi => (World.cell?_of_block (hk.block b h5 (hS b rfl))).trans (h6 i hi)⟩
theorem slAt_kept4 {B : Nat} {gg : Nat → Value} {n : Nat} {w w' : World} {v : Value} {S : Nat → Prop} (h : SlAt B gg n w v) (hk : Kept S w w') (hS : ∀ b, B ≤ b → b < w.heap.size → ¬ S b) : SlAt B gg n w' v := by
  obtain ⟨a, cap, rfl, h1, h2, h3, h4⟩ := h
  refine ⟨a, cap, rfl, h1, h2, h3, h4.imp id ?_⟩
  rintro ⟨b, off, rfl, h7, h5, h6⟩
  exact ⟨b, off, rfl, h7, Nat.lt_of_lt_of_le h5 hk.size, fun i hi => (World.cell?_of_block (hk.block b h5 (hS b h7 h5))).trans (h6 i hi)⟩
theorem RangX.block {P : Program} {k : TypeId} {w w' : World} {mb r c : Nat} {f : Int → Option Value} {left : Int → Bool} {cnt : Nat} (h : RangX P k w mb r c f left cnt) (h1 : w'.heap[mb]? = w.heap[mb]?) (h2 : w'.heap[r]? = w.heap[r]?) : RangX P k w' mb r c f left cnt := by
  obtain ⟨D, lf, ⟨es, clock, since, seen, c0, hb, F, hs, hD, hr, rest⟩, h4⟩ := h
  exact ⟨D, lf, ⟨es, clock, since, seen, c0, h1.trans hb, F, hs, hD, h2.trans hr, rest⟩, h4⟩
theorem delX_none {f : Int → Option Value} {n : Int} (h : f n = none) : delX f n = f := funext fun j => by
  unfold delX
  by_cases e : j = n
  · rw [e, h]; simp
  · simp [e]
theorem setX_delX {f : Int → Option Value} {n : Int} {v : Value} (h : f n = some v) : setX (delX f n) n v = f := funext fun j => by
  by_cases e : j = n
  · rw [e, setX_same, h]
  · rw [setX_ne _ _ e]
    unfold delX
    rw [if_neg e]
theorem cntX_del (f : Int → Option Value) {n : Int} (h : (f n).isSome = true → 0 ≤ n ∧ n < 32) : cntX (delX f n) = if (f n).isSome then cntX f - 1 else cntX f := by
  cases hf : f n with
  | none => rw [delX_none hf]; rfl
  | some v =>
    obtain ⟨h0, h1⟩ := h (by rw [hf]; rfl)
    have e := cntX_set (delX f n) v h0 h1
    rw [setX_delX hf] at e
    have : ((delX f n) n).isSome = false := by unfold delX; simp
    rw [this] at e
    simp only [Option.isSome_some, if_true]
    rw [e]; simp
theorem groups_few (l : List Ent) : (groupsE l).length ≤ l.length := by
  unfold groupsE Go.Lib.compact Go.Lib.compactUpTo
  rw [List.length_map]
  exact Nat.le_trans (List.length_filter_le _ _) (by simp)
def delT (T : TT) (n : Int) : TT := fun j => if j = n then none else T j
theorem tabs_del (T : TT) (n m : Int) : tabs (delT T n) m = if m = n then [] else tabs T m := by
  unfold tabs delT
  by_cases h : m = n <;> simp [h]
section
variable {R : Int → Nat → Prop} {tb : Int → Nat} {D : Nat → Prop} {W w w' : World} {sb mb : Nat} {T : TT}
/-- What turned is none of the tables'. -/
theorem StoreIn.aside {S : Nat → Prop} (h : StoreIn R tb D W w sb mb T) (hk : Kept S w w') (hS : ∀ b, S b → D b ∧ b ≠ sb ∧ W.heap.size ≤ b) :
    StoreIn R tb (fun b => D b ∨ (w.heap.size ≤ b ∧ b < w'.heap.size)) W w' sb mb T where
  c0 := (World.cell?_of_block (hk.block _ h.sz fun hs => (hS sb hs).2.1 rfl)).trans h.c0
  sz := Nat.lt_of_lt_of_le h.sz hk.size
  map := h.map.block (hk.block _ h.map.lt fun hs => (h.dm mb (hS mb hs).1).2 rfl)
  dom := h.dom
  tab := fun n l e => (h.tab n l e).kept hk fun b hR hs => (h.own n l b e hR).2.2.2 (hS b hs).1
  own := fun n l b e hR => ⟨(h.own n l b e hR).1, (h.own n l b e hR).2.1, (h.own n l b e hR).2.2.1, fun hD => by
    rcases hD with hD | hD
    · exact (h.own n l b e hR).2.2.2 hD
    · have := (h.tab n l e).old b hR; omega⟩
  dis := h.dis
  ne := h.ne
  lowS := h.lowS
  lowM := h.lowM
  dm := fun b hD => by
    have := h.map.lt
    rcases hD with hD | hD
    · exact ⟨Nat.lt_of_lt_of_le (h.dm b hD).1 hk.size, (h.dm b hD).2⟩
    · exact ⟨hD.2, by omega⟩
  bel := h.bel.trans (hk.toBelow h.bel.size fun b hb hs => by have := (hS b hs).2.2; omega)
/-- One table is lost. -/
theorem StoreIn.del (h : StoreIn R tb D W w sb mb T) {n : Int} (hn : okInt n) (ty : TypeId) : ∃ w', (Builtin.delete_ #[142, 3] ty #[.map (some mb), .int .i64 n]).run Tryz.prog w = .ok (.tuple #[]) w' ∧
    StoreIn R tb D W w' sb mb (delT T n) ∧ Kept (fun b => ¬ D b) w w' := by
  obtain ⟨w', hrun, hm, ht⟩ := h.map.drop keyInt Tryz.underlying3 Tryz.underlying142 ty n hn
  have hg := ht.grown
  have hk : Kept (fun b => b = mb) w w' := ⟨hg.os, hg.tape, hg.output, hg.size, fun b hb hne => hg.block b hb (fun e => hne (by cases e; rfl))⟩
  have hp : tptM tb (delT T n) = delX (tptM tb T) n := funext fun j => by
    unfold tptM delT delX
    by_cases e : j = n <;> simp [e]
  have some_of : ∀ m l, delT T n m = some l → T m = some l := fun m l e => by
    unfold delT at e
    split at e
    · cases e
    · exact e
  refine ⟨w', hrun, { c0 := (World.cell?_of_block (hk.block _ h.sz h.ne)).trans h.c0, sz := Nat.lt_of_lt_of_le h.sz hk.size, map := ?_, dom := fun m l e => h.dom m l (some_of m l e), tab := fun m l e => (h.tab m l (some_of m l e)).kept hk fun b hR hs => (h.own m l b (some_of m l e) hR).2.2.1 hs, own := fun m l b e hR => h.own m l b (some_of m l e) hR, dis := fun i j l k b hij e1 e2 => h.dis i j l k b hij (some_of i l e1) (some_of j k e2), ne := h.ne, lowS := h.lowS, lowM := h.lowM, dm := fun b hD => ⟨Nat.lt_of_lt_of_le (h.dm b hD).1 hk.size, (h.dm b hD).2⟩, bel := h.bel.trans (hk.toBelow h.bel.size fun b hb e => by have := h.lowM; omega) }, hk.more fun b e hD => (h.dm b hD).2 e⟩
  rw [hp, cntX_del]
  · exact hm
  · intro hs
    unfold tptM at hs
    cases hT : T n with
    | none => rw [hT] at hs; cases hs
    | some l => exact h.dom n l hT
set_option maxRecDepth 100000 in
theorem sgone_any (h : StoreIn R tb D W w sb mb T) (n : Int) (hn : okInt n) :
    Calls Tryz.prog 33 #[.pointer (some ⟨sb, 0, none⟩), .int .i64 n] w fun e w' => e = .returned (.tuple #[]) ∧ StoreW D W w' sb mb (delT T n) ∧ Kept (fun b => ¬ D b) w w' := by
  have c0 := h.c0
  have sz := h.sz
  obtain ⟨w', hrun, hS, hK⟩ := h.del hn 0
  have HS := Lib.hid hS
  have HK := Lib.hid hK
  clear h hS hK
  go_enter Tryz.func33, Tryz.ntmps33
  go_wp2_with fail
  go_end0
  exact ⟨rfl, ⟨_, _, HS.out⟩, HK.out⟩
end
section
variable {R : Int → Nat → Prop} {tb : Int → Nat} {D : Nat → Prop} {W w w' : World} {sb mb : Nat} {T : TT}
/-- One table turns, in its own blocks. -/
theorem StoreIn.turnS (h : StoreIn R tb D W w sb mb T) {n : Int} {l l' : List Ent} (hn : T n = some l) (ht : TabAt 79 (R n) w' (tb n) l') (hk : Kept (R n) w w') : StoreIn R tb D W w' sb mb (setT T n l') := by
  have h1 := (h.turn hn (R' := R n) (fun b hb => Or.inl hb) ht hk).1
  have e : (fun j => if j = n then R n else R j) = R := funext fun j => by
    split
    · rename_i e; rw [e]
    · rfl
  rwa [e] at h1
set_option maxRecDepth 100000 in
set_option maxHeartbeats 8000000 in
theorem strim_any (h : StoreIn R tb D W w sb mb T) (hgs : ∀ n l, T n = some l → ∀ x ∈ l, x.g.length ≤ 1000000) (f : RS) (I : Inv f) (av iv : Value)
    (hc : SlAt 0 (fun i => .int .i64 (nth (circ f) i)) (circ f).length w av) (hi : SlAt 0 (fun i => .int .u64 (nth ((circ f).map (idR f)) i)) (circ f).length w iv) (hqa : ∀ b, av.ownBlock = some b → D b) (hqi : ∀ b, iv.ownBlock = some b → D b) :
    Calls Tryz.prog 30 #[.pointer (some ⟨sb, 0, none⟩), .agg #[av, iv]] w fun e w' => e = .returned (.tuple #[]) ∧ StoreW D W w' sb mb (trimT (fun g => keepK f (keyH (bs g))) T) ∧ Kept (fun b => ¬ D b) w w' := by
  have H := Lib.hid h
  have HC := Lib.hid hc
  have HI := Lib.hid hi
  have HQA := Lib.hid hqa
  have HQI := Lib.hid hqi
  have HIV := Lib.hid I
  have HGS := Lib.hid hgs
  have hWz := h.bel.size
  obtain ⟨aa, ac, rfl, _⟩ := hc.slice
  obtain ⟨ia, ic, rfl, _⟩ := hi.slice
  obtain ⟨K, hK⟩ : ∃ z, z = fun g => keepK f (keyH (bs g)) := ⟨_, rfl⟩
  have HK := Lib.hid hK
  rw [← hK]
  clear h hc hi hqa hqi I hgs hK
  go_enter Tryz.func30, Tryz.ntmps30
  go_upto_region 1 with (fail)
  obtain ⟨w1, hw1⟩ : ∃ z, z = w.alloc (.cells #[.slice aa (circ f).length ac, .slice ia (circ f).length ic] 38) := ⟨_, rfl⟩
  obtain ⟨Cb, hCb⟩ : ∃ z, z = w.heap.size := ⟨_, rfl⟩
  have b1 : Below w.heap.size w w1 := by rw [hw1]; exact bel_alloc (Below.refl _ _) _
  have y0 : w1.cell? ⟨Cb, 0, none⟩ = some (.slice aa (circ f).length ac) := by rw [hw1, hCb]; simp [go_sem]
  have y1 : w1.cell? ⟨Cb, 1, none⟩ = some (.slice ia (circ f).length ic) := by rw [hw1, hCb]; simp [go_sem]
  have yz : Cb < w1.heap.size := by rw [hw1, hCb]; simp
  have hCw : w.heap.size ≤ Cb := by omega
  have B1 := Lib.hid b1
  have S1 := Lib.hid (H.out.later b1)
  obtain ⟨D1, hD1⟩ : ∃ z : Nat → Prop, z = fun b => D b ∨ (w.heap.size ≤ b ∧ b < w1.heap.size) := ⟨_, rfl⟩
  rw [← hD1] at S1
  have HD1 : Hid ((∀ b, D b → D1 b) ∧ D1 Cb) := ⟨fun b hb => by rw [hD1]; exact Or.inl hb, by rw [hD1]; exact Or.inr ⟨hCw, yz⟩⟩
  try rw [← hw1]
  try rw [← hCb]
  clear hw1 hCb b1 hD1
  have c0 := S1.out.c0
  have sz := S1.out.sz
  have M1 := Lib.hid S1.out.map
  go_wp2_with (first
    | (at_range; refine wpList_range_x _ rfl _ 142 rfl 3 _ keyInt Tryz.underlying142 mb _ _ rfl M1.out Tryz.underlying3 ?_; intro w0 cnt0 hrg0 hg0 hs0)
    | go_in)
  go_frame
  have B0 : Hid (Below w1.heap.size w1 w0) := (Below.refl _ _).grown hg0 (Nat.le_refl _) (fun k hk => by cases hk)
  have RG0 := Lib.hid hrg0
  obtain ⟨r, hr⟩ : ∃ z, z = w1.heap.size := ⟨_, rfl⟩
  have hrz : r < w0.heap.size := by omega
  have S0 := Lib.hid (S1.out.later B0.out)
  obtain ⟨D0, hD0⟩ : ∃ z : Nat → Prop, z = fun b => D1 b ∨ (w1.heap.size ≤ b ∧ b < w0.heap.size) := ⟨_, rfl⟩
  rw [← hD0] at S0
  have HD0 : Hid ((∀ b, D b → D0 b ∧ b ≠ r) ∧ (D0 Cb ∧ Cb ≠ r) ∧ D0 r ∧ r ≠ sb ∧ W.heap.size ≤ r) := by
    refine ⟨fun b hb => ⟨by rw [hD0]; exact Or.inl (HD1.out.1 b hb), fun e => ?_⟩, ⟨by rw [hD0]; exact Or.inl HD1.out.2, by omega⟩, by rw [hD0]; exact Or.inr ⟨by omega, hrz⟩, by omega, by have := B1.out.size; omega⟩
    have h1 := (H.out.dm b hb).1
    have h2 := B1.out.size
    omega
  have y0 := (B0.out.cell (p := ⟨Cb, 0, none⟩) yz).trans y0
  have y1 := (B0.out.cell (p := ⟨Cb, 1, none⟩) yz).trans y1
  have yz0 := Nat.lt_of_lt_of_le yz B0.out.size
  have HC0 := Lib.hid ((HC.out.below B1.out).below B0.out)
  have HI0 := Lib.hid ((HI.out.below B1.out).below B0.out)
  obtain ⟨fm, hfm⟩ : ∃ z, z = tptM tb T := ⟨_, rfl⟩
  have HFM := Lib.hid hfm
  rw [← hfm] at RG0
  obtain ⟨cn, hcn⟩ : ∃ z, z = cntX fm := ⟨_, rfl⟩
  rw [← hcn] at RG0
  try rw [← hr]
  rw [← hr] at RG0
  clear hrg0 hg0 hs0 hr hD0 hfm hcn c0 sz M1 S1 HC HI
  go_loopw [] (fun wr => ∃ (left : Int → Bool) (cnt : Nat) (R' : Int → Nat → Prop), RangX Tryz.prog 3 wr mb r cn fm left cnt ∧ Hid (StoreIn R' tb D0 W wr sb mb (visT K T left)) ∧ Hid (Kept (fun b => b = r ∨ ¬ D0 b) w0 wr)) (fun wr => wr.rangeLeft mb r)
  case atStart =>
    refine ⟨_, _, R, RG0.out, ?_, Kept.refl _ _⟩
    show StoreIn _ _ _ _ _ _ _ _
    rw [visT_start K T (left := fun i => (fm i).isSome) fun i => by rw [HFM.out]; unfold tptM; cases T i <;> rfl]
    exact S0.out
  case round =>
    obtain ⟨left, cnt, R', hrg, hSt, hKp⟩ := hrel
    obtain ⟨wo, rfl⟩ : ∃ z, z = wr := ⟨wr, rfl⟩
    have hRG := Lib.hid hrg
    have hle := hrg.left_eq
    clear hrg
    go_wp2_with (first
      | (at_next; refine wpList_next_x _ rfl _ rfl 3 keyInt Tryz.underlying3 mb r _ _ _ _ rfl hRG.out ?_ ?_)
      | go_in)
    · intro _ hl0
      have hSE := hSt.out
      rw [visT_end K T hl0] at hSE
      have HSE := Lib.hid hSE
      clear hl0 hSE
      go_wp2_with fail
      go_end0
      exact ⟨rfl, ⟨_, _, HSE.out.less fun b hb => (HD0.out.1 b hb).1⟩, ((Kept.refl _ w).below B1.out).trans (((Kept.refl _ w1).below B0.out).trans (hKp.out.more fun b hb hd => by
        rcases hb with e | hb
        · exact (HD0.out.1 b hd).2 e
        · exact hb (HD0.out.1 b hd).1))⟩
    · intro i v w3 cnt1 hoi hli hfi hrg1 hlt hg1 hs1 hen
      have hTe : ∃ l, T i = some l ∧ v = .pointer (some ⟨tb i, 0, none⟩) := by
        rw [HFM.out] at hfi
        unfold tptM at hfi
        cases hT : T i with
        | none => rw [hT] at hfi; cases hfi
        | some l => rw [hT] at hfi; exact ⟨l, rfl, (Option.some.inj hfi).symm⟩
      obtain ⟨l, hTi, rfl⟩ := hTe
      have K3 : Hid (Kept (fun b => b = r) wo w3) := ⟨hg1.os, hg1.tape, hg1.output, hg1.size, fun b hb e => hg1.block b hb (fun h => e (by cases h; rfl))⟩
      have hS3 := (hSt.out.aside K3.out fun b e => by subst e; exact HD0.out.2.2).less fun b hb => Or.inl hb
      have S3 := Lib.hid hS3
      have HLI := Lib.hid hli
      have HTI := Lib.hid hTi
      have HLT := Lib.hid hlt
      have RG3 := Lib.hid hrg1
      obtain ⟨Tv, hTv⟩ : ∃ z, z = visT K T left := ⟨_, rfl⟩
      have HTV := Lib.hid hTv
      have hTvi : Tv i = some l := by rw [hTv, visT_at K T hli]; exact hTi
      rw [← hTv] at S3
      have HTvi := Lib.hid hTvi
      have h32 := hS3.dom
      have hrW : ∀ b, R' i b → b ≠ r ∧ b ≠ mb ∧ ¬ D0 b := fun b hb => by
        have := S3.out.own i l b hTvi hb
        exact ⟨fun e => this.2.2.2 (e ▸ HD0.out.2.2.1), this.2.2.1, this.2.2.2⟩
      have HRW := Lib.hid hrW
      have hK03 : Kept (fun b => b = r ∨ ¬ D0 b) w0 w3 := hKp.out.trans (K3.out.more fun b hb => Or.inl hb)
      have nCb : ¬ (Cb = r ∨ ¬ D0 Cb) := fun h => h.elim HD0.out.2.1.2 fun h => h HD0.out.2.1.1
      have y0 := (World.cell?_of_block (hK03.block Cb yz0 nCb)).trans y0
      have y1 := (World.cell?_of_block (hK03.block Cb yz0 nCb)).trans y1
      have yz3 := Nat.lt_of_lt_of_le yz0 hK03.size
      have nDq : ∀ b, D b → ¬ (b = r ∨ ¬ D0 b) := fun b hb h => h.elim (HD0.out.1 b hb).2 fun h => h (HD0.out.1 b hb).1
      have HC3 := Lib.hid (slAt_kept3 HC0.out hK03 fun b hb => nDq b (HQA.out b hb))
      have HI3 := Lib.hid (slAt_kept3 HI0.out hK03 fun b hb => nDq b (HQI.out b hb))
      have CG := Lib.hid (groups_at (S3.out.tab i l hTvi))
      have HGI := Lib.hid (HGS.out i l hTi)
      have HOL : Hid (OrdE l) := (S3.out.tab i l hTvi).ord
      have HOLD := Lib.hid ((S3.out.tab i l hTvi).old)
      clear hli hTi hlt hrg1 hTv hS3 hK03 nCb nDq hg1 hs1 hfi h32 hrW hTvi
      go_wp2_with fail
      refine CG.out.mono ?_
      rintro e w4 ⟨v4, rfl, hs4, hb4⟩
      obtain ⟨a4, c4, rfl, _⟩ := SlAt.slice hs4
      have S4 := Lib.hid (S3.out.keep hb4)
      have B4 := Lib.hid hb4
      have G4 := Lib.hid hs4
      have y0 := (hb4.cell (p := ⟨Cb, 0, none⟩) yz3).trans y0
      have y1 := (hb4.cell (p := ⟨Cb, 1, none⟩) yz3).trans y1
      have yz4 := Nat.lt_of_lt_of_le yz3 hb4.size
      have HC4 := Lib.hid (HC3.out.below hb4)
      have HI4 := Lib.hid (HI3.out.below hb4)
      obtain ⟨gl, hgl⟩ : ∃ z, z = groupsE l := ⟨_, rfl⟩
      have HGL := Lib.hid hgl
      rw [← hgl] at G4
      rw [← hgl]
      have hgll : gl.length ≤ 1000000 := by
        rw [hgl]
        have h1 := (S3.out.tab i l HTvi.out).few
        have h2 : (groupsE l).length ≤ l.length := groups_few l
        omega
      clear hgl hs4 hb4 CG S3 HC3 HI3
      go_wp2_with fail
      go_loopw [23] (fun j wr => ∃ k : Nat, k ≤ gl.length ∧ j = .int .i64 k ∧ Hid (StoreIn R' tb D0 W wr sb mb (setT Tv i (trimJ K i l (gl.take k)))) ∧ Hid (Kept (R' i) w4 wr)) (fun j _ => gl.length - (intOf j).toNat)
      case atStart =>
        refine ⟨0, Nat.zero_le _, rfl, ?_, Kept.refl _ _⟩
        show StoreIn _ _ _ _ _ _ _ _
        rw [List.take_zero, trimJ_nil, setT_self HTvi.out]
        exact S4.out
      case round =>
        obtain ⟨k, hk, rfl, hSk, hKk⟩ := hrel
        obtain ⟨wq, rfl⟩ : ∃ z, z = wr := ⟨wr, rfl⟩
        by_cases hlk : k < gl.length
        · have hkI : (k : Int) < (gl.length : Int) := by omega
          have hGq : SlAt w3.heap.size (fun i => sV (nthT gl i)) gl.length wq (.slice a4 gl.length c4) := slAt_kept4 (B := w3.heap.size) G4.out hKk.out fun b h1 h2 h3 => by have := HOLD.out b h3; omega
          obtain ⟨gb, go, rfl, _, hgz, hgc⟩ := hGq.at k hlk wq (Below.refl _ _)
          obtain ⟨g, hg⟩ : ∃ z, z = nthT gl k := ⟨_, rfl⟩
          have hgm : g ∈ groupsE l := by rw [hg, nthT_eq hlk, ← HGL.out]; exact List.getElem_mem hlk
          replace hgc : wq.cell? ⟨gb, go + k, none⟩ = some (.string (bs g)) := by rw [hg]; exact hgc
          have hgsz : (bs g).size ≤ 1000000 := by
            obtain ⟨x, hx, e⟩ := groups_mem HOL.out hgm
            rw [bs_size, ← e]
            exact HGI.out x hx
          have htk : gl.take (k + 1) = gl.take k ++ [g] := by rw [List.take_succ_eq_append_getElem hlk, hg, nthT_eq hlk]
          have HTK := Lib.hid htk
          have nCq : ¬ R' i Cb := fun h => (HRW.out Cb h).2.2 HD0.out.2.1.1
          have y0 := (World.cell?_of_block (hKk.out.block Cb yz4 nCq)).trans y0
          have y1 := (World.cell?_of_block (hKk.out.block Cb yz4 nCq)).trans y1
          have yzq := Nat.lt_of_lt_of_le yz4 hKk.out.size
          have nDq : ∀ b, D b → ¬ R' i b := fun b hb h => (HRW.out b h).2.2 (HD0.out.1 b hb).1
          have CK := Lib.hid (keep_any wq f HIV.out _ _ (slAt_kept3 HC4.out hKk.out fun b hb => nDq b (HQA.out b hb)) (slAt_kept3 HI4.out hKk.out fun b hb => nDq b (HQI.out b hb)) (bs g) hgsz)
          have hKg : keepK f (keyH (bs g)) = K g := by rw [HK.out]
          unfold KeepPost at CK
          rw [hKg] at CK
          obtain ⟨lk, hlkk⟩ : ∃ z, z = trimJ K i l (gl.take k) := ⟨_, rfl⟩
          have HLK := Lib.hid hlkk
          have HOK : Hid (OrdE lk) := show OrdE lk from by rw [hlkk]; exact trimJ_ord HOL.out K i _
          rw [← hlkk] at hSk
          have HK3 : Hid ((K g).length = 3) := show _ = _ by rw [← hKg]; rfl
          clear hg hgm hgsz htk hlkk nDq hKg hGq nCq
          go_wp2_with fail
          refine CK.out.mono ?_
          rintro e w5 ⟨v5, rfl, hs5, hb5⟩
          obtain ⟨a5, c5, rfl, _⟩ := hs5.slice
          have B5 := Lib.hid hb5
          have CC := Lib.hid (conti_any w5 (.slice a5 3 c5) (K g) (by rw [HK3.out]; exact hs5.base (Nat.zero_le _)) (by rw [HK3.out]; omega) i)
          clear hs5 hb5 CK
          go_wp2_with fail
          refine CC.out.mono ?_
          rintro e w6 ⟨rfl, hb6⟩
          have B6 := Lib.hid (bel_below B5.out hb6)
          have S6 := Lib.hid (hSk.out.keep B6.out)
          clear hb6 CC y0 y1
          cases hcg : (K g).contains i with
          | true =>
            have SE : Hid (StoreIn R' tb D0 W w6 sb mb (setT Tv i (trimJ K i l (gl.take (k + 1))))) := show StoreIn _ _ _ _ _ _ _ _ by rw [HTK.out, trimJ_keep hcg, ← HLK.out]; exact S6.out
            have KE : Hid (Kept (R' i) w4 w6) := hKk.out.below B6.out
            clear hcg
            go_wp2_with fail
            go_roundw
            case rel => go_light; exact ⟨k + 1, by omega, by go_num, SE.out, KE.out⟩
            case measure => go_light; simp [intOf]; omega
          | false =>
            have HCG := Lib.hid hcg
            have CD := Lib.hid (kids_at (S6.out.tab i lk (setT_same _ _ _)) g)
            clear hcg
            go_wp2_with fail
            refine CD.out.mono ?_
            rintro e w7 ⟨v7, rfl, hE7, hb7⟩
            obtain ⟨a7, c7, rfl, _⟩ := hE7.slice
            have hklz : (kidsE lk g).length ≤ 1000000 := by
              have h1 : (kidsE lk g).length ≤ lk.length := by unfold kidsE; rw [List.length_map]; exact List.length_filter_le _ _
              have h2 := (S6.out.tab i lk (setT_same _ _ _)).few
              omega
            have S7 := Lib.hid (S6.out.keep hb7)
            have E7 := Lib.hid hE7
            have K7 : Hid (Kept (R' i) w4 w7) := (hKk.out.below B6.out).below hb7
            have HOLD7 := Lib.hid (S6.out.tab i lk (setT_same _ _ _)).old
            obtain ⟨kl, hkl⟩ : ∃ z, z = kidsE lk g := ⟨_, rfl⟩
            have HKL := Lib.hid hkl
            rw [← hkl] at hklz E7 ⊢
            clear hE7 hb7 CD hkl S6
            go_wp2_with fail
            go_loopw [36] (fun j wr => ∃ m : Nat, m ≤ kl.length ∧ j = .int .i64 m ∧ Hid (StoreIn R' tb D0 W wr sb mb (setT Tv i (remK lk g ((kl.take m).map (·.c))))) ∧ Hid (Kept (R' i) w7 wr)) (fun j _ => kl.length - (intOf j).toNat)
            case atStart =>
              refine ⟨0, Nat.zero_le _, rfl, ?_, Kept.refl _ _⟩
              show StoreIn _ _ _ _ _ _ _ _
              rw [List.take_zero, List.map_nil, remK_nil]
              exact S7.out
            case round =>
              obtain ⟨m, hm, rfl, hSm, hKm⟩ := hrel
              by_cases hlm : m < kl.length
              · have hmI : (m : Int) < (kl.length : Int) := by omega
                have hEm : EntsIn (fun b => w6.heap.size ≤ b) kl wr (.slice a7 kl.length c7) := E7.out.imp (fun _ _ h => h) hKm.out.size fun b hb hq => hKm.out.block b hb fun h => by have := HOLD7.out b h; omega
                obtain ⟨b, off, fa, fc, rfl, _, hbz, d0, d1, d2, d3, d4, _⟩ := hEm.at m hlm
                have hh := remK_hit HOK.out (g := g) (j := m) (by rw [← HKL.out]; exact hlm)
                have hsu := remK_succ HOK.out (g := g) (j := m) (by rw [← HKL.out]; exact hlm)
                rw [← HKL.out] at hh hsu
                obtain ⟨E, hE⟩ : ∃ z, z = entAt kl m := ⟨_, rfl⟩
                rw [← hE] at d0 d1 d2 d3 d4 hh hsu
                obtain ⟨Lm, hLm⟩ : ∃ z, z = remK lk g ((kl.take m).map (·.c)) := ⟨_, rfl⟩
                rw [← hLm] at hh hsu hSm
                have HH := Lib.hid hh
                have HSU := Lib.hid hsu
                obtain ⟨w8, hw8⟩ : ∃ z, z = wr.alloc (.cells #[.string (bs E.g), .int .i64 E.c, .slice fa E.fs.length fc, .bool E.any, .int .i64 E.t] 79) := ⟨_, rfl⟩
                have b8 : Below wr.heap.size wr w8 := by rw [hw8]; exact bel_alloc (Below.refl _ _) _
                have S8 := Lib.hid (hSm.out.keep b8)
                have B8 := Lib.hid b8
                have CD := Lib.hid (drop_at (S8.out.tab i Lm (setT_same _ _ _)) g E.c)
                clear hE hLm hh hsu hSm hEm b8
                go_wp2_with fail
                rw [← hw8]
                clear hw8 d0 d1 d2 d3 d4
                refine CD.out.mono ?_
                rintro e w9 ⟨h1, hk9⟩
                rw [if_pos HH.out] at h1
                obtain ⟨rfl, hT9⟩ := h1
                have S9 : Hid (StoreIn R' tb D0 W w9 sb mb (setT Tv i (remK lk g ((kl.take (m + 1)).map (·.c))))) := show StoreIn _ _ _ _ _ _ _ _ by
                  have h2 := S8.out.turnS (setT_same _ _ _) hT9 hk9
                  rw [setT_setT, HSU.out] at h2
                  exact h2
                have K9 : Hid (Kept (R' i) w7 w9) := (hKm.out.below B8.out).trans hk9
                clear hT9 hk9 CD S8
                go_wp2_with fail
                go_roundw
                case rel => go_light; exact ⟨m + 1, by omega, by go_num, S9.out, K9.out⟩
                case measure => go_light; simp [intOf]; omega
              · obtain rfl : m = kl.length := by omega
                have hmI : ¬ (kl.length : Int) < (kl.length : Int) := by omega
                have SE : Hid (StoreIn R' tb D0 W wr sb mb (setT Tv i (trimJ K i l (gl.take (k + 1))))) := show StoreIn _ _ _ _ _ _ _ _ by
                  have h2 := hSm.out
                  rw [List.take_length, HKL.out, remK_all] at h2
                  rw [HTK.out, trimJ_drop HCG.out, ← HLK.out]
                  exact h2
                have KE : Hid (Kept (R' i) w4 wr) := K7.out.trans hKm.out
                go_wp2_with fail
                go_roundw
                case rel => go_light; exact ⟨k + 1, by omega, by go_num, SE.out, KE.out⟩
                case measure => go_light; simp [intOf]; omega
        · obtain rfl : k = gl.length := by omega
          have hkI : ¬ (gl.length : Int) < (gl.length : Int) := by omega
          have hSE := hSk.out
          rw [List.take_length, HGL.out, trimJ_all K i HOL.out, HTV.out, ← visT_step K T HLI.out HTI.out] at hSE
          have HSE := Lib.hid hSE
          have hK3q : Kept (fun b => b = r ∨ ¬ D0 b) w3 wq := ((Kept.refl _ w3).below B4.out).trans (hKk.out.more fun b hb => Or.inr (HRW.out b hb).2.2)
          have KQ : Hid (Kept (fun b => b = r ∨ ¬ D0 b) w0 wq) := hKp.out.trans ((K3.out.more fun b hb => Or.inl hb).trans hK3q)
          have RGQ : Hid (RangX Tryz.prog 3 wq mb r cn fm (fun j => left j && !(j == i)) cnt1) := by
            have h1 := RG3.out
            have hb34 := B4.out
            have hz := hb34.size
            have hm := h1.map.lt
            have hr' := h1.lt
            exact h1.block ((hKk.out.block mb (by omega) fun h => (HRW.out mb h).2.1 rfl).trans (hb34.block mb hm)) ((hKk.out.block r (by omega) fun h => (HRW.out r h).1 rfl).trans (hb34.block r hr'))
          clear hSE hK3q
          go_wp2_with fail
          go_roundw
          case rel => exact ⟨_, cnt1, R', RGQ.out, HSE.out, KQ.out⟩
          case measure => rw [RGQ.out.left_eq, hle]; exact HLT.out
end
end Go.Proofs.YtahiahjhpakeiaaGreatDoor
end
