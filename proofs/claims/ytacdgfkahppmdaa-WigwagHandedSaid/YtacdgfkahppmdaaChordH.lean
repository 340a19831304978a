/-
  The ring in memory: its root, its map, its members' blocks, the lists of who comes behind; what a later world, a write into one member, a new member leave of it. No program is named here.
-/
import Derived.Test.YtacdgfkahppmdaaLater
import Derived.Test.YtacdgfkahppmdaaMapP
import Derived.Test.YtacdgfkahppmdaaChordM
namespace Go.Proofs.Ytacdgfkahppmdaa
open Go.RowKit Go.Maps
set_option linter.unusedVariables false
set_option linter.unusedSimpArgs false

/-- Only blocks of S and new ones have turned. -/
structure Kept (S : Nat → Prop) (w w' : World) : Prop where
  os : w'.os = w.os
  tape : w'.tape = w.tape
  output : w'.output = w.output
  size : w.heap.size ≤ w'.heap.size
  block : ∀ b, b < w.heap.size → ¬ S b → w'.heap[b]? = w.heap[b]?
theorem Kept.refl (S : Nat → Prop) (w : World) : Kept S w w := ⟨rfl, rfl, rfl, Nat.le_refl _, fun _ _ _ => rfl⟩
theorem Kept.trans {S : Nat → Prop} {a b c : World} (h : Kept S a b) (k : Kept S b c) : Kept S a c :=
  ⟨k.os.trans h.os, k.tape.trans h.tape, k.output.trans h.output, Nat.le_trans h.size k.size, fun i hi hS => (k.block i (Nat.lt_of_lt_of_le hi h.size) hS).trans (h.block i hi hS)⟩
theorem Kept.below {S : Nat → Prop} {a b c : World} (h : Kept S a b) (k : Below b.heap.size b c) : Kept S a c :=
  h.trans ⟨k.os, k.tape, k.output, k.size, fun i hi _ => k.block i hi⟩
theorem Kept.drew {S : Nat → Prop} {a b : World} (h : Kept S a b) : Kept S a b.drew := ⟨h.os, h.tape, h.output, h.size, h.block⟩
theorem Kept.drewN {S : Nat → Prop} {a b : World} (h : Kept S a b) (n : Nat) : Kept S a (b.drewN n) := h.below (Joins.below_draws _ _ n)
theorem Kept.later {S : Nat → Prop} {a b : World} (h : Kept S a b) (x : Later b) : Kept S a x.world := h.below x.below
theorem Kept.alloc {S : Nat → Prop} {a b : World} (h : Kept S a b) (o : Obj) : Kept S a (b.alloc o) := h.below (bel_alloc (Below.refl _ _) o)
theorem Kept.set {S : Nat → Prop} {a b : World} (h : Kept S a b) {p : Addr} (hp : S p.block) (v : Value) : Kept S a (b.setCell p v) :=
  h.trans ⟨rfl, rfl, rfl, by simp [World.setCell], fun i hi hS => Below.heap_setCell _ _ _ _ (fun e => hS (e ▸ hp))⟩
theorem Kept.toBelow {S : Nat → Prop} {w w' : World} {B : Nat} (h : Kept S w w') (hB : B ≤ w.heap.size) (hS : ∀ b, b < B → ¬ S b) : Below B w w' :=
  ⟨h.os, h.tape, h.output, h.size, fun b hb => h.block b (by omega) (hS b hb)⟩

/-- A slice of whole numbers whose block is one of Q. -/
def SlIn (Q : Nat → Prop) (l : List Int) (w : World) (v : Value) : Prop :=
  ∃ (a : Option Addr) (cap : Nat), v = .slice a l.length cap ∧ l.length ≤ cap ∧ cap ≤ maxLen ∧ (a = none → cap = 0) ∧
    (l.length = 0 ∨ ∃ b off : Nat, a = some ⟨b, off, none⟩ ∧ Q b ∧ b < w.heap.size ∧ ∀ i, i < l.length → w.cell? ⟨b, off + i, none⟩ = some (.int .i64 (nth l i)))
theorem SlIn.slAt {Q : Nat → Prop} {l : List Int} {w : World} {v : Value} (h : SlIn Q l w v) : SlAt 0 (fun i => .int .i64 (nth l i)) l.length w v := by
  obtain ⟨a, cap, rfl, h1, h2, h3, h4⟩ := h
  refine ⟨a, cap, rfl, h1, h2, h3, h4.imp id ?_⟩
  rintro ⟨b, off, rfl, _, h5, h6⟩
  exact ⟨b, off, rfl, Nat.zero_le _, h5, h6⟩
theorem SlIn.of_slAt {B : Nat} {Q : Nat → Prop} {l : List Int} {w : World} {v : Value} (h : SlAt B (fun i => .int .i64 (nth l i)) l.length w v) (hQ : ∀ b, B ≤ b → Q b) : SlIn Q l w v := by
  obtain ⟨a, cap, rfl, h1, h2, h3, h4⟩ := h
  refine ⟨a, cap, rfl, h1, h2, h3, h4.imp id ?_⟩
  rintro ⟨b, off, rfl, h7, h5, h6⟩
  exact ⟨b, off, rfl, hQ b h7, h5, h6⟩
theorem SlIn.imp {Q Q' : Nat → Prop} {l : List Int} {w w' : World} {v : Value} (h : SlIn Q l w v) (hQ : ∀ b, b < w.heap.size → Q b → Q' b) (hs : w.heap.size ≤ w'.heap.size) (hb : ∀ b, b < w.heap.size → Q b → w'.heap[b]? = w.heap[b]?) : SlIn Q' l w' v := by
  obtain ⟨a, cap, rfl, h1, h2, h3, h4⟩ := h
  refine ⟨a, cap, rfl, h1, h2, h3, h4.imp id ?_⟩
  rintro ⟨b, off, rfl, h7, h5, h6⟩
  refine ⟨b, off, rfl, hQ b h5 h7, Nat.lt_of_lt_of_le h5 hs, fun i hi => ?_⟩
  rw [← h6 i hi]
  exact World.cell?_of_block (hb b h5 h7)

/-- How many addresses were used. -/
def cntM (f : RS) : Nat := ((List.range 32).map Int.ofNat).countP fun n => (f n).isSome
theorem cntM_le (f : RS) : cntM f ≤ 32 := Nat.le_trans List.countP_le_length (by simp)
theorem countP_eq_of {α : Type} {p q : α → Bool} : ∀ {l : List α}, (∀ x ∈ l, p x = q x) → l.countP p = l.countP q
  | [], _ => rfl
  | x :: l, h => by
    rw [List.countP_cons, List.countP_cons, h x (by simp), countP_eq_of fun y hy => h y (List.mem_cons_of_mem _ hy)]
theorem cntM_old {f : RS} {n : Int} {m : Mem} (h : (f n).isSome = true) : cntM (setM f n m) = cntM f := by
  unfold cntM
  refine countP_eq_of fun x _ => ?_
  rw [isSome_set]
  split
  · rename_i e; rw [e, h]
  · rfl
theorem countP_one {p q : Int → Bool} {n : Int} (hp : p n = true) (hq : q n = false) (h : ∀ x, x ≠ n → p x = q x) : ∀ {l : List Int}, l.Nodup → n ∈ l → l.countP p = l.countP q + 1
  | [], _, hn => by simp at hn
  | x :: l, hd, hn => by
    have hd' := List.nodup_cons.1 hd
    rw [List.countP_cons, List.countP_cons]
    by_cases e : x = n
    · subst e
      rw [hp, hq, countP_eq_of fun y hy => h y fun e2 => hd'.1 (e2 ▸ hy)]
      simp
    · have hn' : n ∈ l := by
        rcases List.mem_cons.1 hn with e2 | e2
        · exact absurd e2.symm e
        · exact e2
      rw [countP_one hp hq h hd'.2 hn', h x e]
      omega
theorem cntM_new {f : RS} {n : Int} {m : Mem} (h : f n = none) (h0 : 0 ≤ n) (h1 : n < 32) : cntM (setM f n m) = cntM f + 1 := by
  unfold cntM
  refine countP_one (n := n) (by simp [setM]) (by simp [h]) (fun x hx => by rw [isSome_set, if_neg hx]) ?_ ?_
  · decide
  · exact List.mem_map.2 ⟨n.toNat, List.mem_range.2 (by omega), by simp; omega⟩

/-- Where a member's block is. -/
def ptrM (f : RS) (g : Int → Nat) (n : Int) : Option Nat := if (f n).isSome then some (g n) else none

/-- The ring in memory. -/
structure RingIs (P : Program) (k : TypeId) (S : Nat → Prop) (w : World) (rb mb : Nat) (g : Int → Nat) (f : RS) : Prop where
  dom : Dom f
  up : ∀ b, w.heap.size ≤ b → S b
  rbS : S rb
  mbS : S mb
  ne : rb ≠ mb
  rbz : rb < w.heap.size
  root : w.cell? ⟨rb, 0, none⟩ = some (.map (some mb))
  map : MapAt P k w mb (cntM f) (ptrM f g)
  memS : ∀ n m, f n = some m → S (g n) ∧ g n < w.heap.size ∧ g n ≠ rb ∧ g n ≠ mb ∧ ∀ o, w.frozen? ⟨g n, o, none⟩ = false
  mem : ∀ n m, f n = some m → w.cell? ⟨g n, 0, none⟩ = some (.bool m.live) ∧ w.cell? ⟨g n, 1, none⟩ = some (.int .u64 m.id) ∧ w.cell? ⟨g n, 2, none⟩ = some (.int .i64 m.pred) ∧
    ∃ v, w.cell? ⟨g n, 3, none⟩ = some v ∧ SlIn (fun b => S b ∧ b ≠ rb ∧ b ≠ mb ∧ ∀ j m, f j = some m → b ≠ g j) m.succ w v
  inj : ∀ i j m m', f i = some m → f j = some m' → g i = g j → i = j

section
variable {P : Program} {k : TypeId} {S : Nat → Prop} {w w' : World} {rb mb : Nat} {g : Int → Nat} {f : RS}

theorem RingIs.mbz (h : RingIs P k S w rb mb g f) : mb < w.heap.size := h.map.lt
theorem RingIs.same (h : RingIs P k S w rb mb g f) {S' : Nat → Prop} (hs : w.heap.size ≤ w'.heap.size) (hb : ∀ b, b < w.heap.size → S b → w'.heap[b]? = w.heap[b]?)
    (hS : ∀ b, b < w.heap.size → S b → S' b) (hu : ∀ b, w'.heap.size ≤ b → S' b) : RingIs P k S' w' rb mb g f where
  dom := h.dom
  up := hu
  rbS := hS _ h.rbz h.rbS
  mbS := hS _ h.mbz h.mbS
  ne := h.ne
  rbz := Nat.lt_of_lt_of_le h.rbz hs
  root := (World.cell?_of_block (hb _ h.rbz h.rbS)).trans h.root
  map := h.map.block (hb _ h.mbz h.mbS)
  memS := fun n m e => by
    obtain ⟨h1, h2, h3, h4, h5⟩ := h.memS n m e
    exact ⟨hS _ h2 h1, Nat.lt_of_lt_of_le h2 hs, h3, h4, fun o => (World.frozen?_of_block (hb _ h2 h1)).trans (h5 o)⟩
  mem := fun n m e => by
    obtain ⟨h1, h2, _⟩ := h.memS n m e
    obtain ⟨c0, c1, c2, v, c3, hv⟩ := h.mem n m e
    refine ⟨(World.cell?_of_block (hb _ h2 h1)).trans c0, (World.cell?_of_block (hb _ h2 h1)).trans c1, (World.cell?_of_block (hb _ h2 h1)).trans c2, v, (World.cell?_of_block (hb _ h2 h1)).trans c3, hv.imp (fun b hb' hq => ?_) hs (fun b hb' hq => hb b hb' hq.1)⟩
    exact ⟨hS b hb' hq.1, hq.2⟩
  inj := h.inj
theorem RingIs.below (h : RingIs P k S w rb mb g f) (hb : Below w.heap.size w w') : RingIs P k S w' rb mb g f :=
  h.same hb.size (fun b hb' _ => hb.block b hb') (fun _ _ h => h) fun b hb' => h.up b (Nat.le_trans hb.size hb')
/-- A ring of whose blocks none is among those that turned. -/
theorem RingIs.aside {T : Nat → Prop} (h : RingIs P k S w rb mb g f) (hk : Kept T w w') (hT : ∀ b, b < w.heap.size → S b → ¬ T b) : RingIs P k (fun b => (S b ∧ b < w.heap.size) ∨ w'.heap.size ≤ b) w' rb mb g f :=
  h.same hk.size (fun b hb' hS => hk.block b hb' (hT b hb' hS)) (fun b hb' hS => Or.inl ⟨hS, hb'⟩) fun b hb' => Or.inr hb'
/-- One member's block was written into. -/
theorem RingIs.write (h : RingIs P k S w rb mb g f) {n : Int} {m m' : Mem} (hn : f n = some m) (hs : w'.heap.size = w.heap.size) (hb : ∀ b, b ≠ g n → w'.heap[b]? = w.heap[b]?) (hfz : ∀ o, w'.frozen? ⟨g n, o, none⟩ = false)
    (hd : Dom (setM f n m')) {v : Value} (c0 : w'.cell? ⟨g n, 0, none⟩ = some (.bool m'.live)) (c1 : w'.cell? ⟨g n, 1, none⟩ = some (.int .u64 m'.id)) (c2 : w'.cell? ⟨g n, 2, none⟩ = some (.int .i64 m'.pred)) (c3 : w'.cell? ⟨g n, 3, none⟩ = some v)
    (hv : SlIn (fun b => S b ∧ b ≠ rb ∧ b ≠ mb ∧ ∀ j m, f j = some m → b ≠ g j) m'.succ w v) : RingIs P k S w' rb mb g (setM f n m') := by
  obtain ⟨s1, s2, s3, s4, s5⟩ := h.memS n m hn
  have hiff : ∀ j mj, setM f n m' j = some mj → ∃ mj', f j = some mj' := fun j mj e => by
    by_cases ej : j = n
    · subst ej; exact ⟨m, hn⟩
    · rw [setM_ne f m' ej] at e; exact ⟨mj, e⟩
  have hptr : ptrM (setM f n m') g = ptrM f g := funext fun j => by
    unfold ptrM
    rw [isSome_set]
    split
    · rename_i e; rw [e, hn]; simp
    · rfl
  have hq : ∀ (l : List Int) (v : Value), SlIn (fun b => S b ∧ b ≠ rb ∧ b ≠ mb ∧ ∀ j m, f j = some m → b ≠ g j) l w v → SlIn (fun b => S b ∧ b ≠ rb ∧ b ≠ mb ∧ ∀ j m, setM f n m' j = some m → b ≠ g j) l w' v := fun l v hv =>
    hv.imp (fun b _ hq => ⟨hq.1, hq.2.1, hq.2.2.1, fun j mj e => by obtain ⟨mj', e'⟩ := hiff j mj e; exact hq.2.2.2 j mj' e'⟩) (by omega) (fun b _ hq => hb b (hq.2.2.2 n m hn))
  exact {
    dom := hd
    up := fun b hb' => h.up b (by omega)
    rbS := h.rbS
    mbS := h.mbS
    ne := h.ne
    rbz := by have := h.rbz; omega
    root := (World.cell?_of_block (hb _ s3.symm)).trans h.root
    map := by rw [cntM_old (by rw [hn]; rfl), hptr]; exact h.map.block (hb _ s4.symm)
    memS := fun j mj e => by
      obtain ⟨mj', e'⟩ := hiff j mj e
      obtain ⟨h1, h2, h3, h4, h5⟩ := h.memS j mj' e'
      refine ⟨h1, by omega, h3, h4, fun o => ?_⟩
      by_cases ej : g j = g n
      · rw [ej]; exact hfz o
      · exact (World.frozen?_of_block (hb _ ej)).trans (h5 o)
    mem := fun j mj e => by
      by_cases ej : j = n
      · subst ej
        rw [setM_same] at e
        cases e
        exact ⟨c0, c1, c2, v, c3, hq _ _ hv⟩
      · rw [setM_ne f m' ej] at e
        obtain ⟨d0, d1, d2, u, d3, hu⟩ := h.mem j mj e
        have hne : g j ≠ g n := fun e2 => ej (h.inj j n mj m e hn e2)
        exact ⟨(World.cell?_of_block (hb _ hne)).trans d0, (World.cell?_of_block (hb _ hne)).trans d1, (World.cell?_of_block (hb _ hne)).trans d2, u, (World.cell?_of_block (hb _ hne)).trans d3, hq _ _ hu⟩
    inj := fun i j mi mj ei ej e => by
      obtain ⟨mi', ei'⟩ := hiff i mi ei
      obtain ⟨mj', ej'⟩ := hiff j mj ej
      exact h.inj i j mi' mj' ei' ej' e }
/-- A member more. -/
theorem RingIs.add (h : RingIs P k S w rb mb g f) {n : Int} {m : Mem} {b : Nat} (hn : f n = none) (hs : w.heap.size ≤ w'.heap.size) (hbn : w.heap.size ≤ b) (hbw : b < w'.heap.size) (hb : ∀ c, c < w.heap.size → c ≠ mb → w'.heap[c]? = w.heap[c]?)
    (hd : Dom (setM f n m)) (hfz : ∀ o, w'.frozen? ⟨b, o, none⟩ = false) (hmap : MapAt P k w' mb (cntM f + 1) (setF (ptrM f g) n b))
    {v : Value} (c0 : w'.cell? ⟨b, 0, none⟩ = some (.bool m.live)) (c1 : w'.cell? ⟨b, 1, none⟩ = some (.int .u64 m.id)) (c2 : w'.cell? ⟨b, 2, none⟩ = some (.int .i64 m.pred)) (c3 : w'.cell? ⟨b, 3, none⟩ = some v)
    (hv : SlIn (fun c => S c ∧ c ≠ rb ∧ c ≠ mb ∧ c ≠ b ∧ ∀ j m, f j = some m → c ≠ g j) m.succ w' v) : RingIs P k S w' rb mb (fun j => if j = n then b else g j) (setM f n m) := by
  have h01 := hd n m (setM_same f n m)
  have hold : ∀ j mj, f j = some mj → j ≠ n := fun j mj e e2 => by rw [e2, hn] at e; cases e
  have hq : ∀ c, (∀ j m, f j = some m → c ≠ g j) → c ≠ b → ∀ j mj, setM f n m j = some mj → c ≠ (if j = n then b else g j) := fun c h1 h2 j mj e => by
    split
    · exact h2
    · rename_i ej; rw [setM_ne f m ej] at e; exact h1 j mj e
  exact {
    dom := hd
    up := fun c hc => h.up c (by omega)
    rbS := h.rbS
    mbS := h.mbS
    ne := h.ne
    rbz := by have := h.rbz; omega
    root := (World.cell?_of_block (hb _ h.rbz h.ne)).trans h.root
    map := by
      rw [cntM_new hn h01.1 h01.2.1]
      have : ptrM (setM f n m) (fun j => if j = n then b else g j) = setF (ptrM f g) n b := funext fun j => by
        unfold ptrM setF
        simp only [isSome_set]
        by_cases ej : j = n
        · simp [ej]
        · simp [ej]
      rw [this]; exact hmap
    memS := fun j mj e => by
      by_cases ej : j = n
      · rw [if_pos ej]
        exact ⟨h.up b hbn, hbw, by have := h.rbz; omega, by have := h.mbz; omega, hfz⟩
      · rw [if_neg ej]
        rw [setM_ne f m ej] at e
        obtain ⟨h1, h2, h3, h4, h5⟩ := h.memS j mj e
        exact ⟨h1, by omega, h3, h4, fun o => (World.frozen?_of_block (hb _ h2 h4)).trans (h5 o)⟩
    mem := fun j mj e => by
      by_cases ej : j = n
      · subst ej
        rw [setM_same] at e
        cases e
        simp only [if_true]
        refine ⟨c0, c1, c2, v, c3, hv.imp (fun c _ hc => ⟨hc.1, hc.2.1, hc.2.2.1, hq c hc.2.2.2.2 hc.2.2.2.1⟩) (Nat.le_refl _) (fun _ _ _ => rfl)⟩
      · rw [setM_ne f m ej] at e
        simp only [if_neg ej]
        obtain ⟨_, h2, _, h4, _⟩ := h.memS j mj e
        obtain ⟨d0, d1, d2, u, d3, hu⟩ := h.mem j mj e
        have hbj := hb _ h2 h4
        exact ⟨(World.cell?_of_block hbj).trans d0, (World.cell?_of_block hbj).trans d1, (World.cell?_of_block hbj).trans d2, u, (World.cell?_of_block hbj).trans d3,
          hu.imp (fun c hc hcq => ⟨hcq.1, hcq.2.1, hcq.2.2.1, hq c hcq.2.2.2 (by omega)⟩) hs (fun c hc hcq => hb c hc hcq.2.2.1)⟩
    inj := fun i j mi mj ei ej e => by
      by_cases e1 : i = n
      · by_cases e2 : j = n
        · rw [e1, e2]
        · rw [setM_ne f m e2] at ej
          have := h.memS j mj ej
          simp only [if_pos e1, if_neg e2] at e
          omega
      · rw [setM_ne f m e1] at ei
        have := h.memS i mi ei
        by_cases e2 : j = n
        · simp only [if_neg e1, if_pos e2] at e
          omega
        · rw [setM_ne f m e2] at ej
          simp only [if_neg e1, if_neg e2] at e
          exact h.inj i j mi mj ei ej e }
/-- 'r.m[n]'. -/
theorem RingIs.look (h : RingIs P k S w rb mb g f) {t e : TypeId} (K : Keyed P k) (hk : P.underlying k = some (.int .i64)) (ht : P.underlying t = some (.map k e))
    (hz : (zeroValue e).run P w = .ok (.pointer none) w) (i : Int) (hi : okInt i) : (Instr.lookup t (.map (some mb)) (.int .i64 i) false).run P w = .ok (ptrV (ptrM f g i)) w := h.map.look K hk ht hz i hi
end
end Go.Proofs.Ytacdgfkahppmdaa
