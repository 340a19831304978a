/-
  A region that draws its order: operations that leave the very world, and yield one value in every world of a class, may be taken first, whatever the others do, as long as these keep the class. No program is named here.
-/
import Derived.Test.YtacdgfkahppmdaaCalmTail
namespace Go.Proofs.Ytacdgfkahppmdaa
open Go
set_option linter.unusedVariables false
set_option linter.unusedSimpArgs false

section
variable {P : Program} {ops : Array Oper} {md : Region.Mode} {C : World → Prop} {Q' : Exit → Act → World → Prop}

/-- Whatever order is picked, every operation ahead of number n leaves a world of the class. -/
def wpAnyC (P : Program) (md : Region.Mode) (ops : Array Oper) (C : World → Prop) (n : Nat) (Q' : Exit → Act → World → Prop) : Nat → Array Bool → Act → World → Prop
  | 0, listed, a, w => Region.ready md ops listed = [] ∧ Q' .normal a w
  | f + 1, listed, a, w =>
    (Region.ready md ops listed = [] → Q' .normal a w) ∧
    ∀ i ∈ Region.ready md ops listed, wpOp P ops Q' i (fun a' w' => (i < n → C w') ∧ wpAnyC P md ops C n Q' f (listed.setIfInBounds i true) a' w') a w
theorem wpAny_of_C {n : Nat} : ∀ (f : Nat) (listed : Array Bool) (a : Act) (w : World), wpAnyC P md ops C n Q' f listed a w → wpAny P md ops Q' f listed a w
  | 0, _, _, _, h => h
  | f + 1, listed, a, w, h => ⟨h.1, fun i hi => wpOp_mono (fun a' w' h' => wpAny_of_C f _ a' w' h'.2) (h.2 i hi)⟩

/-- In every world of the class operation 'o' leaves the world as it was and 'v' in its temporary. -/
def StillIn (P : Program) (ops : Array Oper) (C : World → Prop) (o : Oper) (v : Value) (a : Act) : Prop :=
  (Region.wanted o (yielded ops a.tmps) = true ∧ ∀ w, C w → (execOp a.eval o).run P w = .ok (.value v) w ∨ ((execOp a.eval o).run P w = .ok .skip w ∧ v = undef)) ∨
  (Region.wanted o (yielded ops a.tmps) = false ∧ v = undef)
theorem StillIn.wpOp {i : Nat} {o : Oper} {v : Value} {a : Act} {w : World} (hi : ops[i]? = some o) (hC : C w) (hy : StillIn P ops C o v a) {K : Act → World → Prop} (h : K (a.put o.dst v) w) : wpOp P ops Q' i K a w := by
  unfold Go.wpOp
  simp only [hi]
  rcases hy with ⟨hw, hv⟩ | ⟨hw, rfl⟩
  · simp only [hw, if_true]
    left
    unfold Oper.wp
    rcases hv w hC with h1 | ⟨h1, rfl⟩
    · rw [h1]; exact h
    · rw [h1]; exact h
  · simp only [hw, Bool.false_eq_true, if_false]; exact h
theorem StillIn.of_same {o : Oper} {v : Value} {a a' : Act} (hy : StillIn P ops C o v a) (he : execOp a'.eval o = execOp a.eval o)
    (hw : Region.wanted o (yielded ops a'.tmps) = Region.wanted o (yielded ops a.tmps)) : StillIn P ops C o v a' := by
  unfold StillIn at *
  rw [he, hw]
  exact hy
theorem wpOp_put_still {j : Nat} {oi oj : Oper} {v : Value} (hj : ops[j]? = some oj) (hap : oi.apart ops oj = true)
    (hsi : ∀ cs b, oi.op ≠ .select cs b) (hsj : ∀ cs b, oj.op ≠ .select cs b)
    (hQ : ∀ c a w, Q' (.panic c) (a.put oi.dst v) w → Q' (.panic c) a w) {K : Act → World → Prop} {a : Act} {w : World}
    (hy : StillIn P ops C oi v a) (h : wpOp P ops Q' j K (a.put oi.dst v) w) :
    wpOp P ops Q' j (fun a' w' => StillIn P ops C oi v a' ∧ K (a'.put oi.dst v) w') a w := by
  obtain ⟨h1, h2, h3⟩ := Oper.apart_spec hap
  have keep : ∀ (a : Act), StillIn P ops C oi v a → ∀ u, StillIn P ops C oi v (a.put oj.dst u) := fun a hy u =>
    hy.of_same (execOp_put oi hsi a oj.dst u h3) (wanted_put oi a oj.dst u h3)
  have keepD : ∀ d, StillIn P ops C oi v { a with defers := d :: a.defers } := fun d => hy.of_same rfl rfl
  unfold wpOp at *
  simp only [hj] at *
  rw [wanted_put oj a oi.dst v h1] at h
  split
  · rename_i hw
    simp only [hw, if_true] at h
    rcases h with h | ⟨hasks, hlets⟩
    case inr => exact .inr ⟨by unfold Oper.asks at *; rw [execOp_put oj hsj a oi.dst v h1] at hasks; exact hasks, hlets⟩
    refine .inl ?_
    unfold Oper.wp at *
    rw [execOp_put oj hsj a oi.dst v h1] at h
    generalize (execOp a.eval oj).run P w = r at *
    cases r with
    | ok n w' =>
      cases n <;> simp only [Oper.upon] at h ⊢
      case value u => exact ⟨keep a hy u, by rw [← Act.put_comm a v u h2]; exact h⟩
      case skip => exact ⟨keep a hy _, by rw [← Act.put_comm a v undef h2]; exact h⟩
      case defer d =>
        refine ⟨keep _ (keepD d) _, ?_⟩
        rw [← Act.put_comm _ v undef h2, ← Act.put_defers]
        exact h
      case enter f args =>
        refine Calls.mono h fun e w'' he => ?_
        cases e with
        | returned u => exact ⟨keep a hy u, by rw [← Act.put_comm a v u h2]; exact he⟩
        | panicked c => exact hQ _ _ _ he
        | outgrown => exact he
      case row row args => exact Rows.mono h fun u w'' he => ⟨keep a hy u, by rw [← Act.put_comm a v u h2]; exact he⟩
    | halt x w' =>
      cases x <;> simp only [Oper.upon] at h ⊢
      case panic u => exact hQ _ _ _ h
  · rename_i hw
    simp only [hw] at h
    exact ⟨keep a hy _, by rw [← Act.put_comm a v undef h2]; exact h⟩

/-- An operation that leaves the very world may be taken first, while no operation from number n on is ready. -/
theorem wpAnyC_first {n i : Nat} {oi : Oper} {v : Value} (hi : ops[i]? = some oi) (hsel : ∀ (j : Nat) (o : Oper) cs b, ops[j]? = some o → o.op ≠ .select cs b)
    (hs : Region.sinkB md ops n = true) (hc : Region.chainB md ops n = true) (hn : n < ops.size) (hin : i < n) (hQ : ∀ c a w, Q' (.panic c) (a.put oi.dst v) w → Q' (.panic c) a w) :
    ∀ (f : Nat) (listed : Array Bool) (a : Act) (w : World), HeadInv md ops n listed → C w →
      (∀ j oj, ops[j]? = some oj → j ≠ i → listed.getD j true = false → (∀ e ∈ oj.after, Region.binds md e = true → e.on ≠ i) → oi.apart ops oj = true) →
      i ∈ Region.ready md ops listed → StillIn P ops C oi v a →
      wpAnyC P md ops C n Q' f (listed.setIfInBounds i true) (a.put oi.dst v) w → wpAnyC P md ops C n Q' (f + 1) listed a w := by
  intro f
  induction f with
  | zero =>
    intro listed a w inv hC _ hr hy H
    have hun := (mem_ready.1 hr).1
    refine ⟨fun h => (by rw [h] at hr; cases hr), fun j hj => ?_⟩
    by_cases hji : j = i
    · subst hji; exact hy.wpOp hi hC ⟨fun _ => hC, H⟩
    · have := ready_mono hj hji
      rw [H.1] at this
      cases this
  | succ f ih =>
    intro listed a w inv hC hfree hr hy H
    have hun := (mem_ready.1 hr).1
    refine ⟨fun h => (by rw [h] at hr; cases hr), fun j hj => ?_⟩
    have hjn : j < n := by
      rcases Nat.lt_or_ge j n with h | h
      · exact h
      · exact absurd hj (tail_waits hs hc hn inv _ i rfl hin hun j h)
    by_cases hji : j = i
    · subst hji; exact hy.wpOp hi hC ⟨fun _ => hC, H⟩
    · have h1 := H.2 j (ready_mono hj hji)
      obtain ⟨hjun, oj, hoj, hall⟩ := mem_ready.1 hj
      have hnot : ∀ e ∈ oj.after, Region.binds md e = true → e.on ≠ i := fun e he hb heq => by
        have h1 := hall e he hb
        rw [heq, getD_both hun] at h1
        cases h1
      have h2 := wpOp_put_still hoj (hfree j oj hoj hji hjun hnot) (fun cs b => hsel i oi cs b hi) (fun cs b => hsel j oj cs b hoj) hQ hy h1
      have hfree' : ∀ k ok, ops[k]? = some ok → k ≠ i → (listed.setIfInBounds j true).getD k true = false →
          (∀ e ∈ ok.after, Region.binds md e = true → e.on ≠ i) → oi.apart ops ok = true := fun k ok hk hki hun hno => by
        refine hfree k ok hk hki ?_ hno
        by_cases hjk : j = k
        · subst hjk; exact hjun
        · rw [getD_set_ne true hjk] at hun; exact hun
      refine wpOp_mono (fun a' w' h3 => ⟨h3.2.1, ih (listed.setIfInBounds j true) a' w' (inv.set hj hjn) (h3.2.1 hjn) hfree' (ready_mono hr (Ne.symm hji)) h3.1 ?_⟩) h2
      rw [Array.setIfInBounds_comm _ _ hji]
      exact h3.2.2

/-- One operation, walked as a list of one. -/
theorem wpOp_of_one {k : Nat} {o : Oper} (hk : ops[k]? = some o) {R : Act → World → Prop} {a : Act} {w : World} (h : wpList P ops (fun x a w => x = .normal ∧ R a w) [o] a w) : wpOp P ops Q' k R a w := by
  unfold wpOp
  simp only [hk]
  unfold wpList at h
  split
  · rename_i hw
    simp only [hw, if_true] at h
    rcases h with h | ⟨_, a', w', h, _⟩
    · left
      unfold Oper.wp at *
      generalize (execOp a.eval o).run P w = r at *
      cases r with
      | ok n w' =>
        cases n <;> simp only [Oper.upon] at h ⊢
        case value u => exact h.2
        case skip => exact h.2
        case defer d => exact h.2
        case enter f args =>
          refine Calls.mono h fun e w'' he => ?_
          cases e with
          | returned u => exact he.2
          | panicked c => exact absurd he.1 (by simp)
          | outgrown => obtain ⟨_, _, he, _⟩ := he; exact absurd he (by simp)
        case row row args => exact Rows.mono h fun u w'' he => he.2
      | halt x w' =>
        cases x <;> simp only [Oper.upon] at h ⊢
        case panic u => exact absurd h.1 (by simp)
    · exact absurd h (by simp)
  · rename_i hw
    simp only [hw] at h
    exact h.2
/-- The last operations, in their one order; each ahead of number n leaves a world of the class. -/
def wpSeqC (P : Program) (ops : Array Oper) (C : World → Prop) (n : Nat) (Q' : Exit → Act → World → Prop) : List Oper → Nat → Act → World → Prop
  | [], _, a, w => Q' .normal a w
  | o :: l, k, a, w => if k < n then wpList P ops (fun x a' w' => x = .normal ∧ C w' ∧ wpSeqC P ops C n Q' l (k + 1) a' w') [o] a w else wpList P ops Q' (o :: l) a w
/-- One step of them, what follows behind a variable. -/
theorem wpSeqC_step {n k : Nat} {o : Oper} {l : List Oper} {a : Act} {w : World} (hk : k < n)
    (h : ∀ R : Act → World → Prop, (∀ a' w', C w' → wpSeqC P ops C n Q' l (k + 1) a' w' → R a' w') → wpList P ops (fun x a' w' => x = .normal ∧ R a' w') [o] a w) : wpSeqC P ops C n Q' (o :: l) k a w := by
  unfold wpSeqC
  rw [if_pos hk]
  exact h _ fun a' w' h1 h2 => ⟨h1, h2⟩
theorem wpSeqC_list {n k : Nat} {o : Oper} {l : List Oper} {a : Act} {w : World} (hk : ¬ k < n) (h : wpList P ops Q' (o :: l) a w) : wpSeqC P ops C n Q' (o :: l) k a w := by
  unfold wpSeqC
  rw [if_neg hk]
  exact h
theorem wpAnyC_of_list {n : Nat} : ∀ (l : List Oper) (k : Nat) (listed : Array Bool) (a : Act) (w : World), n ≤ k → (∀ j, l[j]? = ops[k + j]?) →
    Region.seqB md ops l.length k listed = true → wpList P ops Q' l a w → wpAnyC P md ops C n Q' l.length listed a w
  | [], _, _, _, _, _, _, hB, h => ⟨by simpa [Region.seqB] using hB, h⟩
  | o :: l, k, listed, a, w, hn, hl, hB, h => by
    have h0 : ops[k]? = some o := by simpa using (hl 0).symm
    simp only [List.length_cons, Region.seqB, Bool.and_eq_true, decide_eq_true_eq] at hB
    refine ⟨fun h1 => (by rw [hB.1] at h1; cases h1), fun i hi => ?_⟩
    rw [hB.1] at hi
    have hik : i = k := by simpa using hi
    subst hik
    have hw : wpOp P ops Q' i (wpList P ops Q' l) a w := by unfold wpOp; simp only [h0]; exact h
    exact wpOp_mono (fun a' w' h' => ⟨fun hlt => absurd hlt (by omega), wpAnyC_of_list l (i + 1) _ a' w' (by omega) (fun j => by have := hl (j + 1); simpa [Nat.add_assoc, Nat.add_comm 1 j] using this) hB.2 h'⟩) hw
theorem wpAnyC_of_seq {n : Nat} : ∀ (l : List Oper) (k : Nat) (listed : Array Bool) (a : Act) (w : World), (∀ j, l[j]? = ops[k + j]?) →
    Region.seqB md ops l.length k listed = true → wpSeqC P ops C n Q' l k a w → wpAnyC P md ops C n Q' l.length listed a w
  | [], _, _, _, _, _, hB, h => ⟨by simpa [Region.seqB] using hB, h⟩
  | o :: l, k, listed, a, w, hl, hB, h => by
    by_cases hkn : k < n
    · have h0 : ops[k]? = some o := by simpa using (hl 0).symm
      simp only [List.length_cons, Region.seqB, Bool.and_eq_true, decide_eq_true_eq] at hB
      unfold wpSeqC at h
      rw [if_pos hkn] at h
      refine ⟨fun h1 => (by rw [hB.1] at h1; cases h1), fun i hi => ?_⟩
      rw [hB.1] at hi
      have hik : i = k := by simpa using hi
      subst hik
      exact wpOp_mono (fun a' w' h' => ⟨fun _ => h'.1, wpAnyC_of_seq l (i + 1) _ a' w' (fun j => by have := hl (j + 1); simpa [Nat.add_assoc, Nat.add_comm 1 j] using this) hB.2 h'.2⟩) (wpOp_of_one h0 h)
    · unfold wpSeqC at h
      rw [if_neg hkn] at h
      exact wpAnyC_of_list (o :: l) k listed a w (by omega) hl hB h

/-- What is asked of an operation that leaves the very world: one value. -/
def tameUpon (w : World) (v : Value) : Result Next → Prop
  | .ok (.value u) w' => w' = w ∧ u = v
  | .ok .skip w' => w' = w ∧ v = undef
  | _ => False
def tameAt (P : Program) (o : Oper) (a : Act) (w : World) (v : Value) : Prop := tameUpon w v ((execOp a.eval o).run P w)
def tame (P : Program) (o : Oper) (a : Act) (C : World → Prop) (next : Act → Prop) : Prop := ∃ v, (∀ w, C w → tameAt P o a w v) ∧ next (a.put o.dst v)
def wpTame (P : Program) (ops : Array Oper) (C : World → Prop) (Q : Act → Prop) : List Oper → Act → Prop
  | [], a => Q a
  | o :: rest, a => if Region.wanted o (yielded ops a.tmps) then tame P o a C (wpTame P ops C Q rest) else wpTame P ops C Q rest (a.put o.dst undef)
theorem wpTame_nil {Q : Act → Prop} {a : Act} (h : Q a) : wpTame P ops C Q [] a := h
theorem wpTame_step {Q : Act → Prop} {a : Act} {o : Oper} {rest : List Oper}
    (h : ∀ K : Act → Prop, (∀ a, wpTame P ops C Q rest a → K a) → if Region.wanted o (yielded ops a.tmps) then tame P o a C K else K (a.put o.dst undef)) : wpTame P ops C Q (o :: rest) a := h _ fun _ h => h
theorem stillIn_of_tame {Q : Act → Prop} {o : Oper} {rest : List Oper} {a : Act} (h : wpTame P ops C Q (o :: rest) a) : ∃ v, StillIn P ops C o v a ∧ wpTame P ops C Q rest (a.put o.dst v) := by
  unfold wpTame at h
  split at h
  · rename_i hw
    obtain ⟨v, hv, hk⟩ := h
    refine ⟨v, Or.inl ⟨hw, fun w hC => ?_⟩, hk⟩
    have := hv w hC
    unfold tameAt at this
    generalize (execOp a.eval o).run P w = r at *
    cases r with
    | ok n w' =>
      cases n <;> simp only [tameUpon] at this
      case value u => obtain ⟨e1, e2⟩ := this; rw [e1, e2]; exact Or.inl rfl
      case skip => obtain ⟨e1, e2⟩ := this; rw [e1]; exact Or.inr ⟨rfl, e2⟩
    | halt x w' => simp only [tameUpon] at this
  · rename_i hw
    exact ⟨undef, Or.inr ⟨by simpa using hw, rfl⟩, h⟩
theorem wpAnyC_tames {n g n' : Nat} {Lq : Act → Prop} {w : World} (hC : C w) (hsel : Region.noSelect ops = true) (hs : Region.sinkB md ops n = true) (hc : Region.chainB md ops n = true) (hn : n < ops.size)
    (hQ : ∀ (d : Option Tmp) v c a w, Q' (.panic c) (a.put d v) w → Q' (.panic c) a w)
    (hend : ∀ k listed a, Region.seqB md ops g k listed = true → Lq a → k = n' → wpAnyC P md ops C n Q' g listed a w) :
    ∀ (l : List Oper) (k : Nat) (listed : Array Bool) (a : Act), (∀ j, j < l.length → l[j]? = ops[k + j]?) → k + l.length = n' → n' ≤ n → HeadInv md ops n listed →
    Region.lexHead md ops g l.length k listed = true → wpTame P ops C Lq l a → wpAnyC P md ops C n Q' (l.length + g) listed a w
  | [], k, listed, a, _, hk, _, _, hB, h => by
    rw [List.length_nil, Nat.zero_add]
    exact hend k listed a (by simpa [Region.lexHead] using hB) h (by simpa using hk)
  | o :: l, k, listed, a, hl, hk, hnn, inv, hB, h => by
    have h0 : ops[k]? = some o := by simpa using (hl 0 (by simp)).symm
    simp only [List.length_cons, Region.lexHead, Bool.and_eq_true] at hB
    obtain ⟨⟨hr, hf⟩, hB'⟩ := hB
    have hkn : k < n := by simp only [List.length_cons] at hk; omega
    have hr' : k ∈ Region.ready md ops listed := by simpa using hr
    obtain ⟨v, hy, hK⟩ := stillIn_of_tame h
    rw [List.length_cons, show l.length + 1 + g = (l.length + g) + 1 by omega]
    exact wpAnyC_first h0 (Region.noSelect_spec hsel) hs hc hn hkn (fun c a w => hQ _ _ c a w) (l.length + g) listed a w inv hC (Region.free_spec h0 hf) hr' hy
      (wpAnyC_tames hC hsel hs hc hn hQ hend l (k + 1) _ _ (fun j hj => by have := hl (j + 1) (by simp; omega); simpa [Nat.add_assoc, Nat.add_comm 1 j] using this) (by simp only [List.length_cons] at hk; omega) hnn (inv.set hr' hkn) hB' hK)

/-- The Bool over a region: h operations that leave the very world; then the rest in one order; number n waits for all ahead of it. -/
def tameB (md : Region.Mode) (ops : Array Oper) (h n : Nat) : Bool :=
  Region.noSelect ops && decide (h ≤ n) && decide (n < ops.size) && Region.sinkB md ops n && Region.chainB md ops n && Region.lexHead md ops (ops.size - h) h 0 (Array.replicate ops.size false)
theorem wp_region_tame {id : Nat} {a : Act} {w : World} {l : List Oper} (h n : Nat) (C : World → Prop) (hm : P.follows .mixedOrders = true) (hB : tameB .any l.toArray h n = true) (hC : C { w with drawn := w.drawn + 1 })
    (hQ : ∀ (d : Option Tmp) v c a w, Q' (.panic c) (a.put d v) w → Q' (.panic c) a w)
    (hh : wpTame P l.toArray C (fun a' => wpSeqC P l.toArray C n Q' (l.drop h) h a' { w with drawn := w.drawn + 1 }) (l.take h) a) : (Code.region id l.toArray true).wp P Q' a w := by
  simp only [tameB, Bool.and_eq_true, decide_eq_true_eq] at hB
  obtain ⟨⟨⟨⟨⟨hsel, hhn⟩, hn⟩, hs⟩, hc⟩, hlex⟩ := hB
  have hn' : n < l.length := by simpa using hn
  have htl : (l.take h).length = h := by simp; omega
  have hdl : (l.drop h).length = l.toArray.size - h := by simp
  have inv0 : HeadInv .any l.toArray n (Array.replicate l.toArray.size false) :=
    ⟨by simp, fun j oj _ hl => (by rw [getD_replicate_false] at hl; cases hl), fun t _ ht => getD_in (by simpa using ht) (getD_replicate_false _ _)⟩
  have H := wpAnyC_tames (md := .any) (ops := l.toArray) (P := P) (Q' := Q') (n := n) (g := l.toArray.size - h) (n' := h) hC hsel hs hc hn hQ
    (fun k listed a' hb hq hk => by
      subst hk
      have := wpAnyC_of_seq (P := P) (C := C) (Q' := Q') (n := n) (md := .any) (l.drop k) k listed a' _ (fun j => by simp) (by rw [hdl]; exact hb) hq
      rwa [hdl] at this)
    (l.take h) 0 (Array.replicate l.toArray.size false) a (fun j hj => by
      have hj' : j < h := by rw [htl] at hj; exact hj
      simp [hj']) (by simpa using htl) hhn inv0 (by rw [htl]; exact hlex) hh
  refine wp_region_any hm (wpAny_of_C (C := C) (n := n) _ _ _ _ ?_)
  rw [htl] at H
  have e : h + (l.toArray.size - h) = l.toArray.size := by simp; omega
  rwa [e] at H

/-! Heads by their numbers; the rest by hand. -/
def headNums (md : Region.Mode) (ops : Array Oper) : List Nat → Array Bool → Bool
  | [], _ => true
  | k :: ks, listed => (Region.ready md ops listed).contains k && Region.free md ops listed k && headNums md ops ks (listed.setIfInBounds k true)
def listAll : List Nat → Array Bool → Array Bool
  | [], l => l
  | k :: ks, l => listAll ks (l.setIfInBounds k true)
def headOps (ops : Array Oper) : List Nat → List Oper
  | [] => []
  | k :: ks => match ops[k]? with
    | some o => o :: headOps ops ks
    | none => headOps ops ks
theorem wpAnyC_heads {n g : Nat} {Lq : Act → Prop} {w : World} (hC : C w) (hsel : Region.noSelect ops = true) (hs : Region.sinkB md ops n = true) (hc : Region.chainB md ops n = true) (hn : n < ops.size)
    (hQ : ∀ (d : Option Tmp) v c a w, Q' (.panic c) (a.put d v) w → Q' (.panic c) a w) :
    ∀ (ks : List Nat) (listed : Array Bool) (a : Act), (∀ k ∈ ks, k < n) → HeadInv md ops n listed → headNums md ops ks listed = true →
    (∀ a', Lq a' → wpAnyC P md ops C n Q' g (listAll ks listed) a' w) → wpTame P ops C Lq (headOps ops ks) a → wpAnyC P md ops C n Q' (ks.length + g) listed a w
  | [], listed, a, _, _, _, hend, h => by rw [List.length_nil, Nat.zero_add]; exact hend a h
  | k :: ks, listed, a, hkn, inv, hB, hend, h => by
    simp only [headNums, Bool.and_eq_true] at hB
    obtain ⟨⟨hr, hf⟩, hB'⟩ := hB
    have hr' : k ∈ Region.ready md ops listed := by simpa using hr
    obtain ⟨_, o, h0, _⟩ := mem_ready.1 hr'
    have hk := hkn k (by simp)
    unfold headOps at h
    rw [h0] at h
    obtain ⟨v, hy, hK⟩ := stillIn_of_tame h
    rw [List.length_cons, show ks.length + 1 + g = (ks.length + g) + 1 by omega]
    exact wpAnyC_first h0 (Region.noSelect_spec hsel) hs hc hn hk (fun c a w => hQ _ _ c a w) (ks.length + g) listed a w inv hC (Region.free_spec h0 hf) hr' hy
      (wpAnyC_heads hC hsel hs hc hn hQ ks _ _ (fun j hj => hkn j (List.mem_cons_of_mem _ hj)) (inv.set hr' hk) hB' hend hK)
def headsB (md : Region.Mode) (ops : Array Oper) (ks : List Nat) (n : Nat) : Bool :=
  Region.noSelect ops && ks.all (· < n) && decide (ks.length ≤ ops.size) && decide (n < ops.size) && Region.sinkB md ops n && Region.chainB md ops n && headNums md ops ks (Array.replicate ops.size false)
theorem wp_region_heads {id : Nat} {a : Act} {w : World} {l : List Oper} (ks : List Nat) (n : Nat) (C : World → Prop) (hm : P.follows .mixedOrders = true) (hB : headsB .any l.toArray ks n = true) (hC : C { w with drawn := w.drawn + 1 })
    (hQ : ∀ (d : Option Tmp) v c a w, Q' (.panic c) (a.put d v) w → Q' (.panic c) a w)
    (hh : wpTame P l.toArray C (fun a' => wpAnyC P .any l.toArray C n Q' (l.length - ks.length) (listAll ks (Array.replicate l.length false)) a' { w with drawn := w.drawn + 1 }) (headOps l.toArray ks) a) : (Code.region id l.toArray true).wp P Q' a w := by
  simp only [headsB, Bool.and_eq_true, decide_eq_true_eq] at hB
  obtain ⟨⟨⟨⟨⟨⟨hsel, hks⟩, hkl⟩, hn⟩, hs⟩, hc⟩, hnum⟩ := hB
  have inv0 : HeadInv .any l.toArray n (Array.replicate l.toArray.size false) :=
    ⟨by simp, fun j oj _ hl => (by rw [getD_replicate_false] at hl; cases hl), fun t _ ht => getD_in (by simpa using ht) (getD_replicate_false _ _)⟩
  refine wp_region_any hm (wpAny_of_C (C := C) (n := n) _ _ _ _ ?_)
  have H := wpAnyC_heads (md := .any) (ops := l.toArray) (P := P) (Q' := Q') (n := n) (g := l.length - ks.length) hC hsel hs hc hn hQ ks (Array.replicate l.toArray.size false) a
    (fun k hk => by simpa using List.all_eq_true.1 hks k hk) inv0 hnum (fun a' h => by simpa using h) hh
  have e : ks.length + (l.length - ks.length) = l.toArray.size := by simp at hkl ⊢; omega
  rwa [e] at H
/-- One step of the rest: whichever is ready. -/
theorem wpAnyC_step {n f : Nat} {listed : Array Bool} {a : Act} {w : World} (rs : List Nat) (hr : (Region.ready md ops listed == rs) = true) (hne : rs.isEmpty = false) (hlt : rs.all (· < n) = true)
    (h : ∀ i ∈ rs, ∃ o, ops[i]? = some o ∧ ∀ R : Act → World → Prop, (∀ a' w', C w' → wpAnyC P md ops C n Q' f (listed.setIfInBounds i true) a' w' → R a' w') → wpList P ops (fun x a' w' => x = .normal ∧ R a' w') [o] a w) :
    wpAnyC P md ops C n Q' (f + 1) listed a w := by
  have hr' : Region.ready md ops listed = rs := by simpa using hr
  refine ⟨fun h0 => ?_, fun i hi => ?_⟩
  · rw [hr'] at h0; subst h0; simp at hne
  · rw [hr'] at hi
    obtain ⟨o, ho, hR⟩ := h i hi
    exact wpOp_of_one ho (hR _ fun a' w' hC hA => ⟨fun _ => hC, hA⟩)
theorem wpAnyC_end {n k : Nat} {o : Oper} {listed : Array Bool} {a : Act} {w : World} (hnk : n ≤ k) (ho : ops[k]? = some o) (hk : ops.size = k + 1) (hB : Region.seqB md ops 1 k listed = true) (h : wpList P ops Q' [o] a w) : wpAnyC P md ops C n Q' 1 listed a w :=
  wpAnyC_of_list [o] k listed a w hnk (fun j => by
    cases j with
    | zero => simpa using ho.symm
    | succ j => simp [Array.getElem?_eq_none (show ops.size ≤ k + (j + 1) by omega)]) hB h
end
attribute [go_sem] tame tameAt tameUpon
end Go.Proofs.Ytacdgfkahppmdaa
