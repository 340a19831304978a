
/-
  The reference's Dist, Within, Sorted.
-/
import Derived.Test.YtidlmlecgjoddaaGreatDoorSetP
import Derived.Test.YtidlmlecgjoddaaGreatDoorLater
import Derived.Test.YtidlmlecgjoddaaGreatDoorRingA
import Derived.LoopTactic
import Derived.Outline
namespace Go.Proofs.YtidlmlecgjoddaaGreatDoor
open Go.RowKit Go.WideShapes Go.ChangeShapes
set_option linter.unusedVariables false
set_option linter.unusedSimpArgs false
attribute [local go_sem] later_cell later_frozen later_lt

noncomputable def u64I : TypeInfo := (Tryz.prog.info? 42).get (by kernel_rfl)
theorem u64I_at : Tryz.prog.info? 42 = some u64I := by kernel_rfl
theorem rdist_any (a b : Int) (w : World) (ha : isPlace a) (hb : isPlace b) :
    Calls Tryz.prog 129 #[.int .u64 a, .int .u64 b] w fun e w' => e = .returned (.int .u64 (dist a b)) ∧ w = w' := by
  have e1 : a ≤ b → IntKind.u64.wrap (b - a) = dist a b := by rw [IntKind.wrap_u64]; intro h; rfl
  have e2 : b < a → IntKind.u64.wrap (IntKind.u64.wrap (18446744073709551615 - IntKind.u64.wrap (a - b)) + 1) = dist a b := by
    simp only [IntKind.wrap_u64]; unfold dist isPlace at *; omega
  have E1 := Lib.hid e1
  have E2 := Lib.hid e2
  clear e1 e2
  go_enter Tryz.func129, Tryz.ntmps129
  go_wp2
  · go_ret
    exact ⟨congrArg (fun z => Ending.returned (.int .u64 z)) (E1.out (by assumption)), rfl⟩
  · go_ret
    exact ⟨congrArg (fun z => Ending.returned (.int .u64 z)) (E2.out (by assumption)), rfl⟩

theorem rwithin_eq {x a b : Int} (hx : isPlace x) (ha : isPlace a) (hb : isPlace b) :
    withinB x a b = (if a == b then x != a else if a < b then decide (a < x) && decide (x < b) else decide (a < x) || decide (x < b)) := by
  by_cases h : a = b
  · simp [withinB, h]
  · have e : (a == b) = false := by simp [h]
    unfold withinB; rw [e]; simp only [Bool.false_eq_true, if_false]
    rw [Bool.eq_iff_iff, Bool.and_eq_true, bne_iff_ne, decide_eq_true_eq]
    unfold isPlace dist at *
    by_cases h2 : a < b
    · rw [if_pos h2, Bool.and_eq_true, decide_eq_true_eq, decide_eq_true_eq]; omega
    · rw [if_neg h2, Bool.or_eq_true, decide_eq_true_eq, decide_eq_true_eq]; omega

theorem rwithin_any (x a b : Int) (w : World) (hx : isPlace x) (ha : isPlace a) (hb : isPlace b) :
    Calls Tryz.prog 114 #[.int .u64 x, .int .u64 a, .int .u64 b] w fun e w' => e = .returned (.bool (withinB x a b)) ∧ w = w' := by
  have E := Lib.hid (rwithin_eq hx ha hb)
  go_enter Tryz.func114, Tryz.ntmps114
  go_wp2
  all_goals (go_ret; go_light; exact ⟨by rw [E.out]; simp_all <;> (intros; first | omega | (exfalso; omega)), rfl⟩)

/-! ### The reference's Sorted -/
/-- The least of some numbers, so many of them. -/
def Pre (l out : List Int) : Prop := Up out ∧ (∀ x ∈ out, x ∈ l) ∧ ∀ x ∈ l, x ∈ out ∨ ∀ y ∈ out, y < x
def Least (l out : List Int) (k : Nat) (fb : Bool) (z : Int) : Prop :=
  if fb then (∃ j, j < k ∧ nth l j = z) ∧ (∀ y ∈ out, y < z) ∧ ∀ j, j < k → nth l j ∈ out ∨ z ≤ nth l j else ∀ j, j < k → nth l j ∈ out
theorem pre_nil (l : List Int) : Pre l [] := ⟨List.Pairwise.nil, fun x hx => by simp at hx, fun x _ => Or.inr fun y hy => by simp at hy⟩
theorem least_zero (l out : List Int) : Least l out 0 false 0 := fun j hj => absurd hj (by omega)
theorem up_last {out : List Int} (h : Up out) (h0 : 0 < out.length) {x : Int} : nth out (out.length - 1) < x ↔ ∀ y ∈ out, y < x := by
  constructor
  · intro hx y hy
    obtain ⟨j, hj, rfl⟩ := nth_mem.1 hy
    by_cases e : j = out.length - 1
    · rw [e]; exact hx
    · have := up_nth h (i := j) (j := out.length - 1) (by omega) (by omega); omega
  · intro hx
    exact hx _ (nth_mem.2 ⟨_, by omega, rfl⟩)
theorem least_take {l out : List Int} {k : Nat} {fb : Bool} {z : Int} (hk : k < l.length) (h : Least l out k fb z) (h1 : ∀ y ∈ out, y < nth l k) (h2 : fb = false ∨ nth l k < z) : Least l out (k + 1) true (nth l k) := by
  unfold Least at *
  rw [if_pos rfl]
  refine ⟨⟨k, Nat.lt_succ_self _, rfl⟩, h1, fun j hj => ?_⟩
  by_cases e : j = k
  · subst e; exact Or.inr (Int.le_refl _)
  · cases fb with
    | false => exact Or.inl (h j (by omega))
    | true =>
      rw [if_pos rfl] at h
      rcases h.2.2 j (by omega) with h3 | h3
      · exact Or.inl h3
      · rcases h2 with h2 | h2
        · cases h2
        · exact Or.inr (by omega)
theorem least_skip {l out : List Int} {k : Nat} {fb : Bool} {z : Int} (hp : Pre l out) (hk : k < l.length) (h : Least l out k fb z) (h1 : (¬ ∀ y ∈ out, y < nth l k) ∨ fb = true ∧ ¬ nth l k < z) : Least l out (k + 1) fb z := by
  have hx : nth l k ∈ out ∨ fb = true ∧ z ≤ nth l k := by
    rcases h1 with h1 | ⟨h1, h2⟩
    · exact Or.inl ((hp.2.2 _ (nth_mem.2 ⟨k, hk, rfl⟩)).resolve_right h1)
    · exact Or.inr ⟨h1, by omega⟩
  unfold Least at *
  cases fb with
  | false =>
    simp only [Bool.false_eq_true, if_false, false_and, or_false] at *
    intro j hj
    by_cases e : j = k
    · subst e; exact hx
    · exact h j (by omega)
  | true =>
    rw [if_pos rfl] at *
    refine ⟨by obtain ⟨j, hj, e⟩ := h.1; exact ⟨j, by omega, e⟩, h.2.1, fun j hj => ?_⟩
    by_cases e : j = k
    · subst e; rcases hx with hx | hx
      · exact Or.inl hx
      · exact Or.inr hx.2
    · exact h.2.2 j (by omega)
theorem pre_push {l out : List Int} {z : Int} (hp : Pre l out) (h : Least l out l.length true z) : Pre l (out ++ [z]) := by
  unfold Least at h
  rw [if_pos rfl] at h
  obtain ⟨⟨j, hj, e⟩, h2, h3⟩ := h
  refine ⟨List.pairwise_append.2 ⟨hp.1, by simp, fun a ha b hb => by simp at hb; subst hb; exact h2 a ha⟩, fun x hx => ?_, fun x hx => ?_⟩
  · rcases List.mem_append.1 hx with h | h
    · exact hp.2.1 x h
    · simp at h; subst h; exact nth_mem.2 ⟨j, hj, e⟩
  · obtain ⟨i, hi, rfl⟩ := nth_mem.1 hx
    rcases h3 i hi with h4 | h4
    · exact Or.inl (List.mem_append_left _ h4)
    · rcases Int.lt_or_eq_of_le h4 with h5 | h5
      · refine Or.inr fun y hy => ?_
        rcases List.mem_append.1 hy with h | h
        · have := h2 y h; omega
        · simp at h; omega
      · exact Or.inl (by simp [h5])
theorem pre_done {l out : List Int} {z : Int} (hp : Pre l out) (h : Least l out l.length false z) : out = setI l := by
  refine up_uniq hp.1 (setI_up l) fun x => ?_
  rw [mem_setI]
  constructor
  · exact hp.2.1 x
  · intro hx
    obtain ⟨i, hi, rfl⟩ := nth_mem.1 hx
    exact h i hi
theorem pre_len {l out : List Int} (hp : Pre l out) : out.length ≤ l.length :=
  Nat.le_trans (up_sub_len (setI_up l) hp.1 fun x hx => mem_setI.2 (hp.2.1 x hx)) (setI_len l)

set_option maxHeartbeats 4000000 in
theorem rsort_any (w : World) (v : Value) (l : List Int) (h : SlAt 0 (fun i => .int .u64 (nth l i)) l.length w v) (hl : l.length ≤ 1000) :
    Calls Tryz.prog 105 #[v] w fun e w' => ∃ v', e = .returned v' ∧ SlAt w.heap.size (fun i => .int .u64 (nth (setI l) i)) (setI l).length w' v' ∧ Below w.heap.size w w' := by
  obtain ⟨i0, hi, hz0, hz1, hz2⟩ : ∃ i0, Tryz.prog.info? 42 = some i0 ∧ i0.zero = some (Value.int .u64 0) ∧ i0.size = 1 ∧ i0.bytes = 8 := ⟨u64I, u64I_at, by kernel_rfl, by kernel_rfl, by kernel_rfl⟩
  obtain ⟨a, cap, rfl, hc, hm⟩ := h.slice
  have hA := Lib.hid h
  clear h
  unfold maxLen at hm
  go_enter Tryz.func105, Tryz.ntmps105
  go_wp2_with fail
  go_loopw [3, 4] (fun vo i wr => ∃ out : List Int, i = .int .i64 out.length ∧ wr.ownsRow w.heap.size 42 1 vo out.length (out.map (Value.int .u64)) ∧ Below w.heap.size w wr ∧ Hid (Pre l out)) (fun _ i _ => l.length + 1 - (intOf i).toNat)
  case atStart => exact ⟨[], rfl, by simpa using World.ownsRow_made w #[] 0 (Nat.le_refl _) (Nat.zero_le _) (by simp), by (repeat (first | exact Below.refl _ _ | (with_reducible assumption) | (with_reducible refine bel_later ?_ _) | (with_reducible refine bel_alloc ?_ _) | (with_reducible refine bel_drew ?_) | (with_reducible refine bel_drewN ?_ _) | (with_reducible refine bel_set ?_ (by first | (simp; done) | (simp; omega) | (dsimp only; omega)) _))), pre_nil l⟩
  case round =>
    obtain ⟨out, rfl, ho, hB, hP⟩ := hrel
    have hlen := pre_len hP.out
    have hs := own_ints ho
    obtain ⟨ao, co, rfl, hco, hcom⟩ := hs.slice
    have hO := Lib.hid ho
    have hS := Lib.hid hs
    have hsz := hB.size
    clear ho hs
    go_wp2_with fail
    obtain ⟨w1, hw1⟩ : ∃ w1 : World, w1 = wr := ⟨_, rfl⟩
    rw [← hw1] at hO hB hS hsz
    have hBH := Lib.hid hB
    clear hB
    rw [← hw1]
    clear hw1
    go_loopw [5, 6, 18] (fun f ls i wr => ∃ (k : Nat) (fb : Bool) (z : Int), k ≤ l.length ∧ i = .int .i64 k ∧ f = .bool fb ∧ ls = .int .u64 z ∧ wr = w1 ∧ Hid (Least l out k fb z)) (fun _ _ i _ => l.length - (intOf i).toNat)
    case atStart => exact ⟨0, false, 0, Nat.zero_le _, rfl, rfl, rfl, rfl, least_zero l out⟩
    case round =>
      obtain ⟨k, fb, z, hk, rfl, rfl, rfl, rfl, hL⟩ := hrel
      by_cases hlt : k < l.length
      · obtain ⟨b, off, rfl, _, hb, hcell⟩ := hA.out.at k hlt _ hBH.out
        by_cases h0 : out.length = 0
        · have h0b : ((out.length : Int) == 0) = true := by simp [h0]
          have hall : ∀ y ∈ out, y < nth l k := fun y hy => by rw [List.length_eq_zero_iff.1 h0] at hy; simp at hy
          cases fb
          · have TK := Lib.hid (least_take hlt hL.out hall (Or.inl rfl))
            clear hall
            go_wp2_with fail
            go_roundw
            case rel => go_light; exact ⟨k + 1, true, nth l k, by omega, by go_num, rfl, rfl, by first | trivial | rfl, TK.out⟩
            case measure => go_light; simp [intOf]; omega
          · by_cases hz : nth l k < z
            · have TK := Lib.hid (least_take hlt hL.out hall (Or.inr hz))
              clear hall
              go_wp2_with fail
              go_roundw
              case rel => go_light; exact ⟨k + 1, true, nth l k, by omega, by go_num, rfl, rfl, by first | trivial | rfl, TK.out⟩
              case measure => go_light; simp [intOf]; omega
            · have TK := Lib.hid (least_skip hP.out hlt hL.out (Or.inr ⟨rfl, hz⟩))
              obtain ⟨fb, rfl⟩ : ∃ fb, fb = true := ⟨_, rfl⟩
              clear hall
              go_wp2_with fail
              go_roundw
              case rel => go_light; exact ⟨k + 1, true, z, by omega, by go_num, rfl, rfl, by first | trivial | rfl, TK.out⟩
              case measure => go_light; simp [intOf]; omega
        · have h0b : ((out.length : Int) == 0) = false := by simp [h0]
          obtain ⟨n', hn'⟩ : ∃ n' : Nat, n' = out.length - 1 := ⟨_, rfl⟩
          have hidx : (out.length : Int) - 1 = (n' : Int) := by omega
          obtain ⟨b2, o2, rfl, _, hb2, hc2⟩ := hS.out.at n' (by omega) _ (Below.refl _ _)
          have hup := up_last hP.out.1 (x := nth l k) (by omega)
          rw [← hn'] at hup
          clear hn'
          by_cases hx : nth out n' < nth l k
          · have hall := hup.1 hx
            cases fb
            · have TK := Lib.hid (least_take hlt hL.out hall (Or.inl rfl))
              clear hall hup
              go_wp2_with fail
              go_roundw
              case rel => go_light; exact ⟨k + 1, true, nth l k, by omega, by go_num, rfl, rfl, by first | trivial | rfl, TK.out⟩
              case measure => go_light; simp [intOf]; omega
            · by_cases hz : nth l k < z
              · have TK := Lib.hid (least_take hlt hL.out hall (Or.inr hz))
                clear hall hup
                go_wp2_with fail
                go_roundw
                case rel => go_light; exact ⟨k + 1, true, nth l k, by omega, by go_num, rfl, rfl, by first | trivial | rfl, TK.out⟩
                case measure => go_light; simp [intOf]; omega
              · have TK := Lib.hid (least_skip hP.out hlt hL.out (Or.inr ⟨rfl, hz⟩))
                clear hall hup
                go_wp2_with fail
                go_roundw
                case rel => go_light; exact ⟨k + 1, true, z, by omega, by go_num, rfl, rfl, by first | trivial | rfl, TK.out⟩
                case measure => go_light; simp [intOf]; omega
          · have TK := Lib.hid (least_skip hP.out hlt hL.out (Or.inl fun h => hx (hup.2 h)))
            clear hup
            go_wp2_with fail
            go_roundw
            case rel => go_light; exact ⟨k + 1, fb, z, by omega, by go_num, rfl, rfl, by first | trivial | rfl, TK.out⟩
            case measure => go_light; simp [intOf]; omega
      · obtain rfl : k = l.length := by omega
        cases fb
        · have e := pre_done hP.out hL.out
          have HR := hS.out
          rw [e] at HR
          have HR2 := Lib.hid HR
          have E := Lib.hid e
          clear HR e
          go_wp2_with fail
          go_ret
          exact ⟨_, rfl, by rw [E.out]; exact HR2.out, hBH.out⟩
        · have PP := Lib.hid (pre_push hP.out hL.out)
          have hl2 := pre_len PP.out
          have hl3 : out.length + 1 ≤ l.length := by simpa using hl2
          clear hl2
          go_wp2_with (at_builtin; refine wpList_app rfl _ _ 27 rfl w.heap.size 42 i0 (.int .u64 0) 8 Tryz.underlying27 hi hz0 hz1 hz2 rfl _ out.length _ rfl (hO.out.alloc _) 0 _ 1 _ rfl (sl_new _ .u64 [z] 42 _ 1 rfl rfl (by simp [maxLen])) (fun _ => rfl) ?qc1 ?qc2 ?qc3 ?_)
          case qc1 => simp only [maxLen]; omega
          case qc2 => omega
          case qc3 => simp; omega
          intro v' w2 ho hg
          have hB1 : Below w.heap.size w w2 := (hBH.out.alloc hsz _).grown hg (by simp; omega) (fun j hj => by have := hO.out.lt j hj; omega)
          go_wp2_with fail
          go_roundw
          case rel =>
            go_light
            refine ⟨out ++ [z], by simp, ?_, hB1, PP.out⟩
            simpa [nth] using ho
          case measure => go_light; simp [intOf]; omega
end Go.Proofs.YtidlmlecgjoddaaGreatDoor
