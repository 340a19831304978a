
/-
  peer.Follow: whoever is followed, and whom it knows, three at most.
-/
import Derived.Test.YthbijjpaljjapaaDoorChordB
import Derived.Test.YthbijjpaljjapaaDoorCalmTail
import Derived.Test.YthbijjpaljjapaaDoorSetP
namespace Go.Proofs.YthbijjpaljjapaaDoor
open Go.RowKit Go.Maps
set_option linter.unusedVariables false
set_option linter.unusedSimpArgs false
attribute [local go_sem] later_cell later_frozen later_lt

noncomputable def intI : TypeInfo := (Tryd.prog.info? 3).get (by kernel_rfl)
theorem intI_at : Tryd.prog.info? 3 = some intI := by kernel_rfl

theorem follow_at (w : World) (s id pred : Int) (lv : Value) (l : List Int) (hl : SlAt 0 (fun i => .int .i64 (nth l i)) l.length w lv) (hlm : l.length ≤ 1000000) :
    Calls Tryd.prog 27 #[.int .i64 s, .agg #[.int .u64 id, .int .i64 pred, lv]] w fun e w' => ∃ v, e = .returned v ∧ SlAt w.heap.size (fun i => .int .i64 (nth (followL s l) i)) (followL s l).length w' v ∧ Below w.heap.size w w' := by
  obtain ⟨i0, hi, hz0, hz1, hz2⟩ : ∃ i0, Tryd.prog.info? 3 = some i0 ∧ i0.zero = some (Value.int .i64 0) ∧ i0.size = 1 ∧ i0.bytes = 8 := ⟨intI, intI_at, by kernel_rfl, by kernel_rfl, by kernel_rfl⟩
  unfold followL
  go_enter Tryd.func27, Tryd.ntmps27
  obtain ⟨la, lc, rfl, hlv⟩ : ∃ a c, lv = .slice a l.length c ∧ True := by obtain ⟨a, c, rfl, _⟩ := hl; exact ⟨a, c, rfl, trivial⟩
  go_wp2_with (at_builtin; refine wpList_app rfl _ _ 38 rfl w.heap.size 3 i0 (.int .i64 0) 8 Tryd.underlying38 hi hz0 hz1 hz2 rfl _ 1 [.int .i64 s] rfl (own_lit _ [.int .i64 s] 3 _ _ 1 ?c7 rfl ?c0 ?c1) _ _ _ _ rfl (hl.below ?c2) ?c3 ?c4 ?c5 ?c6 ?_)
  case c7 => simp
  case c0 => simp
  case c1 => simp [maxLen]
  case c2 => (repeat (first | exact Below.refl _ _ | (with_reducible assumption) | (with_reducible refine bel_later ?_ _) | (with_reducible refine bel_alloc ?_ _) | (with_reducible refine bel_drew ?_) | (with_reducible refine bel_drewN ?_ _) | (with_reducible refine bel_set ?_ (by first | (simp; done) | (simp; omega) | (dsimp only; omega)) _)))
  case c3 => intro i; rfl
  case c4 => simp only [maxLen]; omega
  case c5 => omega
  case c6 => simp; omega
  intro v' w1 hown hg
  have hsl := own_slAt hown
  have hB : Below w.heap.size w w1 := ((bel_alloc (bel_alloc (Below.refl _ _) _) _)).grown hg (by simp; omega) (fun k hk => by simp [Value.ownBlock] at hk; omega)
  have hv := hsl.parts.resolve_left (by omega)
  obtain ⟨_, g, off, cap, hv, hcap, hm, hg1, hg2, hc⟩ := hv
  have H := Lib.hid hsl
  clear hown hsl hc hg
  rw [hv] at H ⊢
  clear hv
  unfold maxLen at hm
  have he : ∀ i, i < 1 + l.length → i < 3 → (Value.int IntKind.i64 s :: List.map (fun i => Value.int IntKind.i64 (nth l i)) (List.range l.length)).getD i undef = .int .i64 (nth ((s :: l).take 3) i) := by
    intro i h1 h2
    rw [map_range_nth, ← List.map_cons (f := Value.int IntKind.i64), getD_nth _ _ _ (by simp; omega), nth_take h2]
  have HE := Lib.hid he
  clear he
  by_cases h3 : 2 < l.length
  · have hlen : Hid (((s :: l).take 3).length = 3) := by
      have e : ((s :: l).take 3).length = 3 := by simp; omega
      exact e
    go_wp2
    go_ret
    exact ⟨_, rfl, by rw [hlen.out]; exact (H.out.take (m := 3) (by omega)).congr fun i hi => HE.out i (by omega) hi, hB⟩
  · have hlen : Hid (((s :: l).take 3).length = 1 + l.length) := by
      have e : ((s :: l).take 3).length = 1 + l.length := by simp; omega
      exact e
    go_wp2
    go_ret
    exact ⟨_, rfl, by rw [hlen.out]; exact H.out.congr fun i hi => HE.out i hi (by omega), hB⟩
end Go.Proofs.YthbijjpaljjapaaDoor
