/-
  append onto a slice of the call's own: where the new row lies: where the old one did, or in a new block. No program is named here.
-/
import Derived.Test.YthbijjpaljjapaaBase
import Derived.Laws.AppendOwn
import Derived.Laws.Append
namespace Go.Proofs.Ythbijjpaljjapaa
open Go.RowKit Go
set_option linter.unusedVariables false
set_option linter.unusedSimpArgs false

section
variable {P : Program}
/-- Where an append's result lies. -/
theorem append_row (w : World) (base : Nat) (t ty e : TypeId) (i : TypeInfo) (z : Value) (bytes : Nat) (ht : P.underlying t = some (.slice e)) (hi : P.info? e = some i) (hz : i.zero = some z)
    (hsize : i.size = 1) (hby : i.bytes = bytes) (hzs : z.cells.size = 1)
    (v : Value) (n : Nat) (xs : List Value) (hown : w.ownsRow base e 1 v n xs)
    (a : Addr) (m c : Nat) (news : List Value) (hl : news.length = m) (hm0 : 0 < m) (hnews : ∀ j u, news[j]? = some u → w.cell? (a.add j) = some u) (h1 : ∀ u ∈ news, u.oneCell' = true)
    (h63 : n + m ≤ maxLen) (hbytes : (n + m) * bytes ≤ 140737488355328) {v' : Value} {w' : World} (hr : (Builtin.append_ #[t, t] ty #[v, .slice (some a) m c]).run P w = .ok v' w') :
    v'.ownBlock = v.ownBlock ∨ v'.ownBlock = some w.heap.size := by
  have hsmall : n + m ≤ 9223372036854775807 := by simp only [maxLen] at h63; omega
  rcases hown.2 with ⟨rfl, rfl⟩ | ⟨g, cap, cur, rfl, hbg, hg, hnc, hcm, hcs, htake⟩
  · right
    have h2 := run_append_nil (P := P) w t ty e i z ht hi hz a m c news (by rw [hsize, hl, Nat.mul_one]) hnews hm0 (by omega) (by rw [hby]; have hb := hbytes; simp only [Nat.zero_add] at hb; omega)
    rw [hr] at h2
    injection h2 with h2 _
    rw [h2]; rfl
  · by_cases hroom : n + m ≤ cap
    · left
      have hfit : n * i.size + news.length ≤ cur.size := by rw [hsize, hl, hcs]; omega
      have h2 := run_append_room (P := P) w t ty e i ht hi g n cap cur hg a m c news (by rw [hsize, hl, Nat.mul_one]) hnews h1 hroom hfit
      rw [hr] at h2
      injection h2 with h2 _
      rw [h2]; rfl
    · right
      have holds : ∀ j u, xs[j]? = some u → w.cell? ((⟨g, 0, none⟩ : Addr).add j) = some u := hown.cells (g := g) rfl
      have h2 := run_append_grow (P := P) w t ty e i z ht hi hz ⟨g, 0, none⟩ n cap xs (by rw [hsize]; exact hown.1) holds a m c news (by rw [hsize, hl, Nat.mul_one]) hnews (by omega) (by omega) (growslice_fits (by omega) (by rw [hby]; exact hbytes))
      rw [hr] at h2
      injection h2 with h2 _
      rw [h2]; rfl
/-- 'append(s, x...)', s of the call's own, x of elements of one cell, not empty: the row is told. -/
theorem wpList_app_row {w : World} {ops : Array Oper} {rest : List Oper} {o : Oper} {a : Act} {Q : Exit → Act → World → Prop} (hgd : o.guard = none) (s x : Operand) (t : TypeId)
    (ho : o.op = .call { callee := .builtin .append, args := #[s, x], argTypes := #[t, t] })
    (base : Nat) (e : TypeId) (i : TypeInfo) (z : Value) (bytes : Nat) (ht : P.underlying t = some (.slice e)) (hi : P.info? e = some i) (hz : i.zero = some z)
    (hsize : i.size = 1) (hby : i.bytes = bytes) (hzs : z.cells.size = 1)
    (v : Value) (n : Nat) (xs : List Value) (hs : a.eval s = v) (hown : w.ownsRow base e 1 v n xs)
    (B : Nat) (g : Nat → Value) (m : Nat) (sv : Value) (hx : a.eval x = sv) (hsl : SlAt B g m w sv) (hm0 : 0 < m) (h1 : ∀ i, (g i).oneCell' = true)
    (h63 : n + m ≤ maxLen) (hbytes : (n + m) * bytes ≤ 140737488355328) (hbase : base ≤ w.heap.size)
    (h : ∀ v' w', w'.ownsRow base e 1 v' (n + m) (xs ++ (List.range m).map g) → w.grownBy w' v.ownBlock → (v'.ownBlock = v.ownBlock ∨ v'.ownBlock = some w.heap.size) → wpList P ops Q rest (a.put o.dst v') w') : wpList P ops Q (o :: rest) a w := by
  obtain ⟨ad, cap, rfl, hn, hm, hnil, hcs⟩ := hsl
  obtain ⟨b, off, rfl, _, h4, h5⟩ := hcs.resolve_left (by omega)
  have hnews : ∀ j u, ((List.range m).map g)[j]? = some u → w.cell? ((⟨b, off, none⟩ : Addr).add j) = some u := fun j u hu => by
    have hj : j < m := by
      rcases Nat.lt_or_ge j m with h' | h'
      · exact h'
      · simp [h'] at hu
    rw [show ((⟨b, off, none⟩ : Addr).add j) = ⟨b, off + j, none⟩ from by unfold Addr.add; by_cases e : j = 0 <;> simp [e], h5 j hj]
    simp [hj] at hu
    rw [hu]
  have hone : ∀ u ∈ (List.range m).map g, u.oneCell' = true := fun u hu => by
    obtain ⟨j, _, rfl⟩ := List.mem_map.1 hu
    exact h1 j
  refine wpList_plain hgd fun _ hK => ?_
  obtain ⟨v', w', hr, h2, h3, _⟩ := run_append_own (P := P) w base t o.type e i z 1 bytes ht hi hz hsize hby hzs (by decide) v n xs hown ⟨b, off, none⟩ m cap ((List.range m).map g) (by simp) hnews hone h63 hbytes hbase
  have hrow := append_row w base t o.type e i z bytes ht hi hz hsize hby hzs v n xs hown ⟨b, off, none⟩ m cap ((List.range m).map g) (by simp) hm0 hnews hone h63 hbytes hr
  unfold Oper.wp execOp
  simp only [ho, resolve, invoke, builtin, Sem.run_bind, Sem.run_pure, Result.andThen_ok, List.map_toArray, List.map_cons, List.map_nil, hs, hx, hr]
  exact hK _ _ (h v' w' h2 h3 hrow)
end
end Go.Proofs.Ythbijjpaljjapaa
