/-
  A list of entries that came in, opened.
-/
import Derived.Test.YtacdgfkahppmdaaTabG
namespace Go.Proofs.Ytacdgfkahppmdaa
open Go.RowKit Go.Maps Go.Sort Go.WideShapes Go.ChangeShapes Go.Deep
set_option linter.unusedVariables false
set_option linter.unusedSimpArgs false
section
variable {H : Type} {enc : TypeId × Value → H} {P : Program} {w : World} {base : Nat} {spare : Nat → Bool} {held : Bool}
theorem open_fieldsT {t e : TypeId} {fs : Array Field} {fuel : Nat} {cs : List Value} {x : DataW H × List MemPlace} (ht : P.underlying t = some (.slice e)) (he : P.underlying e = some (.struct fs))
    (hone : oneCellFields P fs = true) (hC : P.cellsOf e = fs.size) (h : DataW.trod enc P w base spare held fuel t cs = some x) :
    (cs = [.slice none 0 0] ∧ x = (.nil, [])) ∨
    ∃ (a : Addr) (len cap m : Nat) (D : Nat → DataW H) (Pl : Nat → List MemPlace), cs = [.slice (some a) len cap] ∧ base ≤ a.block ∧ len ≤ cap ∧ cap ≤ maxLen ∧ m = (if spare a.block then cap else len) ∧
      x = (.slice ((List.range len).map D) ((List.range (m - len)).map fun j => D (len + j)), MemPlace.row a (m * fs.size) ++ (List.range m).flatMap Pl) ∧
      ∀ i, i < m → ∃ (ys : List (DataW H × List MemPlace)) (n : Nat), D i = .agg (ys.map (·.1)) ∧ Pl i = ys.flatMap (·.2) ∧ ys.length = fs.size ∧
        ∀ (j : Nat) (f : Field), fs[j]? = some f → ∃ (v : Value) (y : DataW H × List MemPlace), w.cell? (a.add (i * fs.size + j)) = some v ∧ ys[j]? = some y ∧ DataW.trod enc P w base spare held n f.type [v] = some y := by
  rcases open_slice ht h with h0 | ⟨a, len, cap, m, n, D, Pl, hcs, hb, hl, hm, hmm, hx, hi⟩
  · exact .inl h0
  · refine .inr ⟨a, len, cap, m, D, Pl, hcs, hb, hl, hm, hmm, by rw [hC] at hx; exact hx, fun i him => ?_⟩
    obtain ⟨cs', hc, ht'⟩ := hi i him
    rw [hC] at hc
    obtain ⟨ys, n', hn', hy, hlen, hyl, hf⟩ := DataW.trod_struct he ht'
    obtain ⟨_, hcl, hat⟩ := World.cells?_some hc
    simp only [Prod.mk.injEq] at hy
    refine ⟨ys, n', hy.1, hy.2, hyl, fun j f hj => ?_⟩
    obtain ⟨ho, hk⟩ := hone_of hone j f hj
    have hjl : j < fs.size := (Array.getElem?_eq_some_iff.1 hj).1
    have hcell := hat j hjl
    have hv : cs'[j]? = some (cs'[j]'(by omega)) := List.getElem?_eq_getElem (by omega)
    have h1 := hf j f hj
    rw [ho, hk] at h1
    have hone' : (cs'.drop j).take 1 = [cs'[j]'(by omega)] := by
      rw [List.drop_eq_getElem_cons (by omega)]
      rfl
    rw [hone'] at h1
    have hys : ys[j]? = some (ys[j]'(by omega)) := List.getElem?_eq_getElem (by omega)
    refine ⟨_, _, ?_, hys, h1.trans hys⟩
    rw [← Go.Deep.add_add, hcell, hv]
end
theorem spot_cellT {w : World} {a : Addr} {v : Value} (h : w.cell? a = some v) : a.spot = none ∧ a.block < w.heap.size := by
  unfold World.cell? at h
  constructor
  · cases hsp : a.spot with
    | none => rfl
    | some s => rw [hsp] at h; simp at h; split at h <;> simp_all
  · rcases Nat.lt_or_ge a.block w.heap.size with h' | h'
    · exact h'
    · rw [Array.getElem?_eq_none h'] at h; simp at h
theorem placeOfT {a : Int} (h : (Lit.int .u64 a).wf = true) : isPlace a := by
  simp [Lit.wf, IntKind.min, IntKind.max, IntKind.bits, IntKind.signed] at h; unfold isPlace; omega
instance : Inhabited Row := ⟨⟨default, undef⟩⟩
theorem bs_data (b : ByteArray) : bs b.data.toList = b := by cases b; simp [bs]
theorem cellsStrT : Try.prog.cellsOf 9 = 1 := by kernel_rfl
set_option maxRecDepth 100000 in
theorem ents_open {H : Type} {enc : TypeId × Value → H} {W : World} {v0 : Value} {d0 : DataW H} {p0 : List MemPlace} {r0 : Reach} {b0 : Nat} (ok0 : Value.okWide Try.prog W r0 b0 22 v0) (h0 : DataW.Trod enc Try.prog W 0 (fun _ => true) true 22 v0 d0 p0) :
    ∃ l : List Ent, EntsIn (fun _ => True) l W v0 ∧ ∀ e ∈ l, okInt e.c ∧ okInt e.t := by
  obtain ⟨a, n, c, rfl⟩ := okWide_slice Try.underlying22 ok0
  obtain ⟨fuel, hf⟩ := h0
  have hu : ∃ f0 f1 f2 f3 f4 : Field, Try.prog.underlying 30 = some (.struct #[f0, f1, f2, f3, f4]) ∧ f0.type = 9 ∧ f1.type = 3 ∧ f2.type = 28 ∧ f3.type = 4 ∧ f4.type = 3 ∧ oneCellFields Try.prog #[f0, f1, f2, f3, f4] = true := ⟨_, _, _, _, _, Try.underlying30, rfl, rfl, rfl, rfl, rfl, by kernel_rfl⟩
  obtain ⟨f0, f1, f2, f3, f4, hu, t0, t1, t2, t3, t4, hone⟩ := hu
  rcases open_fieldsT Try.underlying22 hu hone (by kernel_rfl) hf with ⟨hcs, _⟩ | ⟨a', len, cap, m, D, Pl, hcs, _, hl, hm, hmm, _, hV⟩
  · simp [Value.cells] at hcs
    obtain ⟨rfl, rfl, rfl⟩ := hcs
    exact ⟨[], ⟨[], none, 0, rfl, rfl, Nat.le_refl _, Nat.zero_le _, fun _ => rfl, Or.inl rfl, by simp⟩, by simp⟩
  · simp [Value.cells] at hcs
    obtain ⟨rfl, rfl, rfl⟩ := hcs
    simp only [if_true] at hmm
    subst hmm
    have hx : ∀ i, i < n → ∃ r : Row, (okInt r.e.c ∧ okInt r.e.t ∧ SlT (fun _ => True) r.e.fs W r.v) ∧ ∀ j u, r.cells[j]? = some u → W.cell? (a'.add (i * 5 + j)) = some u := by
      intro i hi
      obtain ⟨ys, m, _, _, _, hg⟩ := hV i (by omega)
      obtain ⟨v0, y0, c0, _, e0⟩ := hg 0 f0 rfl
      obtain ⟨v1, y1, c1, _, e1⟩ := hg 1 f1 rfl
      obtain ⟨v2, y2, c2, _, e2⟩ := hg 2 f2 rfl
      obtain ⟨v3, y3, c3, _, e3⟩ := hg 3 f3 rfl
      obtain ⟨v4, y4, c4, _, e4⟩ := hg 4 f4 rfl
      rw [t0] at e0; rw [t1] at e1; rw [t2] at e2; rw [t3] at e3; rw [t4] at e4
      obtain ⟨s0, h0, _⟩ := DataW.trod_string Try.underlying9 e0
      obtain ⟨z1, h1, _, w1⟩ := DataW.trod_int Try.underlying3 e1
      obtain ⟨z3, h3, _⟩ := DataW.trod_bool Try.underlying4 e3
      obtain ⟨z4, h4, _, w4⟩ := DataW.trod_int Try.underlying3 e4
      simp at h0 h1 h3 h4
      subst h0 h1 h3 h4
      obtain ⟨k, _, V, hs, hVs⟩ := slAt_of_trod Try.underlying28 cellsStrT e2
      have hV' : ∀ i, i < k → ∃ z : ByteArray, V i = .string z := by
        intro i hi
        obtain ⟨y, hy⟩ := hVs i hi
        obtain ⟨z, hz, _⟩ := DataW.trod_string Try.underlying9 hy
        simp at hz; exact ⟨z, hz⟩
      obtain ⟨f, hf⟩ := choose_lt hV'
      refine ⟨⟨⟨s0.data.toList, z1, (List.range k).map fun i => (f i).data.toList, z3, z4⟩, v2⟩, ⟨w1, w4, ?_⟩, fun j u hj => ?_⟩
      · refine SlT.of_slAt (B := 0) ?_ (fun _ _ _ => trivial)
        rw [List.length_map, List.length_range]
        refine hs.congr fun i hi => ?_
        rw [hf i hi]
        unfold nthT sV
        rw [getD_map_range _ k i [] hi, bs_data]
      · have hj5 : j < 5 := (List.getElem?_eq_some_iff.1 hj).1
        have : j = 0 ∨ j = 1 ∨ j = 2 ∨ j = 3 ∨ j = 4 := by omega
        rcases this with rfl | rfl | rfl | rfl | rfl
        · cases hj
          have : sV s0.data.toList = .string s0 := by unfold sV; rw [bs_data]
          rw [this]; exact c0
        · cases hj; exact c1
        · cases hj; exact c2
        · cases hj; exact c3
        · cases hj; exact c4
    obtain ⟨f, hf⟩ := choose_lt hx
    have hlen : ((List.range n).map f).length = n := by simp
    have hgt : ∀ k (hk : k < ((List.range n).map f).length), ((List.range n).map f)[k] = f k := fun k hk => by simp
    refine ⟨entsOf ((List.range n).map f), ⟨(List.range n).map f, some a', _, rfl, by rw [entsOf_len, hlen], by rw [entsOf_len, hlen]; exact hl, hm, fun h => (by cases h), ?_, fun r hr => ?_⟩, fun e he => ?_⟩
    · by_cases h0 : n = 0
      · exact Or.inl (by rw [entsOf_len, hlen]; exact h0)
      · right
        have h1 := (hf 0 (by omega)).2 0 _ rfl
        obtain ⟨hs, hb⟩ := spot_cellT h1
        have hs' : a'.spot = none := by
          have e : (a'.add (0 * 5 + 0)) = a' := by simp [Addr.add]
          rwa [e] at hs
        have hb' : a'.block < W.heap.size := by
          have e : (a'.add (0 * 5 + 0)) = a' := by simp [Addr.add]
          rwa [e] at hb
        refine ⟨a'.block, a'.off, by cases a'; simp at hs'; subst hs'; rfl, trivial, hb', fun k hk => ?_⟩
        rw [hgt k hk]
        refine rowAt_of fun j u hu => ?_
        have := (hf k (by rw [hlen] at hk; exact hk)).2 j u hu
        rw [add_spot _ _ hs'] at this
        rw [Nat.add_assoc]; exact this
    · obtain ⟨i, hi, rfl⟩ := List.mem_map.1 hr
      exact (hf i (List.mem_range.1 hi)).1.2.2
    · obtain ⟨r, hr, rfl⟩ := List.mem_map.1 he
      obtain ⟨i, hi, rfl⟩ := List.mem_map.1 hr
      exact ⟨(hf i (List.mem_range.1 hi)).1.1, (hf i (List.mem_range.1 hi)).1.2.1⟩
end Go.Proofs.Ytacdgfkahppmdaa
