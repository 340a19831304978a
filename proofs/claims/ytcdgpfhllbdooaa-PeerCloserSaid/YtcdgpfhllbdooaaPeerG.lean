
/-
  The law PeerList: for every world, address and peer, whatever the memory; no conditions.
-/
import Derived.Test.YtcdgpfhllbdooaaPeerF
namespace Go.Proofs.Ytcdgpfhllbdooaa
open Go.RowKit Go.Joins Go.WideShapes Go.ChangeShapes
set_option linter.unusedVariables false
set_option linter.unusedSimpArgs false
attribute [local go_sem] later_cell later_frozen later_lt cell_set_off cell_set_block

theorem cellsPeer : Try.prog.cellsOf 30 = 3 := by kernel_rfl
theorem peer_of_trod {H : Type} {enc : TypeId × Value → H} {W : World} {r : Reach} {b0 : Nat} {v : Value} {d : DataW H} {p : List MemPlace} (hv : Value.okWide Try.prog W r b0 30 v)
    (h : DataW.Trod enc Try.prog W 0 (fun _ => true) true 30 v d p) : ∃ id pred l, PeerAt W v id pred l ∧ (Lit.int .u64 id).wf = true ∧ (Lit.int .i64 pred).wf = true ∧ l.length ≤ maxLen := by
  obtain ⟨v0, v1, v2, y0, y1, y2, n, rfl, _, _, h0, h1, h2⟩ := open_agg3 Try.underlying30 (by kernel_rfl) cellsPeer hv h
  obtain ⟨id, e0, _, w0⟩ := DataW.trod_int Try.underlying27 h0
  obtain ⟨pred, e1, _, w1⟩ := DataW.trod_int Try.underlying3 h1
  obtain ⟨l, hl, _⟩ := ints_of_trod Try.underlying28 cellsInt Try.underlying3 h2
  simp at e0 e1
  subst e0 e1
  exact ⟨id, pred, l, ⟨_, rfl, hl⟩, w0, w1, by obtain ⟨_, _, _, h2, h3, _⟩ := hl; exact Nat.le_trans h2 h3⟩

/-- A new peer is answered. -/
def NewPeer (w : World) (id pred : Int) (l : List Int) (e : Ending) (w' : World) : Prop := ∃ lv, e = .returned (.agg #[.int .u64 id, .int .i64 pred, lv]) ∧ SlAt w.heap.size (fun i => .int .i64 (nth l i)) l.length w' lv ∧ Below w.heap.size w w'

theorem cut9_any (w : World) (v : Value) (id pred : Int) (l : List Int) (hp : PeerAt w v id pred l) (hlm : l.length ≤ maxLen) :
    Calls Try.prog 20 #[v] w (NewPeer w id pred (l.take 8)) := by
  obtain ⟨lv, rfl, hl⟩ := hp
  obtain ⟨i0, hi, hz0, hz1, hz2⟩ := info_parts infoInt
  have HL := Lib.hid hl
  obtain ⟨la, lc, rfl, hac, _, _, _⟩ := hl
  have hlm' : l.length ≤ 9223372036854775807 := hlm
  clear hlm
  have hcut : ∃ m : Nat, m ≤ l.length ∧ m ≤ 8 ∧ (l.take 8).length = m ∧ (8 < l.length ∧ m = 8 ∨ ¬ 8 < l.length ∧ m = l.length) := by
    by_cases h : 8 < l.length
    · exact ⟨8, by omega, by omega, by simp; omega, Or.inl ⟨h, rfl⟩⟩
    · exact ⟨l.length, by omega, by omega, by simp; omega, Or.inr ⟨h, rfl⟩⟩
  obtain ⟨m, hm1, hm2, hm3, hm4⟩ := hcut
  have HM := Lib.hid hm3
  have H8 := Lib.hid (HL.out.take (m := m) hm1)
  have he : ∀ i, i < m → ((List.range m).map (fun i => Value.int IntKind.i64 (nth l i))).getD i undef = .int .i64 (nth (l.take 8) i) := by
    intro i hi
    rw [nth_take (by omega)]; simp [hi]
  have HE := Lib.hid he
  clear hm3 he HL
  rcases hm4 with ⟨h, e⟩ | ⟨h, e⟩
  · subst e
    go_enter Try.func20, Try.ntmps20
    go_wp2_with (at_builtin; refine wpList_app rfl _ _ 28 rfl (w.heap.size + 1 + 1) 3 i0 (.int .i64 0) 8 Try.underlying28 hi hz0 hz1 hz2 rfl _ 0 [] rfl (own_lit _ [] 3 _ _ 0 (by first | (simp; done) | (simp; omega) | omega | (simp [maxLen]; done) | (simp [maxLen]; omega) | (simp only [maxLen]; omega)) rfl (by first | (simp; done) | (simp; omega) | omega | (simp [maxLen]; done) | (simp [maxLen]; omega) | (simp only [maxLen]; omega)) (by first | (simp; done) | (simp; omega) | omega | (simp [maxLen]; done) | (simp [maxLen]; omega) | (simp only [maxLen]; omega))) _ _ _ _ rfl (H8.out.below (by (repeat (first | exact Below.refl _ _ | (with_reducible assumption) | (with_reducible refine bel_later ?_ _) | (with_reducible refine bel_alloc ?_ _) | (with_reducible refine bel_drew ?_) | (with_reducible refine bel_drewN ?_ _) | (with_reducible refine bel_set ?_ (by first | (simp; done) | (simp; omega) | (dsimp only; omega)) _))))) (fun _ => rfl) (by first | (simp; done) | (simp; omega) | omega | (simp [maxLen]; done) | (simp [maxLen]; omega) | (simp only [maxLen]; omega)) (by first | (simp; done) | (simp; omega) | omega | (simp [maxLen]; done) | (simp [maxLen]; omega) | (simp only [maxLen]; omega)) (by first | (simp; done) | (simp; omega) | omega | (simp [maxLen]; done) | (simp [maxLen]; omega) | (simp only [maxLen]; omega)) ?_)
    intro v' w1 hown hg
    have hsl := own_slAt hown
    have hB : Below w.heap.size w w1 := (by (repeat (first | exact Below.refl _ _ | (with_reducible assumption) | (with_reducible refine bel_later ?_ _) | (with_reducible refine bel_alloc ?_ _) | (with_reducible refine bel_drew ?_) | (with_reducible refine bel_drewN ?_ _) | (with_reducible refine bel_set ?_ (by first | (simp; done) | (simp; omega) | (dsimp only; omega)) _))) : Below w.heap.size w _).grown hg (by simp; omega) (fun k hk => by simp [Value.ownBlock] at hk; omega)
    have c0 : w1.cell? ⟨w.heap.size, 0, none⟩ = some (.int .u64 id) := hg.cell (by simp [go_sem]) (by simp [Value.ownBlock] <;> omega)
    have c1 : w1.cell? ⟨w.heap.size, 1, none⟩ = some (.int .i64 pred) := hg.cell (by simp [go_sem]) (by simp [Value.ownBlock] <;> omega)
    obtain ⟨u, c2⟩ : ∃ u, w1.cell? ⟨w.heap.size, 2, none⟩ = some u := ⟨_, hg.cell (by simp [go_sem]; rfl) (by simp [Value.ownBlock] <;> omega)⟩
    have d0 : w1.cell? ⟨w.heap.size + 1, 0, none⟩ = some (.int .u64 0) := hg.cell (by simp [go_sem]) (by simp [Value.ownBlock] <;> omega)
    have d1 : w1.cell? ⟨w.heap.size + 1, 1, none⟩ = some (.int .i64 0) := hg.cell (by simp [go_sem]) (by simp [Value.ownBlock] <;> omega)
    have d2 : w1.cell? ⟨w.heap.size + 1, 2, none⟩ = some (.slice none 0 0) := hg.cell (by simp [go_sem]) (by simp [Value.ownBlock] <;> omega)
    have f2 : w1.frozen? ⟨w.heap.size, 2, none⟩ = false := by rw [World.frozen?_of_block (hg.block _ (by simp <;> omega) (by simp [Value.ownBlock] <;> omega))]; simp [go_sem]
    have f3 : ∀ i, w1.frozen? ⟨w.heap.size + 1, i, none⟩ = false := fun i => by rw [World.frozen?_of_block (hg.block _ (by simp <;> omega) (by simp [Value.ownBlock] <;> omega))]; simp [go_sem]
    obtain ⟨sa, sc, hv, _⟩ := hsl
    have HS := Lib.hid (own_slAt hown)
    rw [hv] at HS ⊢
    clear hown hg hv
    go_wp2
    refine bodyPost_ret (v := .agg #[.int .u64 id, .int .i64 pred, .slice sa 8 sc]) ?_ rfl ⟨_, rfl, ?_, ?_⟩
    · simp [results, Try.results20, go_sem, c0, c1, c2, d0, d1, d2]
    · rw [HM.out]
      exact ((((((HS.out.congr fun i hi => HE.out i hi).set (by dsimp only; omega) _).set (by dsimp only; omega) _).set (by dsimp only; omega) _).set (by dsimp only; omega) _).base (by omega))
    · (repeat (first | exact Below.refl _ _ | (with_reducible assumption) | (with_reducible refine bel_later ?_ _) | (with_reducible refine bel_alloc ?_ _) | (with_reducible refine bel_drew ?_) | (with_reducible refine bel_drewN ?_ _) | (with_reducible refine bel_set ?_ (by first | (simp; done) | (simp; omega) | (dsimp only; omega)) _)))
  · subst e
    go_enter Try.func20, Try.ntmps20
    go_wp2_with (at_builtin; refine wpList_app rfl _ _ 28 rfl (w.heap.size + 1 + 1) 3 i0 (.int .i64 0) 8 Try.underlying28 hi hz0 hz1 hz2 rfl _ 0 [] rfl (own_lit _ [] 3 _ _ 0 (by first | (simp; done) | (simp; omega) | omega | (simp [maxLen]; done) | (simp [maxLen]; omega) | (simp only [maxLen]; omega)) rfl (by first | (simp; done) | (simp; omega) | omega | (simp [maxLen]; done) | (simp [maxLen]; omega) | (simp only [maxLen]; omega)) (by first | (simp; done) | (simp; omega) | omega | (simp [maxLen]; done) | (simp [maxLen]; omega) | (simp only [maxLen]; omega))) _ _ _ _ rfl (H8.out.below (by (repeat (first | exact Below.refl _ _ | (with_reducible assumption) | (with_reducible refine bel_later ?_ _) | (with_reducible refine bel_alloc ?_ _) | (with_reducible refine bel_drew ?_) | (with_reducible refine bel_drewN ?_ _) | (with_reducible refine bel_set ?_ (by first | (simp; done) | (simp; omega) | (dsimp only; omega)) _))))) (fun _ => rfl) (by first | (simp; done) | (simp; omega) | omega | (simp [maxLen]; done) | (simp [maxLen]; omega) | (simp only [maxLen]; omega)) (by first | (simp; done) | (simp; omega) | omega | (simp [maxLen]; done) | (simp [maxLen]; omega) | (simp only [maxLen]; omega)) (by first | (simp; done) | (simp; omega) | omega | (simp [maxLen]; done) | (simp [maxLen]; omega) | (simp only [maxLen]; omega)) ?_)
    intro v' w1 hown hg
    have hsl := own_slAt hown
    have hB : Below w.heap.size w w1 := (by (repeat (first | exact Below.refl _ _ | (with_reducible assumption) | (with_reducible refine bel_later ?_ _) | (with_reducible refine bel_alloc ?_ _) | (with_reducible refine bel_drew ?_) | (with_reducible refine bel_drewN ?_ _) | (with_reducible refine bel_set ?_ (by first | (simp; done) | (simp; omega) | (dsimp only; omega)) _))) : Below w.heap.size w _).grown hg (by simp; omega) (fun k hk => by simp [Value.ownBlock] at hk; omega)
    have c0 : w1.cell? ⟨w.heap.size, 0, none⟩ = some (.int .u64 id) := hg.cell (by simp [go_sem]) (by simp [Value.ownBlock] <;> omega)
    have c1 : w1.cell? ⟨w.heap.size, 1, none⟩ = some (.int .i64 pred) := hg.cell (by simp [go_sem]) (by simp [Value.ownBlock] <;> omega)
    obtain ⟨u, c2⟩ : ∃ u, w1.cell? ⟨w.heap.size, 2, none⟩ = some u := ⟨_, hg.cell (by simp [go_sem]; rfl) (by simp [Value.ownBlock] <;> omega)⟩
    have d0 : w1.cell? ⟨w.heap.size + 1, 0, none⟩ = some (.int .u64 0) := hg.cell (by simp [go_sem]) (by simp [Value.ownBlock] <;> omega)
    have d1 : w1.cell? ⟨w.heap.size + 1, 1, none⟩ = some (.int .i64 0) := hg.cell (by simp [go_sem]) (by simp [Value.ownBlock] <;> omega)
    have d2 : w1.cell? ⟨w.heap.size + 1, 2, none⟩ = some (.slice none 0 0) := hg.cell (by simp [go_sem]) (by simp [Value.ownBlock] <;> omega)
    have f2 : w1.frozen? ⟨w.heap.size, 2, none⟩ = false := by rw [World.frozen?_of_block (hg.block _ (by simp <;> omega) (by simp [Value.ownBlock] <;> omega))]; simp [go_sem]
    have f3 : ∀ i, w1.frozen? ⟨w.heap.size + 1, i, none⟩ = false := fun i => by rw [World.frozen?_of_block (hg.block _ (by simp <;> omega) (by simp [Value.ownBlock] <;> omega))]; simp [go_sem]
    obtain ⟨sa, sc, hv, _⟩ := hsl
    have HS := Lib.hid (own_slAt hown)
    rw [hv] at HS ⊢
    clear hown hg hv
    go_wp2
    refine bodyPost_ret (v := .agg #[.int .u64 id, .int .i64 pred, .slice sa l.length sc]) ?_ rfl ⟨_, rfl, ?_, ?_⟩
    · simp [results, Try.results20, go_sem, c0, c1, c2, d0, d1, d2]
    · rw [HM.out]
      exact ((((((HS.out.congr fun i hi => HE.out i hi).set (by dsimp only; omega) _).set (by dsimp only; omega) _).set (by dsimp only; omega) _).set (by dsimp only; omega) _).base (by omega))
    · (repeat (first | exact Below.refl _ _ | (with_reducible assumption) | (with_reducible refine bel_later ?_ _) | (with_reducible refine bel_alloc ?_ _) | (with_reducible refine bel_drew ?_) | (with_reducible refine bel_drewN ?_ _) | (with_reducible refine bel_set ?_ (by first | (simp; done) | (simp; omega) | (dsimp only; omega)) _)))

set_option maxHeartbeats 1000000 in
theorem peerList_at (W : World) (v : Value) (L : List Bool) (I : List Int) (hv : WorldAt W v L I) (hm : L.length ≤ maxLen) (s : Int) (pv : Value) (id pred : Int) (l : List Int) (hp : PeerAt W pv id pred l) (hlm : l.length ≤ maxLen) :
    Calls Try.prog 4 #[v, .int .i64 s, pv] W fun e W' => e = .returned (.bool true) ∧ Below W.heap.size W W' := by
  have hlv := Lib.hid fun (wr : World) (hb : Below W.heap.size W wr) (n : Int) => lives_any wr v L I (hv.below hb) n hm
  have hhd := Lib.hid fun (wr : World) (hb : Below W.heap.size W wr) (lv : Value) (l : List Int) (hl : SlAt 0 (fun i => .int .i64 (nth l i)) l.length wr lv) (hq : l.length ≤ 4000000000) => head_any wr v L I (hv.below hb) hm _ 0 0 l ⟨lv, rfl, hl⟩ hq
  have hct := Lib.hid fun (wr : World) (hb : Below W.heap.size W wr) => cut9_any wr pv id pred l (by obtain ⟨lv, rfl, hl⟩ := hp; exact ⟨lv, rfl, hl.below hb⟩) hlm
  obtain ⟨x1, x2, rfl, hx1, hx2⟩ := hv
  obtain ⟨a1, c1, rfl, _⟩ := hx1
  obtain ⟨a2, c2, rfl, _⟩ := hx2
  obtain ⟨lv, rfl, hl⟩ := hp
  obtain ⟨la, lc, rfl, _⟩ := hl
  have hm' : L.length ≤ 9223372036854775807 := hm
  clear hm
  go_enter Try.func4, Try.ntmps4
  go_wp2_with fail
  refine (hct.out _ (by (repeat (first | exact Below.refl _ _ | (with_reducible assumption) | (with_reducible refine bel_later ?_ _) | (with_reducible refine bel_alloc ?_ _) | (with_reducible refine bel_drew ?_) | (with_reducible refine bel_drewN ?_ _) | (with_reducible refine bel_set ?_ (by first | (simp; done) | (simp; omega) | (dsimp only; omega)) _))))).mono ?_
  rintro e w1 ⟨cv, rfl, hcs, hb⟩
  have HS := Lib.hid hcs
  obtain ⟨ca, cc, rfl, _⟩ := hcs
  have hB1 : Below W.heap.size W w1 := bel_below (bel_alloc (bel_alloc (Below.refl _ _) _) _) hb
  have k0 : w1.cell? ⟨W.heap.size, 0, none⟩ = some (.slice a1 L.length c1) := by rw [hb.cell (by simp <;> omega)]; simp [go_sem]
  have k1 : w1.cell? ⟨W.heap.size, 1, none⟩ = some (.slice a2 I.length c2) := by rw [hb.cell (by simp <;> omega)]; simp [go_sem]
  have m0 : w1.cell? ⟨W.heap.size + 1, 0, none⟩ = some (.int .u64 id) := by rw [hb.cell (by simp <;> omega)]; simp [go_sem]
  have m1 : w1.cell? ⟨W.heap.size + 1, 1, none⟩ = some (.int .i64 pred) := by rw [hb.cell (by simp <;> omega)]; simp [go_sem]
  have m2 : w1.cell? ⟨W.heap.size + 1, 2, none⟩ = some (.slice la l.length lc) := by rw [hb.cell (by simp <;> omega)]; simp [go_sem]
  have f1 : ∀ i, w1.frozen? ⟨W.heap.size + 1, i, none⟩ = false := fun i => by rw [hb.frozen (by simp <;> omega)]; simp [go_sem]
  have z1 : W.heap.size + 1 < w1.heap.size := by have := hb.size; simp at this; omega
  clear hb
  generalize hcl : l.take 8 = cl at HS ⊢
  have hcl2 : cl.length ≤ 8 := by rw [← hcl]; simp; omega
  clear hcl
  by_cases g1 : 40 < L.length
  · go_wp2_with (go_at_call 15; refine (aw9_any _).mono ?_; rintro e w' ⟨rfl, hb⟩)
    go_ret
    exact ⟨rfl, bel_below (by (repeat (first | exact Below.refl _ _ | (with_reducible assumption) | (with_reducible refine bel_later ?_ _) | (with_reducible refine bel_alloc ?_ _) | (with_reducible refine bel_drew ?_) | (with_reducible refine bel_drewN ?_ _) | (with_reducible refine bel_set ?_ (by first | (simp; done) | (simp; omega) | (dsimp only; omega)) _)))) hb⟩
  cases g2 : livesB L s
  · go_wp2_with (first | (go_at_call 16; refine (hlv.out _ (by (repeat (first | exact Below.refl _ _ | (with_reducible assumption) | (with_reducible refine bel_later ?_ _) | (with_reducible refine bel_alloc ?_ _) | (with_reducible refine bel_drew ?_) | (with_reducible refine bel_drewN ?_ _) | (with_reducible refine bel_set ?_ (by first | (simp; done) | (simp; omega) | (dsimp only; omega)) _)))) _).mono ?_; rintro e w2 ⟨rfl, hb2⟩) | (go_at_call 15; refine (aw9_any _).mono ?_; rintro e w' ⟨rfl, hb⟩))
    go_ret
    exact ⟨rfl, bel_below (bel_below (by (repeat (first | exact Below.refl _ _ | (with_reducible assumption) | (with_reducible refine bel_later ?_ _) | (with_reducible refine bel_alloc ?_ _) | (with_reducible refine bel_drew ?_) | (with_reducible refine bel_drewN ?_ _) | (with_reducible refine bel_set ?_ (by first | (simp; done) | (simp; omega) | (dsimp only; omega)) _)))) hb2) hb⟩
  · go_wp2_with fail
    refine (hlv.out _ (by (repeat (first | exact Below.refl _ _ | (with_reducible assumption) | (with_reducible refine bel_later ?_ _) | (with_reducible refine bel_alloc ?_ _) | (with_reducible refine bel_drew ?_) | (with_reducible refine bel_drewN ?_ _) | (with_reducible refine bel_set ?_ (by first | (simp; done) | (simp; omega) | (dsimp only; omega)) _)))) _).mono ?_
    rintro e w2 ⟨rfl, hb2⟩
    have n0 : w2.cell? ⟨W.heap.size + 1, 0, none⟩ = some (.int .u64 id) := by rw [hb2.cell (by simp only [size_set]; omega)]; simp [go_sem, m0, m1, m2]
    have n1 : w2.cell? ⟨W.heap.size + 1, 1, none⟩ = some (.int .i64 pred) := by rw [hb2.cell (by simp only [size_set]; omega)]; simp [go_sem, m0, m1, m2]
    have n2 : w2.cell? ⟨W.heap.size + 1, 2, none⟩ = some (.slice ca cl.length cc) := by rw [hb2.cell (by simp only [size_set]; omega)]; simp [go_sem, m0, m1, m2]
    have k0' : w2.cell? ⟨W.heap.size, 0, none⟩ = some (.slice a1 L.length c1) := by rw [hb2.cell (by simp only [size_set]; omega)]; simp [go_sem, k0]
    have k1' : w2.cell? ⟨W.heap.size, 1, none⟩ = some (.slice a2 I.length c2) := by rw [hb2.cell (by simp only [size_set]; omega)]; simp [go_sem, k1]
    have hsz := hb2.size
    simp only [size_set] at hsz
    have hB2 : Below W.heap.size W w2 := bel_below (by (repeat (first | exact Below.refl _ _ | (with_reducible assumption) | (with_reducible refine bel_later ?_ _) | (with_reducible refine bel_alloc ?_ _) | (with_reducible refine bel_drew ?_) | (with_reducible refine bel_drewN ?_ _) | (with_reducible refine bel_set ?_ (by first | (simp; done) | (simp; omega) | (dsimp only; omega)) _)))) hb2
    have HS2 : Hid (SlAt 0 (fun i => Value.int IntKind.i64 (nth cl i)) cl.length w2 (.slice ca cl.length cc)) :=
      (((HS.out.set (by simp) _).set (by simp) _).set (by simp) _).below hb2 |>.base (Nat.zero_le _)
    clear hb2 k0 k1 m0 m1 m2 f1
    go_wp2_with fail
    refine (follow_any _ s _ id pred cl ⟨_, rfl, HS2.out⟩ (by omega)).mono ?_
    rintro e w3 ⟨v3, rfl, hs3, hb3⟩
    have k0 : w3.cell? ⟨W.heap.size, 0, none⟩ = some (.slice a1 L.length c1) := by rw [hb3.cell (by dsimp only; omega)]; exact k0'
    have k1 : w3.cell? ⟨W.heap.size, 1, none⟩ = some (.slice a2 I.length c2) := by rw [hb3.cell (by dsimp only; omega)]; exact k1'
    have hsz3 := hb3.size
    have hB3 := bel_below hB2 hb3
    have hl3 : ((s :: cl).take 3).length ≤ 3 ∧ 1 ≤ ((s :: cl).take 3).length ∧ nth ((s :: cl).take 3) 0 = s := by simp [nth]; omega
    obtain ⟨hl3, hl31, hn3⟩ := hl3
    obtain ⟨_, g3, o3, cap3, hv3, hcap3, hm3, hg3, hg3', hc3⟩ := hs3.parts.resolve_left (by omega)
    have cell3 := hc3 0 (by omega)
    rw [hn3] at cell3
    have HS3 := Lib.hid (hs3.base (Nat.zero_le _))
    have hhd3 : Hid (headB L ((s :: cl).take 3) = s) := by
      have e : headB L ((s :: cl).take 3) = s := by simp [headB, g2]
      exact e
    clear hs3 hb3 hc3 k0' k1' n0 n1 n2 hn3
    generalize hnl : ((s :: cl).take 3) = nl at *
    rw [hv3] at HS3 ⊢
    clear hv3 hnl
    go_wp2_with fail
    refine (aw9_any _).mono ?_
    rintro e w4 ⟨rfl, hb4⟩
    have k0' : w4.cell? ⟨W.heap.size, 0, none⟩ = some (.slice a1 L.length c1) := by rw [hb4.cell (by dsimp only; omega)]; exact k0
    have k1' : w4.cell? ⟨W.heap.size, 1, none⟩ = some (.slice a2 I.length c2) := by rw [hb4.cell (by dsimp only; omega)]; exact k1
    have cell4 : w4.cell? ⟨g3, o3, none⟩ = some (.int .i64 s) := by rw [hb4.cell (by exact hg3')]; exact cell3
    clear k0 k1 cell3
    go_wp2_with fail
    refine (hhd.out _ (bel_below hB3 hb4) _ nl (HS3.out.below hb4) (by omega)).mono ?_
    rintro e w5 ⟨rfl, hb5⟩
    rw [hhd3.out]
    go_wp2_with fail
    go_ret
    exact ⟨by first | rfl | simp, bel_below (bel_below hB3 hb4) hb5⟩

theorem peerList_walk {H : Type} (enc : TypeId × Value → H) (W : World) (v0 : Value) (d0 : DataW H) (p0 : List MemPlace) {r0 : Reach} {b0 : Nat} (ok0 : Value.okWide Try.prog W r0 b0 25 v0) (h0 : DataW.Trod enc Try.prog W 0 (fun _ => true) true 25 v0 d0 p0)
    (hlt0 : ∀ x ∈ p0, x.block < W.heap.size) (sz0 : ∀ n ∈ d0.weights Try.prog 25, n ≤ reachBytes) (s : Int) (hs : (Lit.int .i64 s).wf = true)
    (v1 : Value) (d1 : DataW H) (p1 : List MemPlace) {r1 : Reach} {b1 : Nat} (ok1 : Value.okWide Try.prog W r1 b1 30 v1) (h1 : DataW.Trod enc Try.prog W 0 (fun _ => true) true 30 v1 d1 p1)
    (hlt1 : ∀ x ∈ p1, x.block < W.heap.size) (sz1 : ∀ n ∈ d1.weights Try.prog 30, n ≤ reachBytes) :
    Calls Try.prog 4 #[v0, .int .i64 s, v1] W fun e W' => e = .returned (.bool true) ∧ Below W.heap.size W W' := by
  obtain ⟨L, I, hW, _, hL, hI⟩ := world_of_trod ok0 h0
  obtain ⟨id, pred, l, hp, _, _, hl⟩ := peer_of_trod ok1 h1
  exact peerList_at W v0 L I hW hL s v1 id pred l hp hl
end Go.Proofs.Ytcdgpfhllbdooaa
