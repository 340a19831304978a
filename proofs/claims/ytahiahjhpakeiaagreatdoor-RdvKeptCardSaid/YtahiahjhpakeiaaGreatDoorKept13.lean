/-
  slices.Insert at int: the library's own text. TURNED by a program out of the kit's own walks at strings (Derived/Shelf/Spec/SlicesInsert, SlicesInsertGrow). slices.Insert at api.Id: the library's own text. TURNED by a program out of the kit's own walks at strings (Derived/Shelf/Spec/SlicesInsert, SlicesInsertGrow). slices.Insert of one element, into a list of the call's own. The members that live, in the order of their places. No program is named here.
-/
import Derived.Test.YtahiahjhpakeiaaGreatDoorKept12
import Derived.Test.YtahiahjhpakeiaaGreatDoorKept2
import Derived.Test.YtahiahjhpakeiaaGreatDoorKept6
import Derived.Shelf.Spec.SlicesInsertGrow
import Derived.Deep.RegionLaw
section
namespace Go.Proofs.YtahiahjhpakeiaaGreatDoor
open Go.Shelf Go.RowKit Go.Lib
set_option linter.unusedVariables false
set_option linter.unusedSimpArgs false
theorem insI_size : ∀ w, (Go.sizeOf 3).run Tryz.prog w = .ok 1 w := fun w => by kernel_rfl
theorem insI_info : ∃ i0, Tryz.prog.info? 3 = some i0 ∧ i0.zero = some (Value.int .i64 0) ∧ i0.size = 1 ∧ i0.bytes = 8 := ⟨intI, intI_at, by kernel_rfl, by kernel_rfl, by kernel_rfl⟩
theorem insI_i9 : (Tryz.prog.info? 3).map (fun i => (i.zero, i.size, i.bytes)) = some (some (Value.int .i64 0), 1, 8) := by kernel_rfl
set_option maxHeartbeats 4000000 in
set_option maxRecDepth 100000 in
theorem insI_shift (b off n c i vb voff m vc : Nat) (cs vs : List Value) (w : World) (hi : i < n) (hm : 0 < m) (hroom : n + m ≤ c) (hc63 : c ≤ 9223372036854775807) (hvb : vb ≠ b)
    (hcl : cs.length = n) (hvl : vs.length = m)
    (hcs : ∀ j v, cs[j]? = some v → w.cell? ⟨b, off + j, none⟩ = some v) (hsp : ∀ j, j < n + m → (w.cell? ⟨b, off + j, none⟩).isSome = true) (hfz : ∀ j, j < n + m → w.frozen? ⟨b, off + j, none⟩ = false)
    (hvs : ∀ j v, vs[j]? = some v → w.cell? ⟨vb, voff + j, none⟩ = some v) (h1c : ∀ v ∈ cs, v.oneCell' = true) (h1v : ∀ v ∈ vs, v.oneCell' = true)
    (tA tB : TypeId) (kA kB : Nat) (hsa : w.shape? vb = some (tA, kA)) (hsb : w.shape? b = some (tB, kB)) (hkB : kB ≠ 0) (hfa : w.frozen? ⟨vb, voff, none⟩ = false) (hfe : w.frozen? ⟨vb, kA, none⟩ = false) :
    Calls Tryz.prog 45 #[.slice (some ⟨b, off, none⟩) n c, .int .i64 i, .slice (some ⟨vb, voff, none⟩) m vc] w fun e w' =>
      e = .returned (.slice (some ⟨b, off, none⟩) (n + m) c) ∧ w' = (w.drew.setCells b (off + (i + m)) (cs.drop i)).setCells b (off + i) vs := by
  have hz1 : ¬ ((m : Int) = 0) := by omega
  have hz2 : ¬ ((i : Int) = (n : Int)) := by omega
  have hsz : (Tryz.prog.info? 3).map (·.size) = some 1 := by
    obtain ⟨i0, hi0, h0, h1, h2⟩ := insI_info
    rw [hi0]; simp [h1]
  have hov : ∀ lb cb, (callFunc 98 #[.slice (some ⟨vb, voff, none⟩) m vc, .slice (some ⟨b, off + (i + m), none⟩) lb cb]).run Tryz.prog w = .ok (.value (.bool false)) w := fun lb cb => by
    rw [run_callFunc_extern Tryz.func98 (by kernel_rfl) (by kernel_rfl) (by kernel_rfl) (e := Extern.SlicesOverlaps.overlaps #[36, 36] #[4]) (by kernel_rfl),
      Lib.run_overlaps_apart w 36 4 3 Tryz.underlying36 1 insI_size ⟨vb, voff, none⟩ ⟨b, off + (i + m), none⟩ m vc lb cb hvb tA tB kA kB hsa hsb hkB hfa hfe]
    rfl
  have hdl : (cs.drop i).length = n - i := by rw [List.length_drop, hcl]
  have hw1 : IntKind.i64.wrap ((i : Int) + (m : Int)) = (i : Int) + (m : Int) := by rw [IntKind.wrap_i64]; omega
  have hb1 : (0 : Int) ≤ (i : Int) + (m : Int) := by omega
  have hin : i ≤ n := by omega
  have htn : ((i : Int) + (m : Int)).toNat = i + m := by omega
  have hb2 : ¬ (c = i + m) := by omega
  have hb3 : (i : Int) ≤ (n : Int) + (m : Int) := by omega
  have hb4 : ¬ (c = i) := by omega
  have hcp1 : ∀ ty dc sc, (Builtin.copy_ #[36, 36] ty #[.slice (some ⟨b, off + (i + m), none⟩) (n + m - (i + m)) dc, .slice (some ⟨b, off + i, none⟩) (n + m - i) sc]).run Tryz.prog w.drew = .ok (goInt (cs.drop i).length) (w.drew.setCells b (off + (i + m)) (cs.drop i)) := fun ty dc sc =>
    run_copy_cells w.drew _ _ ty 3 b (off + (i + m)) (n + m - (i + m)) dc ⟨b, off + i, none⟩ (n + m - i) sc (cs.drop i) Tryz.underlying36 hsz (by rw [hdl]; simp only [Nat.min_def]; split <;> omega)
      (fun j v hj => by rw [Addr.add_lit, Nat.add_assoc]; exact hcs (i + j) v (by rwa [List.getElem?_drop] at hj))
      (fun j hj => by rw [Nat.add_assoc]; exact hsp _ (by omega)) (fun j hj => by rw [Nat.add_assoc]; exact hfz _ (by omega)) (fun v hv => h1c v (List.mem_of_mem_drop hv))
  obtain ⟨W1, hW1⟩ : ∃ W1, W1 = w.drew.setCells b (off + (i + m)) (cs.drop i) := ⟨_, rfl⟩
  have hsp1 : ∀ k, k < n + m → (W1.cell? ⟨b, off + k, none⟩).isSome = true := fun k hk => by
    rw [hW1]
    exact isSome_setCells b _ _ _ (fun j hj => by rw [Nat.add_assoc]; exact hsp _ (by omega)) _ (hsp k hk)
  have hcp2 : ∀ (W : World), (∀ x, W.cell? x = W1.cell? x) → (∀ x, W.frozen? x = W1.frozen? x) → ∀ ty dc, (Builtin.copy_ #[36, 36] ty #[.slice (some ⟨b, off + i, none⟩) (n + m - i) dc, .slice (some ⟨vb, voff, none⟩) m vc]).run Tryz.prog W = .ok (goInt vs.length) (W.setCells b (off + i) vs) := fun W hWc hWf ty dc =>
    run_copy_cells W _ _ ty 3 b (off + i) (n + m - i) dc ⟨vb, voff, none⟩ m vc vs Tryz.underlying36 hsz (by rw [hvl]; simp only [Nat.min_def]; split <;> omega)
      (fun j v hj => by
        rw [Addr.add_lit, hWc, hW1, World.cell?_setCells_out b _ _ _ _ (fun h _ => absurd h hvb)]
        exact hvs j v hj)
      (fun j hj => by rw [hWc, Nat.add_assoc]; exact hsp1 _ (by omega)) (fun j hj => by rw [hWf, hW1, World.frozen?_setCells, Nat.add_assoc]; exact hfz _ (by omega)) h1v
  rw [← hW1] at hcp1
  go_enter Tryz.func45, Tryz.ntmps45
  go_wp2_with (simp only [hov])
  go_region_law (refine step_copy_runI rfl _ _ 36 36 rfl _ _ (by simp [Act.eval, Act.put]) (by simp [Act.eval, Act.put]) (hcp1 _ _ _) ?_)
  go_wp2_with (at_builtin; refine wpList_copy_runI _ rfl _ _ 36 36 rfl _ _ rfl rfl (hcp2 _ (fun _ => rfl) (fun _ => rfl) _ _) ?_)
  go_ret
  first | exact ⟨rfl, rfl⟩ | exact ⟨rfl, by rw [hW1]⟩

set_option maxHeartbeats 4000000 in
set_option maxRecDepth 100000 in
theorem insI_end_room (b off n c vb voff m vc : Nat) (vs : List Value) (w : World) (hm : 0 < m) (hroom : n + m ≤ c) (hc63 : c ≤ 9223372036854775807)
    (hvl : vs.length = m) (hsp : ∀ j, j < m → (w.cell? ⟨b, off + n + j, none⟩).isSome = true) (hfz : ∀ j, j < m → w.frozen? ⟨b, off + n + j, none⟩ = false)
    (hvs : ∀ j v, vs[j]? = some v → w.cell? ⟨vb, voff + j, none⟩ = some v) (h1v : ∀ v ∈ vs, v.oneCell' = true) :
    Calls Tryz.prog 45 #[.slice (some ⟨b, off, none⟩) n c, .int .i64 n, .slice (some ⟨vb, voff, none⟩) m vc] w fun e w' =>
      e = .returned (.slice (some ⟨b, off, none⟩) (n + m) c) ∧ w' = w.setCells b (off + n) vs := by
  have hz1 : ¬ ((m : Int) = 0) := by omega
  have hsrc : Src Tryz.prog 1 36 (.slice (some ⟨vb, voff, none⟩) m vc) m vs w := Src.ofSlice w Tryz.underlying36 ⟨vb, voff, none⟩ m vc vs (by omega) (fun j u hj => by rw [Addr.add_lit]; exact hvs j u hj) h1v
  go_enter Tryz.func45, Tryz.ntmps45
  go_wp2_with (at_builtin; refine wpList_append_room1 _ rfl _ _ 36 36 rfl 3 _ _ Tryz.underlying36 insI_i9 b off n c rfl _ rfl m vs hsrc hroom (by rw [hvl]; exact hsp) (by rw [hvl]; exact hfz) ?_)
  go_ret
  exact ⟨rfl, rfl⟩

set_option maxHeartbeats 4000000 in
set_option maxRecDepth 100000 in
theorem insI_end_grow (base : Option Addr) (n c vb voff m vc : Nat) (cs vs : List Value) (w : World) (hm : 0 < m) (hnc : n ≤ c) (hroom : c < n + m) (hbig : (n + m) * 8 ≤ 140737488355328)
    (hcl : cs.length = n) (hvl : vs.length = m) (hnil : base = none → n = 0)
    (hcs : ∀ a, base = some a → ∀ j v, cs[j]? = some v → w.cell? (a.add j) = some v)
    (hvs : ∀ j v, vs[j]? = some v → w.cell? ⟨vb, voff + j, none⟩ = some v) (h1v : ∀ v ∈ vs, v.oneCell' = true) :
    Calls Tryz.prog 45 #[.slice base n c, .int .i64 n, .slice (some ⟨vb, voff, none⟩) m vc] w fun e w' =>
      e = .returned (.slice (some ⟨w.heap.size, 0, none⟩) (n + m) (grownCap w (n + m) c 3)) ∧
      w' = w.drew.alloc (.cells ((cs ++ vs).toArray ++ Builtin.zeroCells (Value.int .i64 0).cells (grownCap w (n + m) c 3 - (n + m))) 3) := by
  obtain ⟨i0, hi0, hz0, hzs, hzb⟩ := insI_info
  have hz1 : ¬ ((m : Int) = 0) := by omega
  have hsrc : Src Tryz.prog i0.size 36 (.slice (some ⟨vb, voff, none⟩) m vc) m vs w := by
    rw [hzs]
    exact Src.ofSlice w Tryz.underlying36 ⟨vb, voff, none⟩ m vc vs (by omega) (fun j u hj => by rw [Addr.add_lit]; exact hvs j u hj) h1v
  have hold : (Builtin.firstCells i0.size n (.slice base n c)).run Tryz.prog w.drew = .ok cs.toArray w.drew := by
    rw [hzs]
    cases base with
    | none =>
      have h0 := hnil rfl
      subst h0
      rw [List.length_eq_zero_iff.1 hcl]
      exact run_firstCells_none w.drew 1 0 0 c
    | some a => exact run_firstCells_some w.drew 1 n a n c cs (by omega) (fun j v hj => hcs a rfl j v hj)
  have hrun : ∀ ty, (Builtin.append_ #[36, 36] ty #[.slice base n c, .slice (some ⟨vb, voff, none⟩) m vc]).run Tryz.prog w = _ := fun ty =>
    run_append_grow_src w 36 36 ty 3 i0 _ Tryz.underlying36 hi0 hz0 base n c cs hold _ m vs hsrc hroom (by omega) (by rw [hzb]; exact growslice_fits hroom hbig)
  go_enter Tryz.func45, Tryz.ntmps45
  cases base with
  | none =>
    have h0 := hnil rfl
    subst h0
    go_wp2_with (at_builtin; refine Lib.wpList_append_run _ rfl _ _ _ _ rfl _ _ rfl rfl _ _ (hrun _) ?_)
    go_ret
    exact ⟨rfl, rfl⟩
  | some a =>
    obtain ⟨ab, ao, asp⟩ := a
    go_wp2_with (at_builtin; refine Lib.wpList_append_run _ rfl _ _ _ _ rfl _ _ rfl rfl _ _ (hrun _) ?_)
    all_goals (go_ret; exact ⟨rfl, rfl⟩)

set_option maxHeartbeats 4000000 in
set_option maxRecDepth 100000 in
theorem insI_grow (b off n c i vb voff m vc : Nat) (cs vs : List Value) (w : World) (hi : i < n) (hm : 0 < m) (hnc : n ≤ c) (hroom : c < n + m) (hbig : (n + m) * 8 ≤ 140737488355328)
    (hcl : cs.length = n) (hvl : vs.length = m)
    (hcs : ∀ j v, cs[j]? = some v → w.cell? ⟨b, off + j, none⟩ = some v)
    (hvs : ∀ j v, vs[j]? = some v → w.cell? ⟨vb, voff + j, none⟩ = some v) (h1c : ∀ v ∈ cs, v.oneCell' = true) (h1v : ∀ v ∈ vs, v.oneCell' = true) :
    Calls Tryz.prog 45 #[.slice (some ⟨b, off, none⟩) n c, .int .i64 i, .slice (some ⟨vb, voff, none⟩) m vc] w fun e w' =>
      e = .returned (.slice (some ⟨w.heap.size, 0, none⟩) (n + m) (grownCap w (n + m) c 3)) ∧
      w' = (((w.alloc (.cells ((cs.take i).toArray ++ Builtin.zeroCells (Value.int .i64 0).cells (n + m - i) ++ Builtin.zeroCells (Value.int .i64 0).cells (grownCap w (n + m) c 3 - (n + m))) 3)).drew.setCells w.heap.size i vs).drew).setCells w.heap.size (i + m) (cs.drop i) := by
  obtain ⟨i0, hi0, hz0, hzs, hzb⟩ := insI_info
  have hz1 : ¬ ((m : Int) = 0) := by omega
  have hz2 : ¬ ((i : Int) = (n : Int)) := by omega
  have hz3 : (c : Int) < (n : Int) + (m : Int) := by omega
  have hsz : (Tryz.prog.info? 3).map (·.size) = some 1 := by rw [hi0]; simp [hzs]
  have hbw : b < w.heap.size := block_lt_of_cell (hcs 0 _ (List.getElem?_eq_getElem (by omega)))
  have hvw : vb < w.heap.size := block_lt_of_cell (hvs 0 _ (List.getElem?_eq_getElem (by omega)))
  have hkk : (n : Int) + (m : Int) - (i : Int) = ((n + m - i : Nat) : Int) := by omega
  have hik : i + (n + m - i) = n + m := by omega
  have hold : (Builtin.firstCells i0.size i (.slice (some ⟨b, off, none⟩) i c)).run Tryz.prog w.drew = .ok (cs.take i).toArray w.drew := by
    rw [hzs]
    exact run_firstCells_some w.drew 1 i ⟨b, off, none⟩ i c (cs.take i) (by rw [List.length_take]; omega) (fun j v hj => by
      rw [Addr.add_lit]
      rw [List.getElem?_take] at hj
      split at hj
      · exact hcs j v hj
      · cases hj)
  have hrz : ∀ ty, (Builtin.append_ #[36, 3] ty #[.slice (some ⟨b, off, none⟩) i c, .int .i64 ((n : Int) + (m : Int) - (i : Int))]).run Tryz.prog w =
      .ok (.slice (some ⟨w.heap.size, 0, none⟩) (n + m) (grownCap w (n + m) c 3)) (w.drew.alloc (.cells ((cs.take i).toArray ++ Builtin.zeroCells (Value.int .i64 0).cells (n + m - i) ++ Builtin.zeroCells (Value.int .i64 0).cells (grownCap w (n + m) c 3 - (n + m))) 3)) := fun ty => by
    have h := Lib.run_append_grow_zeros w 36 3 ty 3 i0 _ .i64 .i64 Tryz.underlying36 Tryz.underlying3 hi0 hz0 (some ⟨b, off, none⟩) i c (cs.take i) hold (n + m - i) (by omega) (by omega) (by omega) (by omega) (by rw [hzb]; omega) (by rw [hzb, hik]; exact growslice_fits hroom hbig)
    rw [hik] at h
    rw [hkk]
    exact h
  obtain ⟨G, hG⟩ : ∃ G, G = grownCap w (n + m) c 3 := ⟨_, rfl⟩
  obtain ⟨ROW, hROW⟩ : ∃ ROW : Array Value, ROW = (cs.take i).toArray ++ Builtin.zeroCells (Value.int .i64 0).cells (n + m - i) ++ Builtin.zeroCells (Value.int .i64 0).cells (G - (n + m)) := ⟨_, rfl⟩
  rw [← hG] at hrz ⊢
  rw [← hROW] at hrz ⊢
  have hRl : n + m ≤ ROW.size := by
    rw [hROW]
    simp [Builtin.zeroCells, Value.cells]
    omega
  obtain ⟨W1, hW1⟩ : ∃ W1, W1 = w.drew.alloc (.cells ROW 3) := ⟨_, rfl⟩
  rw [← hW1] at hrz
  have hN : ∀ j, j < n + m → (W1.cell? ⟨w.heap.size, j, none⟩).isSome = true := fun j hj => by
    rw [hW1, World.cell?_alloc_at (w := w.drew) ROW _ w.heap.size j rfl, Array.getElem?_eq_getElem (by omega)]; rfl
  have hNf : ∀ j, W1.frozen? ⟨w.heap.size, j, none⟩ = false := fun j => by rw [hW1]; exact World.frozen?_alloc_at (w := w.drew) ROW _ w.heap.size j rfl
  have hOb : ∀ j v, w.cell? ⟨b, j, none⟩ = some v → W1.cell? ⟨b, j, none⟩ = some v := fun j v h => by rw [hW1, World.cell?_alloc_past (w := w.drew) _ b j hbw]; exact h
  have hOv : ∀ j v, w.cell? ⟨vb, j, none⟩ = some v → W1.cell? ⟨vb, j, none⟩ = some v := fun j v h => by rw [hW1, World.cell?_alloc_past (w := w.drew) _ vb j hvw]; exact h
  have hcpA : ∀ (W : World), (∀ x, W.cell? x = W1.cell? x) → (∀ x, W.frozen? x = W1.frozen? x) → ∀ ty dc, (Builtin.copy_ #[36, 36] ty #[.slice (some ⟨w.heap.size, i, none⟩) (n + m - i) dc, .slice (some ⟨vb, voff, none⟩) m vc]).run Tryz.prog W = .ok (goInt vs.length) (W.setCells w.heap.size i vs) := fun W hWc hWf ty dc =>
    run_copy_cells W _ _ ty 3 w.heap.size i (n + m - i) dc ⟨vb, voff, none⟩ m vc vs Tryz.underlying36 hsz (by rw [hvl]; simp only [Nat.min_def]; split <;> omega)
      (fun j v hj => by rw [Addr.add_lit, hWc]; exact hOv _ v (hvs j v hj))
      (fun j hj => by rw [hWc]; exact hN _ (by omega)) (fun j hj => by rw [hWf]; exact hNf _) h1v
  have hGn : n + m ≤ G := by rw [hG]; exact grownCap_ge w _ _ _
  have hG63 : G ≤ 9223372036854775807 := by
    have := grownCap_le_maxLen w (n + m) c 3 (by unfold maxLen; omega)
    rw [← hG] at this
    unfold maxLen at this
    omega
  have hGi : ¬ (G = i) := by omega
  have hGim : ¬ (G = i + m) := by omega
  have hci : ¬ (c = i) := by omega
  have hbN : b ≠ w.heap.size := by omega
  have hdl : (cs.drop i).length = n - i := by rw [List.length_drop, hcl]
  have hcpB : ∀ (W : World), (∀ x, W.cell? x = (W1.setCells w.heap.size i vs).cell? x) → (∀ x, W.frozen? x = (W1.setCells w.heap.size i vs).frozen? x) → ∀ ty dc sc, (Builtin.copy_ #[36, 36] ty #[.slice (some ⟨w.heap.size, i + m, none⟩) (n + m - (i + m)) dc, .slice (some ⟨b, off + i, none⟩) (n - i) sc]).run Tryz.prog W = .ok (goInt (cs.drop i).length) (W.setCells w.heap.size (i + m) (cs.drop i)) := fun W hWc hWf ty dc sc =>
    run_copy_cells W _ _ ty 3 w.heap.size (i + m) (n + m - (i + m)) dc ⟨b, off + i, none⟩ (n - i) sc (cs.drop i) Tryz.underlying36 hsz (by rw [hdl]; simp only [Nat.min_def]; split <;> omega)
      (fun j v hj => by
        rw [Addr.add_lit, hWc, World.cell?_setCells_out _ _ _ _ _ (fun h _ => absurd h hbN), Nat.add_assoc]
        exact hOb _ v (hcs (i + j) v (by rwa [List.getElem?_drop] at hj)))
      (fun j hj => by rw [hWc]; exact isSome_setCells _ _ _ _ (fun t ht => hN _ (by omega)) _ (hN _ (by omega)))
      (fun j hj => by rw [hWf, World.frozen?_setCells]; exact hNf _) (fun v hv => h1c v (List.mem_of_mem_drop hv))
  subst hW1
  have hE1 : ∀ x, ((w.alloc (.cells ROW 3)).drew).cell? x = (w.drew.alloc (.cells ROW 3)).cell? x := fun x => rfl
  have hE2 : ∀ x, ((w.alloc (.cells ROW 3)).drew).frozen? x = (w.drew.alloc (.cells ROW 3)).frozen? x := fun x => rfl
  have hF1 : ∀ x, (((w.alloc (.cells ROW 3)).drew.setCells w.heap.size i vs).drew).cell? x = ((w.drew.alloc (.cells ROW 3)).setCells w.heap.size i vs).cell? x := fun x => rfl
  have hF2 : ∀ x, (((w.alloc (.cells ROW 3)).drew.setCells w.heap.size i vs).drew).frozen? x = ((w.drew.alloc (.cells ROW 3)).setCells w.heap.size i vs).frozen? x := fun x => rfl
  have hw1 : IntKind.i64.wrap ((i : Int) + (m : Int)) = (i : Int) + (m : Int) := by rw [IntKind.wrap_i64]; omega
  have hb1 : (0 : Int) ≤ (i : Int) + (m : Int) := by omega
  have hin : i ≤ n := by omega
  have htn : ((i : Int) + (m : Int)).toNat = i + m := by omega
  have hb3 : (i : Int) ≤ (n : Int) := by omega
  clear hkk hik hold hROW hG hRl
  go_enter Tryz.func45, Tryz.ntmps45
  go_wp2_with (first
    | (at_builtin; refine Lib.wpList_append_run _ rfl _ _ _ _ rfl _ _ rfl rfl _ _ (hrz _) ?_)
    | (at_builtin; refine wpList_copy_runI _ rfl _ _ 36 36 rfl _ _ rfl rfl (hcpA _ hE1 hE2 _ _) ?_)
    | (at_builtin; refine wpList_copy_runI _ rfl _ _ 36 36 rfl _ _ rfl rfl (hcpB _ (fun _ => rfl) (fun _ => rfl) _ _ _) ?_))
  go_region_law (refine step_copy_runI rfl _ _ 36 36 rfl (.slice (some ⟨w.heap.size, i + m, none⟩) (n + m - (i + m)) (G - (i + m))) (.slice (some ⟨b, off + i, none⟩) (n - i) (c - i)) (by simp [Act.eval, Act.put]) (by simp [Act.eval, Act.put]) (hcpB _ hF1 hF2 3 (G - (i + m)) (c - i)) ?_)
  go_wp2
  go_ret
  exact ⟨rfl, rfl⟩
end Go.Proofs.YtahiahjhpakeiaaGreatDoor
end
section
namespace Go.Proofs.YtahiahjhpakeiaaGreatDoor
open Go.Shelf Go.RowKit Go.Lib
set_option linter.unusedVariables false
set_option linter.unusedSimpArgs false
theorem insU_size : ∀ w, (Go.sizeOf 43).run Tryz.prog w = .ok 1 w := fun w => by kernel_rfl
theorem insU_info : ∃ i0, Tryz.prog.info? 43 = some i0 ∧ i0.zero = some (Value.int .u64 0) ∧ i0.size = 1 ∧ i0.bytes = 8 := ⟨idI, idI_at, by kernel_rfl, by kernel_rfl, by kernel_rfl⟩
theorem insU_i9 : (Tryz.prog.info? 43).map (fun i => (i.zero, i.size, i.bytes)) = some (some (Value.int .u64 0), 1, 8) := by kernel_rfl
set_option maxHeartbeats 4000000 in
set_option maxRecDepth 100000 in
theorem insU_shift (b off n c i vb voff m vc : Nat) (cs vs : List Value) (w : World) (hi : i < n) (hm : 0 < m) (hroom : n + m ≤ c) (hc63 : c ≤ 9223372036854775807) (hvb : vb ≠ b)
    (hcl : cs.length = n) (hvl : vs.length = m)
    (hcs : ∀ j v, cs[j]? = some v → w.cell? ⟨b, off + j, none⟩ = some v) (hsp : ∀ j, j < n + m → (w.cell? ⟨b, off + j, none⟩).isSome = true) (hfz : ∀ j, j < n + m → w.frozen? ⟨b, off + j, none⟩ = false)
    (hvs : ∀ j v, vs[j]? = some v → w.cell? ⟨vb, voff + j, none⟩ = some v) (h1c : ∀ v ∈ cs, v.oneCell' = true) (h1v : ∀ v ∈ vs, v.oneCell' = true)
    (tA tB : TypeId) (kA kB : Nat) (hsa : w.shape? vb = some (tA, kA)) (hsb : w.shape? b = some (tB, kB)) (hkB : kB ≠ 0) (hfa : w.frozen? ⟨vb, voff, none⟩ = false) (hfe : w.frozen? ⟨vb, kA, none⟩ = false) :
    Calls Tryz.prog 44 #[.slice (some ⟨b, off, none⟩) n c, .int .i64 i, .slice (some ⟨vb, voff, none⟩) m vc] w fun e w' =>
      e = .returned (.slice (some ⟨b, off, none⟩) (n + m) c) ∧ w' = (w.drew.setCells b (off + (i + m)) (cs.drop i)).setCells b (off + i) vs := by
  have hz1 : ¬ ((m : Int) = 0) := by omega
  have hz2 : ¬ ((i : Int) = (n : Int)) := by omega
  have hsz : (Tryz.prog.info? 43).map (·.size) = some 1 := by
    obtain ⟨i0, hi0, h0, h1, h2⟩ := insU_info
    rw [hi0]; simp [h1]
  have hov : ∀ lb cb, (callFunc 96 #[.slice (some ⟨vb, voff, none⟩) m vc, .slice (some ⟨b, off + (i + m), none⟩) lb cb]).run Tryz.prog w = .ok (.value (.bool false)) w := fun lb cb => by
    rw [run_callFunc_extern Tryz.func96 (by kernel_rfl) (by kernel_rfl) (by kernel_rfl) (e := Extern.SlicesOverlaps.overlaps #[22, 22] #[4]) (by kernel_rfl),
      Lib.run_overlaps_apart w 22 4 43 Tryz.underlying22 1 insU_size ⟨vb, voff, none⟩ ⟨b, off + (i + m), none⟩ m vc lb cb hvb tA tB kA kB hsa hsb hkB hfa hfe]
    rfl
  have hdl : (cs.drop i).length = n - i := by rw [List.length_drop, hcl]
  have hw1 : IntKind.i64.wrap ((i : Int) + (m : Int)) = (i : Int) + (m : Int) := by rw [IntKind.wrap_i64]; omega
  have hb1 : (0 : Int) ≤ (i : Int) + (m : Int) := by omega
  have hin : i ≤ n := by omega
  have htn : ((i : Int) + (m : Int)).toNat = i + m := by omega
  have hb2 : ¬ (c = i + m) := by omega
  have hb3 : (i : Int) ≤ (n : Int) + (m : Int) := by omega
  have hb4 : ¬ (c = i) := by omega
  have hcp1 : ∀ ty dc sc, (Builtin.copy_ #[22, 22] ty #[.slice (some ⟨b, off + (i + m), none⟩) (n + m - (i + m)) dc, .slice (some ⟨b, off + i, none⟩) (n + m - i) sc]).run Tryz.prog w.drew = .ok (goInt (cs.drop i).length) (w.drew.setCells b (off + (i + m)) (cs.drop i)) := fun ty dc sc =>
    run_copy_cells w.drew _ _ ty 43 b (off + (i + m)) (n + m - (i + m)) dc ⟨b, off + i, none⟩ (n + m - i) sc (cs.drop i) Tryz.underlying22 hsz (by rw [hdl]; simp only [Nat.min_def]; split <;> omega)
      (fun j v hj => by rw [Addr.add_lit, Nat.add_assoc]; exact hcs (i + j) v (by rwa [List.getElem?_drop] at hj))
      (fun j hj => by rw [Nat.add_assoc]; exact hsp _ (by omega)) (fun j hj => by rw [Nat.add_assoc]; exact hfz _ (by omega)) (fun v hv => h1c v (List.mem_of_mem_drop hv))
  obtain ⟨W1, hW1⟩ : ∃ W1, W1 = w.drew.setCells b (off + (i + m)) (cs.drop i) := ⟨_, rfl⟩
  have hsp1 : ∀ k, k < n + m → (W1.cell? ⟨b, off + k, none⟩).isSome = true := fun k hk => by
    rw [hW1]
    exact isSome_setCells b _ _ _ (fun j hj => by rw [Nat.add_assoc]; exact hsp _ (by omega)) _ (hsp k hk)
  have hcp2 : ∀ (W : World), (∀ x, W.cell? x = W1.cell? x) → (∀ x, W.frozen? x = W1.frozen? x) → ∀ ty dc, (Builtin.copy_ #[22, 22] ty #[.slice (some ⟨b, off + i, none⟩) (n + m - i) dc, .slice (some ⟨vb, voff, none⟩) m vc]).run Tryz.prog W = .ok (goInt vs.length) (W.setCells b (off + i) vs) := fun W hWc hWf ty dc =>
    run_copy_cells W _ _ ty 43 b (off + i) (n + m - i) dc ⟨vb, voff, none⟩ m vc vs Tryz.underlying22 hsz (by rw [hvl]; simp only [Nat.min_def]; split <;> omega)
      (fun j v hj => by
        rw [Addr.add_lit, hWc, hW1, World.cell?_setCells_out b _ _ _ _ (fun h _ => absurd h hvb)]
        exact hvs j v hj)
      (fun j hj => by rw [hWc, Nat.add_assoc]; exact hsp1 _ (by omega)) (fun j hj => by rw [hWf, hW1, World.frozen?_setCells, Nat.add_assoc]; exact hfz _ (by omega)) h1v
  rw [← hW1] at hcp1
  go_enter Tryz.func44, Tryz.ntmps44
  go_wp2_with (simp only [hov])
  go_region_law (refine step_copy_runI rfl _ _ 22 22 rfl _ _ (by simp [Act.eval, Act.put]) (by simp [Act.eval, Act.put]) (hcp1 _ _ _) ?_)
  go_wp2_with (at_builtin; refine wpList_copy_runI _ rfl _ _ 22 22 rfl _ _ rfl rfl (hcp2 _ (fun _ => rfl) (fun _ => rfl) _ _) ?_)
  go_ret
  first | exact ⟨rfl, rfl⟩ | exact ⟨rfl, by rw [hW1]⟩

set_option maxHeartbeats 4000000 in
set_option maxRecDepth 100000 in
theorem insU_end_room (b off n c vb voff m vc : Nat) (vs : List Value) (w : World) (hm : 0 < m) (hroom : n + m ≤ c) (hc63 : c ≤ 9223372036854775807)
    (hvl : vs.length = m) (hsp : ∀ j, j < m → (w.cell? ⟨b, off + n + j, none⟩).isSome = true) (hfz : ∀ j, j < m → w.frozen? ⟨b, off + n + j, none⟩ = false)
    (hvs : ∀ j v, vs[j]? = some v → w.cell? ⟨vb, voff + j, none⟩ = some v) (h1v : ∀ v ∈ vs, v.oneCell' = true) :
    Calls Tryz.prog 44 #[.slice (some ⟨b, off, none⟩) n c, .int .i64 n, .slice (some ⟨vb, voff, none⟩) m vc] w fun e w' =>
      e = .returned (.slice (some ⟨b, off, none⟩) (n + m) c) ∧ w' = w.setCells b (off + n) vs := by
  have hz1 : ¬ ((m : Int) = 0) := by omega
  have hsrc : Src Tryz.prog 1 22 (.slice (some ⟨vb, voff, none⟩) m vc) m vs w := Src.ofSlice w Tryz.underlying22 ⟨vb, voff, none⟩ m vc vs (by omega) (fun j u hj => by rw [Addr.add_lit]; exact hvs j u hj) h1v
  go_enter Tryz.func44, Tryz.ntmps44
  go_wp2_with (at_builtin; refine wpList_append_room1 _ rfl _ _ 22 22 rfl 43 _ _ Tryz.underlying22 insU_i9 b off n c rfl _ rfl m vs hsrc hroom (by rw [hvl]; exact hsp) (by rw [hvl]; exact hfz) ?_)
  go_ret
  exact ⟨rfl, rfl⟩

set_option maxHeartbeats 4000000 in
set_option maxRecDepth 100000 in
theorem insU_end_grow (base : Option Addr) (n c vb voff m vc : Nat) (cs vs : List Value) (w : World) (hm : 0 < m) (hnc : n ≤ c) (hroom : c < n + m) (hbig : (n + m) * 8 ≤ 140737488355328)
    (hcl : cs.length = n) (hvl : vs.length = m) (hnil : base = none → n = 0)
    (hcs : ∀ a, base = some a → ∀ j v, cs[j]? = some v → w.cell? (a.add j) = some v)
    (hvs : ∀ j v, vs[j]? = some v → w.cell? ⟨vb, voff + j, none⟩ = some v) (h1v : ∀ v ∈ vs, v.oneCell' = true) :
    Calls Tryz.prog 44 #[.slice base n c, .int .i64 n, .slice (some ⟨vb, voff, none⟩) m vc] w fun e w' =>
      e = .returned (.slice (some ⟨w.heap.size, 0, none⟩) (n + m) (grownCap w (n + m) c 43)) ∧
      w' = w.drew.alloc (.cells ((cs ++ vs).toArray ++ Builtin.zeroCells (Value.int .u64 0).cells (grownCap w (n + m) c 43 - (n + m))) 43) := by
  obtain ⟨i0, hi0, hz0, hzs, hzb⟩ := insU_info
  have hz1 : ¬ ((m : Int) = 0) := by omega
  have hsrc : Src Tryz.prog i0.size 22 (.slice (some ⟨vb, voff, none⟩) m vc) m vs w := by
    rw [hzs]
    exact Src.ofSlice w Tryz.underlying22 ⟨vb, voff, none⟩ m vc vs (by omega) (fun j u hj => by rw [Addr.add_lit]; exact hvs j u hj) h1v
  have hold : (Builtin.firstCells i0.size n (.slice base n c)).run Tryz.prog w.drew = .ok cs.toArray w.drew := by
    rw [hzs]
    cases base with
    | none =>
      have h0 := hnil rfl
      subst h0
      rw [List.length_eq_zero_iff.1 hcl]
      exact run_firstCells_none w.drew 1 0 0 c
    | some a => exact run_firstCells_some w.drew 1 n a n c cs (by omega) (fun j v hj => hcs a rfl j v hj)
  have hrun : ∀ ty, (Builtin.append_ #[22, 22] ty #[.slice base n c, .slice (some ⟨vb, voff, none⟩) m vc]).run Tryz.prog w = _ := fun ty =>
    run_append_grow_src w 22 22 ty 43 i0 _ Tryz.underlying22 hi0 hz0 base n c cs hold _ m vs hsrc hroom (by omega) (by rw [hzb]; exact growslice_fits hroom hbig)
  go_enter Tryz.func44, Tryz.ntmps44
  cases base with
  | none =>
    have h0 := hnil rfl
    subst h0
    go_wp2_with (at_builtin; refine Lib.wpList_append_run _ rfl _ _ _ _ rfl _ _ rfl rfl _ _ (hrun _) ?_)
    go_ret
    exact ⟨rfl, rfl⟩
  | some a =>
    obtain ⟨ab, ao, asp⟩ := a
    go_wp2_with (at_builtin; refine Lib.wpList_append_run _ rfl _ _ _ _ rfl _ _ rfl rfl _ _ (hrun _) ?_)
    all_goals (go_ret; exact ⟨rfl, rfl⟩)

set_option maxHeartbeats 4000000 in
set_option maxRecDepth 100000 in
theorem insU_grow (b off n c i vb voff m vc : Nat) (cs vs : List Value) (w : World) (hi : i < n) (hm : 0 < m) (hnc : n ≤ c) (hroom : c < n + m) (hbig : (n + m) * 8 ≤ 140737488355328)
    (hcl : cs.length = n) (hvl : vs.length = m)
    (hcs : ∀ j v, cs[j]? = some v → w.cell? ⟨b, off + j, none⟩ = some v)
    (hvs : ∀ j v, vs[j]? = some v → w.cell? ⟨vb, voff + j, none⟩ = some v) (h1c : ∀ v ∈ cs, v.oneCell' = true) (h1v : ∀ v ∈ vs, v.oneCell' = true) :
    Calls Tryz.prog 44 #[.slice (some ⟨b, off, none⟩) n c, .int .i64 i, .slice (some ⟨vb, voff, none⟩) m vc] w fun e w' =>
      e = .returned (.slice (some ⟨w.heap.size, 0, none⟩) (n + m) (grownCap w (n + m) c 43)) ∧
      w' = (((w.alloc (.cells ((cs.take i).toArray ++ Builtin.zeroCells (Value.int .u64 0).cells (n + m - i) ++ Builtin.zeroCells (Value.int .u64 0).cells (grownCap w (n + m) c 43 - (n + m))) 43)).drew.setCells w.heap.size i vs).drew).setCells w.heap.size (i + m) (cs.drop i) := by
  obtain ⟨i0, hi0, hz0, hzs, hzb⟩ := insU_info
  have hz1 : ¬ ((m : Int) = 0) := by omega
  have hz2 : ¬ ((i : Int) = (n : Int)) := by omega
  have hz3 : (c : Int) < (n : Int) + (m : Int) := by omega
  have hsz : (Tryz.prog.info? 43).map (·.size) = some 1 := by rw [hi0]; simp [hzs]
  have hbw : b < w.heap.size := block_lt_of_cell (hcs 0 _ (List.getElem?_eq_getElem (by omega)))
  have hvw : vb < w.heap.size := block_lt_of_cell (hvs 0 _ (List.getElem?_eq_getElem (by omega)))
  have hkk : (n : Int) + (m : Int) - (i : Int) = ((n + m - i : Nat) : Int) := by omega
  have hik : i + (n + m - i) = n + m := by omega
  have hold : (Builtin.firstCells i0.size i (.slice (some ⟨b, off, none⟩) i c)).run Tryz.prog w.drew = .ok (cs.take i).toArray w.drew := by
    rw [hzs]
    exact run_firstCells_some w.drew 1 i ⟨b, off, none⟩ i c (cs.take i) (by rw [List.length_take]; omega) (fun j v hj => by
      rw [Addr.add_lit]
      rw [List.getElem?_take] at hj
      split at hj
      · exact hcs j v hj
      · cases hj)
  have hrz : ∀ ty, (Builtin.append_ #[22, 3] ty #[.slice (some ⟨b, off, none⟩) i c, .int .i64 ((n : Int) + (m : Int) - (i : Int))]).run Tryz.prog w =
      .ok (.slice (some ⟨w.heap.size, 0, none⟩) (n + m) (grownCap w (n + m) c 43)) (w.drew.alloc (.cells ((cs.take i).toArray ++ Builtin.zeroCells (Value.int .u64 0).cells (n + m - i) ++ Builtin.zeroCells (Value.int .u64 0).cells (grownCap w (n + m) c 43 - (n + m))) 43)) := fun ty => by
    have h := Lib.run_append_grow_zeros w 22 3 ty 43 i0 _ .i64 .i64 Tryz.underlying22 Tryz.underlying3 hi0 hz0 (some ⟨b, off, none⟩) i c (cs.take i) hold (n + m - i) (by omega) (by omega) (by omega) (by omega) (by rw [hzb]; omega) (by rw [hzb, hik]; exact growslice_fits hroom hbig)
    rw [hik] at h
    rw [hkk]
    exact h
  obtain ⟨G, hG⟩ : ∃ G, G = grownCap w (n + m) c 43 := ⟨_, rfl⟩
  obtain ⟨ROW, hROW⟩ : ∃ ROW : Array Value, ROW = (cs.take i).toArray ++ Builtin.zeroCells (Value.int .u64 0).cells (n + m - i) ++ Builtin.zeroCells (Value.int .u64 0).cells (G - (n + m)) := ⟨_, rfl⟩
  rw [← hG] at hrz ⊢
  rw [← hROW] at hrz ⊢
  have hRl : n + m ≤ ROW.size := by
    rw [hROW]
    simp [Builtin.zeroCells, Value.cells]
    omega
  obtain ⟨W1, hW1⟩ : ∃ W1, W1 = w.drew.alloc (.cells ROW 43) := ⟨_, rfl⟩
  rw [← hW1] at hrz
  have hN : ∀ j, j < n + m → (W1.cell? ⟨w.heap.size, j, none⟩).isSome = true := fun j hj => by
    rw [hW1, World.cell?_alloc_at (w := w.drew) ROW _ w.heap.size j rfl, Array.getElem?_eq_getElem (by omega)]; rfl
  have hNf : ∀ j, W1.frozen? ⟨w.heap.size, j, none⟩ = false := fun j => by rw [hW1]; exact World.frozen?_alloc_at (w := w.drew) ROW _ w.heap.size j rfl
  have hOb : ∀ j v, w.cell? ⟨b, j, none⟩ = some v → W1.cell? ⟨b, j, none⟩ = some v := fun j v h => by rw [hW1, World.cell?_alloc_past (w := w.drew) _ b j hbw]; exact h
  have hOv : ∀ j v, w.cell? ⟨vb, j, none⟩ = some v → W1.cell? ⟨vb, j, none⟩ = some v := fun j v h => by rw [hW1, World.cell?_alloc_past (w := w.drew) _ vb j hvw]; exact h
  have hcpA : ∀ (W : World), (∀ x, W.cell? x = W1.cell? x) → (∀ x, W.frozen? x = W1.frozen? x) → ∀ ty dc, (Builtin.copy_ #[22, 22] ty #[.slice (some ⟨w.heap.size, i, none⟩) (n + m - i) dc, .slice (some ⟨vb, voff, none⟩) m vc]).run Tryz.prog W = .ok (goInt vs.length) (W.setCells w.heap.size i vs) := fun W hWc hWf ty dc =>
    run_copy_cells W _ _ ty 43 w.heap.size i (n + m - i) dc ⟨vb, voff, none⟩ m vc vs Tryz.underlying22 hsz (by rw [hvl]; simp only [Nat.min_def]; split <;> omega)
      (fun j v hj => by rw [Addr.add_lit, hWc]; exact hOv _ v (hvs j v hj))
      (fun j hj => by rw [hWc]; exact hN _ (by omega)) (fun j hj => by rw [hWf]; exact hNf _) h1v
  have hGn : n + m ≤ G := by rw [hG]; exact grownCap_ge w _ _ _
  have hG63 : G ≤ 9223372036854775807 := by
    have := grownCap_le_maxLen w (n + m) c 43 (by unfold maxLen; omega)
    rw [← hG] at this
    unfold maxLen at this
    omega
  have hGi : ¬ (G = i) := by omega
  have hGim : ¬ (G = i + m) := by omega
  have hci : ¬ (c = i) := by omega
  have hbN : b ≠ w.heap.size := by omega
  have hdl : (cs.drop i).length = n - i := by rw [List.length_drop, hcl]
  have hcpB : ∀ (W : World), (∀ x, W.cell? x = (W1.setCells w.heap.size i vs).cell? x) → (∀ x, W.frozen? x = (W1.setCells w.heap.size i vs).frozen? x) → ∀ ty dc sc, (Builtin.copy_ #[22, 22] ty #[.slice (some ⟨w.heap.size, i + m, none⟩) (n + m - (i + m)) dc, .slice (some ⟨b, off + i, none⟩) (n - i) sc]).run Tryz.prog W = .ok (goInt (cs.drop i).length) (W.setCells w.heap.size (i + m) (cs.drop i)) := fun W hWc hWf ty dc sc =>
    run_copy_cells W _ _ ty 43 w.heap.size (i + m) (n + m - (i + m)) dc ⟨b, off + i, none⟩ (n - i) sc (cs.drop i) Tryz.underlying22 hsz (by rw [hdl]; simp only [Nat.min_def]; split <;> omega)
      (fun j v hj => by
        rw [Addr.add_lit, hWc, World.cell?_setCells_out _ _ _ _ _ (fun h _ => absurd h hbN), Nat.add_assoc]
        exact hOb _ v (hcs (i + j) v (by rwa [List.getElem?_drop] at hj)))
      (fun j hj => by rw [hWc]; exact isSome_setCells _ _ _ _ (fun t ht => hN _ (by omega)) _ (hN _ (by omega)))
      (fun j hj => by rw [hWf, World.frozen?_setCells]; exact hNf _) (fun v hv => h1c v (List.mem_of_mem_drop hv))
  subst hW1
  have hE1 : ∀ x, ((w.alloc (.cells ROW 43)).drew).cell? x = (w.drew.alloc (.cells ROW 43)).cell? x := fun x => rfl
  have hE2 : ∀ x, ((w.alloc (.cells ROW 43)).drew).frozen? x = (w.drew.alloc (.cells ROW 43)).frozen? x := fun x => rfl
  have hF1 : ∀ x, (((w.alloc (.cells ROW 43)).drew.setCells w.heap.size i vs).drew).cell? x = ((w.drew.alloc (.cells ROW 43)).setCells w.heap.size i vs).cell? x := fun x => rfl
  have hF2 : ∀ x, (((w.alloc (.cells ROW 43)).drew.setCells w.heap.size i vs).drew).frozen? x = ((w.drew.alloc (.cells ROW 43)).setCells w.heap.size i vs).frozen? x := fun x => rfl
  have hw1 : IntKind.i64.wrap ((i : Int) + (m : Int)) = (i : Int) + (m : Int) := by rw [IntKind.wrap_i64]; omega
  have hb1 : (0 : Int) ≤ (i : Int) + (m : Int) := by omega
  have hin : i ≤ n := by omega
  have htn : ((i : Int) + (m : Int)).toNat = i + m := by omega
  have hb3 : (i : Int) ≤ (n : Int) := by omega
  clear hkk hik hold hROW hG hRl
  go_enter Tryz.func44, Tryz.ntmps44
  go_wp2_with (first
    | (at_builtin; refine Lib.wpList_append_run _ rfl _ _ _ _ rfl _ _ rfl rfl _ _ (hrz _) ?_)
    | (at_builtin; refine wpList_copy_runI _ rfl _ _ 22 22 rfl _ _ rfl rfl (hcpA _ hE1 hE2 _ _) ?_)
    | (at_builtin; refine wpList_copy_runI _ rfl _ _ 22 22 rfl _ _ rfl rfl (hcpB _ (fun _ => rfl) (fun _ => rfl) _ _ _) ?_))
  go_region_law (refine step_copy_runI rfl _ _ 22 22 rfl (.slice (some ⟨w.heap.size, i + m, none⟩) (n + m - (i + m)) (G - (i + m))) (.slice (some ⟨b, off + i, none⟩) (n - i) (c - i)) (by simp [Act.eval, Act.put]) (by simp [Act.eval, Act.put]) (hcpB _ hF1 hF2 3 (G - (i + m)) (c - i)) ?_)
  go_wp2
  go_ret
  exact ⟨rfl, rfl⟩
end Go.Proofs.YtahiahjhpakeiaaGreatDoor
end
section
namespace Go.Proofs.YtahiahjhpakeiaaGreatDoor
open Go.Shelf Go.RowKit Go.Lib
set_option linter.unusedVariables false
set_option linter.unusedSimpArgs false

theorem own_row_of {w' : World} {base e g n cap : Nat} {xs : List Value} {cur : Array Value} (hg : w'.heap[g]? = some (.cells cur e (0, 0))) (hs : cur.size = cap) (hn : n ≤ cap) (hm : cap ≤ maxLen) (hb : base ≤ g) (hl : xs.length = n)
    (hc : ∀ j (v : Value), xs[j]? = some v → w'.cell? ⟨g, j, none⟩ = some v) : w'.ownsRow base e 1 (.slice (some ⟨g, 0, none⟩) n cap) n xs := by
  refine ⟨by rw [hl, Nat.mul_one], Or.inr ⟨g, cap, cur, rfl, hb, hg, hn, hm, by rw [hs, Nat.mul_one], ?_⟩⟩
  rw [Nat.mul_one]
  refine List.ext_getElem (by simp; omega) fun j h1 h2 => ?_
  have := hc j xs[j] (List.getElem?_eq_getElem h2)
  rw [cell_of_row w' g j cur e (0, 0) hg] at this
  have hj : j < cur.size := by omega
  rw [Array.getElem?_eq_getElem hj] at this
  simpa using this
theorem heap_setCells_row (b : Nat) : ∀ (vs : List Value) (o : Nat) (w : World) (cur : Array Value) (e : TypeId) (fz : Nat × Nat), w.heap[b]? = some (.cells cur e fz) → ∃ cur', (w.setCells b o vs).heap[b]? = some (.cells cur' e fz) ∧ cur'.size = cur.size
  | [], _, w, cur, e, fz, h => ⟨cur, h, rfl⟩
  | v :: r, o, w, cur, e, fz, h => by
    have h1 : (w.setCell ⟨b, o, none⟩ v).heap[b]? = some (.cells (cur.setIfInBounds o v) e fz) := by
      unfold World.setCell
      simp [Array.getElem?_modify, h]
    obtain ⟨cur', h2, h3⟩ := heap_setCells_row b r (o + 1) _ _ _ _ h1
    exact ⟨cur', h2, by rw [h3]; simp⟩
theorem heap_setCells_other (b k : Nat) (hk : k ≠ b) : ∀ (vs : List Value) (o : Nat) (w : World), (w.setCells b o vs).heap[k]? = w.heap[k]?
  | [], _, _ => rfl
  | v :: r, o, w => by rw [World.setCells, heap_setCells_other b k hk r]; exact Below.heap_setCell _ _ _ _ hk
theorem size_setCells (b : Nat) : ∀ (vs : List Value) (o : Nat) (w : World), (w.setCells b o vs).heap.size = w.heap.size
  | [], _, _ => rfl
  | v :: r, o, w => by rw [World.setCells, size_setCells b r]; exact size_set _ _ _
theorem meta_setCells (b : Nat) : ∀ (vs : List Value) (o : Nat) (w : World), (w.setCells b o vs).os = w.os ∧ (w.setCells b o vs).tape = w.tape ∧ (w.setCells b o vs).output = w.output
  | [], _, _ => ⟨rfl, rfl, rfl⟩
  | v :: r, o, w => by rw [World.setCells]; exact meta_setCells b r (o + 1) _
theorem grown_setCells {w w' : World} {b o : Nat} {vs : List Value} (h : w.grownBy w' (some b)) : w.grownBy (w'.setCells b o vs) (some b) :=
  ⟨(meta_setCells b vs o w').1.trans h.os, (meta_setCells b vs o w').2.1.trans h.tape, (meta_setCells b vs o w').2.2.trans h.output, by rw [size_setCells]; exact h.size, fun k hk hne => by
    rw [heap_setCells_other b k (fun e => hne (by rw [e]))]; exact h.block k hk hne⟩
theorem grown_new_setCells {w w' : World} {b o : Nat} {vs : List Value} {row : Option Nat} (h : w.grownBy w' row) (hb : w.heap.size ≤ b) : w.grownBy (w'.setCells b o vs) row :=
  ⟨(meta_setCells b vs o w').1.trans h.os, (meta_setCells b vs o w').2.1.trans h.tape, (meta_setCells b vs o w').2.2.trans h.output, by rw [size_setCells]; exact h.size, fun k hk hne => by
    rw [heap_setCells_other b k (by omega)]; exact h.block k hk hne⟩
theorem grown_drew {w w' : World} {row : Option Nat} (h : w.grownBy w' row) : w.grownBy w'.drew row := ⟨h.os, h.tape, h.output, h.size, h.block⟩
theorem grown_alloc {w w' : World} {row : Option Nat} (h : w.grownBy w' row) (o : Obj) : w.grownBy (w'.alloc o) row :=
  ⟨h.os, h.tape, h.output, by simp; have := h.size; omega, fun k hk hne => by
    rw [(MapKept.heap_alloc w' o).2 k (by have := h.size; omega)]; exact h.block k hk hne⟩
theorem drew_alloc_at (w : World) (o : Obj) : (w.drew.alloc o).heap[w.heap.size]? = some o := (MapKept.heap_alloc w.drew o).1
/-- A list into which one element was put. -/
def putAt (l : List Int) (i : Nat) (x : Int) : List Int := l.take i ++ x :: l.drop i
theorem putAt_len (l : List Int) (i : Nat) (x : Int) (h : i ≤ l.length) : (putAt l i x).length = l.length + 1 := by unfold putAt; simp; omega
set_option maxHeartbeats 4000000 in
set_option maxRecDepth 100000 in
theorem insU_any (w : World) (base : Nat) (v : Value) (l : List Int) (x : Int) (i : Nat) (hown : w.ownsRow base 43 1 v l.length (l.map (Value.int .u64))) (hi : i ≤ l.length) (hl : l.length ≤ 1000000) (hbase : base ≤ w.heap.size) :
    Calls Tryz.prog 44 #[v, .int .i64 i, .slice (some ⟨w.heap.size, 0, none⟩) 1 1] (w.alloc (.cells #[.int .u64 x] 43)) fun e w' => ∃ v', e = .returned v' ∧ w'.ownsRow base 43 1 v' (l.length + 1) ((putAt l i x).map (Value.int .u64)) ∧ w.grownBy w' v.ownBlock ∧ (v'.ownBlock = v.ownBlock ∨ ∀ q, v'.ownBlock = some q → w.heap.size ≤ q) := by
  obtain ⟨wa, hwa⟩ : ∃ z, z = w.alloc (.cells #[.int .u64 x] 43) := ⟨_, rfl⟩
  have hga : w.grownBy wa v.ownBlock := by rw [hwa]; exact World.grownBy_alloc w _ _
  have hza : wa.heap.size = w.heap.size + 1 := by rw [hwa]; simp
  have hgx : wa.heap[w.heap.size]? = some (.cells #[.int .u64 x] 43 (0, 0)) := by rw [hwa]; exact (MapKept.heap_alloc w _).1
  have hold : ∀ k, k < w.heap.size → wa.heap[k]? = w.heap[k]? := fun k hk => by rw [hwa]; exact (MapKept.heap_alloc w _).2 k hk
  have hvs : ∀ j (u : Value), [Value.int .u64 x][j]? = some u → wa.cell? ⟨w.heap.size, 0 + j, none⟩ = some u := fun j u hu => by
    rw [cell_of_row wa w.heap.size (0 + j) _ 43 (0, 0) hgx]
    simpa using hu
  have hlen : ((putAt l i x).map (Value.int .u64)).length = l.length + 1 := by rw [List.length_map]; exact putAt_len l i x hi
  rw [← hwa]
  clear hwa
  rcases hown.2 with ⟨rfl, h0⟩ | ⟨g, cap, cur, rfl, hB, hg, hn, hm, hs, ht⟩
  · have hl0 : l = [] := List.length_eq_zero_iff.1 h0
    subst hl0
    obtain rfl : i = 0 := by simpa using hi
    have hge := grownCap_ge wa 1 0 43
    have hle := grownCap_le_maxLen wa 1 0 43 (by simp [maxLen])
    refine (insU_end_grow none 0 0 w.heap.size 0 1 1 [] [.int .u64 x] wa (by omega) (by omega) (by omega) (by omega) rfl rfl (fun _ => rfl) (fun a ha => by cases ha) hvs (fun u hu => by simp at hu; subst hu; rfl)).mono ?_
    rintro e w' ⟨rfl, rfl⟩
    refine ⟨_, rfl, ?_, grown_alloc (grown_drew hga) _, Or.inr fun q hq => by cases hq; show w.heap.size ≤ wa.heap.size; omega⟩
    simp only [Nat.zero_add] at hge hle ⊢
    refine own_row_of (drew_alloc_at wa _) ?_ hge hle (by show base ≤ wa.heap.size; omega) rfl (fun j u hu => ?_)
    · simp [Builtin.zeroCells, Value.cells]; omega
    · rw [cell_of_row _ _ j _ 43 (0, 0) (drew_alloc_at wa _)]
      have hj : j = 0 := by
        simp [putAt] at hu
        rcases j with _ | j
        · rfl
        · simp at hu
      subst hj
      simp [putAt] at hu
      rw [Array.getElem?_append_left (by simp)]
      simp [hu]
  · have hgl : g < w.heap.size := (Array.getElem?_eq_some_iff.1 hg).1
    have hga2 : wa.heap[g]? = some (.cells cur 43 (0, 0)) := (hold g hgl).trans hg
    rw [Nat.mul_one] at hs ht
    have hcw : ∀ j (u : Value), (l.map (Value.int .u64))[j]? = some u → wa.cell? ⟨g, j, none⟩ = some u := fun j u hu => by
      rw [cell_of_row wa g j cur 43 (0, 0) hga2]
      rw [← ht, List.getElem?_take] at hu
      split at hu
      · simpa using hu
      · cases hu
    have hcs : ∀ j (u : Value), (l.map (Value.int .u64))[j]? = some u → wa.cell? ⟨g, 0 + j, none⟩ = some u := fun j u hu => by rw [Nat.zero_add]; exact hcw j u hu
    have hsome : ∀ j, j < cap → (wa.cell? ⟨g, j, none⟩).isSome = true := fun j hj => by
      rw [cell_of_row wa g j cur 43 (0, 0) hga2, Array.getElem?_eq_getElem (by omega)]; rfl
    have hfz : ∀ j, wa.frozen? ⟨g, j, none⟩ = false := fun j => by unfold World.frozen?; rw [hga2]; simp
    have h1c : ∀ u ∈ l.map (Value.int .u64), u.oneCell' = true := fun u hu => by obtain ⟨z, _, rfl⟩ := List.mem_map.1 hu; rfl
    have h1v : ∀ u ∈ [Value.int .u64 x], u.oneCell' = true := fun u hu => by simp at hu; subst hu; rfl
    have hm' : cap ≤ 9223372036854775807 := by unfold maxLen at hm; omega
    have hgrow : w.grownBy wa (some g) := hga
    have hput : ∀ j, j < l.length + 1 → (putAt l i x)[j]? = if j < i then l[j]? else if j = i then some x else l[j - 1]? := fun j hj => by
      unfold putAt
      by_cases h1 : j < i
      · rw [if_pos h1, List.getElem?_append_left (by simp; omega), List.getElem?_take, if_pos h1]
      · rw [if_neg h1, List.getElem?_append_right (by simp; omega), List.length_take, Nat.min_eq_left hi]
        by_cases h2 : j = i
        · subst h2; simp
        · rw [if_neg h2, show j - i = (j - 1 - i) + 1 by omega, List.getElem?_cons_succ, List.getElem?_drop]
          congr 1; omega
    have hval : ∀ (W : World), (∀ j, j < i → ∀ u, (l.map (Value.int .u64))[j]? = some u → W.cell? ⟨g, j, none⟩ = some u) → True := fun _ _ => trivial
    clear hval
    by_cases hroom : l.length + 1 ≤ cap
    · by_cases hie : i = l.length
      · subst hie
        refine (insU_end_room g 0 l.length cap w.heap.size 0 1 1 [.int .u64 x] wa (by omega) hroom hm' rfl (fun j hj => hsome _ (by omega)) (fun j hj => hfz _) hvs h1v).mono ?_
        rintro e w' ⟨rfl, rfl⟩
        refine ⟨_, rfl, ?_, grown_setCells hgrow, Or.inl rfl⟩
        obtain ⟨cur', q1, q2⟩ := heap_setCells_row g [.int .u64 x] (0 + l.length) wa cur 43 (0, 0) hga2
        refine own_row_of q1 (by omega) hroom hm hB hlen (fun j u hu => ?_)
        rw [List.getElem?_map] at hu
        have hj : j < l.length + 1 := by
          rcases Nat.lt_or_ge j (l.length + 1) with h | h
          · exact h
          · rw [List.getElem?_eq_none (by rw [putAt_len l _ x (Nat.le_refl _)]; exact h)] at hu; simp at hu
        rw [hput j hj] at hu
        by_cases h1 : j < l.length
        · rw [if_pos h1] at hu
          rw [World.cell?_setCells_out g _ _ _ _ (fun _ _ => Or.inl (by show j < 0 + l.length; omega))]
          exact hcw j u (by rw [List.getElem?_map]; exact hu)
        · obtain rfl : j = l.length := by omega
          rw [if_neg h1, if_pos rfl] at hu
          have := World.cell?_setCells_in g [.int .u64 x] (0 + l.length) wa (fun t ht => hsome _ (by simp at ht; omega)) 0 (by simp)
          simp only [Nat.zero_add, Nat.add_zero, List.getElem_cons_zero] at this
          rw [Nat.zero_add, this]
          simpa using hu
      · have hlt : i < l.length := by omega
        refine (insU_shift g 0 l.length cap i w.heap.size 0 1 1 (l.map (Value.int .u64)) [.int .u64 x] wa hlt (by omega) hroom hm' (by omega) (by simp) rfl hcs (fun j hj => by rw [Nat.zero_add]; exact hsome _ (by omega)) (fun j hj => hfz _) hvs h1c h1v
          43 43 1 cur.size (by unfold World.shape?; rw [hgx]; rfl) (by unfold World.shape?; rw [hga2]) (by omega) (by unfold World.frozen?; rw [hgx]; simp) (by unfold World.frozen?; rw [hgx]; simp)).mono ?_
        rintro e w' ⟨rfl, rfl⟩
        refine ⟨_, rfl, ?_, grown_setCells (grown_setCells (grown_drew hgrow)), Or.inl rfl⟩
        have hga3 : wa.drew.heap[g]? = some (.cells cur 43 (0, 0)) := hga2
        obtain ⟨cur1, q1, q2⟩ := heap_setCells_row g ((l.map (Value.int .u64)).drop i) (0 + (i + 1)) wa.drew cur 43 (0, 0) hga3
        obtain ⟨cur', q3, q4⟩ := heap_setCells_row g [.int .u64 x] (0 + i) _ cur1 43 (0, 0) q1
        refine own_row_of q3 (by omega) hroom hm hB hlen (fun j u hu => ?_)
        have hdl : ((l.map (Value.int .u64)).drop i).length = l.length - i := by simp
        have hs1 : ∀ t, t < ((l.map (Value.int .u64)).drop i).length → (wa.drew.cell? ⟨g, 0 + (i + 1) + t, none⟩).isSome = true := fun t ht => hsome _ (by omega)
        rw [List.getElem?_map] at hu
        have hj : j < l.length + 1 := by
          rcases Nat.lt_or_ge j (l.length + 1) with h | h
          · exact h
          · rw [List.getElem?_eq_none (by rw [putAt_len l _ x hi]; exact h)] at hu; simp at hu
        rw [hput j hj] at hu
        by_cases h1 : j < i
        · rw [if_pos h1] at hu
          rw [World.cell?_setCells_out g _ _ _ _ (fun _ _ => Or.inl (by show j < 0 + i; omega)), World.cell?_setCells_out g _ _ _ _ (fun _ _ => Or.inl (by show j < 0 + (i + 1); omega))]
          exact hcw j u (by rw [List.getElem?_map]; exact hu)
        · rw [if_neg h1] at hu
          by_cases h2 : j = i
          · subst h2
            rw [if_pos rfl] at hu
            have hsm : ((wa.drew.setCells g (0 + (j + 1)) ((l.map (Value.int .u64)).drop j)).cell? ⟨g, 0 + j + 0, none⟩).isSome = true := by
              rw [World.cell?_setCells_out g _ _ _ _ (fun _ _ => Or.inl (by show 0 + j + 0 < 0 + (j + 1); omega))]
              exact hsome _ (by omega)
            have hsm' : ∀ t, t < [Value.int .u64 x].length → ((wa.drew.setCells g (0 + (j + 1)) ((l.map (Value.int .u64)).drop j)).cell? ⟨g, 0 + j + t, none⟩).isSome = true := fun t ht => by
              have h0 : t = 0 := by simp at ht; exact ht
              subst h0; exact hsm
            have := World.cell?_setCells_in g [.int .u64 x] (0 + j) (wa.drew.setCells g (0 + (j + 1)) ((l.map (Value.int .u64)).drop j)) hsm' 0 (by simp)
            simp only [Nat.zero_add, Nat.add_zero, List.getElem_cons_zero] at this ⊢
            rw [this]
            simpa using hu
          · rw [if_neg h2] at hu
            rw [World.cell?_setCells_out g _ _ _ _ (fun _ _ => Or.inr (by show 0 + i + 1 ≤ j; omega))]
            have hk : j - 1 - i < ((l.map (Value.int .u64)).drop i).length := by omega
            have := World.cell?_setCells_in g _ (0 + (i + 1)) wa.drew hs1 (j - 1 - i) hk
            rw [show 0 + (i + 1) + (j - 1 - i) = j by omega] at this
            rw [this]
            rw [List.getElem_drop]
            rw [← List.getElem?_map] at hu
            rw [List.getElem?_eq_getElem (by simp; omega)] at hu
            rw [← hu]
            congr 2
            omega
    · have hge := grownCap_ge wa (l.length + 1) cap 43
      have hle := grownCap_le_maxLen wa (l.length + 1) cap 43 (by simp only [maxLen]; omega)
      by_cases hie : i = l.length
      · subst hie
        refine (insU_end_grow (some ⟨g, 0, none⟩) l.length cap w.heap.size 0 1 1 (l.map (Value.int .u64)) [.int .u64 x] wa (by omega) hn (by omega) (by omega) (by simp) rfl (fun h => by cases h) (fun a ha j u hu => by
          cases ha
          rw [show ((⟨g, 0, none⟩ : Addr).add j) = ⟨g, 0 + j, none⟩ from by unfold Addr.add; by_cases e : j = 0 <;> simp [e]]
          exact hcs j u hu) hvs h1v).mono ?_
        rintro e w' ⟨rfl, rfl⟩
        refine ⟨_, rfl, ?_, grown_alloc (grown_drew hga) _, Or.inr fun q hq => by cases hq; show w.heap.size ≤ wa.heap.size; omega⟩
        refine own_row_of (drew_alloc_at wa _) ?_ hge hle (by show base ≤ wa.heap.size; omega) hlen (fun j u hu => ?_)
        · simp [Builtin.zeroCells, Value.cells]; omega
        · rw [cell_of_row _ _ j _ 43 (0, 0) (drew_alloc_at wa _)]
          have he : (putAt l l.length x).map (Value.int .u64) = l.map (Value.int .u64) ++ [.int .u64 x] := by unfold putAt; simp
          rw [he] at hu
          have hj : j < (l.map (Value.int .u64) ++ [Value.int .u64 x]).length := by
            rcases Nat.lt_or_ge j (l.map (Value.int .u64) ++ [Value.int .u64 x]).length with h | h
            · exact h
            · rw [List.getElem?_eq_none h] at hu; cases hu
          rw [Array.getElem?_append_left (by simpa using hj)]
          simpa using hu
      · have hlt : i < l.length := by omega
        refine (insU_grow g 0 l.length cap i w.heap.size 0 1 1 (l.map (Value.int .u64)) [.int .u64 x] wa hlt (by omega) hn (by omega) (by omega) (by simp) rfl hcs hvs h1c h1v).mono ?_
        rintro e w' ⟨rfl, rfl⟩
        refine ⟨_, rfl, ?_, grown_new_setCells (grown_drew (grown_new_setCells (grown_drew (grown_alloc hga _)) (by omega))) (by omega), Or.inr fun q hq => by cases hq; show w.heap.size ≤ wa.heap.size; omega⟩
        obtain ⟨ROW, hROW⟩ : ∃ ROW : Array Value, ROW = ((l.map (Value.int .u64)).take i).toArray ++ Builtin.zeroCells (Value.int .u64 0).cells (l.length + 1 - i) ++ Builtin.zeroCells (Value.int .u64 0).cells (grownCap wa (l.length + 1) cap 43 - (l.length + 1)) := ⟨_, rfl⟩
        have hRs : ROW.size = grownCap wa (l.length + 1) cap 43 := by rw [hROW]; simp [Builtin.zeroCells, Value.cells]; omega
        have hRt : ∀ j, j < i → ROW[j]? = (l.map (Value.int .u64))[j]? := fun j hj => by
          rw [hROW, Array.getElem?_append_left (by simp; omega), Array.getElem?_append_left (by simp; omega)]
          simp [List.getElem?_take, hj]
        rw [← hROW]
        obtain ⟨wb, hwb⟩ : ∃ z, z = (wa.alloc (.cells ROW 43)).drew := ⟨_, rfl⟩
        have hgb : wb.heap[wa.heap.size]? = some (.cells ROW 43 (0, 0)) := by rw [hwb]; exact (MapKept.heap_alloc wa _).1
        rw [← hwb]
        clear hROW hwb
        have hcb : ∀ j, wb.cell? ⟨wa.heap.size, j, none⟩ = ROW[j]? := fun j => cell_of_row wb wa.heap.size j ROW 43 (0, 0) hgb
        obtain ⟨cur1, q1, q2⟩ := heap_setCells_row wa.heap.size [.int .u64 x] i wb ROW 43 (0, 0) hgb
        have q1d : (wb.setCells wa.heap.size i [.int .u64 x]).drew.heap[wa.heap.size]? = some (.cells cur1 43 (0, 0)) := q1
        obtain ⟨cur', q3, q4⟩ := heap_setCells_row wa.heap.size ((l.map (Value.int .u64)).drop i) (i + 1) _ cur1 43 (0, 0) q1d
        refine own_row_of q3 (by omega) hge hle (by omega) hlen (fun j u hu => ?_)
        have hdl : ((l.map (Value.int .u64)).drop i).length = l.length - i := by simp
        rw [List.getElem?_map] at hu
        have hj : j < l.length + 1 := by
          rcases Nat.lt_or_ge j (l.length + 1) with h | h
          · exact h
          · rw [List.getElem?_eq_none (by rw [putAt_len l _ x hi]; exact h)] at hu; simp at hu
        rw [hput j hj] at hu
        have hsb : ∀ t, t < l.length + 1 → (wb.cell? ⟨wa.heap.size, t, none⟩).isSome = true := fun t ht => by
          rw [hcb, Array.getElem?_eq_getElem (by omega)]; rfl
        by_cases h1 : j < i
        · rw [if_pos h1] at hu
          rw [World.cell?_setCells_out _ _ _ _ _ (fun _ _ => Or.inl (by show j < i + 1; omega))]
          show (wb.setCells wa.heap.size i [.int .u64 x]).cell? _ = _
          rw [World.cell?_setCells_out _ _ _ _ _ (fun _ _ => Or.inl (by show j < i; omega)), hcb, hRt j h1, List.getElem?_map]
          exact hu
        · rw [if_neg h1] at hu
          by_cases h2 : j = i
          · subst h2
            rw [if_pos rfl] at hu
            rw [World.cell?_setCells_out _ _ _ _ _ (fun _ _ => Or.inl (by show j < j + 1; omega))]
            show (wb.setCells wa.heap.size j [.int .u64 x]).cell? _ = _
            have := World.cell?_setCells_in wa.heap.size [.int .u64 x] j wb (fun t ht => hsb _ (by simp at ht; omega)) 0 (by simp)
            simp only [Nat.add_zero, List.getElem_cons_zero] at this
            rw [this]
            simpa using hu
          · rw [if_neg h2] at hu
            have hk : j - 1 - i < ((l.map (Value.int .u64)).drop i).length := by omega
            have := World.cell?_setCells_in wa.heap.size ((l.map (Value.int .u64)).drop i) (i + 1) (wb.setCells wa.heap.size i [.int .u64 x]).drew (fun t ht => by
              show ((wb.setCells wa.heap.size i [.int .u64 x]).cell? _).isSome = true
              rw [World.cell?_setCells_out _ _ _ _ _ (fun _ _ => Or.inr (by show i + 1 ≤ i + 1 + t; omega))]
              exact hsb _ (by omega)) (j - 1 - i) hk
            rw [show i + 1 + (j - 1 - i) = j by omega] at this
            rw [this]
            rw [List.getElem_drop]
            rw [← List.getElem?_map] at hu
            rw [List.getElem?_eq_getElem (by simp; omega)] at hu
            rw [← hu]
            congr 2
            omega
set_option maxHeartbeats 4000000 in
set_option maxRecDepth 100000 in
theorem insI_any (w : World) (base : Nat) (v : Value) (l : List Int) (x : Int) (i : Nat) (hown : w.ownsRow base 3 1 v l.length (l.map (Value.int .i64))) (hi : i ≤ l.length) (hl : l.length ≤ 1000000) (hbase : base ≤ w.heap.size) :
    Calls Tryz.prog 45 #[v, .int .i64 i, .slice (some ⟨w.heap.size, 0, none⟩) 1 1] (w.alloc (.cells #[.int .i64 x] 3)) fun e w' => ∃ v', e = .returned v' ∧ w'.ownsRow base 3 1 v' (l.length + 1) ((putAt l i x).map (Value.int .i64)) ∧ w.grownBy w' v.ownBlock ∧ (v'.ownBlock = v.ownBlock ∨ ∀ q, v'.ownBlock = some q → w.heap.size ≤ q) := by
  obtain ⟨wa, hwa⟩ : ∃ z, z = w.alloc (.cells #[.int .i64 x] 3) := ⟨_, rfl⟩
  have hga : w.grownBy wa v.ownBlock := by rw [hwa]; exact World.grownBy_alloc w _ _
  have hza : wa.heap.size = w.heap.size + 1 := by rw [hwa]; simp
  have hgx : wa.heap[w.heap.size]? = some (.cells #[.int .i64 x] 3 (0, 0)) := by rw [hwa]; exact (MapKept.heap_alloc w _).1
  have hold : ∀ k, k < w.heap.size → wa.heap[k]? = w.heap[k]? := fun k hk => by rw [hwa]; exact (MapKept.heap_alloc w _).2 k hk
  have hvs : ∀ j (u : Value), [Value.int .i64 x][j]? = some u → wa.cell? ⟨w.heap.size, 0 + j, none⟩ = some u := fun j u hu => by
    rw [cell_of_row wa w.heap.size (0 + j) _ 3 (0, 0) hgx]
    simpa using hu
  have hlen : ((putAt l i x).map (Value.int .i64)).length = l.length + 1 := by rw [List.length_map]; exact putAt_len l i x hi
  rw [← hwa]
  clear hwa
  rcases hown.2 with ⟨rfl, h0⟩ | ⟨g, cap, cur, rfl, hB, hg, hn, hm, hs, ht⟩
  · have hl0 : l = [] := List.length_eq_zero_iff.1 h0
    subst hl0
    obtain rfl : i = 0 := by simpa using hi
    have hge := grownCap_ge wa 1 0 3
    have hle := grownCap_le_maxLen wa 1 0 3 (by simp [maxLen])
    refine (insI_end_grow none 0 0 w.heap.size 0 1 1 [] [.int .i64 x] wa (by omega) (by omega) (by omega) (by omega) rfl rfl (fun _ => rfl) (fun a ha => by cases ha) hvs (fun u hu => by simp at hu; subst hu; rfl)).mono ?_
    rintro e w' ⟨rfl, rfl⟩
    refine ⟨_, rfl, ?_, grown_alloc (grown_drew hga) _, Or.inr fun q hq => by cases hq; show w.heap.size ≤ wa.heap.size; omega⟩
    simp only [Nat.zero_add] at hge hle ⊢
    refine own_row_of (drew_alloc_at wa _) ?_ hge hle (by show base ≤ wa.heap.size; omega) rfl (fun j u hu => ?_)
    · simp [Builtin.zeroCells, Value.cells]; omega
    · rw [cell_of_row _ _ j _ 3 (0, 0) (drew_alloc_at wa _)]
      have hj : j = 0 := by
        simp [putAt] at hu
        rcases j with _ | j
        · rfl
        · simp at hu
      subst hj
      simp [putAt] at hu
      rw [Array.getElem?_append_left (by simp)]
      simp [hu]
  · have hgl : g < w.heap.size := (Array.getElem?_eq_some_iff.1 hg).1
    have hga2 : wa.heap[g]? = some (.cells cur 3 (0, 0)) := (hold g hgl).trans hg
    rw [Nat.mul_one] at hs ht
    have hcw : ∀ j (u : Value), (l.map (Value.int .i64))[j]? = some u → wa.cell? ⟨g, j, none⟩ = some u := fun j u hu => by
      rw [cell_of_row wa g j cur 3 (0, 0) hga2]
      rw [← ht, List.getElem?_take] at hu
      split at hu
      · simpa using hu
      · cases hu
    have hcs : ∀ j (u : Value), (l.map (Value.int .i64))[j]? = some u → wa.cell? ⟨g, 0 + j, none⟩ = some u := fun j u hu => by rw [Nat.zero_add]; exact hcw j u hu
    have hsome : ∀ j, j < cap → (wa.cell? ⟨g, j, none⟩).isSome = true := fun j hj => by
      rw [cell_of_row wa g j cur 3 (0, 0) hga2, Array.getElem?_eq_getElem (by omega)]; rfl
    have hfz : ∀ j, wa.frozen? ⟨g, j, none⟩ = false := fun j => by unfold World.frozen?; rw [hga2]; simp
    have h1c : ∀ u ∈ l.map (Value.int .i64), u.oneCell' = true := fun u hu => by obtain ⟨z, _, rfl⟩ := List.mem_map.1 hu; rfl
    have h1v : ∀ u ∈ [Value.int .i64 x], u.oneCell' = true := fun u hu => by simp at hu; subst hu; rfl
    have hm' : cap ≤ 9223372036854775807 := by unfold maxLen at hm; omega
    have hgrow : w.grownBy wa (some g) := hga
    have hput : ∀ j, j < l.length + 1 → (putAt l i x)[j]? = if j < i then l[j]? else if j = i then some x else l[j - 1]? := fun j hj => by
      unfold putAt
      by_cases h1 : j < i
      · rw [if_pos h1, List.getElem?_append_left (by simp; omega), List.getElem?_take, if_pos h1]
      · rw [if_neg h1, List.getElem?_append_right (by simp; omega), List.length_take, Nat.min_eq_left hi]
        by_cases h2 : j = i
        · subst h2; simp
        · rw [if_neg h2, show j - i = (j - 1 - i) + 1 by omega, List.getElem?_cons_succ, List.getElem?_drop]
          congr 1; omega
    have hval : ∀ (W : World), (∀ j, j < i → ∀ u, (l.map (Value.int .i64))[j]? = some u → W.cell? ⟨g, j, none⟩ = some u) → True := fun _ _ => trivial
    clear hval
    by_cases hroom : l.length + 1 ≤ cap
    · by_cases hie : i = l.length
      · subst hie
        refine (insI_end_room g 0 l.length cap w.heap.size 0 1 1 [.int .i64 x] wa (by omega) hroom hm' rfl (fun j hj => hsome _ (by omega)) (fun j hj => hfz _) hvs h1v).mono ?_
        rintro e w' ⟨rfl, rfl⟩
        refine ⟨_, rfl, ?_, grown_setCells hgrow, Or.inl rfl⟩
        obtain ⟨cur', q1, q2⟩ := heap_setCells_row g [.int .i64 x] (0 + l.length) wa cur 3 (0, 0) hga2
        refine own_row_of q1 (by omega) hroom hm hB hlen (fun j u hu => ?_)
        rw [List.getElem?_map] at hu
        have hj : j < l.length + 1 := by
          rcases Nat.lt_or_ge j (l.length + 1) with h | h
          · exact h
          · rw [List.getElem?_eq_none (by rw [putAt_len l _ x (Nat.le_refl _)]; exact h)] at hu; simp at hu
        rw [hput j hj] at hu
        by_cases h1 : j < l.length
        · rw [if_pos h1] at hu
          rw [World.cell?_setCells_out g _ _ _ _ (fun _ _ => Or.inl (by show j < 0 + l.length; omega))]
          exact hcw j u (by rw [List.getElem?_map]; exact hu)
        · obtain rfl : j = l.length := by omega
          rw [if_neg h1, if_pos rfl] at hu
          have := World.cell?_setCells_in g [.int .i64 x] (0 + l.length) wa (fun t ht => hsome _ (by simp at ht; omega)) 0 (by simp)
          simp only [Nat.zero_add, Nat.add_zero, List.getElem_cons_zero] at this
          rw [Nat.zero_add, this]
          simpa using hu
      · have hlt : i < l.length := by omega
        refine (insI_shift g 0 l.length cap i w.heap.size 0 1 1 (l.map (Value.int .i64)) [.int .i64 x] wa hlt (by omega) hroom hm' (by omega) (by simp) rfl hcs (fun j hj => by rw [Nat.zero_add]; exact hsome _ (by omega)) (fun j hj => hfz _) hvs h1c h1v
          3 3 1 cur.size (by unfold World.shape?; rw [hgx]; rfl) (by unfold World.shape?; rw [hga2]) (by omega) (by unfold World.frozen?; rw [hgx]; simp) (by unfold World.frozen?; rw [hgx]; simp)).mono ?_
        rintro e w' ⟨rfl, rfl⟩
        refine ⟨_, rfl, ?_, grown_setCells (grown_setCells (grown_drew hgrow)), Or.inl rfl⟩
        have hga3 : wa.drew.heap[g]? = some (.cells cur 3 (0, 0)) := hga2
        obtain ⟨cur1, q1, q2⟩ := heap_setCells_row g ((l.map (Value.int .i64)).drop i) (0 + (i + 1)) wa.drew cur 3 (0, 0) hga3
        obtain ⟨cur', q3, q4⟩ := heap_setCells_row g [.int .i64 x] (0 + i) _ cur1 3 (0, 0) q1
        refine own_row_of q3 (by omega) hroom hm hB hlen (fun j u hu => ?_)
        have hdl : ((l.map (Value.int .i64)).drop i).length = l.length - i := by simp
        have hs1 : ∀ t, t < ((l.map (Value.int .i64)).drop i).length → (wa.drew.cell? ⟨g, 0 + (i + 1) + t, none⟩).isSome = true := fun t ht => hsome _ (by omega)
        rw [List.getElem?_map] at hu
        have hj : j < l.length + 1 := by
          rcases Nat.lt_or_ge j (l.length + 1) with h | h
          · exact h
          · rw [List.getElem?_eq_none (by rw [putAt_len l _ x hi]; exact h)] at hu; simp at hu
        rw [hput j hj] at hu
        by_cases h1 : j < i
        · rw [if_pos h1] at hu
          rw [World.cell?_setCells_out g _ _ _ _ (fun _ _ => Or.inl (by show j < 0 + i; omega)), World.cell?_setCells_out g _ _ _ _ (fun _ _ => Or.inl (by show j < 0 + (i + 1); omega))]
          exact hcw j u (by rw [List.getElem?_map]; exact hu)
        · rw [if_neg h1] at hu
          by_cases h2 : j = i
          · subst h2
            rw [if_pos rfl] at hu
            have hsm : ((wa.drew.setCells g (0 + (j + 1)) ((l.map (Value.int .i64)).drop j)).cell? ⟨g, 0 + j + 0, none⟩).isSome = true := by
              rw [World.cell?_setCells_out g _ _ _ _ (fun _ _ => Or.inl (by show 0 + j + 0 < 0 + (j + 1); omega))]
              exact hsome _ (by omega)
            have hsm' : ∀ t, t < [Value.int .i64 x].length → ((wa.drew.setCells g (0 + (j + 1)) ((l.map (Value.int .i64)).drop j)).cell? ⟨g, 0 + j + t, none⟩).isSome = true := fun t ht => by
              have h0 : t = 0 := by simp at ht; exact ht
              subst h0; exact hsm
            have := World.cell?_setCells_in g [.int .i64 x] (0 + j) (wa.drew.setCells g (0 + (j + 1)) ((l.map (Value.int .i64)).drop j)) hsm' 0 (by simp)
            simp only [Nat.zero_add, Nat.add_zero, List.getElem_cons_zero] at this ⊢
            rw [this]
            simpa using hu
          · rw [if_neg h2] at hu
            rw [World.cell?_setCells_out g _ _ _ _ (fun _ _ => Or.inr (by show 0 + i + 1 ≤ j; omega))]
            have hk : j - 1 - i < ((l.map (Value.int .i64)).drop i).length := by omega
            have := World.cell?_setCells_in g _ (0 + (i + 1)) wa.drew hs1 (j - 1 - i) hk
            rw [show 0 + (i + 1) + (j - 1 - i) = j by omega] at this
            rw [this]
            rw [List.getElem_drop]
            rw [← List.getElem?_map] at hu
            rw [List.getElem?_eq_getElem (by simp; omega)] at hu
            rw [← hu]
            congr 2
            omega
    · have hge := grownCap_ge wa (l.length + 1) cap 3
      have hle := grownCap_le_maxLen wa (l.length + 1) cap 3 (by simp only [maxLen]; omega)
      by_cases hie : i = l.length
      · subst hie
        refine (insI_end_grow (some ⟨g, 0, none⟩) l.length cap w.heap.size 0 1 1 (l.map (Value.int .i64)) [.int .i64 x] wa (by omega) hn (by omega) (by omega) (by simp) rfl (fun h => by cases h) (fun a ha j u hu => by
          cases ha
          rw [show ((⟨g, 0, none⟩ : Addr).add j) = ⟨g, 0 + j, none⟩ from by unfold Addr.add; by_cases e : j = 0 <;> simp [e]]
          exact hcs j u hu) hvs h1v).mono ?_
        rintro e w' ⟨rfl, rfl⟩
        refine ⟨_, rfl, ?_, grown_alloc (grown_drew hga) _, Or.inr fun q hq => by cases hq; show w.heap.size ≤ wa.heap.size; omega⟩
        refine own_row_of (drew_alloc_at wa _) ?_ hge hle (by show base ≤ wa.heap.size; omega) hlen (fun j u hu => ?_)
        · simp [Builtin.zeroCells, Value.cells]; omega
        · rw [cell_of_row _ _ j _ 3 (0, 0) (drew_alloc_at wa _)]
          have he : (putAt l l.length x).map (Value.int .i64) = l.map (Value.int .i64) ++ [.int .i64 x] := by unfold putAt; simp
          rw [he] at hu
          have hj : j < (l.map (Value.int .i64) ++ [Value.int .i64 x]).length := by
            rcases Nat.lt_or_ge j (l.map (Value.int .i64) ++ [Value.int .i64 x]).length with h | h
            · exact h
            · rw [List.getElem?_eq_none h] at hu; cases hu
          rw [Array.getElem?_append_left (by simpa using hj)]
          simpa using hu
      · have hlt : i < l.length := by omega
        refine (insI_grow g 0 l.length cap i w.heap.size 0 1 1 (l.map (Value.int .i64)) [.int .i64 x] wa hlt (by omega) hn (by omega) (by omega) (by simp) rfl hcs hvs h1c h1v).mono ?_
        rintro e w' ⟨rfl, rfl⟩
        refine ⟨_, rfl, ?_, grown_new_setCells (grown_drew (grown_new_setCells (grown_drew (grown_alloc hga _)) (by omega))) (by omega), Or.inr fun q hq => by cases hq; show w.heap.size ≤ wa.heap.size; omega⟩
        obtain ⟨ROW, hROW⟩ : ∃ ROW : Array Value, ROW = ((l.map (Value.int .i64)).take i).toArray ++ Builtin.zeroCells (Value.int .i64 0).cells (l.length + 1 - i) ++ Builtin.zeroCells (Value.int .i64 0).cells (grownCap wa (l.length + 1) cap 3 - (l.length + 1)) := ⟨_, rfl⟩
        have hRs : ROW.size = grownCap wa (l.length + 1) cap 3 := by rw [hROW]; simp [Builtin.zeroCells, Value.cells]; omega
        have hRt : ∀ j, j < i → ROW[j]? = (l.map (Value.int .i64))[j]? := fun j hj => by
          rw [hROW, Array.getElem?_append_left (by simp; omega), Array.getElem?_append_left (by simp; omega)]
          simp [List.getElem?_take, hj]
        rw [← hROW]
        obtain ⟨wb, hwb⟩ : ∃ z, z = (wa.alloc (.cells ROW 3)).drew := ⟨_, rfl⟩
        have hgb : wb.heap[wa.heap.size]? = some (.cells ROW 3 (0, 0)) := by rw [hwb]; exact (MapKept.heap_alloc wa _).1
        rw [← hwb]
        clear hROW hwb
        have hcb : ∀ j, wb.cell? ⟨wa.heap.size, j, none⟩ = ROW[j]? := fun j => cell_of_row wb wa.heap.size j ROW 3 (0, 0) hgb
        obtain ⟨cur1, q1, q2⟩ := heap_setCells_row wa.heap.size [.int .i64 x] i wb ROW 3 (0, 0) hgb
        have q1d : (wb.setCells wa.heap.size i [.int .i64 x]).drew.heap[wa.heap.size]? = some (.cells cur1 3 (0, 0)) := q1
        obtain ⟨cur', q3, q4⟩ := heap_setCells_row wa.heap.size ((l.map (Value.int .i64)).drop i) (i + 1) _ cur1 3 (0, 0) q1d
        refine own_row_of q3 (by omega) hge hle (by omega) hlen (fun j u hu => ?_)
        have hdl : ((l.map (Value.int .i64)).drop i).length = l.length - i := by simp
        rw [List.getElem?_map] at hu
        have hj : j < l.length + 1 := by
          rcases Nat.lt_or_ge j (l.length + 1) with h | h
          · exact h
          · rw [List.getElem?_eq_none (by rw [putAt_len l _ x hi]; exact h)] at hu; simp at hu
        rw [hput j hj] at hu
        have hsb : ∀ t, t < l.length + 1 → (wb.cell? ⟨wa.heap.size, t, none⟩).isSome = true := fun t ht => by
          rw [hcb, Array.getElem?_eq_getElem (by omega)]; rfl
        by_cases h1 : j < i
        · rw [if_pos h1] at hu
          rw [World.cell?_setCells_out _ _ _ _ _ (fun _ _ => Or.inl (by show j < i + 1; omega))]
          show (wb.setCells wa.heap.size i [.int .i64 x]).cell? _ = _
          rw [World.cell?_setCells_out _ _ _ _ _ (fun _ _ => Or.inl (by show j < i; omega)), hcb, hRt j h1, List.getElem?_map]
          exact hu
        · rw [if_neg h1] at hu
          by_cases h2 : j = i
          · subst h2
            rw [if_pos rfl] at hu
            rw [World.cell?_setCells_out _ _ _ _ _ (fun _ _ => Or.inl (by show j < j + 1; omega))]
            show (wb.setCells wa.heap.size j [.int .i64 x]).cell? _ = _
            have := World.cell?_setCells_in wa.heap.size [.int .i64 x] j wb (fun t ht => hsb _ (by simp at ht; omega)) 0 (by simp)
            simp only [Nat.add_zero, List.getElem_cons_zero] at this
            rw [this]
            simpa using hu
          · rw [if_neg h2] at hu
            have hk : j - 1 - i < ((l.map (Value.int .i64)).drop i).length := by omega
            have := World.cell?_setCells_in wa.heap.size ((l.map (Value.int .i64)).drop i) (i + 1) (wb.setCells wa.heap.size i [.int .i64 x]).drew (fun t ht => by
              show ((wb.setCells wa.heap.size i [.int .i64 x]).cell? _).isSome = true
              rw [World.cell?_setCells_out _ _ _ _ _ (fun _ _ => Or.inr (by show i + 1 ≤ i + 1 + t; omega))]
              exact hsb _ (by omega)) (j - 1 - i) hk
            rw [show i + 1 + (j - 1 - i) = j by omega] at this
            rw [this]
            rw [List.getElem_drop]
            rw [← List.getElem?_map] at hu
            rw [List.getElem?_eq_getElem (by simp; omega)] at hu
            rw [← hu]
            congr 2
            omega
end Go.Proofs.YtahiahjhpakeiaaGreatDoor
namespace Go.Proofs.YtahiahjhpakeiaaGreatDoor
set_option linter.unusedVariables false
set_option linter.unusedSimpArgs false

/-- One more, at its place. -/
def insA (f : RS) (c : List Int) (n : Int) : List Int := putAt c (below (c.map (idR f)) (idR f n)) n
def ordF (f : RS) (l : List Int) : List Int := l.foldl (insA f) []
/-- Rising places. -/
def UpId (f : RS) (c : List Int) : Prop := Up (c.map (idR f))
theorem ordF_snoc (f : RS) (l : List Int) (n : Int) : ordF f (l ++ [n]) = insA f (ordF f l) n := by unfold ordF; rw [List.foldl_append]; rfl
theorem putAt_mem {l : List Int} {i : Nat} {x y : Int} : y ∈ putAt l i x ↔ y = x ∨ y ∈ l := by
  unfold putAt
  rw [List.mem_append, List.mem_cons]
  constructor
  · rintro (h | h | h)
    · exact Or.inr (List.mem_of_mem_take h)
    · exact Or.inl h
    · exact Or.inr (List.mem_of_mem_drop h)
  · rintro (h | h)
    · exact Or.inr (Or.inl h)
    · rw [← List.take_append_drop i l] at h
      rcases List.mem_append.1 h with h | h
      · exact Or.inl h
      · exact Or.inr (Or.inr h)
theorem below_le_len (c : List Int) (f : RS) (x : Int) : below (c.map (idR f)) x ≤ c.length := by have := below_le (c.map (idR f)) x; simpa using this
theorem ordG_len (f : RS) : ∀ (l c : List Int), (l.foldl (insA f) c).length = c.length + l.length
  | [], c => rfl
  | n :: l, c => by
    show (l.foldl (insA f) (insA f c n)).length = _
    rw [ordG_len f l]
    unfold insA
    rw [putAt_len _ _ _ (below_le_len _ _ _), List.length_cons]; omega
theorem ordF_len (f : RS) (l : List Int) : (ordF f l).length = l.length := by unfold ordF; rw [ordG_len]; simp
theorem ordG_mem (f : RS) (x : Int) : ∀ (l c : List Int), x ∈ l.foldl (insA f) c ↔ x ∈ c ∨ x ∈ l
  | [], c => by simp
  | n :: l, c => by
    show x ∈ l.foldl (insA f) (insA f c n) ↔ _
    rw [ordG_mem f x l]
    unfold insA
    rw [putAt_mem, List.mem_cons]
    constructor
    · rintro ((h | h) | h)
      · exact Or.inr (Or.inl h)
      · exact Or.inl h
      · exact Or.inr (Or.inr h)
    · rintro (h | h | h)
      · exact Or.inl (Or.inr h)
      · exact Or.inl (Or.inl h)
      · exact Or.inr h
theorem ordF_mem (f : RS) (x : Int) (l : List Int) : x ∈ ordF f l ↔ x ∈ l := by unfold ordF; rw [ordG_mem]; simp
/-- Of rising places those below one come first. -/
theorem below_split : ∀ {l : List Int} (h : Up l) (x : Int), (∀ y ∈ l.take (below l x), y < x) ∧ (∀ y ∈ l.drop (below l x), x ≤ y)
  | [], _, x => by simp [below]
  | z :: l, h, x => by
    have h' := List.pairwise_cons.1 h
    by_cases hz : z < x
    · have e : below (z :: l) x = below l x + 1 := by unfold below; rw [List.countP_cons_of_pos (by simpa using hz)]
      rw [e]
      obtain ⟨h1, h2⟩ := below_split h'.2 x
      refine ⟨fun y hy => ?_, fun y hy => h2 y hy⟩
      rcases List.mem_cons.1 hy with e2 | hy
      · rw [e2]; exact hz
      · exact h1 y hy
    · have e : below (z :: l) x = 0 := by
        unfold below
        rw [List.countP_eq_zero]
        intro y hy
        rcases List.mem_cons.1 hy with rfl | hy
        · simpa using hz
        · have := h'.1 y hy; simp; omega
      rw [e]
      refine ⟨fun y hy => by simp at hy, fun y hy => ?_⟩
      simp at hy
      rcases hy with rfl | hy
      · omega
      · have := h'.1 y hy; omega
theorem putAt_up {l : List Int} (h : Up l) {x : Int} (hx : x ∉ l) : Up (putAt l (below l x) x) := by
  obtain ⟨h1, h2⟩ := below_split h x
  unfold putAt
  refine List.pairwise_append.2 ⟨List.Pairwise.sublist (List.take_sublist _ _) h, List.pairwise_cons.2 ⟨fun y hy => ?_, List.Pairwise.sublist (List.drop_sublist _ _) h⟩, fun y hy z hz => ?_⟩
  · have := h2 y hy
    have : x ≠ y := by rintro rfl; exact hx (List.mem_of_mem_drop hy)
    omega
  · have := h1 y hy
    rcases List.mem_cons.1 hz with rfl | hz
    · exact this
    · have := h2 z hz; omega
theorem map_putAt (g : Int → Int) (l : List Int) (i : Nat) (x : Int) : (putAt l i x).map g = putAt (l.map g) i (g x) := by unfold putAt; simp
theorem ordG_up {f : RS} : ∀ (l c : List Int), UpId f c → (l.map (idR f)).Nodup → (∀ x ∈ c, ∀ y ∈ l, idR f x ≠ idR f y) → UpId f (l.foldl (insA f) c)
  | [], c, hc, _, _ => hc
  | n :: l, c, hc, hn, hd => by
    show UpId f (l.foldl (insA f) (insA f c n))
    have hn' := List.nodup_cons.1 hn
    refine ordG_up l _ ?_ hn'.2 fun x hx y hy => ?_
    · unfold UpId insA
      rw [map_putAt]
      refine putAt_up hc fun hm => ?_
      obtain ⟨y, hy, e⟩ := List.mem_map.1 hm
      exact hd y hy n (by simp) e
    · unfold insA at hx
      rcases putAt_mem.1 hx with rfl | hx
      · exact fun e => hn'.1 (by rw [e]; exact List.mem_map.2 ⟨y, hy, rfl⟩)
      · exact hd x hx y (List.mem_cons_of_mem _ hy)
theorem ordF_up {f : RS} (l : List Int) (h : (l.map (idR f)).Nodup) : UpId f (ordF f l) := ordG_up l [] List.Pairwise.nil h (fun x hx => by simp at hx)
/-- The circle. -/
def circ (f : RS) : List Int := ordF f (liveL f)
theorem liveL_nodup (f : RS) : (liveL f).Nodup := List.Pairwise.filter _ (by decide)
theorem live_ids_nodup {f : RS} (I : Inv f) (l : List Int) (hn : l.Nodup) (hl : ∀ x ∈ l, livesR f x = true) : (l.map (idR f)).Nodup := by
  refine List.pairwise_map.2 (List.Pairwise.imp_of_mem (fun {a b} ha hb hab e => hab (I.uniq a b (hl a ha) (hl b hb) e)) hn)
theorem circ_up {f : RS} (I : Inv f) : UpId f (circ f) := ordF_up _ (live_ids_nodup I _ (liveL_nodup f) fun x hx => (mem_liveL I.dom).1 hx)
theorem circ_mem {f : RS} (I : Inv f) {x : Int} : x ∈ circ f ↔ livesR f x = true := by unfold circ; rw [ordF_mem, mem_liveL I.dom]
theorem circ_len (f : RS) : (circ f).length = (liveL f).length := ordF_len f _
end Go.Proofs.YtahiahjhpakeiaaGreatDoor
end
