/-
  slices.Insert at a table's entries (five cells each): the library's own text. TURNED out of the kit's own walks at strings (Derived/Shelf/Spec/SlicesInsert, SlicesInsertGrow). slices.Insert of one entry, into a row of the call's own.
-/
import Derived.Test.YtahiahjhpakeiaaGreatDoorKept1
import Derived.Test.YtahiahjhpakeiaaGreatDoorKept16
import Derived.Test.YtahiahjhpakeiaaGreatDoorKept17
import Derived.Test.YtahiahjhpakeiaaGreatDoorRows
section
namespace Go.Proofs.YtahiahjhpakeiaaGreatDoor
open Go.Shelf Go.RowKit Go.Lib
set_option linter.unusedVariables false
set_option linter.unusedSimpArgs false
def zW : Value := .agg #[.string ByteArray.empty, .int .i64 0, .slice none 0 0, .bool false, .int .i64 0]
theorem zW_cells : zW.cells = #[.string ByteArray.empty, .int .i64 0, .slice none 0 0, .bool false, .int .i64 0] := rfl
noncomputable def entI : TypeInfo := (Tryz.prog.info? 79).get (by kernel_rfl)
theorem entI_at : Tryz.prog.info? 79 = some entI := by kernel_rfl
theorem insW_size : ∀ w, (Go.sizeOf 79).run Tryz.prog w = .ok 5 w := fun w => by kernel_rfl
theorem insW_info : ∃ i0, Tryz.prog.info? 79 = some i0 ∧ i0.zero = some zW ∧ i0.size = 5 ∧ i0.bytes = 64 := ⟨entI, entI_at, by kernel_rfl, by kernel_rfl, by kernel_rfl⟩
theorem insW_z5 : (Tryz.prog.info? 79).map (·.size) = some 5 := by kernel_rfl
theorem zeros_one (k : Nat) : ∀ v ∈ (Builtin.zeroCells zW.cells k).toList, v.oneCell' = true := by
  intro v hv
  unfold Builtin.zeroCells at hv
  rw [zW_cells] at hv
  simp only [Array.toList_map, List.mem_map] at hv
  obtain ⟨i, _, rfl⟩ := hv
  have h5 : i % 5 < 5 := Nat.mod_lt _ (by decide)
  have : i % 5 = 0 ∨ i % 5 = 1 ∨ i % 5 = 2 ∨ i % 5 = 3 ∨ i % 5 = 4 := by omega
  rcases this with e | e | e | e | e <;> · simp only [List.size_toArray, List.length_cons, List.length_nil, Nat.zero_add, Nat.reduceAdd]; rw [e]; rfl
theorem zeros_len (k : Nat) : (Builtin.zeroCells zW.cells k).size = k * 5 := by
  unfold Builtin.zeroCells; rw [zW_cells]; simp
set_option maxHeartbeats 4000000 in
set_option maxRecDepth 100000 in
theorem insW_shift (b off n c i vb voff m vc : Nat) (cs vs : List Value) (w : World) (hi : i < n) (hm : 0 < m) (hroom : n + m ≤ c) (hc63 : c ≤ 9223372036854775807) (hvb : vb ≠ b)
    (hcl : cs.length = n * 5) (hvl : vs.length = m * 5)
    (hcs : ∀ j v, cs[j]? = some v → w.cell? ⟨b, off + j, none⟩ = some v) (hsp : ∀ j, j < (n + m) * 5 → (w.cell? ⟨b, off + j, none⟩).isSome = true) (hfz : ∀ j, j < (n + m) * 5 → w.frozen? ⟨b, off + j, none⟩ = false)
    (hvs : ∀ j v, vs[j]? = some v → w.cell? ⟨vb, voff + j, none⟩ = some v) (h1c : ∀ v ∈ cs, v.oneCell' = true) (h1v : ∀ v ∈ vs, v.oneCell' = true)
    (tA tB : TypeId) (kA kB : Nat) (hsa : w.shape? vb = some (tA, kA)) (hsb : w.shape? b = some (tB, kB)) (hkB : kB ≠ 0) (hfa : w.frozen? ⟨vb, voff, none⟩ = false) (hfe : w.frozen? ⟨vb, kA, none⟩ = false) :
    Calls Tryz.prog 122 #[.slice (some ⟨b, off, none⟩) n c, .int .i64 i, .slice (some ⟨vb, voff, none⟩) m vc] w fun e w' =>
      e = .returned (.slice (some ⟨b, off, none⟩) (n + m) c) ∧ w' = (w.drew.setCells b (off + (i + m) * 5) (cs.drop (i * 5))).setCells b (off + i * 5) vs := by
  have hz1 : ¬ ((m : Int) = 0) := by omega
  have hz2 : ¬ ((i : Int) = (n : Int)) := by omega
  have hov : ∀ lb cb, (callFunc 152 #[.slice (some ⟨vb, voff, none⟩) m vc, .slice (some ⟨b, off + (i + m) * 5, none⟩) lb cb]).run Tryz.prog w = .ok (.value (.bool false)) w := fun lb cb => by
    rw [run_callFunc_extern Tryz.func152 (by kernel_rfl) (by kernel_rfl) (by kernel_rfl) (e := Extern.SlicesOverlaps.overlaps #[94, 94] #[4]) (by kernel_rfl),
      Lib.run_overlaps_apart w 94 4 79 Tryz.underlying94 5 insW_size ⟨vb, voff, none⟩ ⟨b, off + (i + m) * 5, none⟩ m vc lb cb hvb tA tB kA kB hsa hsb hkB hfa hfe]
    rfl
  have hdl : (cs.drop (i * 5)).length = (n - i) * 5 := by rw [List.length_drop, hcl]; omega
  have hw1 : IntKind.i64.wrap ((i : Int) + (m : Int)) = (i : Int) + (m : Int) := by rw [IntKind.wrap_i64]; omega
  have hb1 : (0 : Int) ≤ (i : Int) + (m : Int) := by omega
  have hin : i ≤ n := by omega
  have htn : ((i : Int) + (m : Int)).toNat = i + m := by omega
  have hb2 : ¬ (c = i + m) := by omega
  have hb3 : (i : Int) ≤ (n : Int) + (m : Int) := by omega
  have hb4 : ¬ (c = i) := by omega
  have hmn1 : Nat.min (n + m - i) (n + m - (i + m)) = n - i := by simp only [Nat.min_def]; split <;> omega
  have hmn2 : Nat.min m (n + m - i) = m := by simp only [Nat.min_def]; split <;> omega
  have hcp1 : ∀ ty dc sc, (Builtin.copy_ #[94, 94] ty #[.slice (some ⟨b, off + (i + m) * 5, none⟩) (n + m - (i + m)) dc, .slice (some ⟨b, off + i * 5, none⟩) (n + m - i) sc]).run Tryz.prog w.drew = .ok (goInt ((n - i : Nat) : Int)) (w.drew.setCells b (off + (i + m) * 5) (cs.drop (i * 5))) := fun ty dc sc => by
    have h := run_copy_wide (P := Tryz.prog) w.drew 94 94 ty 79 5 b (off + (i + m) * 5) (n + m - (i + m)) dc ⟨b, off + i * 5, none⟩ (n + m - i) sc (cs.drop (i * 5)) Tryz.underlying94 insW_z5 (by rw [hdl, hmn1])
      (fun j v hj => by rw [Addr.add_lit, Nat.add_assoc]; exact hcs (i * 5 + j) v (by rwa [List.getElem?_drop] at hj))
      (fun j hj => by rw [Nat.add_assoc]; exact hsp _ (by omega)) (fun j hj => by rw [Nat.add_assoc]; exact hfz _ (by omega)) (fun v hv => h1c v (List.mem_of_mem_drop hv))
    rwa [hmn1] at h
  obtain ⟨W1, hW1⟩ : ∃ W1, W1 = w.drew.setCells b (off + (i + m) * 5) (cs.drop (i * 5)) := ⟨_, rfl⟩
  have hsp1 : ∀ k, k < (n + m) * 5 → (W1.cell? ⟨b, off + k, none⟩).isSome = true := fun k hk => by
    rw [hW1]
    exact isSome_setCells b _ _ _ (fun j hj => by rw [Nat.add_assoc]; exact hsp _ (by omega)) _ (hsp k hk)
  have hcp2 : ∀ (W : World), (∀ x, W.cell? x = W1.cell? x) → (∀ x, W.frozen? x = W1.frozen? x) → ∀ ty dc, (Builtin.copy_ #[94, 94] ty #[.slice (some ⟨b, off + i * 5, none⟩) (n + m - i) dc, .slice (some ⟨vb, voff, none⟩) m vc]).run Tryz.prog W = .ok (goInt m) (W.setCells b (off + i * 5) vs) := fun W hWc hWf ty dc => by
    have h := run_copy_wide (P := Tryz.prog) W 94 94 ty 79 5 b (off + i * 5) (n + m - i) dc ⟨vb, voff, none⟩ m vc vs Tryz.underlying94 insW_z5 (by rw [hvl, hmn2])
      (fun j v hj => by
        rw [Addr.add_lit, hWc, hW1, World.cell?_setCells_out b _ _ _ _ (fun h _ => absurd h hvb)]
        exact hvs j v hj)
      (fun j hj => by rw [hWc, Nat.add_assoc]; exact hsp1 _ (by omega)) (fun j hj => by rw [hWf, hW1, World.frozen?_setCells, Nat.add_assoc]; exact hfz _ (by omega)) h1v
    rwa [hmn2] at h
  rw [← hW1] at hcp1
  go_enter Tryz.func122, Tryz.ntmps122
  go_wp2_with (simp only [hov])
  go_region_law (refine step_copy_runI rfl _ _ 94 94 rfl _ _ (by simp [Act.eval, Act.put]) (by simp [Act.eval, Act.put]) (hcp1 _ _ _) ?_)
  go_wp2_with (at_builtin; refine wpList_copy_runI _ rfl _ _ 94 94 rfl _ _ rfl rfl (hcp2 _ (fun _ => rfl) (fun _ => rfl) _ _) ?_)
  go_ret
  first | exact ⟨rfl, rfl⟩ | exact ⟨rfl, by rw [hW1]⟩

set_option maxHeartbeats 4000000 in
set_option maxRecDepth 100000 in
theorem insW_end_room (b off n c vb voff m vc : Nat) (vs : List Value) (w : World) (hm : 0 < m) (hroom : n + m ≤ c) (hc63 : c ≤ 9223372036854775807)
    (hvl : vs.length = m * 5) (hsp : ∀ j, j < m * 5 → (w.cell? ⟨b, off + n * 5 + j, none⟩).isSome = true) (hfz : ∀ j, j < m * 5 → w.frozen? ⟨b, off + n * 5 + j, none⟩ = false)
    (hvs : ∀ j v, vs[j]? = some v → w.cell? ⟨vb, voff + j, none⟩ = some v) (h1v : ∀ v ∈ vs, v.oneCell' = true) :
    Calls Tryz.prog 122 #[.slice (some ⟨b, off, none⟩) n c, .int .i64 n, .slice (some ⟨vb, voff, none⟩) m vc] w fun e w' =>
      e = .returned (.slice (some ⟨b, off, none⟩) (n + m) c) ∧ w' = w.setCells b (off + n * 5) vs := by
  have hz1 : ¬ ((m : Int) = 0) := by omega
  obtain ⟨i0, hi0, hz0, hzs, hzb⟩ := insW_info
  have hsrc : Src Tryz.prog i0.size 94 (.slice (some ⟨vb, voff, none⟩) m vc) m vs w := by
    rw [hzs]
    exact Src.ofSlice w Tryz.underlying94 ⟨vb, voff, none⟩ m vc vs (by omega) (fun j u hj => by rw [Addr.add_lit]; exact hvs j u hj) h1v
  go_enter Tryz.func122, Tryz.ntmps122
  go_wp2_with (at_builtin; refine wpList_append_room_src _ rfl _ _ 94 94 rfl 79 i0 Tryz.underlying94 hi0 b off n c rfl _ rfl m vs hsrc hroom (by rw [hvl, hzs]; exact hsp) (by rw [hvl, hzs]; exact hfz) ?_)
  go_ret
  exact ⟨rfl, rfl⟩

set_option maxHeartbeats 4000000 in
set_option maxRecDepth 100000 in
theorem insW_end_grow (base : Option Addr) (n c vb voff m vc : Nat) (cs vs : List Value) (w : World) (hm : 0 < m) (hnc : n ≤ c) (hroom : c < n + m) (hbig : (n + m) * 64 ≤ 140737488355328)
    (hcl : cs.length = n * 5) (hvl : vs.length = m * 5) (hnil : base = none → n = 0)
    (hcs : ∀ a, base = some a → ∀ j v, cs[j]? = some v → w.cell? (a.add j) = some v)
    (hvs : ∀ j v, vs[j]? = some v → w.cell? ⟨vb, voff + j, none⟩ = some v) (h1v : ∀ v ∈ vs, v.oneCell' = true) :
    Calls Tryz.prog 122 #[.slice base n c, .int .i64 n, .slice (some ⟨vb, voff, none⟩) m vc] w fun e w' =>
      e = .returned (.slice (some ⟨w.heap.size, 0, none⟩) (n + m) (grownCap w (n + m) c 79)) ∧
      w' = w.drew.alloc (.cells ((cs ++ vs).toArray ++ Builtin.zeroCells zW.cells (grownCap w (n + m) c 79 - (n + m))) 79) := by
  obtain ⟨i0, hi0, hz0, hzs, hzb⟩ := insW_info
  have hz1 : ¬ ((m : Int) = 0) := by omega
  have hsrc : Src Tryz.prog i0.size 94 (.slice (some ⟨vb, voff, none⟩) m vc) m vs w := by
    rw [hzs]
    exact Src.ofSlice w Tryz.underlying94 ⟨vb, voff, none⟩ m vc vs (by omega) (fun j u hj => by rw [Addr.add_lit]; exact hvs j u hj) h1v
  have hold : (Builtin.firstCells i0.size n (.slice base n c)).run Tryz.prog w.drew = .ok cs.toArray w.drew := by
    rw [hzs]
    cases base with
    | none =>
      have h0 := hnil rfl
      subst h0
      rw [List.length_eq_zero_iff.1 (by omega : cs.length = 0)]
      exact run_firstCells_none w.drew 5 0 0 c
    | some a => exact run_firstCells_some w.drew 5 n a n c cs (by omega) (fun j v hj => hcs a rfl j v hj)
  have hrun : ∀ ty, (Builtin.append_ #[94, 94] ty #[.slice base n c, .slice (some ⟨vb, voff, none⟩) m vc]).run Tryz.prog w = _ := fun ty =>
    run_append_grow_src w 94 94 ty 79 i0 _ Tryz.underlying94 hi0 hz0 base n c cs hold _ m vs hsrc hroom (by omega) (by rw [hzb]; exact growslice_fits hroom hbig)
  obtain ⟨Z, hZ⟩ : ∃ Z, Z = zW := ⟨_, rfl⟩
  rw [← hZ] at hrun ⊢
  go_enter Tryz.func122, Tryz.ntmps122
  cases base with
  | none =>
    have h0 := hnil rfl
    subst h0
    go_wp2_with (at_builtin; refine Lib.wpList_append_run _ rfl _ _ _ _ rfl _ _ rfl rfl _ _ (hrun _) ?_)
    go_ret
    exact ⟨rfl, rfl⟩
  | some a =>
    obtain ⟨ab, ao, asp⟩ := a
    go_wp2_with (at_builtin; refine Lib.wpList_append_run _ rfl _ _ _ _ rfl _ _ rfl rfl _ _ (hrun _) ?_)
    all_goals (go_ret; exact ⟨rfl, rfl⟩)

set_option maxHeartbeats 4000000 in
set_option maxRecDepth 100000 in
theorem insW_grow (b off n c i vb voff m vc : Nat) (cs vs : List Value) (w : World) (hi : i < n) (hm : 0 < m) (hnc : n ≤ c) (hroom : c < n + m) (hbig : (n + m) * 64 ≤ 140737488355328)
    (hcl : cs.length = n * 5) (hvl : vs.length = m * 5)
    (hcs : ∀ j v, cs[j]? = some v → w.cell? ⟨b, off + j, none⟩ = some v)
    (hvs : ∀ j v, vs[j]? = some v → w.cell? ⟨vb, voff + j, none⟩ = some v) (h1c : ∀ v ∈ cs, v.oneCell' = true) (h1v : ∀ v ∈ vs, v.oneCell' = true) :
    Calls Tryz.prog 122 #[.slice (some ⟨b, off, none⟩) n c, .int .i64 i, .slice (some ⟨vb, voff, none⟩) m vc] w fun e w' =>
      e = .returned (.slice (some ⟨w.heap.size, 0, none⟩) (n + m) (grownCap w (n + m) c 79)) ∧
      w' = (((w.alloc (.cells ((cs.take (i * 5)).toArray ++ Builtin.zeroCells zW.cells (n + m - i) ++ Builtin.zeroCells zW.cells (grownCap w (n + m) c 79 - (n + m))) 79)).drew.setCells w.heap.size (i * 5) vs).drew).setCells w.heap.size ((i + m) * 5) (cs.drop (i * 5)) := by
  obtain ⟨i0, hi0, hz0, hzs, hzb⟩ := insW_info
  have hz1 : ¬ ((m : Int) = 0) := by omega
  have hz2 : ¬ ((i : Int) = (n : Int)) := by omega
  have hz3 : (c : Int) < (n : Int) + (m : Int) := by omega
  have hbw : b < w.heap.size := block_lt_of_cell (hcs 0 _ (List.getElem?_eq_getElem (by omega)))
  have hvw : vb < w.heap.size := block_lt_of_cell (hvs 0 _ (List.getElem?_eq_getElem (by omega)))
  have hkk : (n : Int) + (m : Int) - (i : Int) = ((n + m - i : Nat) : Int) := by omega
  have hik : i + (n + m - i) = n + m := by omega
  have hold : (Builtin.firstCells i0.size i (.slice (some ⟨b, off, none⟩) i c)).run Tryz.prog w.drew = .ok (cs.take (i * 5)).toArray w.drew := by
    rw [hzs]
    exact run_firstCells_some w.drew 5 i ⟨b, off, none⟩ i c (cs.take (i * 5)) (by rw [List.length_take]; omega) (fun j v hj => by
      rw [Addr.add_lit]
      rw [List.getElem?_take] at hj
      split at hj
      · exact hcs j v hj
      · cases hj)
  have hrz : ∀ ty, (Builtin.append_ #[94, 3] ty #[.slice (some ⟨b, off, none⟩) i c, .int .i64 ((n : Int) + (m : Int) - (i : Int))]).run Tryz.prog w =
      .ok (.slice (some ⟨w.heap.size, 0, none⟩) (n + m) (grownCap w (n + m) c 79)) (w.drew.alloc (.cells ((cs.take (i * 5)).toArray ++ Builtin.zeroCells zW.cells (n + m - i) ++ Builtin.zeroCells zW.cells (grownCap w (n + m) c 79 - (n + m))) 79)) := fun ty => by
    have h := Lib.run_append_grow_zeros w 94 3 ty 79 i0 _ .i64 .i64 Tryz.underlying94 Tryz.underlying3 hi0 hz0 (some ⟨b, off, none⟩) i c (cs.take (i * 5)) hold (n + m - i) (by omega) (by omega) (by omega) (by omega) (by rw [hzb]; omega) (by rw [hzb, hik]; exact growslice_fits hroom hbig)
    rw [hik] at h
    rw [hkk]
    exact h
  obtain ⟨G, hG⟩ : ∃ G, G = grownCap w (n + m) c 79 := ⟨_, rfl⟩
  obtain ⟨ROW, hROW⟩ : ∃ ROW : Array Value, ROW = (cs.take (i * 5)).toArray ++ Builtin.zeroCells zW.cells (n + m - i) ++ Builtin.zeroCells zW.cells (G - (n + m)) := ⟨_, rfl⟩
  rw [← hG] at hrz ⊢
  rw [← hROW] at hrz ⊢
  have hRl : (n + m) * 5 ≤ ROW.size := by
    rw [hROW]
    simp only [Array.size_append, zeros_len, List.size_toArray, List.length_take, hcl]
    omega
  obtain ⟨W1, hW1⟩ : ∃ W1, W1 = w.drew.alloc (.cells ROW 79) := ⟨_, rfl⟩
  rw [← hW1] at hrz
  have hN : ∀ j, j < (n + m) * 5 → (W1.cell? ⟨w.heap.size, j, none⟩).isSome = true := fun j hj => by
    rw [hW1, World.cell?_alloc_at (w := w.drew) ROW _ w.heap.size j rfl, Array.getElem?_eq_getElem (by omega)]; rfl
  have hNf : ∀ j, W1.frozen? ⟨w.heap.size, j, none⟩ = false := fun j => by rw [hW1]; exact World.frozen?_alloc_at (w := w.drew) ROW _ w.heap.size j rfl
  have hOb : ∀ j v, w.cell? ⟨b, j, none⟩ = some v → W1.cell? ⟨b, j, none⟩ = some v := fun j v h => by rw [hW1, World.cell?_alloc_past (w := w.drew) _ b j hbw]; exact h
  have hOv : ∀ j v, w.cell? ⟨vb, j, none⟩ = some v → W1.cell? ⟨vb, j, none⟩ = some v := fun j v h => by rw [hW1, World.cell?_alloc_past (w := w.drew) _ vb j hvw]; exact h
  have hmn1 : Nat.min m (n + m - i) = m := by simp only [Nat.min_def]; split <;> omega
  have hmn2 : Nat.min (n - i) (n + m - (i + m)) = n - i := by simp only [Nat.min_def]; split <;> omega
  have hcpA : ∀ (W : World), (∀ x, W.cell? x = W1.cell? x) → (∀ x, W.frozen? x = W1.frozen? x) → ∀ ty dc, (Builtin.copy_ #[94, 94] ty #[.slice (some ⟨w.heap.size, i * 5, none⟩) (n + m - i) dc, .slice (some ⟨vb, voff, none⟩) m vc]).run Tryz.prog W = .ok (goInt m) (W.setCells w.heap.size (i * 5) vs) := fun W hWc hWf ty dc => by
    have h := run_copy_wide (P := Tryz.prog) W 94 94 ty 79 5 w.heap.size (i * 5) (n + m - i) dc ⟨vb, voff, none⟩ m vc vs Tryz.underlying94 insW_z5 (by rw [hvl, hmn1])
      (fun j v hj => by rw [Addr.add_lit, hWc]; exact hOv _ v (hvs j v hj))
      (fun j hj => by rw [hWc]; exact hN _ (by omega)) (fun j hj => by rw [hWf]; exact hNf _) h1v
    rwa [hmn1] at h
  have hGn : n + m ≤ G := by rw [hG]; exact grownCap_ge w _ _ _
  have hG63 : G ≤ 9223372036854775807 := by
    have := grownCap_le_maxLen w (n + m) c 79 (by unfold maxLen; omega)
    rw [← hG] at this
    unfold maxLen at this
    omega
  have hGi : ¬ (G = i) := by omega
  have hGim : ¬ (G = i + m) := by omega
  have hci : ¬ (c = i) := by omega
  have hbN : b ≠ w.heap.size := by omega
  have hdl : (cs.drop (i * 5)).length = (n - i) * 5 := by rw [List.length_drop, hcl]; omega
  have hcpB : ∀ (W : World), (∀ x, W.cell? x = (W1.setCells w.heap.size (i * 5) vs).cell? x) → (∀ x, W.frozen? x = (W1.setCells w.heap.size (i * 5) vs).frozen? x) → ∀ ty dc sc, (Builtin.copy_ #[94, 94] ty #[.slice (some ⟨w.heap.size, (i + m) * 5, none⟩) (n + m - (i + m)) dc, .slice (some ⟨b, off + i * 5, none⟩) (n - i) sc]).run Tryz.prog W = .ok (goInt ((n - i : Nat) : Int)) (W.setCells w.heap.size ((i + m) * 5) (cs.drop (i * 5))) := fun W hWc hWf ty dc sc => by
    have h := run_copy_wide (P := Tryz.prog) W 94 94 ty 79 5 w.heap.size ((i + m) * 5) (n + m - (i + m)) dc ⟨b, off + i * 5, none⟩ (n - i) sc (cs.drop (i * 5)) Tryz.underlying94 insW_z5 (by rw [hdl, hmn2])
      (fun j v hj => by
        rw [Addr.add_lit, hWc, World.cell?_setCells_out _ _ _ _ _ (fun h _ => absurd h hbN), Nat.add_assoc]
        exact hOb _ v (hcs (i * 5 + j) v (by rwa [List.getElem?_drop] at hj)))
      (fun j hj => by rw [hWc]; exact isSome_setCells _ _ _ _ (fun t ht => hN _ (by omega)) _ (hN _ (by omega)))
      (fun j hj => by rw [hWf, World.frozen?_setCells]; exact hNf _) (fun v hv => h1c v (List.mem_of_mem_drop hv))
    rwa [hmn2] at h
  subst hW1
  have hE1 : ∀ x, ((w.alloc (.cells ROW 79)).drew).cell? x = (w.drew.alloc (.cells ROW 79)).cell? x := fun x => rfl
  have hE2 : ∀ x, ((w.alloc (.cells ROW 79)).drew).frozen? x = (w.drew.alloc (.cells ROW 79)).frozen? x := fun x => rfl
  have hF1 : ∀ x, (((w.alloc (.cells ROW 79)).drew.setCells w.heap.size (i * 5) vs).drew).cell? x = ((w.drew.alloc (.cells ROW 79)).setCells w.heap.size (i * 5) vs).cell? x := fun x => rfl
  have hF2 : ∀ x, (((w.alloc (.cells ROW 79)).drew.setCells w.heap.size (i * 5) vs).drew).frozen? x = ((w.drew.alloc (.cells ROW 79)).setCells w.heap.size (i * 5) vs).frozen? x := fun x => rfl
  have hw1 : IntKind.i64.wrap ((i : Int) + (m : Int)) = (i : Int) + (m : Int) := by rw [IntKind.wrap_i64]; omega
  have hb1 : (0 : Int) ≤ (i : Int) + (m : Int) := by omega
  have hin : i ≤ n := by omega
  have htn : ((i : Int) + (m : Int)).toNat = i + m := by omega
  have hb3 : (i : Int) ≤ (n : Int) := by omega
  clear hkk hik hold hROW hG hRl hmn1 hmn2
  go_enter Tryz.func122, Tryz.ntmps122
  go_wp2_with (first
    | (at_builtin; refine Lib.wpList_append_run _ rfl _ _ _ _ rfl _ _ rfl rfl _ _ (hrz _) ?_)
    | (at_builtin; refine wpList_copy_runI _ rfl _ _ 94 94 rfl _ _ rfl rfl (hcpA _ hE1 hE2 _ _) ?_)
    | (at_builtin; refine wpList_copy_runI _ rfl _ _ 94 94 rfl _ _ rfl rfl (hcpB _ (fun _ => rfl) (fun _ => rfl) _ _ _) ?_))
  go_region_law (refine step_copy_runI rfl _ _ 94 94 rfl (.slice (some ⟨w.heap.size, (i + m) * 5, none⟩) (n + m - (i + m)) (G - (i + m))) (.slice (some ⟨b, off + i * 5, none⟩) (n - i) (c - i)) (by simp [Act.eval, Act.put]) (by simp [Act.eval, Act.put]) (hcpB _ hF1 hF2 3 (G - (i + m)) (c - i)) ?_)
  go_wp2
  go_ret
  exact ⟨rfl, rfl⟩
end Go.Proofs.YtahiahjhpakeiaaGreatDoor
namespace Go.Proofs.YtahiahjhpakeiaaGreatDoor
open Go.Shelf Go.RowKit Go.Lib
set_option linter.unusedVariables false
set_option linter.unusedSimpArgs false

theorem own_row_wide {w' : World} {base e g n cap : Nat} {xs : List Value} {cur : Array Value} (hg : w'.heap[g]? = some (.cells cur e (0, 0))) (hs : cur.size = cap * 5) (hn : n ≤ cap) (hm : cap ≤ maxLen) (hb : base ≤ g) (hl : xs.length = n * 5)
    (hc : ∀ j (v : Value), xs[j]? = some v → w'.cell? ⟨g, j, none⟩ = some v) : w'.ownsRow base e 5 (.slice (some ⟨g, 0, none⟩) n cap) n xs := by
  refine ⟨hl, Or.inr ⟨g, cap, cur, rfl, hb, hg, hn, hm, hs, ?_⟩⟩
  refine List.ext_getElem (by simp; omega) fun j h1 h2 => ?_
  have := hc j xs[j] (List.getElem?_eq_getElem h2)
  rw [cell_of_row w' g j cur e (0, 0) hg] at this
  have hj : j < cur.size := by omega
  rw [Array.getElem?_eq_getElem hj] at this
  simpa using this
theorem heap_setCells_row_e (b : Nat) : ∀ (vs : List Value) (o : Nat) (w : World) (cur : Array Value) (e : TypeId) (fz : Nat × Nat), w.heap[b]? = some (.cells cur e fz) → ∃ cur', (w.setCells b o vs).heap[b]? = some (.cells cur' e fz) ∧ cur'.size = cur.size
  | [], _, w, cur, e, fz, h => ⟨cur, h, rfl⟩
  | v :: r, o, w, cur, e, fz, h => by
    have h1 : (w.setCell ⟨b, o, none⟩ v).heap[b]? = some (.cells (cur.setIfInBounds o v) e fz) := by
      unfold World.setCell
      simp [Array.getElem?_modify, h]
    obtain ⟨cur', h2, h3⟩ := heap_setCells_row_e b r (o + 1) _ _ _ _ h1
    exact ⟨cur', h2, by rw [h3]; simp⟩
theorem heap_setCells_other_e (b k : Nat) (hk : k ≠ b) : ∀ (vs : List Value) (o : Nat) (w : World), (w.setCells b o vs).heap[k]? = w.heap[k]?
  | [], _, _ => rfl
  | v :: r, o, w => by rw [World.setCells, heap_setCells_other_e b k hk r]; exact Below.heap_setCell _ _ _ _ hk
theorem size_setCells_e (b : Nat) : ∀ (vs : List Value) (o : Nat) (w : World), (w.setCells b o vs).heap.size = w.heap.size
  | [], _, _ => rfl
  | v :: r, o, w => by rw [World.setCells, size_setCells_e b r]; exact size_set _ _ _
theorem meta_setCells_e (b : Nat) : ∀ (vs : List Value) (o : Nat) (w : World), (w.setCells b o vs).os = w.os ∧ (w.setCells b o vs).tape = w.tape ∧ (w.setCells b o vs).output = w.output
  | [], _, _ => ⟨rfl, rfl, rfl⟩
  | v :: r, o, w => by rw [World.setCells]; exact meta_setCells_e b r (o + 1) _
theorem grown_setCells_e {w w' : World} {b o : Nat} {vs : List Value} (h : w.grownBy w' (some b)) : w.grownBy (w'.setCells b o vs) (some b) :=
  ⟨(meta_setCells_e b vs o w').1.trans h.os, (meta_setCells_e b vs o w').2.1.trans h.tape, (meta_setCells_e b vs o w').2.2.trans h.output, by rw [size_setCells_e]; exact h.size, fun k hk hne => by
    rw [heap_setCells_other_e b k (fun e => hne (by rw [e]))]; exact h.block k hk hne⟩
theorem grown_new_setCells_e {w w' : World} {b o : Nat} {vs : List Value} {row : Option Nat} (h : w.grownBy w' row) (hb : w.heap.size ≤ b) : w.grownBy (w'.setCells b o vs) row :=
  ⟨(meta_setCells_e b vs o w').1.trans h.os, (meta_setCells_e b vs o w').2.1.trans h.tape, (meta_setCells_e b vs o w').2.2.trans h.output, by rw [size_setCells_e]; exact h.size, fun k hk hne => by
    rw [heap_setCells_other_e b k (by omega)]; exact h.block k hk hne⟩
theorem grown_drew_e {w w' : World} {row : Option Nat} (h : w.grownBy w' row) : w.grownBy w'.drew row := ⟨h.os, h.tape, h.output, h.size, h.block⟩
theorem grown_alloc_e {w w' : World} {row : Option Nat} (h : w.grownBy w' row) (o : Obj) : w.grownBy (w'.alloc o) row :=
  ⟨h.os, h.tape, h.output, by simp; have := h.size; omega, fun k hk hne => by
    rw [(MapKept.heap_alloc w' o).2 k (by have := h.size; omega)]; exact h.block k hk hne⟩
theorem drew_alloc_at_e (w : World) (o : Obj) : (w.drew.alloc o).heap[w.heap.size]? = some o := (MapKept.heap_alloc w.drew o).1
/-- Rows into which one was put. -/
def putRows (rs : List Row) (i : Nat) (r : Row) : List Row := rs.take i ++ r :: rs.drop i
theorem putRows_len (rs : List Row) (i : Nat) (r : Row) (h : i ≤ rs.length) : (putRows rs i r).length = rs.length + 1 := by unfold putRows; simp; omega
theorem flat_put (rs : List Row) (i : Nat) (r : Row) : flat (putRows rs i r) = (flat rs).take (i * 5) ++ (r.cells ++ (flat rs).drop (i * 5)) := by
  unfold flat putRows
  rw [flat_take Row.cells Row.len, flat_drop Row.cells Row.len, List.flatMap_append, List.flatMap_cons]
/-- Lists that are laid over a row, cell by cell. -/
theorem put_cells {xs r5 : List Value} {i5 n5 : Nat} (h5 : r5.length = 5) (hi : i5 ≤ xs.length) (j : Nat) : (xs.take i5 ++ (r5 ++ xs.drop i5))[j]? = if j < i5 then xs[j]? else if j < i5 + 5 then r5[j - i5]? else xs[j - 5]? := by
  by_cases h1 : j < i5
  · rw [if_pos h1, List.getElem?_append_left (by simp; omega), List.getElem?_take, if_pos h1]
  · rw [if_neg h1, List.getElem?_append_right (by simp; omega), List.length_take, Nat.min_eq_left hi]
    by_cases h2 : j < i5 + 5
    · rw [if_pos h2, List.getElem?_append_left (by omega)]
    · rw [if_neg h2, List.getElem?_append_right (by omega), h5, List.getElem?_drop]
      congr 1; omega
set_option maxHeartbeats 4000000 in
set_option maxRecDepth 100000 in
theorem insE_any (w : World) (base : Nat) (v : Value) (rs : List Row) (r : Row) (i : Nat) (hown : w.ownsRow base 79 5 v rs.length (flat rs)) (hi : i ≤ rs.length) (hl : rs.length ≤ 1000000) (hbase : base ≤ w.heap.size)
    (h1 : ∀ r ∈ rs, r.v.oneCell' = true) (hr1 : r.v.oneCell' = true) :
    Calls Tryz.prog 122 #[v, .int .i64 i, .slice (some ⟨w.heap.size, 0, none⟩) 1 1] (w.alloc (.cells r.cells.toArray 79)) fun e w' => ∃ v', e = .returned v' ∧ w'.ownsRow base 79 5 v' (rs.length + 1) (flat (putRows rs i r)) ∧ w.grownBy w' v.ownBlock ∧ (v'.ownBlock = v.ownBlock ∨ ∀ q, v'.ownBlock = some q → w.heap.size ≤ q) := by
  obtain ⟨wa, hwa⟩ : ∃ z, z = w.alloc (.cells r.cells.toArray 79) := ⟨_, rfl⟩
  have hga : w.grownBy wa v.ownBlock := by rw [hwa]; exact World.grownBy_alloc w _ _
  have hza : wa.heap.size = w.heap.size + 1 := by rw [hwa]; simp
  have hgx : wa.heap[w.heap.size]? = some (.cells r.cells.toArray 79 (0, 0)) := by rw [hwa]; exact (MapKept.heap_alloc w _).1
  have hold : ∀ k, k < w.heap.size → wa.heap[k]? = w.heap[k]? := fun k hk => by rw [hwa]; exact (MapKept.heap_alloc w _).2 k hk
  obtain ⟨x5, hx5⟩ : ∃ z, z = r.cells := ⟨_, rfl⟩
  have h5 : x5.length = 5 := by rw [hx5]; rfl
  have h1v : ∀ u ∈ x5, u.oneCell' = true := by rw [hx5]; exact Row.one hr1
  have h1c : ∀ u ∈ flat rs, u.oneCell' = true := flat_one h1
  have hfl := flat_length rs
  have hlen : (flat (putRows rs i r)).length = (rs.length + 1) * 5 := by rw [flat_length, putRows_len rs i r hi]
  have hput : ∀ j, (flat (putRows rs i r))[j]? = if j < i * 5 then (flat rs)[j]? else if j < i * 5 + 5 then x5[j - i * 5]? else (flat rs)[j - 5]? := fun j => by
    rw [flat_put, hx5]; exact put_cells (n5 := 0) (Row.len r) (by omega) j
  rw [← hx5] at hgx hwa ⊢
  obtain ⟨n, hn0⟩ : ∃ n, n = rs.length := ⟨_, rfl⟩
  obtain ⟨xs, hxs⟩ : ∃ xs, xs = flat rs := ⟨_, rfl⟩
  obtain ⟨ys, hys⟩ : ∃ ys, ys = flat (putRows rs i r) := ⟨_, rfl⟩
  rw [← hn0] at hown hi hl hfl hlen ⊢
  rw [← hxs] at hown h1c hfl hput
  rw [← hys] at hlen hput ⊢
  clear hx5 h1 hr1 hxs hys hn0
  have hvs : ∀ j (u : Value), x5[j]? = some u → wa.cell? ⟨w.heap.size, 0 + j, none⟩ = some u := fun j u hu => by
    rw [cell_of_row wa w.heap.size (0 + j) _ 79 (0, 0) hgx]
    simpa using hu
  rw [← hwa]
  clear hwa
  rcases hown.2 with ⟨rfl, h0⟩ | ⟨g, cap, cur, rfl, hB, hg, hn, hm, hs, ht⟩
  · subst h0
    obtain rfl : i = 0 := by omega
    have hx0 : xs = [] := List.length_eq_zero_iff.1 (by omega)
    have hge := grownCap_ge wa 1 0 79
    have hle := grownCap_le_maxLen wa 1 0 79 (by simp [maxLen])
    refine (insW_end_grow none 0 0 w.heap.size 0 1 1 [] x5 wa (by omega) (by omega) (by omega) (by omega) rfl (by omega) (fun _ => rfl) (fun a ha => by cases ha) hvs h1v).mono ?_
    rintro e w' ⟨rfl, rfl⟩
    refine ⟨_, rfl, ?_, grown_alloc_e (grown_drew_e hga) _, Or.inr fun q hq => by cases hq; show w.heap.size ≤ wa.heap.size; omega⟩
    simp only [Nat.zero_add] at hge hle ⊢
    refine own_row_wide (drew_alloc_at_e wa _) ?_ hge hle (by show base ≤ wa.heap.size; omega) (by omega) (fun j u hu => ?_)
    · simp only [Array.size_append, zeros_len, List.size_toArray, List.length_append, List.length_nil]; omega
    · rw [cell_of_row _ _ j _ 79 (0, 0) (drew_alloc_at_e wa _)]
      have hj : j < 5 := by
        have := (List.getElem?_eq_some_iff.1 hu).1
        omega
      rw [hput j, if_neg (by omega), if_pos (by omega)] at hu
      rw [Array.getElem?_append_left (by simp; omega)]
      simpa using hu
  · have hgl : g < w.heap.size := (Array.getElem?_eq_some_iff.1 hg).1
    have hga2 : wa.heap[g]? = some (.cells cur 79 (0, 0)) := (hold g hgl).trans hg
    have hcw : ∀ j (u : Value), xs[j]? = some u → wa.cell? ⟨g, j, none⟩ = some u := fun j u hu => by
      rw [cell_of_row wa g j cur 79 (0, 0) hga2]
      rw [← ht, List.getElem?_take] at hu
      split at hu
      · simpa using hu
      · cases hu
    have hcs : ∀ j (u : Value), xs[j]? = some u → wa.cell? ⟨g, 0 + j, none⟩ = some u := fun j u hu => by rw [Nat.zero_add]; exact hcw j u hu
    have hsome : ∀ j, j < cap * 5 → (wa.cell? ⟨g, j, none⟩).isSome = true := fun j hj => by
      rw [cell_of_row wa g j cur 79 (0, 0) hga2, Array.getElem?_eq_getElem (by omega)]; rfl
    have hfz : ∀ j, wa.frozen? ⟨g, j, none⟩ = false := fun j => by unfold World.frozen?; rw [hga2]; simp
    have hm' : cap ≤ 9223372036854775807 := by unfold maxLen at hm; omega
    have hgrow : w.grownBy wa (some g) := hga
    by_cases hroom : n + 1 ≤ cap
    · by_cases hie : i = n
      · subst hie
        refine (insW_end_room g 0 i cap w.heap.size 0 1 1 x5 wa (by omega) hroom hm' (by omega) (fun j hj => hsome _ (by omega)) (fun j hj => hfz _) hvs h1v).mono ?_
        rintro e w' ⟨rfl, rfl⟩
        refine ⟨_, rfl, ?_, grown_setCells_e hgrow, Or.inl rfl⟩
        obtain ⟨cur', q1, q2⟩ := heap_setCells_row_e g x5 (0 + i * 5) wa cur 79 (0, 0) hga2
        refine own_row_wide q1 (by omega) hroom hm hB hlen (fun j u hu => ?_)
        have hj : j < (i + 1) * 5 := by
          have := (List.getElem?_eq_some_iff.1 hu).1
          omega
        rw [hput j] at hu
        by_cases h1 : j < i * 5
        · rw [if_pos h1] at hu
          rw [World.cell?_setCells_out g _ _ _ _ (fun _ _ => Or.inl (by show j < 0 + i * 5; omega))]
          exact hcw j u hu
        · rw [if_neg h1, if_pos (by omega)] at hu
          have := World.cell?_setCells_in g x5 (0 + i * 5) wa (fun t ht => hsome _ (by omega)) (j - i * 5) (by omega)
          rw [show 0 + i * 5 + (j - i * 5) = j by omega] at this
          rw [this]
          rwa [List.getElem?_eq_getElem (by omega)] at hu
      · have hlt : i < n := by omega
        refine (insW_shift g 0 n cap i w.heap.size 0 1 1 xs x5 wa hlt (by omega) hroom hm' (by omega) hfl (by omega) hcs (fun j hj => by rw [Nat.zero_add]; exact hsome _ (by omega)) (fun j hj => hfz _) hvs h1c h1v
          79 79 5 cur.size (by unfold World.shape?; rw [hgx]; simp [h5]) (by unfold World.shape?; rw [hga2]) (by omega) (by unfold World.frozen?; rw [hgx]; simp) (by unfold World.frozen?; rw [hgx]; simp)).mono ?_
        rintro e w' ⟨rfl, rfl⟩
        refine ⟨_, rfl, ?_, grown_setCells_e (grown_setCells_e (grown_drew_e hgrow)), Or.inl rfl⟩
        have hga3 : wa.drew.heap[g]? = some (.cells cur 79 (0, 0)) := hga2
        obtain ⟨cur1, q1, q2⟩ := heap_setCells_row_e g (xs.drop (i * 5)) (0 + (i + 1) * 5) wa.drew cur 79 (0, 0) hga3
        obtain ⟨cur', q3, q4⟩ := heap_setCells_row_e g x5 (0 + i * 5) _ cur1 79 (0, 0) q1
        refine own_row_wide q3 (by omega) hroom hm hB hlen (fun j u hu => ?_)
        have hdl : (xs.drop (i * 5)).length = n * 5 - i * 5 := by simp [hfl]
        have hs1 : ∀ t, t < (xs.drop (i * 5)).length → (wa.drew.cell? ⟨g, 0 + (i + 1) * 5 + t, none⟩).isSome = true := fun t ht => hsome _ (by omega)
        have hj : j < (n + 1) * 5 := by
          have := (List.getElem?_eq_some_iff.1 hu).1
          omega
        rw [hput j] at hu
        by_cases h1 : j < i * 5
        · rw [if_pos h1] at hu
          rw [World.cell?_setCells_out g _ _ _ _ (fun _ _ => Or.inl (by show j < 0 + i * 5; omega)), World.cell?_setCells_out g _ _ _ _ (fun _ _ => Or.inl (by show j < 0 + (i + 1) * 5; omega))]
          exact hcw j u hu
        · rw [if_neg h1] at hu
          by_cases h2 : j < i * 5 + 5
          · rw [if_pos h2] at hu
            have hsm' : ∀ t, t < x5.length → ((wa.drew.setCells g (0 + (i + 1) * 5) (xs.drop (i * 5))).cell? ⟨g, 0 + i * 5 + t, none⟩).isSome = true := fun t ht => by
              rw [World.cell?_setCells_out g _ _ _ _ (fun _ _ => Or.inl (by show 0 + i * 5 + t < 0 + (i + 1) * 5; omega))]
              exact hsome _ (by omega)
            have := World.cell?_setCells_in g x5 (0 + i * 5) (wa.drew.setCells g (0 + (i + 1) * 5) (xs.drop (i * 5))) hsm' (j - i * 5) (by omega)
            rw [show 0 + i * 5 + (j - i * 5) = j by omega] at this
            rw [this]
            rwa [List.getElem?_eq_getElem (by omega)] at hu
          · rw [if_neg h2] at hu
            rw [World.cell?_setCells_out g _ _ _ _ (fun _ _ => Or.inr (by show 0 + i * 5 + x5.length ≤ j; omega))]
            have hk : j - 5 - i * 5 < (xs.drop (i * 5)).length := by omega
            have := World.cell?_setCells_in g _ (0 + (i + 1) * 5) wa.drew hs1 (j - 5 - i * 5) hk
            rw [show 0 + (i + 1) * 5 + (j - 5 - i * 5) = j by omega] at this
            rw [this, List.getElem_drop]
            rw [List.getElem?_eq_getElem (by omega)] at hu
            rw [← hu]
            congr 2
            omega
    · have hge := grownCap_ge wa (n + 1) cap 79
      have hle := grownCap_le_maxLen wa (n + 1) cap 79 (by simp only [maxLen]; omega)
      by_cases hie : i = n
      · subst hie
        refine (insW_end_grow (some ⟨g, 0, none⟩) i cap w.heap.size 0 1 1 xs x5 wa (by omega) hn (by omega) (by omega) hfl (by omega) (fun h => by cases h) (fun a ha j u hu => by
          cases ha
          rw [show ((⟨g, 0, none⟩ : Addr).add j) = ⟨g, 0 + j, none⟩ from by unfold Addr.add; by_cases e : j = 0 <;> simp [e]]
          exact hcs j u hu) hvs h1v).mono ?_
        rintro e w' ⟨rfl, rfl⟩
        refine ⟨_, rfl, ?_, grown_alloc_e (grown_drew_e hga) _, Or.inr fun q hq => by cases hq; show w.heap.size ≤ wa.heap.size; omega⟩
        refine own_row_wide (drew_alloc_at_e wa _) ?_ hge hle (by show base ≤ wa.heap.size; omega) hlen (fun j u hu => ?_)
        · simp only [Array.size_append, zeros_len, List.size_toArray, List.length_append]; omega
        · rw [cell_of_row _ _ j _ 79 (0, 0) (drew_alloc_at_e wa _)]
          have hj : j < (i + 1) * 5 := by
            have := (List.getElem?_eq_some_iff.1 hu).1
            omega
          rw [Array.getElem?_append_left (by simp; omega), List.getElem?_toArray]
          rw [hput j] at hu
          by_cases h1 : j < i * 5
          · rw [if_pos h1] at hu
            rw [List.getElem?_append_left (by omega)]; exact hu
          · rw [if_neg h1, if_pos (by omega)] at hu
            rw [List.getElem?_append_right (by omega), hfl]; exact hu
      · have hlt : i < n := by omega
        refine (insW_grow g 0 n cap i w.heap.size 0 1 1 xs x5 wa hlt (by omega) hn (by omega) (by omega) hfl (by omega) hcs hvs h1c h1v).mono ?_
        rintro e w' ⟨rfl, rfl⟩
        obtain ⟨G, hG⟩ : ∃ G, G = grownCap wa (n + 1) cap 79 := ⟨_, rfl⟩
        rw [← hG] at hge hle ⊢
        obtain ⟨ROW, hROW⟩ : ∃ ROW : Array Value, ROW = (xs.take (i * 5)).toArray ++ Builtin.zeroCells zW.cells (n + 1 - i) ++ Builtin.zeroCells zW.cells (G - (n + 1)) := ⟨_, rfl⟩
        have hRl : ROW.size = G * 5 := by
          rw [hROW]
          simp only [Array.size_append, zeros_len, List.size_toArray, List.length_take, hfl]
          omega
        have hRt : ∀ j, j < i * 5 → ROW[j]? = xs[j]? := fun j hj => by
          rw [hROW, Array.append_assoc, Array.getElem?_append_left (by simp; omega), List.getElem?_toArray, List.getElem?_take, if_pos hj]
        rw [← hROW]
        clear hROW
        have hr0 : ((wa.alloc (.cells ROW 79)).drew).heap[wa.heap.size]? = some (.cells ROW 79 (0, 0)) := (MapKept.heap_alloc wa _).1
        have hN : ∀ j, j < G * 5 → (((wa.alloc (.cells ROW 79)).drew).cell? ⟨wa.heap.size, j, none⟩).isSome = true := fun j hj => by
          rw [cell_of_row _ _ j _ 79 (0, 0) hr0, Array.getElem?_eq_getElem (by omega)]; rfl
        obtain ⟨cur1, q1, q2⟩ := heap_setCells_row_e wa.heap.size x5 (i * 5) _ ROW 79 (0, 0) hr0
        have q1' : (((wa.alloc (.cells ROW 79)).drew.setCells wa.heap.size (i * 5) x5).drew).heap[wa.heap.size]? = some (.cells cur1 79 (0, 0)) := q1
        obtain ⟨cur', q3, q4⟩ := heap_setCells_row_e wa.heap.size (xs.drop (i * 5)) ((i + 1) * 5) _ cur1 79 (0, 0) q1'
        refine ⟨_, rfl, ?_, grown_new_setCells_e (grown_drew_e (grown_new_setCells_e (grown_drew_e (grown_alloc_e hga _)) (by omega))) (by omega), Or.inr fun q hq => by cases hq; show w.heap.size ≤ wa.heap.size; omega⟩
        refine own_row_wide q3 (by omega) hge hle (by show base ≤ wa.heap.size; omega) hlen (fun j u hu => ?_)
        have hdl : (xs.drop (i * 5)).length = n * 5 - i * 5 := by simp [hfl]
        have hj : j < (n + 1) * 5 := by
          have := (List.getElem?_eq_some_iff.1 hu).1
          omega
        have hs0 : ∀ t, t < x5.length → (((wa.alloc (.cells ROW 79)).drew).cell? ⟨wa.heap.size, i * 5 + t, none⟩).isSome = true := fun t ht => hN _ (by omega)
        have hs1 : ∀ t, t < (xs.drop (i * 5)).length → ((((wa.alloc (.cells ROW 79)).drew.setCells wa.heap.size (i * 5) x5).drew).cell? ⟨wa.heap.size, (i + 1) * 5 + t, none⟩).isSome = true := fun t ht => by
          show (((wa.alloc (.cells ROW 79)).drew.setCells wa.heap.size (i * 5) x5).cell? ⟨wa.heap.size, (i + 1) * 5 + t, none⟩).isSome = true
          exact isSome_setCells _ _ _ _ hs0 _ (hN _ (by omega))
        rw [hput j] at hu
        by_cases h1 : j < i * 5
        · rw [if_pos h1] at hu
          rw [World.cell?_setCells_out _ _ _ _ _ (fun _ _ => Or.inl (by show j < (i + 1) * 5; omega))]
          show ((wa.alloc (.cells ROW 79)).drew.setCells wa.heap.size (i * 5) x5).cell? ⟨wa.heap.size, j, none⟩ = some u
          rw [World.cell?_setCells_out _ _ _ _ _ (fun _ _ => Or.inl (by show j < i * 5; omega)), cell_of_row _ _ j _ 79 (0, 0) hr0, hRt j h1]
          exact hu
        · rw [if_neg h1] at hu
          by_cases h2 : j < i * 5 + 5
          · rw [if_pos h2] at hu
            rw [World.cell?_setCells_out _ _ _ _ _ (fun _ _ => Or.inl (by show j < (i + 1) * 5; omega))]
            show ((wa.alloc (.cells ROW 79)).drew.setCells wa.heap.size (i * 5) x5).cell? ⟨wa.heap.size, j, none⟩ = some u
            have := World.cell?_setCells_in wa.heap.size x5 (i * 5) _ hs0 (j - i * 5) (by omega)
            rw [show i * 5 + (j - i * 5) = j by omega] at this
            rw [this]
            rwa [List.getElem?_eq_getElem (by omega)] at hu
          · rw [if_neg h2] at hu
            have hk : j - 5 - i * 5 < (xs.drop (i * 5)).length := by omega
            have := World.cell?_setCells_in wa.heap.size _ ((i + 1) * 5) _ hs1 (j - 5 - i * 5) hk
            rw [show (i + 1) * 5 + (j - 5 - i * 5) = j by omega] at this
            rw [this, List.getElem_drop]
            rw [List.getElem?_eq_getElem (by omega)] at hu
            rw [← hu]
            congr 2
            omega
end Go.Proofs.YtahiahjhpakeiaaGreatDoor
end
