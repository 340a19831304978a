

/-
  TableFull walked.
-/
import Derived.Test.YtacdgfkahppmdaaTabI
import Derived.Test.YtacdgfkahppmdaaTabF
import Derived.Test.YtacdgfkahppmdaaErrIs
namespace Go.Proofs.Ytacdgfkahppmdaa
open Go.RowKit Go.Maps Go.Sort Go.WideShapes Go.ChangeShapes Go.Deep
set_option linter.unusedVariables false
set_option linter.unusedSimpArgs false
attribute [local go_sem] later_cell later_frozen later_lt cell_set_off cell_set_block keptT_cell keptT_lt

theorem find_last {l : List Ent} {g : Str} {c : Int} (h : ∀ e ∈ l, klt e.g e.c g c) : findI l g c = l.length := List.countP_eq_length.2 fun e he => by simpa using h e he
theorem hit_last {l : List Ent} {g : Str} {c : Int} (h : ∀ e ∈ l, klt e.g e.c g c) : hitB l g c = false := by unfold hitB; rw [find_last h]; simp
theorem put_last {l : List Ent} {x : Ent} (h : ∀ e ∈ l, klt e.g e.c x.g x.c) : putE l x = l ++ [x] := by
  unfold putE
  rw [hit_last h, if_neg (by simp), find_last h]; simp
def fe (i : Nat) : Ent := ⟨[103], 2000 + i, [], false, i⟩
def he (i : Nat) : Ent := ⟨[104], i, [], false, 0⟩
theorem clean_plain {e : Ent} (h1 : e.fs = []) (h2 : e.any = false) : cleanE e = e := by
  obtain ⟨g, c, fs, any, t⟩ := e
  simp only at h1 h2
  subst h1 h2
  unfold cleanE; simp [setS_nil]
def fullL (k : Nat) : List Ent := (List.range k).map fe
theorem fullL_len (k : Nat) : (fullL k).length = k := by simp [fullL]
theorem fullL_succ (k : Nat) : putE (fullL k) (cleanE (fe k)) = fullL (k + 1) := by
  rw [clean_plain rfl rfl, put_last]
  · unfold fullL; rw [List.range_succ, List.map_append]; rfl
  · intro e h
    obtain ⟨i, hi, rfl⟩ := List.mem_map.1 h
    have := List.mem_range.1 hi
    exact Or.inr ⟨rfl, by show (2000 : Int) + i < 2000 + k; omega⟩
theorem fullL_room {k : Nat} (h : k < 400) : fullB (fullL k) (fe k) = false := by unfold fullB; rw [fullL_len]; simp; omega
theorem fullL_small {c : Int} (h : c ≤ 1000) : fullB (fullL 400) ⟨[103], c, [], false, 0⟩ = true := by
  have hf : findI (fullL 400) [103] c = 0 := List.countP_eq_zero.2 fun e he => by
    obtain ⟨i, hi, rfl⟩ := List.mem_map.1 he
    simp only [decide_eq_true_eq]
    rintro (h1 | ⟨_, h1⟩)
    · exact str_irrefl _ h1
    · have : (2000 : Int) + i < c := h1
      omega
  have hh : hitB (fullL 400) [103] c = false := by
    unfold hitB
    rw [hf, decide_eq_false_iff_not]
    rintro ⟨h1, _, h3⟩
    rw [entAt_eq (by rw [fullL_len]; decide)] at h3
    have : (2000 : Int) + (0 : Nat) = c := by rw [← h3]; simp [fullL, fe]
    omega
  unfold fullB
  rw [show ({ g := [103], c := c, fs := [], any := false, t := 0 } : Ent).g = [103] from rfl, show ({ g := [103], c := c, fs := [], any := false, t := 0 } : Ent).c = c from rfl, hh, fullL_len]; rfl
def x500 : Ent := ⟨[103], 2000, [], false, 500⟩
def full2 : List Ent := x500 :: (List.range 399).map fun i => fe (i + 1)
theorem fullL_eq : fullL 400 = fe 0 :: (List.range 399).map fun i => fe (i + 1) := by
  unfold fullL
  rw [show (400 : Nat) = 399 + 1 from rfl, List.range_succ_eq_map, List.map_cons, List.map_map]; rfl
theorem find500 : findI (fullL 400) [103] 2000 = 0 := List.countP_eq_zero.2 fun e he => by
  obtain ⟨i, hi, rfl⟩ := List.mem_map.1 he
  simp only [decide_eq_true_eq]
  rintro (h1 | ⟨_, h1⟩)
  · exact str_irrefl _ h1
  · have : (2000 : Int) + i < 2000 := h1
    omega
theorem hit500 : hitB (fullL 400) [103] 2000 = true := by
  unfold hitB
  rw [find500, decide_eq_true_eq, fullL_eq]
  exact ⟨by simp, rfl, rfl⟩
theorem room500 : fullB (fullL 400) x500 = false := by
  unfold fullB
  rw [show x500.g = [103] from rfl, show x500.c = 2000 from rfl, hit500]; rfl
theorem put500 : putE (fullL 400) (cleanE x500) = full2 := by
  rw [clean_plain rfl rfl]
  unfold putE
  rw [show x500.g = [103] from rfl, show x500.c = 2000 from rfl, hit500, if_pos rfl, find500, fullL_eq]; rfl
theorem countP_lt (m : Nat) : ∀ k, (List.range k).countP (fun i => decide (i < m)) = min m k := by
  intro k
  induction k with
  | zero => simp
  | succ k ih =>
    rw [List.range_succ, List.countP_append, ih]
    by_cases h : k < m
    · simp [h]; omega
    · simp [h]; omega
def overE (n : Int) (e : Ent) : Bool := decide (e.t < n)
def wantN (n : Int) : Nat := (n - 1).toNat
theorem over_count {n : Int} (h0 : 0 ≤ n) (h1 : n ≤ 20) : (full2.filter (overE n)).length = wantN n := by
  rw [← List.countP_eq_length_filter]
  unfold full2
  rw [List.countP_cons_of_neg (by show ¬ decide ((500 : Int) < n) = true; rw [decide_eq_true_eq]; omega), List.countP_map]
  have : ((overE n) ∘ fun i => fe (i + 1)) = fun i => decide (i < wantN n) := by
    funext i
    rw [Bool.eq_iff_iff]
    show decide (((i + 1 : Nat) : Int) < n) = true ↔ decide (i < (n - 1).toNat) = true
    rw [decide_eq_true_eq, decide_eq_true_eq]
    omega
  rw [this, countP_lt]
  unfold wantN; omega
theorem full2_len : full2.length = 400 := by simp [full2]
theorem stay_len {n : Int} (h0 : 0 ≤ n) (h1 : n ≤ 20) : (stayE (overE n) full2).length = 400 - wantN n := by
  have h := List.length_eq_countP_add_countP (p := overE n) (l := full2)
  rw [List.countP_eq_length_filter, over_count h0 h1, full2_len] at h
  unfold stayE
  rw [← List.countP_eq_length_filter]
  have e : (full2.countP fun e => !overE n e) = full2.countP fun a => decide ¬ overE n a = true := by
    congr 1; funext e; cases overE n e <;> rfl
  rw [e]; omega
def hL (n : Int) (m : Nat) : List Ent := stayE (overE n) full2 ++ (List.range m).map he
theorem hL_all (n : Int) (m : Nat) (c : Int) (hc : (m : Int) ≤ c) : ∀ e ∈ hL n m, klt e.g e.c [104] c := by
  intro e h
  rcases List.mem_append.1 h with h | h
  · have h2 := (List.mem_filter.1 h).1
    have hg : e.g = [103] := by
      rcases List.mem_cons.1 h2 with rfl | h3
      · rfl
      · obtain ⟨i, _, rfl⟩ := List.mem_map.1 h3; rfl
    rw [hg]
    exact Or.inl (by decide)
  · obtain ⟨i, hi, rfl⟩ := List.mem_map.1 h
    have := List.mem_range.1 hi
    exact Or.inr ⟨rfl, by show (i : Int) < c; omega⟩
theorem hL_len {n : Int} (h0 : 0 ≤ n) (h1 : n ≤ 20) (m : Nat) : (hL n m).length = 400 - wantN n + m := by unfold hL; rw [List.length_append, stay_len h0 h1]; simp
theorem hL_succ (n : Int) (m : Nat) : putE (hL n m) (cleanE (he m)) = hL n (m + 1) := by
  rw [clean_plain rfl rfl, put_last (hL_all n m m (Int.le_refl _))]
  unfold hL; rw [List.range_succ, List.map_append, List.append_assoc]; rfl
theorem hL_room {n : Int} (h0 : 0 ≤ n) (h1 : n ≤ 20) {m : Nat} (h : m < wantN n) : fullB (hL n m) (he m) = false := by
  unfold fullB; rw [hL_len h0 h1]
  have : wantN n ≤ 20 := by unfold wantN; omega
  simp; omega
theorem hL_full {n : Int} (h0 : 0 ≤ n) (h1 : n ≤ 20) : fullB (hL n (wantN n)) (he 5000) = true := by
  have hw : wantN n ≤ 20 := by unfold wantN; omega
  unfold fullB
  rw [show (he 5000).g = [104] from rfl, show (he 5000).c = 5000 from rfl, hit_last (hL_all n _ 5000 (by omega)), hL_len h0 h1]
  simp; omega
/-- A full table, and the error that told so. -/
def FullS (W w : World) (tb : Nat) (l : List Ent) (bE : Nat) : Prop :=
  ∃ R, (∀ b, R b → W.heap.size ≤ b) ∧ TabAt 30 R w tb l ∧ Below W.heap.size W w ∧ ¬ R bE ∧ bE < w.heap.size ∧ w.cell? ⟨bE, 2, none⟩ = some (.iface 45 (.int .i64 4))
section
variable {W w w' : World} {tb bE : Nat} {l : List Ent}
theorem FullS.later (h : FullS W w tb l bE) (hb : Below w.heap.size w w') : FullS W w' tb l bE := by
  obtain ⟨R, h1, h2, h3, h4, h5, h6⟩ := h
  exact ⟨R, h1, h2.below hb, bel_below h3 hb, h4, Nat.lt_of_lt_of_le h5 hb.size, (hb.cell (p := ⟨bE, 2, none⟩) h5).trans h6⟩
theorem fullS_first (h : TabW W w tb l) (x : Ent) (fv : Value) (hf : SlS 0 x.fs w fv) (hl : x.fs.length ≤ 1000000) (hn : fullB l x = true) :
    Calls Try.prog 9 #[.pointer (some ⟨tb, 0, none⟩), EntV x fv] w fun e w' => ∃ bE, e = .returned (.iface 71 (.pointer (some ⟨bE, 0, none⟩))) ∧ FullS W w' tb l bE := by
  obtain ⟨R, h1, h2, h3⟩ := h
  refine (put_at h2 x fv hf hl).mono ?_
  rintro e w' ⟨hp, hk⟩
  rw [if_pos hn] at hp
  obtain ⟨v, rfl, ⟨bE, rfl, q1, q2, q3⟩, hT⟩ := hp
  exact ⟨bE, rfl, R, h1, hT, h3.trans (hk.toBelow h3.size fun b hb hR => by have := h1 b hR; omega), fun hR => by have := h2.old bE hR; omega, q2, q3⟩
theorem FullS.put (h : FullS W w tb l bE) (x : Ent) (fv : Value) (hf : SlS 0 x.fs w fv) (hl : x.fs.length ≤ 1000000) (hn : fullB l x = false) :
    Calls Try.prog 9 #[.pointer (some ⟨tb, 0, none⟩), EntV x fv] w fun e w' => e = .returned .nilIface ∧ FullS W w' tb (putE l (cleanE x)) bE := by
  obtain ⟨R, h1, h2, h3, h4, h5, h6⟩ := h
  refine (put_ok h2 x fv hf hl hn).mono ?_
  rintro e w' ⟨rfl, ⟨R', q1, q2⟩, hk⟩
  refine ⟨rfl, R', fun b hb => ?_, q2, h3.trans (hk.toBelow h3.size fun b hb hR => by have := h1 b hR; omega), fun hb => ?_, Nat.lt_of_lt_of_le h5 hk.size, (World.cell?_of_block (hk.block bE h5 h4)).trans h6⟩
  · rcases q1 b hb with h | h
    · exact h1 b h
    · exact Nat.le_trans h3.size h
  · rcases q1 bE hb with h | h
    · exact h4 h
    · omega
theorem FullS.expire (h : FullS W w tb l bE) (n : Int) :
    Calls Try.prog 17 #[.pointer (some ⟨tb, 0, none⟩), .int .i64 n] w fun e w' => e = .returned (.int .i64 (l.filter (overE n)).length) ∧ FullS W w' tb (stayE (overE n) l) bE := by
  obtain ⟨R, h1, h2, h3, h4, h5, h6⟩ := h
  refine (expire_at h2 n).mono ?_
  rintro e w' ⟨rfl, hT, hk⟩
  exact ⟨rfl, R, h1, hT, h3.trans (hk.toBelow h3.size fun b hb hR => by have := h1 b hR; omega), h4, Nat.lt_of_lt_of_le h5 hk.size, (World.cell?_of_block (hk.block bE h5 h4)).trans h6⟩
theorem FullS.again (h : FullS W w tb l bE) (x : Ent) (fv : Value) (hf : SlS 0 x.fs w fv) (hl : x.fs.length ≤ 1000000) (hn : fullB l x = true) :
    Calls Try.prog 9 #[.pointer (some ⟨tb, 0, none⟩), EntV x fv] w fun e w' => ∃ bG, e = .returned (.iface 71 (.pointer (some ⟨bG, 0, none⟩))) ∧ FullS W w' tb l bE ∧ bG < w'.heap.size ∧ w'.cell? ⟨bG, 2, none⟩ = some (.iface 45 (.int .i64 4)) := by
  obtain ⟨R, h1, h2, h3, h4, h5, h6⟩ := h
  refine (put_at h2 x fv hf hl).mono ?_
  rintro e w' ⟨hp, hk⟩
  rw [if_pos hn] at hp
  obtain ⟨v, rfl, ⟨bG, rfl, q1, q2, q3⟩, hT⟩ := hp
  exact ⟨bG, rfl, ⟨R, h1, hT, h3.trans (hk.toBelow h3.size fun b hb hR => by have := h1 b hR; omega), h4, Nat.lt_of_lt_of_le h5 hk.size, (World.cell?_of_block (hk.block bE h5 h4)).trans h6⟩, q2, q3⟩
end
theorem slS_nil (w : World) : SlS 0 [] w (.slice none 0 0) := ⟨none, 0, rfl, Nat.le_refl _, Nat.zero_le _, fun _ => rfl, Or.inl rfl⟩
set_option maxRecDepth 100000 in
set_option maxHeartbeats 8000000 in
theorem tableFull_walk (W : World) (n : Int) (hn : okInt n) (c : Int) (hc : okInt c) :
    Calls Try.prog 7 #[.int .i64 n, .int .i64 c] W fun e W' => e = .returned (.bool true) ∧ Below W.heap.size W W' := by
  go_enter Try.func7, Try.ntmps7
  by_cases g1 : n < 0
  · go_wp2_with fail
    refine (awake13_any _).mono ?_
    rintro e w3 ⟨rfl, hb3⟩
    go_wp2_with fail
    go_ret
    exact ⟨rfl, hb3⟩
  by_cases g2 : 20 < n
  · go_wp2_with fail
    refine (awake13_any _).mono ?_
    rintro e w3 ⟨rfl, hb3⟩
    go_wp2_with fail
    go_ret
    exact ⟨rfl, hb3⟩
  by_cases g3 : c < 0
  · go_wp2_with fail
    refine (awake13_any _).mono ?_
    rintro e w3 ⟨rfl, hb3⟩
    go_wp2_with fail
    go_ret
    exact ⟨rfl, hb3⟩
  by_cases g4 : 1000 < c
  · go_wp2_with fail
    refine (awake13_any _).mono ?_
    rintro e w3 ⟨rfl, hb3⟩
    go_wp2_with fail
    go_ret
    exact ⟨rfl, hb3⟩
  go_wp2_with fail
  obtain ⟨w1, hw1⟩ : ∃ z, z = W.alloc (.cells #[.slice none 0 0] 24) := ⟨_, rfl⟩
  obtain ⟨X, hX⟩ : ∃ z, z = W.heap.size := ⟨_, rfl⟩
  have T1 : Hid (TabW W w1 X (fullL 0)) := show TabW _ _ _ _ by rw [hw1, hX]; exact tabW_new W
  rw [← hw1]
  try rw [← hX]
  clear hw1 hX
  go_loopw [6] (fun i wr => ∃ k : Nat, k ≤ 400 ∧ i = .int .i64 k ∧ Hid (TabW W wr X (fullL k))) (fun i _ => 400 - (intOf i).toNat)
  case atStart => exact ⟨0, Nat.zero_le _, rfl, T1.out⟩
  case round =>
    obtain ⟨k, hk, rfl, hT⟩ := hrel
    by_cases hlt : k < 400
    · have hltI : (k : Int) < 400 := by omega
      go_wp2_with fail
      refine (show Calls Try.prog 9 #[.pointer (some ⟨X, 0, none⟩), .agg #[.string { data := #[103] }, .int .i64 (2000 + (k : Int)), .slice none 0 0, .bool false, .int .i64 (k : Int)]] wr _ from tabW_put hT.out (fe k) (.slice none 0 0) (slS_nil _) (by simp [fe]) (fullL_room hlt)).mono ?_
      rintro e w5 ⟨rfl, hT5⟩
      rw [fullL_succ] at hT5
      have T5 := Lib.hid hT5
      clear hT5
      go_wp2_with fail
      go_roundw
      case rel => go_light; exact ⟨k + 1, by omega, by go_num, T5.out⟩
      case measure => go_light; simp [intOf]; omega
    · obtain rfl : k = 400 := by omega
      have hltI : ¬ ((400 : Nat) : Int) < 400 := by omega
      go_wp2_with fail
      refine (show Calls Try.prog 9 #[.pointer (some ⟨X, 0, none⟩), .agg #[.string { data := #[103] }, .int .i64 c, .slice none 0 0, .bool false, .int .i64 0]] wr _ from fullS_first hT.out ⟨[103], c, [], false, 0⟩ (.slice none 0 0) (slS_nil _) (by simp) (fullL_small (by omega))).mono ?_
      rintro e w5 ⟨bE, rfl, hF⟩
      have F5 := Lib.hid hF
      clear hF
      go_wp2_with fail
      refine (show Calls Try.prog 9 #[.pointer (some ⟨X, 0, none⟩), .agg #[.string { data := #[103] }, .int .i64 2000, .slice none 0 0, .bool false, .int .i64 500]] w5 _ from F5.out.put x500 (.slice none 0 0) (slS_nil _) (by simp [x500]) room500).mono ?_
      rintro e w6 ⟨rfl, hF⟩
      rw [put500] at hF
      have F6 := Lib.hid hF
      clear hF
      go_wp2_with fail
      refine (F6.out.expire n).mono ?_
      rintro e w7 ⟨rfl, hF⟩
      rw [over_count (by omega) (by omega)]
      have F7 : Hid (FullS W w7 X (hL n 0) bE) := by
        have e : hL n 0 = stayE (overE n) full2 := by simp [hL]
        rw [e]; exact hF
      have hwn : Hid ((wantN n : Int) = max (n - 1) 0) := show _ = _ by unfold wantN; omega
      have hw20 : wantN n ≤ 20 := by unfold wantN; omega
      obtain ⟨m, hm⟩ : ∃ m, m = wantN n := ⟨_, rfl⟩
      have HM := Lib.hid hm
      rw [← hm] at hwn hw20 ⊢
      clear hF hm
      go_wp2_with fail
      rw [← hwn.out]
      go_loopw [11] (fun i wq => ∃ k : Nat, k ≤ m ∧ i = .int .i64 k ∧ Hid (FullS W wq X (hL n k) bE)) (fun i _ => m - (intOf i).toNat)
      case atStart => exact ⟨0, Nat.zero_le _, rfl, F7.out⟩
      case round =>
        obtain ⟨k, hk2, rfl, hF⟩ := hrel
        by_cases hlt2 : k < m
        · have hltI : (k : Int) < (m : Int) := by omega
          go_wp2_with fail
          refine (show Calls Try.prog 9 #[.pointer (some ⟨X, 0, none⟩), .agg #[.string { data := #[104] }, .int .i64 (k : Int), .slice none 0 0, .bool false, .int .i64 0]] _ _ from hF.out.put (he k) (.slice none 0 0) (slS_nil _) (by simp [he]) (hL_room (by omega) (by omega) (by rw [← HM.out]; exact hlt2))).mono ?_
          rintro e w9 ⟨rfl, hF9⟩
          rw [hL_succ] at hF9
          have F9 := Lib.hid hF9
          clear hF9
          go_wp2_with fail
          go_roundw
          case rel => go_light; exact ⟨k + 1, by omega, by go_num, F9.out⟩
          case measure => go_light; simp [intOf]; omega
        · have hkm : k = m := by omega
          have hltI : ¬ (k : Int) < (m : Int) := by omega
          have hF2 : Hid (FullS W _ X (hL n (wantN n)) bE) := show FullS _ _ _ _ _ by rw [← HM.out, ← hkm]; exact hF.out
          clear hF
          go_wp2_with fail
          refine (show Calls Try.prog 9 #[.pointer (some ⟨X, 0, none⟩), .agg #[.string { data := #[104] }, .int .i64 5000, .slice none 0 0, .bool false, .int .i64 0]] _ _ from hF2.out.again (he 5000) (.slice none 0 0) (slS_nil _) (by simp [he]) (hL_full (by omega) (by omega))).mono ?_
          rintro e w9 ⟨bG, rfl, hF9, z9, c9⟩
          have F9 := Lib.hid hF9
          clear hF9 hF2
          go_wp2_with fail
          refine (awake13_any _).mono ?_
          rintro e w10 ⟨rfl, hb10⟩
          have F10 := Lib.hid (F9.out.later hb10)
          have c9 := (hb10.cell (p := ⟨bG, 2, none⟩) z9).trans c9
          have hEc := F10.out
          obtain ⟨R, hR, hT, hB, _, zE, cE⟩ := hEc
          have IE := Lib.hid (is_code bE 4 4 _ cE)
          have IG := Lib.hid (is_code bG 4 4 _ c9)
          have CL := Lib.hid (len_at hT)
          have hlen : (hL n (wantN n)).length = 400 := by
            rw [hL_len (by omega) (by omega)]
            have : wantN n ≤ 20 := by unfold wantN; omega
            omega
          rw [hlen] at CL
          have B10 := Lib.hid hB
          clear hT hB cE c9 hb10 F9 hlen
          go_wp2_with fail
          refine IE.out.mono ?_
          rintro e w11 ⟨rfl, rfl⟩
          go_wp2_with fail
          refine IG.out.mono ?_
          rintro e w11 ⟨rfl, rfl⟩
          go_wp2_with fail
          refine CL.out.mono ?_
          rintro e w11 ⟨rfl, rfl⟩
          go_wp2_with fail
          go_ret
          exact ⟨rfl, B10.out⟩
end Go.Proofs.Ytacdgfkahppmdaa
