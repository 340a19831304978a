


/-
  RouteSteps walked.
-/
import Derived.Test.YtbhaapkafgieiaaGreatDoorMade
import Derived.Test.YtbhaapkafgieiaaGreatDoorRouteD
namespace Go.Proofs.YtbhaapkafgieiaaGreatDoor
open Go.RowKit Go.Maps Go.Sort Go.WideShapes Go.ChangeShapes Go.Deep
set_option linter.unusedVariables false
set_option linter.unusedSimpArgs false
attribute [local go_sem] later_cell later_frozen later_lt cell_set_off cell_set_block

theorem both_ok {S Q : Nat → Prop} {W w : World} {rb mb : Nat} {f : RS} {p : Where} (h : Both S Q W w rb mb f p) : RingOk W.heap.size W w rb mb f := by
  obtain ⟨g, hg⟩ := h.ring
  exact ⟨⟨g, hg.same (Nat.le_refl _) (fun _ _ _ => rfl) (fun b _ hS => h.low b hS) fun b hb => by have := h.below.size; omega⟩, h.inv, h.below⟩
/-- What Made leaves, as the laws use it that look at the ring alone. -/
theorem made_ring (W : World) (hH : HandleAt W) (v0 v1 : Value) (ids : List Int) (acts : List ActD) (n : Nat) (hi : SlAt 0 (fun i => .int .u64 (nth ids i)) ids.length W v0) (hp : ∀ x ∈ ids, isPlace x)
    (ha : ActsAt acts W v1) (hao : ∀ k, k < acts.length → (actAt acts k).ok) (hn : n ≤ 1000) (m : Int) (hm : m = n) : Calls Tryz.prog 9 #[v0, v1, .int .i64 m] W fun e w' =>
      (e = .returned (.tuple #[.pointer none, .agg #[.slice none 0 0, .slice none 0 0, .slice none 0 0, .slice none 0 0], .bool false]) ∧ RowKit.Below W.heap.size W w') ∨
      ∃ (rb mb : Nat) (f : RS) (p : Where), e = .returned (.tuple #[.pointer (some ⟨rb, 0, none⟩), (.agg #[.slice (some ⟨(p).b1, (p).o1, none⟩) 32 (p).k1, .slice (some ⟨(p).b2, (p).o2, none⟩) 32 (p).k2, .slice (some ⟨(p).b3, (p).o3, none⟩) 32 (p).k3, .slice (some ⟨(p).b4, (p).o4, none⟩) 32 (p).k4]), .bool true]) ∧ RingOk W.heap.size W w' rb mb f := by
  subst hm
  refine (made_any W hH v0 v1 ids acts n hi hp ha hao hn).mono fun e w' h => ?_
  unfold MadePost at h
  split at h
  · obtain ⟨rb, mb, f, p, S, Q, rfl, hB⟩ := h
    exact Or.inr ⟨rb, mb, f, p, rfl, both_ok hB⟩
  · exact Or.inl h

set_option maxRecDepth 100000 in
set_option maxHeartbeats 8000000 in
theorem routeSteps_main (W : World) (hH : HandleAt W) (v0 v1 : Value) (ids : List Int) (acts : List ActD) (n X : Int) (hn : okInt n) (hi : SlAt 0 (fun i => .int .u64 (nth ids i)) ids.length W v0) (hp : ∀ x ∈ ids, isPlace x)
    (ha : ActsAt acts W v1) (hao : ∀ k, k < acts.length → (actAt acts k).ok) : Calls Tryz.prog 3 #[v0, v1, .int .i64 n, .int .u64 X] W (OneYes W) := by
  have CM := Lib.hid (made_ring W hH v0 v1 ids acts 25 hi hp ha hao (by omega) 25 rfl)
  clear hi hp ha hao hH
  go_enter Tryz.func3, Tryz.ntmps3
  go_wp2_with fail
  refine CM.out.mono ?_
  rintro e w1 (hm | ⟨rb, mb, f, p, rfl, hR⟩)
  · obtain ⟨rfl, hB1⟩ := hm
    go_wp2_with fail
    refine (awake12_any _).mono ?_
    rintro e w2 ⟨rfl, hB2⟩
    go_wp2_with fail
    go_ret
    exact ⟨rfl, bel_below (bel_below hB1 (bel_alloc (RowKit.Below.refl _ _) _)) hB2⟩
  · have R1 := Lib.hid hR
    have HH := Lib.hid hR.inv.heads
    clear hR CM
    go_wp2_with fail
    obtain ⟨w2, hw2⟩ : ∃ z, z = w1.alloc (.cells #[.slice (some ⟨p.b1, p.o1, none⟩) 32 p.k1, .slice (some ⟨p.b2, p.o2, none⟩) 32 p.k2, .slice (some ⟨p.b3, p.o3, none⟩) 32 p.k3, .slice (some ⟨p.b4, p.o4, none⟩) 32 p.k4] 33) := ⟨_, rfl⟩
    have R2 : Hid (RingOk W.heap.size W w2 rb mb f) := by rw [hw2]; exact R1.out.later (bel_alloc (RowKit.Below.refl _ _) _)
    rw [← hw2]
    clear hw2 R1
    obtain ⟨g, hG⟩ := R2.out.ring
    refine (newf_any w2 rb).mono ?_
    rintro e w3 ⟨fb, fm, rfl, hf, hb3⟩
    have G3 := Lib.hid (hG.now hb3)
    have F3 := Lib.hid hf
    have B3 := Lib.hid (bel_below R2.out.below hb3)
    have hfm3 := hf.fmz
    have hnow : ¬ Now (fun b => W.heap.size ≤ b) w2 w3 fm := fun h => by
      have h2 := hf.fmQ
      rcases h with ⟨_, h⟩ | h <;> omega
    have CRF := Lib.hid (roundf_at G3.out F3.out HH.out hnow)
    clear hf hb3 hG
    go_wp2_with fail
    refine CRF.out.mono ?_
    rintro e w4 ⟨rfl, hf4, hk4⟩
    have G4 := Lib.hid (G3.out.off hk4 hnow)
    obtain ⟨F, hF⟩ : ∃ z, z = fixes f (fun _ => []) (liveL f) := ⟨_, rfl⟩
    rw [← hF] at hf4
    have F4 := Lib.hid hf4
    have B4 : Hid (RowKit.Below W.heap.size W w4) := show RowKit.Below _ _ _ from B3.out.trans (hk4.toBelow B3.out.size (fun b hb e => by
      have := F3.out.fmQ
      have := R2.out.below.size
      omega))
    clear hf4 hk4 CRF hF F3 G3 hnow hfm3 R2
    cases hlv : livesR f n with
    | false =>
      have CP := Lib.hid (path_dead G4.out F4.out HH.out n X hn hlv)
      go_wp2_with fail
      refine CP.out.mono ?_
      rintro e w5 ⟨v, rfl, ⟨b, rfl, _⟩, hb5⟩
      go_wp2_with fail
      refine (awake12_any _).mono ?_
      rintro e w6 ⟨rfl, hb6⟩
      go_wp2_with fail
      go_ret
      exact ⟨rfl, bel_below (bel_below B4.out hb5) hb6⟩
    | true =>
      have CPS := Lib.hid fun l (hl : pathR (fun m => nextR f F m X) 65 n = some l) => path_some G4.out F4.out HH.out n X hn hlv hl
      have CPN := Lib.hid fun (hl : pathR (fun m => nextR f F m X) 65 n = none) => path_none G4.out F4.out HH.out n X hn hlv hl
      have HPW := Lib.hid fun l (hl : pathR (fun m => nextR f F m X) 65 n = some l) => And.intro (path_way _ _ _ hl) (path_lives HH.out F X _ _ _ hlv hl)
      obtain ⟨P, hP⟩ : ∃ z, z = pathR (fun m => nextR f F m X) 65 n := ⟨_, rfl⟩
      rw [← hP] at CPS CPN HPW
      clear hP hlv
      cases P with
      | none =>
        have CP := Lib.hid (CPN.out rfl)
        clear CPS CPN
        go_wp2_with fail
        refine CP.out.mono ?_
        rintro e w5 ⟨v, rfl, ⟨b, rfl, _⟩, hb5⟩
        go_wp2_with fail
        refine (awake12_any _).mono ?_
        rintro e w6 ⟨rfl, hb6⟩
        go_wp2_with fail
        go_ret
        exact ⟨rfl, bel_below (bel_below B4.out hb5) hb6⟩
      | some l =>
        obtain ⟨⟨hW, hl65⟩, hLV⟩ := HPW.out l rfl
        have HW := Lib.hid hW
        have HLV := Lib.hid hLV
        have hlpos := hW.pos
        have hfirst := hW.first
        have CP := Lib.hid (CPS.out l rfl)
        clear hW hLV CPS CPN
        go_wp2_with fail
        refine CP.out.mono ?_
        rintro e w5 ⟨v, rfl, hs5, hb5⟩
        obtain ⟨a5, c5, rfl, _⟩ := hs5.slice
        have S5 := Lib.hid (hs5.base (Nat.zero_le _))
        have B5 := Lib.hid (bel_below B4.out hb5)
        have G5 := Lib.hid (G4.out.below hb5)
        have F5 := Lib.hid (F4.out.below hb5)
        clear hs5 hb5 CP
        go_wp2_with fail
        go_loopw [50] (fun i wr => ∃ k : Nat, k ≤ l.length ∧ i = .int .i64 k ∧ Hid (RowKit.Below w5.heap.size w5 wr)) (fun i _ => l.length - (intOf i).toNat)
        case atStart => exact ⟨0, Nat.zero_le _, rfl, RowKit.Below.refl _ _⟩
        case round =>
          obtain ⟨k, hk, rfl, hB⟩ := hrel
          by_cases hlt : k < l.length
          · obtain ⟨b, off, rfl, _, hbz, hck⟩ := S5.out.at k hlt wr hB.out
            have hly := HLV.out _ (nth_mem.2 ⟨k, hlt, rfl⟩)
            have hdy := livesR_dom G5.out.dom hly
            have CN := next_live (G5.out.below hB.out) (F5.out.below hB.out) (nth l k) X (okInt_dom (by omega) (by omega)) hly
            have hst := HW.out.step k
            have hla := HW.out.last k
            obtain ⟨y, hy⟩ : ∃ z, z = nth l k := ⟨_, rfl⟩
            obtain ⟨ny, hny⟩ : ∃ z, z = nextR f F y X := ⟨_, rfl⟩
            rw [← hy] at hck CN hst hla
            rw [← hny] at CN
            simp only [← hny] at hst hla
            have CN := Lib.hid CN
            by_cases hl2 : k + 1 < l.length
            · obtain ⟨b2, off2, e2, _, hbz2, hck2⟩ := S5.out.at (k + 1) hl2 wr hB.out
              cases e2
              rw [← hst hl2] at hck2
              clear hst hla hy hny hly hdy
              go_wp2_with fail
              refine CN.out.mono ?_
              rintro e w6 ⟨rfl, hb6⟩
              have hck := (hb6.cell (p := ⟨b, off + k, none⟩) hbz).trans hck
              have hck2 := (hb6.cell (p := ⟨b, off + (k + 1), none⟩) hbz).trans hck2
              have hbz := Nat.lt_of_lt_of_le hbz hb6.size
              have B6 := Lib.hid (bel_below hB.out hb6)
              have hI : ((k : Nat) : Int) + 1 < (l.length : Int) := by omega
              clear hb6 CN hbz2
              go_wp2_with fail
              go_roundw
              case rel => go_light; exact ⟨k + 1, by omega, by go_num, B6⟩
              case measure => go_light; simp [intOf]; omega
            · have hyn : ny = y := hla (by omega)
              subst hyn
              clear hst hla hy hny hly hdy
              go_wp2_with fail
              refine CN.out.mono ?_
              rintro e w6 ⟨rfl, hb6⟩
              have hck := (hb6.cell (p := ⟨b, off + k, none⟩) hbz).trans hck
              have hbz := Nat.lt_of_lt_of_le hbz hb6.size
              have B6 := Lib.hid (bel_below hB.out hb6)
              have hI : ¬ ((k : Nat) : Int) + 1 < (l.length : Int) := by omega
              clear hb6 CN
              go_wp2_with fail
              go_roundw
              case rel => go_light; exact ⟨k + 1, by omega, by go_num, B6⟩
              case measure => go_light; simp [intOf]; omega
          · obtain rfl : k = l.length := by omega
            have h65I : ((l.length : Nat) : Int) ≤ 65 := by omega
            have h1I : (1 : Int) ≤ ((l.length : Nat) : Int) := by omega
            go_wp2_with fail
            refine (awake12_any _).mono ?_
            rintro e w6 ⟨rfl, hb6⟩
            have B6 := Lib.hid (bel_below (bel_below B5.out hB.out) hb6)
            obtain ⟨b, off, rfl, _, hbz, hck⟩ := S5.out.at 0 hlpos w6 (bel_below hB.out hb6)
            rw [hfirst, Nat.add_zero] at hck
            clear hb6
            go_wp2_with fail
            go_ret
            exact ⟨rfl, B6.out⟩
set_option maxRecDepth 100000 in
theorem routeSteps_walk {H : Type} (enc : TypeId × Value → H) (W : World) (v0 : Value) (d0 : DataW H) (p0 : List MemPlace) {r0 : Reach} {b0 : Nat} (ok0 : Value.okWide Tryz.prog W r0 b0 22 v0) (h0 : DataW.Trod enc Tryz.prog W 0 (fun _ => true) true 22 v0 d0 p0)
    (hlt0 : ∀ x ∈ p0, x.block < W.heap.size) (sz0 : ∀ n ∈ d0.weights Tryz.prog 22, n ≤ reachBytes) (v1 : Value) (d1 : DataW H) (p1 : List MemPlace) {r1 : Reach} {b1 : Nat} (ok1 : Value.okWide Tryz.prog W r1 b1 23 v1) (h1 : DataW.Trod enc Tryz.prog W 0 (fun _ => true) true 23 v1 d1 p1)
    (hlt1 : ∀ x ∈ p1, x.block < W.heap.size) (sz1 : ∀ n ∈ d1.weights Tryz.prog 23, n ≤ reachBytes) (a2 : Int) (w2 : (Lit.int .i64 a2).wf = true) (a3 : Int) (w3 : (Lit.int .u64 a3).wf = true) (hg : HandleAt W) :
    Calls Tryz.prog 3 #[v0, v1, .int .i64 a2, .int .u64 a3] W fun e W' => e = .returned (.bool true) ∧ RowKit.Below W.heap.size W W' := by
  obtain ⟨ids, hi, hp⟩ := ids_open ok0 h0
  obtain ⟨acts, ha, hao⟩ := acts_open ok1 h1
  exact routeSteps_main W hg v0 v1 ids acts a2 a3 w2 hi hp ha hao
end Go.Proofs.YtbhaapkafgieiaaGreatDoor
