/-
  The reference's rest and next: for a drive of a valid coil.
-/
import Derived.Test.YtfgkljfoalgkaaaDRef
namespace Go.Proofs.Ytfgkljfoalgkaaa
open Go.RowKit

theorem rrest (p on off r f u : Int) (w : World) : Calls Try.prog 77 #[.agg #[.int .i64 p, .int .i64 on, .int .i64 off, .int .i64 r, .int .i64 f, .int .i64 u]] w fun e w' =>
    e = .returned (.agg #[.int .i64 (restF ⟨p, on, off, r, f, u⟩).phase, .int .i64 (restF ⟨p, on, off, r, f, u⟩).left, .bool (restF ⟨p, on, off, r, f, u⟩).held]) ∧ Below w.heap.size w w' := by
  cases h0 : (r == 0) with
  | true =>
    have hF : restF ⟨p, on, off, r, f, u⟩ = ⟨0, 0, false⟩ := by unfold restF; simp only [h0]; rfl
    rw [hF]
    clear hF
    go_enter Try.func77, Try.ntmps77
    go_wp2
    refine bodyPost_ret (v := .agg #[.int .i64 0, .int .i64 0, .bool false]) (by simp [results, Try.results77, go_sem]) rfl ⟨rfl, ?_⟩
    exact ((Below.refl _ _).alloc (Nat.le_refl _) _).alloc (by simp) _
  | false =>
    have hF : restF ⟨p, on, off, r, f, u⟩ = ⟨3, r, false⟩ := by unfold restF; simp only [h0]; rfl
    rw [hF]
    clear hF
    go_enter Try.func77, Try.ntmps77
    go_wp2
    refine bodyPost_ret (v := .agg #[.int .i64 3, .int .i64 r, .bool false]) (by simp [results, Try.results77, go_sem]) rfl ⟨rfl, ?_⟩
    exact ((Below.refl _ _).alloc (Nat.le_refl _) _).alloc (by simp) _
set_option maxRecDepth 100000 in
set_option maxHeartbeats 6400000 in
theorem rnext (p on off r f u q l : Int) (h : Bool) (w : World) (hc : goodB ⟨p, on, off, r, f, u⟩ = true) (hd : fitsB ⟨p, on, off, r, f, u⟩ ⟨q, l, h⟩ = true) :
    Calls Try.prog 71 #[.agg #[.int .i64 p, .int .i64 on, .int .i64 off, .int .i64 r, .int .i64 f, .int .i64 u], .agg #[.int .i64 q, .int .i64 l, .bool h]] w fun e w' =>
    e = .returned (.agg #[.int .i64 (nextF ⟨p, on, off, r, f, u⟩ ⟨q, l, h⟩).phase, .int .i64 (nextF ⟨p, on, off, r, f, u⟩ ⟨q, l, h⟩).left, .bool (nextF ⟨p, on, off, r, f, u⟩ ⟨q, l, h⟩).held]) ∧ Below w.heap.size w w' := by
  have hg := (goodB_iff _).1 hc
  simp only at hg
  obtain ⟨g0, g1, g2, g3, g4, g5, g6, g7, g8, _⟩ := hg
  rcases fits_phase hd with ⟨hp, hl, hh⟩ | ⟨hp, hl1, hl2, hh⟩ | ⟨hp, ho, hl1, hl2, hh⟩ | ⟨hp, hl1, hl2, hh⟩
  · simp only at hp hl hh
    subst hp hl hh
    have hF : nextF ⟨p, on, off, r, f, u⟩ ⟨0, 0, false⟩ = ⟨0, 0, false⟩ := rfl
    rw [hF]
    clear hF hc hd
    go_enter Try.func71, Try.ntmps71
    go_wp2
    refine bodyPost_ret (v := .agg #[.int .i64 0, .int .i64 0, .bool false]) (by simp [results, Try.results71, go_sem]) rfl ⟨rfl, ?_⟩
    exact (((Below.refl _ _).alloc (Nat.le_refl _) _).alloc (by simp) _).alloc (by simp; omega) _
  · simp only at hp hl1 hl2 hh
    subst hp
    cases t1 : decide (1 < l) with
    | true =>
      have hF : nextF ⟨p, on, off, r, f, u⟩ ⟨1, l, h⟩ = ⟨1, l - 1, h⟩ := by unfold nextF; simp only [t1]; rfl
      rw [hF]
      clear hF hc hd hh
      go_enter Try.func71, Try.ntmps71
      go_wp2
      refine bodyPost_ret (v := .agg #[.int .i64 1, .int .i64 (l - 1), .bool h]) (by simp [results, Try.results71, go_sem]) rfl ⟨rfl, ?_⟩
      exact (((Below.refl _ _).alloc (Nat.le_refl _) _).alloc (by simp) _).alloc (by simp; omega) _
    | false =>
      have hl : l = 1 := by have := of_decide_eq_false t1; omega
      subst hl
      cases h with
      | true =>
        have hF : nextF ⟨p, on, off, r, f, u⟩ ⟨1, 1, true⟩ = ⟨2, 0, true⟩ := rfl
        rw [hF]
        clear hF hc hd hh
        go_enter Try.func71, Try.ntmps71
        go_wp2
        refine bodyPost_ret (v := .agg #[.int .i64 2, .int .i64 0, .bool true]) (by simp [results, Try.results71, go_sem]) rfl ⟨rfl, ?_⟩
        exact (((Below.refl _ _).alloc (Nat.le_refl _) _).alloc (by simp) _).alloc (by simp; omega) _
      | false =>
        have hF : nextF ⟨p, on, off, r, f, u⟩ ⟨1, 1, false⟩ = restF ⟨p, on, off, r, f, u⟩ := rfl
        rw [hF]
        clear hF hc hd hh
        obtain ⟨x, hx⟩ : ∃ x, restF ⟨p, on, off, r, f, u⟩ = x := ⟨_, rfl⟩
        have HRR := Lib.hid (fun W0 => rrest p on off r f u W0)
        rw [hx] at HRR ⊢
        clear hx
        go_enter Try.func71, Try.ntmps71
        go_wp2_with fail
        refine (HRR.out _).mono ?_
        rintro e w1 ⟨rfl, hb1⟩
        obtain ⟨hcA, hfA⟩ := bcell hb1
        have c0 := hcA (w.heap.size + 1 + 1) 0 (by simp)
        have c1 := hcA (w.heap.size + 1 + 1) 1 (by simp)
        have c2 := hcA (w.heap.size + 1 + 1) 2 (by simp)
        have f0 := hfA (w.heap.size + 1 + 1) 0 (by simp)
        have f1 := hfA (w.heap.size + 1 + 1) 1 (by simp)
        have f2 := hfA (w.heap.size + 1 + 1) 2 (by simp)
        simp [go_sem] at c0 c1 c2 f0 f1 f2
        have HB1 := Lib.hid (show Below w.heap.size w w1 from ((((Below.refl _ _).alloc (Nat.le_refl _) _).alloc (by simp) _).alloc (by simp; omega) _).trans (hb1.mono (by simp; omega)))
        clear hcA hfA hb1 HRR
        go_wp2
        refine bodyPost_ret (v := .agg #[.int .i64 x.phase, .int .i64 x.left, .bool x.held]) (by simp [results, Try.results71, go_sem, c0, c1, c2]) rfl ⟨rfl, ?_⟩
        exact ((HB1.out.setCell (show w.heap.size ≤ w.heap.size + 1 + 1 by omega) _).setCell (show w.heap.size ≤ w.heap.size + 1 + 1 by omega) _).setCell (show w.heap.size ≤ w.heap.size + 1 + 1 by omega) _
  · simp only at hp ho hl1 hl2 hh
    subst hp hh
    have hF : nextF ⟨p, on, off, r, f, u⟩ ⟨2, l, true⟩ = ⟨2, (l + 1) % (on + off), true⟩ := rfl
    rw [hF]
    have hne : on + off ≠ 0 := by omega
    have hpos : 0 < on + off := by omega
    clear hF hc hd
    go_enter Try.func71, Try.ntmps71
    go_wp2
    refine bodyPost_ret (v := .agg #[.int .i64 2, .int .i64 ((l + 1) % (on + off)), .bool true]) (by simp [results, Try.results71, go_sem]) rfl ⟨rfl, ?_⟩
    exact (((Below.refl _ _).alloc (Nat.le_refl _) _).alloc (by simp) _).alloc (by simp; omega) _
  · simp only at hp hl1 hl2 hh
    subst hp hh
    cases t1 : decide (1 < l) with
    | true =>
      have hF : nextF ⟨p, on, off, r, f, u⟩ ⟨3, l, false⟩ = ⟨3, l - 1, false⟩ := by unfold nextF; simp only [t1]; rfl
      rw [hF]
      clear hF hc hd
      go_enter Try.func71, Try.ntmps71
      go_wp2
      refine bodyPost_ret (v := .agg #[.int .i64 3, .int .i64 (l - 1), .bool false]) (by simp [results, Try.results71, go_sem]) rfl ⟨rfl, ?_⟩
      exact (((Below.refl _ _).alloc (Nat.le_refl _) _).alloc (by simp) _).alloc (by simp; omega) _
    | false =>
      have hl : l = 1 := by have := of_decide_eq_false t1; omega
      subst hl
      have hF : nextF ⟨p, on, off, r, f, u⟩ ⟨3, 1, false⟩ = ⟨0, 0, false⟩ := rfl
      rw [hF]
      clear hF hc hd
      go_enter Try.func71, Try.ntmps71
      go_wp2
      refine bodyPost_ret (v := .agg #[.int .i64 0, .int .i64 0, .bool false]) (by simp [results, Try.results71, go_sem]) rfl ⟨rfl, ?_⟩
      exact (((Below.refl _ _).alloc (Nat.le_refl _) _).alloc (by simp) _).alloc (by simp; omega) _
end Go.Proofs.Ytfgkljfoalgkaaa
