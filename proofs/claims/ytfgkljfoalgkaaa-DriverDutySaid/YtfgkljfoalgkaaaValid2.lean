/-
  slices.ContainsFunc over coils, driver.Valid: for every list of coils. No condition.
-/
import Derived.Test.YtfgkljfoalgkaaaValid
namespace Go.Proofs.Ytfgkljfoalgkaaa
open Go.RowKit

/-- The six cells of a coil of a row. -/
theorem coil_cells {w : World} {g off n : Nat} {C : Nat → Coil} (h : ∀ j, j < n → ∀ k u, (Coil.cells (C j))[k]? = some u → w.cell? ⟨g, off + j * 6 + k, none⟩ = some u) {j : Nat} (hj : j < n) :
    w.cell? ⟨g, off + j * 6, none⟩ = some (.int .i64 (C j).pulse) ∧ w.cell? ⟨g, off + j * 6 + 1, none⟩ = some (.int .i64 (C j).on) ∧ w.cell? ⟨g, off + j * 6 + 2, none⟩ = some (.int .i64 (C j).off) ∧
    w.cell? ⟨g, off + j * 6 + 3, none⟩ = some (.int .i64 (C j).rest) ∧ w.cell? ⟨g, off + j * 6 + 4, none⟩ = some (.int .i64 (C j).fuse) ∧ w.cell? ⟨g, off + j * 6 + 5, none⟩ = some (.int .i64 (C j).cur) :=
  ⟨h j hj 0 _ rfl, h j hj 1 _ rfl, h j hj 2 _ rfl, h j hj 3 _ rfl, h j hj 4 _ rfl, h j hj 5 _ rfl⟩
/-- What a row that came in reads in a later world: nil or its cells. -/
theorem Holds.open {α : Type} {cells : α → List Value} {size : Nat} {w : World} {n : Nat} {f : Nat → α} {a : Option Addr} {cap : Nat} (h : Holds cells size w (.slice a n cap) n f) {i : Nat} (hi : i < n) :
    ∃ g off, a = some ⟨g, off, none⟩ ∧ ∀ w', Below w.heap.size w w' → ∀ j, j < n → ∀ k u, (cells (f j))[k]? = some u → w'.cell? ⟨g, off + j * size + k, none⟩ = some u := by
  obtain ⟨a', cap', hv, h⟩ := h
  injection hv with h1 h2 h3
  subst h1
  obtain ⟨g, off, e, hl, hc⟩ := h.resolve_left (by omega)
  exact ⟨g, off, e, fun w' hb j hj k u hu => by rw [hb.cell (p := ⟨g, off + j * size + k, none⟩) hl]; exact hc j hj k u hu⟩
theorem bad_any (p on off r f u : Int) (w : World) : Calls Try.prog 64 #[.agg #[.int .i64 p, .int .i64 on, .int .i64 off, .int .i64 r, .int .i64 f, .int .i64 u]] w fun e w' =>
    e = .returned (.bool (!goodB ⟨p, on, off, r, f, u⟩)) ∧ Below w.heap.size w w' := by
  go_enter Try.func64, Try.ntmps64
  go_wp2_with fail
  refine (good_any _ _ _ _ _ _ _).mono ?_
  rintro e w1 ⟨rfl, hb1⟩
  have Hb := Lib.hid (show Below w.heap.size w w1 from ((Below.refl _ w).alloc (Nat.le_refl _) _).trans (hb1.mono (by simp)))
  clear hb1
  go_wp2
  go_ret
  exact ⟨rfl, Hb.out⟩
theorem bad_c (c : Coil) (w : World) : Calls Try.prog 64 #[.agg #[.int .i64 c.pulse, .int .i64 c.on, .int .i64 c.off, .int .i64 c.rest, .int .i64 c.fuse, .int .i64 c.cur]] w fun e w' =>
    e = .returned (.bool (!goodB c)) ∧ Below w.heap.size w w' := bad_any c.pulse c.on c.off c.rest c.fuse c.cur w
set_option maxHeartbeats 1600000 in
theorem index_any (v : Value) (n : Nat) (C : Nat → Coil) (w : World) (hn : n ≤ 1000000) (hv : HoldsC w v n C) :
    Calls Try.prog 74 #[v, .func (.func 64) #[] #[]] w fun e w' => ∃ k : Int, e = .returned (.int .i64 k) ∧ ((k = -1 ∧ ∀ i, i < n → goodB (C i) = true) ∨ (0 ≤ k ∧ ∃ i, i < n ∧ goodB (C i) = false)) ∧ Below w.heap.size w w' := by
  obtain ⟨a, cap, rfl, _⟩ := id hv
  have HV := Lib.hid hv
  clear hv
  go_enter Try.func74, Try.ntmps74
  go_wp2
  go_loopg [8] n (fun g i wr => ∃ k : Nat, k ≤ n ∧ g = n - k ∧ i = .int .i64 k ∧ (∀ j, j < k → goodB (C j) = true) ∧ Below w.heap.size w wr)
  case atStart => exact ⟨0, by omega, rfl, rfl, fun j hj => absurd hj (by omega), Below.refl _ _⟩
  case round =>
    obtain ⟨k, hk, hg, rfl, hG, hb⟩ := hrel
    have Hg := Lib.hid hg
    have HG := Lib.hid hG
    have Hb := Lib.hid hb
    clear hg hG hb
    by_cases hkn : k < n
    · obtain ⟨g1, o1, rfl, hc⟩ := HV.out.open hkn
      obtain ⟨e0, e1, e2, e3, e4, e5⟩ := coil_cells (hc _ Hb.out) hkn
      have b1 : (0 : Int) ≤ (k : Int) := by omega
      have b2 : (k : Int) < (n : Int) := by omega
      have b3 : decide ((k : Int) < (n : Int)) = true := by simp; omega
      clear hc
      have HB := Lib.hid (bad_c (C k))
      cases hgood : goodB (C k) with
      | true =>
        have HGd := Lib.hid hgood
        go_wp2_with fail
        refine (HB.out _).mono ?_
        rintro e w2 ⟨rfl, hb2⟩
        rw [hgood]
        have Hb2 := Lib.hid hb2
        clear hb2 hgood
        go_wp2
        go_roundg (n - (k + 1))
        case measure => have := Hg.out; omega
        case rel => exact ⟨k + 1, by omega, rfl, by go_num, fun j hj => by
          by_cases e : j = k
          · rw [e]; exact HGd.out
          · exact HG.out j (by omega), Hb.out.trans (Hb2.out.mono Hb.out.size)⟩
      | false =>
        have HGd := Lib.hid hgood
        go_wp2_with fail
        refine (HB.out _).mono ?_
        rintro e w2 ⟨rfl, hb2⟩
        rw [hgood]
        have Hb2 := Lib.hid hb2
        clear hb2 hgood
        go_wp2
        go_ret
        exact ⟨k, rfl, .inr ⟨by omega, k, hkn, HGd.out⟩, Hb.out.trans (Hb2.out.mono Hb.out.size)⟩
    · have b3 : decide ((k : Int) < (n : Int)) = false := by simp; omega
      go_wp2
      go_ret
      exact ⟨-1, rfl, .inl ⟨rfl, fun j hj => HG.out j (by omega)⟩, Hb.out⟩
set_option maxHeartbeats 800000 in
theorem contains_any (v : Value) (n : Nat) (C : Nat → Coil) (w : World) (hn : n ≤ 1000000) (hv : HoldsC w v n C) :
    Calls Try.prog 63 #[v, .func (.func 64) #[] #[]] w fun e w' => ∃ b : Bool, e = .returned (.bool b) ∧ (b = false ↔ ∀ i, i < n → goodB (C i) = true) ∧ Below w.heap.size w w' := by
  obtain ⟨a, cap, rfl, _⟩ := id hv
  have HV := Lib.hid hv
  clear hv
  go_enter Try.func63, Try.ntmps63
  go_wp2_with fail
  refine (index_any _ n C _ hn HV.out).mono ?_
  rintro e w1 ⟨k, rfl, hk, hb1⟩
  have Hk := Lib.hid hk
  have Hb1 := Lib.hid hb1
  clear hk hb1
  go_wp2
  go_ret
  refine ⟨_, rfl, ?_, Hb1.out⟩
  rcases Hk.out with ⟨rfl, h⟩ | ⟨h0, i, hi, h⟩
  · exact ⟨fun _ => h, fun _ => rfl⟩
  · refine ⟨fun hd => ?_, fun hd => ?_⟩
    · rw [decide_eq_true h0] at hd; exact Bool.noConfusion hd
    · rw [hd i hi] at h; exact Bool.noConfusion h
set_option maxHeartbeats 800000 in
theorem valid_any (v : Value) (n : Nat) (C : Nat → Coil) (w : World) (hv : HoldsC w v n C) :
    Calls Try.prog 28 #[v] w fun e w' => e = .returned (.int .i64 (validE n C)) ∧ Below w.heap.size w w' := by
  obtain ⟨a, cap, rfl, _⟩ := id hv
  have HV := Lib.hid hv
  clear hv
  by_cases hn : 32 < n
  · have h1 : decide (32 < (n : Int)) = true := by simp; omega
    go_enter Try.func28, Try.ntmps28
    go_wp2
    go_ret
    exact ⟨by unfold validE; rw [if_pos hn]; rfl, Below.refl _ _⟩
  · have h1 : decide (32 < (n : Int)) = false := by simp; omega
    go_enter Try.func28, Try.ntmps28
    go_wp2_with fail
    refine (contains_any _ n C _ (by omega) HV.out).mono ?_
    rintro e w1 ⟨b, rfl, hk, hb1⟩
    have Hk := Lib.hid hk
    have Hb1 := Lib.hid hb1
    clear hk hb1
    cases b with
    | true =>
      go_wp2
      go_ret
      exact ⟨by unfold validE; rw [if_neg hn, if_neg (fun h => Bool.noConfusion (Hk.out.2 h))]; rfl, Hb1.out⟩
    | false =>
      go_wp2
      go_ret
      exact ⟨by unfold validE; rw [if_neg hn, if_pos (by first | exact Hk.out.1 rfl | exact Hk.out.1 trivial)]; rfl, Hb1.out⟩
end Go.Proofs.Ytfgkljfoalgkaaa
