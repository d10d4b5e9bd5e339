/-
  driver.IsState: it says whether the drives are ones of the coils. No condition but the length.
-/
import Derived.Test.YtfgkljfoalgkaaaNext
namespace Go.Proofs.Ytfgkljfoalgkaaa
open Go.RowKit
attribute [local go_sem] Later.cell

theorem Holds.open2 {α : Type} {cells : α → List Value} {size : Nat} {w : World} {n : Nat} {f : Nat → α} {a : Option Addr} {cap : Nat} (h : Holds cells size w (.slice a n cap) n f) {i : Nat} (hi : i < n) :
    ∃ g off, a = some ⟨g, off, none⟩ ∧ g < w.heap.size ∧ ∀ w', Below w.heap.size w w' → ∀ j, j < n → ∀ k u, (cells (f j))[k]? = some u → w'.cell? ⟨g, off + j * size + k, none⟩ = some u := by
  obtain ⟨a', cap', hv, h⟩ := h
  injection hv with h1 h2 h3
  subst h1
  obtain ⟨g, off, e, hl, hc⟩ := h.resolve_left (by omega)
  exact ⟨g, off, e, hl, fun w' hb j hj k u hu => by rw [hb.cell (p := ⟨g, off + j * size + k, none⟩) hl]; exact hc j hj k u hu⟩
theorem drive_cells {w : World} {g off n : Nat} {D : Nat → Drive} (h : ∀ j, j < n → ∀ k u, (Drive.cells (D j))[k]? = some u → w.cell? ⟨g, off + j * 3 + k, none⟩ = some u) {j : Nat} (hj : j < n) :
    w.cell? ⟨g, off + j * 3, none⟩ = some (.int .i64 (D j).phase) ∧ w.cell? ⟨g, off + j * 3 + 1, none⟩ = some (.int .i64 (D j).left) ∧ w.cell? ⟨g, off + j * 3 + 2, none⟩ = some (.bool (D j).held) :=
  ⟨h j hj 0 _ rfl, h j hj 1 _ rfl, h j hj 2 _ rfl⟩
def StateP (n : Nat) (C : Nat → Coil) (m : Nat) (D : Nat → Drive) : Prop := validE n C = 0 ∧ m = n ∧ ∀ i, i < n → fitsB (C i) (D i) = true
theorem fits_v {c : Coil} {d : Drive} {v : Bool} (hv : fitsB c d = v) (hc : goodB c = true) (w : World) :
    Calls Try.prog 66 #[.agg #[.int .i64 c.pulse, .int .i64 c.on, .int .i64 c.off, .int .i64 c.rest, .int .i64 c.fuse, .int .i64 c.cur], .agg #[.int .i64 d.phase, .int .i64 d.left, .bool d.held]] w fun e w' =>
    e = .returned (.bool v) ∧ Below w.heap.size w w' := by rw [← hv]; exact fits_c c d hc w
set_option maxHeartbeats 1600000 in
theorem isState_any (v1 v2 : Value) (n m : Nat) (C : Nat → Coil) (D : Nat → Drive) (w : World) (h1 : HoldsC w v1 n C) (h2 : HoldsD w v2 m D) :
    Calls Try.prog 31 #[v1, v2] w fun e w' => ∃ b : Bool, e = .returned (.bool b) ∧ (b = true ↔ StateP n C m D) ∧ Below w.heap.size w w' := by
  obtain ⟨a1, cap1, rfl, _⟩ := id h1
  obtain ⟨a2, cap2, rfl, _⟩ := id h2
  have H1 := Lib.hid h1
  have H2 := Lib.hid h2
  clear h1 h2
  by_cases hE : validE n C = 0
  · have HE := Lib.hid hE
    have HG := Lib.hid (validE_zero hE)
    clear hE
    go_enter Try.func31, Try.ntmps31
    go_wp2_with fail
    refine (valid_any _ n C _ H1.out).mono ?_
    rintro e w1 ⟨rfl, hb1⟩
    rw [HE.out]
    have Hb1 := Lib.hid hb1
    clear hb1
    by_cases hmn : m = n
    · subst hmn
      have hm32 := HG.out.1
      go_wp2
      go_loopg [19] m (fun g i wr => ∃ k : Nat, k ≤ m ∧ g = m - k ∧ i = .int .i64 k ∧ (∀ j, j < k → fitsB (C j) (D j) = true) ∧ Below w.heap.size w wr)
      case atStart => exact ⟨0, by omega, rfl, rfl, fun j hj => absurd hj (by omega), Hb1.out⟩
      case round =>
        obtain ⟨k, hk, hg, rfl, hF, hb⟩ := hrel
        have Hg := Lib.hid hg
        have HF := Lib.hid hF
        have Hb := Lib.hid hb
        have hsz := hb.size
        clear hg hF hb
        by_cases hkm : k < m
        · obtain ⟨g1, o1, rfl, l1, hc1⟩ := H1.out.open2 hkm
          obtain ⟨g2, o2, rfl, l2, hc2⟩ := H2.out.open2 hkm
          obtain ⟨e0, e1, e2, e3, e4, e5⟩ := coil_cells (hc1 _ Hb.out) hkm
          obtain ⟨d0, d1, d2⟩ := drive_cells (hc2 _ Hb.out) hkm
          have hgood := HG.out.2 k hkm
          have b1 : (0 : Int) ≤ (k : Int) := by omega
          have b2 : (k : Int) < (m : Int) := by omega
          have b3 : decide ((k : Int) < (m : Int)) = true := by simp; omega
          have lw1 : g1 < wr.heap.size := by omega
          have lw2 : g1 < wr.heap.size + 1 := by omega
          clear hc1 hc2
          cases hf : fitsB (C k) (D k) with
          | true =>
            have Hf := Lib.hid hf
            have HC := Lib.hid (fits_v hf hgood)
            clear hf hgood
            go_wp2_with fail
            refine wp_region_later (by kernel_rfl) (by kernel_rfl) ?_
            repeat (go_big_quiet_step ((go_at_call 66; exact Later.of (HC.out _))))
            refine wpQuiet_nil ?_
            rintro _ ⟨z, rfl⟩
            go_wp2
            go_roundg (m - (k + 1))
            case measure => have := Hg.out; omega
            case rel => exact ⟨k + 1, by omega, rfl, by go_num, fun j hj => by
              by_cases e : j = k
              · rw [e]; exact Hf.out
              · exact HF.out j (by omega), (Hb.out.alloc hsz _).trans (z.h.mono (by simp; omega))⟩
          | false =>
            have Hf := Lib.hid hf
            have HC := Lib.hid (fits_v hf hgood)
            clear hf hgood
            go_wp2_with fail
            refine wp_region_later (by kernel_rfl) (by kernel_rfl) ?_
            repeat (go_big_quiet_step ((go_at_call 66; exact Later.of (HC.out _))))
            refine wpQuiet_nil ?_
            rintro _ ⟨z, rfl⟩
            go_wp2
            go_ret
            exact ⟨false, rfl, ⟨fun h => Bool.noConfusion h, fun h => by have := h.2.2 k hkm; rw [Hf.out] at this; exact Bool.noConfusion this⟩, (Hb.out.alloc hsz _).trans (z.h.mono (by simp; omega))⟩
        · have b3 : decide ((k : Int) < (m : Int)) = false := by simp; omega
          go_wp2
          go_ret
          exact ⟨true, rfl, ⟨fun _ => ⟨HE.out, rfl, fun i hi => HF.out i (by omega)⟩, fun _ => rfl⟩, Hb.out⟩
    · have t1 : ((m : Int) != (n : Int)) = true := by rw [bne_iff_ne]; omega
      go_wp2
      go_ret
      exact ⟨false, rfl, ⟨fun h => Bool.noConfusion h, fun h => absurd h.2.1 hmn⟩, Hb1.out⟩
  · obtain ⟨E, hEE⟩ : ∃ E, validE n C = E := ⟨_, rfl⟩
    have HE := Lib.hid hE
    have t1 : (E != 0) = true := by rw [bne_iff_ne, ← hEE]; exact hE
    have HEE := Lib.hid hEE
    clear hE hEE
    go_enter Try.func31, Try.ntmps31
    go_wp2_with fail
    refine (valid_any _ n C _ H1.out).mono ?_
    rintro e w1 ⟨rfl, hb1⟩
    rw [HEE.out]
    have Hb1 := Lib.hid hb1
    clear hb1
    go_wp2
    go_ret
    exact ⟨false, rfl, ⟨fun h => Bool.noConfusion h, fun h => absurd h.1 HE.out⟩, Hb1.out⟩
end Go.Proofs.Ytfgkljfoalgkaaa
