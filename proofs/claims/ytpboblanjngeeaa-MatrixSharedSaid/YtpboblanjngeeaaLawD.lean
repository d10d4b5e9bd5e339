/-
  The walk of the law MatrixShared: for all arguments it hands back true, and nothing that was there turns.
-/
import Derived.Test.YtpboblanjngeeaaLawA
import Derived.Deep.OwnRows
namespace Go.Proofs.Ytpboblanjngeeaa
open Go.RowKit
attribute [local go_sem] shr_min64 shr_min8 shl_min64 U_shr U_shr' U_shl U_shl' U_shl1 U_and U_or U_andNot U_and1 U_bit U_bit0 U_to8 B8_to64 B8_shr B8_shr' B8_shl B8_shl' B8_shl1 B8_pow U_pow B8_and B8_or B8_andNot B8_and1 B8_bit B8_bit0 Later.cell

/-- The world with the box whose third cell holds all ones: a set that changes none that it is met with. -/
theorem boxed_ones (w : World) (a b : Value) (w0 : World) (h : w.alloc (.cells #[a, b, .int .u64 18446744073709551615] 24) = w0) :
    ∃ A : BitVec 64, (∀ p, p &&& A = p) ∧ (w0.cell? ⟨w.heap.size, 0, none⟩ = some a ∧ w0.cell? ⟨w.heap.size, 1, none⟩ = some b ∧ w0.cell? ⟨w.heap.size, 2, none⟩ = some (.int .u64 (U A)) ∧ w.heap.size < w0.heap.size) ∧ Below w.heap.size w w0 := by
  subst h
  refine ⟨BitVec.allOnes 64, fun p => BitVec.and_allOnes, ⟨by simp [go_sem], by simp [go_sem], ?_, by simp⟩, (Below.refl _ _).alloc (Nat.le_refl _) _⟩
  have e : (18446744073709551615 : Int) = U (BitVec.allOnes 64) := by unfold U; rw [BitVec.toNat_allOnes]; rfl
  rw [← e]
  simp [go_sem]
/-- What the outer loop of MatrixShared carries. -/
structure SA (w : World) (s b d x : BitVec 64) (B n : Nat) (wr : World) : Prop where
  box : wr.cell? ⟨w.heap.size, 0, none⟩ = some (.int .u64 (U s)) ∧ wr.cell? ⟨w.heap.size, 1, none⟩ = some (.int .u64 (U b)) ∧ wr.cell? ⟨w.heap.size, 2, none⟩ = some (.int .u64 (U d)) ∧ w.heap.size < wr.heap.size
  row : wr.rowIs B 40 8 (fun j => .int .u8 (B8 (if j < n then colB s b d x j else 0#8)))
  below : Below w.heap.size w wr
  far : w.heap.size < B
theorem SA.call {w : World} {s b d x : BitVec 64} {B n : Nat} {wr w' : World} (h : SA w s b d x B n wr) (hb : Below wr.heap.size wr w') : SA w s b d x B n w' :=
  ⟨keep3' hb h.box, h.row.of_block (hb.block _ h.row.lt), h.below.trans (hb.mono h.below.size), h.far⟩
theorem SA.store {w : World} {s b d x : BitVec 64} {B n : Nat} {wr : World} (h : SA w s b d x B n wr) : SA w s b d x B (n + 1) (wr.setCell ⟨B, n, none⟩ (.int .u8 (B8 (colB s b d x n)))) where
  box := by
    have hne : ∀ o, (wr.setCell ⟨B, n, none⟩ (.int .u8 (B8 (colB s b d x n)))).cell? ⟨w.heap.size, o, none⟩ = wr.cell? ⟨w.heap.size, o, none⟩ := fun o =>
      World.cell?_setCell_other _ _ _ _ (fun e => by have h1 := congrArg Addr.block e; have h2 := h.far; simp at h1; omega)
    exact ⟨by rw [hne]; exact h.box.1, by rw [hne]; exact h.box.2.1, by rw [hne]; exact h.box.2.2.1, by simpa [World.setCell] using h.box.2.2.2⟩
  row := (h.row.set n (.int .u8 (B8 (colB s b d x n)))).congr fun j _ => by
    show (if j = n then Value.int .u8 (B8 (colB s b d x n)) else .int .u8 (B8 (if j < n then colB s b d x j else 0#8))) = .int .u8 (B8 (if j < n + 1 then colB s b d x j else 0#8))
    by_cases e : j = n
    · rw [if_pos e, if_pos (by omega), e]
    · rw [if_neg e]
      by_cases e' : j < n
      · rw [if_pos e', if_pos (by omega)]
      · rw [if_neg e', if_neg (by omega)]
  below := h.below.setCell (Nat.le_of_lt h.far) _
  far := h.far
theorem SA.drew {w : World} {s b d x : BitVec 64} {B n : Nat} {wr : World} (h : SA w s b d x B n wr) : SA w s b d x B n wr.drew := ⟨h.box, h.row, h.below.drew, h.far⟩
set_option maxHeartbeats 3200000 in
theorem matrixShared_walk (s b d x : BitVec 64) (w : World) :
    Calls Try.prog 9 #[.agg #[.int .u64 (U s), .int .u64 (U b), .int .u64 (U d)], .int .u64 (U x)] w fun e w' => e = .returned (.bool true) ∧ Below w.heap.size w w' := by
  go_enter Try.func9, Try.ntmps9
  go_upto_region 2 with fail
  change Code.wp _ _ _ _ (w.alloc (.cells #[.int .u64 (U s), .int .u64 (U b), .int .u64 18446744073709551615] 24))
  generalize hw0 : w.alloc (.cells #[.int .u64 (U s), .int .u64 (U b), .int .u64 18446744073709551615] 24) = w0
  obtain ⟨A, hA, ⟨k0, k1, k2, k3⟩, kb⟩ := boxed_ones w _ _ w0 hw0
  have Hkb := Lib.hid kb
  clear hw0 kb
  have HSA := Lib.hid (show SA w s b A x w0.heap.size 0 (w0.alloc (.cells #[.int .u8 0, .int .u8 0, .int .u8 0, .int .u8 0, .int .u8 0, .int .u8 0, .int .u8 0, .int .u8 0] 40)) from by
    have hb1 : Below w0.heap.size w0 (w0.alloc (.cells #[.int .u8 0, .int .u8 0, .int .u8 0, .int .u8 0, .int .u8 0, .int .u8 0, .int .u8 0, .int .u8 0] 40)) := (Below.refl _ _).alloc (Nat.le_refl _) _
    refine ⟨keep3' hb1 ⟨k0, k1, k2, k3⟩, (World.rowIs_alloc w0 #[.int .u8 0, .int .u8 0, .int .u8 0, .int .u8 0, .int .u8 0, .int .u8 0, .int .u8 0, .int .u8 0] 40 (fun _ => .int .u8 0) (fun i hi => ?_)), Hkb.out.trans (hb1.mono Hkb.out.size), k3⟩
    replace hi : i < 8 := hi
    match i, hi with
    | 0, _ => rfl | 1, _ => rfl | 2, _ => rfl | 3, _ => rfl | 4, _ => rfl | 5, _ => rfl | 6, _ => rfl | 7, _ => rfl)
  have Hsh := Lib.hid (fun a c (ha : a < 8) (hc : c < 8) => shared (phys s b x) a c ha hc)
  have hcol : ∀ c, colB s b A x c = reachB (phys s b x) (phys s b x) c := fun c => by unfold colB; rw [hA]
  have Hcol := Lib.hid hcol
  clear hcol hA k0 k1 k2 k3 Hkb
  generalize hB : w0.heap.size = B at *
  have HB := Lib.hid hB
  clear hB
  go_wp2
  rw [HB.out]
  go_loopg [6] 8 (fun g i wr => ∃ c : Nat, c ≤ 8 ∧ g = 8 - c ∧ i = .int .i64 c ∧ SA w s b A x B c wr)
  case atStart => exact ⟨0, by omega, rfl, rfl, HSA.out⟩
  case round =>
    clear HSA
    obtain ⟨c, hc, hg, rfl, hS⟩ := hrel
    have HS := Lib.hid hS
    have Hg := Lib.hid hg
    obtain ⟨k0, k1, k2, k3⟩ := hS.box
    clear hS hg
    by_cases hc8 : c < 8
    · have hcd : decide ((c : Int) < 8) = true := by simp; omega
      go_wp2_with fail
      refine (column_in s b A x c hc8 _).mono ?_
      rintro e w2 ⟨rfl, hb2⟩
      have HS2 := Lib.hid (HS.out.call hb2)
      have f1 := HS2.out.row.frozen c
      have f2 := HS2.out.row.cell hc8
      clear hb2 k0 k1 k2 k3 HS
      go_wp2
      have HS3 := Lib.hid HS2.out.store
      clear f1 f2 HS2
      generalize hw3 : w2.setCell ⟨B, c, none⟩ (.int .u8 (B8 (colB s b A x c))) = w3 at *
      clear hw3
      go_loopg [9] c (fun g i wr => ∃ n : Nat, n ≤ c ∧ g = c - n ∧ i = .int .i64 n ∧ w3 = wr)
      case atStart => exact ⟨0, by omega, rfl, rfl, rfl⟩
      case round =>
        obtain ⟨n, hn, hg, rfl, rfl⟩ := hrel
        have Hgn := Lib.hid hg
        clear hg
        by_cases hnc : n < c
        · have hnd : decide ((n : Int) < (c : Int)) = true := by simp; omega
          have f1 := HS3.out.row.cell (i := n) (by omega)
          simp only [if_pos (show n < c + 1 by omega)] at f1
          have hsh := Hsh.out n c (by omega) hc8
          rw [← Hcol.out, ← Hcol.out] at hsh
          have HSH := Lib.hid hsh
          clear hsh
          generalize colB s b A x c = Y at *
          generalize colB s b A x n = X at *
          have b1 : (0 : Int) ≤ (n : Int) := by omega
          have b2 : (n : Int) < 8 := by omega
          by_cases h1 : X &&& Y = 0#8
          · have q1 : (B8 (X &&& Y) != 0) = false := by rw [h1]; rfl
            clear h1
            go_wp2
            go_roundg (c - (n + 1))
            case measure => have := Hgn.out; omega
            case rel => exact ⟨n + 1, by omega, rfl, by go_num, rfl⟩
          · have q1 : (B8 (X &&& Y) != 0) = true := by rw [bne_iff_ne]; exact fun h => h1 ((B8_zero _).1 h)
            have q2 : (B8 X != B8 Y) = false := by rw [HSH.out h1]; simp
            clear h1
            go_wp2
            go_roundg (c - (n + 1))
            case measure => have := Hgn.out; omega
            case rel => exact ⟨n + 1, by omega, rfl, by go_num, rfl⟩
        · go_wp2
          go_roundg (8 - (c + 1))
          case measure => have := Hg.out; omega
          case rel => exact ⟨c + 1, by omega, rfl, by go_num, HS3.out⟩
    · go_wp2_with fail
      refine (sane_any _).mono ?_
      rintro e w3 ⟨rfl, hb3⟩
      have Hb3 := Lib.hid hb3
      clear hb3
      go_wp2
      go_ret
      exact ⟨rfl, HS.out.below.trans (Hb3.out.mono HS.out.below.size)⟩
end Go.Proofs.Ytpboblanjngeeaa
