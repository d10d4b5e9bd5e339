/-
  The walk of the law FuseReplaces: for all arguments it hands back true, and nothing that was there turns.
-/
import Derived.Test.YtfgkljfoalgkaaaFRep
import Derived.Test.YtfgkljfoalgkaaaFRepR
import Derived.Test.YtfgkljfoalgkaaaFSmall
import Derived.Test.YtfgkljfoalgkaaaFSane
namespace Go.Proofs.Ytfgkljfoalgkaaa
open Go.RowKit

/-- What a replacement hands back: an error and k states. -/
def Rep (n : Nat) (F : Nat → Fuse) (m : Nat) (S : Nat → FS) (q E : Int) (k : Nat) (T : Nat → FS) : Prop :=
  (¬ StateF n F m S ∧ E = 1 ∧ k = 0) ∨ (StateF n F m S ∧ (q < 0 ∨ (n : Int) ≤ q) ∧ E = 43 ∧ k = 0) ∨ (StateF n F m S ∧ ∃ j : Nat, q = j ∧ j < n ∧ E = 0 ∧ k = n ∧ T = updT S j coldFS)
theorem Rep.ex (n : Nat) (F : Nat → Fuse) (m : Nat) (S : Nat → FS) (q : Int) : ∃ E k T, Rep n F m S q E k T ∧ k ≤ 8 := by
  by_cases hS : StateF n F m S
  · by_cases hq : q < 0 ∨ (n : Int) ≤ q
    · exact ⟨43, 0, S, .inr (.inl ⟨hS, hq, rfl, rfl⟩), by omega⟩
    · have := (validFE_zero hS.1).1
      exact ⟨0, n, updT S q.toNat coldFS, .inr (.inr ⟨hS, q.toNat, by omega, by omega, rfl, rfl, rfl⟩), this⟩
  · exact ⟨1, 0, S, .inl ⟨hS, rfl, rfl⟩, by omega⟩
theorem frep_all {n m k : Nat} {F : Nat → Fuse} {S T : Nat → FS} {q E : Int} (hr : Rep n F m S q E k T) {v1 v3 : Value} (w : World) (h1 : HoldsF w v1 n F) (h3 : HoldsT w v3 m S) :
    Calls Try.prog 58 #[v1, v3, .int .i64 q] w fun e w' => ∃ v', e = .returned (.tuple #[v', .int .i64 E]) ∧ HoldsT w' v' k T ∧ Below w.heap.size w w' := by
  rcases hr with ⟨hS, rfl, rfl⟩ | ⟨hS, hq, rfl, rfl⟩ | ⟨hS, j, rfl, hj, rfl, rfl, rfl⟩
  · exact (frep_arg v1 v3 n m q F S w hS h1 h3).mono fun _ _ ⟨he, hb⟩ => ⟨_, he, Holds.nil _ _ _ _, hb⟩
  · have hmn := hS.2.1
    subst hmn
    exact (frep_fuse v1 v3 m q F S w hS hq h1 h3).mono fun _ _ ⟨he, hb⟩ => ⟨_, he, Holds.nil _ _ _ _, hb⟩
  · have hmn := hS.2.1
    subst hmn
    exact frep_ok v1 v3 m j F S w hS hj h1 h3
theorem rfrep_all {n m k : Nat} {F : Nat → Fuse} {S T : Nat → FS} {q E : Int} (hr : Rep n F m S q E k T) {v1 v3 : Value} (w : World) (h1 : HoldsF w v1 n F) (h3 : HoldsT w v3 m S) :
    Calls Try.prog 59 #[v1, v3, .int .i64 q] w fun e w' => ∃ v', e = .returned (.tuple #[v', .int .i64 E]) ∧ HoldsT w' v' k T ∧ Below w.heap.size w w' := by
  rcases hr with ⟨hS, rfl, rfl⟩ | ⟨hS, hq, rfl, rfl⟩ | ⟨hS, j, rfl, hj, rfl, rfl, rfl⟩
  · exact (rfrep_arg v1 v3 n m q F S w hS h1 h3).mono fun _ _ ⟨he, hb⟩ => ⟨_, he, Holds.nil _ _ _ _, hb⟩
  · have hmn := hS.2.1
    subst hmn
    exact (rfrep_fuse v1 v3 m q F S w hS hq h1 h3).mono fun _ _ ⟨he, hb⟩ => ⟨_, he, Holds.nil _ _ _ _, hb⟩
  · have hmn := hS.2.1
    subst hmn
    exact rfrep_ok v1 v3 m j F S w hS hj h1 h3
set_option maxRecDepth 100000 in
set_option maxHeartbeats 3200000 in
theorem fuseReplaces_walk (v1 v2 v3 : Value) (n c m : Nat) (F : Nat → Fuse) (C : Nat → Coil) (S : Nat → FS) (x : Int) (w : World) (h1 : HoldsF w v1 n F) (h2 : HoldsC w v2 c C) (h3 : HoldsT w v3 m S) :
    Calls Try.prog 22 #[panel v1 v2 v3, .int .i64 x] w fun e w' => e = .returned (.bool true) ∧ Below w.heap.size w w' := by
  obtain ⟨a1, k1, rfl, _⟩ := id h1
  obtain ⟨a2, k2, rfl, _⟩ := h2
  obtain ⟨a3, k3, rfl, _⟩ := id h3
  have H1 := Lib.hid h1
  have H3 := Lib.hid h3
  clear h1 h3
  go_enter Try.func22, Try.ntmps22
  go_wp2_with fail
  refine (small_any a1 a2 a3 n c m k1 k2 k3 _).mono ?_
  rintro e w1 ⟨rfl, hb1⟩
  obtain ⟨y0, y1, y2, hlt, hB1⟩ := keep3 hb1
  cases hs : smallB n c m with
  | false =>
    have HB1 := Lib.hid hB1
    clear hb1 hB1
    go_wp2_with fail
    refine (fsane _).mono ?_
    rintro e w2 ⟨rfl, hb2⟩
    have HB := Lib.hid (HB1.out.trans (hb2.mono HB1.out.size))
    clear hb2
    go_wp2
    go_ret
    exact ⟨rfl, HB.out⟩
  | true =>
    have HB1 := Lib.hid hB1
    have HK := Lib.hid (And.intro y0 (And.intro y1 (And.intro y2 hlt)))
    clear hb1 hB1 hs y0 y1 y2 hlt
    go_wp2
    go_loopg [5] 10 (fun gg i wr => ∃ q : Int, -1 ≤ q ∧ q ≤ 9 ∧ gg = (9 - q).toNat ∧ i = .int .i64 q ∧ (wr.cell? ⟨w.heap.size, 0, none⟩ = some (.slice a1 n k1) ∧ wr.cell? ⟨w.heap.size, 1, none⟩ = some (.slice a2 c k2) ∧ wr.cell? ⟨w.heap.size, 2, none⟩ = some (.slice a3 m k3) ∧ w.heap.size < wr.heap.size) ∧ Below w.heap.size w wr)
    case atStart => exact ⟨-1, by omega, by omega, by decide, rfl, HK.out, HB1.out⟩
    case round =>
      clear HK HB1
      obtain ⟨q, q0, q1, hgg, rfl, ⟨y0, y1, y2, hlt⟩, hb⟩ := hrel
      have Hg := Lib.hid hgg
      have Hb := Lib.hid hb
      clear hgg hb
      by_cases hq : q < 9
      · have b3 : decide (q < 9) = true := by simp; omega
        obtain ⟨E, k, T, hr, hk8⟩ := Rep.ex n F m S q
        have HR := Lib.hid hr
        clear hr
        go_wp2_with fail
        refine (frep_all HR.out _ (H1.out.below Hb.out (Nat.le_refl _)) (H3.out.below Hb.out (Nat.le_refl _))).mono ?_
        rintro e w2 ⟨va, rfl, hT, hb2⟩
        obtain ⟨x0, x1, x2, hlt2⟩ := keep3' hb2 ⟨y0, y1, y2, hlt⟩
        have HB2 := Lib.hid (Hb.out.trans (hb2.mono Hb.out.size))
        have HT := Lib.hid hT
        clear hb2 y0 y1 y2 hT
        go_wp2_with fail
        refine (rfrep_all HR.out _ (H1.out.below HB2.out (Nat.le_refl _)) (H3.out.below HB2.out (Nat.le_refl _))).mono ?_
        rintro e w3 ⟨vb, rfl, hT3, hb3⟩
        obtain ⟨y0, y1, y2, hlt3⟩ := keep3' hb3 ⟨x0, x1, x2, hlt2⟩
        have HB3 := Lib.hid (HB2.out.trans (hb3.mono HB2.out.size))
        have HT2 := Lib.hid (HT.out.below hb3 (Nat.le_refl _))
        have HT3 := Lib.hid hT3
        clear hb3 x0 x1 x2 hT3 HB2 HT
        go_wp2_with fail
        refine (sameT va vb k _ _ w3 (by omega) HT2.out HT3.out (fun _ _ => rfl)).mono ?_
        rintro e w4 ⟨rfl, hb4⟩
        have HK2 := Lib.hid (keep3' hb4 ⟨y0, y1, y2, hlt3⟩)
        have HB4 := Lib.hid (HB3.out.trans (hb4.mono HB3.out.size))
        clear hb4 y0 y1 y2
        go_wp2
        go_roundg (9 - (q + 1)).toNat
        case measure => have := Hg.out; omega
        case rel => exact ⟨q + 1, by omega, by omega, rfl, by go_num, HK2.out, HB4.out⟩
      · have b3 : decide (q < 9) = false := by simp; omega
        obtain ⟨E, k, T, hr, hk8⟩ := Rep.ex n F m S x
        have HR := Lib.hid hr
        clear hr
        go_wp2_with fail
        refine (frep_all HR.out _ (H1.out.below Hb.out (Nat.le_refl _)) (H3.out.below Hb.out (Nat.le_refl _))).mono ?_
        rintro e w2 ⟨va, rfl, hT, hb2⟩
        obtain ⟨x0, x1, x2, hlt2⟩ := keep3' hb2 ⟨y0, y1, y2, hlt⟩
        have HB2 := Lib.hid (Hb.out.trans (hb2.mono Hb.out.size))
        have HT := Lib.hid hT
        clear hb2 y0 y1 y2 hT
        go_wp2_with fail
        refine (rfrep_all HR.out _ (H1.out.below HB2.out (Nat.le_refl _)) (H3.out.below HB2.out (Nat.le_refl _))).mono ?_
        rintro e w3 ⟨vb, rfl, hT3, hb3⟩
        have HB3 := Lib.hid (HB2.out.trans (hb3.mono HB2.out.size))
        have HT2 := Lib.hid (HT.out.below hb3 (Nat.le_refl _))
        have HT3 := Lib.hid hT3
        clear hb3 x0 x1 x2 hT3 HB2 HT
        go_wp2_with fail
        refine (sameT va vb k _ _ w3 (by omega) HT2.out HT3.out (fun _ _ => rfl)).mono ?_
        rintro e w4 ⟨rfl, hb4⟩
        have HB4 := Lib.hid (HB3.out.trans (hb4.mono HB3.out.size))
        clear hb4
        go_wp2_with fail
        refine (fsane _).mono ?_
        rintro e w6 ⟨rfl, hb6⟩
        have HB6 := Lib.hid (HB4.out.trans (hb6.mono HB4.out.size))
        clear hb6
        go_wp2
        go_ret
        exact ⟨rfl, HB6.out⟩
end Go.Proofs.Ytfgkljfoalgkaaa
