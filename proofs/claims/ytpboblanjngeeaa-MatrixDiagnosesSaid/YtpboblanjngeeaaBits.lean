/-
  Words of 64 and 8 bits as the walk meets them: a value of the kind uint64 is 'U x' for a bit vector x; the operations on such values, each as one equation that the walk uses. No condition.
-/
import Derived.WalkKit
import Derived.WalkSpells
import Derived.BigQuiet
import Derived.Lib.Hide
namespace Go.Proofs.Ytpboblanjngeeaa
open Go.RowKit

def U (x : BitVec 64) : Int := (x.toNat : Int)
def B8 (x : BitVec 8) : Int := (x.toNat : Int)

theorem U_nonneg (x : BitVec 64) : 0 ≤ U x := by unfold U; omega
theorem U_lt (x : BitVec 64) : U x < 18446744073709551616 := by unfold U; have := x.isLt; omega
theorem B8_nonneg (x : BitVec 8) : 0 ≤ B8 x := by unfold B8; omega
theorem B8_lt (x : BitVec 8) : B8 x < 256 := by unfold B8; have := x.isLt; omega

theorem toNat_div_pow {k : Nat} (x : BitVec k) (n : Nat) : (x.toNat : Int) / 2 ^ min n k = ((x >>> n).toNat : Int) := by
  have hp : ((2 : Int) ^ min n k) = ((2 ^ min n k : Nat) : Int) := by simp
  rw [hp, BitVec.toNat_ushiftRight, Nat.shiftRight_eq_div_pow]
  by_cases h : n ≤ k
  · rw [Nat.min_eq_left h]; simp
  · have h' : k ≤ n := by omega
    rw [Nat.min_eq_right h']
    have hx := x.isLt
    have h2 : 2 ^ k ≤ 2 ^ n := Nat.pow_le_pow_right (by decide) h'
    rw [Nat.div_eq_of_lt (show x.toNat < 2 ^ n by omega)]
    rw [← Int.natCast_ediv, Nat.div_eq_of_lt hx]
theorem U_shr (x : BitVec 64) (n : Nat) : U x / 2 ^ min n 64 = U (x >>> n) := toNat_div_pow x n
theorem B8_shr (x : BitVec 8) (n : Nat) : B8 x / 2 ^ min n 8 = B8 (x >>> n) := toNat_div_pow x n

theorem toNat_mul_pow {k : Nat} (x : BitVec k) (n : Nat) : (x.toNat : Int) * 2 ^ min n k % 2 ^ k = ((x <<< n).toNat : Int) := by
  have hp : ∀ m : Nat, ((2 : Int) ^ m) = ((2 ^ m : Nat) : Int) := fun m => by simp
  rw [hp, hp, BitVec.toNat_shiftLeft, Nat.shiftLeft_eq, ← Int.natCast_mul, ← Int.natCast_emod]
  congr 1
  by_cases h : n ≤ k
  · rw [Nat.min_eq_left h]
  · have h' : k ≤ n := by omega
    rw [Nat.min_eq_right h', Nat.mul_mod_left]
    obtain ⟨d, rfl⟩ : ∃ d, n = k + d := ⟨n - k, by omega⟩
    rw [Nat.pow_add, ← Nat.mul_assoc, Nat.mul_right_comm, Nat.mul_mod_left]
theorem wrap_u64' (n : Int) : IntKind.u64.wrap n = n % 2 ^ 64 := by rw [IntKind.wrap_u64]; rfl
theorem wrap_u8'' (n : Int) : IntKind.u8.wrap n = n % 2 ^ 8 := by rw [IntKind.wrap_u8]; rfl
theorem U_shl (x : BitVec 64) (n : Nat) : IntKind.u64.wrap (U x * 2 ^ min n 64) = U (x <<< n) := by
  rw [wrap_u64']; exact toNat_mul_pow x n
theorem B8_shl (x : BitVec 8) (n : Nat) : IntKind.u8.wrap (B8 x * 2 ^ min n 8) = B8 (x <<< n) := by
  rw [wrap_u8'']; exact toNat_mul_pow x n
theorem U_shl1 (n : Nat) : IntKind.u64.wrap (2 ^ min n 64) = U (1#64 <<< n) := by
  rw [← U_shl]; congr 1; exact (Int.one_mul _).symm
theorem B8_shl1 (n : Nat) : IntKind.u8.wrap (2 ^ min n 8) = B8 (1#8 <<< n) := by
  rw [← B8_shl]; congr 1; exact (Int.one_mul _).symm

theorem toNat_div_pow' {k : Nat} (x : BitVec k) (n : Nat) : (x.toNat : Int) / 2 ^ n = ((x >>> n).toNat : Int) := by
  have hp : ((2 : Int) ^ n) = ((2 ^ n : Nat) : Int) := by simp
  rw [hp, BitVec.toNat_ushiftRight, Nat.shiftRight_eq_div_pow, Int.natCast_ediv]
theorem U_shr' (x : BitVec 64) (n : Nat) : U x / 2 ^ n = U (x >>> n) := toNat_div_pow' x n
theorem B8_shr' (x : BitVec 8) (n : Nat) : B8 x / 2 ^ n = B8 (x >>> n) := toNat_div_pow' x n
theorem shr_min64 (x : BitVec 64) (n : Nat) : x >>> min n 64 = x >>> n := by
  by_cases h : n ≤ 64
  · rw [Nat.min_eq_left h]
  · rw [Nat.min_eq_right (by omega)]
    apply BitVec.eq_of_getLsbD_eq
    intro i hi
    rw [BitVec.getLsbD_ushiftRight, BitVec.getLsbD_ushiftRight, BitVec.getLsbD_of_ge _ _ (by omega), BitVec.getLsbD_of_ge _ _ (by omega)]
theorem shr_min8 (x : BitVec 8) (n : Nat) : x >>> min n 8 = x >>> n := by
  by_cases h : n ≤ 8
  · rw [Nat.min_eq_left h]
  · rw [Nat.min_eq_right (by omega)]
    apply BitVec.eq_of_getLsbD_eq
    intro i hi
    rw [BitVec.getLsbD_ushiftRight, BitVec.getLsbD_ushiftRight, BitVec.getLsbD_of_ge _ _ (by omega), BitVec.getLsbD_of_ge _ _ (by omega)]
theorem toNat_mul_pow' {k : Nat} (x : BitVec k) (n : Nat) : (x.toNat : Int) * 2 ^ n % 2 ^ k = ((x <<< n).toNat : Int) := by
  have hp : ∀ m : Nat, ((2 : Int) ^ m) = ((2 ^ m : Nat) : Int) := fun m => by simp
  rw [hp, hp, BitVec.toNat_shiftLeft, Nat.shiftLeft_eq, ← Int.natCast_mul, ← Int.natCast_emod]
theorem U_shl' (x : BitVec 64) (n : Nat) : IntKind.u64.wrap (U x * 2 ^ n) = U (x <<< n) := by
  rw [wrap_u64']; exact toNat_mul_pow' x n
theorem B8_shl' (x : BitVec 8) (n : Nat) : IntKind.u8.wrap (B8 x * 2 ^ n) = B8 (x <<< n) := by
  rw [wrap_u8'']; exact toNat_mul_pow' x n
theorem shl_min64 (x : BitVec 64) (n : Nat) : x <<< min n 64 = x <<< n := by
  by_cases h : n ≤ 64
  · rw [Nat.min_eq_left h]
  · rw [Nat.min_eq_right (by omega)]
    apply BitVec.eq_of_getLsbD_eq
    intro i hi
    rw [BitVec.getLsbD_shiftLeft, BitVec.getLsbD_shiftLeft]
    simp [show i < 64 from hi, show i < n by omega]
theorem toNat_pow (k n : Nat) (hk : 0 < k) : (2 : Int) ^ n % 2 ^ k = ((1#k <<< n).toNat : Int) := by
  have hp : ∀ m : Nat, ((2 : Int) ^ m) = ((2 ^ m : Nat) : Int) := fun m => by simp
  rw [hp, hp, BitVec.toNat_shiftLeft, Nat.shiftLeft_eq, ← Int.natCast_emod, BitVec.toNat_ofNat, Nat.mod_eq_of_lt (Nat.one_lt_two_pow (by omega)), Nat.one_mul]
theorem B8_pow (n : Nat) : (2 : Int) ^ n % 256 = B8 (1#8 <<< n) := toNat_pow 8 n (by decide)
theorem U_pow (n : Nat) : (2 : Int) ^ n % 18446744073709551616 = U (1#64 <<< n) := toNat_pow 64 n (by decide)

theorem U_and (x y : BitVec 64) : bits .and .u64 (U x) (U y) = U (x &&& y) := by
  unfold U; rw [u64_and_nat _ _ x.isLt y.isLt, BitVec.toNat_and]
theorem U_or (x y : BitVec 64) : bits .or .u64 (U x) (U y) = U (x ||| y) := by
  unfold U; rw [u64_or_nat _ _ x.isLt y.isLt, BitVec.toNat_or]
theorem U_andNot (x y : BitVec 64) : bits .andNot .u64 (U x) (U y) = U (x &&& ~~~y) := by
  unfold U; rw [u64_andNot_nat _ _ x.isLt y.isLt, BitVec.toNat_and, BitVec.toNat_not]
theorem U_and1 (x : BitVec 64) : bits .and .u64 (U x) 1 = U (x &&& 1#64) := U_and x 1#64
theorem B8_and (x y : BitVec 8) : bits .and .u8 (B8 x) (B8 y) = B8 (x &&& y) := by
  unfold B8; rw [u8_and_nat _ _ x.isLt y.isLt, BitVec.toNat_and]
theorem B8_or (x y : BitVec 8) : bits .or .u8 (B8 x) (B8 y) = B8 (x ||| y) := by
  unfold B8; rw [u8_or_nat _ _ x.isLt y.isLt, BitVec.toNat_or]
theorem B8_andNot (x y : BitVec 8) : bits .andNot .u8 (B8 x) (B8 y) = B8 (x &&& ~~~y) := by
  unfold B8; rw [u8_andNot_nat _ _ x.isLt y.isLt, BitVec.toNat_and, BitVec.toNat_not]
theorem B8_and1 (x : BitVec 8) : bits .and .u8 (B8 x) 1 = B8 (x &&& 1#8) := B8_and x 1#8

/-- A conversion between the kinds. -/
theorem U_to8 (x : BitVec 64) : IntKind.u8.wrap (U x) = B8 (x.setWidth 8) := by
  rw [wrap_u8'']; unfold U B8; rw [BitVec.toNat_setWidth]
  simp
theorem B8_to64 (x : BitVec 8) : IntKind.u64.wrap (B8 x) = U (x.setWidth 64) := by
  rw [wrap_u64']; unfold U B8; rw [BitVec.toNat_setWidth]
  simp

theorem and1_toNat {k : Nat} (hk : 0 < k) (x : BitVec k) (n : Nat) : (x >>> n &&& 1#k).toNat = (x.getLsbD n).toNat := by
  have h1 : (1#k).toNat = 1 := by
    rw [BitVec.toNat_ofNat]; exact Nat.mod_eq_of_lt (Nat.one_lt_two_pow (by omega))
  rw [BitVec.toNat_and, BitVec.toNat_ushiftRight, h1, Nat.and_one_is_mod, BitVec.getLsbD, Nat.testBit_eq_decide_div_mod_eq, Nat.shiftRight_eq_div_pow]
  have : x.toNat / 2 ^ n % 2 < 2 := Nat.mod_lt _ (by decide)
  by_cases h : x.toNat / 2 ^ n % 2 = 1
  · simp [h]
  · have : x.toNat / 2 ^ n % 2 = 0 := by omega
    simp [this]
/-- Bit n, under a name that 'simp' does not open. -/
def tb {m : Nat} (x : BitVec m) (n : Nat) : Bool := x.getLsbD n
theorem U_bit (x : BitVec 64) (n : Nat) : (U (x >>> n &&& 1#64) == 1) = tb x n := by
  unfold U tb
  rw [and1_toNat (by decide)]
  cases x.getLsbD n <;> rfl
theorem U_bit0 (x : BitVec 64) (n : Nat) : (U (x >>> n &&& 1#64) == 0) = !tb x n := by
  unfold U tb
  rw [and1_toNat (by decide)]
  cases x.getLsbD n <;> rfl
theorem B8_bit (x : BitVec 8) (n : Nat) : (B8 (x >>> n &&& 1#8) == 1) = tb x n := by
  unfold B8 tb
  rw [and1_toNat (by decide)]
  cases x.getLsbD n <;> rfl
theorem B8_bit0 (x : BitVec 8) (n : Nat) : (B8 (x >>> n &&& 1#8) == 0) = !tb x n := by
  unfold B8 tb
  rw [and1_toNat (by decide)]
  cases x.getLsbD n <;> rfl
theorem U_inj (x y : BitVec 64) : (U x == U y) = (x == y) := by
  unfold U
  rw [Bool.eq_iff_iff, beq_iff_eq, beq_iff_eq, Int.ofNat_inj, BitVec.toNat_inj]
theorem B8_inj (x y : BitVec 8) : (B8 x == B8 y) = (x == y) := by
  unfold B8
  rw [Bool.eq_iff_iff, beq_iff_eq, beq_iff_eq, Int.ofNat_inj, BitVec.toNat_inj]
theorem B8_zero (x : BitVec 8) : B8 x = 0 ↔ x = 0#8 := by
  unfold B8
  rw [← BitVec.toNat_inj]
  simp
theorem U_zero (x : BitVec 64) : U x = 0 ↔ x = 0#64 := by
  unfold U
  rw [← BitVec.toNat_inj]
  simp
theorem U_of (x : Int) (h0 : 0 ≤ x) (h1 : x < 18446744073709551616) : ∃ b : BitVec 64, x = U b :=
  ⟨BitVec.ofNat 64 x.toNat, by unfold U; rw [BitVec.toNat_ofNat, Nat.mod_eq_of_lt (by omega)]; omega⟩
theorem B8_of (x : Int) (h0 : 0 ≤ x) (h1 : x < 256) : ∃ b : BitVec 8, x = B8 b :=
  ⟨BitVec.ofNat 8 x.toNat, by unfold B8; rw [BitVec.toNat_ofNat, Nat.mod_eq_of_lt (by omega)]; omega⟩

/-! A world of the class 'what was there is as it was': for a region that draws its order and whose callees lay memory. -/
structure Later (W : World) where
  w : World
  h : Below W.heap.size W w
instance Later.some_one (W : World) : Nonempty (Later W) := ⟨⟨W, Below.refl _ _⟩⟩
theorem Later.cell {W : World} (z : Later W) (b o : Nat) (s : Option Nat) (h : b < W.heap.size) : z.w.cell? ⟨b, o, s⟩ = W.cell? ⟨b, o, s⟩ :=
  z.h.cell (p := ⟨b, o, s⟩) h
theorem Later.of {W : World} {P : Program} {f : FuncId} {args : Array Value} {v : Value} {z : Later W}
    (h : Calls P f args z.w fun e w' => e = .returned v ∧ Below z.w.heap.size z.w w') : Calls P f args z.w fun e w'' => e = .returned v ∧ ∃ z' : Later W, w'' = z'.w :=
  h.mono fun _ w' ⟨he, hb⟩ => ⟨he, ⟨w', z.h.trans (hb.mono z.h.size)⟩, rfl⟩
theorem wp_region_later {P : Program} {l : List Oper} {id : Nat} {Q : Exit → Act → World → Prop} {a : Act} {w : World} (hm : P.follows .mixedOrders = true) (hB : Region.lexB .any l.toArray = true)
    (h : wpQuiet P l.toArray (fun w' => ∃ z : Later w, w' = z.w) (fun a' => ∀ w', (∃ z : Later w, w' = z.w) → Q .normal a' w') l a) : (Code.region id l.toArray true).wp P Q a w := by
  refine wp_region_quiet (C := fun w' => ∃ z : Later w, w' = z.w) hm hB ⟨⟨_, (Below.refl _ w).drew⟩, rfl⟩ ?_
  simpa using h
theorem below_drewN {B : Nat} {a w : World} (h : Below B a w) (n : Nat) : Below B a (w.drewN n) := ⟨h.os, h.tape, h.output, h.size, h.block⟩
/-- What a boxed struct of three cells reads behind a call. -/
theorem keep3 {w w1 : World} {a b c : Value} {t : TypeId} (hb : Below (w.alloc (.cells #[a, b, c] t)).heap.size (w.alloc (.cells #[a, b, c] t)) w1) :
    w1.cell? ⟨w.heap.size, 0, none⟩ = some a ∧ w1.cell? ⟨w.heap.size, 1, none⟩ = some b ∧ w1.cell? ⟨w.heap.size, 2, none⟩ = some c ∧ w.heap.size < w1.heap.size ∧ Below w.heap.size w w1 := by
  have h : w.heap.size < (w.alloc (.cells #[a, b, c] t)).heap.size := by simp
  refine ⟨?_, ?_, ?_, Nat.lt_of_lt_of_le h hb.size, ((Below.refl _ _).alloc (Nat.le_refl _) _).trans (hb.mono (Nat.le_of_lt h))⟩
  · rw [hb.cell (p := ⟨w.heap.size, 0, none⟩) h]; simp [go_sem]
  · rw [hb.cell (p := ⟨w.heap.size, 1, none⟩) h]; simp [go_sem]
  · rw [hb.cell (p := ⟨w.heap.size, 2, none⟩) h]; simp [go_sem]
/-- .. and behind one more. -/
theorem keep3' {w w1 : World} {a b c : Value} {g : Nat} (hb : Below w.heap.size w w1) (h : w.cell? ⟨g, 0, none⟩ = some a ∧ w.cell? ⟨g, 1, none⟩ = some b ∧ w.cell? ⟨g, 2, none⟩ = some c ∧ g < w.heap.size) :
    w1.cell? ⟨g, 0, none⟩ = some a ∧ w1.cell? ⟨g, 1, none⟩ = some b ∧ w1.cell? ⟨g, 2, none⟩ = some c ∧ g < w1.heap.size := by
  obtain ⟨h0, h1, h2, h3⟩ := h
  exact ⟨by rw [hb.cell (p := ⟨g, 0, none⟩) h3]; exact h0, by rw [hb.cell (p := ⟨g, 1, none⟩) h3]; exact h1, by rw [hb.cell (p := ⟨g, 2, none⟩) h3]; exact h2, Nat.lt_of_lt_of_le h3 hb.size⟩
theorem bcell {W w1 : World} (hb : Below W.heap.size W w1) : (∀ b o, b < W.heap.size → w1.cell? ⟨b, o, none⟩ = W.cell? ⟨b, o, none⟩) ∧ (∀ b o, b < W.heap.size → w1.frozen? ⟨b, o, none⟩ = W.frozen? ⟨b, o, none⟩) :=
  ⟨fun b o h => hb.cell (p := ⟨b, o, none⟩) h, fun b o h => hb.frozen (p := ⟨b, o, none⟩) h⟩
end Go.Proofs.Ytpboblanjngeeaa
