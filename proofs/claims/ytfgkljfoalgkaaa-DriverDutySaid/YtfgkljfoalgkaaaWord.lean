/-
  Words of 32 bits as the walk meets them: a value of the kind uint32 is 'W x' for a bit vector x; the operations on such values, each as one equation that the walk uses. No condition.
-/
import Derived.WalkKit
import Derived.WalkSpells
import Derived.BigQuiet
import Derived.Lib.Hide
namespace Go.Proofs.Ytfgkljfoalgkaaa
open Go.RowKit

def W (x : BitVec 32) : Int := (x.toNat : Int)
theorem W_nonneg (x : BitVec 32) : 0 ≤ W x := by unfold W; omega
theorem W_lt (x : BitVec 32) : W x < 4294967296 := by unfold W; have := x.isLt; omega
theorem toNat_div_pow {k : Nat} (x : BitVec k) (n : Nat) : (x.toNat : Int) / 2 ^ min n k = ((x >>> n).toNat : Int) := by
  have hp : ((2 : Int) ^ min n k) = ((2 ^ min n k : Nat) : Int) := by simp
  rw [hp, BitVec.toNat_ushiftRight, Nat.shiftRight_eq_div_pow]
  by_cases h : n ≤ k
  · rw [Nat.min_eq_left h]; simp
  · have h' : k ≤ n := by omega
    rw [Nat.min_eq_right h']
    have hx := x.isLt
    have h2 : 2 ^ k ≤ 2 ^ n := Nat.pow_le_pow_right (by decide) h'
    rw [Nat.div_eq_of_lt (show x.toNat < 2 ^ n by omega)]
    rw [← Int.natCast_ediv, Nat.div_eq_of_lt hx]
theorem W_shr (x : BitVec 32) (n : Nat) : W x / 2 ^ min n 32 = W (x >>> n) := toNat_div_pow x n
theorem toNat_mul_pow {k : Nat} (x : BitVec k) (n : Nat) : (x.toNat : Int) * 2 ^ min n k % 2 ^ k = ((x <<< n).toNat : Int) := by
  have hp : ∀ m : Nat, ((2 : Int) ^ m) = ((2 ^ m : Nat) : Int) := fun m => by simp
  rw [hp, hp, BitVec.toNat_shiftLeft, Nat.shiftLeft_eq, ← Int.natCast_mul, ← Int.natCast_emod]
  congr 1
  by_cases h : n ≤ k
  · rw [Nat.min_eq_left h]
  · have h' : k ≤ n := by omega
    rw [Nat.min_eq_right h', Nat.mul_mod_left]
    obtain ⟨d, rfl⟩ : ∃ d, n = k + d := ⟨n - k, by omega⟩
    rw [Nat.pow_add, ← Nat.mul_assoc, Nat.mul_right_comm, Nat.mul_mod_left]
theorem wrap_u32' (n : Int) : IntKind.u32.wrap n = n % 2 ^ 32 := by rw [IntKind.wrap_u32]; rfl
theorem wrap_u8'' (n : Int) : IntKind.u8.wrap n = n % 2 ^ 8 := by rw [IntKind.wrap_u8]; rfl
theorem W_shl (x : BitVec 32) (n : Nat) : IntKind.u32.wrap (W x * 2 ^ min n 32) = W (x <<< n) := by
  rw [wrap_u32']; exact toNat_mul_pow x n
theorem W_shl1 (n : Nat) : IntKind.u32.wrap (2 ^ min n 32) = W (1#32 <<< n) := by
  rw [← W_shl]; congr 1; exact (Int.one_mul _).symm
theorem toNat_div_pow' {k : Nat} (x : BitVec k) (n : Nat) : (x.toNat : Int) / 2 ^ n = ((x >>> n).toNat : Int) := by
  have hp : ((2 : Int) ^ n) = ((2 ^ n : Nat) : Int) := by simp
  rw [hp, BitVec.toNat_ushiftRight, Nat.shiftRight_eq_div_pow, Int.natCast_ediv]
theorem W_shr' (x : BitVec 32) (n : Nat) : W x / 2 ^ n = W (x >>> n) := toNat_div_pow' x n
theorem shr_min32 (x : BitVec 32) (n : Nat) : x >>> min n 32 = x >>> n := by
  by_cases h : n ≤ 32
  · rw [Nat.min_eq_left h]
  · rw [Nat.min_eq_right (by omega)]
    apply BitVec.eq_of_getLsbD_eq
    intro i hi
    rw [BitVec.getLsbD_ushiftRight, BitVec.getLsbD_ushiftRight, BitVec.getLsbD_of_ge _ _ (by omega), BitVec.getLsbD_of_ge _ _ (by omega)]
theorem shr_min8 (x : BitVec 8) (n : Nat) : x >>> min n 8 = x >>> n := by
  by_cases h : n ≤ 8
  · rw [Nat.min_eq_left h]
  · rw [Nat.min_eq_right (by omega)]
    apply BitVec.eq_of_getLsbD_eq
    intro i hi
    rw [BitVec.getLsbD_ushiftRight, BitVec.getLsbD_ushiftRight, BitVec.getLsbD_of_ge _ _ (by omega), BitVec.getLsbD_of_ge _ _ (by omega)]
theorem toNat_mul_pow' {k : Nat} (x : BitVec k) (n : Nat) : (x.toNat : Int) * 2 ^ n % 2 ^ k = ((x <<< n).toNat : Int) := by
  have hp : ∀ m : Nat, ((2 : Int) ^ m) = ((2 ^ m : Nat) : Int) := fun m => by simp
  rw [hp, hp, BitVec.toNat_shiftLeft, Nat.shiftLeft_eq, ← Int.natCast_mul, ← Int.natCast_emod]
theorem W_shl' (x : BitVec 32) (n : Nat) : IntKind.u32.wrap (W x * 2 ^ n) = W (x <<< n) := by
  rw [wrap_u32']; exact toNat_mul_pow' x n
theorem shl_min32 (x : BitVec 32) (n : Nat) : x <<< min n 32 = x <<< n := by
  by_cases h : n ≤ 32
  · rw [Nat.min_eq_left h]
  · rw [Nat.min_eq_right (by omega)]
    apply BitVec.eq_of_getLsbD_eq
    intro i hi
    rw [BitVec.getLsbD_shiftLeft, BitVec.getLsbD_shiftLeft]
    simp [show i < 32 from hi, show i < n by omega]
theorem toNat_pow (k n : Nat) (hk : 0 < k) : (2 : Int) ^ n % 2 ^ k = ((1#k <<< n).toNat : Int) := by
  have hp : ∀ m : Nat, ((2 : Int) ^ m) = ((2 ^ m : Nat) : Int) := fun m => by simp
  rw [hp, hp, BitVec.toNat_shiftLeft, Nat.shiftLeft_eq, ← Int.natCast_emod, BitVec.toNat_ofNat, Nat.mod_eq_of_lt (Nat.one_lt_two_pow (by omega)), Nat.one_mul]
theorem W_pow (n : Nat) : (2 : Int) ^ n % 4294967296 = W (1#32 <<< n) := toNat_pow 32 n (by decide)

theorem W_and (x y : BitVec 32) : bits .and .u32 (W x) (W y) = W (x &&& y) := by
  unfold W; rw [u32_and_nat _ _ x.isLt y.isLt, BitVec.toNat_and]
theorem W_or (x y : BitVec 32) : bits .or .u32 (W x) (W y) = W (x ||| y) := by
  unfold W; rw [u32_or_nat _ _ x.isLt y.isLt, BitVec.toNat_or]
theorem W_andNot (x y : BitVec 32) : bits .andNot .u32 (W x) (W y) = W (x &&& ~~~y) := by
  unfold W; rw [u32_andNot_nat _ _ x.isLt y.isLt, BitVec.toNat_and, BitVec.toNat_not]
theorem W_and1 (x : BitVec 32) : bits .and .u32 (W x) 1 = W (x &&& 1#32) := W_and x 1#32
/-- A conversion between the kinds. -/
theorem and1_toNat {k : Nat} (hk : 0 < k) (x : BitVec k) (n : Nat) : (x >>> n &&& 1#k).toNat = (x.getLsbD n).toNat := by
  have h1 : (1#k).toNat = 1 := by
    rw [BitVec.toNat_ofNat]; exact Nat.mod_eq_of_lt (Nat.one_lt_two_pow (by omega))
  rw [BitVec.toNat_and, BitVec.toNat_ushiftRight, h1, Nat.and_one_is_mod, BitVec.getLsbD, Nat.testBit_eq_decide_div_mod_eq, Nat.shiftRight_eq_div_pow]
  have : x.toNat / 2 ^ n % 2 < 2 := Nat.mod_lt _ (by decide)
  by_cases h : x.toNat / 2 ^ n % 2 = 1
  · simp [h]
  · have : x.toNat / 2 ^ n % 2 = 0 := by omega
    simp [this]
/-- Bit n, under a name that 'simp' does not open. -/
def tb {m : Nat} (x : BitVec m) (n : Nat) : Bool := x.getLsbD n
theorem W_bit (x : BitVec 32) (n : Nat) : (W (x >>> n &&& 1#32) == 1) = tb x n := by
  unfold W tb
  rw [and1_toNat (by decide)]
  cases x.getLsbD n <;> rfl
theorem W_bit0 (x : BitVec 32) (n : Nat) : (W (x >>> n &&& 1#32) == 0) = !tb x n := by
  unfold W tb
  rw [and1_toNat (by decide)]
  cases x.getLsbD n <;> rfl
theorem W_shl1n (n : Nat) : IntKind.u32.wrap (2 ^ n) = W (1#32 <<< n) := by
  rw [wrap_u32']; exact toNat_pow 32 n (by decide)
theorem W_inj (x y : BitVec 32) : (W x == W y) = (x == y) := by
  unfold W
  rw [Bool.eq_iff_iff, beq_iff_eq, beq_iff_eq, Int.ofNat_inj, BitVec.toNat_inj]
theorem W_zero (x : BitVec 32) : W x = 0 ↔ x = 0#32 := by
  unfold W
  rw [← BitVec.toNat_inj]
  simp
theorem W_of (x : Int) (h0 : 0 ≤ x) (h1 : x < 4294967296) : ∃ b : BitVec 32, x = W b :=
  ⟨BitVec.ofNat 32 x.toNat, by unfold W; rw [BitVec.toNat_ofNat, Nat.mod_eq_of_lt (by omega)]; omega⟩
/-! A world of the class 'what was there is as it was': for a region that draws its order and whose callees lay memory. -/
structure Later (W : World) where
  w : World
  h : Below W.heap.size W w
instance Later.some_one (W : World) : Nonempty (Later W) := ⟨⟨W, Below.refl _ _⟩⟩
theorem Later.cell {W : World} (z : Later W) (b o : Nat) (s : Option Nat) (h : b < W.heap.size) : z.w.cell? ⟨b, o, s⟩ = W.cell? ⟨b, o, s⟩ :=
  z.h.cell (p := ⟨b, o, s⟩) h
theorem Later.of {W : World} {P : Program} {f : FuncId} {args : Array Value} {v : Value} {z : Later W}
    (h : Calls P f args z.w fun e w' => e = .returned v ∧ Below z.w.heap.size z.w w') : Calls P f args z.w fun e w'' => e = .returned v ∧ ∃ z' : Later W, w'' = z'.w :=
  h.mono fun _ w' ⟨he, hb⟩ => ⟨he, ⟨w', z.h.trans (hb.mono z.h.size)⟩, rfl⟩
theorem wp_region_later {P : Program} {l : List Oper} {id : Nat} {Q : Exit → Act → World → Prop} {a : Act} {w : World} (hm : P.follows .mixedOrders = true) (hB : Region.lexB .any l.toArray = true)
    (h : wpQuiet P l.toArray (fun w' => ∃ z : Later w, w' = z.w) (fun a' => ∀ w', (∃ z : Later w, w' = z.w) → Q .normal a' w') l a) : (Code.region id l.toArray true).wp P Q a w := by
  refine wp_region_quiet (C := fun w' => ∃ z : Later w, w' = z.w) hm hB ⟨⟨_, (Below.refl _ w).drew⟩, rfl⟩ ?_
  simpa using h
theorem below_drewN {B : Nat} {a w : World} (h : Below B a w) (n : Nat) : Below B a (w.drewN n) := ⟨h.os, h.tape, h.output, h.size, h.block⟩
/-- What a boxed struct of three cells reads behind a call. -/
theorem keep3 {w w1 : World} {a b c : Value} {t : TypeId} (hb : Below (w.alloc (.cells #[a, b, c] t)).heap.size (w.alloc (.cells #[a, b, c] t)) w1) :
    w1.cell? ⟨w.heap.size, 0, none⟩ = some a ∧ w1.cell? ⟨w.heap.size, 1, none⟩ = some b ∧ w1.cell? ⟨w.heap.size, 2, none⟩ = some c ∧ w.heap.size < w1.heap.size ∧ Below w.heap.size w w1 := by
  have h : w.heap.size < (w.alloc (.cells #[a, b, c] t)).heap.size := by simp
  refine ⟨?_, ?_, ?_, Nat.lt_of_lt_of_le h hb.size, ((Below.refl _ _).alloc (Nat.le_refl _) _).trans (hb.mono (Nat.le_of_lt h))⟩
  · rw [hb.cell (p := ⟨w.heap.size, 0, none⟩) h]; simp [go_sem]
  · rw [hb.cell (p := ⟨w.heap.size, 1, none⟩) h]; simp [go_sem]
  · rw [hb.cell (p := ⟨w.heap.size, 2, none⟩) h]; simp [go_sem]
/-- .. and behind one more. -/
theorem keep3' {w w1 : World} {a b c : Value} {g : Nat} (hb : Below w.heap.size w w1) (h : w.cell? ⟨g, 0, none⟩ = some a ∧ w.cell? ⟨g, 1, none⟩ = some b ∧ w.cell? ⟨g, 2, none⟩ = some c ∧ g < w.heap.size) :
    w1.cell? ⟨g, 0, none⟩ = some a ∧ w1.cell? ⟨g, 1, none⟩ = some b ∧ w1.cell? ⟨g, 2, none⟩ = some c ∧ g < w1.heap.size := by
  obtain ⟨h0, h1, h2, h3⟩ := h
  exact ⟨by rw [hb.cell (p := ⟨g, 0, none⟩) h3]; exact h0, by rw [hb.cell (p := ⟨g, 1, none⟩) h3]; exact h1, by rw [hb.cell (p := ⟨g, 2, none⟩) h3]; exact h2, Nat.lt_of_lt_of_le h3 hb.size⟩
theorem bcell {W w1 : World} (hb : Below W.heap.size W w1) : (∀ b o, b < W.heap.size → w1.cell? ⟨b, o, none⟩ = W.cell? ⟨b, o, none⟩) ∧ (∀ b o, b < W.heap.size → w1.frozen? ⟨b, o, none⟩ = W.frozen? ⟨b, o, none⟩) :=
  ⟨fun b o h => hb.cell (p := ⟨b, o, none⟩) h, fun b o h => hb.frozen (p := ⟨b, o, none⟩) h⟩
end Go.Proofs.Ytfgkljfoalgkaaa
