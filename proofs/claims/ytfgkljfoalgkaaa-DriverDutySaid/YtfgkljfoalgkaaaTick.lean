/-
  driver.Tick: the next drives, and the coils that are energised: for drives of valid coils.
-/
import Derived.Test.YtfgkljfoalgkaaaApplyOk
namespace Go.Proofs.Ytfgkljfoalgkaaa
open Go.RowKit
attribute [local go_sem] shr_min32 shl_min32 W_shr W_shr' W_shl W_shl' W_shl1 W_shl1n W_pow W_and W_or W_andNot W_and1 W_bit W_bit0

/-- The set of the coils that are energised. -/
def setTo (C : Nat → Coil) (D : Nat → Drive) : Nat → BitVec 32
  | 0 => 0#32
  | i + 1 => if onB (C i) (D i) = true then setTo C D i ||| 1#32 <<< i else setTo C D i
theorem tick_arg (v1 v2 : Value) (n m : Nat) (C : Nat → Coil) (D : Nat → Drive) (w : World) (hS : ¬ StateP n C m D) (h1 : HoldsC w v1 n C) (h2 : HoldsD w v2 m D) :
    Calls Try.prog 35 #[v1, v2] w fun e w' => e = .returned (.tuple #[.slice none 0 0, .int .u32 0, .int .i64 1]) ∧ Below w.heap.size w w' := by
  have HC := Lib.hid (isState_no hS _ h1 h2)
  clear h1 h2
  go_enter Try.func35, Try.ntmps35
  go_wp2_with fail
  refine HC.out.mono ?_
  rintro e w1 ⟨rfl, hb1⟩
  have Hb1 := Lib.hid hb1
  clear hb1
  go_wp2
  go_ret3
  exact ⟨rfl, Hb1.out⟩
/-- 'make([]Drive, n)', n a variable. -/
theorem wpList_make_drives {P : Program} (w : World) {ops : Array Oper} {rest : List Oper} {o : Oper} {a : Act} {Q : Exit → Act → World → Prop}
    (hg : o.guard = none) (l c : Operand) (t : TypeId) (hop : o.op = Op.makeSlice t l c)
    (e : TypeId) (i : TypeInfo) (z : Value) (size : Nat) (ht : P.underlying t = some (.slice e)) (hi : P.info? e = some i) (hz : i.zero = some z) (hsize : i.size = size)
    (kl kc : IntKind) (n : Nat) (hl : a.eval l = .int kl (n : Int)) (hc : a.eval c = .int kc (n : Int)) (hbytes : i.bytes * n ≤ 281474976710656) (h63 : n ≤ 9223372036854775807)
    (hK : wpList P ops Q rest (a.put o.dst (.slice (some ⟨w.heap.size, 0, none⟩) n n)) (w.alloc (.cells (madeCells z.cells (n * size)) e))) :
    wpList P ops Q (o :: rest) a w := by
  refine wpList_plain hg fun K hK' => ?_
  have hb' : (i.bytes : Int) * (n : Int) ≤ 281474976710656 := by
    have h : ((i.bytes * n : Nat) : Int) ≤ 281474976710656 := by omega
    rwa [Int.natCast_mul] at h
  have hrun := run_make (P := P) w t e i z ht hi hz kl kc n n (by omega) (Int.le_refl _) hb' (by omega)
  simp only [Int.toNat_natCast, hsize] at hrun
  unfold Oper.wp
  simp [execOp, hop, hl, hc, hrun, Result.andThen]
  exact hK' _ _ hK
def cellOf (d : Drive) (r : Nat) : Value := if r = 0 then .int .i64 d.phase else if r = 1 then .int .i64 d.left else .bool d.held
/-- Block g is a row of n drives, none frozen: those of E. -/
def rowD (w : World) (g n : Nat) (E : Nat → Drive) : Prop := w.rowIs g 34 (n * 3) (fun j => cellOf (E (j / 3)) (j % 3))
theorem made_row (w : World) (n : Nat) : rowD (w.alloc (.cells (madeCells #[.int .i64 0, .int .i64 0, .bool false] (n * 3)) 34)) w.heap.size n (fun _ => idle) := by
  have h := World.rowIs_alloc w (madeCells #[.int .i64 0, .int .i64 0, .bool false] (n * 3)) 34 (fun j => cellOf idle (j % 3)) (fun i hi => by
    rw [size_madeCells] at hi
    have h3 : i % 3 = 0 ∨ i % 3 = 1 ∨ i % 3 = 2 := by omega
    rcases h3 with e | e | e
    · simp [madeCells, hi, e, cellOf, idle]
    · simp [madeCells, hi, e, cellOf, idle]
    · simp [madeCells, hi, e, cellOf, idle])
  rw [size_madeCells] at h
  exact h
theorem rowD.at {w : World} {g n i : Nat} {E : Nat → Drive} (h : rowD w g n E) (hi : i < n) :
    w.cell? ⟨g, i * 3, none⟩ = some (.int .i64 (E i).phase) ∧ w.cell? ⟨g, i * 3 + 1, none⟩ = some (.int .i64 (E i).left) ∧ w.cell? ⟨g, i * 3 + 2, none⟩ = some (.bool (E i).held) := by
  refine ⟨?_, ?_, ?_⟩
  · rw [World.rowIs.cell h (by omega), show i * 3 / 3 = i by omega, show i * 3 % 3 = 0 by omega]; rfl
  · rw [World.rowIs.cell h (by omega), show (i * 3 + 1) / 3 = i by omega, show (i * 3 + 1) % 3 = 1 by omega]; rfl
  · rw [World.rowIs.cell h (by omega), show (i * 3 + 2) / 3 = i by omega, show (i * 3 + 2) % 3 = 2 by omega]; rfl
theorem rowD.congr {w : World} {g n : Nat} {E E' : Nat → Drive} (h : rowD w g n E) (e : ∀ i, i < n → E i = E' i) : rowD w g n E' :=
  World.rowIs.congr h fun i hi => by rw [e (i / 3) (by omega)]
theorem rowD.set3 {w : World} {g n i : Nat} {E : Nat → Drive} (h : rowD w g n E) (X : Drive) :
    rowD (((w.setCell ⟨g, i * 3, none⟩ (.int .i64 X.phase)).setCell ⟨g, i * 3 + 1, none⟩ (.int .i64 X.left)).setCell ⟨g, i * 3 + 2, none⟩ (.bool X.held)) g n (updD E i X) :=
  World.rowIs.congr (((World.rowIs.set h (i * 3) (.int .i64 X.phase)).set (i * 3 + 1) (.int .i64 X.left)).set (i * 3 + 2) (.bool X.held)) fun j _ => by
    show (if j = i * 3 + 2 then (.bool X.held : Value) else if j = i * 3 + 1 then .int .i64 X.left else if j = i * 3 then .int .i64 X.phase else cellOf (E (j / 3)) (j % 3)) = cellOf (updD E i X (j / 3)) (j % 3)
    unfold updD
    by_cases e2 : j = i * 3 + 2
    · rw [if_pos e2, e2, show (i * 3 + 2) / 3 = i by omega, if_pos rfl, show (i * 3 + 2) % 3 = 2 by omega]; rfl
    rw [if_neg e2]
    by_cases e1 : j = i * 3 + 1
    · rw [if_pos e1, e1, show (i * 3 + 1) / 3 = i by omega, if_pos rfl, show (i * 3 + 1) % 3 = 1 by omega]; rfl
    rw [if_neg e1]
    by_cases e0 : j = i * 3
    · rw [if_pos e0, e0, show i * 3 / 3 = i by omega, if_pos rfl, show i * 3 % 3 = 0 by omega]; rfl
    rw [if_neg e0, if_neg (by omega)]
theorem rowD.below {w w' : World} {g n B : Nat} {E : Nat → Drive} (h : rowD w g n E) (hb : Below B w w') (hg : g < B) : rowD w' g n E := World.rowIs.of_block h (hb.block _ hg)
theorem rowD.holds {w : World} {g n cap : Nat} {E : Nat → Drive} (h : rowD w g n E) : HoldsD w (.slice (some ⟨g, 0, none⟩) n cap) n E := by
  refine ⟨_, _, rfl, .inr ⟨g, 0, rfl, World.rowIs.lt h, fun j hj k u hu => ?_⟩⟩
  have hk : k < 3 := by rw [← drive_len (E j)]; exact (List.getElem?_eq_some_iff.1 hu).1
  obtain ⟨e0, e1, e2⟩ := h.at hj
  rw [Nat.zero_add]
  match k, hk, hu with
  | 0, _, hu => simp [Drive.cells] at hu; rw [← hu]; exact e0
  | 1, _, hu => simp [Drive.cells] at hu; rw [← hu]; exact e1
  | 2, _, hu => simp [Drive.cells] at hu; rw [← hu]; exact e2
end Go.Proofs.Ytfgkljfoalgkaaa
