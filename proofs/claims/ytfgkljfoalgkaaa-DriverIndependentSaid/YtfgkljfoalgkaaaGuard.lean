/-
  Plain laws behind FuseGuards: what the drivers energise is live where no fuse is blown; no fuse of a rating that is at least the sum of its coils' currents leaves the cold. Rows of fuses. No program in sight.
-/
import Derived.Test.YtfgkljfoalgkaaaFMono
import Derived.Test.YtfgkljfoalgkaaaRunW
namespace Go.Proofs.Ytfgkljfoalgkaaa
open Go.RowKit Go.Deep

theorem setTo_bit (C : Nat → Coil) (D : Nat → Drive) : ∀ n, n ≤ 32 → ∀ i, tb (setTo C D n) i = (decide (i < n) && onB (C i) (D i))
  | 0, _, i => by rw [setTo, tb_zero]; simp
  | n + 1, h, i => by
    have ih := setTo_bit C D n (by omega) i
    rw [setTo]
    by_cases e : i = n
    · subst e
      cases hl : onB (C i) (D i) with
      | true => rw [if_pos rfl, tb_or, tb_one _ _ (by omega)]; simp
      | false => rw [if_neg Bool.false_ne_true, ih]; simp
    · have e1 : decide (i < n + 1) = decide (i < n) := by rw [Bool.eq_iff_iff, decide_eq_true_eq, decide_eq_true_eq]; omega
      rw [e1]
      split
      · rw [tb_or, ih, tb_one _ _ (by omega)]; simp [e]
      · exact ih
def cold8 : Nat → FS := fun _ => coldFS
theorem cold_live (c : Coil) (m : Nat) : liveC c m cold8 = true := by
  unfold liveC cold8 coldFS
  simp
theorem live_sets {n : Nat} {C : Nat → Coil} (hC : validE n C = 0) (D : Nat → Drive) (m : Nat) : liveF n C m cold8 (setTo C D n) = setTo C D n := by
  apply tb_ext
  intro i _
  rw [liveF_bit hC, cold_live, setTo_bit C D n (validE_zero hC).1]
  cases decide (i < n) <;> simp
theorem W_all : W 4294967295#32 = 4294967295 := by decide
theorem tb_all {i : Nat} (h : i < 32) : tb 4294967295#32 i = true := by
  unfold tb
  have : (4294967295#32 : BitVec 32) = BitVec.allOnes 32 := by decide
  rw [this, BitVec.getLsbD_allOnes]
  simp [h]
theorem load_all {n : Nat} {C : Nat → Coil} (hC : validE n C = 0) (x : BitVec 32) (q : Int) : loadF n C x q ≤ loadF n C 4294967295#32 q :=
  loadF_mono hC q fun i hi => by
    by_cases h : i < 32
    · exact tb_all h
    · rw [tb_ge x (by omega)] at hi; exact Bool.noConfusion hi
/-- The fuses of the law. -/
def guardF (n : Nat) (C : Nat → Coil) (l : Int) : Nat → Fuse := fun i => ⟨loadF n C 4294967295#32 i, l⟩
theorem guard_tick {n : Nat} {C : Nat → Coil} (hC : validE n C = 0) {l : Int} (l0 : 0 ≤ l) (x : BitVec 32) (i : Nat) : tickF 8 (guardF n C l) n C cold8 x i = cold8 i := by
  unfold tickF
  have h0 := (loadF_le n C (liveF n C 8 cold8 x) i).1
  have h1 := load_all hC (liveF n C 8 cold8 x) i
  have h2 := (sq_le h0 h1).2
  show stepF (guardF n C l i) coldFS _ = coldFS
  have hh : heatF (guardF n C l i) coldFS (loadF n C (liveF n C 8 cold8 x) i) = 0 := by
    unfold heatF guardF coldFS
    simp only
    omega
  unfold stepF
  rw [if_neg (by decide), hh, if_neg (by show ¬ l < 0; omega)]
  rfl
theorem guard_valid {n : Nat} {C : Nat → Coil} {l : Int} (l0 : 0 ≤ l) (l1 : l ≤ 65535) (h : ∀ i : Nat, i < 8 → loadF n C 4294967295#32 i ≤ 400) : validFE 8 (guardF n C l) = 0 := by
  unfold validFE
  rw [if_neg (by decide), if_pos]
  intro i hi
  rw [goodF_iff]
  exact ⟨(loadF_le n C _ i).1, h i hi, l0, by show l ≤ 1000000000; omega⟩
theorem guard_state {n : Nat} {C : Nat → Coil} {l : Int} (l0 : 0 ≤ l) (l1 : l ≤ 65535) (h : ∀ i : Nat, i < 8 → loadF n C 4294967295#32 i ≤ 400) : StateF 8 (guardF n C l) 8 cold8 :=
  ⟨guard_valid l0 l1 h, rfl, fun _ _ => (okFS_iff _ _).2 ⟨Int.le_refl _, l0, fun h => Bool.noConfusion h⟩⟩
abbrev rowF := rowG Fuse.cells 2 79
theorem fuse_len2 (x : Fuse) : (Fuse.cells x).length = 2 := rfl
theorem rowF.set2 {w : World} {g n i : Nat} {E : Nat → Fuse} (h : rowF w g n E) (hi : i < n) (X : Fuse) :
    rowF ((w.setCell ⟨g, i * 2, none⟩ (.int .i64 X.rating)).setCell ⟨g, i * 2 + 1, none⟩ (.int .i64 X.limit)) g n (updT E i X) := by
  obtain ⟨c, hb, hc⟩ := h
  have s1 := hc i hi 1 _ rfl
  have hs := (Array.getElem?_eq_some_iff.1 s1).1
  refine ⟨(c.setIfInBounds (i * 2) (.int .i64 X.rating)).setIfInBounds (i * 2 + 1) (.int .i64 X.limit), ?_, fun j hj k u hu => ?_⟩
  · simp [World.setCell, Array.getElem?_modify, hb]
  · have hk : k < 2 := by rw [← fuse_len2 (updT E i X j)]; exact (List.getElem?_eq_some_iff.1 hu).1
    rw [Array.getElem?_setIfInBounds, Array.getElem?_setIfInBounds]
    by_cases e : j = i
    · subst e
      have hu' : (Fuse.cells X)[k]? = some u := by
        have : updT E j X j = X := if_pos rfl
        rwa [this] at hu
      match k, hk, hu' with
      | 0, _, hu' =>
        simp [Fuse.cells] at hu'
        rw [if_neg (by omega), if_pos (by omega), if_pos (by omega), hu']
      | 1, _, hu' =>
        simp [Fuse.cells] at hu'
        rw [if_pos (by omega), if_pos (by simp; omega), hu']
    · have hu' : (Fuse.cells (E j))[k]? = some u := by
        have : updT E i X j = E j := if_neg e
        rwa [this] at hu
      rw [if_neg (by omega), if_neg (by omega)]
      exact hc j hj k u hu'
theorem made_rowF (w : World) (n : Nat) : rowF (w.alloc (.cells (madeCells #[.int .i64 0, .int .i64 0] (n * 2)) 79)) w.heap.size n (fun _ => ⟨0, 0⟩) := by
  refine ⟨_, blk_alloc_new _ _, fun j hj k u hu => ?_⟩
  have hk : k < 2 := (List.getElem?_eq_some_iff.1 hu).1
  match k, hk, hu with
  | 0, _, hu =>
    have h1 : j * 2 + 0 < n * 2 := by omega
    have h2 : (j * 2 + 0) % 2 = 0 := by omega
    generalize j * 2 + 0 = i at *
    simp [Fuse.cells] at hu
    simp [madeCells, h1, h2, hu]
  | 1, _, hu =>
    have h1 : j * 2 + 1 < n * 2 := by omega
    have h2 : (j * 2 + 1) % 2 = 1 := by omega
    generalize j * 2 + 1 = i at *
    simp [Fuse.cells] at hu
    simp [madeCells, h1, h2, hu]
theorem Try.info79 : (Try.prog.info? 79).map (fun i => (i.zero, i.size, i.bytes)) = some (some (.agg #[.int .i64 0, .int .i64 0]), 2, 16) := by kernel_rfl
theorem keep2' {w w1 : World} {a b : Value} {g : Nat} (hb : Below w.heap.size w w1) (h : w.cell? ⟨g, 0, none⟩ = some a ∧ w.cell? ⟨g, 1, none⟩ = some b ∧ g < w.heap.size) :
    w1.cell? ⟨g, 0, none⟩ = some a ∧ w1.cell? ⟨g, 1, none⟩ = some b ∧ g < w1.heap.size := by
  obtain ⟨h0, h1, h3⟩ := h
  exact ⟨by rw [hb.cell (p := ⟨g, 0, none⟩) h3]; exact h0, by rw [hb.cell (p := ⟨g, 1, none⟩) h3]; exact h1, Nat.lt_of_lt_of_le h3 hb.size⟩
end Go.Proofs.Ytfgkljfoalgkaaa
