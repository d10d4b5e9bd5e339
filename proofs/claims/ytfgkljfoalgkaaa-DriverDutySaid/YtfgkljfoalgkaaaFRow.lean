/-
  Rows of fuse states that a call has laid itself; slices.Clone of fuse states. No condition but the length below a million.
-/
import Derived.Test.YtfgkljfoalgkaaaFData
import Derived.Test.YtfgkljfoalgkaaaState
namespace Go.Proofs.Ytfgkljfoalgkaaa
open Go.RowKit Go.Deep

/-- 'make([]T, n)', n a variable. -/
theorem wpList_make_rows {P : Program} (w : World) {ops : Array Oper} {rest : List Oper} {o : Oper} {a : Act} {Q : Exit → Act → World → Prop}
    (hg : o.guard = none) (l c : Operand) (t : TypeId) (hop : o.op = Op.makeSlice t l c)
    (e : TypeId) (i : TypeInfo) (z : Value) (size : Nat) (ht : P.underlying t = some (.slice e)) (hi : P.info? e = some i) (hz : i.zero = some z) (hsize : i.size = size)
    (kl kc : IntKind) (n : Nat) (hl : a.eval l = .int kl (n : Int)) (hc : a.eval c = .int kc (n : Int)) (hbytes : i.bytes * n ≤ 281474976710656) (h63 : n ≤ 9223372036854775807)
    (hK : wpList P ops Q rest (a.put o.dst (.slice (some ⟨w.heap.size, 0, none⟩) n n)) (w.alloc (.cells (madeCells z.cells (n * size)) e))) :
    wpList P ops Q (o :: rest) a w := by
  refine wpList_plain hg fun K hK' => ?_
  have hb' : (i.bytes : Int) * (n : Int) ≤ 281474976710656 := by
    have h : ((i.bytes * n : Nat) : Int) ≤ 281474976710656 := by omega
    rwa [Int.natCast_mul] at h
  have hrun := run_make (P := P) w t e i z ht hi hz kl kc n n (by omega) (Int.le_refl _) hb' (by omega)
  simp only [Int.toNat_natCast, hsize] at hrun
  unfold Oper.wp
  simp [execOp, hop, hl, hc, hrun, Result.andThen]
  exact hK' _ _ hK
/-- Block g is an unfrozen row whose first n elements are those of E. -/
def rowG {α : Type} (cells : α → List Value) (size : Nat) (t : TypeId) (w : World) (g n : Nat) (E : Nat → α) : Prop :=
  ∃ c : Array Value, w.heap[g]? = some (.cells c t (0, 0)) ∧ ∀ j, j < n → ∀ k u, (cells (E j))[k]? = some u → c[j * size + k]? = some u
section
variable {α : Type} {cells : α → List Value} {size : Nat} {t : TypeId} {w : World} {g n : Nat} {E : Nat → α}
theorem rowG.lt (h : rowG cells size t w g n E) : g < w.heap.size := by
  obtain ⟨c, hb, _⟩ := h
  exact (Array.getElem?_eq_some_iff.1 hb).1
theorem rowG.fz (h : rowG cells size t w g n E) (i : Nat) : w.frozen? ⟨g, i, none⟩ = false := by
  obtain ⟨c, hb, _⟩ := h
  simp [World.frozen?, hb]
theorem rowG.at (h : rowG cells size t w g n E) {j : Nat} (hj : j < n) {k : Nat} {u : Value} (hu : (cells (E j))[k]? = some u) : w.cell? ⟨g, j * size + k, none⟩ = some u := by
  obtain ⟨c, hb, hc⟩ := h
  simp [World.cell?, hb, hc j hj k u hu]
theorem rowG.congr {E' : Nat → α} (h : rowG cells size t w g n E) (e : ∀ i, i < n → E i = E' i) : rowG cells size t w g n E' := by
  obtain ⟨c, hb, hc⟩ := h
  exact ⟨c, hb, fun j hj k u hu => hc j hj k u (by rw [e j hj]; exact hu)⟩
theorem rowG.of_block {w' : World} (h : rowG cells size t w g n E) (e : w'.heap[g]? = w.heap[g]?) : rowG cells size t w' g n E := by
  obtain ⟨c, hb, hc⟩ := h
  exact ⟨c, e.trans hb, hc⟩
theorem rowG.below {w' : World} {B : Nat} (h : rowG cells size t w g n E) (hb : Below B w w') (hg : g < B) : rowG cells size t w' g n E := h.of_block (hb.block _ hg)
theorem rowG.alloc (h : rowG cells size t w g n E) (o : Obj) : rowG cells size t (w.alloc o) g n E := h.of_block (blk_alloc_lt _ _ _ h.lt)
theorem rowG.setOther (h : rowG cells size t w g n E) {a : Addr} (ha : g ≠ a.block) (v : Value) : rowG cells size t (w.setCell a v) g n E := h.of_block (blk_setCell_other _ _ _ _ ha)
theorem rowG.holds (h : rowG cells size t w g n E) (cap : Nat) : Holds cells size w (.slice (some ⟨g, 0, none⟩) n cap) n E :=
  ⟨_, _, rfl, .inr ⟨g, 0, rfl, h.lt, fun j hj k u hu => by rw [Nat.zero_add]; exact h.at hj hu⟩⟩
end
/-- .. with the element i overwritten. -/
def updT {α : Type} (E : Nat → α) (i : Nat) (x : α) : Nat → α := fun j => if j = i then x else E j
abbrev rowT := rowG FS.cells 2 83
theorem rowT.set2 {w : World} {g n i : Nat} {E : Nat → FS} (h : rowT w g n E) (hi : i < n) (X : FS) :
    rowT ((w.setCell ⟨g, i * 2, none⟩ (.int .i64 X.heat)).setCell ⟨g, i * 2 + 1, none⟩ (.bool X.blown)) g n (updT E i X) := by
  obtain ⟨c, hb, hc⟩ := h
  have s1 := hc i hi 1 _ rfl
  have hs := (Array.getElem?_eq_some_iff.1 s1).1
  refine ⟨(c.setIfInBounds (i * 2) (.int .i64 X.heat)).setIfInBounds (i * 2 + 1) (.bool X.blown), ?_, fun j hj k u hu => ?_⟩
  · simp [World.setCell, Array.getElem?_modify, hb]
  · have hk : k < 2 := by rw [← fs_len (updT E i X j)]; exact (List.getElem?_eq_some_iff.1 hu).1
    rw [Array.getElem?_setIfInBounds, Array.getElem?_setIfInBounds]
    by_cases e : j = i
    · subst e
      have hu' : (FS.cells X)[k]? = some u := by
        have : updT E j X j = X := if_pos rfl
        rwa [this] at hu
      match k, hk, hu' with
      | 0, _, hu' =>
        simp [FS.cells] at hu'
        rw [if_neg (by omega), if_pos (by omega), if_pos (by omega), hu']
      | 1, _, hu' =>
        simp [FS.cells] at hu'
        rw [if_pos (by omega), if_pos (by simp; omega), hu']
    · have hu' : (FS.cells (E j))[k]? = some u := by
        have : updT E i X j = E j := if_neg e
        rwa [this] at hu
      rw [if_neg (by omega), if_neg (by omega)]
      exact hc j hj k u hu'
theorem made_rowT (w : World) (n : Nat) : rowT (w.alloc (.cells (madeCells #[.int .i64 0, .bool false] (n * 2)) 83)) w.heap.size n (fun _ => coldFS) := by
  refine ⟨_, blk_alloc_new _ _, fun j hj k u hu => ?_⟩
  have hk : k < 2 := (List.getElem?_eq_some_iff.1 hu).1
  match k, hk, hu with
  | 0, _, hu =>
    have h1 : j * 2 + 0 < n * 2 := by omega
    have h2 : (j * 2 + 0) % 2 = 0 := by omega
    generalize j * 2 + 0 = i at *
    simp [FS.cells, coldFS] at hu
    simp [madeCells, h1, h2, hu]
  | 1, _, hu =>
    have h1 : j * 2 + 1 < n * 2 := by omega
    have h2 : (j * 2 + 1) % 2 = 1 := by omega
    generalize j * 2 + 1 = i at *
    simp [FS.cells, coldFS] at hu
    simp [madeCells, h1, h2, hu]
theorem rowT.of_owns {w : World} {base n : Nat} {v : Value} {S : Nat → FS} (h : w.ownsRow base 83 2 v n (flat FS.cells S n)) (hn : 0 < n) :
    ∃ g cap, v = .slice (some ⟨g, 0, none⟩) n cap ∧ base ≤ g ∧ rowT w g n S := by
  obtain ⟨a, cap, e, hh⟩ := Holds.of_owns fs_len h
  rcases h.2 with ⟨rfl, h0⟩ | ⟨g, cap', cur, rfl, hb, hg, _⟩
  · omega
  · injection e with e1 e2 e3
    obtain ⟨g2, off, e4, hl, hc⟩ := hh.resolve_left (by omega)
    rw [← e1] at e4
    injection e4 with e4
    injection e4 with e5 e6 e7
    subst e5 e6
    refine ⟨g, cap', rfl, hb, ⟨_, hg, fun j hj k u hu => ?_⟩⟩
    have := hc j hj k u hu
    simpa [World.cell?, hg] using this
theorem Try.info83 : (Try.prog.info? 83).map (fun i => (i.zero, i.size, i.bytes)) = some (some (.agg #[.int .i64 0, .bool false]), 2, 16) := by kernel_rfl
theorem eq_nil64 (w : World) (a : Option Addr) (n c : Nat) : (binOp .eql 64 (.slice a n c) (.slice none 0 0)).run Try.prog w = .ok (.bool a.isNone) w := Lib.run_eql_slice_nil w 64 83 a n c 0 0 Try.underlying64
set_option maxRecDepth 100000 in
set_option maxHeartbeats 800000 in
theorem clone_fs (v : Value) (n : Nat) (S : Nat → FS) (w : World) (hn : n ≤ 1000000) (hv : HoldsT w v n S) :
    Calls Try.prog 72 #[v] w fun e w' => ∃ v', e = .returned v' ∧ w'.ownsRow w.heap.size 83 2 v' n (flat FS.cells S n) ∧ Below w.heap.size w w' := by
  obtain ⟨a, cap, rfl, ho⟩ := hv
  have hu := eq_nil64
  cases a with
  | none =>
    have h0 : n = 0 := by
      rcases ho with h | ⟨g, off, h, _⟩
      · exact h
      · exact absurd h (by simp)
    subst h0
    clear ho hn
    go_enter Try.func72, Try.ntmps72
    go_wp2
    refine bodyPost_ret (v := .slice none 0 0) (by simp [results, Try.results72, go_sem]) rfl ⟨_, rfl, World.ownsRow_nil _ _ _ _, Below.refl _ _⟩
  | some ad =>
    have Hn := Lib.hid hn
    have HN := Lib.hid (show ∀ j u, (flat FS.cells S n)[j]? = some u → (w.alloc (.cells #[] 83)).cell? (ad.add j) = some u by
      rcases ho with h | ⟨g, off, h, hl, hc⟩
      · subst h
        intro j u hu
        simp [flat] at hu
      · injection h with h
        subst h
        have hb : Below w.heap.size w (w.alloc (.cells #[] 83)) := (Below.refl _ _).alloc (Nat.le_refl _) _
        exact Holds.news (size := 2) fs_len fun j hj k u hu => by
          rw [hb.cell (p := ⟨g, off + j * 2 + k, none⟩) hl]; exact hc j hj k u hu)
    clear ho hn
    obtain ⟨i0, hi, hz0, hz1, hz2⟩ := info_parts Try.info83
    go_enter Try.func72, Try.ntmps72
    go_wp2_with (at_builtin; refine wpList_append_own _ rfl _ _ 64 rfl w.heap.size 83 i0 _ 2 16 Try.underlying64 hi hz0 hz1 hz2 rfl (by decide) (.slice (some ⟨w.heap.size, 0, none⟩) 0 0) 0 [] rfl (World.ownsRow_made w #[] 0 (Nat.le_refl _) (by decide) rfl) ad n cap (flat FS.cells S n) rfl (flat_length fs_len S n) HN.out ?c2 ?c3 ?c4 ?c5 ?c6)
    case c2 => exact flat_mem fs_one S n
    case c3 => have := Hn.out; unfold maxLen; omega
    case c4 => have := Hn.out; omega
    case c5 => simp
    intro v' w4 hown4 hgr4 _
    have HO4 := Lib.hid hown4
    have HG4 := Lib.hid hgr4
    clear hown4 hgr4
    go_wp2
    refine bodyPost_ret (v := v') (by simp [results, Try.results72, go_sem]) rfl ⟨v', rfl, ?_, ?_⟩
    · exact HO4.out
    · exact ((Below.refl _ w).alloc (Nat.le_refl _) _).grown HG4.out (by simp) (fun q hq => by simp [Value.ownBlock] at hq; omega)
end Go.Proofs.Ytfgkljfoalgkaaa
