/-
  A slice of one-cell elements that the call itself made, resliced and appended to: a queue. One law for its append, one for 'q[1:]'. No condition but the bounds that each law names.
-/
import Derived.WalkKit
import Derived.WalkSpells
import Derived.ArgAppend
import Derived.Lib.Hide
namespace Go.Proofs.Ytpboblanjngeeaa
open Go.RowKit

/-- The slice value v has the elements xs (a cell each), in a block from base on that is not frozen. -/
def QRow (w : World) (base : Nat) (e : TypeId) (v : Value) (xs : List Value) : Prop :=
  ∃ g off cap cur, v = .slice (some ⟨g, off, none⟩) xs.length cap ∧ base ≤ g ∧ w.heap[g]? = some (.cells cur e (0, 0)) ∧ xs.length ≤ cap ∧ off + cap ≤ cur.size ∧ cap ≤ maxLen ∧
    ∀ j, j < xs.length → cur[off + j]? = xs[j]?

theorem QRow.below {w w' : World} {base B : Nat} {e : TypeId} {v : Value} {xs : List Value} (h : QRow w base e v xs) (hb : Below B w w') (hB : ∀ g a n c, v = .slice (some ⟨g, a, none⟩) n c → g < B) : QRow w' base e v xs := by
  obtain ⟨g, off, cap, cur, rfl, h1, h2, h3⟩ := h
  exact ⟨g, off, cap, cur, rfl, h1, by rw [hb.block g (hB _ _ _ _ rfl)]; exact h2, h3⟩

theorem QRow.drew {w : World} {base : Nat} {e : TypeId} {v : Value} {xs : List Value} (h : QRow w base e v xs) : QRow w.drew base e v xs := h

theorem QRow.alloc {w : World} {base : Nat} {e : TypeId} {v : Value} {xs : List Value} (h : QRow w base e v xs) (o : Obj) : QRow (w.alloc o) base e v xs := by
  obtain ⟨g, off, cap, cur, rfl, h1, h2, h3⟩ := h
  refine ⟨g, off, cap, cur, rfl, h1, ?_, h3⟩
  rw [Below.heap_alloc _ _ _ (Array.getElem?_eq_some_iff.1 h2).1]
  exact h2

/-- A new row of one element. -/
theorem QRow.made (w : World) (base : Nat) (e : TypeId) (u : Value) (h : base ≤ w.heap.size) : QRow (w.alloc (.cells #[u] e)) base e (.slice (some ⟨w.heap.size, 0, none⟩) 1 1) [u] :=
  ⟨w.heap.size, 0, 1, #[u], rfl, h, heap_alloc_new w _, Nat.le_refl _, by simp, by decide, fun j hj => by
    have : j = 0 := by simp at hj; omega
    subst this; rfl⟩

/-- 'q[1:]', its value under one name. -/
def qtail (g off n cap : Nat) : Value := .slice (if cap = 1 then some ⟨g, off, none⟩ else some ⟨g, off + 1, none⟩) (n - 1) (cap - 1)

theorem run_qtail {P : Program} (t e : TypeId) (i : TypeInfo) (ht : P.underlying t = some (.slice e)) (hi : P.info? e = some i) (hs : i.size = 1) (g off n cap : Nat) (h1 : 1 ≤ n) (w : World) :
    (Instr.slice t (.slice (some ⟨g, off, none⟩) n cap) (some (.int .i64 1)) none none).run P w = .ok (qtail g off n cap) w := by
  have ha : (⟨g, off, none⟩ : Addr).add 1 = ⟨g, off + 1, none⟩ := rfl
  have hb : (Instr.sliceBound (.int .i64 1) n .sliceB).run P w = .ok 1 w := run_sliceBound (P := P) (w := w) .i64 1 n .sliceB (by decide) (by omega)
  simp [Instr.slice, run_underlying ht, Instr.sliceBounds, hb, qtail, sizeOf, typeInfo, hi, hs, ha]

theorem QRow.tail {w : World} {base : Nat} {e : TypeId} {g off n cap : Nat} {u : Value} {xs : List Value} (h : QRow w base e (.slice (some ⟨g, off, none⟩) n cap) (u :: xs)) : QRow w base e (qtail g off n cap) xs := by
  obtain ⟨g', off', cap', cur, hv, h1, h2, h3, h4, h5, h6⟩ := h
  simp only [Value.slice.injEq, Option.some.injEq, Addr.mk.injEq, and_true] at hv
  obtain ⟨⟨rfl, rfl⟩, rfl, rfl⟩ := hv
  simp only [List.length_cons] at h3 h6
  by_cases hc : cap = 1
  · subst hc
    have : xs = [] := List.eq_nil_of_length_eq_zero (by omega)
    subst this
    exact ⟨g, off, 0, cur, by simp [qtail], h1, h2, by simp, by omega, by decide, fun j hj => by simp at hj⟩
  · refine ⟨g, off + 1, cap - 1, cur, by simp [qtail, hc], h1, h2, by omega, by omega, by omega, fun j hj => ?_⟩
    have := h6 (j + 1) (by omega)
    rw [show off + 1 + j = off + (j + 1) by omega, this]
    rfl

/-- One element more. -/
theorem wpList_append_q {P : Program} (w : World) {ops : Array Oper} {rest : List Oper} {o : Oper} {a : Act} {Q : Exit → Act → World → Prop}
    (hg : o.guard = none) (s x : Operand) (t : TypeId) (hop : o.op = Op.call { callee := Callee.builtin Builtin.append, args := #[s, x], argTypes := #[t, t] })
    (base : Nat) (e : TypeId) (i : TypeInfo) (z : Value) (bytes : Nat) (ht : P.underlying t = some (.slice e)) (hi : P.info? e = some i) (hz : i.zero = some z) (hsize : i.size = 1) (hby : i.bytes = bytes) (hzs : z.cells.size = 1)
    (v : Value) (xs : List Value) (hs : a.eval s = v) (hq : QRow w base e v xs) (ad : Addr) (c : Nat) (u : Value) (hx : a.eval x = .slice (some ad) 1 c) (hu : w.cell? ad = some u) (h1 : u.oneCell' = true)
    (h63 : xs.length + 1 ≤ maxLen) (hbytes : (xs.length + 1) * bytes ≤ 140737488355328) (hbase : base ≤ w.heap.size)
    (hK : ∀ v' w', QRow w' base e v' (xs ++ [u]) → Below base w w' → wpList P ops Q rest (a.put o.dst v') w') :
    wpList P ops Q (o :: rest) a w := by
  refine wpList_plain hg fun K hK' => ?_
  obtain ⟨g, off, cap, cur, rfl, q1, q2, q3, q4, q5, q6⟩ := hq
  have hnews : ∀ j u', [u][j]? = some u' → w.cell? (ad.add j) = some u' := fun j u' hj => by
    cases j with
    | zero => simp at hj; subst hj; simpa [Addr.add] using hu
    | succ j => simp at hj
  have hone : ∀ u' ∈ [u], u'.oneCell' = true := fun u' hm => by
    simp at hm; subst hm; exact h1
  have fin : ∀ v' w', (Builtin.append_ #[t, t] o.type #[.slice (some ⟨g, off, none⟩) xs.length cap, .slice (some ad) 1 c]).run P w = .ok v' w' → QRow w' base e v' (xs ++ [u]) → Below base w w' →
      o.wp P a w K Q := fun v' w' hrun hq hb => by
    unfold Oper.wp
    simp [execOp, hop, resolve, invoke, builtin, hs, hx, hrun, Result.andThen]
    exact hK' _ _ (hK v' w' hq hb)
  by_cases hr : xs.length + 1 ≤ cap
  · have hrun := run_append_room_cells (P := P) w t o.type e i ht hi g off xs.length cap ad 1 c [u] (by simp [hsize]) hnews hone hr
      (fun j hj => by
        have : j = 0 := by simp at hj; omega
        subst this
        rw [hsize, cell_of_row w g _ cur e (0, 0) q2]
        simp; omega)
      (fun j hj => by simp [World.frozen?, q2])
    refine fin _ _ hrun ?_ ?_
    · simp only [hsize, Nat.mul_one, World.setCells]
      refine ⟨g, off, cap, _, by simp, q1, heap_setCell_same w g (off + xs.length) cur e u q2, by simpa using hr, by simpa using q4, q5, fun j hj => ?_⟩
      simp only [List.length_append, List.length_cons, List.length_nil] at hj
      by_cases hjx : j < xs.length
      · rw [List.getElem?_append_left hjx, Array.getElem?_setIfInBounds_ne (by omega)]
        exact q6 j hjx
      · have : j = xs.length := by omega
        subst this
        rw [List.getElem?_append_right (Nat.le_refl _), Array.getElem?_setIfInBounds_self, if_pos (by omega)]
        simp
    · simp only [World.setCells]
      exact (Below.refl _ _).setCell q1 _
  · obtain ⟨v', w', hrun, hown, hgr⟩ := run_append_arg_grows (P := P) w t o.type e i z 1 bytes ht hi hz hsize hby hzs (by decide) ⟨g, off, none⟩ xs.length cap xs (by simp)
      (fun j u' hj => by
        have hjl := (List.getElem?_eq_some_iff.1 hj).1
        rw [Addr.add_lit, cell_of_row w g _ cur e (0, 0) q2, q6 j hjl]
        exact hj) ad 1 c [u] (by simp) hnews (by omega) h63 hbytes
    refine fin _ _ hrun ?_ ((Below.refl _ w).grown hgr hbase (fun k hk => by cases hk))
    obtain ⟨hl, ho⟩ := hown
    rcases ho with ⟨_, h0⟩ | ⟨g', cap', cur', rfl, hb', hh', hn', hm', hcs', htake'⟩
    · omega
    · refine ⟨g', 0, cap', cur', by simp, by omega, hh', by simpa using hn', by omega, hm', fun j hj => ?_⟩
      rw [Nat.zero_add, ← htake', List.getElem?_take, if_pos (by simpa using hj)]
      simp
end Go.Proofs.Ytpboblanjngeeaa
