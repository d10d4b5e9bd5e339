/-
  Append of a whole list, empty or not, to a row of the call's own; an operation whose guard says yes. No condition but the lengths.
-/
import Derived.Test.YtfgkljfoalgkaaaRunW
namespace Go.Proofs.Ytfgkljfoalgkaaa
open Go.RowKit Go.Deep

/-- A guarded operation whose guard says yes goes as the same one without a guard. -/
theorem wpList_unguard {P : Program} {ops : Array Oper} {Q : Exit → Act → World → Prop} {a : Act} {w : World} {rest : List Oper} {dst op type pos after gd}
    (hw : Region.wanted ⟨dst, op, type, pos, after, gd⟩ (yielded ops a.tmps) = true) (h : wpList P ops Q (⟨dst, op, type, pos, after, none⟩ :: rest) a w) : wpList P ops Q (⟨dst, op, type, pos, after, gd⟩ :: rest) a w := by
  unfold wpList at h ⊢
  rw [if_pos hw]
  rw [if_pos (by rfl)] at h
  exact h
section
variable {α : Type} {cells : α → List Value} {size : Nat} (hsz0 : ∀ x, (cells x).length = size)
include hsz0
theorem news_of {w : World} {x : Addr} {m c : Nat} {f : Nat → α} (h : Holds cells size w (.slice (some x) m c) m f) : ∀ j u, (flat cells f m)[j]? = some u → w.cell? (x.add j) = some u := by
  obtain ⟨a, cap, hv, ho⟩ := h
  injection hv with e1 e2 e3
  rcases ho with h0 | ⟨g, off, e, hl, hc⟩
  · subst h0
    intro j u hu
    simp [flat] at hu
  · rw [e] at e1
    injection e1 with e1
    subst e1
    exact Holds.news (size := size) hsz0 hc
omit hsz0 in
theorem len_of_none {w : World} {m c : Nat} {f : Nat → α} (h : Holds cells size w (.slice none m c) m f) : m = 0 := by
  obtain ⟨a, cap, hv, ho⟩ := h
  injection hv with e1 e2 e3
  rcases ho with h0 | ⟨g, off, e, hl, hc⟩
  · exact h0
  · rw [e] at e1
    exact absurd e1 (by simp)
omit hsz0 in
theorem flat_add (h : Nat → α) (k : Nat) : ∀ j, flat cells h (k + j) = flat cells h k ++ flat cells (fun i => h (k + i)) j
  | 0 => by simp [flat]
  | j + 1 => by
    show flat cells h (k + j) ++ cells (h (k + j)) = flat cells h k ++ (flat cells (fun i => h (k + i)) j ++ cells (h (k + j)))
    rw [flat_add h k j, List.append_assoc]
omit hsz0 in
theorem run_append_none {P : Program} {w : World} {base : Nat} {t ty e : TypeId} {i : TypeInfo} (ht : P.underlying t = some (.slice e)) (hi : P.info? e = some i)
    {v : Value} {n : Nat} {xs : List Value} (hown : w.ownsRow base e size v n xs) (c : Nat) :
    (Builtin.append_ #[t, t] ty #[v, .slice none 0 c]).run P w = .ok v w := by
  rcases hown.2 with ⟨rfl, rfl⟩ | ⟨g, cap, cur, rfl, hbg, hg, hnc, hcm, hcs, htake⟩
  · simp [Builtin.append_, run_underlying ht, sizeOf, typeInfo, hi, Builtin.lenOf, Builtin.firstCells]
  · simp [Builtin.append_, run_underlying ht, sizeOf, typeInfo, hi, Builtin.lenOf, Builtin.firstCells, storeCells, hnc]
theorem wpList_append_holds {P : Program} {w : World} {ops : Array Oper} {rest : List Oper} {o : Oper} {a : Act} {Q : Exit → Act → World → Prop} (hgd : o.guard = none) (s x : Operand) (t : TypeId)
    (ho : o.op = .call { callee := .builtin .append, args := #[s, x], argTypes := #[t, t] })
    (base : Nat) (e : TypeId) (i : TypeInfo) (z : Value) (bytes : Nat) (ht : P.underlying t = some (.slice e)) (hi : P.info? e = some i) (hz : i.zero = some z)
    (hsize : i.size = size) (hby : i.bytes = bytes) (hzs : z.cells.size = size) (hsz : 0 < size)
    (v : Value) (n : Nat) (xs : List Value) (hs : a.eval s = v) (hown : w.ownsRow base e size v n xs)
    (sv : Value) (m : Nat) (f : Nat → α) (hx : a.eval x = sv) (hsrc : Holds cells size w sv m f) (h1 : ∀ x u, u ∈ cells x → u.oneCell' = true)
    (h63 : n + m ≤ maxLen) (hbytes : (n + m) * bytes ≤ 140737488355328) (hbase : base ≤ w.heap.size)
    (h : ∀ v' w', w'.ownsRow base e size v' (n + m) (xs ++ flat cells f m) → w.grownBy w' v.ownBlock → wpList P ops Q rest (a.put o.dst v') w') : wpList P ops Q (o :: rest) a w := by
  obtain ⟨ad, c, rfl, hh⟩ := id hsrc
  cases ad with
  | some ad =>
    exact wpList_append_own _ hgd s x t ho base e i z size bytes ht hi hz hsize hby hzs hsz v n xs hs hown ad m c (flat cells f m) hx (flat_length hsz0 f m) (news_of hsz0 hsrc) (flat_mem h1 f m) h63 hbytes hbase (fun v' w' h2 h3 _ => h v' w' h2 h3)
  | none =>
    have hm := len_of_none hsrc
    subst hm
    have hr := run_append_none (P := P) (ty := o.type) ht hi hown c
    refine wpList_plain hgd fun K hK => ?_
    unfold Oper.wp execOp
    simp only [ho, resolve, invoke, builtin, Sem.run_bind, Sem.run_pure, Result.andThen_ok, List.map_toArray, List.map_cons, List.map_nil, hs, hx, hr]
    refine hK _ _ (h v w ?_ ⟨rfl, rfl, rfl, Nat.le_refl _, fun _ _ _ => rfl⟩)
    have : xs ++ flat cells f 0 = xs := by simp [flat]
    rw [this]
    exact hown
end
end Go.Proofs.Ytfgkljfoalgkaaa
