/-
  The laws' ticks: a list of lists of orders, one order in the first, none in the others. Append of a made slice. For at least one tick, at most 100000.
-/
import Derived.Test.YtfgkljfoalgkaaaApp
import Derived.Test.YtfgkljfoalgkaaaWLimits
import Derived.Lib.AppendZerosOnto
import Derived.Laws.OwnMore
namespace Go.Proofs.Ytfgkljfoalgkaaa
open Go.RowKit Go.Deep

theorem zeroCells_list {z : Value} (hz : z.cells = #[z]) (n : Nat) : (Builtin.zeroCells z.cells n).toList = List.replicate n z := by
  rw [hz]
  simp [Builtin.zeroCells]
  apply List.ext_getElem
  · simp
  · intro i h1 h2
    simp [Nat.mod_one]
theorem wpList_append_zeros {P : Program} {w : World} {ops : Array Oper} {rest : List Oper} {o : Oper} {a : Act} {Q : Exit → Act → World → Prop} (hgd : o.guard = none) (s x : Operand) (t tn : TypeId)
    (ho : o.op = .call { callee := .builtin .append, args := #[s, x], argTypes := #[t, tn] })
    (base : Nat) (e : TypeId) (i : TypeInfo) (z : Value) (bytes : Nat) (kq kn : IntKind) (ht : P.underlying t = some (.slice e)) (htn : P.underlying tn = some (.int kn)) (hi : P.info? e = some i) (hz : i.zero = some z)
    (hsize : i.size = 1) (hby : i.bytes = bytes) (hzc : z.cells = #[z])
    (g n : Nat) (xs : List Value) (hs : a.eval s = .slice (some ⟨g, 0, none⟩) n n) (hown : w.ownsRow base e 1 (.slice (some ⟨g, 0, none⟩) n n) n xs)
    (k : Nat) (hx : a.eval x = .int kq k) (h63 : n + k ≤ maxLen) (hbytes : (n + k) * bytes ≤ 140737488355328) (hbase : base ≤ w.heap.size)
    (h : ∀ v' w', w'.ownsRow base e 1 v' (n + k) (xs ++ List.replicate k z) → w.grownBy w' none → wpList P ops Q rest (a.put o.dst v') w') : wpList P ops Q (o :: rest) a w := by
  have hw : IntKind.i64.wrap (k : Int) = k := by unfold maxLen at h63; rw [IntKind.wrap_i64]; omega
  subst hby
  rcases Nat.eq_zero_or_pos k with rfl | hk
  · have hr : (Builtin.append_ #[t, tn] o.type #[.slice (some ⟨g, 0, none⟩) n n, .int kq ((0 : Nat) : Int)]).run P w = .ok (.slice (some ⟨g, 0, none⟩) n n) w := by
      have hw0 : IntKind.i64.wrap (0 : Int) = 0 := by rw [IntKind.wrap_i64]; rfl
      simp [Builtin.append_, run_underlying ht, run_underlying htn, sizeOf, typeInfo, hi, asInt, asIntOf, storeCells, hw0]
    refine wpList_plain hgd fun K hK => ?_
    unfold Oper.wp execOp
    simp only [ho, resolve, invoke, builtin, Sem.run_bind, Sem.run_pure, Result.andThen_ok, List.map_toArray, List.map_cons, List.map_nil, hs, hx, hr]
    refine hK _ _ (h _ w ?_ ⟨rfl, rfl, rfl, Nat.le_refl _, fun _ _ _ => rfl⟩)
    simpa using hown
  · have hxl : xs.length = n * i.size := by rw [hsize]; exact hown.1
    have hold := run_firstCells_some (P := P) w.drew i.size n ⟨g, 0, none⟩ n n xs hxl (hown.cells (g := g) rfl)
    have hr := Lib.run_append_grow_zeros (P := P) w t tn o.type e i z kq kn ht htn hi hz (some ⟨g, 0, none⟩) n n xs hold k hk (by omega) (by omega) (by unfold maxLen at h63; omega)
      (by have : k * i.bytes ≤ (n + k) * i.bytes := Nat.mul_le_mul_right _ (by omega)
          omega) (growslice_fits (by omega) hbytes)
    refine wpList_plain hgd fun K hK => ?_
    unfold Oper.wp execOp
    simp only [ho, resolve, invoke, builtin, Sem.run_bind, Sem.run_pure, Result.andThen_ok, List.map_toArray, List.map_cons, List.map_nil, hs, hx, hr]
    have hge := grownCap_ge w (n + k) n e
    have hcm := grownCap_le_maxLen w (n + k) n e h63
    have hlen : (xs ++ List.replicate k z).length = (n + k) * 1 := by rw [List.length_append, hown.1, List.length_replicate]; omega
    have hzs : z.cells.size = 1 := by rw [hzc]; rfl
    refine hK _ _ (h _ _ ⟨hlen, .inr ⟨w.heap.size, _, _, rfl, hbase, heap_alloc_new w.drew _, hge, hcm, ?_, ?_⟩⟩ ⟨rfl, rfl, rfl, by simp, fun j hj _ => heap_alloc_old w.drew _ hj⟩)
    · simp only [Array.size_append, List.size_toArray, size_zeroCells, hzs, hown.1]
      omega
    · simp only [Array.toList_append, zeroCells_list hzc]
      rw [← hlen]
      exact List.take_left
def lcells (l : OL) : List Value := [l.v]
theorem lc_len (l : OL) : (lcells l).length = 1 := rfl
theorem lc_one (l : OL) (u : Value) (h : u ∈ lcells l) : u.oneCell' = true := by
  simp [lcells] at h
  rw [h]; rfl
/-- The lists that 'ticks' lays: the first holds one order, at the block gb. -/
def tickL (gb : Nat) (kd ci : Int) (j : Nat) : OL := if j = 0 then ⟨some ⟨gb, 0, none⟩, 1, 1, fun _ => ⟨kd, ci⟩⟩ else ⟨none, 0, 0, fun _ => ⟨kd, ci⟩⟩
theorem flat_tickL (gb : Nat) (kd ci : Int) : ∀ k, flat lcells (tickL gb kd ci) (1 + k) = [Value.slice (some ⟨gb, 0, none⟩) 1 1] ++ List.replicate k (.slice none 0 0)
  | 0 => rfl
  | k + 1 => by
    show flat lcells (tickL gb kd ci) (1 + k) ++ lcells (tickL gb kd ci (1 + k)) = _
    rw [flat_tickL gb kd ci k, List.append_assoc, List.replicate_succ']
    have : lcells (tickL gb kd ci (1 + k)) = [.slice none 0 0] := by unfold tickL; rw [if_neg (by omega)]; rfl
    rw [this]
/-- What 'ticks' lays reads as a list of lists of orders. -/
theorem tickL_holds {w : World} {base : Nat} {v : Value} {N gb : Nat} {kd ci : Int} (h : w.ownsRow base 23 1 v N (flat lcells (tickL gb kd ci) N)) (hO : HoldsO w (.slice (some ⟨gb, 0, none⟩) 1 1) 1 (fun _ => ⟨kd, ci⟩)) : HoldsL w v N (tickL gb kd ci) := by
  refine ⟨Holds.of_owns lc_len h, fun j _ => ?_⟩
  unfold tickL
  by_cases e : j = 0
  · rw [if_pos e]; exact hO
  · rw [if_neg e]; exact Holds.nil _ _ _ _
theorem flat_set (L : Nat → OL) (k : Nat) (x : OL) : ∀ n, k < n → (flat lcells L n).set k x.v = flat lcells (fun j => if j = k then x else L j) n
  | 0, h => absurd h (by omega)
  | n + 1, h => by
    have hl := flat_length lc_len L n
    show (flat lcells L n ++ [(L n).v]).set k x.v = flat lcells (fun j => if j = k then x else L j) n ++ [(if n = k then x else L n).v]
    by_cases e : k = n
    · subst e
      have hkeep : flat lcells (fun j => if j = k then x else L j) k = flat lcells L k := by
        have : ∀ m, m ≤ k → flat lcells (fun j => if j = k then x else L j) m = flat lcells L m := by
          intro m
          induction m with
          | zero => intro _; rfl
          | succ m ih =>
            intro hm
            show flat lcells _ m ++ lcells (if m = k then x else L m) = flat lcells L m ++ lcells (L m)
            rw [ih (by omega), if_neg (by omega)]
        exact this k (Nat.le_refl _)
      rw [hkeep, if_pos rfl, List.set_append_right _ _ (by omega), hl]
      simp
    · rw [if_neg (fun h => e h.symm), List.set_append_left _ _ (by omega), flat_set L k x n (by omega)]
set_option maxRecDepth 100000 in
set_option maxHeartbeats 1600000 in
theorem ticks_any (kd ci : Int) (N : Nat) (w : World) (h1 : 1 ≤ N) (hN : N ≤ 100000) :
    Calls Try.prog 41 #[.agg #[.int .i64 kd, .int .i64 ci], .int .i64 N] w fun e w' => ∃ v, ∃ gb, e = .returned v ∧ gb < w.heap.size + 2 ∧ w'.ownsRow (w.heap.size + 2) 23 1 v N (flat lcells (tickL gb kd ci) N) ∧
      HoldsO w' (.slice (some ⟨gb, 0, none⟩) 1 1) 1 (fun _ => ⟨kd, ci⟩) ∧ Below w.heap.size w w' := by
  obtain ⟨M, rfl⟩ : ∃ M : Nat, N = 1 + M := ⟨N - 1, by omega⟩
  obtain ⟨i0, hi, hz0, hz1, hz2⟩ := info_parts Try.info23
  have hall : Below w.heap.size w (((w.alloc (.cells #[.int .i64 kd, .int .i64 ci] 43)).alloc (.cells #[.int .i64 kd, .int .i64 ci] 43)).alloc (.cells #[.slice (some ⟨w.heap.size + 1, 0, none⟩) 1 1] 23)) :=
    (((Below.refl _ _).alloc (Nat.le_refl _) _).alloc (by simp) _).alloc (by simp; omega) _
  have HALL := Lib.hid hall
  have hown : (((w.alloc (.cells #[.int .i64 kd, .int .i64 ci] 43)).alloc (.cells #[.int .i64 kd, .int .i64 ci] 43)).alloc (.cells #[.slice (some ⟨w.heap.size + 1, 0, none⟩) 1 1] 23)).ownsRow (w.heap.size + 2) 23 1
      (.slice (some ⟨w.heap.size + 1 + 1, 0, none⟩) 1 1) 1 [.slice (some ⟨w.heap.size + 1, 0, none⟩) 1 1] := by
    have h := World.ownsRow_lit (base := w.heap.size + 2) (e := 23) (size := 1) ((w.alloc (.cells #[.int .i64 kd, .int .i64 ci] 43)).alloc (.cells #[.int .i64 kd, .int .i64 ci] 43)) #[.slice (some ⟨w.heap.size + 1, 0, none⟩) 1 1] 1 (by simp) (by decide) rfl
    simpa using h
  have hO : HoldsO (((w.alloc (.cells #[.int .i64 kd, .int .i64 ci] 43)).alloc (.cells #[.int .i64 kd, .int .i64 ci] 43)).alloc (.cells #[.slice (some ⟨w.heap.size + 1, 0, none⟩) 1 1] 23)) (.slice (some ⟨w.heap.size + 1, 0, none⟩) 1 1) 1 (fun _ => ⟨kd, ci⟩) := by
    have h := HoldsO.one ⟨kd, ci⟩ (w.alloc (.cells #[.int .i64 kd, .int .i64 ci] 43))
    have h2 := h.below ((Below.refl _ _).alloc (Nat.le_refl _) (.cells #[.slice (some ⟨w.heap.size + 1, 0, none⟩) 1 1] 23)) (Nat.le_refl _)
    simpa using h2
  have HOWN := Lib.hid hown
  have HO := Lib.hid hO
  clear hall hown hO
  go_enter Try.func41, Try.ntmps41
  go_wp2_with (at_builtin; refine wpList_append_zeros (by rfl) _ _ 22 3 rfl (w.heap.size + 2) 23 i0 _ 24 .i64 .i64 Try.underlying22 Try.underlying3 hi hz0 hz1 hz2 rfl (w.heap.size + 1 + 1) 1 _ rfl HOWN.out M (congrArg (Value.int .i64) (show (if (1 : Int) < 1 + (M : Int) then 1 + (M : Int) - 1 else 0) = M by split <;> omega)) (by unfold maxLen; omega) (by omega) (by simp) ?_)
  all_goals
    intro v6 w6 hown6 hgr6
    have hb6 := (Below.refl _ _).grown hgr6 (Nat.le_refl _) (fun q hq => by simp at hq)
    have HB6 := Lib.hid (HALL.out.trans (hb6.mono HALL.out.size))
    have HO6 := Lib.hid (HO.out.below hb6 (Nat.le_refl _))
    have HW6 := Lib.hid (show w6.ownsRow (w.heap.size + 2) 23 1 v6 (1 + M) (flat lcells (tickL (w.heap.size + 1) kd ci) (1 + M)) by rw [flat_tickL]; exact hown6)
    clear hown6 hgr6 hb6
    go_wp2
    go_ret
    exact ⟨v6, w.heap.size + 1, rfl, by omega, HW6.out, HO6.out, HB6.out⟩
end Go.Proofs.Ytfgkljfoalgkaaa
