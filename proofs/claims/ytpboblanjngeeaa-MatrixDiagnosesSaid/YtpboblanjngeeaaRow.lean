/-
  What every row of this seat shares: the arguments opened; the last step from the walk's end to the row's post.
-/
import Derived.Test.YtpboblanjngeeaaRows
import Derived.Test.YtpboblanjngeeaaBits
import Derived.ProofKit
import Derived.Lib.SmallJoins
namespace Go.Proofs.Ytpboblanjngeeaa
open Go.ChangeShapes Go.WideShapes Go.ChangeAt Go.RowKit Go.Joins

theorem Try.own : ownKnob Try.prog.godebug = none := by kernel_rfl
theorem Try.laidOut : laidOutB Try.prog = true := by kernel_rfl
theorem Try.cells24 : Try.prog.cellsOf 24 = 3 := by kernel_rfl

section
variable {H : Type} {enc : TypeId × Value → H} {P : Program}
theorem trodAll_stays (hl : laidOutB P = true) {W W' : World} {sp : Nat → Bool} (hb : Below W.heap.size W W') : ∀ (ts : List TypeId) (vs : List Value) (ds : List (DataW H)) (ps : List MemPlace),
    (∀ t, t ∈ ts → P.readableRec t = true ∧ t < P.types.size) → DataW.TrodAll enc P W 0 (fun _ => true) true ts vs ds ps → (∀ x, x ∈ ps → x.block < W.heap.size) → (∀ x, x ∈ ps → sp x.block = true) →
    DataW.TrodAll enc P W' 0 sp true ts vs ds ps
  | [], vs, ds, ps, _, h, _, _ => by
    obtain ⟨rfl, rfl, rfl⟩ := trodAll_nil h
    exact rfl
  | t :: ts, vs, ds, ps, hr, h, hlt, hsp => by
    obtain ⟨v, vs1, d, ds1, a, b, rfl, rfl, rfl, h1, h2⟩ := trodAll_cons h
    refine ⟨a, b, ?_, trodAll_stays hl hb ts vs1 ds1 b (fun t' ht' => hr t' (List.mem_cons_of_mem _ ht')) h2 (fun x hx => hlt x (List.mem_append_right _ hx)) (fun x hx => hsp x (List.mem_append_right _ hx)), rfl⟩
    exact WideElems.Trod_stays hl (hr t (by simp)).1 (hr t (by simp)).2 h1 (fun x hx => hb.same (hlt x (List.mem_append_left _ hx))) (fun x hx => hsp x (List.mem_append_left _ hx))

/-- A law's last step: it has handed back true, and of what was there nothing has turned. -/
theorem law_post {f : Func} {s : ChangeSpec} {W W' : World} {args : Array Value} {ds gs : List (DataW H)} {before : List MemPlace} {t : TypeId} (hl : laidOutB P = true)
    (hrow : ∀ t, t ∈ f.params.toList → P.readableRec t = true ∧ t < P.types.size) (hW : DataW.Whole enc P f.params.toList s.vars false W args.toList ds gs before) (hv : s.vars = [])
    (hres : (s.fn H (ds ++ gs)).results = [.lit (.bool true)]) (hargs : (s.fn H (ds ++ gs)).args = ds) (hvars : (s.fn H (ds ++ gs)).vars = [])
    (hrt : f.resultTypes = #[t]) (ht : P.underlying t = some .bool) (hb : Below W.heap.size W W') : s.post enc P f false true false false W args (.bool true) W' := by
  have hlt := hW.lt
  have hW' := hW
  obtain ⟨p, q, hA, hV, rfl, _, _⟩ := hW
  rw [hv] at hV
  have hq : gs = [] ∧ q = [] := by
    cases gs with
    | nil => exact ⟨rfl, hV⟩
    | cons g gs => exact hV.elim
  obtain ⟨rfl, rfl⟩ := hq
  refine ⟨ds, [], p ++ [], [], p, [], hW', ?_, ?_, ?_, hb.frame _, fun h => absurd h Bool.false_ne_true⟩
  · rw [hres, hrt]
    exact trodAll_mk1 (shut_bool ht true)
  · rw [hargs]
    have hlt' : ∀ x, x ∈ p → x.block < W.heap.size := fun x hx => hlt x (by simpa using hx)
    exact trodAll_stays hl hb _ _ _ _ hrow hA hlt' (fun x hx => by simpa using hlt' x hx)
  · rw [hvars, hv]
    exact rfl
end

section
variable {H : Type} {enc : TypeId × Value → H} {W : World} {base : Nat} {sp : Nat → Bool} {held : Bool} {r : Reach} {b0 : Nat} {v : Value} {d : DataW H} {p : List MemPlace}
theorem u64_of_wf {x : Int} (h : (Lit.int .u64 x).wf = true) : ∃ b : BitVec 64, x = U b := by
  simp [Lit.wf, IntKind.min, IntKind.max, IntKind.signed, IntKind.bits] at h
  exact U_of x (by omega) (by omega)
theorem u8_of_wf {x : Int} (h : (Lit.int .u8 x).wf = true) : ∃ b : BitVec 8, x = B8 b := by
  simp [Lit.wf, IntKind.min, IntKind.max, IntKind.signed, IntKind.bits] at h
  exact B8_of x (by omega) (by omega)
theorem open_u64 (hv : Value.okWide Try.prog W r b0 22 v) (h : DataW.Trod enc Try.prog W base sp held 22 v d p) : ∃ x : BitVec 64, v = .int .u64 (U x) := by
  obtain ⟨x, rfl, rfl, rfl, w0⟩ := open_int Try.underlying22 hv h
  obtain ⟨b, rfl⟩ := u64_of_wf w0
  exact ⟨b, rfl⟩
theorem open_u8 (hv : Value.okWide Try.prog W r b0 5 v) (h : DataW.Trod enc Try.prog W base sp held 5 v d p) : ∃ x : BitVec 8, v = .int .u8 (B8 x) := by
  obtain ⟨x, rfl, rfl, rfl, w0⟩ := open_int Try.underlying5 hv h
  obtain ⟨b, rfl⟩ := u8_of_wf w0
  exact ⟨b, rfl⟩
theorem open_i64 (hv : Value.okWide Try.prog W r b0 3 v) (h : DataW.Trod enc Try.prog W base sp held 3 v d p) : ∃ x : Int, v = .int .i64 x ∧ -9223372036854775808 ≤ x ∧ x ≤ 9223372036854775807 := by
  obtain ⟨x, rfl, rfl, rfl, w0⟩ := open_int Try.underlying3 hv h
  simp [Lit.wf, IntKind.min, IntKind.max, IntKind.signed, IntKind.bits] at w0
  exact ⟨x, rfl, by omega, by omega⟩
theorem open_faults (hv : Value.okWide Try.prog W r b0 24 v) (h : DataW.Trod enc Try.prog W base sp held 24 v d p) : ∃ x y z : BitVec 64, v = .agg #[.int .u64 (U x), .int .u64 (U y), .int .u64 (U z)] := by
  obtain ⟨c0, c1, c2, y0, y1, y2, m, rfl, rfl, rfl, h0, h1, h2⟩ := open_agg3 Try.underlying24 (by kernel_rfl) Try.cells24 hv h
  obtain ⟨a, e0, _, wa⟩ := DataW.trod_int Try.underlying22 h0
  obtain ⟨b, e1, _, wb⟩ := DataW.trod_int Try.underlying22 h1
  obtain ⟨c, e2, _, wc⟩ := DataW.trod_int Try.underlying22 h2
  simp at e0 e1 e2
  subst e0 e1 e2
  obtain ⟨x, rfl⟩ := u64_of_wf wa
  obtain ⟨y, rfl⟩ := u64_of_wf wb
  obtain ⟨z, rfl⟩ := u64_of_wf wc
  exact ⟨x, y, z, rfl⟩
end
end Go.Proofs.Ytpboblanjngeeaa
