/-
  What every row of this seat shares: the arguments opened; the last step from the walk's end to the row's post.
-/
import Derived.Test.YtfgkljfoalgkaaaFData
import Derived.ProofKit
import Derived.Lib.SmallJoins
import Derived.Deep.Slices
import Derived.Deep.Fields
import Derived.ChangeSame
namespace Go.Proofs.Ytfgkljfoalgkaaa
open Go.ChangeShapes Go.WideShapes Go.ChangeAt Go.RowKit Go.Joins Go.Deep

theorem Try.own : ownKnob Try.prog.godebug = none := by kernel_rfl
theorem Try.laidOut : laidOutB Try.prog = true := by kernel_rfl

section
variable {H : Type} {enc : TypeId × Value → H} {P : Program}
theorem trodAll_stays (hl : laidOutB P = true) {W W' : World} {sp : Nat → Bool} (hb : Below W.heap.size W W') : ∀ (ts : List TypeId) (vs : List Value) (ds : List (DataW H)) (ps : List MemPlace),
    (∀ t, t ∈ ts → P.readableRec t = true ∧ t < P.types.size) → DataW.TrodAll enc P W 0 (fun _ => true) true ts vs ds ps → (∀ x, x ∈ ps → x.block < W.heap.size) → (∀ x, x ∈ ps → sp x.block = true) →
    DataW.TrodAll enc P W' 0 sp true ts vs ds ps
  | [], vs, ds, ps, _, h, _, _ => by
    obtain ⟨rfl, rfl, rfl⟩ := trodAll_nil h
    exact rfl
  | t :: ts, vs, ds, ps, hr, h, hlt, hsp => by
    obtain ⟨v, vs1, d, ds1, a, b, rfl, rfl, rfl, h1, h2⟩ := trodAll_cons h
    refine ⟨a, b, ?_, trodAll_stays hl hb ts vs1 ds1 b (fun t' ht' => hr t' (List.mem_cons_of_mem _ ht')) h2 (fun x hx => hlt x (List.mem_append_right _ hx)) (fun x hx => hsp x (List.mem_append_right _ hx)), rfl⟩
    exact WideElems.Trod_stays hl (hr t (by simp)).1 (hr t (by simp)).2 h1 (fun x hx => hb.same (hlt x (List.mem_append_left _ hx))) (fun x hx => hsp x (List.mem_append_left _ hx))

/-- A law's last step: it has handed back true, and of what was there nothing has turned. -/
theorem law_post {f : Func} {s : ChangeSpec} {W W' : World} {args : Array Value} {ds gs : List (DataW H)} {before : List MemPlace} {t : TypeId} (hl : laidOutB P = true)
    (hrow : ∀ t, t ∈ f.params.toList → P.readableRec t = true ∧ t < P.types.size) (hW : DataW.Whole enc P f.params.toList s.vars false W args.toList ds gs before) (hv : s.vars = [])
    (hres : (s.fn H (ds ++ gs)).results = [.lit (.bool true)]) (hargs : (s.fn H (ds ++ gs)).args = ds) (hvars : (s.fn H (ds ++ gs)).vars = [])
    (hrt : f.resultTypes = #[t]) (ht : P.underlying t = some .bool) (hb : Below W.heap.size W W') : s.post enc P f false true false false W args (.bool true) W' := by
  have hlt := hW.lt
  have hW' := hW
  obtain ⟨p, q, hA, hV, rfl, _, _⟩ := hW
  rw [hv] at hV
  have hq : gs = [] ∧ q = [] := by
    cases gs with
    | nil => exact ⟨rfl, hV⟩
    | cons g gs => exact hV.elim
  obtain ⟨rfl, rfl⟩ := hq
  refine ⟨ds, [], p ++ [], [], p, [], hW', ?_, ?_, ?_, hb.frame _, fun h => absurd h Bool.false_ne_true⟩
  · rw [hres, hrt]
    exact trodAll_mk1 (shut_bool ht true)
  · rw [hargs]
    have hlt' : ∀ x, x ∈ p → x.block < W.heap.size := fun x hx => hlt x (by simpa using hx)
    exact trodAll_stays hl hb _ _ _ _ hrow hA hlt' (fun x hx => by simpa using hlt' x hx)
  · rw [hvars, hv]
    exact rfl
end


section
variable {H : Type} {enc : TypeId × Value → H} {P : Program} {w : World} {base : Nat} {spare : Nat → Bool} {held : Bool}
theorem open_slice_fields {t e : TypeId} {fs : Array Field} {fuel : Nat} {cs : List Value} {x : DataW H × List MemPlace} (ht : P.underlying t = some (.slice e)) (he : P.underlying e = some (.struct fs))
    (hone : oneCellFields P fs = true) (hC : P.cellsOf e = fs.size) (h : DataW.trod enc P w base spare held fuel t cs = some x) :
    (cs = [.slice none 0 0] ∧ x = (.nil, [])) ∨
    ∃ (a : Addr) (len cap m : Nat) (D : Nat → DataW H) (Pl : Nat → List MemPlace), cs = [.slice (some a) len cap] ∧ base ≤ a.block ∧ len ≤ cap ∧ cap ≤ maxLen ∧ m = (if spare a.block then cap else len) ∧
      x = (.slice ((List.range len).map D) ((List.range (m - len)).map fun j => D (len + j)), MemPlace.row a (m * fs.size) ++ (List.range m).flatMap Pl) ∧
      ∀ i, i < m → ∃ (ys : List (DataW H × List MemPlace)) (n : Nat), D i = .agg (ys.map (·.1)) ∧ Pl i = ys.flatMap (·.2) ∧ ys.length = fs.size ∧
        ∀ (j : Nat) (f : Field), fs[j]? = some f → ∃ (v : Value) (y : DataW H × List MemPlace), w.cell? (a.add (i * fs.size + j)) = some v ∧ ys[j]? = some y ∧ DataW.trod enc P w base spare held n f.type [v] = some y := by
  rcases open_slice ht h with h0 | ⟨a, len, cap, m, n, D, Pl, hcs, hb, hl, hm, hmm, hx, hi⟩
  · exact .inl h0
  · refine .inr ⟨a, len, cap, m, D, Pl, hcs, hb, hl, hm, hmm, by rw [hC] at hx; exact hx, fun i him => ?_⟩
    obtain ⟨cs', hc, ht'⟩ := hi i him
    rw [hC] at hc
    obtain ⟨ys, n', hn', hy, hlen, hyl, hf⟩ := DataW.trod_struct he ht'
    obtain ⟨_, hcl, hat⟩ := World.cells?_some hc
    simp only [Prod.mk.injEq] at hy
    refine ⟨ys, n', hy.1, hy.2, hyl, fun j f hj => ?_⟩
    obtain ⟨ho, hk⟩ := hone_of hone j f hj
    have hjl : j < fs.size := (Array.getElem?_eq_some_iff.1 hj).1
    have hcell := hat j hjl
    have hv : cs'[j]? = some (cs'[j]'(by omega)) := List.getElem?_eq_getElem (by omega)
    have h1 := hf j f hj
    rw [ho, hk] at h1
    have hone' : (cs'.drop j).take 1 = [cs'[j]'(by omega)] := by
      rw [List.drop_eq_getElem_cons (by omega)]
      rfl
    rw [hone'] at h1
    have hys : ys[j]? = some (ys[j]'(by omega)) := List.getElem?_eq_getElem (by omega)
    refine ⟨_, _, ?_, hys, h1.trans hys⟩
    rw [← Go.Deep.add_add, hcell, hv]

/-- A slice of structs of one-cell fields, read as a list of records: each element's cells are those of some record. -/
theorem open_rows {α : Type} (dflt : α) {cells : α → List Value} {size : Nat} {t e : TypeId} {fs : Array Field} {fuel : Nat} {a0 : Option Addr} {len0 cap0 : Nat} {x : DataW H × List MemPlace} (ht : P.underlying t = some (.slice e)) (he : P.underlying e = some (.struct fs))
    (hone : oneCellFields P fs = true) (hC : P.cellsOf e = fs.size) (hz : fs.size = size) (hs : ∀ x, (cells x).length = size) (hpos : 0 < size)
    (hel : ∀ V : Nat → Value, (∀ (j : Nat) (f : Field), fs[j]? = some f → ∃ (n : Nat) (y : DataW H × List MemPlace), DataW.trod enc P w base spare held n f.type [V j] = some y) → ∃ x : α, ∀ k u, (cells x)[k]? = some u → V k = u)
    (h : DataW.trod enc P w base spare held fuel t [.slice a0 len0 cap0] = some x) : ∃ E : Nat → α, Holds cells size w (.slice a0 len0 cap0) len0 E := by
  classical
  rcases open_slice_fields ht he hone hC h with ⟨hc, _⟩ | ⟨a, len, cap, m, D, Pl, hc, _, hl, _, hmm, _, hall⟩
  · simp at hc
    obtain ⟨rfl, rfl, rfl⟩ := hc
    exact ⟨fun _ => dflt, none, 0, rfl, .inl rfl⟩
  · simp at hc
    obtain ⟨rfl, rfl, rfl⟩ := hc
    have hlm : len0 ≤ m := by rw [hmm]; split <;> omega
    by_cases h0 : len0 = 0
    · exact ⟨fun _ => dflt, _, _, rfl, .inl h0⟩
    have hx : ∀ i, i < len0 → ∃ x : α, ∀ k u, (cells x)[k]? = some u → w.cell? (a.add (i * size + k)) = some u := by
      intro i hi
      obtain ⟨ys, n, _, _, _, hf⟩ := hall i (by omega)
      rw [hz] at hf
      obtain ⟨x, hx⟩ := hel (fun j => (w.cell? (a.add (i * size + j))).getD undef) (fun j f hj => by
        obtain ⟨v, y, h1, _, h3⟩ := hf j f hj
        rw [h1]
        exact ⟨n, y, h3⟩)
      refine ⟨x, fun k u hu => ?_⟩
      have hk : k < fs.size := by rw [hz, ← hs x]; exact (List.getElem?_eq_some_iff.1 hu).1
      obtain ⟨v, y, h1, _, _⟩ := hf k fs[k] (Array.getElem?_eq_getElem hk)
      have := hx k u hu
      rw [h1] at this
      rw [h1, ← this]; rfl
    obtain ⟨x0, hx0⟩ := hx 0 (by omega)
    have hc0 : w.cell? (a.add (0 * size + 0)) = some ((cells x0)[0]'(by rw [hs]; exact hpos)) := hx0 0 _ (List.getElem?_eq_getElem _)
    obtain ⟨b, off, spot⟩ := a
    have hspot : spot = none := by simpa [Addr.add] using World.cell?_spot hc0
    subst hspot
    have hlt : b < w.heap.size := by
      have h9 := World.block_lt_of_cell? _ _ hc0
      rw [Go.WideShapes.add_plain] at h9
      exact h9
    refine ⟨fun i => if hi : i < len0 then Classical.choose (hx i hi) else dflt, some ⟨b, off, none⟩, cap0, rfl, .inr ⟨b, off, rfl, hlt, fun j hj k u hu => ?_⟩⟩
    have hu' : (cells (Classical.choose (hx j hj)))[k]? = some u := by
      have e : (if hi : j < len0 then Classical.choose (hx j hi) else dflt) = Classical.choose (hx j hj) := dif_pos hj
      have hu2 : (cells (if hi : j < len0 then Classical.choose (hx j hi) else dflt))[k]? = some u := hu
      rwa [e] at hu2
    have := Classical.choose_spec (hx j hj) k u hu'
    rw [Go.WideShapes.add_plain] at this
    rw [Nat.add_assoc]
    exact this
end

section
variable {H : Type} {enc : TypeId × Value → H} {Wo : World} {base : Nat} {sp : Nat → Bool} {held : Bool} {r : Reach} {b0 : Nat} {v : Value} {d : DataW H} {p : List MemPlace} {fuel : Nat} {x : DataW H × List MemPlace}
theorem Try.cells79 : Try.prog.cellsOf 79 = 2 := by kernel_rfl
theorem Try.cells83 : Try.prog.cellsOf 83 = 2 := by kernel_rfl
theorem Try.cells25 : Try.prog.cellsOf 25 = 6 := by kernel_rfl
theorem Try.cells34 : Try.prog.cellsOf 34 = 3 := by kernel_rfl
theorem Try.cells43 : Try.prog.cellsOf 43 = 2 := by kernel_rfl
theorem Try.cells66 : Try.prog.cellsOf 66 = 3 := by kernel_rfl
theorem fuse_len (x : Fuse) : (Fuse.cells x).length = 2 := rfl
theorem coil_len (x : Coil) : (Coil.cells x).length = 6 := rfl
theorem trod_i64 {n : Nat} {y : DataW H × List MemPlace} {V : Value} (h : DataW.trod enc Try.prog Wo base sp held n 3 [V] = some y) : ∃ q : Int, V = .int .i64 q := by
  obtain ⟨q, e, _⟩ := DataW.trod_int Try.underlying3 h
  simp at e
  exact ⟨q, e⟩
theorem trod_b {n : Nat} {y : DataW H × List MemPlace} {V : Value} (h : DataW.trod enc Try.prog Wo base sp held n 4 [V] = some y) : ∃ q : Bool, V = .bool q := by
  obtain ⟨q, e, _⟩ := DataW.trod_bool Try.underlying4 h
  simp at e
  exact ⟨q, e⟩
theorem rows_fuse {a0 : Option Addr} {len0 cap0 : Nat} (h : DataW.trod enc Try.prog Wo base sp held fuel 63 [.slice a0 len0 cap0] = some x) : ∃ E, HoldsF Wo (.slice a0 len0 cap0) len0 E := by
  refine open_rows ⟨0, 0⟩ Try.underlying63 Try.underlying79 (by kernel_rfl) Try.cells79 rfl fuse_len (by decide) (fun V hV => ?_) h
  obtain ⟨n0, y0, h0⟩ := hV 0 _ rfl
  obtain ⟨n1, y1, h1⟩ := hV 1 _ rfl
  obtain ⟨q0, e0⟩ := trod_i64 h0
  obtain ⟨q1, e1⟩ := trod_i64 h1
  refine ⟨⟨q0, q1⟩, fun k u hu => ?_⟩
  match k, hu with
  | 0, hu => simp [Fuse.cells] at hu; rw [e0, hu]
  | 1, hu => simp [Fuse.cells] at hu; rw [e1, hu]
  | k + 2, hu => simp [Fuse.cells] at hu
theorem rows_fs {a0 : Option Addr} {len0 cap0 : Nat} (h : DataW.trod enc Try.prog Wo base sp held fuel 64 [.slice a0 len0 cap0] = some x) : ∃ E, HoldsT Wo (.slice a0 len0 cap0) len0 E := by
  refine open_rows ⟨0, false⟩ Try.underlying64 Try.underlying83 (by kernel_rfl) Try.cells83 rfl fs_len (by decide) (fun V hV => ?_) h
  obtain ⟨n0, y0, h0⟩ := hV 0 _ rfl
  obtain ⟨n1, y1, h1⟩ := hV 1 _ rfl
  obtain ⟨q0, e0⟩ := trod_i64 h0
  obtain ⟨q1, e1⟩ := trod_b h1
  refine ⟨⟨q0, q1⟩, fun k u hu => ?_⟩
  match k, hu with
  | 0, hu => simp [FS.cells] at hu; rw [e0, hu]
  | 1, hu => simp [FS.cells] at hu; rw [e1, hu]
  | k + 2, hu => simp [FS.cells] at hu
theorem rows_coil {a0 : Option Addr} {len0 cap0 : Nat} (h : DataW.trod enc Try.prog Wo base sp held fuel 32 [.slice a0 len0 cap0] = some x) : ∃ E, HoldsC Wo (.slice a0 len0 cap0) len0 E := by
  refine open_rows ⟨0, 0, 0, 0, 0, 0⟩ Try.underlying32 Try.underlying25 (by kernel_rfl) Try.cells25 rfl coil_len (by decide) (fun V hV => ?_) h
  obtain ⟨n0, y0, h0⟩ := hV 0 _ rfl
  obtain ⟨n1, y1, h1⟩ := hV 1 _ rfl
  obtain ⟨n2, y2, h2⟩ := hV 2 _ rfl
  obtain ⟨n3, y3, h3⟩ := hV 3 _ rfl
  obtain ⟨n4, y4, h4⟩ := hV 4 _ rfl
  obtain ⟨n5, y5, h5⟩ := hV 5 _ rfl
  obtain ⟨q0, e0⟩ := trod_i64 h0
  obtain ⟨q1, e1⟩ := trod_i64 h1
  obtain ⟨q2, e2⟩ := trod_i64 h2
  obtain ⟨q3, e3⟩ := trod_i64 h3
  obtain ⟨q4, e4⟩ := trod_i64 h4
  obtain ⟨q5, e5⟩ := trod_i64 h5
  refine ⟨⟨q0, q1, q2, q3, q4, q5⟩, fun k u hu => ?_⟩
  match k, hu with
  | 0, hu => simp [Coil.cells] at hu; rw [e0, hu]
  | 1, hu => simp [Coil.cells] at hu; rw [e1, hu]
  | 2, hu => simp [Coil.cells] at hu; rw [e2, hu]
  | 3, hu => simp [Coil.cells] at hu; rw [e3, hu]
  | 4, hu => simp [Coil.cells] at hu; rw [e4, hu]
  | 5, hu => simp [Coil.cells] at hu; rw [e5, hu]
  | k + 6, hu => simp [Coil.cells] at hu
theorem slice_of_trod {t e : TypeId} {n : Nat} {V : Value} (ht : Try.prog.underlying t = some (.slice e)) (h : DataW.trod enc Try.prog Wo base sp held n t [V] = some x) : ∃ a l c, V = .slice a l c := by
  rcases open_slice ht h with ⟨hc, _⟩ | ⟨a, len, cap, _, _, _, _, hc, _⟩
  · simp at hc
    exact ⟨_, _, _, hc⟩
  · simp at hc
    exact ⟨_, _, _, hc⟩
set_option maxRecDepth 100000 in
theorem open_panel (hv : Value.okWide Try.prog Wo r b0 66 v) (h : DataW.Trod enc Try.prog Wo base sp held 66 v d p) :
    ∃ v1 v2 v3 n c m F C S, v = .agg #[v1, v2, v3] ∧ HoldsF Wo v1 n F ∧ HoldsC Wo v2 c C ∧ HoldsT Wo v3 m S := by
  obtain ⟨c0, c1, c2, y0, y1, y2, k, rfl, rfl, rfl, h0, h1, h2⟩ := open_agg3 Try.underlying66 (by kernel_rfl) Try.cells66 hv h
  obtain ⟨a, l, c, rfl⟩ := slice_of_trod Try.underlying63 h0
  obtain ⟨a', l', c', rfl⟩ := slice_of_trod Try.underlying32 h1
  obtain ⟨a'', l'', c'', rfl⟩ := slice_of_trod Try.underlying64 h2
  obtain ⟨F, hF⟩ := rows_fuse h0
  obtain ⟨C, hC⟩ := rows_coil h1
  obtain ⟨S, hS⟩ := rows_fs h2
  exact ⟨_, _, _, l, l', l'', F, C, S, rfl, hF, hC, hS⟩
set_option maxRecDepth 100000 in
theorem u32_of_wf {q : Int} (h : (Lit.int .u32 q).wf = true) : ∃ b : BitVec 32, q = W b := by
  simp [Lit.wf, IntKind.min, IntKind.max, IntKind.signed, IntKind.bits] at h
  exact W_of q (by omega) (by omega)
set_option maxRecDepth 100000 in
theorem open_u32 (hv : Value.okWide Try.prog Wo r b0 46 v) (h : DataW.Trod enc Try.prog Wo base sp held 46 v d p) : ∃ q : BitVec 32, v = .int .u32 (W q) := by
  obtain ⟨q, rfl, rfl, rfl, w0⟩ := open_int Try.underlying46 hv h
  obtain ⟨b, rfl⟩ := u32_of_wf w0
  exact ⟨b, rfl⟩
set_option maxRecDepth 100000 in
theorem open_i64 (hv : Value.okWide Try.prog Wo r b0 3 v) (h : DataW.Trod enc Try.prog Wo base sp held 3 v d p) : ∃ q : Int, v = .int .i64 q ∧ -9223372036854775808 ≤ q ∧ q ≤ 9223372036854775807 := by
  obtain ⟨q, rfl, rfl, rfl, w0⟩ := open_int Try.underlying3 hv h
  simp [Lit.wf, IntKind.min, IntKind.max, IntKind.signed, IntKind.bits] at w0
  exact ⟨q, rfl, by omega, by omega⟩
end
end Go.Proofs.Ytfgkljfoalgkaaa
