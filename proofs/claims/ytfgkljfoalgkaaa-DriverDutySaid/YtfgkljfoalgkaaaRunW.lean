/-
  driver.Run walked: for drives of valid coils and lists within the limits: the drives behind all ticks, and the sets; else the error.
-/
import Derived.Test.YtfgkljfoalgkaaaRunC
namespace Go.Proofs.Ytfgkljfoalgkaaa
open Go.RowKit Go.Deep

theorem owns_keep {w w' : World} {base B : Nat} {e : TypeId} {size : Nat} {v : Value} {n : Nat} {xs : List Value} (h : w.ownsRow base e size v n xs) (hb : Below B w w') (hB : w.heap.size ≤ B) : w'.ownsRow base e size v n xs := by
  refine ⟨h.1, h.2.imp id ?_⟩
  rintro ⟨g, cap, cur, hv, hg, hc, hr⟩
  exact ⟨g, cap, cur, hv, hg, (hb.block g (Nat.lt_of_lt_of_le (h.lt g (by rw [hv]; rfl)).2 hB)).trans hc, hr⟩
theorem Try.info46 : (Try.prog.info? 46).map (fun i => (i.zero, i.size, i.bytes)) = some (some (.int .u32 0), 1, 4) := by kernel_rfl
theorem boxW_at (X : World) (x : BitVec 32) : ∀ j u, (wcells x)[j]? = some u → (X.alloc (.cells #[.int .u32 (W x)] 46)).cell? ((⟨X.heap.size, 0, none⟩ : Addr).add j) = some u := by
  intro j u hu
  rw [Go.WideShapes.add_plain, Nat.zero_add]
  have hb := blk_alloc_new X (.cells #[.int .u32 (W x)] 46)
  unfold World.cell?
  simp only [hb]
  rw [← hu]
  simp [wcells]
/-- The slice value lies behind the block b. -/
def Fresh (b : Nat) (v : Value) : Prop := ∀ a n c, v = .slice (some a) n c → b ≤ a.block
theorem Holds.grown {α : Type} {cells : α → List Value} {size : Nat} {w w' : World} {v : Value} {n b : Nat} {f : Nat → α} {row : Option Nat} (h : Holds cells size w v n f) (hf : Fresh b v) (hg : w.grownBy w' row) (hs : w.heap.size ≤ w'.heap.size) (hr : ∀ q, row = some q → q < b) : Holds cells size w' v n f := by
  obtain ⟨a, cap, hv, h⟩ := h
  refine ⟨a, cap, hv, h.imp id fun ⟨g, off, h1, h2, h3⟩ => ⟨g, off, h1, Nat.lt_of_lt_of_le h2 hs, fun j hj k u hu => ?_⟩⟩
  subst h1
  have hb := hf _ _ _ hv
  rw [hg.cell_far ⟨g, off + j * size + k, none⟩ h2 (fun e => by have := hr g e.symm; have : b ≤ g := hb; omega)]
  exact h3 j hj k u hu
/-- What Tick's contract says. -/
def TickC : Prop := ∀ (v1 v2 : Value) (n m : Nat) (C : Nat → Coil) (D : Nat → Drive) (w : World), StateP n C m D → HoldsC w v1 n C → HoldsD w v2 m D →
    Calls Try.prog 35 #[v1, v2] w fun e w' => ∃ v', e = .returned (.tuple #[v', .int .u32 (W (setTo C D m)), .int .i64 0]) ∧ HoldsD w' v' m (nextAll C D) ∧ Fresh w.heap.size v' ∧ Below w.heap.size w w'
/-- An order obeyed, or refused. -/
theorem apply_yes {n m : Nat} {C : Nat → Coil} {D : Nat → Drive} {o : Order} (hE : applyE n C D o = 0) (v1 v2 : Value) (w : World) (hS : StateP n C m D) (h1 : HoldsC w v1 n C) (h2 : HoldsD w v2 m D) :
    Calls Try.prog 33 #[v1, v2, .agg #[.int .i64 o.kind, .int .i64 o.coil]] w fun e w' => ∃ v', e = .returned (.tuple #[v', .int .i64 0]) ∧ HoldsD w' v' m (applyD n C D o) ∧ Below w.heap.size w w' := by
  obtain ⟨c0, c1, k1, k4, h4, h5⟩ := applyE_zero hE
  obtain ⟨i, hi⟩ : ∃ i : Nat, o.coil = i := ⟨o.coil.toNat, by omega⟩
  have ht : o.coil.toNat = i := by omega
  have hD : applyD n C D o = updD D i (obeyF (C i) (D i) o.kind) := by unfold applyD; rw [if_pos hE, ht]
  rw [hD, hi]
  rw [ht] at h4 h5
  exact apply_ok v1 v2 n m C D o.kind i w hS h1 h2 (by have := hS.2.1; omega) k1 k4 (fun h ho => h4 ⟨h, ho⟩) (fun h ho => h5 ⟨h, ho⟩)
theorem run_arg (v1 v2 v3 : Value) (n m : Nat) (C : Nat → Coil) (D : Nat → Drive) (w : World) (hS : ¬ StateP n C m D) (h1 : HoldsC w v1 n C) (h2 : HoldsD w v2 m D) :
    Calls Try.prog 24 #[v1, v2, v3] w fun e w' => e = .returned (.tuple #[.slice none 0 0, .slice none 0 0, .int .i64 1]) ∧ Below w.heap.size w w' := by
  have HC := Lib.hid (isState_no hS _ h1 h2)
  clear h1 h2
  go_enter Try.func24, Try.ntmps24
  go_wp2_with fail
  refine HC.out.mono ?_
  rintro e w1 ⟨rfl, hb1⟩
  have Hb1 := Lib.hid hb1
  clear hb1
  go_wp2
  go_ret3
  exact ⟨rfl, Hb1.out⟩
set_option maxHeartbeats 1600000 in
theorem run_limit (v1 v2 v3 : Value) (n m nt : Nat) (C : Nat → Coil) (D : Nat → Drive) (L : Nat → OL) (w : World) (hS : StateP n C m D) (h1 : HoldsC w v1 n C) (h2 : HoldsD w v2 m D) (h3 : HoldsL w v3 nt L)
    (hl : 4096 < nt ∨ ∃ i, i < nt ∧ 4096 < (L i).n) :
    Calls Try.prog 24 #[v1, v2, v3] w fun e w' => e = .returned (.tuple #[.slice none 0 0, .slice none 0 0, .int .i64 9]) ∧ Below w.heap.size w w' := by
  have HC := Lib.hid (isState_yes hS _ h1 h2)
  obtain ⟨a3, cap3, rfl, _⟩ := id h3.1
  have H3 := Lib.hid h3
  clear h1 h2 h3
  by_cases hnt : 4096 < nt
  · have t1 : decide (4096 < (nt : Int)) = true := by simp; omega
    go_enter Try.func24, Try.ntmps24
    go_wp2_with fail
    refine HC.out.mono ?_
    rintro e w1 ⟨rfl, hb1⟩
    have Hb1 := Lib.hid hb1
    clear hb1
    go_wp2
    go_ret3
    exact ⟨rfl, Hb1.out⟩
  · have t1 : decide (4096 < (nt : Int)) = false := by simp; omega
    have HX := Lib.hid (hl.resolve_left hnt)
    have hnt' : nt ≤ 4096 := by omega
    clear hl
    go_enter Try.func24, Try.ntmps24
    go_wp2_with fail
    refine HC.out.mono ?_
    rintro e w1 ⟨rfl, hb1⟩
    have Hb1 := Lib.hid hb1
    clear hb1
    go_wp2_with fail
    refine (containsL _ nt L _ (by omega) (H3.out.below Hb1.out (Nat.le_refl _))).mono ?_
    rintro e w2 ⟨b, rfl, hb, hb2⟩
    have Hb2 := Lib.hid (Hb1.out.trans (hb2.mono Hb1.out.size))
    cases b with
    | false =>
      exfalso
      obtain ⟨i, hi, h⟩ := HX.out
      have := hb.1 rfl i hi
      omega
    | true =>
      clear hb hb2
      go_wp2
      go_ret3
      exact ⟨rfl, Hb2.out⟩
set_option maxRecDepth 100000 in
set_option maxHeartbeats 12800000 in
theorem run_ok (tick : TickC) (v1 v2 v3 : Value) (n m nt : Nat) (C : Nat → Coil) (D : Nat → Drive) (L : Nat → OL) (w : World) (hS : StateP n C m D) (h1 : HoldsC w v1 n C) (h2 : HoldsD w v2 m D) (h3 : HoldsL w v3 nt L)
    (hnt : nt ≤ 4096) (hln : ∀ i, i < nt → (L i).n ≤ 4096) :
    Calls Try.prog 24 #[v1, v2, v3] w fun e w' => ∃ v' vs, e = .returned (.tuple #[v', vs, .int .i64 0]) ∧ HoldsD w' v' m (run n C D L nt) ∧ HoldsW w' vs nt (setAt n C D L) ∧ Below w.heap.size w w' := by
  have HC := Lib.hid (isState_yes hS _ h1 h2)
  obtain ⟨a1, cap1, rfl, _⟩ := id h1
  obtain ⟨a2, cap2, rfl, _⟩ := id h2
  obtain ⟨a3, cap3, rfl, _⟩ := id h3.1
  have hmn := hS.2.1
  subst hmn
  have hm32 := (validE_zero hS.1).1
  have HS := Lib.hid hS
  have H1 := Lib.hid h1
  have H2 := Lib.hid h2
  have H3 := Lib.hid h3
  have HLN := Lib.hid hln
  clear h1 h2 h3 hS hln
  have t1 : decide (4096 < (nt : Int)) = false := by simp; omega
  obtain ⟨i0, hi, hz0, hz1, hz2⟩ := info_parts Try.info46
  go_enter Try.func24, Try.ntmps24
  go_wp2_with fail
  refine HC.out.mono ?_
  rintro e w1 ⟨rfl, hb1⟩
  have Hb1 := Lib.hid hb1
  clear hb1 HC
  go_wp2_with fail
  refine (containsL _ nt L _ (by omega) (H3.out.below Hb1.out (Nat.le_refl _))).mono ?_
  rintro e w2 ⟨b, rfl, hb, hb2⟩
  have hbf : b = false := hb.2 HLN.out
  subst hbf
  have Hb2 := Lib.hid (Hb1.out.trans (hb2.mono Hb1.out.size))
  clear hb hb2 Hb1
  go_wp2_with fail
  refine (clone_any _ m D _ (by omega) (H2.out.below Hb2.out (Nat.le_refl _))).mono ?_
  rintro e w3 ⟨v', rfl, hown, hb3⟩
  have Hb3 := Lib.hid (Hb2.out.trans (hb3.mono Hb2.out.size))
  have HD3 := Lib.hid (Holds.of_owns drive_len hown)
  clear hown hb3 Hb2
  go_wp2
  go_loopg [9, 10, 35] nt (fun gg s q i wr => ∃ t : Nat, t ≤ nt ∧ gg = nt - t ∧ i = .int .i64 t ∧ HoldsD wr s m (run m C D L t) ∧ wr.ownsRow w.heap.size 46 1 q t (flat wcells (setAt m C D L) t) ∧ Below w.heap.size w wr)
  case atStart => exact ⟨0, by omega, rfl, rfl, HD3.out, World.ownsRow_nil _ _ _ _, Hb3.out⟩
  case round =>
    clear HD3 Hb3
    obtain ⟨t, ht, hgg, rfl, hD, hR, hb⟩ := hrel
    have Hg := Lib.hid hgg
    have HD := Lib.hid hD
    have HR := Lib.hid hR
    have Hb := Lib.hid hb
    have hsz := hb.size
    clear hgg hD hR hb
    by_cases htn : t < nt
    · obtain ⟨g3, o3, rfl, l3, hc3⟩ := H3.out.1.open2 htn
      have c3 := list_cell (hc3 _ Hb.out) htn
      have b1 : (0 : Int) ≤ (t : Int) := by omega
      have b2 : (t : Int) < (nt : Int) := by omega
      have b3 : decide ((t : Int) < (nt : Int)) = true := by simp; omega
      have HO := Lib.hid (H3.out.2 t htn)
      have hlt := HLN.out t htn
      have HSt := Lib.hid (run_state L HS.out t)
      obtain ⟨al, nl, cl, ol, hL⟩ : ∃ al nl cl ol, L t = ⟨al, nl, cl, ol⟩ := ⟨_, _, _, _, rfl⟩
      rw [hL] at c3 hlt HO
      have HLT := Lib.hid hL
      clear hc3 hL
      go_wp2
      go_loopg [9, 41] nl (fun gg s i wx => ∃ k : Nat, k ≤ nl ∧ gg = nl - k ∧ i = .int .i64 k ∧ HoldsD wx s m (orders m C (run m C D L t) ol k) ∧ Below wr.heap.size wr wx)
      case atStart => exact ⟨0, by omega, rfl, rfl, HD.out, Below.refl _ _⟩
      case round =>
        obtain ⟨k, hk, hgk, rfl, hDk, hbk⟩ := hrel
        have Hgk := Lib.hid hgk
        have HDk := Lib.hid hDk
        have Hbk := Lib.hid hbk
        have Hbw := Lib.hid (Hb.out.trans (hbk.mono Hb.out.size))
        have hsw := Hbw.out.size
        clear hgk hDk hbk
        have HSk := Lib.hid (orders_state ol HSt.out k)
        by_cases hkl : k < nl
        · obtain ⟨g4, o4, e4, l4, hc4⟩ := Holds.open2 HO.out hkl
          simp only at e4
          subst e4
          obtain ⟨d0, d1⟩ := order_cells (hc4 _ Hbw.out) hkl
          have b4 : (0 : Int) ≤ (k : Int) := by omega
          have b5 : (k : Int) < (nl : Int) := by omega
          have b6 : decide ((k : Int) < (nl : Int)) = true := by simp; omega
          have lw4 : g4 < wr.heap.size := by omega
          clear hc4
          have HBX := Lib.hid (show Below w.heap.size w (wr.alloc (.cells #[.int .i64 (ol k).kind, .int .i64 (ol k).coil] 43)) from Hbw.out.alloc hsw _)
          have hbx : Below wr.heap.size wr (wr.alloc (.cells #[.int .i64 (ol k).kind, .int .i64 (ol k).coil] 43)) := (Below.refl _ _).alloc (Nat.le_refl _) _
          by_cases hE : applyE m C (orders m C (run m C D L t) ol k) (ol k) = 0
          · have HY := Lib.hid (fun v2 => apply_yes hE (.slice a1 m cap1) v2 (wr.alloc (.cells #[.int .i64 (ol k).kind, .int .i64 (ol k).coil] 43)) HSk.out (H1.out.below HBX.out (Nat.le_refl _)))
            have HD2 := Lib.hid (HDk.out.below hbx (Nat.le_refl _))
            clear hE
            go_wp2_with fail
            refine (HY.out _ HD2.out).mono ?_
            rintro e w5 ⟨v5, rfl, hD5, hb5⟩
            have HD5 := Lib.hid hD5
            have HB5 := Lib.hid (Hbk.out.trans ((hbx.trans (hb5.mono (by simp))).mono Hbk.out.size))
            clear hD5 hb5
            go_wp2
            go_roundg (nl - (k + 1))
            case measure => have := Hgk.out; omega
            case rel => exact ⟨k + 1, by omega, rfl, by go_num, HD5.out, HB5.out⟩
          · have HY := Lib.hid (fun v2 (hv2 : HoldsD (wr.alloc (.cells #[.int .i64 (ol k).kind, .int .i64 (ol k).coil] 43)) v2 m (orders m C (run m C D L t) ol k)) => apply_err (.slice a1 m cap1) v2 m m C (orders m C (run m C D L t) ol k) (ol k) (wr.alloc (.cells #[.int .i64 (ol k).kind, .int .i64 (ol k).coil] 43)) HSk.out (H1.out.below HBX.out (Nat.le_refl _)) hv2 hE)
            have HD2 := Lib.hid (HDk.out.below hbx (Nat.le_refl _))
            have HN := Lib.hid (show orders m C (run m C D L t) ol (k + 1) = orders m C (run m C D L t) ol k by show applyD _ _ _ _ = _; unfold applyD; rw [if_neg hE])
            obtain ⟨E, hEE⟩ : ∃ E, applyE m C (orders m C (run m C D L t) ol k) (ol k) = E := ⟨_, rfl⟩
            rw [hEE] at hE
            have t2 : (E == 0) = false := by rw [Bool.eq_false_iff]; intro h; exact hE (eq_of_beq h)
            have HEE := Lib.hid hEE
            clear hE hEE
            go_wp2_with fail
            refine (HY.out _ HD2.out).mono ?_
            rintro e w5 ⟨rfl, hb5⟩
            rw [HEE.out]
            have HB5 := Lib.hid (Hbk.out.trans ((hbx.trans (hb5.mono (by simp))).mono Hbk.out.size))
            have HD5 := Lib.hid ((HD2.out.below hb5 (Nat.le_refl _)))
            clear hb5
            go_wp2
            go_roundg (nl - (k + 1))
            case measure => have := Hgk.out; omega
            case rel => exact ⟨k + 1, by omega, rfl, by go_num, by rw [HN.out]; exact HD5.out, HB5.out⟩
        · have b6 : decide ((k : Int) < (nl : Int)) = false := by simp; omega
          have hkl' : k = nl := by omega
          have hO : orders m C (run m C D L t) ol k = orders m C (run m C D L t) (L t).os (L t).n := by rw [hkl', HLT.out]
          have HD2 := Lib.hid (show HoldsD wr _ m (orders m C (run m C D L t) (L t).os (L t).n) from hO ▸ HDk.out)
          have HS2 := Lib.hid (show StateP m C m (orders m C (run m C D L t) (L t).os (L t).n) from hO ▸ HSk.out)
          have HR2 := Lib.hid (owns_keep HR.out Hbk.out (Nat.le_refl _))
          clear hO hkl'
          go_wp2_with fail
          refine (tick (.slice a1 m cap1) _ m m C _ wr HS2.out (H1.out.below Hbw.out (Nat.le_refl _)) HD2.out).mono ?_
          rintro e w5 ⟨v5, rfl, hD5, hf5, hb5⟩
          have HD5 := Lib.hid hD5
          have HF5 := Lib.hid hf5
          have HB5 := Lib.hid (Hbw.out.trans (hb5.mono Hbw.out.size))
          have HR5 := Lib.hid (owns_keep HR2.out hb5 (Nat.le_refl _))
          have hs5 := HB5.out.size
          clear hD5 hb5 hf5
          obtain ⟨X, hX⟩ : ∃ X, setTo C (orders m C (run m C D L t) (L t).os (L t).n) m = X := ⟨_, rfl⟩
          rw [hX]
          have HXX := Lib.hid (show setAt m C D L t = X from hX)
          clear hX
          go_wp2_with (at_builtin; refine wpList_append_own _ rfl _ _ 28 rfl w.heap.size 46 i0 _ 1 4 Try.underlying28 hi hz0 hz1 hz2 rfl (by decide) _ t (flat wcells (setAt m C D L) t) rfl (HR5.out.alloc _) ⟨w5.heap.size, 0, none⟩ 1 1 (wcells X) rfl rfl (boxW_at w5 X) ?c2 ?c3 ?c4 ?c5 ?c6)
          case c2 => exact wc_one X
          case c3 => unfold maxLen; omega
          case c4 => omega
          case c5 => simp; omega
          intro v6 w6 hown6 hgr6 _
          have HO6 := Lib.hid hown6
          have HG6 := Lib.hid hgr6
          have HD6 := Lib.hid ((HD5.out.below ((Below.refl _ w5).alloc (Nat.le_refl _) (.cells #[.int .u32 (W X)] 46)) (Nat.le_refl _)).grown HF5.out hgr6 hgr6.size (fun q hq => (HR2.out.lt q hq).2))
          clear hown6 hgr6
          go_wp2
          go_roundg (nt - (t + 1))
          case measure => have := Hg.out; omega
          case rel => exact ⟨t + 1, by omega, rfl, by go_num, HD6.out, by rw [flat, HXX.out]; exact HO6.out, (HB5.out.alloc hs5 _).grown HG6.out (by simp; omega) (fun q hq => (HR5.out.lt q hq).1)⟩
    · have b3 : decide ((t : Int) < (nt : Int)) = false := by simp; omega
      have htn' : t = nt := by omega
      subst htn'
      have HV := Lib.hid (Holds.of_owns wc_len HR.out)
      clear HR
      go_wp2
      go_ret3
      exact ⟨_, _, rfl, HD.out, HV.out, Hb.out⟩
end Go.Proofs.Ytfgkljfoalgkaaa
