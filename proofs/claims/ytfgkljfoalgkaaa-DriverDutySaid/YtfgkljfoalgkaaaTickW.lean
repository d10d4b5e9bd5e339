/-
  driver.Tick walked, for drives of valid coils.
-/
import Derived.Test.YtfgkljfoalgkaaaTick
namespace Go.Proofs.Ytfgkljfoalgkaaa
open Go.RowKit
attribute [local go_sem] shr_min32 shl_min32 W_shr W_shr' W_shl W_shl' W_shl1 W_shl1n W_pow W_and W_or W_andNot W_and1 W_bit W_bit0

theorem next_v {c : Coil} {d : Drive} {v : Bool} (hv : onB c d = v) (hc : goodB c = true) (hd : fitsB c d = true) (w : World) :
    Calls Try.prog 70 #[.agg #[.int .i64 c.pulse, .int .i64 c.on, .int .i64 c.off, .int .i64 c.rest, .int .i64 c.fuse, .int .i64 c.cur], .agg #[.int .i64 d.phase, .int .i64 d.left, .bool d.held]] w fun e w' =>
    e = .returned (.tuple #[.agg #[.int .i64 (nextF c d).phase, .int .i64 (nextF c d).left, .bool (nextF c d).held], .bool v]) ∧ Below w.heap.size w w' := by rw [← hv]; exact next_c c d hc hd w
/-- What the loop of Tick has laid. -/
def tickD (C : Nat → Coil) (D : Nat → Drive) (k : Nat) : Nat → Drive := fun i => if i < k then nextF (C i) (D i) else idle
set_option maxRecDepth 100000 in
set_option maxHeartbeats 12800000 in
theorem tick_ok (v1 v2 : Value) (n m : Nat) (C : Nat → Coil) (D : Nat → Drive) (w : World) (hS : StateP n C m D) (h1 : HoldsC w v1 n C) (h2 : HoldsD w v2 m D) :
    Calls Try.prog 35 #[v1, v2] w fun e w' => ∃ v', e = .returned (.tuple #[v', .int .u32 (W (setTo C D m)), .int .i64 0]) ∧ HoldsD w' v' m (fun i => nextF (C i) (D i)) ∧ (∀ a k c, v' = .slice (some a) k c → w.heap.size ≤ a.block) ∧ Below w.heap.size w w' := by
  obtain ⟨a1, cap1, rfl, _⟩ := id h1
  obtain ⟨a2, cap2, rfl, _⟩ := id h2
  have hmn := hS.2.1
  subst hmn
  have hn32 := (validE_zero hS.1).1
  have HG := Lib.hid (validE_zero hS.1).2
  have HF := Lib.hid hS.2.2
  have HC := Lib.hid (isState_yes hS _ h1 h2)
  have H1 := Lib.hid h1
  have H2 := Lib.hid h2
  clear h1 h2 hS
  obtain ⟨i0, hi, hz0, hz1, hz2⟩ := info_parts Try.info34
  go_enter Try.func35, Try.ntmps35
  go_wp2_with fail
  refine HC.out.mono ?_
  rintro e w1 ⟨rfl, hb1⟩
  have Hb1 := Lib.hid hb1
  have hsz1 := hb1.size
  clear hb1
  go_wp2_with (refine wpList_make_drives _ rfl _ _ 27 rfl 34 i0 _ 3 Try.underlying27 hi hz0 hz1 .i64 .i64 m rfl rfl (by rw [hz2]; omega) (by omega) ?_)
  have HR := Lib.hid (made_row w1 m)
  have HB := Lib.hid (show Below w.heap.size w (w1.alloc (.cells (madeCells #[.int .i64 0, .int .i64 0, .bool false] (m * 3)) 34)) from Hb1.out.alloc hsz1 _)
  generalize w1.alloc (.cells (madeCells #[.int .i64 0, .int .i64 0, .bool false] (m * 3)) 34) = w2 at *
  have hwg0 : w.heap.size ≤ w1.heap.size := hsz1
  generalize hg : w1.heap.size = g at *
  have HB0 := Lib.hid hwg0
  clear hg
  go_wp2
  go_loopg [8, 22] m (fun gg s i wr => ∃ k : Nat, k ≤ m ∧ gg = m - k ∧ i = .int .i64 k ∧ s = .int .u32 (W (setTo C D k)) ∧ rowD wr g m (tickD C D k) ∧ Below w.heap.size w wr)
  case atStart => exact ⟨0, by omega, rfl, rfl, rfl, HR.out.congr fun i _ => (if_neg (by omega)).symm, HB.out⟩
  case round =>
    clear HR HB
    obtain ⟨k, hk, hgg, rfl, rfl, hR, hb⟩ := hrel
    have Hg := Lib.hid hgg
    have HR := Lib.hid hR
    have Hb := Lib.hid hb
    have hsz := hb.size
    have hlg := World.rowIs.lt hR
    clear hgg hR hb
    by_cases hkm : k < m
    · obtain ⟨g1, o1, rfl, l1, hc1⟩ := H1.out.open2 hkm
      obtain ⟨g2, o2, rfl, l2, hc2⟩ := H2.out.open2 hkm
      obtain ⟨e0, e1, e2, e3, e4, e5⟩ := coil_cells (hc1 _ Hb.out) hkm
      obtain ⟨d0, d1, d2⟩ := drive_cells (hc2 _ Hb.out) hkm
      have hgood := HG.out k hkm
      have hfit := HF.out k hkm
      have b1 : (0 : Int) ≤ (k : Int) := by omega
      have b2 : (k : Int) < (m : Int) := by omega
      have b3 : decide ((k : Int) < (m : Int)) = true := by simp; omega
      have lw1 : g1 < wr.heap.size := by omega
      have lw2 : g1 < wr.heap.size + 1 := by omega
      have n1 : g1 ≠ wr.heap.size := by omega
      have n1b : g1 ≠ wr.heap.size + 1 := by omega
      have n1c : wr.heap.size + 1 ≠ g1 := by omega
      clear hc1 hc2
      have HT := Lib.hid (show ∀ i, i < m → updD (tickD C D k) k (nextF (C k) (D k)) i = tickD C D (k + 1) i from fun i _ => by
        unfold updD tickD
        by_cases e : i = k
        · rw [if_pos e, if_pos (by omega), e]
        · rw [if_neg e]
          by_cases e' : i < k
          · rw [if_pos e', if_pos (by omega)]
          · rw [if_neg e', if_neg (by omega)])
      obtain ⟨von, hon⟩ : ∃ v, onB (C k) (D k) = v := ⟨_, rfl⟩
      have HS := Lib.hid (show setTo C D (k + 1) = if von = true then setTo C D k ||| 1#32 <<< k else setTo C D k by rw [setTo, hon])
      have HN := Lib.hid (next_v hon hgood hfit)
      clear hon hgood hfit
      go_wp2_with fail
      go_region_held3 (fun w' => w'.cell? ⟨g1, o1 + k * 6, none⟩ = some (.int .i64 (C k).pulse) ∧ w'.cell? ⟨g1, o1 + k * 6 + 1, none⟩ = some (.int .i64 (C k).on) ∧ w'.cell? ⟨g1, o1 + k * 6 + 2, none⟩ = some (.int .i64 (C k).off) ∧ w'.cell? ⟨g1, o1 + k * 6 + 3, none⟩ = some (.int .i64 (C k).rest) ∧ w'.cell? ⟨g1, o1 + k * 6 + 4, none⟩ = some (.int .i64 (C k).fuse) ∧ w'.cell? ⟨g1, o1 + k * 6 + 5, none⟩ = some (.int .i64 (C k).cur) ∧
          w'.cell? ⟨wr.heap.size, 0, none⟩ = some (.int .i64 (D k).phase) ∧ w'.cell? ⟨wr.heap.size, 1, none⟩ = some (.int .i64 (D k).left) ∧ w'.cell? ⟨wr.heap.size, 2, none⟩ = some (.bool (D k).held)) (go_keep)
        (first
          | (go_at_call 70; refine (HN.out _).mono ?_; rintro e w3 ⟨rfl, hb3⟩
             obtain ⟨hcA, hfA⟩ := bcell hb3
             have y0 := hcA g1 (o1 + k * 6) (by simp; omega)
             have y1 := hcA g1 (o1 + k * 6 + 1) (by simp; omega)
             have y2 := hcA g1 (o1 + k * 6 + 2) (by simp; omega)
             have y3 := hcA g1 (o1 + k * 6 + 3) (by simp; omega)
             have y4 := hcA g1 (o1 + k * 6 + 4) (by simp; omega)
             have y5 := hcA g1 (o1 + k * 6 + 5) (by simp; omega)
             have y6 := hcA wr.heap.size 0 (by first | (simp; done) | (simp; omega))
             have y7 := hcA wr.heap.size 1 (by first | (simp; done) | (simp; omega))
             have y8 := hcA wr.heap.size 2 (by first | (simp; done) | (simp; omega))
             have hb3' : Below wr.heap.size wr w3 := Below.trans (by first | exact ((Below.refl _ wr).alloc (Nat.le_refl _) _).drew | exact (((Below.refl _ wr).alloc (Nat.le_refl _) _).alloc (by simp) _).drew | exact (((Below.refl _ wr).alloc (Nat.le_refl _) _).drew).alloc (by simp [World.drew]) _) (hb3.mono (by first | (simp [World.drew]; done) | (simp [World.drew]; omega)))
             have hrow := HR.out.below hb3' hlg
             obtain ⟨r0, r1, r2⟩ := hrow.at hkm
             have fz0 : w3.frozen? ⟨g, k * 3, none⟩ = false := World.rowIs.frozen hrow _
             have fz1 : w3.frozen? ⟨g, k * 3 + 1, none⟩ = false := World.rowIs.frozen hrow _
             have fz2 : w3.frozen? ⟨g, k * 3 + 2, none⟩ = false := World.rowIs.frozen hrow _
             have hgw : g < w3.heap.size := World.rowIs.lt hrow
             have hne : g ≠ w3.heap.size := by omega
             have hne2 : g ≠ wr.heap.size + 1 := by omega
             have hne' : w3.heap.size ≠ g := by omega
             have hne2' : wr.heap.size + 1 ≠ g := by omega))
      · have HROW := Lib.hid hrow
        have HB3 := Lib.hid hb3'
        have hsz3 := hb3'.size
        clear hb3 hb3' hrow hfA hcA
        cases von with
        | true =>
          have HS2 := Lib.hid (show setTo C D (k + 1) = setTo C D k ||| 1#32 <<< k by rw [HS.out, if_pos rfl])
          clear HS
          go_wp2
          go_roundg (m - (k + 1))
          case measure => have := Hg.out; omega
          case rel =>
            refine ⟨k + 1, by omega, rfl, by go_num, by rw [HS2.out], ?_, ?_⟩
            · first
                | exact World.rowIs.alloc (rowD.congr (rowD.set3 (i := k) HROW.out (nextF (C k) (D k))) HT.out) _
                | exact rowD.congr (rowD.set3 (i := k) (((World.rowIs.setOther HROW.out hne2 _).setOther hne2 _).setOther hne2 _) (nextF (C k) (D k))) HT.out
            · have hB := Hb.out.trans (HB3.out.mono Hb.out.size)
              have hwg := HB0.out
              first
                | exact (((hB.setCell hwg _).setCell hwg _).setCell hwg _).alloc (by simp [World.setCell]; omega) _
                | (repeat (refine Below.setCell ?_ (by first | exact hwg | (show w.heap.size ≤ wr.heap.size + 1; omega)) _)
                   exact hB)
        | false =>
          have HS2 := Lib.hid (show setTo C D (k + 1) = setTo C D k by rw [HS.out, if_neg Bool.false_ne_true])
          clear HS
          go_wp2
          go_roundg (m - (k + 1))
          case measure => have := Hg.out; omega
          case rel =>
            refine ⟨k + 1, by omega, rfl, by go_num, by rw [HS2.out], ?_, ?_⟩
            · first
                | exact World.rowIs.alloc (rowD.congr (rowD.set3 (i := k) HROW.out (nextF (C k) (D k))) HT.out) _
                | exact rowD.congr (rowD.set3 (i := k) (((World.rowIs.setOther HROW.out hne2 _).setOther hne2 _).setOther hne2 _) (nextF (C k) (D k))) HT.out
            · have hB := Hb.out.trans (HB3.out.mono Hb.out.size)
              have hwg := HB0.out
              first
                | exact (((hB.setCell hwg _).setCell hwg _).setCell hwg _).alloc (by simp [World.setCell]; omega) _
                | (repeat (refine Below.setCell ?_ (by first | exact hwg | (show w.heap.size ≤ wr.heap.size + 1; omega)) _)
                   exact hB)
      · have HROW := Lib.hid hrow
        have HB3 := Lib.hid hb3'
        have hsz3 := hb3'.size
        have g0 := hcA (wr.heap.size + 1) 0
        have g1 := hcA (wr.heap.size + 1) 1
        have g2 := hcA (wr.heap.size + 1) 2
        have q0 := hfA (wr.heap.size + 1) 0
        have q1 := hfA (wr.heap.size + 1) 1
        have q2 := hfA (wr.heap.size + 1) 2
        simp [go_sem] at g0 g1 g2 q0 q1 q2
        have hROWX : rowD (((w3.setCell ⟨wr.heap.size + 1, 0, none⟩ (.int .i64 (nextF (C k) (D k)).phase)).setCell ⟨wr.heap.size + 1, 1, none⟩ (.int .i64 (nextF (C k) (D k)).left)).setCell ⟨wr.heap.size + 1, 2, none⟩ (.bool (nextF (C k) (D k)).held)) g m (tickD C D k) := ((World.rowIs.setOther hrow hne2 _).setOther hne2 _).setOther hne2 _
        have hle : w.heap.size ≤ wr.heap.size + 1 := by omega
        have HBX := Lib.hid (show Below w.heap.size w (((w3.setCell ⟨wr.heap.size + 1, 0, none⟩ (.int .i64 (nextF (C k) (D k)).phase)).setCell ⟨wr.heap.size + 1, 1, none⟩ (.int .i64 (nextF (C k) (D k)).left)).setCell ⟨wr.heap.size + 1, 2, none⟩ (.bool (nextF (C k) (D k)).held)) from Below.setCell (Below.setCell (Below.setCell (Hb.out.trans (hb3'.mono Hb.out.size)) hle _) hle _) hle _)
        have G0 : (((w3.setCell ⟨wr.heap.size + 1, 0, none⟩ (.int .i64 (nextF (C k) (D k)).phase)).setCell ⟨wr.heap.size + 1, 1, none⟩ (.int .i64 (nextF (C k) (D k)).left)).setCell ⟨wr.heap.size + 1, 2, none⟩ (.bool (nextF (C k) (D k)).held)).cell? ⟨wr.heap.size + 1, 0, none⟩ = some (.int .i64 (nextF (C k) (D k)).phase) := by
          rw [World.cell?_setCell_other _ _ _ _ (by simp), World.cell?_setCell_other _ _ _ _ (by simp)]
          exact World.cell?_setCell_same _ _ _ g0
        have G1 : (((w3.setCell ⟨wr.heap.size + 1, 0, none⟩ (.int .i64 (nextF (C k) (D k)).phase)).setCell ⟨wr.heap.size + 1, 1, none⟩ (.int .i64 (nextF (C k) (D k)).left)).setCell ⟨wr.heap.size + 1, 2, none⟩ (.bool (nextF (C k) (D k)).held)).cell? ⟨wr.heap.size + 1, 1, none⟩ = some (.int .i64 (nextF (C k) (D k)).left) := by
          rw [World.cell?_setCell_other _ _ _ _ (by simp)]
          exact World.cell?_setCell_same (u := .int .i64 0) _ _ _ (by rw [World.cell?_setCell_other _ _ _ _ (by simp)]; exact g1)
        have G2 : (((w3.setCell ⟨wr.heap.size + 1, 0, none⟩ (.int .i64 (nextF (C k) (D k)).phase)).setCell ⟨wr.heap.size + 1, 1, none⟩ (.int .i64 (nextF (C k) (D k)).left)).setCell ⟨wr.heap.size + 1, 2, none⟩ (.bool (nextF (C k) (D k)).held)).cell? ⟨wr.heap.size + 1, 2, none⟩ = some (.bool (nextF (C k) (D k)).held) :=
          World.cell?_setCell_same (u := .bool false) _ _ _ (by rw [World.cell?_setCell_other _ _ _ _ (by simp), World.cell?_setCell_other _ _ _ _ (by simp)]; exact g2)
        have HRX := Lib.hid hROWX
        obtain ⟨R0, R1, R2⟩ := hROWX.at hkm
        have Z0 : (((w3.setCell ⟨wr.heap.size + 1, 0, none⟩ (.int .i64 (nextF (C k) (D k)).phase)).setCell ⟨wr.heap.size + 1, 1, none⟩ (.int .i64 (nextF (C k) (D k)).left)).setCell ⟨wr.heap.size + 1, 2, none⟩ (.bool (nextF (C k) (D k)).held)).frozen? ⟨g, k * 3, none⟩ = false := World.rowIs.frozen hROWX _
        have Z1 : (((w3.setCell ⟨wr.heap.size + 1, 0, none⟩ (.int .i64 (nextF (C k) (D k)).phase)).setCell ⟨wr.heap.size + 1, 1, none⟩ (.int .i64 (nextF (C k) (D k)).left)).setCell ⟨wr.heap.size + 1, 2, none⟩ (.bool (nextF (C k) (D k)).held)).frozen? ⟨g, k * 3 + 1, none⟩ = false := World.rowIs.frozen hROWX _
        have Z2 : (((w3.setCell ⟨wr.heap.size + 1, 0, none⟩ (.int .i64 (nextF (C k) (D k)).phase)).setCell ⟨wr.heap.size + 1, 1, none⟩ (.int .i64 (nextF (C k) (D k)).left)).setCell ⟨wr.heap.size + 1, 2, none⟩ (.bool (nextF (C k) (D k)).held)).frozen? ⟨g, k * 3 + 2, none⟩ = false := World.rowIs.frozen hROWX _
        clear hb3 hb3' hrow hfA hcA g0 g1 g2 q0 q1 q2 HROW HB3 hROWX y0 y1 y2 y3 y4 y5 y6 y7 y8 r0 r1 r2 fz0 fz1 fz2 hsz3 hgw hne hne' e0 e1 e2 e3 e4 e5 d0 d1 d2
        generalize (((w3.setCell ⟨wr.heap.size + 1, 0, none⟩ (.int .i64 (nextF (C k) (D k)).phase)).setCell ⟨wr.heap.size + 1, 1, none⟩ (.int .i64 (nextF (C k) (D k)).left)).setCell ⟨wr.heap.size + 1, 2, none⟩ (.bool (nextF (C k) (D k)).held)) = wX at *
        cases von with
        | true =>
          have HS2 := Lib.hid (show setTo C D (k + 1) = setTo C D k ||| 1#32 <<< k by rw [HS.out, if_pos rfl])
          clear HS
          go_wp2
          go_roundg (m - (k + 1))
          case measure => have := Hg.out; omega
          case rel =>
            exact ⟨k + 1, by omega, rfl, by go_num, by rw [HS2.out], rowD.congr (rowD.set3 (i := k) HRX.out (nextF (C k) (D k))) HT.out, ((HBX.out.setCell HB0.out _).setCell HB0.out _).setCell HB0.out _⟩
        | false =>
          have HS2 := Lib.hid (show setTo C D (k + 1) = setTo C D k by rw [HS.out, if_neg Bool.false_ne_true])
          clear HS
          go_wp2
          go_roundg (m - (k + 1))
          case measure => have := Hg.out; omega
          case rel =>
            exact ⟨k + 1, by omega, rfl, by go_num, by rw [HS2.out], rowD.congr (rowD.set3 (i := k) HRX.out (nextF (C k) (D k))) HT.out, ((HBX.out.setCell HB0.out _).setCell HB0.out _).setCell HB0.out _⟩
    · have b3 : decide ((k : Int) < (m : Int)) = false := by simp; omega
      have hkm' : k = m := by omega
      have HV := Lib.hid (show HoldsD wr (.slice (some ⟨g, 0, none⟩) m m) m (fun i => nextF (C i) (D i)) from (rowD.holds HR.out).congr fun i hi => if_pos (by omega))
      have HK := Lib.hid hkm'
      clear hkm'
      go_wp2
      go_ret3
      refine ⟨_, by rw [HK.out]; rfl, HV.out, fun a k c e => ?_, Hb.out⟩
      injection e with e
      injection e with e
      rw [← e]
      exact HB0.out
end Go.Proofs.Ytfgkljfoalgkaaa
