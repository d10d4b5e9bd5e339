/-
  pinballref23.Apply: the drives behind an order, or the first error: for drives of valid coils; the error else.
-/
import Derived.Test.YtfgkljfoalgkaaaROrd
namespace Go.Proofs.Ytfgkljfoalgkaaa
open Go.RowKit Go.Deep

theorem set_size (w : World) (p : Addr) (u : Value) : (w.setCell p u).heap.size = w.heap.size := by simp [World.setCell]
theorem rapply_arg (v1 v2 : Value) (n m : Nat) (C : Nat → Coil) (D : Nat → Drive) (o : Order) (w : World) (hS : ¬ StateP n C m D) (h1 : HoldsC w v1 n C) (h2 : HoldsD w v2 m D) :
    Calls Try.prog 34 #[v1, v2, .agg #[.int .i64 o.kind, .int .i64 o.coil]] w fun e w' => e = .returned (.tuple #[.slice none 0 0, .int .i64 1]) ∧ Below w.heap.size w w' := by
  have hb0 : Below w.heap.size w (w.alloc (.cells #[.int .i64 o.kind, .int .i64 o.coil] 43)) := (Below.refl _ _).alloc (Nat.le_refl _) _
  have HC := Lib.hid (ristate_no hS _ (h1.below hb0 (Nat.le_refl _)) (h2.below hb0 (Nat.le_refl _)))
  clear h1 h2 hb0
  go_enter Try.func34, Try.ntmps34
  go_wp2_with fail
  refine HC.out.mono ?_
  rintro e w1 ⟨rfl, hb1⟩
  have Hb1 := Lib.hid (show Below w.heap.size w w1 from ((Below.refl _ w).alloc (Nat.le_refl _) _).trans (hb1.mono (by simp)))
  clear hb1
  go_wp2
  go_ret2
  exact ⟨rfl, Hb1.out⟩
set_option maxHeartbeats 1600000 in
theorem rapply_coil (v1 v2 : Value) (n m : Nat) (C : Nat → Coil) (D : Nat → Drive) (kd ci : Int) (w : World) (hS : StateP n C m D) (h1 : HoldsC w v1 n C) (h2 : HoldsD w v2 m D) (hE : ci < 0 ∨ (n : Int) ≤ ci) :
    Calls Try.prog 34 #[v1, v2, .agg #[.int .i64 kd, .int .i64 ci]] w fun e w' => e = .returned (.tuple #[.slice none 0 0, .int .i64 40]) ∧ Below w.heap.size w w' := by
  obtain ⟨a1, cap1, rfl, _⟩ := id h1
  have hn32 := (validE_zero hS.1).1
  have hb0 : Below w.heap.size w (w.alloc (.cells #[.int .i64 kd, .int .i64 ci] 43)) := (Below.refl _ _).alloc (Nat.le_refl _) _
  have HC := Lib.hid (ristate_yes hS _ (h1.below hb0 (Nat.le_refl _)) (h2.below hb0 (Nat.le_refl _)))
  clear h1 h2 hb0 hS
  by_cases c1 : ci < 0
  · clear hE
    go_enter Try.func34, Try.ntmps34
    go_wp2_with fail
    refine HC.out.mono ?_
    rintro e w1 ⟨rfl, hb1⟩
    obtain ⟨o0, o1⟩ := box_open hb1 (by simp)
    have Hb1 := Lib.hid (show Below w.heap.size w w1 from ((Below.refl _ w).alloc (Nat.le_refl _) _).trans (hb1.mono (by simp)))
    clear hb1
    go_wp2
    go_ret2
    exact ⟨rfl, Hb1.out⟩
  · have c2 : (n : Int) ≤ ci := hE.resolve_left c1
    clear hE
    go_enter Try.func34, Try.ntmps34
    go_wp2_with fail
    refine HC.out.mono ?_
    rintro e w1 ⟨rfl, hb1⟩
    obtain ⟨o0, o1⟩ := box_open hb1 (by simp)
    have Hb1 := Lib.hid (show Below w.heap.size w w1 from ((Below.refl _ w).alloc (Nat.le_refl _) _).trans (hb1.mono (by simp)))
    clear hb1
    go_wp2
    go_ret2
    exact ⟨rfl, Hb1.out⟩
set_option maxRecDepth 100000 in
set_option maxHeartbeats 6400000 in
theorem rapply_ok (v1 v2 : Value) (n m : Nat) (C : Nat → Coil) (D : Nat → Drive) (kd : Int) (i : Nat) (w : World) (hS : StateP n C m D) (h1 : HoldsC w v1 n C) (h2 : HoldsD w v2 m D)
    (him : i < m) (hE : ordE (C i) (D i) kd = 0) :
    Calls Try.prog 34 #[v1, v2, .agg #[.int .i64 kd, .int .i64 i]] w fun e w' => ∃ v', e = .returned (.tuple #[v', .int .i64 0]) ∧ HoldsD w' v' m (updD D i (obeyF (C i) (D i) kd)) ∧ Below w.heap.size w w' := by
  obtain ⟨a1, cap1, rfl, _⟩ := id h1
  obtain ⟨a2, cap2, rfl, _⟩ := id h2
  have hmn := hS.2.1
  subst hmn
  have hn32 := (validE_zero hS.1).1
  have hb0 : Below w.heap.size w (w.alloc (.cells #[.int .i64 kd, .int .i64 i] 43)) := (Below.refl _ _).alloc (Nat.le_refl _) _
  have HC := Lib.hid (ristate_yes hS _ (h1.below hb0 (Nat.le_refl _)) (h2.below hb0 (Nat.le_refl _)))
  have H1 := Lib.hid h1
  have H2 := Lib.hid h2
  have hfit := hS.2.2 i him
  clear h1 h2 hb0 hS
  obtain ⟨g1, of1, rfl, l1, hc1⟩ := H1.out.open2 him
  obtain ⟨g2, of2, rfl, l2, hc2⟩ := H2.out.open2 him
  have b1 : (0 : Int) ≤ (i : Int) := by omega
  have b2 : (i : Int) < (m : Int) := by omega
  have t1 : decide ((i : Int) < 0) = false := by simp
  have t2 : decide ((m : Int) ≤ (i : Int)) = false := by simp; omega
  have HO0 := (fun w => ordered_any (C i).pulse (C i).on (C i).off (C i).rest (C i).fuse (C i).cur (D i).phase (D i).left kd (D i).held w hfit)
  have HO := Lib.hid (show ∀ w, Calls Try.prog 69 #[.agg #[.int .i64 (C i).pulse, .int .i64 (C i).on, .int .i64 (C i).off, .int .i64 (C i).rest, .int .i64 (C i).fuse, .int .i64 (C i).cur], .agg #[.int .i64 (D i).phase, .int .i64 (D i).left, .bool (D i).held], .int .i64 kd] w fun e w' =>
    ∃ x : Drive, e = .returned (.tuple #[.agg #[.int .i64 x.phase, .int .i64 x.left, .bool x.held], .int .i64 (ordE (C i) (D i) kd)]) ∧ OrdP (C i) (D i) kd (ordE (C i) (D i) kd) x ∧ Below w.heap.size w w' from HO0)
  clear HO0 hfit
  rw [hE] at HO
  clear hE
  obtain ⟨i0, hi, hz0, hz1, hz2⟩ := info_parts Try.info34
  go_enter Try.func34, Try.ntmps34
  go_wp2_with fail
  refine HC.out.mono ?_
  rintro e w1 ⟨rfl, hb1⟩
  obtain ⟨o0, o1⟩ := box_open hb1 (by simp)
  have hb : Below w.heap.size w w1 := ((Below.refl _ w).alloc (Nat.le_refl _) _).trans (hb1.mono (by simp))
  have hsz1 : w.heap.size < w1.heap.size := by have := hb1.size; simp at this; omega
  have Hb1 := Lib.hid hb
  obtain ⟨x0, x1, x2, x3, x4, x5⟩ := coil_cells (hc1 _ hb) him
  obtain ⟨d0, d1, d2⟩ := drive_cells (hc2 _ hb) him
  have lg1 : g1 < w1.heap.size := by omega
  have lg2 : g2 < w1.heap.size := by omega
  have HC2 := Lib.hid hc2
  have n1 : g1 ≠ w1.heap.size := by omega
  have n2 : g2 ≠ w1.heap.size := by omega
  have n3 : w.heap.size ≠ w1.heap.size := by omega
  have n1' : w1.heap.size ≠ g1 := by omega
  have n2' : w1.heap.size ≠ g2 := by omega
  have n3' : w1.heap.size ≠ w.heap.size := by omega
  clear hb1 hb hc1 hc2
  go_wp2_with fail
  go_region_held3 (fun w' => w'.cell? ⟨w.heap.size, 0, none⟩ = some (.int .i64 kd) ∧ w'.cell? ⟨w.heap.size, 1, none⟩ = some (.int .i64 i) ∧
      w'.cell? ⟨g1, of1 + i * 6, none⟩ = some (.int .i64 (C i).pulse) ∧ w'.cell? ⟨g1, of1 + i * 6 + 1, none⟩ = some (.int .i64 (C i).on) ∧ w'.cell? ⟨g1, of1 + i * 6 + 2, none⟩ = some (.int .i64 (C i).off) ∧ w'.cell? ⟨g1, of1 + i * 6 + 3, none⟩ = some (.int .i64 (C i).rest) ∧ w'.cell? ⟨g1, of1 + i * 6 + 4, none⟩ = some (.int .i64 (C i).fuse) ∧ w'.cell? ⟨g1, of1 + i * 6 + 5, none⟩ = some (.int .i64 (C i).cur) ∧
      w'.cell? ⟨g2, of2 + i * 3, none⟩ = some (.int .i64 (D i).phase) ∧ w'.cell? ⟨g2, of2 + i * 3 + 1, none⟩ = some (.int .i64 (D i).left) ∧ w'.cell? ⟨g2, of2 + i * 3 + 2, none⟩ = some (.bool (D i).held)) (go_keep)
    (first
      | (go_at_call 69; refine (HO.out _).mono ?_; rintro e w3 ⟨x, rfl, hx, hb3⟩
         have hb3' : Below w1.heap.size w1 w3 := (Below.refl _ w1).drew.trans hb3
         have hk := fun b o (hb : b < w1.heap.size) => hb3'.cell (p := ⟨b, o, none⟩) hb
         rw [← hk _ _ hsz1] at o0 o1
         rw [← hk _ _ lg1] at x0 x1 x2 x3 x4 x5
         rw [← hk _ _ lg2] at d0 d1 d2)
      | (go_at_call 69; refine (HO.out _).mono ?_; rintro e w3 ⟨x, rfl, hx, hb3⟩
         have hb3' : Below w1.heap.size w1 w3 := ((Below.refl _ w1).alloc (Nat.le_refl _) _).drew.trans (hb3.mono (by simp))
         have hk := fun b o (hb : b < w1.heap.size) => hb3'.cell (p := ⟨b, o, none⟩) hb
         obtain ⟨hcA, hfA⟩ := bcell hb3
         have c0 := hcA w1.heap.size 0 (by simp)
         have c1 := hcA w1.heap.size 1 (by simp)
         have c2 := hcA w1.heap.size 2 (by simp)
         have f0 := hfA w1.heap.size 0 (by simp)
         have f1 := hfA w1.heap.size 1 (by simp)
         have f2 := hfA w1.heap.size 2 (by simp)
         simp [go_sem] at c0 c1 c2 f0 f1 f2
         rw [← hk _ _ hsz1] at o0 o1
         rw [← hk _ _ lg1] at x0 x1 x2 x3 x4 x5
         rw [← hk _ _ lg2] at d0 d1 d2))
  all_goals have HX := Lib.hid (hx rfl)
  all_goals have h13 := hb3'.size
  all_goals have h14 := hb3.size
  all_goals have HB3 := Lib.hid (Hb1.out.trans (hb3'.mono Hb1.out.size))
  · rename_i hHeld
    clear hx hb3 hb3' hk
    have HBZ := Lib.hid (show Below w.heap.size w (w3.alloc (.cells #[.int .i64 x.phase, .int .i64 x.left, .bool x.held] 34)) from HB3.out.alloc HB3.out.size _)
    have e0 : (w3.alloc (.cells #[.int .i64 x.phase, .int .i64 x.left, .bool x.held] 34)).cell? ⟨w3.heap.size, 0, none⟩ = some (.int .i64 x.phase) := by simp [go_sem]
    have e1 : (w3.alloc (.cells #[.int .i64 x.phase, .int .i64 x.left, .bool x.held] 34)).cell? ⟨w3.heap.size, 1, none⟩ = some (.int .i64 x.left) := by simp [go_sem]
    have e2 : (w3.alloc (.cells #[.int .i64 x.phase, .int .i64 x.left, .bool x.held] 34)).cell? ⟨w3.heap.size, 2, none⟩ = some (.bool x.held) := by simp [go_sem]
    have oz : (w3.alloc (.cells #[.int .i64 x.phase, .int .i64 x.left, .bool x.held] 34)).cell? ⟨w.heap.size, 1, none⟩ = some (.int .i64 i) := hHeld.2.1
    have lz : w.heap.size < (w3.alloc (.cells #[.int .i64 x.phase, .int .i64 x.left, .bool x.held] 34)).heap.size := by first | (rw [set_size, set_size, set_size]; omega) | (simp; omega)
    have lgd : w3.heap.size < (w3.alloc (.cells #[.int .i64 x.phase, .int .i64 x.left, .bool x.held] 34)).heap.size := by first | (rw [set_size, set_size, set_size]; omega) | simp
    clear hHeld o0 o1 x0 x1 x2 x3 x4 x5 d0 d1 d2 HB3
    generalize w3.alloc (.cells #[.int .i64 x.phase, .int .i64 x.left, .bool x.held] 34) = wz at *
    generalize w3.heap.size = gd at *
    have HN := Lib.hid (Holds.news (n := m) (f := D) drive_len (HC2.out _ HBZ.out))
    go_wp2_with (at_builtin; refine wpList_append_own _ rfl _ _ 27 rfl w.heap.size 34 i0 _ 3 24 Try.underlying27 hi hz0 hz1 hz2 rfl (by decide) (.slice none 0 0) 0 [] rfl (World.ownsRow_nil _ _ _ _) ⟨g2, of2, none⟩ m cap2 (flat Drive.cells D m) rfl (flat_length drive_len D m) HN.out ?c2 ?c3 ?c4 ?c5 ?c6)
    case c2 => exact flat_mem drive_one D m
    case c3 => unfold maxLen; omega
    case c4 => omega
    case c5 => first | omega | (simp; omega) | simp
    intro v6 w6 hown6 hgr6 _
    obtain ⟨g, cap, rfl, hbase, hlt, hfr, hcell⟩ := owns_open hown6 (by omega)
    have HB6 := Lib.hid (HBZ.out.grown hgr6 HBZ.out.size (fun q hq => by simp [Value.ownBlock] at hq))
    have oy : w6.cell? ⟨w.heap.size, 1, none⟩ = some (.int .i64 i) := by rw [hgr6.cell_far ⟨w.heap.size, 1, none⟩ lz (by simp [Value.ownBlock])]; exact oz
    have y0 := (hgr6.cell_far ⟨gd, 0, none⟩ lgd (by simp [Value.ownBlock])).trans e0
    have y1 := (hgr6.cell_far ⟨gd, 1, none⟩ lgd (by simp [Value.ownBlock])).trans e1
    have y2 := (hgr6.cell_far ⟨gd, 2, none⟩ lgd (by simp [Value.ownBlock])).trans e2
    obtain ⟨c0, c1, c2⟩ := drive_cells hcell him
    rw [Nat.zero_add] at c0 c1 c2
    have f0 := hfr (i * 3)
    have f1 := hfr (i * 3 + 1)
    have f2 := hfr (i * 3 + 2)
    have Hcell := Lib.hid hcell
    have Hbase := Lib.hid hbase
    clear hown6 hgr6 hfr hcell hbase oz e0 e1 e2 HBZ HN lz lgd
    go_wp2
    go_ret2
    refine ⟨_, rfl, ?_, ?_⟩
    · refine ⟨_, _, rfl, .inr ⟨g, 0, rfl, ?_, ?_⟩⟩
      · rw [set_size, set_size, set_size]; exact hlt
      · have h3 := set3 (w := w6) (g := g) (off := 0) (n := m) (i := i) (D := D) Hcell.out him x
        rw [Nat.zero_add] at h3
        rw [← HX.out]
        exact h3
    · have := Hbase.out
      repeat (refine Below.setCell ?_ (by show w.heap.size ≤ g; omega) _)
      exact HB6.out
  · rename_i hHeld
    clear hx hb3 hb3' hk hcA hfA
    simp at h14
    have HBZ := Lib.hid (show Below w.heap.size w (((w3.setCell ⟨w1.heap.size, 0, none⟩ (.int .i64 x.phase)).setCell ⟨w1.heap.size, 1, none⟩ (.int .i64 x.left)).setCell ⟨w1.heap.size, 2, none⟩ (.bool x.held)) from ((HB3.out.setCell (Nat.le_of_lt hsz1) _).setCell (Nat.le_of_lt hsz1) _).setCell (Nat.le_of_lt hsz1) _)
    have e0 : (((w3.setCell ⟨w1.heap.size, 0, none⟩ (.int .i64 x.phase)).setCell ⟨w1.heap.size, 1, none⟩ (.int .i64 x.left)).setCell ⟨w1.heap.size, 2, none⟩ (.bool x.held)).cell? ⟨w1.heap.size, 0, none⟩ = some (.int .i64 x.phase) := by simp [go_sem, c0]
    have e1 : (((w3.setCell ⟨w1.heap.size, 0, none⟩ (.int .i64 x.phase)).setCell ⟨w1.heap.size, 1, none⟩ (.int .i64 x.left)).setCell ⟨w1.heap.size, 2, none⟩ (.bool x.held)).cell? ⟨w1.heap.size, 1, none⟩ = some (.int .i64 x.left) := by simp [go_sem, c1]
    have e2 : (((w3.setCell ⟨w1.heap.size, 0, none⟩ (.int .i64 x.phase)).setCell ⟨w1.heap.size, 1, none⟩ (.int .i64 x.left)).setCell ⟨w1.heap.size, 2, none⟩ (.bool x.held)).cell? ⟨w1.heap.size, 2, none⟩ = some (.bool x.held) := by simp [go_sem, c2]
    have oz : (((w3.setCell ⟨w1.heap.size, 0, none⟩ (.int .i64 x.phase)).setCell ⟨w1.heap.size, 1, none⟩ (.int .i64 x.left)).setCell ⟨w1.heap.size, 2, none⟩ (.bool x.held)).cell? ⟨w.heap.size, 1, none⟩ = some (.int .i64 i) := hHeld.2.1
    have lz : w.heap.size < (((w3.setCell ⟨w1.heap.size, 0, none⟩ (.int .i64 x.phase)).setCell ⟨w1.heap.size, 1, none⟩ (.int .i64 x.left)).setCell ⟨w1.heap.size, 2, none⟩ (.bool x.held)).heap.size := by first | (rw [set_size, set_size, set_size]; omega) | (simp; omega)
    have lgd : w1.heap.size < (((w3.setCell ⟨w1.heap.size, 0, none⟩ (.int .i64 x.phase)).setCell ⟨w1.heap.size, 1, none⟩ (.int .i64 x.left)).setCell ⟨w1.heap.size, 2, none⟩ (.bool x.held)).heap.size := by first | (rw [set_size, set_size, set_size]; omega) | simp
    clear hHeld o0 o1 x0 x1 x2 x3 x4 x5 d0 d1 d2 c0 c1 c2 f0 f1 f2 HB3
    generalize ((w3.setCell ⟨w1.heap.size, 0, none⟩ (.int .i64 x.phase)).setCell ⟨w1.heap.size, 1, none⟩ (.int .i64 x.left)).setCell ⟨w1.heap.size, 2, none⟩ (.bool x.held) = wz at *
    
    have HN := Lib.hid (Holds.news (n := m) (f := D) drive_len (HC2.out _ HBZ.out))
    go_wp2_with (at_builtin; refine wpList_append_own _ rfl _ _ 27 rfl w.heap.size 34 i0 _ 3 24 Try.underlying27 hi hz0 hz1 hz2 rfl (by decide) (.slice none 0 0) 0 [] rfl (World.ownsRow_nil _ _ _ _) ⟨g2, of2, none⟩ m cap2 (flat Drive.cells D m) rfl (flat_length drive_len D m) HN.out ?k2 ?k3 ?k4 ?k5 ?k6)
    case k2 => exact flat_mem drive_one D m
    case k3 => unfold maxLen; omega
    case k4 => omega
    case k5 => first | omega | (simp; omega) | simp
    intro v6 w6 hown6 hgr6 _
    obtain ⟨g, cap, rfl, hbase, hlt, hfr, hcell⟩ := owns_open hown6 (by omega)
    have HB6 := Lib.hid (HBZ.out.grown hgr6 HBZ.out.size (fun q hq => by simp [Value.ownBlock] at hq))
    have oy : w6.cell? ⟨w.heap.size, 1, none⟩ = some (.int .i64 i) := by rw [hgr6.cell_far ⟨w.heap.size, 1, none⟩ lz (by simp [Value.ownBlock])]; exact oz
    have y0 := (hgr6.cell_far ⟨w1.heap.size, 0, none⟩ lgd (by simp [Value.ownBlock])).trans e0
    have y1 := (hgr6.cell_far ⟨w1.heap.size, 1, none⟩ lgd (by simp [Value.ownBlock])).trans e1
    have y2 := (hgr6.cell_far ⟨w1.heap.size, 2, none⟩ lgd (by simp [Value.ownBlock])).trans e2
    obtain ⟨c0, c1, c2⟩ := drive_cells hcell him
    rw [Nat.zero_add] at c0 c1 c2
    have f0 := hfr (i * 3)
    have f1 := hfr (i * 3 + 1)
    have f2 := hfr (i * 3 + 2)
    have Hcell := Lib.hid hcell
    have Hbase := Lib.hid hbase
    clear hown6 hgr6 hfr hcell hbase oz e0 e1 e2 HBZ HN lz lgd
    go_wp2
    go_ret2
    refine ⟨_, rfl, ?_, ?_⟩
    · refine ⟨_, _, rfl, .inr ⟨g, 0, rfl, ?_, ?_⟩⟩
      · rw [set_size, set_size, set_size]; exact hlt
      · have h3 := set3 (w := w6) (g := g) (off := 0) (n := m) (i := i) (D := D) Hcell.out him x
        rw [Nat.zero_add] at h3
        rw [← HX.out]
        exact h3
    · have := Hbase.out
      repeat (refine Below.setCell ?_ (by show w.heap.size ≤ g; omega) _)
      exact HB6.out
set_option maxRecDepth 100000 in
set_option maxHeartbeats 6400000 in
theorem rapply_err (v1 v2 : Value) (n m : Nat) (C : Nat → Coil) (D : Nat → Drive) (kd : Int) (i : Nat) (w : World) (hS : StateP n C m D) (h1 : HoldsC w v1 n C) (h2 : HoldsD w v2 m D)
    (him : i < m) (hE : ordE (C i) (D i) kd ≠ 0) :
    Calls Try.prog 34 #[v1, v2, .agg #[.int .i64 kd, .int .i64 i]] w fun e w' => e = .returned (.tuple #[.slice none 0 0, .int .i64 (ordE (C i) (D i) kd)]) ∧ Below w.heap.size w w' := by
  obtain ⟨a1, cap1, rfl, _⟩ := id h1
  obtain ⟨a2, cap2, rfl, _⟩ := id h2
  have hmn := hS.2.1
  subst hmn
  have hn32 := (validE_zero hS.1).1
  have hb0 : Below w.heap.size w (w.alloc (.cells #[.int .i64 kd, .int .i64 i] 43)) := (Below.refl _ _).alloc (Nat.le_refl _) _
  have HC := Lib.hid (ristate_yes hS _ (h1.below hb0 (Nat.le_refl _)) (h2.below hb0 (Nat.le_refl _)))
  have H1 := Lib.hid h1
  have H2 := Lib.hid h2
  have hfit := hS.2.2 i him
  clear h1 h2 hb0 hS
  obtain ⟨g1, of1, rfl, l1, hc1⟩ := H1.out.open2 him
  obtain ⟨g2, of2, rfl, l2, hc2⟩ := H2.out.open2 him
  have b1 : (0 : Int) ≤ (i : Int) := by omega
  have b2 : (i : Int) < (m : Int) := by omega
  have t1 : decide ((i : Int) < 0) = false := by simp
  have t2 : decide ((m : Int) ≤ (i : Int)) = false := by simp; omega
  have HO0 := (fun w => ordered_any (C i).pulse (C i).on (C i).off (C i).rest (C i).fuse (C i).cur (D i).phase (D i).left kd (D i).held w hfit)
  have HO := Lib.hid (show ∀ w, Calls Try.prog 69 #[.agg #[.int .i64 (C i).pulse, .int .i64 (C i).on, .int .i64 (C i).off, .int .i64 (C i).rest, .int .i64 (C i).fuse, .int .i64 (C i).cur], .agg #[.int .i64 (D i).phase, .int .i64 (D i).left, .bool (D i).held], .int .i64 kd] w fun e w' =>
    ∃ x : Drive, e = .returned (.tuple #[.agg #[.int .i64 x.phase, .int .i64 x.left, .bool x.held], .int .i64 (ordE (C i) (D i) kd)]) ∧ OrdP (C i) (D i) kd (ordE (C i) (D i) kd) x ∧ Below w.heap.size w w' from HO0)
  clear HO0 hfit
  obtain ⟨E, hEE⟩ : ∃ E, ordE (C i) (D i) kd = E := ⟨_, rfl⟩
  rw [hEE] at HO hE ⊢
  clear hEE
  have t3 : (E != 0) = true := by rw [bne_iff_ne]; exact hE
  clear hE
  go_enter Try.func34, Try.ntmps34
  go_wp2_with fail
  refine HC.out.mono ?_
  rintro e w1 ⟨rfl, hb1⟩
  obtain ⟨o0, o1⟩ := box_open hb1 (by simp)
  have hb : Below w.heap.size w w1 := ((Below.refl _ w).alloc (Nat.le_refl _) _).trans (hb1.mono (by simp))
  have hsz1 : w.heap.size < w1.heap.size := by have := hb1.size; simp at this; omega
  have Hb1 := Lib.hid hb
  obtain ⟨x0, x1, x2, x3, x4, x5⟩ := coil_cells (hc1 _ hb) him
  obtain ⟨d0, d1, d2⟩ := drive_cells (hc2 _ hb) him
  have lg1 : g1 < w1.heap.size := by omega
  have lg2 : g2 < w1.heap.size := by omega
  have HC2 := Lib.hid hc2
  have n1 : g1 ≠ w1.heap.size := by omega
  have n2 : g2 ≠ w1.heap.size := by omega
  have n3 : w.heap.size ≠ w1.heap.size := by omega
  have n1' : w1.heap.size ≠ g1 := by omega
  have n2' : w1.heap.size ≠ g2 := by omega
  have n3' : w1.heap.size ≠ w.heap.size := by omega
  clear hb1 hb hc1 hc2
  go_wp2_with fail
  go_region_held3 (fun w' => w'.cell? ⟨w.heap.size, 0, none⟩ = some (.int .i64 kd) ∧ w'.cell? ⟨w.heap.size, 1, none⟩ = some (.int .i64 i) ∧
      w'.cell? ⟨g1, of1 + i * 6, none⟩ = some (.int .i64 (C i).pulse) ∧ w'.cell? ⟨g1, of1 + i * 6 + 1, none⟩ = some (.int .i64 (C i).on) ∧ w'.cell? ⟨g1, of1 + i * 6 + 2, none⟩ = some (.int .i64 (C i).off) ∧ w'.cell? ⟨g1, of1 + i * 6 + 3, none⟩ = some (.int .i64 (C i).rest) ∧ w'.cell? ⟨g1, of1 + i * 6 + 4, none⟩ = some (.int .i64 (C i).fuse) ∧ w'.cell? ⟨g1, of1 + i * 6 + 5, none⟩ = some (.int .i64 (C i).cur) ∧
      w'.cell? ⟨g2, of2 + i * 3, none⟩ = some (.int .i64 (D i).phase) ∧ w'.cell? ⟨g2, of2 + i * 3 + 1, none⟩ = some (.int .i64 (D i).left) ∧ w'.cell? ⟨g2, of2 + i * 3 + 2, none⟩ = some (.bool (D i).held)) (go_keep)
    (first
      | (go_at_call 69; refine (HO.out _).mono ?_; rintro e w3 ⟨x, rfl, hx, hb3⟩
         have hb3' : Below w1.heap.size w1 w3 := (Below.refl _ w1).drew.trans hb3
         have hk := fun b o (hb : b < w1.heap.size) => hb3'.cell (p := ⟨b, o, none⟩) hb
         rw [← hk _ _ hsz1] at o0 o1
         rw [← hk _ _ lg1] at x0 x1 x2 x3 x4 x5
         rw [← hk _ _ lg2] at d0 d1 d2)
      | (go_at_call 69; refine (HO.out _).mono ?_; rintro e w3 ⟨x, rfl, hx, hb3⟩
         have hb3' : Below w1.heap.size w1 w3 := ((Below.refl _ w1).alloc (Nat.le_refl _) _).drew.trans (hb3.mono (by simp))
         have hk := fun b o (hb : b < w1.heap.size) => hb3'.cell (p := ⟨b, o, none⟩) hb
         obtain ⟨hcA, hfA⟩ := bcell hb3
         have c0 := hcA w1.heap.size 0 (by simp)
         have c1 := hcA w1.heap.size 1 (by simp)
         have c2 := hcA w1.heap.size 2 (by simp)
         have f0 := hfA w1.heap.size 0 (by simp)
         have f1 := hfA w1.heap.size 1 (by simp)
         have f2 := hfA w1.heap.size 2 (by simp)
         simp [go_sem] at c0 c1 c2 f0 f1 f2
         rw [← hk _ _ hsz1] at o0 o1
         rw [← hk _ _ lg1] at x0 x1 x2 x3 x4 x5
         rw [← hk _ _ lg2] at d0 d1 d2))
  all_goals have HB3 := Lib.hid (Hb1.out.trans (hb3'.mono Hb1.out.size))
  all_goals have hs3 := HB3.out.size
  · clear hx hb3 hb3' hk
    go_wp2
    go_ret2
    exact ⟨rfl, HB3.out.alloc hs3 _⟩
  · clear hx hb3 hb3' hk hcA hfA
    have ls1 : w.heap.size ≤ w1.heap.size := Nat.le_of_lt hsz1
    go_wp2
    go_ret2
    exact ⟨rfl, ((HB3.out.setCell (by exact ls1) _).setCell (by exact ls1) _).setCell (by exact ls1) _⟩
end Go.Proofs.Ytfgkljfoalgkaaa
