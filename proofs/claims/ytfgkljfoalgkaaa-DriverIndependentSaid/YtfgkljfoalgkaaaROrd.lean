/-
  pinballref23.ordered: the drive of a coil behind an order, or the error: for a drive that fits its coil.
-/
import Derived.Test.YtfgkljfoalgkaaaRNext
import Derived.Test.YtfgkljfoalgkaaaRunW
namespace Go.Proofs.Ytfgkljfoalgkaaa
open Go.RowKit

/-- The error number of an order at one coil. -/
def ordE (c : Coil) (d : Drive) (k : Int) : Int := if k < 1 ∨ 4 < k then 44 else if k = 2 ∧ c.on = 0 then 46 else if k ≤ 2 ∧ d.phase = 3 then 45 else 0
/-- The drive behind an order that is not refused. -/
def OrdP (c : Coil) (d : Drive) (k E : Int) (x : Drive) : Prop := E = 0 → x = obeyF c d k
set_option maxRecDepth 100000 in
set_option maxHeartbeats 6400000 in
theorem ordered_any (p on off r f u q l k : Int) (h : Bool) (w : World) (hd : fitsB ⟨p, on, off, r, f, u⟩ ⟨q, l, h⟩ = true) :
    Calls Try.prog 69 #[.agg #[.int .i64 p, .int .i64 on, .int .i64 off, .int .i64 r, .int .i64 f, .int .i64 u], .agg #[.int .i64 q, .int .i64 l, .bool h], .int .i64 k] w fun e w' =>
    ∃ x : Drive, e = .returned (.tuple #[.agg #[.int .i64 x.phase, .int .i64 x.left, .bool x.held], .int .i64 (ordE ⟨p, on, off, r, f, u⟩ ⟨q, l, h⟩ k)]) ∧ OrdP ⟨p, on, off, r, f, u⟩ ⟨q, l, h⟩ k (ordE ⟨p, on, off, r, f, u⟩ ⟨q, l, h⟩ k) x ∧ Below w.heap.size w w' := by
  by_cases K1 : k = 1
  · subst K1
    rcases fits_phase hd with ⟨hp, hl, hh⟩ | ⟨hp, hl1, hl2, hh⟩ | ⟨hp, ho, hl1, hl2, hh⟩ | ⟨hp, hl1, hl2, hh⟩
    · simp only at hp hl hh
      subst hp hl hh
      clear hd
      have hE : ordE ⟨p, on, off, r, f, u⟩ ⟨0, 0, false⟩ 1 = 0 := by simp [ordE]
      rw [hE]
      have HW := Lib.hid (show OrdP ⟨p, on, off, r, f, u⟩ ⟨0, 0, false⟩ 1 0 ⟨1, p, false⟩ from fun _ => rfl)
      clear hE
      go_enter Try.func69, Try.ntmps69
      go_wp2
      refine bodyPost_ret (v := .tuple #[.agg #[.int .i64 1, .int .i64 p, .bool false], .int .i64 0]) (by simp [results, Try.results69, go_sem]) rfl ⟨⟨1, p, false⟩, rfl, HW.out, ?_⟩
      repeat (first | exact Below.refl _ _ | (refine Below.setCell ?_ (by first | omega | (simp; omega) | simp) _) | (refine Below.alloc ?_ (by first | (simp; done) | (simp; omega)) _) | (refine Below.drew ?_))
    · simp only at hp
      subst hp
      clear hd hl1 hl2 hh
      cases h with
      | false =>
        have hE : ordE ⟨p, on, off, r, f, u⟩ ⟨1, l, false⟩ 1 = 0 := by simp [ordE]
        rw [hE]
        have HW := Lib.hid (show OrdP ⟨p, on, off, r, f, u⟩ ⟨1, l, false⟩ 1 0 ⟨1, l, false⟩ from fun _ => rfl)
        clear hE
        go_enter Try.func69, Try.ntmps69
        go_wp2
        refine bodyPost_ret (v := .tuple #[.agg #[.int .i64 1, .int .i64 l, .bool false], .int .i64 0]) (by simp [results, Try.results69, go_sem]) rfl ⟨⟨1, l, false⟩, rfl, HW.out, ?_⟩
        repeat (first | exact Below.refl _ _ | (refine Below.setCell ?_ (by first | omega | (simp; omega) | simp) _) | (refine Below.alloc ?_ (by first | (simp; done) | (simp; omega)) _) | (refine Below.drew ?_))
      | true =>
        have hE : ordE ⟨p, on, off, r, f, u⟩ ⟨1, l, true⟩ 1 = 0 := by simp [ordE]
        rw [hE]
        have HW := Lib.hid (show OrdP ⟨p, on, off, r, f, u⟩ ⟨1, l, true⟩ 1 0 ⟨1, l, true⟩ from fun _ => rfl)
        clear hE
        go_enter Try.func69, Try.ntmps69
        go_wp2
        refine bodyPost_ret (v := .tuple #[.agg #[.int .i64 1, .int .i64 l, .bool true], .int .i64 0]) (by simp [results, Try.results69, go_sem]) rfl ⟨⟨1, l, true⟩, rfl, HW.out, ?_⟩
        repeat (first | exact Below.refl _ _ | (refine Below.setCell ?_ (by first | omega | (simp; omega) | simp) _) | (refine Below.alloc ?_ (by first | (simp; done) | (simp; omega)) _) | (refine Below.drew ?_))
    · simp only at hp hh
      subst hp hh
      clear hd ho hl1 hl2
      have hE : ordE ⟨p, on, off, r, f, u⟩ ⟨2, l, true⟩ 1 = 0 := by simp [ordE]
      rw [hE]
      have HW := Lib.hid (show OrdP ⟨p, on, off, r, f, u⟩ ⟨2, l, true⟩ 1 0 ⟨2, l, true⟩ from fun _ => rfl)
      clear hE
      go_enter Try.func69, Try.ntmps69
      go_wp2
      refine bodyPost_ret (v := .tuple #[.agg #[.int .i64 2, .int .i64 l, .bool true], .int .i64 0]) (by simp [results, Try.results69, go_sem]) rfl ⟨⟨2, l, true⟩, rfl, HW.out, ?_⟩
      repeat (first | exact Below.refl _ _ | (refine Below.setCell ?_ (by first | omega | (simp; omega) | simp) _) | (refine Below.alloc ?_ (by first | (simp; done) | (simp; omega)) _) | (refine Below.drew ?_))
    · simp only at hp hh
      subst hp hh
      clear hd hl1 hl2
      have hE : ordE ⟨p, on, off, r, f, u⟩ ⟨3, l, false⟩ 1 = 45 := by simp [ordE]
      rw [hE]
      have HW := Lib.hid (show OrdP ⟨p, on, off, r, f, u⟩ ⟨3, l, false⟩ 1 45 ⟨3, l, false⟩ from fun h => absurd h (by decide))
      clear hE
      go_enter Try.func69, Try.ntmps69
      go_wp2
      refine bodyPost_ret (v := .tuple #[.agg #[.int .i64 3, .int .i64 l, .bool false], .int .i64 45]) (by simp [results, Try.results69, go_sem]) rfl ⟨⟨3, l, false⟩, rfl, HW.out, ?_⟩
      repeat (first | exact Below.refl _ _ | (refine Below.setCell ?_ (by first | omega | (simp; omega) | simp) _) | (refine Below.alloc ?_ (by first | (simp; done) | (simp; omega)) _) | (refine Below.drew ?_))
  by_cases K2 : k = 2
  · subst K2
    by_cases ho0 : on = 0
    · subst ho0
      rcases fits_phase hd with ⟨hp, hl, hh⟩ | ⟨hp, hl1, hl2, hh⟩ | ⟨hp, ho, hl1, hl2, hh⟩ | ⟨hp, hl1, hl2, hh⟩
      · simp only at hp hl hh
        subst hp hl hh
        clear hd
        have hE : ordE ⟨p, 0, off, r, f, u⟩ ⟨0, 0, false⟩ 2 = 46 := by simp [ordE]
        rw [hE]
        have HW := Lib.hid (show OrdP ⟨p, 0, off, r, f, u⟩ ⟨0, 0, false⟩ 2 46 ⟨0, 0, false⟩ from fun h => absurd h (by decide))
        clear hE
        go_enter Try.func69, Try.ntmps69
        go_wp2
        refine bodyPost_ret (v := .tuple #[.agg #[.int .i64 0, .int .i64 0, .bool false], .int .i64 46]) (by simp [results, Try.results69, go_sem]) rfl ⟨⟨0, 0, false⟩, rfl, HW.out, ?_⟩
        repeat (first | exact Below.refl _ _ | (refine Below.setCell ?_ (by first | omega | (simp; omega) | simp) _) | (refine Below.alloc ?_ (by first | (simp; done) | (simp; omega)) _) | (refine Below.drew ?_))
      · simp only at hp
        subst hp
        clear hd hl1 hl2 hh
        have hE : ordE ⟨p, 0, off, r, f, u⟩ ⟨1, l, h⟩ 2 = 46 := by simp [ordE]
        rw [hE]
        have HW := Lib.hid (show OrdP ⟨p, 0, off, r, f, u⟩ ⟨1, l, h⟩ 2 46 ⟨1, l, h⟩ from fun h => absurd h (by decide))
        clear hE
        go_enter Try.func69, Try.ntmps69
        go_wp2
        refine bodyPost_ret (v := .tuple #[.agg #[.int .i64 1, .int .i64 l, .bool h], .int .i64 46]) (by simp [results, Try.results69, go_sem]) rfl ⟨⟨1, l, h⟩, rfl, HW.out, ?_⟩
        repeat (first | exact Below.refl _ _ | (refine Below.setCell ?_ (by first | omega | (simp; omega) | simp) _) | (refine Below.alloc ?_ (by first | (simp; done) | (simp; omega)) _) | (refine Below.drew ?_))
      · simp only at hp hh
        subst hp hh
        clear hd ho hl1 hl2
        have hE : ordE ⟨p, 0, off, r, f, u⟩ ⟨2, l, true⟩ 2 = 46 := by simp [ordE]
        rw [hE]
        have HW := Lib.hid (show OrdP ⟨p, 0, off, r, f, u⟩ ⟨2, l, true⟩ 2 46 ⟨2, l, true⟩ from fun h => absurd h (by decide))
        clear hE
        go_enter Try.func69, Try.ntmps69
        go_wp2
        refine bodyPost_ret (v := .tuple #[.agg #[.int .i64 2, .int .i64 l, .bool true], .int .i64 46]) (by simp [results, Try.results69, go_sem]) rfl ⟨⟨2, l, true⟩, rfl, HW.out, ?_⟩
        repeat (first | exact Below.refl _ _ | (refine Below.setCell ?_ (by first | omega | (simp; omega) | simp) _) | (refine Below.alloc ?_ (by first | (simp; done) | (simp; omega)) _) | (refine Below.drew ?_))
      · simp only at hp hh
        subst hp hh
        clear hd hl1 hl2
        have hE : ordE ⟨p, 0, off, r, f, u⟩ ⟨3, l, false⟩ 2 = 46 := by simp [ordE]
        rw [hE]
        have HW := Lib.hid (show OrdP ⟨p, 0, off, r, f, u⟩ ⟨3, l, false⟩ 2 46 ⟨3, l, false⟩ from fun h => absurd h (by decide))
        clear hE
        go_enter Try.func69, Try.ntmps69
        go_wp2
        refine bodyPost_ret (v := .tuple #[.agg #[.int .i64 3, .int .i64 l, .bool false], .int .i64 46]) (by simp [results, Try.results69, go_sem]) rfl ⟨⟨3, l, false⟩, rfl, HW.out, ?_⟩
        repeat (first | exact Below.refl _ _ | (refine Below.setCell ?_ (by first | omega | (simp; omega) | simp) _) | (refine Below.alloc ?_ (by first | (simp; done) | (simp; omega)) _) | (refine Below.drew ?_))
    have hon : (on == 0) = false := by rw [beq_eq_false_iff_ne]; exact ho0
    replace hon := hon
    rcases fits_phase hd with ⟨hp, hl, hh⟩ | ⟨hp, hl1, hl2, hh⟩ | ⟨hp, ho, hl1, hl2, hh⟩ | ⟨hp, hl1, hl2, hh⟩
    · simp only at hp hl hh
      subst hp hl hh
      clear hd
      have hE : ordE ⟨p, on, off, r, f, u⟩ ⟨0, 0, false⟩ 2 = 0 := by simp [ordE, ho0]
      rw [hE]
      have HW := Lib.hid (show OrdP ⟨p, on, off, r, f, u⟩ ⟨0, 0, false⟩ 2 0 ⟨1, p, true⟩ from fun _ => rfl)
      clear hE
      go_enter Try.func69, Try.ntmps69
      go_wp2
      refine bodyPost_ret (v := .tuple #[.agg #[.int .i64 1, .int .i64 p, .bool true], .int .i64 0]) (by simp [results, Try.results69, go_sem]) rfl ⟨⟨1, p, true⟩, rfl, HW.out, ?_⟩
      repeat (first | exact Below.refl _ _ | (refine Below.setCell ?_ (by first | omega | (simp; omega) | simp) _) | (refine Below.alloc ?_ (by first | (simp; done) | (simp; omega)) _) | (refine Below.drew ?_))
    · simp only at hp
      subst hp
      clear hd hl1 hl2 hh
      cases h with
      | false =>
        have hE : ordE ⟨p, on, off, r, f, u⟩ ⟨1, l, false⟩ 2 = 0 := by simp [ordE, ho0]
        rw [hE]
        have HW := Lib.hid (show OrdP ⟨p, on, off, r, f, u⟩ ⟨1, l, false⟩ 2 0 ⟨1, l, true⟩ from fun _ => rfl)
        clear hE
        go_enter Try.func69, Try.ntmps69
        go_wp2
        refine bodyPost_ret (v := .tuple #[.agg #[.int .i64 1, .int .i64 l, .bool true], .int .i64 0]) (by simp [results, Try.results69, go_sem]) rfl ⟨⟨1, l, true⟩, rfl, HW.out, ?_⟩
        repeat (first | exact Below.refl _ _ | (refine Below.setCell ?_ (by first | omega | (simp; omega) | simp) _) | (refine Below.alloc ?_ (by first | (simp; done) | (simp; omega)) _) | (refine Below.drew ?_))
      | true =>
        have hE : ordE ⟨p, on, off, r, f, u⟩ ⟨1, l, true⟩ 2 = 0 := by simp [ordE, ho0]
        rw [hE]
        have HW := Lib.hid (show OrdP ⟨p, on, off, r, f, u⟩ ⟨1, l, true⟩ 2 0 ⟨1, l, true⟩ from fun _ => rfl)
        clear hE
        go_enter Try.func69, Try.ntmps69
        go_wp2
        refine bodyPost_ret (v := .tuple #[.agg #[.int .i64 1, .int .i64 l, .bool true], .int .i64 0]) (by simp [results, Try.results69, go_sem]) rfl ⟨⟨1, l, true⟩, rfl, HW.out, ?_⟩
        repeat (first | exact Below.refl _ _ | (refine Below.setCell ?_ (by first | omega | (simp; omega) | simp) _) | (refine Below.alloc ?_ (by first | (simp; done) | (simp; omega)) _) | (refine Below.drew ?_))
    · simp only at hp hh
      subst hp hh
      clear hd ho hl1 hl2
      have hE : ordE ⟨p, on, off, r, f, u⟩ ⟨2, l, true⟩ 2 = 0 := by simp [ordE, ho0]
      rw [hE]
      have HW := Lib.hid (show OrdP ⟨p, on, off, r, f, u⟩ ⟨2, l, true⟩ 2 0 ⟨2, l, true⟩ from fun _ => rfl)
      clear hE
      go_enter Try.func69, Try.ntmps69
      go_wp2
      refine bodyPost_ret (v := .tuple #[.agg #[.int .i64 2, .int .i64 l, .bool true], .int .i64 0]) (by simp [results, Try.results69, go_sem]) rfl ⟨⟨2, l, true⟩, rfl, HW.out, ?_⟩
      repeat (first | exact Below.refl _ _ | (refine Below.setCell ?_ (by first | omega | (simp; omega) | simp) _) | (refine Below.alloc ?_ (by first | (simp; done) | (simp; omega)) _) | (refine Below.drew ?_))
    · simp only at hp hh
      subst hp hh
      clear hd hl1 hl2
      have hE : ordE ⟨p, on, off, r, f, u⟩ ⟨3, l, false⟩ 2 = 45 := by simp [ordE, ho0]
      rw [hE]
      have HW := Lib.hid (show OrdP ⟨p, on, off, r, f, u⟩ ⟨3, l, false⟩ 2 45 ⟨3, l, false⟩ from fun h => absurd h (by decide))
      clear hE
      go_enter Try.func69, Try.ntmps69
      go_wp2
      refine bodyPost_ret (v := .tuple #[.agg #[.int .i64 3, .int .i64 l, .bool false], .int .i64 45]) (by simp [results, Try.results69, go_sem]) rfl ⟨⟨3, l, false⟩, rfl, HW.out, ?_⟩
      repeat (first | exact Below.refl _ _ | (refine Below.setCell ?_ (by first | omega | (simp; omega) | simp) _) | (refine Below.alloc ?_ (by first | (simp; done) | (simp; omega)) _) | (refine Below.drew ?_))
  by_cases K3 : k = 3
  · subst K3
    rcases fits_phase hd with ⟨hp, hl, hh⟩ | ⟨hp, hl1, hl2, hh⟩ | ⟨hp, ho, hl1, hl2, hh⟩ | ⟨hp, hl1, hl2, hh⟩
    · simp only at hp hl hh
      subst hp hl hh
      clear hd
      have hE : ordE ⟨p, on, off, r, f, u⟩ ⟨0, 0, false⟩ 3 = 0 := by simp [ordE]
      rw [hE]
      have HW := Lib.hid (show OrdP ⟨p, on, off, r, f, u⟩ ⟨0, 0, false⟩ 3 0 ⟨0, 0, false⟩ from fun _ => rfl)
      clear hE
      go_enter Try.func69, Try.ntmps69
      go_wp2
      refine bodyPost_ret (v := .tuple #[.agg #[.int .i64 0, .int .i64 0, .bool false], .int .i64 0]) (by simp [results, Try.results69, go_sem]) rfl ⟨⟨0, 0, false⟩, rfl, HW.out, ?_⟩
      repeat (first | exact Below.refl _ _ | (refine Below.setCell ?_ (by first | omega | (simp; omega) | simp) _) | (refine Below.alloc ?_ (by first | (simp; done) | (simp; omega)) _) | (refine Below.drew ?_))
    · simp only at hp
      subst hp
      clear hd hl1 hl2 hh
      have hE : ordE ⟨p, on, off, r, f, u⟩ ⟨1, l, h⟩ 3 = 0 := by simp [ordE]
      rw [hE]
      have HW := Lib.hid (show OrdP ⟨p, on, off, r, f, u⟩ ⟨1, l, h⟩ 3 0 ⟨1, l, false⟩ from fun _ => rfl)
      clear hE
      go_enter Try.func69, Try.ntmps69
      go_wp2
      refine bodyPost_ret (v := .tuple #[.agg #[.int .i64 1, .int .i64 l, .bool false], .int .i64 0]) (by simp [results, Try.results69, go_sem]) rfl ⟨⟨1, l, false⟩, rfl, HW.out, ?_⟩
      repeat (first | exact Below.refl _ _ | (refine Below.setCell ?_ (by first | omega | (simp; omega) | simp) _) | (refine Below.alloc ?_ (by first | (simp; done) | (simp; omega)) _) | (refine Below.drew ?_))
    · simp only at hp hh
      subst hp hh
      clear hd ho hl1 hl2
      have hE : ordE ⟨p, on, off, r, f, u⟩ ⟨2, l, true⟩ 3 = 0 := by simp [ordE]
      rw [hE]
      have HW := Lib.hid (show OrdP ⟨p, on, off, r, f, u⟩ ⟨2, l, true⟩ 3 0 (restF ⟨p, on, off, r, f, u⟩) from fun _ => rfl)
      clear hE
      obtain ⟨x, hx⟩ : ∃ x, restF ⟨p, on, off, r, f, u⟩ = x := ⟨_, rfl⟩
      have HRR := Lib.hid (fun W0 => rrest p on off r f u W0)
      rw [hx] at HRR HW
      clear hx
      go_enter Try.func69, Try.ntmps69
      go_wp2_with fail
      refine (HRR.out _).mono ?_
      rintro e w1 ⟨rfl, hb1⟩
      obtain ⟨hcA, hfA⟩ := bcell hb1
      have c0 := hcA (w.heap.size + 1 + 1) 0 (by simp)
      have c1 := hcA (w.heap.size + 1 + 1) 1 (by simp)
      have c2 := hcA (w.heap.size + 1 + 1) 2 (by simp)
      have f0 := hfA (w.heap.size + 1 + 1) 0 (by simp)
      have f1 := hfA (w.heap.size + 1 + 1) 1 (by simp)
      have f2 := hfA (w.heap.size + 1 + 1) 2 (by simp)
      simp [go_sem] at c0 c1 c2 f0 f1 f2
      have HB1 := Lib.hid (show Below w.heap.size w w1 from ((((Below.refl _ _).alloc (Nat.le_refl _) _).alloc (by simp) _).alloc (by simp; omega) _).trans (hb1.mono (by simp; omega)))
      clear hcA hfA hb1 HRR
      go_wp2
      refine bodyPost_ret (v := .tuple #[.agg #[.int .i64 x.phase, .int .i64 x.left, .bool x.held], .int .i64 0]) (by simp [results, Try.results69, go_sem, c0, c1, c2]) rfl ⟨x, rfl, HW.out, ?_⟩
      exact ((HB1.out.setCell (show w.heap.size ≤ w.heap.size + 1 + 1 by omega) _).setCell (show w.heap.size ≤ w.heap.size + 1 + 1 by omega) _).setCell (show w.heap.size ≤ w.heap.size + 1 + 1 by omega) _
    · simp only at hp hh
      subst hp hh
      clear hd hl1 hl2
      have hE : ordE ⟨p, on, off, r, f, u⟩ ⟨3, l, false⟩ 3 = 0 := by simp [ordE]
      rw [hE]
      have HW := Lib.hid (show OrdP ⟨p, on, off, r, f, u⟩ ⟨3, l, false⟩ 3 0 ⟨3, l, false⟩ from fun _ => rfl)
      clear hE
      go_enter Try.func69, Try.ntmps69
      go_wp2
      refine bodyPost_ret (v := .tuple #[.agg #[.int .i64 3, .int .i64 l, .bool false], .int .i64 0]) (by simp [results, Try.results69, go_sem]) rfl ⟨⟨3, l, false⟩, rfl, HW.out, ?_⟩
      repeat (first | exact Below.refl _ _ | (refine Below.setCell ?_ (by first | omega | (simp; omega) | simp) _) | (refine Below.alloc ?_ (by first | (simp; done) | (simp; omega)) _) | (refine Below.drew ?_))
  by_cases K4 : k = 4
  · subst K4
    rcases fits_phase hd with ⟨hp, hl, hh⟩ | ⟨hp, hl1, hl2, hh⟩ | ⟨hp, ho, hl1, hl2, hh⟩ | ⟨hp, hl1, hl2, hh⟩
    · simp only at hp hl hh
      subst hp hl hh
      clear hd
      have hE : ordE ⟨p, on, off, r, f, u⟩ ⟨0, 0, false⟩ 4 = 0 := by simp [ordE]
      rw [hE]
      have HW := Lib.hid (show OrdP ⟨p, on, off, r, f, u⟩ ⟨0, 0, false⟩ 4 0 ⟨0, 0, false⟩ from fun _ => rfl)
      clear hE
      go_enter Try.func69, Try.ntmps69
      go_wp2
      refine bodyPost_ret (v := .tuple #[.agg #[.int .i64 0, .int .i64 0, .bool false], .int .i64 0]) (by simp [results, Try.results69, go_sem]) rfl ⟨⟨0, 0, false⟩, rfl, HW.out, ?_⟩
      repeat (first | exact Below.refl _ _ | (refine Below.setCell ?_ (by first | omega | (simp; omega) | simp) _) | (refine Below.alloc ?_ (by first | (simp; done) | (simp; omega)) _) | (refine Below.drew ?_))
    · simp only at hp
      subst hp
      clear hd hl1 hl2 hh
      have hE : ordE ⟨p, on, off, r, f, u⟩ ⟨1, l, h⟩ 4 = 0 := by simp [ordE]
      rw [hE]
      have HW := Lib.hid (show OrdP ⟨p, on, off, r, f, u⟩ ⟨1, l, h⟩ 4 0 (restF ⟨p, on, off, r, f, u⟩) from fun _ => rfl)
      clear hE
      obtain ⟨x, hx⟩ : ∃ x, restF ⟨p, on, off, r, f, u⟩ = x := ⟨_, rfl⟩
      have HRR := Lib.hid (fun W0 => rrest p on off r f u W0)
      rw [hx] at HRR HW
      clear hx
      go_enter Try.func69, Try.ntmps69
      go_wp2_with fail
      refine (HRR.out _).mono ?_
      rintro e w1 ⟨rfl, hb1⟩
      obtain ⟨hcA, hfA⟩ := bcell hb1
      have c0 := hcA (w.heap.size + 1 + 1) 0 (by simp)
      have c1 := hcA (w.heap.size + 1 + 1) 1 (by simp)
      have c2 := hcA (w.heap.size + 1 + 1) 2 (by simp)
      have f0 := hfA (w.heap.size + 1 + 1) 0 (by simp)
      have f1 := hfA (w.heap.size + 1 + 1) 1 (by simp)
      have f2 := hfA (w.heap.size + 1 + 1) 2 (by simp)
      simp [go_sem] at c0 c1 c2 f0 f1 f2
      have HB1 := Lib.hid (show Below w.heap.size w w1 from ((((Below.refl _ _).alloc (Nat.le_refl _) _).alloc (by simp) _).alloc (by simp; omega) _).trans (hb1.mono (by simp; omega)))
      clear hcA hfA hb1 HRR
      go_wp2
      refine bodyPost_ret (v := .tuple #[.agg #[.int .i64 x.phase, .int .i64 x.left, .bool x.held], .int .i64 0]) (by simp [results, Try.results69, go_sem, c0, c1, c2]) rfl ⟨x, rfl, HW.out, ?_⟩
      exact ((HB1.out.setCell (show w.heap.size ≤ w.heap.size + 1 + 1 by omega) _).setCell (show w.heap.size ≤ w.heap.size + 1 + 1 by omega) _).setCell (show w.heap.size ≤ w.heap.size + 1 + 1 by omega) _
    · simp only at hp hh
      subst hp hh
      clear hd ho hl1 hl2
      have hE : ordE ⟨p, on, off, r, f, u⟩ ⟨2, l, true⟩ 4 = 0 := by simp [ordE]
      rw [hE]
      have HW := Lib.hid (show OrdP ⟨p, on, off, r, f, u⟩ ⟨2, l, true⟩ 4 0 (restF ⟨p, on, off, r, f, u⟩) from fun _ => rfl)
      clear hE
      obtain ⟨x, hx⟩ : ∃ x, restF ⟨p, on, off, r, f, u⟩ = x := ⟨_, rfl⟩
      have HRR := Lib.hid (fun W0 => rrest p on off r f u W0)
      rw [hx] at HRR HW
      clear hx
      go_enter Try.func69, Try.ntmps69
      go_wp2_with fail
      refine (HRR.out _).mono ?_
      rintro e w1 ⟨rfl, hb1⟩
      obtain ⟨hcA, hfA⟩ := bcell hb1
      have c0 := hcA (w.heap.size + 1 + 1) 0 (by simp)
      have c1 := hcA (w.heap.size + 1 + 1) 1 (by simp)
      have c2 := hcA (w.heap.size + 1 + 1) 2 (by simp)
      have f0 := hfA (w.heap.size + 1 + 1) 0 (by simp)
      have f1 := hfA (w.heap.size + 1 + 1) 1 (by simp)
      have f2 := hfA (w.heap.size + 1 + 1) 2 (by simp)
      simp [go_sem] at c0 c1 c2 f0 f1 f2
      have HB1 := Lib.hid (show Below w.heap.size w w1 from ((((Below.refl _ _).alloc (Nat.le_refl _) _).alloc (by simp) _).alloc (by simp; omega) _).trans (hb1.mono (by simp; omega)))
      clear hcA hfA hb1 HRR
      go_wp2
      refine bodyPost_ret (v := .tuple #[.agg #[.int .i64 x.phase, .int .i64 x.left, .bool x.held], .int .i64 0]) (by simp [results, Try.results69, go_sem, c0, c1, c2]) rfl ⟨x, rfl, HW.out, ?_⟩
      exact ((HB1.out.setCell (show w.heap.size ≤ w.heap.size + 1 + 1 by omega) _).setCell (show w.heap.size ≤ w.heap.size + 1 + 1 by omega) _).setCell (show w.heap.size ≤ w.heap.size + 1 + 1 by omega) _
    · simp only at hp hh
      subst hp hh
      clear hd hl1 hl2
      have hE : ordE ⟨p, on, off, r, f, u⟩ ⟨3, l, false⟩ 4 = 0 := by simp [ordE]
      rw [hE]
      have HW := Lib.hid (show OrdP ⟨p, on, off, r, f, u⟩ ⟨3, l, false⟩ 4 0 ⟨3, l, false⟩ from fun _ => rfl)
      clear hE
      go_enter Try.func69, Try.ntmps69
      go_wp2
      refine bodyPost_ret (v := .tuple #[.agg #[.int .i64 3, .int .i64 l, .bool false], .int .i64 0]) (by simp [results, Try.results69, go_sem]) rfl ⟨⟨3, l, false⟩, rfl, HW.out, ?_⟩
      repeat (first | exact Below.refl _ _ | (refine Below.setCell ?_ (by first | omega | (simp; omega) | simp) _) | (refine Below.alloc ?_ (by first | (simp; done) | (simp; omega)) _) | (refine Below.drew ?_))
  have t1 : (k == 1) = false := by rw [beq_eq_false_iff_ne]; exact K1
  have t2 : (k == 2) = false := by rw [beq_eq_false_iff_ne]; exact K2
  have t3 : (k == 3) = false := by rw [beq_eq_false_iff_ne]; exact K3
  have t4 : (k == 4) = false := by rw [beq_eq_false_iff_ne]; exact K4
  have hk : k < 1 ∨ 4 < k := by omega
  clear K1 K2 K3 K4
  rcases fits_phase hd with ⟨hp, hl, hh⟩ | ⟨hp, hl1, hl2, hh⟩ | ⟨hp, ho, hl1, hl2, hh⟩ | ⟨hp, hl1, hl2, hh⟩
  · simp only at hp hl hh
    subst hp hl hh
    clear hd
    have hE : ordE ⟨p, on, off, r, f, u⟩ ⟨0, 0, false⟩ k = 44 := by rw [ordE, if_pos hk]
    rw [hE]
    have HW := Lib.hid (show OrdP ⟨p, on, off, r, f, u⟩ ⟨0, 0, false⟩ k 44 ⟨0, 0, false⟩ from fun h => absurd h (by decide))
    clear hE hk
    go_enter Try.func69, Try.ntmps69
    go_wp2
    refine bodyPost_ret (v := .tuple #[.agg #[.int .i64 0, .int .i64 0, .bool false], .int .i64 44]) (by simp [results, Try.results69, go_sem]) rfl ⟨⟨0, 0, false⟩, rfl, HW.out, ?_⟩
    repeat (first | exact Below.refl _ _ | (refine Below.setCell ?_ (by first | omega | (simp; omega) | simp) _) | (refine Below.alloc ?_ (by first | (simp; done) | (simp; omega)) _) | (refine Below.drew ?_))
  · simp only at hp
    subst hp
    clear hd hl1 hl2 hh
    have hE : ordE ⟨p, on, off, r, f, u⟩ ⟨1, l, h⟩ k = 44 := by rw [ordE, if_pos hk]
    rw [hE]
    have HW := Lib.hid (show OrdP ⟨p, on, off, r, f, u⟩ ⟨1, l, h⟩ k 44 ⟨1, l, h⟩ from fun h => absurd h (by decide))
    clear hE hk
    go_enter Try.func69, Try.ntmps69
    go_wp2
    refine bodyPost_ret (v := .tuple #[.agg #[.int .i64 1, .int .i64 l, .bool h], .int .i64 44]) (by simp [results, Try.results69, go_sem]) rfl ⟨⟨1, l, h⟩, rfl, HW.out, ?_⟩
    repeat (first | exact Below.refl _ _ | (refine Below.setCell ?_ (by first | omega | (simp; omega) | simp) _) | (refine Below.alloc ?_ (by first | (simp; done) | (simp; omega)) _) | (refine Below.drew ?_))
  · simp only at hp hh
    subst hp hh
    clear hd ho hl1 hl2
    have hE : ordE ⟨p, on, off, r, f, u⟩ ⟨2, l, true⟩ k = 44 := by rw [ordE, if_pos hk]
    rw [hE]
    have HW := Lib.hid (show OrdP ⟨p, on, off, r, f, u⟩ ⟨2, l, true⟩ k 44 ⟨2, l, true⟩ from fun h => absurd h (by decide))
    clear hE hk
    go_enter Try.func69, Try.ntmps69
    go_wp2
    refine bodyPost_ret (v := .tuple #[.agg #[.int .i64 2, .int .i64 l, .bool true], .int .i64 44]) (by simp [results, Try.results69, go_sem]) rfl ⟨⟨2, l, true⟩, rfl, HW.out, ?_⟩
    repeat (first | exact Below.refl _ _ | (refine Below.setCell ?_ (by first | omega | (simp; omega) | simp) _) | (refine Below.alloc ?_ (by first | (simp; done) | (simp; omega)) _) | (refine Below.drew ?_))
  · simp only at hp hh
    subst hp hh
    clear hd hl1 hl2
    have hE : ordE ⟨p, on, off, r, f, u⟩ ⟨3, l, false⟩ k = 44 := by rw [ordE, if_pos hk]
    rw [hE]
    have HW := Lib.hid (show OrdP ⟨p, on, off, r, f, u⟩ ⟨3, l, false⟩ k 44 ⟨3, l, false⟩ from fun h => absurd h (by decide))
    clear hE hk
    go_enter Try.func69, Try.ntmps69
    go_wp2
    refine bodyPost_ret (v := .tuple #[.agg #[.int .i64 3, .int .i64 l, .bool false], .int .i64 44]) (by simp [results, Try.results69, go_sem]) rfl ⟨⟨3, l, false⟩, rfl, HW.out, ?_⟩
    repeat (first | exact Below.refl _ _ | (refine Below.setCell ?_ (by first | omega | (simp; omega) | simp) _) | (refine Below.alloc ?_ (by first | (simp; done) | (simp; omega)) _) | (refine Below.drew ?_))
end Go.Proofs.Ytfgkljfoalgkaaa
