/-
  The walk of the law DriverPulses: for all arguments it hands back true, and nothing that was there turns.
-/
import Derived.Test.YtfgkljfoalgkaaaSolo
import Derived.Test.YtfgkljfoalgkaaaBytes
import Derived.Test.YtfgkljfoalgkaaaDSane2
import Derived.Test.YtfgkljfoalgkaaaRow3
namespace Go.Proofs.Ytfgkljfoalgkaaa
open Go.RowKit Go.Deep
attribute [local go_sem] shr_min32 shl_min32 W_shr W_shr' W_shl W_shl' W_shl1 W_shl1n W_pow W_and W_or W_andNot W_and1 W_bit W_bit0

theorem w_cellP {w : World} {g off n : Nat} {E : Nat → BitVec 32} (h : ∀ j, j < n → ∀ k u, (wcells (E j))[k]? = some u → w.cell? ⟨g, off + j * 1 + k, none⟩ = some u) {j : Nat} (hj : j < n) : w.cell? ⟨g, off + j, none⟩ = some (.int .u32 (W (E j))) := by
  have := h j hj 0 _ rfl
  rwa [Nat.mul_one, Nat.add_zero] at this
theorem order_one' (x : Order) (u : Value) (h : u ∈ Order.cells x) : u.oneCell' = true := by
  simp [Order.cells] at h
  rcases h with rfl | rfl <;> rfl
def fireO : Nat → Order := fun _ => ⟨1, 0⟩
/-- The lists of the run that the law makes: each holds fire orders alone, and lies not in the block of the row itself. -/
def Fires (w : World) (g N m : Nat) (L : Nat → OL) : Prop :=
  1 ≤ (L 0).n ∧ ∀ j, j < N → (L j).os = fireO ∧ (L j).n ≤ 1 + m ∧ HoldsO w (.slice (L j).a (L j).n (L j).cap) (L j).n fireO ∧ ∀ x, (L j).a = some x → x.block ≠ g
/-- A list lies in another block than the one that is written: it reads as it did. -/
theorem HoldsO.stored {w : World} {a : Option Addr} {n c g k : Nat} {os : Nat → Order} {u : Value} (h : HoldsO w (.slice a n c) n os) (hg : ∀ x, a = some x → x.block ≠ g) : HoldsO (w.setCell ⟨g, k, none⟩ u) (.slice a n c) n os := by
  obtain ⟨a', c', hv, ho⟩ := h
  injection hv with e1 e2 e3
  subst e1
  refine ⟨_, _, rfl, ho.imp id fun ⟨g1, off, e, hl, hc⟩ => ⟨g1, off, e, by simp [World.setCell]; exact hl, fun j hj q x hx => ?_⟩⟩
  rw [World.cell?_setCell_other _ _ _ _ (fun h => hg _ e (congrArg Addr.block h).symm)]
  exact hc j hj q x hx
set_option maxRecDepth 100000 in
set_option maxHeartbeats 12800000 in
theorem driverPulses_walk (p r : Int) (va : Value) (na : Nat) (A : Nat → Int) (w : World) (p0 : 0 ≤ p) (p1 : p ≤ 255) (r0 : 0 ≤ r) (r1 : r ≤ 255) (hA : HoldsB w va na A) :
    Calls Try.prog 10 #[.int .u8 p, .int .u8 r, va] w fun e w' => e = .returned (.bool true) ∧ Below w.heap.size w w' := by
  obtain ⟨aa, ka, rfl, _⟩ := id hA.1
  have HA := Lib.hid hA.1
  have HAR := Lib.hid hA.2
  clear hA
  go_enter Try.func10, Try.ntmps10
  try simp only [List.append_eq, List.cons_append, List.nil_append]
  go_wp2_with fail
  refine (coil_any p 0 0 r _ p0 p1 (by decide) (by decide) (by decide) (by decide) r0 r1).mono ?_
  rintro e w1 ⟨rfl, hb1⟩
  have hgood : goodB (coilF p 0 0 r) = true := coilF_good _ _ _ _
  have hpu : (coilF p 0 0 r).pulse = p % 40 + 1 := rfl
  have hre : (coilF p 0 0 r).rest = r % 60 := rfl
  obtain ⟨c, hc⟩ : ∃ c, coilF p 0 0 r = c := ⟨_, rfl⟩
  rw [hc] at hgood hpu hre ⊢
  obtain ⟨N, hN⟩ : ∃ N : Nat, (N : Int) = c.pulse + c.rest := ⟨(c.pulse + c.rest).toNat, by omega⟩
  have hp1 : 1 ≤ c.pulse := by omega
  have hr1 : 0 ≤ c.rest := by omega
  have hN1 : 1 ≤ N := by omega
  have hN2 : N ≤ 200 := by omega
  have HG := Lib.hid (coil1_valid c hgood)
  have HNN := Lib.hid hN
  have HP1 := Lib.hid hp1
  have HR1 := Lib.hid hr1
  have q1 : c.pulse + c.rest = (N : Int) := hN.symm
  have q2 : IntKind.i64.wrap (N : Int) = (N : Int) := by rw [IntKind.wrap_i64]; omega
  have HB1 := Lib.hid hb1
  have hs1 := hb1.size
  have HTK := Lib.hid (fun W => ticks_any 1 0 N W hN1 (by omega))
  clear hb1 hc hgood hpu hre hN hp1 hr1
  obtain ⟨i0, hi, hz0, hz1, hz2⟩ := info_parts Try.info43
  have hbx1 : Below w1.heap.size w1 (w1.alloc (.cells #[.int .i64 c.pulse, .int .i64 c.on, .int .i64 c.off, .int .i64 c.rest, .int .i64 c.fuse, .int .i64 c.cur] 25)) := (Below.refl _ _).alloc (Nat.le_refl _) _
  have HB2 := Lib.hid (HB1.out.trans (hbx1.mono hs1))
  have HCB := Lib.hid (show (w1.alloc (.cells #[.int .i64 c.pulse, .int .i64 c.on, .int .i64 c.off, .int .i64 c.rest, .int .i64 c.fuse, .int .i64 c.cur] 25)).cell? ⟨w1.heap.size, 0, none⟩ = some (.int .i64 c.pulse) ∧ (w1.alloc (.cells #[.int .i64 c.pulse, .int .i64 c.on, .int .i64 c.off, .int .i64 c.rest, .int .i64 c.fuse, .int .i64 c.cur] 25)).cell? ⟨w1.heap.size, 1, none⟩ = some (.int .i64 c.on) ∧ (w1.alloc (.cells #[.int .i64 c.pulse, .int .i64 c.on, .int .i64 c.off, .int .i64 c.rest, .int .i64 c.fuse, .int .i64 c.cur] 25)).cell? ⟨w1.heap.size, 2, none⟩ = some (.int .i64 c.off) ∧ (w1.alloc (.cells #[.int .i64 c.pulse, .int .i64 c.on, .int .i64 c.off, .int .i64 c.rest, .int .i64 c.fuse, .int .i64 c.cur] 25)).cell? ⟨w1.heap.size, 3, none⟩ = some (.int .i64 c.rest) ∧ (w1.alloc (.cells #[.int .i64 c.pulse, .int .i64 c.on, .int .i64 c.off, .int .i64 c.rest, .int .i64 c.fuse, .int .i64 c.cur] 25)).cell? ⟨w1.heap.size, 4, none⟩ = some (.int .i64 c.fuse) ∧ (w1.alloc (.cells #[.int .i64 c.pulse, .int .i64 c.on, .int .i64 c.off, .int .i64 c.rest, .int .i64 c.fuse, .int .i64 c.cur] 25)).cell? ⟨w1.heap.size, 5, none⟩ = some (.int .i64 c.cur) ∧ w1.heap.size < (w1.alloc (.cells #[.int .i64 c.pulse, .int .i64 c.on, .int .i64 c.off, .int .i64 c.rest, .int .i64 c.fuse, .int .i64 c.cur] 25)).heap.size from by simp [go_sem])
  go_wp2_with fail
  refine (HTK.out _).mono ?_
  rintro e w3 ⟨vl, gb, rfl, hgb, hrow, hO, hb3⟩
  generalize w1.alloc (.cells #[.int .i64 c.pulse, .int .i64 c.on, .int .i64 c.off, .int .i64 c.rest, .int .i64 c.fuse, .int .i64 c.cur] 25) = w2 at *
  generalize w1.heap.size = cb at *
  rcases id hrow.2 with ⟨_, h0⟩ | ⟨g, cl, _, rfl, hbg, _⟩
  · omega
  have HROW := Lib.hid hrow
  have HO := Lib.hid hO
  have HB3 := Lib.hid hb3
  have HGB := Lib.hid hgb
  have HBG := Lib.hid hbg
  have HA2 := Lib.hid (HA.out.below HB2.out (Nat.le_refl _))
  have HCB2 := Lib.hid (fun w' (hb : Below w2.heap.size w2 w') => show w'.cell? ⟨cb, 0, none⟩ = some (.int .i64 c.pulse) ∧ w'.cell? ⟨cb, 1, none⟩ = some (.int .i64 c.on) ∧ w'.cell? ⟨cb, 2, none⟩ = some (.int .i64 c.off) ∧ w'.cell? ⟨cb, 3, none⟩ = some (.int .i64 c.rest) ∧ w'.cell? ⟨cb, 4, none⟩ = some (.int .i64 c.fuse) ∧ w'.cell? ⟨cb, 5, none⟩ = some (.int .i64 c.cur) from by
    obtain ⟨z0, z1, z2, z3, z4, z5, zl⟩ := HCB.out
    exact ⟨by rw [hb.cell (p := ⟨cb, 0, none⟩) zl]; exact z0, by rw [hb.cell (p := ⟨cb, 1, none⟩) zl]; exact z1, by rw [hb.cell (p := ⟨cb, 2, none⟩) zl]; exact z2, by rw [hb.cell (p := ⟨cb, 3, none⟩) zl]; exact z3, by rw [hb.cell (p := ⟨cb, 4, none⟩) zl]; exact z4, by rw [hb.cell (p := ⟨cb, 5, none⟩) zl]; exact z5⟩)
  clear hrow hO hb3 hgb hbg hbx1 HB1 HTK HA hs1 HCB q1 q2
  by_cases hna : 50 < na
  · have t1 : decide (50 < (na : Int)) = true := by simp; omega
    go_wp2_with fail
    refine (dsane _).mono ?_
    rintro e w9 ⟨rfl, hb9⟩
    have HB9 := Lib.hid (HB2.out.trans ((HB3.out.trans (hb9.mono HB3.out.size)).mono HB2.out.size))
    clear hb9
    go_wp2
    go_ret
    exact ⟨rfl, HB9.out⟩
  have t1 : decide (50 < (na : Int)) = false := by simp; omega
  have hna' : na ≤ 50 := by omega
  go_wp2
  go_loopg [9] na (fun gg i wr => ∃ (m : Nat) (L : Nat → OL), m ≤ na ∧ gg = na - m ∧ i = .int .i64 m ∧ wr.ownsRow (w2.heap.size + 2) 23 1 (.slice (some ⟨g, 0, none⟩) N cl) N (flat lcells L N) ∧ Fires wr g N m L ∧ Below w2.heap.size w2 wr)
  case atStart => exact ⟨0, tickL gb 1 0, by omega, rfl, rfl, HROW.out, ⟨Nat.le_refl _, fun j hj => by
    have := HGB.out
    have := HBG.out
    unfold tickL
    by_cases e : j = 0
    · rw [if_pos e]
      exact ⟨rfl, by show 1 ≤ 1 + 0; omega, HO.out, fun x hx => by injection hx with hx; rw [← hx]; show gb ≠ g; omega⟩
    · rw [if_neg e]
      exact ⟨rfl, by show 0 ≤ 1 + 0; omega, Holds.nil _ _ _ _, fun x hx => absurd hx (by simp)⟩⟩, HB3.out⟩
  case round =>
    clear HROW HO HB3
    obtain ⟨m, L, hm, hgg, rfl, hR, hF, hb⟩ := hrel
    have Hg := Lib.hid hgg
    have HR := Lib.hid hR
    have HF := Lib.hid hF
    have Hb := Lib.hid hb
    have hglt := hR.lt g rfl
    clear hgg hR hF hb
    by_cases hmn : m < na
    · obtain ⟨ga, oa, rfl, la, hca⟩ := HA2.out.open2 hmn
      have d0 := b_cell (hca _ Hb.out) hmn
      have hk0 := Int.emod_nonneg (A m) (show (N : Int) ≠ 0 by omega)
      obtain ⟨k, hk⟩ : ∃ k : Nat, A m % (N : Int) = k := ⟨(A m % (N : Int)).toNat, (Int.toNat_of_nonneg hk0).symm⟩
      have hkN : k < N := by
        have := Int.emod_lt_of_pos (A m) (show (0 : Int) < N by omega)
        omega
      obtain ⟨a0, a1⟩ := HAR.out m hmn
      have b1 : (0 : Int) ≤ (m : Int) := by omega
      have b2 : (m : Int) < (na : Int) := by omega
      have b3 : decide ((m : Int) < (na : Int)) = true := by simp; omega
      have b4 : (0 : Int) ≤ (k : Int) := by omega
      have b5 : (k : Int) < (N : Int) := by omega
      have n0 : (N : Int) ≠ 0 := by omega
      have n1 : (0 : Int) < (N : Int) := by omega
      obtain ⟨ho, hln, hH, hne⟩ := HF.out.2 k hkN
      obtain ⟨al, nl, cal, ol, hL⟩ : ∃ al nl cal ol, L k = ⟨al, nl, cal, ol⟩ := ⟨_, _, _, _, rfl⟩
      have hrow : wr.cell? ⟨g, k, none⟩ = some (.slice al nl cal) := by
        rw [HR.out.cellAt k (by omega)]
        have := flat_get lc_len L N k hkN 0 (.slice al nl cal) (by rw [hL]; rfl)
        rwa [Nat.mul_one, Nat.add_zero] at this
      rw [hL] at ho hln hH hne
      simp only at ho hln hH hne
      have HH := Lib.hid hH
      have HNE := Lib.hid hne
      have HLK := Lib.hid hL
      clear hca hH hne hL ho
      clear hk0
      go_wp2_with (at_builtin; refine wpList_append_holds order_len (by rfl) _ _ 23 rfl wr.heap.size 43 i0 _ 16 Try.underlying23 hi hz0 hz1 hz2 rfl (by decide) (.slice none 0 0) 0 [] rfl (World.ownsRow_nil _ _ _ _) (.slice al nl cal) nl fireO rfl HH.out order_one' (by unfold maxLen; omega) (by omega) (by first | omega | (simp; omega) | simp) ?_)
      intro v6 w6 hown6 hgr6
      have h6 : Below wr.heap.size wr w6 := (Below.refl _ wr).grown hgr6 (Nat.le_refl _) (fun q hq => by simp [Value.ownBlock] at hq)
      have HO6 := Lib.hid (show w6.ownsRow wr.heap.size 43 2 v6 nl (flat Order.cells fireO nl) by first | exact hown6 | (have h := hown6; rw [Nat.zero_add, List.nil_append] at h; exact h))
      have HB6 := Lib.hid h6
      have hs6 := h6.size
      clear hown6 hgr6 h6
      go_wp2_with (at_builtin; refine wpList_append_holds order_len (by rfl) _ _ 23 rfl wr.heap.size 43 i0 _ 16 Try.underlying23 hi hz0 hz1 hz2 rfl (by decide) v6 nl (flat Order.cells fireO nl) rfl (HO6.out.alloc _) (.slice (some ⟨w6.heap.size, 0, none⟩) 1 1) 1 (fun _ => ⟨1, 0⟩) rfl (HoldsO.one ⟨1, 0⟩ w6) order_one' (by unfold maxLen; omega) (by omega) (by first | omega | (simp; omega) | simp) ?_)
      intro v7 w7 hown7 hgr7
      have h7 : Below wr.heap.size wr w7 := (HB6.out.alloc hs6 _).grown hgr7 (by simp; omega) (fun q hq => (HO6.out.lt q hq).1)
      have HO7 := Lib.hid (show w7.ownsRow wr.heap.size 43 2 v7 (nl + 1) (flat Order.cells fireO (nl + 1)) from by rw [flat_add]; exact hown7)
      rcases id HO7.out.2 with ⟨_, h0⟩ | ⟨g7, c7, _, rfl, hg7, _⟩
      · omega
      have HB7 := Lib.hid h7
      have hs7 := h7.size
      have hR7 := owns_keep HR.out h7 (Nat.le_refl _)
      have hc7 : w7.cell? ⟨g, k, none⟩ = some (.slice al nl cal) := by rw [h7.cell (p := ⟨g, k, none⟩) hglt.2]; exact hrow
      have hf7 := hR7.frozenAt k
      have HR7 := Lib.hid hR7
      clear hown7 hgr7 h7 hR7 hrow d0
      go_wp2
      go_roundg (na - (m + 1))
      case measure => have := Hg.out; omega
      case rel =>
        refine ⟨m + 1, fun j => if j = k then ⟨some ⟨g7, 0, none⟩, nl + 1, c7, fireO⟩ else L j, by omega, rfl, by go_num, ?_, ⟨?_, fun j hj => ?_⟩, ?_⟩
        · have h := (HR7.out.stored k (.slice (some ⟨g7, 0, none⟩) (nl + 1) c7)).1
          have e := flat_set L k ⟨some ⟨g7, 0, none⟩, nl + 1, c7, fireO⟩ N hkN
          rw [show OL.v ⟨some ⟨g7, 0, none⟩, nl + 1, c7, fireO⟩ = .slice (some ⟨g7, 0, none⟩) (nl + 1) c7 from rfl] at e
          rw [← e]
          exact h
        · show 1 ≤ (if 0 = k then (⟨some ⟨g7, 0, none⟩, nl + 1, c7, fireO⟩ : OL) else L 0).n
          split
          · show 1 ≤ nl + 1; omega
          · exact HF.out.1
        · by_cases e : j = k
          · simp only [if_pos e]
            exact ⟨trivial, by omega, HoldsO.stored (Holds.of_owns order_len HO7.out) (fun x hx => by injection hx with hx; rw [← hx]; show g7 ≠ g; omega), fun x hx => by injection hx with hx; rw [← hx]; show g7 ≠ g; omega⟩
          · simp only [if_neg e]
            obtain ⟨z0, z1, z2, z3⟩ := HF.out.2 j hj
            exact ⟨z0, by omega, HoldsO.stored (z2.below HB7.out (Nat.le_refl _)) z3, z3⟩
        · have := HBG.out
          exact (Hb.out.trans (HB7.out.mono Hb.out.size)).setCell (show w2.heap.size ≤ g by omega) _
    · have b3 : decide ((m : Int) < (na : Int)) = false := by simp; omega
      obtain ⟨x0, x1, x2, x3, x4, x5⟩ := HCB2.out _ Hb.out
      have HLL := Lib.hid (show HoldsL wr (.slice (some ⟨g, 0, none⟩) N cl) N L from ⟨Holds.of_owns lc_len HR.out, fun j hj => by
        obtain ⟨z0, z1, z2, z3⟩ := HF.out.2 j hj
        rw [z0]; exact z2⟩)
      have HFF := Lib.hid (show ∀ t, t < N → ∀ i, i < (L t).n → (L t).os i = ⟨1, 0⟩ from fun t ht i _ => by
        obtain ⟨z0, _⟩ := HF.out.2 t ht
        rw [z0]; rfl)
      have HLN := Lib.hid (show ∀ t, t < N → (L t).n ≤ 4096 from fun t ht => by
        obtain ⟨_, z1, _⟩ := HF.out.2 t ht
        omega)
      have HF0 := Lib.hid HF.out.1
      have hs := Hb.out.size
      have hb1 : Below wr.heap.size wr (wr.alloc (.cells #[.int .i64 c.pulse, .int .i64 c.on, .int .i64 c.off, .int .i64 c.rest, .int .i64 c.fuse, .int .i64 c.cur] 25)) := (Below.refl _ _).alloc (Nat.le_refl _) _
      have hC := HoldsC.one c wr
      have hD := HoldsD.one idle (wr.alloc (.cells #[.int .i64 c.pulse, .int .i64 c.on, .int .i64 c.off, .int .i64 c.rest, .int .i64 c.fuse, .int .i64 c.cur] 25))
      have hbx : Below wr.heap.size wr ((wr.alloc (.cells #[.int .i64 c.pulse, .int .i64 c.on, .int .i64 c.off, .int .i64 c.rest, .int .i64 c.fuse, .int .i64 c.cur] 25)).alloc (.cells #[.int .i64 0, .int .i64 0, .bool false] 34)) := hb1.alloc (by simp) _
      have hC2 := hC.below ((Below.refl _ (wr.alloc (.cells #[.int .i64 c.pulse, .int .i64 c.on, .int .i64 c.off, .int .i64 c.rest, .int .i64 c.fuse, .int .i64 c.cur] 25))).alloc (Nat.le_refl _) (.cells #[.int .i64 0, .int .i64 0, .bool false] 34)) (Nat.le_refl _)
      rw [nblk_alloc] at hD
      have HC2 := Lib.hid hC2
      have HD2 := Lib.hid hD
      have HBX := Lib.hid hbx
      clear hb1 hC hD hbx hC2
      go_wp2_with fail
      refine (run_ok tickC _ _ _ 1 1 N (fun _ => c) (fun _ => idle) L _ (idle_state HG.out) HC2.out HD2.out (HLL.out.below HBX.out (Nat.le_refl _)) (by omega) HLN.out).mono ?_
      rintro e w4 ⟨vd, vw, rfl, _, hW, hb4⟩
      obtain ⟨aw, kw, rfl, _⟩ := id hW
      have HB4 := Lib.hid (Hb.out.trans ((HBX.out.trans (hb4.mono HBX.out.size)).mono hs))
      have HW := Lib.hid hW
      clear hb4 hW x0 x1 x2 x3 x4 x5
      go_wp2
      go_loopg [14] N (fun gg i wx => ∃ t : Nat, t ≤ N ∧ gg = N - t ∧ i = .int .i64 t ∧ Below w4.heap.size w4 wx)
      case atStart => exact ⟨0, by omega, rfl, rfl, Below.refl _ _⟩
      case round =>
        obtain ⟨t, ht, hgt, rfl, hbt⟩ := hrel
        have Hgt := Lib.hid hgt
        have Hbt := Lib.hid hbt
        clear hgt hbt
        by_cases htN : t < N
        · obtain ⟨gw, ow, rfl, lw, hcw⟩ := HW.out.open2 htN
          have d0 := w_cellP (hcw _ Hbt.out) htN
          obtain ⟨x0, _⟩ := HCB2.out _ (HB4.out.trans (Hbt.out.mono HB4.out.size))
          have b6 : (0 : Int) ≤ (t : Int) := by omega
          have b7 : (t : Int) < (N : Int) := by omega
          have b8 : decide ((t : Int) < (N : Int)) = true := by simp; omega
          have hon := pulse_on c L N HP1.out HR1.out HNN.out HF0.out HFF.out t htN
          obtain ⟨X, hX⟩ : ∃ X, setAt 1 (fun _ => c) (fun _ => idle) L t = X := ⟨_, rfl⟩
          rw [hX] at hon d0
          clear hX hcw
          cases hq : decide ((t : Int) < c.pulse) with
          | true =>
            rw [hq] at hon
            go_wp2_with fail
            go_quiet (fail)
            go_wp2
            go_roundg (N - (t + 1))
            case measure => have := Hgt.out; omega
            case rel => exact ⟨t + 1, by omega, rfl, by go_num, below_drewN Hbt.out _⟩
          | false =>
            rw [hq] at hon
            go_wp2_with fail
            go_quiet (fail)
            go_wp2
            go_roundg (N - (t + 1))
            case measure => have := Hgt.out; omega
            case rel => exact ⟨t + 1, by omega, rfl, by go_num, below_drewN Hbt.out _⟩
        · have b8 : decide ((t : Int) < (N : Int)) = false := by simp; omega
          have HBZ := Lib.hid (HB2.out.trans ((HB4.out.trans (Hbt.out.mono HB4.out.size)).mono HB2.out.size))
          go_wp2_with fail
          refine (dsane _).mono ?_
          rintro e w9 ⟨rfl, hb9⟩
          have HB9 := Lib.hid (HBZ.out.trans (hb9.mono HBZ.out.size))
          clear hb9
          go_wp2
          go_ret
          exact ⟨rfl, HB9.out⟩
end Go.Proofs.Ytfgkljfoalgkaaa
