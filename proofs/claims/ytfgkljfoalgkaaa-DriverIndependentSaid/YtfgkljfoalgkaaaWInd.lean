/-
  The walk of the law DriverIndependent: for all arguments it hands back true, and nothing that was there turns.
-/
import Derived.Test.YtfgkljfoalgkaaaIndP
import Derived.Test.YtfgkljfoalgkaaaGuard
import Derived.Test.YtfgkljfoalgkaaaWRuns
import Derived.Test.YtfgkljfoalgkaaaRow3
namespace Go.Proofs.Ytfgkljfoalgkaaa
open Go.RowKit Go.Deep
attribute [local go_sem] shr_min32 shl_min32 W_shr W_shr' W_shl W_shl' W_shl1 W_shl1n W_pow W_and W_or W_andNot W_and1 W_bit W_bit0

theorem w_cellI {w : World} {g off n : Nat} {E : Nat → BitVec 32} (h : ∀ j, j < n → ∀ k u, (wcells (E j))[k]? = some u → w.cell? ⟨g, off + j * 1 + k, none⟩ = some u) {j : Nat} (hj : j < n) : w.cell? ⟨g, off + j, none⟩ = some (.int .u32 (W (E j))) := by
  have := h j hj 0 _ rfl
  rwa [Nat.mul_one, Nat.add_zero] at this
theorem order_oneI (x : Order) (u : Value) (h : u ∈ Order.cells x) : u.oneCell' = true := by
  simp [Order.cells] at h
  rcases h with rfl | rfl <;> rfl
theorem bit_eq {X Y : BitVec 32} {k : Nat} (h : tb X k = tb Y 0) : X >>> k &&& 1#32 = Y &&& 1#32 := by
  apply BitVec.eq_of_toNat_eq
  have e : Y &&& 1#32 = Y >>> 0 &&& 1#32 := by rw [BitVec.ushiftRight_zero]
  rw [e, and1_toNat (by decide), and1_toNat (by decide)]
  exact congrArg Bool.toNat h
theorem flat_congr {α : Type} {cells : α → List Value} {f g : Nat → α} : ∀ n, (∀ i, i < n → f i = g i) → flat cells f n = flat cells g n
  | 0, _ => rfl
  | n + 1, h => by
    show flat cells f n ++ cells (f n) = flat cells g n ++ cells (g n)
    rw [flat_congr n (fun i hi => h i (by omega)), h n (by omega)]
theorem owns_mono {w : World} {base base' : Nat} {e : TypeId} {size : Nat} {v : Value} {n : Nat} {xs : List Value} (h : w.ownsRow base e size v n xs) (hb : base' ≤ base) : w.ownsRow base' e size v n xs :=
  ⟨h.1, h.2.imp id fun ⟨g, cap, cur, hv, hg, r⟩ => ⟨g, cap, cur, hv, Nat.le_trans hb hg, r⟩⟩
/-- A row of orders and a row of lists lie in blocks of their own. -/
theorem rows_apart {w : World} {b1 b2 : Nat} {q v : Value} {n m : Nat} {xs ys : List Value} (h1 : w.ownsRow b1 23 1 q n xs) (h2 : w.ownsRow b2 43 2 v m ys) : v.ownBlock = none ∨ v.ownBlock ≠ q.ownBlock := by
  rcases h2.2 with ⟨rfl, _⟩ | ⟨g, cap, cur, rfl, _, hg, _⟩
  · exact .inl rfl
  · right
    rcases h1.2 with ⟨rfl, _⟩ | ⟨g', cap', cur', rfl, _, hg', _⟩
    · simp [Value.ownBlock]
    · simp only [Value.ownBlock]
      intro e
      have e' : g = g' := by simpa using e
      rw [e', hg'] at hg
      simp at hg
theorem oneLc (w : World) (l : OL) : Holds lcells 1 (w.alloc (.cells #[.slice l.a l.n l.cap] 23)) (.slice (some ⟨w.heap.size, 0, none⟩) 1 1) 1 (fun _ => l) := by
  have hb := blk_alloc_new w (.cells #[.slice l.a l.n l.cap] 23)
  refine ⟨_, _, rfl, .inr ⟨_, _, rfl, by simp, fun j hj k u hu => ?_⟩⟩
  have hk : k = 0 := by
    have := (List.getElem?_eq_some_iff.1 hu).1
    simp [lcells] at this
    exact this
  have hj : j = 0 := by omega
  subst hk hj
  simp [lcells, OL.v] at hu
  rw [← hu]
  unfold World.cell?
  simp only [hb]
  rfl
/-- What the law has built of the lists: the first t. -/
def Built (w : World) (B t : Nat) (k : Nat) (L L' : Nat → OL) : Prop :=
  ∀ j, j < t → w.ownsRow B 43 2 (L' j).v (L' j).n (flat Order.cells (L' j).os (L' j).n) ∧ (L' j).n = ownN (L j).os k (L j).n ∧ Own (L j).os k (L j).n (L' j).os
theorem Holds.window {w : World} {g o n c i : Nat} {C : Nat → Coil} {v : Value} {cap : Nat} (h : HoldsC w (.slice (some ⟨g, o, none⟩) n c) n C) (hi : i < n) (hv : v = .slice (some ⟨g, o + i * 6, none⟩) 1 cap) : HoldsC w v 1 (fun _ => C i) := by
  subst hv
  obtain ⟨a, cap', hv, ho⟩ := h
  injection hv with e1 e2 e3
  rcases ho with h0 | ⟨g', off, e, hl, hc⟩
  · omega
  · rw [e] at e1
    injection e1 with e1
    injection e1 with e4 e5 e6
    subst e4 e5
    refine ⟨_, _, rfl, .inr ⟨_, _, rfl, hl, fun j hj k u hu => ?_⟩⟩
    have : j = 0 := by omega
    subst this
    rw [show o + i * 6 + 0 * 6 + k = o + i * 6 + k by omega]
    exact hc i hi k u hu
set_option maxRecDepth 100000 in
set_option maxHeartbeats 12800000 in
theorem driverIndependent_walk (a1 : Option Addr) (n k1 : Nat) (a2 : Option Addr) (nt k2 : Nat) (C : Nat → Coil) (L : Nat → OL) (x : Int) (w : World)
    (h1 : HoldsC w (.slice a1 n k1) n C) (h2 : HoldsL w (.slice a2 nt k2) nt L) (hnk1 : n ≤ k1) (hnk : nt ≤ k2) (hk2 : k2 ≤ 9223372036854775807) (x0 : 0 ≤ x) (x1 : x ≤ 255) :
    Calls Try.prog 9 #[.agg #[.slice a1 n k1, .slice a2 nt k2], .int .u8 x] w fun e w' => e = .returned (.bool true) ∧ Below w.heap.size w w' := by
  have hal := (Below.refl w.heap.size w).alloc (Nat.le_refl _) (.cells #[.slice a1 n k1, .slice a2 nt k2] 50)
  have hls : w.heap.size < (w.alloc (.cells #[.slice a1 n k1, .slice a2 nt k2] 50)).heap.size := by simp
  have HAL := Lib.hid hal
  have H1 := Lib.hid (h1.below hal (Nat.le_refl _))
  have H2 := Lib.hid (h2.below hal (Nat.le_refl _))
  clear h1 h2 hal
  obtain ⟨i0, hi, hz0, hz1, hz2⟩ := info_parts Try.info43
  obtain ⟨i3, hi3, hy0, hy1, hy2⟩ := info_parts Try.info23
  go_enter Try.func9, Try.ntmps9
  try simp only [List.append_eq, List.cons_append, List.nil_append]
  go_wp2_with fail
  refine (begun_any _ _ n nt C L _ (by omega) H1.out H2.out).mono ?_
  rintro e w1 ⟨vs, b, rfl, hf, hb1⟩
  obtain ⟨y0, y1, hlt, hBB⟩ := keep2 hb1
  have HB1 := Lib.hid hb1
  have HF := Lib.hid hf
  clear hb1 hf hnk hk2
  cases b with
  | false =>
    go_wp2_with fail
    refine (dsane _).mono ?_
    rintro e w9 ⟨rfl, hb9⟩
    have HB9 := Lib.hid (hBB.trans (hb9.mono hBB.size))
    clear hb9
    go_wp2
    go_ret
    exact ⟨rfl, HB9.out⟩
  | true =>
    by_cases hn0 : n = 0
    · have t0 : ((n : Int) == 0) = true := by rw [hn0]; rfl
      clear hn0
      go_wp2_with fail
      refine (dsane _).mono ?_
      rintro e w9 ⟨rfl, hb9⟩
      have HB9 := Lib.hid (hBB.trans (hb9.mono hBB.size))
      clear hb9
      go_wp2
      go_ret
      exact ⟨rfl, HB9.out⟩
    have t0 : ((n : Int) == 0) = false := by rw [beq_eq_false_iff_ne]; omega
    clear hBB
    obtain ⟨hE, hD, hnt, hln⟩ := HF.out rfl
    have HC1 := Lib.hid (H1.out.below HB1.out (Nat.le_refl _))
    have HL1 := Lib.hid (H2.out.below HB1.out (Nat.le_refl _))
    have HD1 := Lib.hid hD
    have HLN := Lib.hid hln
    have HEE := Lib.hid hE
    have HBW := Lib.hid (HAL.out.trans (HB1.out.mono (Nat.le_of_lt hls)))
    have hn32 := (validE_zero hE).1
    have HY := Lib.hid (show w1.cell? ⟨w.heap.size, 0, none⟩ = some (.slice a1 n k1) ∧ w1.cell? ⟨w.heap.size, 1, none⟩ = some (.slice a2 nt k2) ∧ w.heap.size < w1.heap.size from ⟨y0, y1, hlt⟩)
    have hk0 := Int.emod_nonneg x (show (n : Int) ≠ 0 by omega)
    have hkl := Int.emod_lt_of_pos x (show (0 : Int) < n by omega)
    obtain ⟨k, hk⟩ : ∃ k : Nat, x % (n : Int) = k := ⟨(x % (n : Int)).toNat, (Int.toNat_of_nonneg hk0).symm⟩
    have hkn : k < n := by omega
    have n0 : (n : Int) ≠ 0 := by omega
    have n1 : (0 : Int) < (n : Int) := by omega
    clear H1 H2 HB1 HAL hls HF hD hE hln hn0 hk0 hkl
    go_wp2
    rw [hk]
    clear y0 y1 hlt hk t0 n0 n1
    go_loopg [8, 9] nt (fun gg q i wr => ∃ (t : Nat) (L' : Nat → OL), t ≤ nt ∧ gg = nt - t ∧ i = .int .i64 t ∧ wr.ownsRow w1.heap.size 23 1 q t (flat lcells L' t) ∧ Built wr w1.heap.size t k L L' ∧ Below w1.heap.size w1 wr)
    case atStart => exact ⟨0, L, by omega, rfl, rfl, World.ownsRow_nil _ _ _ _, fun j hj => absurd hj (by omega), Below.refl _ _⟩
    case round =>
      obtain ⟨t, L', ht, hgg, rfl, hR, hBt, hb⟩ := hrel
      have Hg := Lib.hid hgg
      have HR := Lib.hid hR
      have HBT := Lib.hid hBt
      have Hb := Lib.hid hb
      have hsz := hb.size
      clear hgg hR hBt hb
      obtain ⟨y0, y1, hlt⟩ := keepB Hb.out HY.out
      by_cases htn : t < nt
      · obtain ⟨g3, o3, rfl, l3, hc3⟩ := HL1.out.1.open2 htn
        have b1 : (0 : Int) ≤ (t : Int) := by omega
        have b2 : (t : Int) < (nt : Int) := by omega
        have b3 : decide ((t : Int) < (nt : Int)) = true := by simp; omega
        have HO := Lib.hid (HL1.out.2 t htn)
        have HC3 := Lib.hid (fun w' (hb : Below w1.heap.size w1 w') => list_cell (hc3 w' hb) htn)
        have hlt20 := HLN.out t htn
        obtain ⟨al, nl, cl, ol, hL⟩ : ∃ al nl cl ol, L t = ⟨al, nl, cl, ol⟩ := ⟨_, _, _, _, rfl⟩
        rw [hL] at HO HC3 hlt20
        simp only at hlt20
        have HLT := Lib.hid hL
        clear hc3 hL
        go_wp2
        clear y0 y1 hlt
        go_loopg [10, 11] nl (fun gg q i wx => ∃ (j : Nat) (os' : Nat → Order), j ≤ nl ∧ gg = nl - j ∧ i = .int .i64 j ∧ wx.ownsRow wr.heap.size 43 2 q (ownN ol k j) (flat Order.cells os' (ownN ol k j)) ∧ Own ol k j os' ∧ Below wr.heap.size wr wx)
        case atStart => exact ⟨0, fun _ => ⟨0, 0⟩, by omega, rfl, rfl, World.ownsRow_nil _ _ _ _, fun i hi => absurd hi (by omega), Below.refl _ _⟩
        case round =>
          obtain ⟨j, os', hj, hgj, rfl, hQ, hOw, hbj⟩ := hrel
          have Hgj := Lib.hid hgj
          have HQ := Lib.hid hQ
          have HOW := Lib.hid hOw
          have Hbj := Lib.hid hbj
          have Hbw := Lib.hid (Hb.out.trans (hbj.mono hsz))
          have hsj := hbj.size
          have hcnt := ownN_le ol k j
          clear hgj hQ hOw hbj
          obtain ⟨y0, y1, hlt⟩ := keepB Hbw.out HY.out
          have c3 := HC3.out _ Hbw.out
          by_cases hjl : j < nl
          · obtain ⟨g4, o4, e4, l4, hc4⟩ := Holds.open2 HO.out hjl
            simp only at e4
            subst e4
            obtain ⟨d0, d1⟩ := order_cells (hc4 _ Hbw.out) hjl
            have b4 : (0 : Int) ≤ (j : Int) := by omega
            have b5 : (j : Int) < (nl : Int) := by omega
            have b6 : decide ((j : Int) < (nl : Int)) = true := by simp; omega
            clear hc4
            by_cases hck : (ol j).coil = (k : Int)
            · have t2 : ((ol j).coil == (k : Int)) = true := by rw [beq_iff_eq]; exact hck
              have hcn : ownN ol k (j + 1) = ownN ol k j + 1 := by
                show ownN ol k j + (if (ol j).coil = k then 1 else 0) = _
                rw [if_pos hck]
              have HCN := Lib.hid hcn
              have HCK := Lib.hid hck
              have hone : HoldsO ((wr.alloc (.cells #[.int .i64 (ol j).kind, .int .i64 (ol j).coil] 43)).alloc (.cells #[.int .i64 (ol j).kind, .int .i64 0] 43)) (.slice (some ⟨wr.heap.size + 1, 0, none⟩) 1 1) 1 (fun _ => ⟨(ol j).kind, 0⟩) := by
                have h := HoldsO.one ⟨(ol j).kind, 0⟩ (wr.alloc (.cells #[.int .i64 (ol j).kind, .int .i64 (ol j).coil] 43))
                rw [nblk_alloc] at h
                exact h
              have HONE := Lib.hid hone
              clear hcn hone hck
              go_wp2_with (at_builtin; refine wpList_append_holds order_len (by rfl) _ _ 23 rfl _ 43 i0 _ 16 Try.underlying23 hi hz0 hz1 hz2 rfl (by decide) _ (ownN ol k j) (flat Order.cells os' (ownN ol k j)) rfl ((HQ.out.alloc _).alloc _) (.slice (some ⟨wr.heap.size + 1, 0, none⟩) 1 1) 1 (fun _ => ⟨(ol j).kind, 0⟩) rfl HONE.out order_oneI (by unfold maxLen; omega) (by omega) (by simp; omega) ?_)
              intro v6 w6 hown6 hgr6
              have h6 := ((Hbj.out.alloc hsj (.cells #[.int .i64 (ol j).kind, .int .i64 (ol j).coil] 43)).alloc (by simp; omega) (.cells #[.int .i64 (ol j).kind, .int .i64 0] 43)).grown hgr6 (by simp; omega) (fun q hq => (HQ.out.lt q hq).1)
              have HB6 := Lib.hid h6
              have HO6 := Lib.hid hown6
              clear hown6 hgr6 h6
              go_wp2
              go_roundg (nl - (j + 1))
              case measure => have := Hgj.out; omega
              case rel =>
                refine ⟨j + 1, fun i => if i = ownN ol k j then ⟨(ol j).kind, 0⟩ else os' i, by omega, rfl, by go_num, ?_, fun i hi hc => ?_, HB6.out⟩
                · rw [HCN.out]
                  have e : flat Order.cells (fun i => if i = ownN ol k j then ⟨(ol j).kind, 0⟩ else os' i) (ownN ol k j + 1) = flat Order.cells os' (ownN ol k j) ++ flat Order.cells (fun _ => ⟨(ol j).kind, 0⟩) 1 := by
                    show flat Order.cells (fun i => if i = ownN ol k j then ⟨(ol j).kind, 0⟩ else os' i) (ownN ol k j) ++ Order.cells (if ownN ol k j = ownN ol k j then ⟨(ol j).kind, 0⟩ else os' (ownN ol k j)) = _
                    rw [flat_congr (g := os') (ownN ol k j) (fun i hi => if_neg (by omega)), if_pos rfl]
                    rfl
                  rw [e]
                  exact HO6.out
                · by_cases e : i = j
                  · subst e
                    exact if_pos rfl
                  · have hlt' := ownN_lt (os := ol) (k := k) (show i < j by omega) hc
                    show (if ownN ol k i = ownN ol k j then (⟨(ol j).kind, 0⟩ : Order) else os' (ownN ol k i)) = _
                    rw [if_neg (by omega)]
                    exact HOW.out i (by omega) hc
            · have t2 : ((ol j).coil == (k : Int)) = false := by rw [beq_eq_false_iff_ne]; exact hck
              have hcn : ownN ol k (j + 1) = ownN ol k j := by
                show ownN ol k j + (if (ol j).coil = k then 1 else 0) = _
                rw [if_neg hck, Nat.add_zero]
              have HCN := Lib.hid hcn
              have HCK := Lib.hid hck
              clear hcn hck
              go_wp2
              go_roundg (nl - (j + 1))
              case measure => have := Hgj.out; omega
              case rel => exact ⟨j + 1, os', by omega, rfl, by go_num, by rw [HCN.out]; exact HQ.out.alloc _, fun i hi hc => by
                by_cases e : i = j
                · rw [e] at hc; exact absurd hc HCK.out
                · exact HOW.out i (by omega) hc, Hbj.out.alloc hsj _⟩
          · have b6 : decide ((j : Int) < (nl : Int)) = false := by simp; omega
            have hjn : j = nl := by omega
            rcases id HQ.out.2 with ⟨rfl, h0⟩ | ⟨gq, cq, cu, rfl, _⟩
            · have hQ0 := HQ.out
              rw [h0] at hQ0
              have HCNT := Lib.hid (show ownN ol k nl = 0 from by rw [← hjn]; exact h0)
              have HJ := Lib.hid hjn
              have HQ := Lib.hid hQ0
              clear hQ0 h0 hjn hcnt
              have hRw := owns_keep HR.out Hbj.out (Nat.le_refl _)
              have HRW := Lib.hid (hRw.alloc (.cells #[(.slice none 0 0)] 23))
              have HQA := Lib.hid (HQ.out.alloc (.cells #[(.slice none 0 0)] 23))
              have HONE := Lib.hid (show Holds lcells 1 (wr.alloc (.cells #[(.slice none 0 0)] 23)) (.slice (some ⟨wr.heap.size, 0, none⟩) 1 1) 1 (fun _ => ⟨none, 0, 0, os'⟩) from oneLc wr ⟨none, 0, 0, os'⟩)
              have hsw := Hbw.out.size
              clear hRw
              go_wp2_with (at_builtin; refine wpList_append_holds lc_len (by rfl) _ _ 22 rfl w1.heap.size 23 i3 _ 24 Try.underlying22 hi3 hy0 hy1 hy2 rfl (by decide) _ t (flat lcells L' t) rfl HRW.out (.slice (some ⟨wr.heap.size, 0, none⟩) 1 1) 1 (fun _ => ⟨none, 0, 0, os'⟩) rfl HONE.out lc_one (by unfold maxLen; omega) (by omega) (by simp; omega) ?_)
              intro v7 w7 hown7 hgr7
              have h7 := (Hbw.out.alloc hsw (.cells #[(.slice none 0 0)] 23)).grown hgr7 (by simp; omega) (fun q hq => (HRW.out.lt q hq).1)
              have HB7 := Lib.hid h7
              have HO7 := Lib.hid hown7
              have HOLD := Lib.hid (show ∀ i, i < t → w7.ownsRow w1.heap.size 43 2 (L' i).v (L' i).n (flat Order.cells (L' i).os (L' i).n) from fun i hi => by
                have h0 := (owns_keep (HBT.out i hi).1 Hbj.out (Nat.le_refl _)).alloc (.cells #[(.slice none 0 0)] 23)
                exact h0.kept hgr7 (rows_apart HRW.out h0))
              have HNEW := Lib.hid (owns_mono (HQA.out.kept hgr7 (rows_apart HRW.out HQA.out)) hsz)
              clear hown7 hgr7 h7
              go_wp2
              go_roundg (nt - (t + 1))
              case measure => have := Hg.out; omega
              case rel =>
                refine ⟨t + 1, fun i => if i = t then ⟨none, 0, 0, os'⟩ else L' i, by omega, rfl, by go_num, ?_, fun i hi => ?_, HB7.out⟩
                · have e : flat lcells (fun i => if i = t then ⟨none, 0, 0, os'⟩ else L' i) (t + 1) = flat lcells L' t ++ flat lcells (fun _ => ⟨none, 0, 0, os'⟩) 1 := by
                    show flat lcells (fun i => if i = t then ⟨none, 0, 0, os'⟩ else L' i) t ++ lcells (if t = t then ⟨none, 0, 0, os'⟩ else L' t) = _
                    rw [flat_congr (g := L') t (fun i hi => if_neg (by omega)), if_pos rfl]
                    rfl
                  rw [e]
                  exact HO7.out
                · by_cases e : i = t
                  · subst e
                    simp only
                    rw [HLT.out]
                    exact ⟨HNEW.out, HCNT.out.symm, fun q hq hc => HOW.out q (by have : q < nl := hq; have := HJ.out; omega) hc⟩
                  · simp only [if_neg e]
                    exact ⟨HOLD.out i (by omega), (HBT.out i (by omega)).2⟩
            · obtain ⟨cnt, hct⟩ : ∃ cnt, ownN ol k j = cnt := ⟨_, rfl⟩
              rw [hct] at HQ hcnt ⊢
              have HCNT := Lib.hid (show ownN ol k nl = cnt from by rw [← hjn]; exact hct)
              have HJ := Lib.hid hjn
              clear hct hjn
              have hRw := owns_keep HR.out Hbj.out (Nat.le_refl _)
              have HRW := Lib.hid (hRw.alloc (.cells #[(.slice (some ⟨gq, 0, none⟩) cnt cq)] 23))
              have HQA := Lib.hid (HQ.out.alloc (.cells #[(.slice (some ⟨gq, 0, none⟩) cnt cq)] 23))
              have HONE := Lib.hid (show Holds lcells 1 (wr.alloc (.cells #[(.slice (some ⟨gq, 0, none⟩) cnt cq)] 23)) (.slice (some ⟨wr.heap.size, 0, none⟩) 1 1) 1 (fun _ => ⟨some ⟨gq, 0, none⟩, cnt, cq, os'⟩) from oneLc wr ⟨some ⟨gq, 0, none⟩, cnt, cq, os'⟩)
              have hsw := Hbw.out.size
              clear hRw
              go_wp2_with (at_builtin; refine wpList_append_holds lc_len (by rfl) _ _ 22 rfl w1.heap.size 23 i3 _ 24 Try.underlying22 hi3 hy0 hy1 hy2 rfl (by decide) _ t (flat lcells L' t) rfl HRW.out (.slice (some ⟨wr.heap.size, 0, none⟩) 1 1) 1 (fun _ => ⟨some ⟨gq, 0, none⟩, cnt, cq, os'⟩) rfl HONE.out lc_one (by unfold maxLen; omega) (by omega) (by simp; omega) ?_)
              intro v7 w7 hown7 hgr7
              have h7 := (Hbw.out.alloc hsw (.cells #[(.slice (some ⟨gq, 0, none⟩) cnt cq)] 23)).grown hgr7 (by simp; omega) (fun q hq => (HRW.out.lt q hq).1)
              have HB7 := Lib.hid h7
              have HO7 := Lib.hid hown7
              have HOLD := Lib.hid (show ∀ i, i < t → w7.ownsRow w1.heap.size 43 2 (L' i).v (L' i).n (flat Order.cells (L' i).os (L' i).n) from fun i hi => by
                have h0 := (owns_keep (HBT.out i hi).1 Hbj.out (Nat.le_refl _)).alloc (.cells #[(.slice (some ⟨gq, 0, none⟩) cnt cq)] 23)
                exact h0.kept hgr7 (rows_apart HRW.out h0))
              have HNEW := Lib.hid (owns_mono (HQA.out.kept hgr7 (rows_apart HRW.out HQA.out)) hsz)
              clear hown7 hgr7 h7
              go_wp2
              go_roundg (nt - (t + 1))
              case measure => have := Hg.out; omega
              case rel =>
                refine ⟨t + 1, fun i => if i = t then ⟨some ⟨gq, 0, none⟩, cnt, cq, os'⟩ else L' i, by omega, rfl, by go_num, ?_, fun i hi => ?_, HB7.out⟩
                · have e : flat lcells (fun i => if i = t then ⟨some ⟨gq, 0, none⟩, cnt, cq, os'⟩ else L' i) (t + 1) = flat lcells L' t ++ flat lcells (fun _ => ⟨some ⟨gq, 0, none⟩, cnt, cq, os'⟩) 1 := by
                    show flat lcells (fun i => if i = t then ⟨some ⟨gq, 0, none⟩, cnt, cq, os'⟩ else L' i) t ++ lcells (if t = t then ⟨some ⟨gq, 0, none⟩, cnt, cq, os'⟩ else L' t) = _
                    rw [flat_congr (g := L') t (fun i hi => if_neg (by omega)), if_pos rfl]
                    rfl
                  rw [e]
                  exact HO7.out
                · by_cases e : i = t
                  · subst e
                    simp only
                    rw [HLT.out]
                    exact ⟨HNEW.out, HCNT.out.symm, fun q hq hc => HOW.out q (by have : q < nl := hq; have := HJ.out; omega) hc⟩
                  · simp only [if_neg e]
                    exact ⟨HOLD.out i (by omega), (HBT.out i (by omega)).2⟩
      · have b3 : decide ((t : Int) < (nt : Int)) = false := by simp; omega
        have htn' : t = nt := by omega
        subst htn'
        have hLL : HoldsL wr _ t L' := ⟨Holds.of_owns lc_len HR.out, fun j hj => Holds.of_owns order_len (HBT.out j hj).1⟩
        obtain ⟨aq, cq, rfl, _⟩ := id hLL.1
        have HLL := Lib.hid hLL
        have HOWNL := Lib.hid (show OwnL L L' k t from fun j hj => (HBT.out j hj).2)
        have HL20 := Lib.hid (show ∀ j, j < t → (L' j).n ≤ 4096 from fun j hj => by
          rw [(HBT.out j hj).2.1]
          have := ownN_le (L j).os k (L j).n
          have := HLN.out j hj
          omega)
        have hgood := (validE_zero HEE.out).2 k hkn
        obtain ⟨g1, o1, rfl, l1, _⟩ := HC1.out.open2 hkn
        have HV1 := Lib.hid (coil1_valid (C k) hgood)
        clear hLL HR HBT hgood
        go_wp2_with fail
        refine (run_ok tickC _ _ _ n n t C (fun _ => idle) L _ (idle_state HEE.out) (HC1.out.below Hb.out (Nat.le_refl _)) (HD1.out.below Hb.out (Nat.le_refl _)) (HL1.out.below Hb.out (Nat.le_refl _)) (by omega) (fun i hi => by have := HLN.out i hi; omega)).mono ?_
        rintro e w2 ⟨va, vb, rfl, hA, hP, hb2⟩
        obtain ⟨z0, z1, zl⟩ := keepB hb2 ⟨y0, y1, hlt⟩
        obtain ⟨aA, kA, rfl, _⟩ := id hA
        obtain ⟨aP, kP, rfl, _⟩ := id hP
        have HB2 := Lib.hid (Hb.out.trans (hb2.mono hsz))
        have hs2 := HB2.out.size
        have HA := Lib.hid hA
        have HP := Lib.hid hP
        have HLL2 := Lib.hid (HLL.out.below hb2 (Nat.le_refl _))
        have hne : ¬ k1 = k := by omega
        have b4 : (0 : Int) ≤ (k : Int) := by omega
        have b5 : (k : Int) ≤ (k : Int) + 1 := by omega
        have b6 : (k : Int) + 1 ≤ (k1 : Int) := by omega
        have b7 : IntKind.i64.wrap ((k : Int) + 1) = (k : Int) + 1 := by rw [IntKind.wrap_i64]; omega
        have b8 : (k : Int) < (n : Int) := by omega
        clear hb2 hA hP y0 y1 hlt HLL
        have HALD := Lib.hid ((Below.refl w2.heap.size w2).alloc (Nat.le_refl _) (.cells #[.int .i64 0, .int .i64 0, .bool false] 34))
        have HCW := Lib.hid ((Holds.window (cap := k1 - k) (HC1.out.below HB2.out (Nat.le_refl _)) hkn rfl).below HALD.out (Nat.le_refl _))
        have HDW := Lib.hid (HoldsD.one idle w2)
        have HLW := Lib.hid (HLL2.out.below HALD.out (Nat.le_refl _))
        clear HLL2
        go_wp2_with fail
        refine (run_ok tickC _ _ _ 1 1 t (fun _ => C k) (fun _ => idle) L' _ (idle_state HV1.out) HCW.out HDW.out HLW.out (by omega) HL20.out).mono ?_
        rintro e w3 ⟨vd, ve, rfl, hB, hQ, hb3⟩
        have hb3' := HALD.out.trans (hb3.mono HALD.out.size)
        obtain ⟨y0, y1, hlt⟩ := keepB hb3' ⟨z0, z1, zl⟩
        have HB3 := Lib.hid (HB2.out.trans (hb3'.mono HB2.out.size))
        have HP3 := Lib.hid (HP.out.below hb3' (Nat.le_refl _))
        have hA3 := HA.out.below hb3' (Nat.le_refl _)
        obtain ⟨gA, oA, rfl, lA, hcA⟩ := hA3.open2 hkn
        obtain ⟨aB, kB, rfl, _⟩ := id hB
        obtain ⟨aQ, kQ, rfl, _⟩ := id hQ
        obtain ⟨gB, oB, rfl, lB, hcB⟩ := hB.open2 (show 0 < 1 by omega)
        have HQ3 := Lib.hid hQ
        obtain ⟨d0, d1, d2⟩ := drive_cells (hcA _ (Below.refl _ _)) hkn
        obtain ⟨e0, e1, e2⟩ := drive_cells (hcB _ (Below.refl _ _)) (show 0 < 1 by omega)
        have hrun : run n C (fun _ => idle) L t k = run 1 (fun _ => C k) (fun _ => idle) L' t 0 := own_run hkn rfl HOWNL.out t (Nat.le_refl _)
        obtain ⟨ph, lf, hh, hd⟩ : ∃ ph lf hh, run 1 (fun _ => C k) (fun _ => idle) L' t 0 = ⟨ph, lf, hh⟩ := ⟨_, _, _, rfl⟩
        rw [hrun, hd] at d0 d1 d2
        rw [hd] at e0 e1 e2
        simp only [Nat.zero_mul, Nat.add_zero] at d0 d1 d2 e0 e1 e2
        clear hcA hcB hrun hd hA3 hB hQ hb3 hb3' HA HP HCW HDW HLW HALD z0 z1 zl HL20
        go_wp2_with fail
        go_quiet (fail)
        have HBQ := Lib.hid (below_drewN (Below.refl w3.heap.size w3) nq)
        clear d0 d1 d2 e0 e1 e2 y0 y1 hlt
        generalize w3.drewN nq = wq at *
        go_wp2
        go_loopg [19] t (fun gg i wx => ∃ j : Nat, j ≤ t ∧ gg = t - j ∧ i = .int .i64 j ∧ Below w3.heap.size w3 wx)
        case atStart => exact ⟨0, by omega, rfl, rfl, HBQ.out⟩
        case round =>
          obtain ⟨j, hj, hgj, rfl, hbj⟩ := hrel
          have Hgj := Lib.hid hgj
          have Hbj := Lib.hid hbj
          clear hgj hbj
          by_cases hjt : j < t
          · obtain ⟨gP, oP, rfl, lP, hcP⟩ := HP3.out.open2 hjt
            obtain ⟨gQ, oQ, rfl, lQ, hcQ⟩ := HQ3.out.open2 hjt
            have d0 := w_cellI (hcP _ Hbj.out) hjt
            have e0 := w_cellI (hcQ _ Hbj.out) hjt
            have b9 : (0 : Int) ≤ (j : Int) := by omega
            have b10 : (j : Int) < (t : Int) := by omega
            have b11 : decide ((j : Int) < (t : Int)) = true := by simp; omega
            have hbits : tb (setAt n C (fun _ => idle) L j) k = tb (setAt 1 (fun _ => C k) (fun _ => idle) L' j) 0 := by
              rw [setAt_q, setAt_q, setTo_bit C _ n hn32, setTo_bit _ _ 1 (by omega), decide_eq_true hkn, own_q (D' := fun _ => idle) hkn rfl HOWNL.out j hjt]
              rfl
            obtain ⟨X, hX⟩ : ∃ X, setAt n C (fun _ => idle) L j = X := ⟨_, rfl⟩
            obtain ⟨Y, hY⟩ : ∃ Y, setAt 1 (fun _ => C k) (fun _ => idle) L' j = Y := ⟨_, rfl⟩
            rw [hX, hY] at hbits
            rw [hX] at d0
            rw [hY] at e0
            have hv := bit_eq hbits
            clear hX hY hbits hcP hcQ
            go_wp2_with fail
            go_quiet (fail)
            go_wp2
            go_roundg (t - (j + 1))
            case measure => have := Hgj.out; omega
            case rel => exact ⟨j + 1, by omega, rfl, by go_num, below_drewN Hbj.out _⟩
          · have b11 : decide ((j : Int) < (t : Int)) = false := by simp; omega
            have HBZ := Lib.hid (HBW.out.trans ((HB3.out.trans (Hbj.out.mono HB3.out.size)).mono HBW.out.size))
            go_wp2_with fail
            refine (dsane _).mono ?_
            rintro e w9 ⟨rfl, hb9⟩
            have HB9 := Lib.hid (HBZ.out.trans (hb9.mono HBZ.out.size))
            clear hb9
            go_wp2
            go_ret
            exact ⟨rfl, HB9.out⟩
end Go.Proofs.Ytfgkljfoalgkaaa
