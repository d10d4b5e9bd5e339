/-
  pinballref23.Run walked: for drives of valid coils and lists within the limits: the drives behind all ticks, and the sets; the error for drives that are none of these.
-/
import Derived.Test.YtfgkljfoalgkaaaWApplies
import Derived.Test.YtfgkljfoalgkaaaRTick
namespace Go.Proofs.Ytfgkljfoalgkaaa
open Go.RowKit Go.Deep

set_option maxRecDepth 100000 in
theorem rrun_arg (v1 v2 v3 : Value) (n m : Nat) (C : Nat → Coil) (D : Nat → Drive) (w : World) (hS : ¬ StateP n C m D) (h1 : HoldsC w v1 n C) (h2 : HoldsD w v2 m D) :
    Calls Try.prog 38 #[v1, v2, v3] w fun e w' => e = .returned (.tuple #[.slice none 0 0, .slice none 0 0, .int .i64 1]) ∧ Below w.heap.size w w' := by
  have HC := Lib.hid (ristate_no hS _ h1 h2)
  clear h1 h2
  go_enter Try.func38, Try.ntmps38
  go_wp2_with fail
  refine HC.out.mono ?_
  rintro e w1 ⟨rfl, hb1⟩
  have Hb1 := Lib.hid hb1
  clear hb1
  go_wp2
  go_ret3
  exact ⟨rfl, Hb1.out⟩
set_option maxRecDepth 100000 in
set_option maxHeartbeats 12800000 in
theorem rrun_ok (v1 v2 v3 : Value) (n m nt : Nat) (C : Nat → Coil) (D : Nat → Drive) (L : Nat → OL) (w : World) (hS : StateP n C m D) (h1 : HoldsC w v1 n C) (h2 : HoldsD w v2 m D) (h3 : HoldsL w v3 nt L)
    (hnt : nt ≤ 4096) (hln : ∀ i, i < nt → (L i).n ≤ 4096) :
    Calls Try.prog 38 #[v1, v2, v3] w fun e w' => ∃ v' vs, e = .returned (.tuple #[v', vs, .int .i64 0]) ∧ HoldsD w' v' m (run n C D L nt) ∧ HoldsW w' vs nt (setAt n C D L) ∧ Below w.heap.size w w' := by
  have HC := Lib.hid (ristate_yes hS _ h1 h2)
  obtain ⟨a1, cap1, rfl, _⟩ := id h1
  obtain ⟨a2, cap2, rfl, _⟩ := id h2
  obtain ⟨a3, cap3, rfl, _⟩ := id h3.1
  have hmn := hS.2.1
  subst hmn
  have hm32 := (validE_zero hS.1).1
  have HS := Lib.hid hS
  have H1 := Lib.hid h1
  have H2 := Lib.hid h2
  have H3 := Lib.hid h3
  have HLN := Lib.hid hln
  clear h1 h2 h3 hS hln
  have t1 : decide (4096 < (nt : Int)) = false := by simp; omega
  obtain ⟨i0, hi, hz0, hz1, hz2⟩ := info_parts Try.info46
  obtain ⟨i3, hi3, hy0, hy1, hy2⟩ := info_parts Try.info34
  go_enter Try.func38, Try.ntmps38
  go_wp2_with fail
  refine HC.out.mono ?_
  rintro e w1 ⟨rfl, hb1⟩
  have Hb1 := Lib.hid hb1
  clear hb1 HC
  go_wp2
  go_loopg [9] nt (fun gg i wr => ∃ t : Nat, t ≤ nt ∧ gg = nt - t ∧ i = .int .i64 t ∧ Below w.heap.size w wr)
  case atStart => exact ⟨0, by omega, rfl, rfl, Hb1.out⟩
  case round =>
    clear Hb1
    obtain ⟨t, ht, hgg, rfl, hb⟩ := hrel
    have Hg := Lib.hid hgg
    have Hb := Lib.hid hb
    clear hgg hb
    by_cases htn : t < nt
    · obtain ⟨g3, o3, rfl, l3, hc3⟩ := H3.out.1.open2 htn
      have c3 := list_cell (hc3 _ Hb.out) htn
      have b1 : (0 : Int) ≤ (t : Int) := by omega
      have b2 : (t : Int) < (nt : Int) := by omega
      have b3 : decide ((t : Int) < (nt : Int)) = true := by simp; omega
      have hlt := HLN.out t htn
      have b4 : decide (4096 < ((L t).n : Int)) = false := by simp; omega
      clear hc3
      go_wp2
      go_roundg (nt - (t + 1))
      case measure => have := Hg.out; omega
      case rel => exact ⟨t + 1, by omega, rfl, by go_num, Hb.out⟩
    · have b3 : decide ((t : Int) < (nt : Int)) = false := by simp; omega
      have HBS := Lib.hid Hb.out
      clear Hb Hg
      go_wp2
      go_loopg [1, 10, 11] nt (fun gg s q i wr => ∃ t : Nat, t ≤ nt ∧ gg = nt - t ∧ i = .int .i64 t ∧ HoldsD wr s m (run m C D L t) ∧ wr.ownsRow w.heap.size 46 1 q t (flat wcells (setAt m C D L) t) ∧ Below w.heap.size w wr)
      case atStart => exact ⟨0, by omega, rfl, rfl, H2.out.below HBS.out (Nat.le_refl _), World.ownsRow_nil _ _ _ _, HBS.out⟩
      case round =>
        clear HBS b3
        obtain ⟨r, hr, hgg, rfl, hD, hR, hb⟩ := hrel
        have Hg := Lib.hid hgg
        have HD := Lib.hid hD
        have HR := Lib.hid hR
        have Hb := Lib.hid hb
        have hsz := hb.size
        clear hgg hD hR hb
        by_cases hrn : r < nt
        · obtain ⟨g3, o3, rfl, l3, hc3⟩ := H3.out.1.open2 hrn
          have HC3 := Lib.hid (fun w' (hb : Below w.heap.size w w') => list_cell (hc3 w' hb) hrn)
          have b1 : (0 : Int) ≤ (r : Int) := by omega
          have b2 : (r : Int) < (nt : Int) := by omega
          have b3 : decide ((r : Int) < (nt : Int)) = true := by simp; omega
          have HO := Lib.hid (H3.out.2 r hrn)
          have hlt := HLN.out r hrn
          have HSt := Lib.hid (run_state L HS.out r)
          obtain ⟨al, nl, cl, ol, hL⟩ : ∃ al nl cl ol, L r = ⟨al, nl, cl, ol⟩ := ⟨_, _, _, _, rfl⟩
          rw [hL] at hlt HO HC3
          have HLT := Lib.hid hL
          clear hc3 hL
          go_wp2
          go_loopg [1, 12] nl (fun gg s i wx => ∃ k : Nat, k ≤ nl ∧ gg = nl - k ∧ i = .int .i64 k ∧ HoldsD wx s m (orders m C (run m C D L r) ol k) ∧ Below wr.heap.size wr wx)
          case atStart => exact ⟨0, by omega, rfl, rfl, HD.out, Below.refl _ _⟩
          case round =>
            obtain ⟨k, hk, hgk, rfl, hDk, hbk⟩ := hrel
            have Hgk := Lib.hid hgk
            have HDk := Lib.hid hDk
            have Hbk := Lib.hid hbk
            have Hbw := Lib.hid (Hb.out.trans (hbk.mono Hb.out.size))
            have hsw := Hbw.out.size
            have c3 := HC3.out _ Hbw.out
            clear hgk hDk hbk
            have HSk := Lib.hid (orders_state ol HSt.out k)
            by_cases hkl : k < nl
            · obtain ⟨g4, o4, e4, l4, hc4⟩ := Holds.open2 HO.out hkl
              simp only at e4
              subst e4
              obtain ⟨d0, d1⟩ := order_cells (hc4 _ Hbw.out) hkl
              have b4 : (0 : Int) ≤ (k : Int) := by omega
              have b5 : (k : Int) < (nl : Int) := by omega
              have b6 : decide ((k : Int) < (nl : Int)) = true := by simp; omega
              clear hc4
              by_cases hE : applyE m C (orders m C (run m C D L r) ol k) (ol k) = 0
              · have HY := Lib.hid (fun v2 => rapply_yes hE (.slice a1 m cap1) v2 wr HSk.out (H1.out.below Hbw.out (Nat.le_refl _)))
                clear hE
                go_wp2_with fail
                refine (HY.out _ HDk.out).mono ?_
                rintro e w5 ⟨v5, rfl, hD5, hb5⟩
                have HD5 := Lib.hid hD5
                have HB5 := Lib.hid (Hbk.out.trans (hb5.mono Hbk.out.size))
                clear hD5 hb5
                go_wp2
                go_roundg (nl - (k + 1))
                case measure => have := Hgk.out; omega
                case rel => exact ⟨k + 1, by omega, rfl, by go_num, HD5.out, HB5.out⟩
              · have HY := Lib.hid (fun v2 (hv2 : HoldsD wr v2 m (orders m C (run m C D L r) ol k)) => rapply_no (.slice a1 m cap1) v2 m m C (orders m C (run m C D L r) ol k) (ol k) wr HSk.out (H1.out.below Hbw.out (Nat.le_refl _)) hv2 hE)
                have HN := Lib.hid (show orders m C (run m C D L r) ol (k + 1) = orders m C (run m C D L r) ol k by show applyD _ _ _ _ = _; unfold applyD; rw [if_neg hE])
                obtain ⟨E, hEE⟩ : ∃ E, applyE m C (orders m C (run m C D L r) ol k) (ol k) = E := ⟨_, rfl⟩
                rw [hEE] at hE
                have t2 : (E == 0) = false := by rw [Bool.eq_false_iff]; intro h; exact hE (eq_of_beq h)
                have HEE := Lib.hid hEE
                clear hE hEE
                go_wp2_with fail
                refine (HY.out _ HDk.out).mono ?_
                rintro e w5 ⟨rfl, hb5⟩
                rw [HEE.out]
                have HB5 := Lib.hid (Hbk.out.trans (hb5.mono Hbk.out.size))
                have HD5 := Lib.hid (HDk.out.below hb5 (Nat.le_refl _))
                clear hb5
                go_wp2
                go_roundg (nl - (k + 1))
                case measure => have := Hgk.out; omega
                case rel => exact ⟨k + 1, by omega, rfl, by go_num, by rw [HN.out]; exact HD5.out, HB5.out⟩
            · have b6 : decide ((k : Int) < (nl : Int)) = false := by simp; omega
              have hkl' : k = nl := by omega
              have hO : orders m C (run m C D L r) ol k = orders m C (run m C D L r) (L r).os (L r).n := by rw [hkl', HLT.out]
              have HD2 := Lib.hid (show HoldsD wr _ m (orders m C (run m C D L r) (L r).os (L r).n) from hO ▸ HDk.out)
              have HS2 := Lib.hid (show StateP m C m (orders m C (run m C D L r) (L r).os (L r).n) from hO ▸ HSk.out)
              have HR2 := Lib.hid (owns_keep HR.out Hbk.out (Nat.le_refl _))
              clear hO hkl'
              go_wp2_with fail
              refine (rtick_fresh (.slice a1 m cap1) _ m m C _ wr HS2.out (H1.out.below Hbw.out (Nat.le_refl _)) HD2.out).mono ?_
              rintro e w5 ⟨v5, rfl, hD5, hf5, hb5⟩
              have HD5 := Lib.hid hD5
              have HF5 := Lib.hid hf5
              have HB5 := Lib.hid (Hbw.out.trans (hb5.mono Hbw.out.size))
              have HR5 := Lib.hid (owns_keep HR2.out hb5 (Nat.le_refl _))
              have hs5 := HB5.out.size
              clear hD5 hb5 hf5
              obtain ⟨X, hX⟩ : ∃ X, setTo C (orders m C (run m C D L r) (L r).os (L r).n) m = X := ⟨_, rfl⟩
              rw [hX]
              have HXX := Lib.hid (show setAt m C D L r = X from hX)
              clear hX
              go_wp2_with (at_builtin; refine wpList_append_own _ rfl _ _ 28 rfl w.heap.size 46 i0 _ 1 4 Try.underlying28 hi hz0 hz1 hz2 rfl (by decide) _ r (flat wcells (setAt m C D L) r) rfl (HR5.out.alloc _) ⟨w5.heap.size, 0, none⟩ 1 1 (wcells X) rfl rfl (boxW_at w5 X) ?c2 ?c3 ?c4 ?c5 ?c6)
              case c2 => exact wc_one X
              case c3 => unfold maxLen; omega
              case c4 => omega
              case c5 => simp; omega
              intro v6 w6 hown6 hgr6 _
              have HO6 := Lib.hid hown6
              have HG6 := Lib.hid hgr6
              have HD6 := Lib.hid ((HD5.out.below ((Below.refl _ w5).alloc (Nat.le_refl _) (.cells #[.int .u32 (W X)] 46)) (Nat.le_refl _)).grown HF5.out hgr6 hgr6.size (fun q hq => (HR2.out.lt q hq).2))
              clear hown6 hgr6
              go_wp2
              go_roundg (nt - (r + 1))
              case measure => have := Hg.out; omega
              case rel => exact ⟨r + 1, by omega, rfl, by go_num, HD6.out, by rw [flat, HXX.out]; exact HO6.out, (HB5.out.alloc hs5 _).grown HG6.out (by simp; omega) (fun q hq => (HR5.out.lt q hq).1)⟩
        · have b3 : decide ((r : Int) < (nt : Int)) = false := by simp; omega
          have hrn' : r = nt := by omega
          subst hrn'
          have HW := Lib.hid (Holds.of_owns wc_len HR.out)
          obtain ⟨ad, capd, rfl, ho⟩ := id HD.out
          clear HR
          cases ad with
          | none =>
            have h0 : m = 0 := by
              rcases ho with h | ⟨g, off, h, _⟩
              · exact h
              · exact absurd h (by simp)
            clear ho
            subst h0
            go_wp2
            go_ret3
            exact ⟨_, _, rfl, Holds.nil _ _ _ _, HW.out, Hb.out⟩
          | some ad =>
            have HN := Lib.hid (show ∀ j u, (flat Drive.cells (run m C D L r) m)[j]? = some u → wr.cell? (ad.add j) = some u by
              rcases ho with h | ⟨g, off, h, hl, hc⟩
              · subst h
                intro j u hu
                simp [flat] at hu
              · injection h with h
                subst h
                exact Holds.news (size := 3) drive_len hc)
            clear ho
            go_wp2_with (at_builtin; refine wpList_append_own _ rfl _ _ 27 rfl w.heap.size 34 i3 _ 3 24 Try.underlying27 hi3 hy0 hy1 hy2 rfl (by decide) (.slice none 0 0) 0 [] rfl (World.ownsRow_nil _ _ _ _) ad m capd (flat Drive.cells (run m C D L r) m) rfl (flat_length drive_len (run m C D L r) m) HN.out ?k2 ?k3 ?k4 ?k5 ?k6)
            case k2 => exact flat_mem drive_one _ m
            case k3 => unfold maxLen; omega
            case k4 => omega
            case k5 => first | omega | (simp; omega) | simp
            intro v6 w6 hown6 hgr6 _
            have HO6 := Lib.hid (Holds.of_owns (n := m) (f := run m C D L r) drive_len hown6)
            have hb6 : Below wr.heap.size wr w6 := (Below.refl wr.heap.size wr).grown hgr6 (Nat.le_refl _) (fun q hq => by simp [Value.ownBlock] at hq)
            have HW6 := Lib.hid (HW.out.below hb6 (Nat.le_refl _))
            have HB6 := Lib.hid (Hb.out.trans (hb6.mono hsz))
            clear hown6 hgr6 hb6
            go_wp2
            go_ret3
            exact ⟨_, _, rfl, HO6.out, HW6.out, HB6.out⟩
end Go.Proofs.Ytfgkljfoalgkaaa
