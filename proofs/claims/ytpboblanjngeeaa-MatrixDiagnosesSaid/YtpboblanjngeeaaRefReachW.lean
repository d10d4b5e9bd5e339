/-
  The reference's 'reached': it hands back the columns and rows of the sixteen rounds. No condition but the column below 8.
-/
import Derived.Test.YtpboblanjngeeaaSmall
import Derived.Test.YtpboblanjngeeaaRefReach
import Derived.Deep.OwnRows
import Derived.Deep.LoopGhost
import Derived.Deep.RegionHeld3
namespace Go.Proofs.Ytpboblanjngeeaa
open Go.RowKit
attribute [local go_sem] shr_min64 shr_min8 shl_min64 U_shr U_shr' U_shl U_shl' U_shl1 U_and U_or U_andNot U_and1 U_bit U_bit0 U_to8 B8_to64 B8_shr B8_shr' B8_shl B8_shl' B8_shl1 B8_pow U_pow B8_and B8_or B8_andNot B8_and1 B8_bit B8_bit0 Later.cell

def aggB (f : Nat → Bool) : Value := .agg #[.bool (f 0), .bool (f 1), .bool (f 2), .bool (f 3), .bool (f 4), .bool (f 5), .bool (f 6), .bool (f 7)]
/-- What the loops of 'reached' carry. -/
structure RA (w0 : World) (B : Nat) (d : BitVec 64) (s : (Nat → Bool) × (Nat → Bool)) (w : World) : Prop where
  c : w.rowIs (B + 1 + 1 + 1) 54 8 (fun j => .bool (s.1 j))
  r : w.rowIs (B + 1 + 1 + 1 + 1) 54 8 (fun j => .bool (s.2 j))
  e1 : w.rowIs (B + 1) 54 8 (fun _ => .bool false)
  e2 : w.rowIs (B + 1 + 1) 54 8 (fun _ => .bool false)
  f : w.cell? ⟨B, 2, none⟩ = some (.int .u64 (U d))
  b : Below B w0 w
theorem RA.setC {w0 w : World} {B : Nat} {d : BitVec 64} {s : (Nat → Bool) × (Nat → Bool)} (h : RA w0 B d s w) (i : Nat) : RA w0 B d (updB s.1 i, s.2) (w.setCell ⟨B + 1 + 1 + 1, i, none⟩ (.bool true)) where
  c := (h.c.set i (.bool true)).congr fun j _ => by
    show (if j = i then (.bool true : Value) else .bool (s.1 j)) = .bool (updB s.1 i j)
    unfold updB; split <;> rfl
  r := h.r.setOther (by simp) _
  e1 := h.e1.setOther (by show B + 1 ≠ B + 1 + 1 + 1; omega) _
  e2 := h.e2.setOther (by show B + 1 + 1 ≠ B + 1 + 1 + 1; omega) _
  f := by rw [World.cell?_setCell_other _ _ _ _ (fun h => by have := congrArg Addr.block h; simp at this; omega)]; exact h.f
  b := h.b.setCell (by show B ≤ B + 1 + 1 + 1; omega) _
theorem RA.setR {w0 w : World} {B : Nat} {d : BitVec 64} {s : (Nat → Bool) × (Nat → Bool)} (h : RA w0 B d s w) (i : Nat) : RA w0 B d (s.1, updB s.2 i) (w.setCell ⟨B + 1 + 1 + 1 + 1, i, none⟩ (.bool true)) where
  c := h.c.setOther (by simp) _
  r := (h.r.set i (.bool true)).congr fun j _ => by
    show (if j = i then (.bool true : Value) else .bool (s.2 j)) = .bool (updB s.2 i j)
    unfold updB; split <;> rfl
  e1 := h.e1.setOther (by show B + 1 ≠ B + 1 + 1 + 1 + 1; omega) _
  e2 := h.e2.setOther (by show B + 1 + 1 ≠ B + 1 + 1 + 1 + 1; omega) _
  f := by rw [World.cell?_setCell_other _ _ _ _ (fun h => by have := congrArg Addr.block h; simp at this; omega)]; exact h.f
  b := h.b.setCell (by show B ≤ B + 1 + 1 + 1 + 1; omega) _
theorem RA.drew {w0 w : World} {B : Nat} {d : BitVec 64} {s : (Nat → Bool) × (Nat → Bool)} (h : RA w0 B d s w) : RA w0 B d s w.drew := ⟨h.c, h.r, h.e1, h.e2, h.f, h.b.drew⟩
theorem RA.below {w0 w w1 : World} {B : Nat} {d : BitVec 64} {s : (Nat → Bool) × (Nat → Bool)} (h : RA w0 B d s w) (hb : Below w.heap.size w w1) : RA w0 B d s w1 := by
  have l1 := h.c.lt
  have l2 := h.r.lt
  have l3 := h.e1.lt
  exact ⟨h.c.of_block (hb.block _ l1), h.r.of_block (hb.block _ l2), h.e1.of_block (hb.block _ l3), h.e2.of_block (hb.block _ (by omega)), by rw [hb.cell (p := ⟨B, 2, none⟩) (by show B < _; omega)]; exact h.f, h.b.trans (hb.mono (by omega))⟩
def zb : Array Value := #[.bool false, .bool false, .bool false, .bool false, .bool false, .bool false, .bool false, .bool false]
theorem RA.start (w : World) (f0 f1 : Value) (d : BitVec 64) : RA w w.heap.size d (fun _ => false, fun _ => false) (((((w.alloc (.cells #[f0, f1, .int .u64 (U d)] 24)).alloc (.cells zb 54)).alloc (.cells zb 54)).alloc (.cells zb 54)).alloc (.cells zb 54)) := by
  have hz : ∀ i, i < zb.size → zb[i]? = some (.bool false) := by
    intro i hi
    replace hi : i < 8 := hi
    match i, hi with
    | 0, _ => rfl | 1, _ => rfl | 2, _ => rfl | 3, _ => rfl | 4, _ => rfl | 5, _ => rfl | 6, _ => rfl | 7, _ => rfl
  obtain ⟨w1, hw1⟩ : ∃ w1, w1 = w.alloc (.cells #[f0, f1, .int .u64 (U d)] 24) := ⟨_, rfl⟩
  have hf : w1.cell? ⟨w.heap.size, 2, none⟩ = some (.int .u64 (U d)) := by rw [hw1]; simp [go_sem]
  have hs : w1.heap.size = w.heap.size + 1 := by rw [hw1]; simp
  have hb : Below w.heap.size w w1 := by rw [hw1]; exact (Below.refl _ w).alloc (Nat.le_refl _) _
  rw [← hw1]
  clear hw1
  have h1 := World.rowIs_alloc w1 zb 54 (fun _ => .bool false) hz
  have h2 := World.rowIs_alloc (w1.alloc (.cells zb 54)) zb 54 (fun _ => .bool false) hz
  have h3 := World.rowIs_alloc ((w1.alloc (.cells zb 54)).alloc (.cells zb 54)) zb 54 (fun _ => .bool false) hz
  have h4 := World.rowIs_alloc (((w1.alloc (.cells zb 54)).alloc (.cells zb 54)).alloc (.cells zb 54)) zb 54 (fun _ => .bool false) hz
  have s2 : (w1.alloc (.cells zb 54)).heap.size = w1.heap.size + 1 := by simp
  have s3 : ((w1.alloc (.cells zb 54)).alloc (.cells zb 54)).heap.size = w1.heap.size + 1 + 1 := by simp
  have s4 : (((w1.alloc (.cells zb 54)).alloc (.cells zb 54)).alloc (.cells zb 54)).heap.size = w1.heap.size + 1 + 1 + 1 := by simp
  rw [hs] at h1 s2 s3 s4
  rw [s2] at h2
  rw [s3] at h3
  rw [s4] at h4
  have g := (((((Below.refl w1.heap.size w1).alloc (Nat.le_refl _) (.cells zb 54)).alloc (by simp) (.cells zb 54)).alloc (by simp; omega) (.cells zb 54)).alloc (by simp; omega) (.cells zb 54))
  exact ⟨h3.alloc _, h4, ((h1.alloc _).alloc _).alloc _, (h2.alloc _).alloc _, by rw [g.cell (p := ⟨w.heap.size, 2, none⟩) (by show w.heap.size < _; omega)]; exact hf, hb.trans (g.mono (by omega))⟩
theorem r_off (p d : BitVec 64) (c n s : Nat) (hs : s < 64) (h : tb p s = false) : rTo p d c (64 * n + s + 1) = rTo p d c (64 * n + s) := by
  show rstep p d ((64 * n + s) % 64) _ = _
  rw [show (64 * n + s) % 64 = s by omega]
  unfold rstep
  unfold tb at h
  rw [if_neg (by rw [h]; exact Bool.false_ne_true)]
theorem r_on (p d : BitVec 64) (c n s a r : Nat) (hs : s < 64) (ha : s / 8 = a) (hr : s % 8 = r) (h : tb p s = true) (S : (Nat → Bool) × (Nat → Bool)) (hS : rTo p d c (64 * n + s) = S) (R : Nat → Bool) (hR : R = if S.1 a = true then updB S.2 r else S.2) :
    rTo p d c (64 * n + s + 1) = if R r = true ∧ tb d s = true then (updB S.1 a, R) else (S.1, R) := by
  show rstep p d ((64 * n + s) % 64) _ = _
  rw [show (64 * n + s) % 64 = s by omega, hS]
  unfold rstep rRow
  unfold tb at h ⊢
  rw [if_pos h, ha, hr, hR]

set_option maxHeartbeats 3200000 in
theorem reached_any (s b d x : BitVec 64) (c : Nat) (hc : c < 8) (w : World) :
    Calls Try.prog 33 #[.agg #[.int .u64 (U s), .int .u64 (U b), .int .u64 (U d)], .int .u64 (U x), .int .i64 c] w fun e w' =>
      e = .returned (.tuple #[aggB (rTo (phys s b x) d c 1024).1, aggB (rTo (phys s b x) d c 1024).2]) ∧ Below w.heap.size w w' := by
  go_enter Try.func33, Try.ntmps33
  have HS := Lib.hid (RA.start w (.int .u64 (U s)) (.int .u64 (U b)) d)
  go_wp2_with fail
  refine (refPhys_any s b d x _).mono ?_
  rintro e w1 ⟨rfl, hb1⟩
  have H1 := Lib.hid (HS.out.below hb1)
  have f0 := H1.out.c.frozen c
  have c0 := H1.out.c.cell hc
  clear hb1
  go_wp2
  go_loopg [11] 16 (fun g i wr => ∃ n, n ≤ 16 ∧ g = 16 - n ∧ i = .int .i64 n ∧ RA w w.heap.size d (rTo (phys s b x) d c (64 * n)) wr)
  case atStart => exact ⟨0, by omega, rfl, rfl, H1.out.setC c⟩
  case round =>
    obtain ⟨n, hn, hg, rfl, hD⟩ := hrel
    clear f0 c0 H1
    have HD := Lib.hid hD
    have Hg := Lib.hid hg
    clear hg
    by_cases hn16 : n < 16
    · clear hD
      have hn16' : decide ((n : Int) < 16) = true := by simp; omega
      go_wp2
      go_loopg [12] 64 (fun g i wr => ∃ t, t ≤ 64 ∧ g = 64 - t ∧ i = .int .i64 t ∧ RA w w.heap.size d (rTo (phys s b x) d c (64 * n + t)) wr)
      case atStart => exact ⟨0, by omega, rfl, rfl, HD.out⟩
      case round =>
        clear HD
        obtain ⟨t, ht, hg, rfl, hD⟩ := hrel
        have HD := Lib.hid hD
        have Hgt := Lib.hid hg
        clear hg
        by_cases ht64 : t < 64
        · cases hp : tb (phys s b x) t with
          | false =>
            clear hD
            have Hp := Lib.hid hp
            go_wp2_with fail
            refine (refHas_any (phys s b x) t (by omega) _).mono ?_
            rintro e w2 ⟨rfl, rfl⟩
            go_wp2
            go_roundg (64 - (t + 1))
            case measure => have := Hgt.out; omega
            case rel => exact ⟨t + 1, by omega, rfl, by go_num, by rw [← Nat.add_assoc, r_off _ _ _ _ _ ht64 Hp.out]; exact HD.out⟩
          | true =>
            obtain ⟨a, r, ha, hr, hta, htr, da, dr⟩ : ∃ a r, a < 8 ∧ r < 8 ∧ t / 8 = a ∧ t % 8 = r ∧ (t : Int) / 8 = (a : Int) ∧ (t : Int) % 8 = (r : Int) := ⟨t / 8, t % 8, by omega, by omega, rfl, rfl, by omega, by omega⟩
            have HO := Lib.hid (r_on (phys s b x) d c n t a r ht64 hta htr hp)
            clear hta htr
            have fa := hD.c.frozen a
            have fr := hD.r.frozen r
            have ca := hD.c.cell ha
            have cr := hD.r.cell hr
            have cd := hD.f
            clear hD
            generalize hS : rTo (phys s b x) d c (64 * n + t) = S at *
            have HSS := Lib.hid hS
            clear hS
            cases hC : S.1 a with
            | true =>
              cases hd : tb d t with
              | true =>
                have HE := Lib.hid (show rTo (phys s b x) d c (64 * n + t + 1) = (updB S.1 a, updB S.2 r) by
                  rw [HO.out S rfl (updB S.2 r) (by rw [if_pos hC]), if_pos ⟨updB_self _ _, hd⟩])
                rw [hC] at ca
                clear HO hC
                go_wp2_with (go_at_call 38; refine (refHas_any _ t (by omega) _).mono ?_; rintro e w2 ⟨rfl, rfl⟩)
                go_roundg (64 - (t + 1))
                case measure => have := Hgt.out; omega
                case rel => exact ⟨t + 1, by omega, rfl, by go_num, by rw [← Nat.add_assoc, HE.out]; exact (HD.out.setR r).setC a⟩
              | false =>
                have HE := Lib.hid (show rTo (phys s b x) d c (64 * n + t + 1) = (S.1, updB S.2 r) by
                  rw [HO.out S rfl (updB S.2 r) (by rw [if_pos hC]), if_neg (fun h => by rw [hd] at h; exact Bool.false_ne_true h.2)])
                rw [hC] at ca
                clear HO hC
                go_wp2_with (go_at_call 38; refine (refHas_any _ t (by omega) _).mono ?_; rintro e w2 ⟨rfl, rfl⟩)
                go_roundg (64 - (t + 1))
                case measure => have := Hgt.out; omega
                case rel => exact ⟨t + 1, by omega, rfl, by go_num, by rw [← Nat.add_assoc, HE.out]; exact HD.out.setR r⟩
            | false =>
              cases hR : S.2 r with
              | false =>
                have HE := Lib.hid (show rTo (phys s b x) d c (64 * n + t + 1) = (S.1, S.2) by
                  rw [HO.out S rfl S.2 (by rw [if_neg (by rw [hC]; exact Bool.false_ne_true)]), if_neg (fun h => by rw [hR] at h; exact Bool.false_ne_true h.1)])
                rw [hC] at ca
                rw [hR] at cr
                clear HO hC hR
                go_wp2_with (go_at_call 38; refine (refHas_any _ t (by omega) _).mono ?_; rintro e w2 ⟨rfl, rfl⟩)
                go_roundg (64 - (t + 1))
                case measure => have := Hgt.out; omega
                case rel => exact ⟨t + 1, by omega, rfl, by go_num, by rw [← Nat.add_assoc, HE.out]; exact HD.out⟩
              | true =>
                cases hd : tb d t with
                | true =>
                  have HE := Lib.hid (show rTo (phys s b x) d c (64 * n + t + 1) = (updB S.1 a, S.2) by
                    rw [HO.out S rfl S.2 (by rw [if_neg (by rw [hC]; exact Bool.false_ne_true)]), if_pos ⟨hR, hd⟩])
                  rw [hC] at ca
                  rw [hR] at cr
                  clear HO hC hR
                  go_wp2_with (go_at_call 38; refine (refHas_any _ t (by omega) _).mono ?_; rintro e w2 ⟨rfl, rfl⟩)
                  go_roundg (64 - (t + 1))
                  case measure => have := Hgt.out; omega
                  case rel => exact ⟨t + 1, by omega, rfl, by go_num, by rw [← Nat.add_assoc, HE.out]; exact HD.out.setC a⟩
                | false =>
                  have HE := Lib.hid (show rTo (phys s b x) d c (64 * n + t + 1) = (S.1, S.2) by
                    rw [HO.out S rfl S.2 (by rw [if_neg (by rw [hC]; exact Bool.false_ne_true)]), if_neg (fun h => by rw [hd] at h; exact Bool.false_ne_true h.2)])
                  rw [hC] at ca
                  rw [hR] at cr
                  clear HO hC hR
                  go_wp2_with (go_at_call 38; refine (refHas_any _ t (by omega) _).mono ?_; rintro e w2 ⟨rfl, rfl⟩)
                  go_roundg (64 - (t + 1))
                  case measure => have := Hgt.out; omega
                  case rel => exact ⟨t + 1, by omega, rfl, by go_num, by rw [← Nat.add_assoc, HE.out]; exact HD.out⟩
        · clear hD
          go_wp2
          go_roundg (16 - (n + 1))
          case measure => have := Hg.out; omega
          case rel => exact ⟨n + 1, by omega, rfl, by go_num, by have := HD.out; rwa [show 64 * n + t = 64 * (n + 1) by omega] at this⟩
    · have Hn := Lib.hid (show n = 16 by omega)
      have p0 := hD.c.cell (i := 0) (by omega)
      have p1 := hD.c.cell (i := 1) (by omega)
      have p2 := hD.c.cell (i := 2) (by omega)
      have p3 := hD.c.cell (i := 3) (by omega)
      have p4 := hD.c.cell (i := 4) (by omega)
      have p5 := hD.c.cell (i := 5) (by omega)
      have p6 := hD.c.cell (i := 6) (by omega)
      have p7 := hD.c.cell (i := 7) (by omega)
      have q0 := hD.r.cell (i := 0) (by omega)
      have q1 := hD.r.cell (i := 1) (by omega)
      have q2 := hD.r.cell (i := 2) (by omega)
      have q3 := hD.r.cell (i := 3) (by omega)
      have q4 := hD.r.cell (i := 4) (by omega)
      have q5 := hD.r.cell (i := 5) (by omega)
      have q6 := hD.r.cell (i := 6) (by omega)
      have q7 := hD.r.cell (i := 7) (by omega)
      have fc : ∀ j, wr.frozen? ⟨w.heap.size + 1, j, none⟩ = false := hD.e1.frozen
      have fr : ∀ j, wr.frozen? ⟨w.heap.size + 1 + 1, j, none⟩ = false := hD.e2.frozen
      have u0 := hD.e1.cell (i := 0) (by omega)
      have u1 := hD.e1.cell (i := 1) (by omega)
      have u2 := hD.e1.cell (i := 2) (by omega)
      have u3 := hD.e1.cell (i := 3) (by omega)
      have u4 := hD.e1.cell (i := 4) (by omega)
      have u5 := hD.e1.cell (i := 5) (by omega)
      have u6 := hD.e1.cell (i := 6) (by omega)
      have u7 := hD.e1.cell (i := 7) (by omega)
      have v0 := hD.e2.cell (i := 0) (by omega)
      have v1 := hD.e2.cell (i := 1) (by omega)
      have v2 := hD.e2.cell (i := 2) (by omega)
      have v3 := hD.e2.cell (i := 3) (by omega)
      have v4 := hD.e2.cell (i := 4) (by omega)
      have v5 := hD.e2.cell (i := 5) (by omega)
      have v6 := hD.e2.cell (i := 6) (by omega)
      have v7 := hD.e2.cell (i := 7) (by omega)
      have Hb := Lib.hid hD.b
      have HSt := Lib.hid (show rTo (phys s b x) d c (64 * n) = rTo (phys s b x) d c 1024 by rw [Hn.out])
      generalize rTo (phys s b x) d c (64 * n) = S at *
      clear hD HD HS
      go_wp2
      go_region
      go_wp2
      refine bodyPost_ret (v := .tuple #[aggB S.1, aggB S.2]) (by simp [results, Try.results33, go_sem, aggB, u0, u1, u2, u3, u4, u5, u6, u7, v0, v1, v2, v3, v4, v5, v6, v7]) rfl ⟨by rw [HSt.out], ?_⟩
      refine Below.drew ?_
      repeat (refine Below.setCell ?_ (show w.heap.size ≤ w.heap.size + 1 + 1 from Nat.le_add_right _ 2) _)
      repeat (refine Below.setCell ?_ (show w.heap.size ≤ w.heap.size + 1 from Nat.le_add_right _ 1) _)
      exact Hb.out
end Go.Proofs.Ytpboblanjngeeaa
