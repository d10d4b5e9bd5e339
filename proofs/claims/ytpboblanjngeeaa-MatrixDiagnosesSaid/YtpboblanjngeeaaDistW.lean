/-
  matrix.distances: it hands back the values of the relaxation behind sixteen rounds. No condition but r below 8.
-/
import Derived.Test.YtpboblanjngeeaaSmall
import Derived.Test.YtpboblanjngeeaaDist
import Derived.Test.YtpboblanjngeeaaReach
import Derived.Deep.OwnRows
namespace Go.Proofs.Ytpboblanjngeeaa
open Go.RowKit
attribute [local go_sem] shr_min64 shr_min8 shl_min64 U_shr U_shr' U_shl U_shl' U_shl1 U_and U_or U_andNot U_and1 U_bit U_to8 B8_to64 B8_shr B8_shr' B8_shl B8_shl' B8_shl1 B8_pow U_pow B8_and B8_or B8_andNot B8_and1 B8_bit B8_bit0 Later.cell

def aggN (f : Nat → Nat) : Value := .agg #[iv (f 0), iv (f 1), iv (f 2), iv (f 3), iv (f 4), iv (f 5), iv (f 6), iv (f 7)]
/-- What the loops of 'distances' carry. -/
structure DA (w0 : World) (B : Nat) (d : BitVec 64) (s : (Nat → Nat) × (Nat → Nat)) (w : World) : Prop where
  c : w.rowIs (B + 1) 57 8 (fun j => iv (s.1 j))
  r : w.rowIs (B + 1 + 1) 57 8 (fun j => iv (s.2 j))
  f : w.cell? ⟨B, 2, none⟩ = some (.int .u64 (U d))
  b : Below B w0 w
theorem DA.setC {w0 w : World} {B : Nat} {d : BitVec 64} {s : (Nat → Nat) × (Nat → Nat)} (h : DA w0 B d s w) (i v : Nat) : DA w0 B d (upd s.1 i v, s.2) (w.setCell ⟨B + 1, i, none⟩ (iv v)) where
  c := (h.c.set i (iv v)).congr fun j _ => by
    show (if j = i then iv v else iv (s.1 j)) = iv (upd s.1 i v j)
    unfold upd; split <;> rfl
  r := h.r.setOther (by simp) _
  f := by rw [World.cell?_setCell_other _ _ _ _ (by simp)]; exact h.f
  b := h.b.setCell (by simp) _
theorem DA.setR {w0 w : World} {B : Nat} {d : BitVec 64} {s : (Nat → Nat) × (Nat → Nat)} (h : DA w0 B d s w) (i v : Nat) : DA w0 B d (s.1, upd s.2 i v) (w.setCell ⟨B + 1 + 1, i, none⟩ (iv v)) where
  c := h.c.setOther (by simp) _
  r := (h.r.set i (iv v)).congr fun j _ => by
    show (if j = i then iv v else iv (s.2 j)) = iv (upd s.2 i v j)
    unfold upd; split <;> rfl
  f := by rw [World.cell?_setCell_other _ _ _ _ (by simp)]; exact h.f
  b := h.b.setCell (by show B ≤ B + 1 + 1; omega) _
theorem DA.drew {w0 w : World} {B : Nat} {d : BitVec 64} {s : (Nat → Nat) × (Nat → Nat)} (h : DA w0 B d s w) : DA w0 B d s w.drew := ⟨h.c, h.r, h.f, h.b.drew⟩
theorem DA.congr {w0 w : World} {B : Nat} {d : BitVec 64} {s t : (Nat → Nat) × (Nat → Nat)} (h : DA w0 B d s w) (e1 : ∀ j, j < 8 → s.1 j = t.1 j) (e2 : ∀ j, j < 8 → s.2 j = t.2 j) : DA w0 B d t w :=
  ⟨h.c.congr fun j hj => by rw [e1 j hj], h.r.congr fun j hj => by rw [e2 j hj], h.f, h.b⟩

theorem min_ite (a b : Nat) : (if ((b : Int) + 1 < (a : Int)) then ((b : Int) + 1) else (a : Int)) = ((min a (b + 1) : Nat) : Int) := by
  split <;> omega
theorem st_off (on d : BitVec 64) (r n c k : Nat) (hc : c < 8) (hk : k < 8) (h : tb on (8 * c + k) = false) : st on d r (64 * n + 8 * c + k + 1) = st on d r (64 * n + 8 * c + k) := by
  show relax on d ((64 * n + 8 * c + k) / 8 % 8) ((64 * n + 8 * c + k) % 8) _ = _
  rw [show (64 * n + 8 * c + k) / 8 % 8 = c by omega, show (64 * n + 8 * c + k) % 8 = k by omega]
  unfold relax
  unfold tb at h
  rw [if_neg (by rw [h]; exact Bool.false_ne_true)]
theorem st_on (on d : BitVec 64) (r n c k : Nat) (hc : c < 8) (hk : k < 8) (h : tb on (8 * c + k) = true) (S : (Nat → Nat) × (Nat → Nat)) (hS : st on d r (64 * n + 8 * c + k) = S) :
    st on d r (64 * n + 8 * c + k + 1) = if tb d (8 * c + k) = true then (upd S.1 c (min (S.1 c) (S.2 k + 1)), upd S.2 k (min (S.2 k) (min (S.1 c) (S.2 k + 1) + 1))) else (upd S.1 c (min (S.1 c) (S.2 k + 1)), S.2) := by
  show relax on d ((64 * n + 8 * c + k) / 8 % 8) ((64 * n + 8 * c + k) % 8) _ = _
  rw [show (64 * n + 8 * c + k) / 8 % 8 = c by omega, show (64 * n + 8 * c + k) % 8 = k by omega, hS]
  unfold relax
  unfold tb at h ⊢
  rw [if_pos h]
theorem fill_step (f : Nat → Nat) (k j : Nat) (h : f = fun j => if j < k then 100 else 0) : upd f k 100 j = if j < k + 1 then 100 else 0 := by
  subst h
  unfold upd
  by_cases e : j = k
  · rw [if_pos e, if_pos (by omega)]
  · rw [if_neg e]
    show (if j < k then 100 else 0) = _
    by_cases e' : j < k
    · rw [if_pos e', if_pos (by omega)]
    · rw [if_neg e', if_neg (by omega)]
theorem fill_end (f : Nat → Nat) (k r j : Nat) (h : f = fun j => if j < k then 100 else 0) (hk : k = 8) (hj : j < 8) : f j = 100 ∧ upd f r 0 j = upd (fun _ => 100) r 0 j := by
  subst h; subst hk
  unfold upd
  refine ⟨if_pos hj, ?_⟩
  by_cases e : j = r
  · rw [if_pos e, if_pos e]
  · rw [if_neg e, if_neg e]; exact if_pos hj
theorem DA.start (w : World) (f0 f1 : Value) (d : BitVec 64) : DA w w.heap.size d (fun _ => 0, fun _ => 0) (((w.alloc (.cells #[f0, f1, .int .u64 (U d)] 24)).alloc
    (.cells #[.int .i64 0, .int .i64 0, .int .i64 0, .int .i64 0, .int .i64 0, .int .i64 0, .int .i64 0, .int .i64 0] 57)).alloc
    (.cells #[.int .i64 0, .int .i64 0, .int .i64 0, .int .i64 0, .int .i64 0, .int .i64 0, .int .i64 0, .int .i64 0] 57)) := by
  have hz : ∀ i, i < 8 → (#[.int .i64 0, .int .i64 0, .int .i64 0, .int .i64 0, .int .i64 0, .int .i64 0, .int .i64 0, .int .i64 0] : Array Value)[i]? = some (iv 0) := by
    intro i hi
    match i, hi with
    | 0, _ => rfl | 1, _ => rfl | 2, _ => rfl | 3, _ => rfl | 4, _ => rfl | 5, _ => rfl | 6, _ => rfl | 7, _ => rfl
  have h1 := World.rowIs_alloc (w.alloc (.cells #[f0, f1, .int .u64 (U d)] 24)) #[.int .i64 0, .int .i64 0, .int .i64 0, .int .i64 0, .int .i64 0, .int .i64 0, .int .i64 0, .int .i64 0] 57 (fun _ => iv 0) (fun i hi => hz i hi)
  have h2 := World.rowIs_alloc ((w.alloc (.cells #[f0, f1, .int .u64 (U d)] 24)).alloc (.cells #[.int .i64 0, .int .i64 0, .int .i64 0, .int .i64 0, .int .i64 0, .int .i64 0, .int .i64 0, .int .i64 0] 57)) #[.int .i64 0, .int .i64 0, .int .i64 0, .int .i64 0, .int .i64 0, .int .i64 0, .int .i64 0, .int .i64 0] 57 (fun _ => iv 0) (fun i hi => hz i hi)
  have e1 : (w.alloc (.cells #[f0, f1, .int .u64 (U d)] 24)).heap.size = w.heap.size + 1 := by simp
  have e2 : ((w.alloc (.cells #[f0, f1, .int .u64 (U d)] 24)).alloc (.cells #[.int .i64 0, .int .i64 0, .int .i64 0, .int .i64 0, .int .i64 0, .int .i64 0, .int .i64 0, .int .i64 0] 57)).heap.size = w.heap.size + 1 + 1 := by simp
  rw [e1] at h1
  rw [e2] at h2
  exact ⟨h1.alloc _, h2, by simp [go_sem], ((((Below.refl _ w).alloc (Nat.le_refl _) _).alloc (by simp) _).alloc (by simp; omega) _)⟩

set_option maxHeartbeats 3200000 in
theorem distances_any (s b d on : BitVec 64) (r : Nat) (hr : r < 8) (w : World) :
    Calls Try.prog 34 #[.agg #[.int .u64 (U s), .int .u64 (U b), .int .u64 (U d)], .int .u64 (U on), .int .i64 r] w fun e w' =>
      e = .returned (.tuple #[aggN (Cf on d r), aggN (Rf on d r)]) ∧ Below w.heap.size w w' := by
  go_enter Try.func34, Try.ntmps34
  go_wp2
  go_loopg [11] 8 (fun g i wr => ∃ k, k ≤ 8 ∧ g = 8 - k ∧ i = .int .i64 k ∧ DA w w.heap.size d (fun j => if j < k then 100 else 0, fun j => if j < k then 100 else 0) wr)
  case atStart => exact ⟨0, by omega, rfl, rfl, (DA.start w _ _ d).congr (fun j _ => by simp) (fun j _ => by simp)⟩
  case round =>
    obtain ⟨k, hk, hg, rfl, hD⟩ := hrel
    have HD := Lib.hid hD
    have Hg := Lib.hid hg
    have f1 := hD.c.frozen k
    have f2 := hD.r.frozen k
    clear hg
    by_cases hk8 : k < 8
    · have c1 := hD.c.cell hk8
      have c2 := hD.r.cell hk8
      simp only [iv] at c1 c2
      clear hD
      go_wp2
      go_roundg (8 - (k + 1))
      case measure => have := Hg.out; omega
      case rel =>
        exact ⟨k + 1, by omega, rfl, by go_num, ((HD.out.setC k 100).setR k 100).congr (fun j _ => fill_step _ k j rfl) (fun j _ => fill_step _ k j rfl)⟩
    · have Hk := Lib.hid (show k = 8 by omega)
      have f3 := hD.r.frozen r
      have c3 := hD.r.cell hr
      simp only [iv] at c3
      clear hD f1 f2
      go_wp2
      go_loopg [21] 16 (fun g i wx => ∃ n, n ≤ 16 ∧ g = 16 - n ∧ i = .int .i64 n ∧ DA w w.heap.size d (st on d r (64 * n)) wx)
      case atStart =>
        exact ⟨0, by omega, rfl, rfl, (HD.out.setR r 0).congr (fun j hj => (fill_end _ k r j rfl Hk.out hj).1) (fun j hj => (fill_end _ k r j rfl Hk.out hj).2)⟩
      case round =>
        clear HD Hg c3 f3
        obtain ⟨n, hn, hg, rfl, hD⟩ := hrel
        have HD := Lib.hid hD
        have Hg := Lib.hid hg
        clear hD hg
        by_cases hn16 : n < 16
        · have hn16' : decide ((n : Int) < 16) = true := by simp; omega
          go_wp2
          go_loopg [23] 8 (fun g i wx => ∃ c, c ≤ 8 ∧ g = 8 - c ∧ i = .int .i64 c ∧ DA w w.heap.size d (st on d r (64 * n + 8 * c)) wx)
          case atStart => exact ⟨0, by omega, rfl, rfl, HD.out⟩
          case round =>
            clear HD
            obtain ⟨c, hc, hg, rfl, hD⟩ := hrel
            have HD := Lib.hid hD
            have Hgc := Lib.hid hg
            clear hD hg
            by_cases hc8 : c < 8
            · have hc8' : decide ((c : Int) < 8) = true := by simp; omega
              go_wp2
              go_loopg [26] 8 (fun g i wx => ∃ k, k ≤ 8 ∧ g = 8 - k ∧ i = .int .i64 k ∧ DA w w.heap.size d (st on d r (64 * n + 8 * c + k)) wx)
              case atStart => exact ⟨0, by omega, rfl, rfl, HD.out⟩
              case round =>
                clear HD
                obtain ⟨k, hk, hg, rfl, hD⟩ := hrel
                have HD := Lib.hid hD
                have Hgk := Lib.hid hg
                clear hg
                by_cases hk8 : k < 8
                · have ff := hD.f
                  have c1 := hD.c.cell hc8
                  have c2 := hD.r.cell hk8
                  have f1 := hD.c.frozen c
                  have f2 := hD.r.frozen k
                  have l1 := (st_stands on d r hr (64 * n + 8 * c + k)).cle c
                  have l2 := (st_stands on d r hr (64 * n + 8 * c + k)).rle k
                  have HS := Lib.hid (st_on on d r n c k hc8 hk8)
                  simp only [iv] at c1 c2
                  clear hD
                  generalize hS : st on d r (64 * n + 8 * c + k) = S at *
                  have HSS := Lib.hid hS
                  clear hS
                  cases ho : tb on (8 * c + k) with
                  | false =>
                    have Ho := Lib.hid ho
                    go_wp2_with fail
                    refine (has_any on c k (by omega) (by omega) _).mono ?_
                    rintro e w1 ⟨rfl, rfl⟩
                    clear ho
                    rw [Ho.out]
                    go_wp2
                    go_roundg (8 - (k + 1))
                    case measure => have := Hgk.out; omega
                    case rel => exact ⟨k + 1, by omega, rfl, by go_num, by have := st_off on d r n c k hc8 hk8 Ho.out; rw [HSS.out] at this; rw [← Nat.add_assoc, this]; exact HD.out⟩
                  | true =>
                    have Ho := Lib.hid ho
                    go_wp2_with fail
                    refine (has_any on c k (by omega) (by omega) _).mono ?_
                    rintro e w1 ⟨rfl, rfl⟩
                    clear ho
                    rw [Ho.out]
                    have m1 := min_ite (S.1 c) (S.2 k)
                    have hv1 : min (S.1 c) (S.2 k + 1) ≤ 100 := by omega
                    have HS' := Lib.hid (HS.out Ho.out S rfl)
                    clear HS
                    generalize min (S.1 c) (S.2 k + 1) = v1 at *
                    have m2 := min_ite (S.2 k) v1
                    generalize min (S.2 k) (v1 + 1) = v2 at *
                    go_wp2_with fail
                    go_region
                    go_wp2_with fail
                    refine (has_any d c k (by omega) (by omega) _).mono ?_
                    rintro e w1 ⟨rfl, rfl⟩
                    cases hd : tb d (8 * c + k) with
                    | false =>
                      have Hd := Lib.hid hd
                      clear hd
                      go_wp2
                      go_roundg (8 - (k + 1))
                      case measure => have := Hgk.out; omega
                      case rel => exact ⟨k + 1, by omega, rfl, by go_num, by have := HS'.out; rw [Hd.out, if_neg Bool.false_ne_true] at this; rw [← Nat.add_assoc, this]; exact (HD.out.setC c v1).drew⟩
                    | true =>
                      have Hd := Lib.hid hd
                      clear hd
                      go_wp2
                      go_region
                      go_wp2
                      go_roundg (8 - (k + 1))
                      case measure => have := Hgk.out; omega
                      case rel => exact ⟨k + 1, by omega, rfl, by go_num, by have := HS'.out; rw [Hd.out, if_pos rfl] at this; rw [← Nat.add_assoc, this]; exact (((HD.out.setC c v1).setR k v2)).drew.drew⟩
                · clear hD
                  go_wp2
                  go_roundg (8 - (c + 1))
                  case measure => have := Hgc.out; omega
                  case rel => exact ⟨c + 1, by omega, rfl, by go_num, by have := HD.out; rwa [show 64 * n + 8 * c + k = 64 * n + 8 * (c + 1) by omega] at this⟩
            · go_wp2
              go_roundg (16 - (n + 1))
              case measure => have := Hg.out; omega
              case rel => exact ⟨n + 1, by omega, rfl, by go_num, by have := HD.out; rwa [show 64 * n + 8 * c = 64 * (n + 1) by omega] at this⟩
        · have hD := HD.out
          have Hn := Lib.hid (show n = 16 by omega)
          have p0 := hD.c.cell (i := 0) (by omega)
          have p1 := hD.c.cell (i := 1) (by omega)
          have p2 := hD.c.cell (i := 2) (by omega)
          have p3 := hD.c.cell (i := 3) (by omega)
          have p4 := hD.c.cell (i := 4) (by omega)
          have p5 := hD.c.cell (i := 5) (by omega)
          have p6 := hD.c.cell (i := 6) (by omega)
          have p7 := hD.c.cell (i := 7) (by omega)
          have q0 := hD.r.cell (i := 0) (by omega)
          have q1 := hD.r.cell (i := 1) (by omega)
          have q2 := hD.r.cell (i := 2) (by omega)
          have q3 := hD.r.cell (i := 3) (by omega)
          have q4 := hD.r.cell (i := 4) (by omega)
          have q5 := hD.r.cell (i := 5) (by omega)
          have q6 := hD.r.cell (i := 6) (by omega)
          have q7 := hD.r.cell (i := 7) (by omega)
          have fc : ∀ j, wr.frozen? ⟨w.heap.size + 1, j, none⟩ = false := hD.c.frozen
          have fr : ∀ j, wr.frozen? ⟨w.heap.size + 1 + 1, j, none⟩ = false := hD.r.frozen
          simp only [iv] at p0 p1 p2 p3 p4 p5 p6 p7 q0 q1 q2 q3 q4 q5 q6 q7
          have Hb := Lib.hid hD.b
          have HS := Lib.hid (show st on d r (64 * n) = st on d r 1024 by rw [Hn.out])
          generalize st on d r (64 * n) = S at *
          clear hD HD
          go_wp2
          go_region
          go_wp2
          refine bodyPost_ret (v := .tuple #[aggN S.1, aggN S.2]) (by simp [results, Try.results34, go_sem, aggN, iv, p0, p1, p2, p3, p4, p5, p6, p7, q0, q1, q2, q3, q4, q5, q6, q7]) rfl ⟨by rw [HS.out]; rfl, ?_⟩
          refine Below.drew ?_
          repeat (refine Below.setCell ?_ (show w.heap.size ≤ w.heap.size + 1 + 1 from Nat.le_add_right _ 2) _)
          repeat (refine Below.setCell ?_ (show w.heap.size ≤ w.heap.size + 1 from Nat.le_add_right _ 1) _)
          exact Hb.out
end Go.Proofs.Ytpboblanjngeeaa
