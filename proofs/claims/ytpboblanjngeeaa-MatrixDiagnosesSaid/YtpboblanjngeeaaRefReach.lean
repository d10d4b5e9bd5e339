/-
  Plain mathematics: the reference's sixteen rounds reach what is reached. No program in sight.
-/
import Derived.Test.YtpboblanjngeeaaDist
import Derived.Test.YtpboblanjngeeaaPlain
namespace Go.Proofs.Ytpboblanjngeeaa
def updB (f : Nat → Bool) (i : Nat) : Nat → Bool := fun j => if j = i then true else f j
def rRow (s : Nat) (S : (Nat → Bool) × (Nat → Bool)) : Nat → Bool := if S.1 (s / 8) = true then updB S.2 (s % 8) else S.2
def rstep (p dio : BitVec 64) (s : Nat) (S : (Nat → Bool) × (Nat → Bool)) : (Nat → Bool) × (Nat → Bool) :=
  if p.getLsbD s = true then
    if rRow s S (s % 8) = true ∧ dio.getLsbD s = true then (updB S.1 (s / 8), rRow s S) else (S.1, rRow s S)
  else S
def rTo (p dio : BitVec 64) (c : Nat) : Nat → (Nat → Bool) × (Nat → Bool)
  | 0 => (updB (fun _ => false) c, fun _ => false)
  | t + 1 => rstep p dio (t % 64) (rTo p dio c t)
theorem updB_mono (f : Nat → Bool) (i j : Nat) (h : f j = true) : updB f i j = true := by
  unfold updB; split
  · rfl
  · exact h
theorem updB_self (f : Nat → Bool) (i : Nat) : updB f i i = true := if_pos rfl
theorem rstep_mono (p dio : BitVec 64) (s : Nat) (S : (Nat → Bool) × (Nat → Bool)) : (∀ j, S.1 j = true → (rstep p dio s S).1 j = true) ∧ (∀ j, S.2 j = true → (rstep p dio s S).2 j = true) := by
  unfold rstep
  split
  · have hR : ∀ j, S.2 j = true → rRow s S j = true := fun j hj => by
      unfold rRow
      split
      · exact updB_mono _ _ _ hj
      · exact hj
    split
    · exact ⟨fun j hj => updB_mono _ _ _ hj, hR⟩
    · exact ⟨fun _ h => h, hR⟩
  · exact ⟨fun _ h => h, fun _ h => h⟩
theorem rTo_mono (p dio : BitVec 64) (c t : Nat) : ∀ d, (∀ j, (rTo p dio c t).1 j = true → (rTo p dio c (t + d)).1 j = true) ∧ (∀ j, (rTo p dio c t).2 j = true → (rTo p dio c (t + d)).2 j = true)
  | 0 => ⟨fun _ h => h, fun _ h => h⟩
  | d + 1 => by
    have ih := rTo_mono p dio c t d
    have h := rstep_mono p dio ((t + d) % 64) (rTo p dio c (t + d))
    exact ⟨fun j hj => h.1 j (ih.1 j hj), fun j hj => h.2 j (ih.2 j hj)⟩
theorem rTo_sound (p dio : BitVec 64) (c : Nat) (hc : c < 8) : ∀ t, (∀ k, (rTo p dio c t).1 k = true → RC p (p &&& dio) c k) ∧ (∀ r, (rTo p dio c t).2 r = true → RowR p (p &&& dio) c r)
  | 0 => ⟨fun k h => by
      replace h : updB (fun _ => false) c k = true := h
      unfold updB at h
      by_cases e : k = c
      · rw [e]; exact .refl
      · rw [if_neg e] at h; exact Bool.noConfusion h, fun r h => by
      replace h : false = true := h
      exact Bool.noConfusion h⟩
  | t + 1 => by
    have ih := rTo_sound p dio c hc t
    show (∀ k, (rstep p dio (t % 64) (rTo p dio c t)).1 k = true → _) ∧ (∀ r, (rstep p dio (t % 64) (rTo p dio c t)).2 r = true → _)
    have hs : t % 64 < 64 := Nat.mod_lt _ (by decide)
    generalize t % 64 = s at *
    generalize rTo p dio c t = S at *
    have e8 : 8 * (s / 8) + s % 8 = s := by omega
    unfold rstep
    split
    · rename_i hp
      have hR : ∀ r, rRow s S r = true → RowR p (p &&& dio) c r := fun r hr => by
        unfold rRow at hr
        split at hr
        · rename_i hC
          unfold updB at hr
          by_cases e : r = s % 8
          · exact ⟨by omega, s / 8, ih.1 _ hC, by rw [e, e8]; exact hp⟩
          · rw [if_neg e] at hr; exact ih.2 r hr
        · exact ih.2 r hr
      split
      · rename_i hb
        refine ⟨fun k hk => ?_, hR⟩
        unfold updB at hk
        by_cases e : k = s / 8
        · obtain ⟨hr8, a, ha, ho⟩ := hR _ hb.1
          rw [e]
          refine .step ha hr8 (by omega) ho ?_
          rw [e8, BitVec.getLsbD_and, hp, hb.2]; rfl
        · replace hk : (if k = s / 8 then true else S.1 k) = true := hk
          rw [if_neg e] at hk; exact ih.1 k hk
      · exact ⟨ih.1, hR⟩
    · exact ih
/-- What a step at a closed switch leaves. -/
theorem rTo_at (p dio : BitVec 64) (c n a r : Nat) (ha : a < 8) (hr : r < 8) (hp : p.getLsbD (8 * a + r) = true) :
    ((rTo p dio c (64 * n + (8 * a + r))).1 a = true → (rTo p dio c (64 * n + (8 * a + r) + 1)).2 r = true) ∧
    ((rTo p dio c (64 * n + (8 * a + r))).2 r = true → dio.getLsbD (8 * a + r) = true → (rTo p dio c (64 * n + (8 * a + r) + 1)).1 a = true) := by
  show (_ → (rstep p dio ((64 * n + (8 * a + r)) % 64) (rTo p dio c (64 * n + (8 * a + r)))).2 r = true) ∧ (_ → _ → (rstep p dio ((64 * n + (8 * a + r)) % 64) (rTo p dio c (64 * n + (8 * a + r)))).1 a = true)
  rw [show (64 * n + (8 * a + r)) % 64 = 8 * a + r by omega]
  generalize rTo p dio c (64 * n + (8 * a + r)) = S
  unfold rstep
  have hR : rRow (8 * a + r) S = if S.1 a = true then updB S.2 r else S.2 := by
    unfold rRow; rw [show (8 * a + r) / 8 = a by omega, show (8 * a + r) % 8 = r by omega]
  rw [if_pos hp, show (8 * a + r) / 8 = a by omega, show (8 * a + r) % 8 = r by omega, hR]
  constructor
  · intro h
    rw [if_pos h]
    split
    · exact updB_self _ _
    · exact updB_self _ _
  · intro h hd
    have h1 : (if S.1 a = true then updB S.2 r else S.2) r = true := by
      split
      · exact updB_self _ _
      · exact h
    rw [if_pos ⟨h1, hd⟩]
    exact updB_self _ _
theorem rTo_levels (p dio : BitVec 64) (c : Nat) (_hc : c < 8) : ∀ n k, (clo p (p &&& dio) n (1#8 <<< c)).getLsbD k = true → (rTo p dio c (64 * (2 * n))).1 k = true
  | 0, k, h => by
    rw [clo, one_bit] at h
    simp at h
    show updB (fun _ => false) c k = true
    rw [h.2]; exact updB_self _ _
  | n + 1, k, h => by
    rw [clo_succ, BitVec.getLsbD_or, Bool.or_eq_true] at h
    rcases h with h | h
    · have := (rTo_mono p dio c (64 * (2 * n)) 128).1 k (rTo_levels p dio c _hc n k h)
      rwa [show 64 * (2 * n) + 128 = 64 * (2 * (n + 1)) by omega] at this
    · obtain ⟨hk, r, hr, h1, h2⟩ := (colsOf_bit _ _ _).1 h
      obtain ⟨_, a, ha, h3, h4⟩ := (rowsOf_bit _ _ _).1 h1
      rw [BitVec.getLsbD_and, Bool.and_eq_true] at h2
      have ih := rTo_levels p dio c _hc n a h3
      have g1 := (rTo_mono p dio c (64 * (2 * n)) (8 * a + r)).1 a ih
      have g2 := (rTo_at p dio c (2 * n) a r ha hr h4).1 g1
      obtain ⟨d1, hd1⟩ : ∃ d1, 64 * (2 * n + 1) + (8 * k + r) = 64 * (2 * n) + (8 * a + r) + 1 + d1 := ⟨64 + (8 * k + r) - (8 * a + r + 1), by omega⟩
      have g3 := (rTo_mono p dio c (64 * (2 * n) + (8 * a + r) + 1) d1).2 r g2
      rw [← hd1] at g3
      have g4 := (rTo_at p dio c (2 * n + 1) k r hk hr h2.1).2 g3 h2.2
      obtain ⟨d2, hd2⟩ : ∃ d2, 64 * (2 * (n + 1)) = 64 * (2 * n + 1) + (8 * k + r) + 1 + d2 := ⟨64 - (8 * k + r + 1), by omega⟩
      have g5 := (rTo_mono p dio c (64 * (2 * n + 1) + (8 * k + r) + 1) d2).1 k g4
      rwa [← hd2] at g5
theorem clo_seven (on bk : BitVec 64) (c : Nat) (hc : c < 8) : clo on bk 8 (1#8 <<< c) = clo on bk 7 (1#8 <<< c) := by
  have h0 : 1 ≤ cnt (1#8 <<< c) := Classical.byContradiction fun h => by
    have := cnt_zero (1#8 <<< c) (by omega)
    have h1 : (1#8 <<< c).getLsbD c = true := by rw [one_bit]; simp [hc]
    rw [this] at h1; simp at h1
  rcases clo_grows1 on bk _ h0 7 with h | h
  · exact h
  · have := cnt_le (clo on bk (7 + 1) (1#8 <<< c)); omega
/-- **What the reference's rounds reach.** -/
theorem rTo_rows (p dio : BitVec 64) (c : Nat) (hc : c < 8) (r : Nat) : (rTo p dio c 1024).2 r = true ↔ RowR p (p &&& dio) c r := by
  refine ⟨(rTo_sound p dio c hc 1024).2 r, fun ⟨hr, a, ha, ho⟩ => ?_⟩
  have h1 := clo_complete p (p &&& dio) c hc a ha
  rw [clo_seven p (p &&& dio) c hc] at h1
  have h2 := rTo_levels p dio c hc 7 a h1
  have g1 := (rTo_mono p dio c (64 * (2 * 7)) (8 * a + r)).1 a h2
  have hal := ha.lt hc
  have g2 := (rTo_at p dio c (2 * 7) a r hal hr ho).1 g1
  obtain ⟨d, hd⟩ : ∃ d, 1024 = 64 * (2 * 7) + (8 * a + r) + 1 + d := ⟨1024 - (64 * (2 * 7) + (8 * a + r) + 1), by omega⟩
  have g3 := (rTo_mono p dio c (64 * (2 * 7) + (8 * a + r) + 1) d).2 r g2
  rwa [← hd] at g3
theorem rTo_reachB (p dio : BitVec 64) (c : Nat) (hc : c < 8) (r : Nat) : (rTo p dio c 1024).2 r = (reachB p (p &&& dio) c).getLsbD r := by
  rw [Bool.eq_iff_iff, rTo_rows p dio c hc, reachB_bit _ _ c hc]
end Go.Proofs.Ytpboblanjngeeaa
