/-
  Rows of elements laid flat: what a call's own row of them reads; slices.Clone of drives. No condition but the length below a million.
-/
import Derived.Test.YtfgkljfoalgkaaaValid2
import Derived.Deep.OwnRows
import Derived.Deep.AppendLies
namespace Go.Proofs.Ytfgkljfoalgkaaa
open Go.RowKit

def flat {α : Type} (cells : α → List Value) (f : Nat → α) : Nat → List Value
  | 0 => []
  | n + 1 => flat cells f n ++ cells (f n)
section
variable {α : Type} {cells : α → List Value} {size : Nat} (hs : ∀ x, (cells x).length = size)
include hs
theorem flat_length (f : Nat → α) : ∀ n, (flat cells f n).length = n * size
  | 0 => by simp [flat]
  | n + 1 => by rw [flat, List.length_append, flat_length f n, hs, Nat.succ_mul]
theorem flat_get (f : Nat → α) : ∀ n i, i < n → ∀ k u, (cells (f i))[k]? = some u → (flat cells f n)[i * size + k]? = some u
  | 0, i, h, _, _, _ => absurd h (by omega)
  | n + 1, i, h, k, u, hu => by
    have hk : k < size := by rw [← hs (f i)]; exact (List.getElem?_eq_some_iff.1 hu).1
    have hl := flat_length hs f n
    rw [flat]
    by_cases e : i = n
    · subst e
      rw [List.getElem?_append_right (by omega), hl, Nat.add_sub_cancel_left]
      exact hu
    · have hi : i < n := by omega
      have h1 : (i + 1) * size ≤ n * size := Nat.mul_le_mul_right _ hi
      rw [Nat.succ_mul] at h1
      rw [List.getElem?_append_left (by omega)]
      exact flat_get f n i hi k u hu
theorem flat_of (f : Nat → α) : ∀ n j u, (flat cells f n)[j]? = some u → ∃ i k, i < n ∧ j = i * size + k ∧ (cells (f i))[k]? = some u
  | 0, j, u, h => by simp [flat] at h
  | n + 1, j, u, h => by
    have hl := flat_length hs f n
    rw [flat] at h
    by_cases e : j < n * size
    · rw [List.getElem?_append_left (by omega)] at h
      obtain ⟨i, k, h1, h2, h3⟩ := flat_of f n j u h
      exact ⟨i, k, by omega, h2, h3⟩
    · rw [List.getElem?_append_right (by omega), hl] at h
      exact ⟨n, j - n * size, by omega, by omega, h⟩
theorem Holds.of_owns {w : World} {base e n : Nat} {v : Value} {f : Nat → α} (h : w.ownsRow base e size v n (flat cells f n)) : Holds cells size w v n f := by
  rcases h.2 with ⟨rfl, hn⟩ | ⟨g, cap, cur, rfl, _, hg, _⟩
  · exact ⟨none, 0, by rw [hn], .inl hn⟩
  · refine ⟨_, cap, rfl, .inr ⟨g, 0, rfl, (Array.getElem?_eq_some_iff.1 hg).1, fun j hj k u hu => ?_⟩⟩
    have e0 := h.cells (g := g) rfl _ _ (flat_get hs f n j hj k u hu)
    rw [Addr.add_lit] at e0
    rwa [Nat.add_assoc]
theorem Holds.news {w : World} {n g off : Nat} {f : Nat → α} (h : ∀ j, j < n → ∀ k u, (cells (f j))[k]? = some u → w.cell? ⟨g, off + j * size + k, none⟩ = some u) :
    ∀ j u, (flat cells f n)[j]? = some u → w.cell? ((⟨g, off, none⟩ : Addr).add j) = some u := by
  intro j u hu
  obtain ⟨i, k, h1, rfl, h3⟩ := flat_of hs f n j u hu
  have := h i h1 k u h3
  rw [show (⟨g, off, none⟩ : Addr).add (i * size + k) = ⟨g, off + (i * size + k), none⟩ from Go.WideShapes.add_plain _ _ _, ← Nat.add_assoc]
  exact this
omit hs in
theorem flat_mem (hone : ∀ x u, u ∈ cells x → u.oneCell' = true) (f : Nat → α) : ∀ n u, u ∈ flat cells f n → u.oneCell' = true
  | 0, u, h => by simp [flat] at h
  | n + 1, u, h => by
    rw [flat, List.mem_append] at h
    rcases h with h | h
    · exact flat_mem hone f n u h
    · exact hone _ _ h
end
theorem drive_len (x : Drive) : (Drive.cells x).length = 3 := rfl
theorem drive_one (x : Drive) (u : Value) (h : u ∈ Drive.cells x) : u.oneCell' = true := by
  simp [Drive.cells] at h
  rcases h with rfl | rfl | rfl <;> rfl
theorem Try.info34 : (Try.prog.info? 34).map (fun i => (i.zero, i.size, i.bytes)) = some (some (.agg #[.int .i64 0, .int .i64 0, .bool false]), 3, 24) := by kernel_rfl
theorem eq_nil27 (w : World) (a : Option Addr) (n c : Nat) : (binOp .eql 27 (.slice a n c) (.slice none 0 0)).run Try.prog w = .ok (.bool a.isNone) w := Lib.run_eql_slice_nil w 27 34 a n c 0 0 Try.underlying27
set_option maxRecDepth 100000 in
set_option maxHeartbeats 800000 in
theorem clone_any (v : Value) (n : Nat) (D : Nat → Drive) (w : World) (hn : n ≤ 1000000) (hv : HoldsD w v n D) :
    Calls Try.prog 62 #[v] w fun e w' => ∃ v', e = .returned v' ∧ w'.ownsRow w.heap.size 34 3 v' n (flat Drive.cells D n) ∧ Below w.heap.size w w' := by
  obtain ⟨a, cap, rfl, ho⟩ := hv
  have hu := eq_nil27
  cases a with
  | none =>
    have h0 : n = 0 := by
      rcases ho with h | ⟨g, off, h, _⟩
      · exact h
      · exact absurd h (by simp)
    subst h0
    clear ho hn
    go_enter Try.func62, Try.ntmps62
    go_wp2
    refine bodyPost_ret (v := .slice none 0 0) (by simp [results, Try.results62, go_sem]) rfl ⟨_, rfl, World.ownsRow_nil _ _ _ _, Below.refl _ _⟩
  | some ad =>
    have Hn := Lib.hid hn
    have HN := Lib.hid (show ∀ j u, (flat Drive.cells D n)[j]? = some u → (w.alloc (.cells #[] 34)).cell? (ad.add j) = some u by
      rcases ho with h | ⟨g, off, h, hl, hc⟩
      · subst h
        intro j u hu
        simp [flat] at hu
      · injection h with h
        subst h
        have hb : Below w.heap.size w (w.alloc (.cells #[] 34)) := (Below.refl _ _).alloc (Nat.le_refl _) _
        exact Holds.news (size := 3) drive_len fun j hj k u hu => by
          rw [hb.cell (p := ⟨g, off + j * 3 + k, none⟩) hl]; exact hc j hj k u hu)
    clear ho hn
    obtain ⟨i0, hi, hz0, hz1, hz2⟩ := info_parts Try.info34
    go_enter Try.func62, Try.ntmps62
    go_wp2_with (at_builtin; refine wpList_append_own _ rfl _ _ 27 rfl w.heap.size 34 i0 _ 3 24 Try.underlying27 hi hz0 hz1 hz2 rfl (by decide) (.slice (some ⟨w.heap.size, 0, none⟩) 0 0) 0 [] rfl (World.ownsRow_made w #[] 0 (Nat.le_refl _) (by decide) rfl) ad n cap (flat Drive.cells D n) rfl (flat_length drive_len D n) HN.out ?c2 ?c3 ?c4 ?c5 ?c6)
    case c2 => exact flat_mem drive_one D n
    case c3 => have := Hn.out; unfold maxLen; omega
    case c4 => have := Hn.out; omega
    case c5 => simp
    intro v' w4 hown4 hgr4 _
    have HO4 := Lib.hid hown4
    have HG4 := Lib.hid hgr4
    clear hown4 hgr4
    go_wp2
    refine bodyPost_ret (v := v') (by simp [results, Try.results62, go_sem]) rfl ⟨v', rfl, ?_, ?_⟩
    · exact HO4.out
    · exact ((Below.refl _ w).alloc (Nat.le_refl _) _).grown HG4.out (by simp) (fun q hq => by simp [Value.ownBlock] at hq; omega)
end Go.Proofs.Ytfgkljfoalgkaaa
