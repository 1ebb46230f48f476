/- Plain laws of the lexer's plain functions: how far each reads. Conditions: none. -/
import Derived.Test.YtpaioaljopjpkaaGreatDoorSpec
import Derived.Lib.IndexBytes
namespace Sg
open Go

theorem hasPrefix_len {s p : B} (h : Lib.hasPrefix s p = true) : p.length ≤ s.length := by
  unfold Lib.hasPrefix at h
  exact (List.isPrefixOf_iff_prefix.1 h).length_le

theorem index_fits : ∀ (s sub : B), 0 ≤ Lib.index s sub → Lib.index s sub + sub.length ≤ s.length
  | [], sub, h => by
    unfold Lib.index at *
    by_cases e : sub.isEmpty = true
    · have := List.isEmpty_iff.1 e; subst this; simp
    · rw [if_neg e] at h; omega
  | b :: l, sub, h => by
    unfold Lib.index at *
    by_cases p : sub.isPrefixOf (b :: l) = true
    · rw [if_pos p]
      have := (List.isPrefixOf_iff_prefix.1 p).length_le
      omega
    · rw [if_neg p] at h ⊢
      have ih := index_fits l sub
      by_cases e : (Lib.index l sub == -1) = true
      · rw [if_pos e] at h; omega
      · have hg := Lib.index_ge l sub
        rw [if_neg e] at h ⊢
        have e2 : Lib.index l sub ≠ -1 := by simpa using e
        have := ih (by omega)
        simp; omega

theorem indexByte_lt : ∀ (s : B) (c : UInt8), Lib.indexByte s c ≤ s.length - 1 ∨ Lib.indexByte s c = -1
  | [], c => by right; rfl
  | b :: l, c => by
    unfold Lib.indexByte
    rcases indexByte_lt l c with h | h
    · by_cases e : (b == c) = true
      · rw [if_pos e]; left; simp
      · rw [if_neg e]
        by_cases e2 : (Lib.indexByte l c == -1) = true
        · rw [if_pos e2]; right; rfl
        · rw [if_neg e2]; left; simp; omega
    · by_cases e : (b == c) = true
      · rw [if_pos e]; left; simp
      · rw [if_neg e]; rw [h]; right; rfl

theorem remarkL_le (s : B) : remarkL s ≤ s.length := by
  unfold remarkL
  split
  · omega
  · split
    · rename_i h2
      have hl := hasPrefix_len h2
      simp only [opensL, List.length_cons, List.length_nil] at hl
      simp only
      split
      · omega
      · rename_i h3
        have := index_fits (s.drop 2) closesL (by omega)
        simp only [closesL, List.length_cons, List.length_nil, List.length_drop] at this ⊢
        omega
    · split
      · simp only
        split
        · have := indexByte_lt s 10
          omega
        · omega
      · omega

theorem quotedL_le (q : UInt8) : ∀ (s : B) (x : B × Nat), quotedL q s = some x → x.2 ≤ s.length ∧ 1 ≤ x.2 ∧ x.1.length ≤ s.length
  | [], x, h => by simp [quotedL] at h
  | [c], x, h => by
    unfold quotedL at h
    split at h
    · simp at h; subst h; simp
    · simp at h
  | c :: d :: r, x, h => by
    unfold quotedL at h
    split at h
    · obtain ⟨y, hy, rfl⟩ := Option.map_eq_some_iff.1 h
      have := quotedL_le q (d :: r) y hy
      simp at this ⊢; omega
    · split at h
      · simp at h; subst h; simp
      · obtain ⟨y, hy, rfl⟩ := Option.map_eq_some_iff.1 h
        have := quotedL_le q r y hy
        simp; omega

theorem trimS_le (l cs : B) : (Lib.trimS l cs).length ≤ l.length := by
  unfold Lib.trimS Lib.trimLeftS Lib.trimRightS
  have h1 := (List.dropWhile_suffix (l := (l.reverse.dropWhile (cs.contains ·)).reverse) (cs.contains ·)).length_le
  have h2 := (List.dropWhile_suffix (l := l.reverse) (cs.contains ·)).length_le
  rw [List.length_reverse] at h1 h2
  omega

theorem oneC_le (c : UInt8) (r : B) (x : Tok × Nat) (h : oneC c r = some x) : x.2 ≤ r.length + 1 ∧ 1 ≤ x.2 ∧ x.1.text.length ≤ r.length + 1 ∧ 1 ≤ x.1.kind ∧ x.1.kind ≤ 6 := by
  unfold oneC at h
  by_cases hp : Lib.hasPrefix (c :: r) hintsL = true
  · rw [if_pos hp] at h
    have hl := hasPrefix_len hp
    simp only [hintsL, List.length_cons, List.length_nil] at hl
    by_cases hc : (Lib.cut ((c :: r).drop 3) closesL).2.2 = true
    · rw [if_pos hc] at h
      have h2 : (Lib.cut (List.drop 3 (c :: r)) closesL).1.length + 2 ≤ (List.drop 3 (c :: r)).length := by
        unfold Lib.cut at hc ⊢
        by_cases hi : 0 ≤ Lib.index (List.drop 3 (c :: r)) closesL
        · rw [if_pos hi]
          have := index_fits _ _ hi
          have hcl : closesL.length = 2 := rfl
          rw [hcl] at this
          simp only [List.length_take]
          omega
        · rw [if_neg hi] at hc; simp at hc
      have ht := trimS_le (Lib.cut (List.drop 3 (c :: r)) closesL).1 blanksL
      rw [List.length_drop, List.length_cons] at h2
      cases h
      refine ⟨?_, ?_, ?_, by simp, by simp⟩ <;> simp only <;> omega
    · rw [if_neg hc] at h; cases h
  · rw [if_neg hp] at h
    by_cases hl : letter c = true
    · rw [if_pos hl] at h
      have h1 := (List.takeWhile_prefix (l := c :: r) (fun c => letter c || digit c)).length_le
      have h2 : 1 ≤ runL (fun c => letter c || digit c) (c :: r) := by
        unfold runL; rw [List.takeWhile_cons_of_pos (by simp [hl])]; simp
      unfold runL at h h2
      cases h
      simp only [List.length_map, List.length_take, List.length_cons] at h1 ⊢
      omega
    · rw [if_neg hl] at h
      by_cases hd : digit c = true
      · rw [if_pos hd] at h
        have h1 := (List.takeWhile_prefix (l := c :: r) digit).length_le
        have h2 : 1 ≤ runL digit (c :: r) := by
          unfold runL; rw [List.takeWhile_cons_of_pos hd]; simp
        unfold runL at h h2
        cases h
        simp only [List.length_take, List.length_cons] at h1 ⊢
        omega
      · rw [if_neg hd] at h
        by_cases hq : c = 39 ∨ c = 34 ∨ c = 96
        · rw [if_pos hq] at h
          obtain ⟨y, hy, rfl⟩ := Option.map_eq_some_iff.1 h
          have := quotedL_le _ _ _ hy
          simp only
          split <;> omega
        · rw [if_neg hq] at h
          by_cases hs : 33 ≤ c.toNat ∧ c.toNat ≤ 126
          · rw [if_pos hs] at h; cases h; simp
          · rw [if_neg hs] at h; cases h
end Sg
