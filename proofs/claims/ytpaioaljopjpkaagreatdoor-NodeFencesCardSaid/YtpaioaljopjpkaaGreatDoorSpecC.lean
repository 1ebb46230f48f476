/- Plain laws of a statement's words: a text of words tells the words, and how many Strings there are. Conditions: the tokens are those of a text. -/
import Derived.Test.YtpaioaljopjpkaaGreatDoorSpecB
import Derived.Lib.Replace
import Derived.Lib.Join
namespace Go.Proofs.YtpaioaljopjpkaaGreatDoor
open Go

def wordOf (t : Sg.Tok) : List Sg.B :=
  if t.kind = 1 then [t.text] else if t.kind = 3 then [[63]] else if t.kind = 6 then [Lib.replaceAll t.text [63] [63, 63]] else if t.kind = 2 ∨ t.kind = 4 then [[63, 63]] else []
def strOf (t : Sg.Tok) : List Sg.B := if t.kind = 3 then [t.text] else []
def wordsL (l : List Sg.Tok) : List Sg.B := l.flatMap wordOf
def strsL (l : List Sg.Tok) : List Sg.B := l.flatMap strOf
def semi : Sg.B := [59]
def trimSemi (l : List Sg.B) : List Sg.B := (l.reverse.dropWhile fun x => x == semi).reverse
def formTexts : List Sg.B := [[83, 69, 76, 69, 67, 84, 32, 86, 32, 70, 82, 79, 77, 32, 75, 86, 32, 87, 72, 69, 82, 69, 32, 75, 32, 61, 32, 63], [83, 69, 76, 69, 67, 84, 32, 42, 32, 70, 82, 79, 77, 32, 75, 86],
  [73, 78, 83, 69, 82, 84, 32, 73, 78, 84, 79, 32, 75, 86, 32, 86, 65, 76, 85, 69, 83, 32, 40, 32, 63, 32, 44, 32, 63, 32, 41], [85, 80, 68, 65, 84, 69, 32, 75, 86, 32, 83, 69, 84, 32, 86, 32, 61, 32, 63, 32, 87, 72, 69, 82, 69, 32, 75, 32, 61, 32, 63],
  [68, 69, 76, 69, 84, 69, 32, 70, 82, 79, 77, 32, 75, 86, 32, 87, 72, 69, 82, 69, 32, 75, 32, 61, 32, 63]]

/-- what the lexer tells of a token. -/
def TokFine (t : Sg.Tok) : Prop :=
  (t.kind = 1 → t.text ≠ [] ∧ (32 : UInt8) ∉ t.text ∧ (63 : UInt8) ∉ t.text) ∧ (t.kind = 6 → ∃ c : UInt8, t.text = [c] ∧ c ≠ 32) ∧ t.kind ≤ 6 ∧ 1 ≤ t.kind

theorem up_ne (c : UInt8) (h : (Sg.letter c || Sg.digit c) = true) : Sg.up c ≠ 32 ∧ Sg.up c ≠ 63 := by
  have key : ∀ c : UInt8, (Sg.letter c || Sg.digit c) = true → Sg.up c ≠ 32 ∧ Sg.up c ≠ 63 := by
    intro c
    unfold Sg.letter Sg.digit Sg.up
    intro h
    simp only [Bool.or_eq_true, Bool.and_eq_true, decide_eq_true_eq, beq_iff_eq, UInt8.le_iff_toNat_le, ← UInt8.toNat_inj] at h
    have e97 : (97 : UInt8).toNat = 97 := rfl
    have e122 : (122 : UInt8).toNat = 122 := rfl
    have e65 : (65 : UInt8).toNat = 65 := rfl
    have e90 : (90 : UInt8).toNat = 90 := rfl
    have e95 : (95 : UInt8).toNat = 95 := rfl
    have e48 : (48 : UInt8).toNat = 48 := rfl
    have e57 : (57 : UInt8).toNat = 57 := rfl
    have e32 : (32 : UInt8).toNat = 32 := rfl
    have e63 : (63 : UInt8).toNat = 63 := rfl
    rw [e97, e122, e65, e90, e95, e48, e57] at h
    split
    · rename_i h2
      simp only [Bool.and_eq_true, decide_eq_true_eq, UInt8.le_iff_toNat_le, e97, e122] at h2
      have e : (c - 32).toNat = c.toNat - 32 := by rw [UInt8.toNat_sub_of_le]; rfl; rw [UInt8.le_iff_toNat_le, e32]; omega
      constructor <;> (intro h3; have := congrArg UInt8.toNat h3; rw [e] at this; (first | rw [e32] at this | rw [e63] at this); omega)
    · constructor <;> (intro h3; rename_i h2; simp only [Bool.and_eq_true, decide_eq_true_eq, UInt8.le_iff_toNat_le, e97, e122] at h2; have := congrArg UInt8.toNat h3; (first | rw [e32] at this | rw [e63] at this); omega)
  exact key c h

theorem oneC_fine (c : UInt8) (r : Sg.B) (x : Sg.Tok × Nat) (h : Sg.oneC c r = some x) : TokFine x.1 := by
  have hle := Sg.oneC_le c r x h
  refine ⟨?_, ?_, hle.2.2.2.2, hle.2.2.2.1⟩
  · intro hk
    unfold Sg.oneC at h
    split at h
    · split at h
      · cases h; simp at hk
      · cases h
    · split at h
      · rename_i hl
        cases h
        simp only at hk ⊢
        have hrl : Sg.runL (fun c => Sg.letter c || Sg.digit c) (c :: r) = ((c :: r).takeWhile fun c => Sg.letter c || Sg.digit c).length := rfl
        have hpre := List.takeWhile_prefix (l := c :: r) (fun c => Sg.letter c || Sg.digit c)
        rw [hrl]
        have htk : (c :: r).take ((c :: r).takeWhile fun c => Sg.letter c || Sg.digit c).length = (c :: r).takeWhile fun c => Sg.letter c || Sg.digit c := (List.prefix_iff_eq_take.1 hpre).symm
        rw [htk]
        refine ⟨?_, ?_, ?_⟩
        · rw [List.takeWhile_cons_of_pos (by simp [hl])]; simp
        · intro hm
          obtain ⟨d, hd, he⟩ := List.mem_map.1 hm
          have hall := List.all_takeWhile (l := c :: r) (p := fun c => Sg.letter c || Sg.digit c)
          exact (up_ne d (List.all_eq_true.1 hall d hd)).1 he
        · intro hm
          obtain ⟨d, hd, he⟩ := List.mem_map.1 hm
          have hall := List.all_takeWhile (l := c :: r) (p := fun c => Sg.letter c || Sg.digit c)
          exact (up_ne d (List.all_eq_true.1 hall d hd)).2 he
      · split at h
        · cases h; simp at hk
        · split at h
          · obtain ⟨y, hy, rfl⟩ := Option.map_eq_some_iff.1 h
            simp only at hk; split at hk <;> simp at hk
          · split at h
            · cases h; simp at hk
            · cases h
  · intro hk
    unfold Sg.oneC at h
    split at h
    · split at h
      · cases h; simp at hk
      · cases h
    · split at h
      · cases h; simp at hk
      · split at h
        · cases h; simp at hk
        · split at h
          · obtain ⟨y, hy, rfl⟩ := Option.map_eq_some_iff.1 h
            simp only at hk; split at hk <;> simp at hk
          · split at h
            · rename_i hr
              cases h
              exact ⟨c, rfl, fun e => by subst e; exact absurd hr.1 (by decide)⟩
            · cases h

theorem lexN_fine : ∀ (k : Nat) (s : Sg.B) (l : List Sg.Tok), Sg.lexN k s = some l → ∀ t ∈ l, TokFine t ∧ t.text.length ≤ s.length
  | k, [], l, h => by
    have : l = [] := by cases k <;> (simp [Sg.lexN] at h; exact h)
    subst this; intro t ht; cases ht
  | 0, c :: r, l, h => by simp [Sg.lexN] at h
  | k + 1, c :: r, l, h => by
    unfold Sg.lexN at h
    by_cases hb : Lib.indexByte Sg.blanksL c ≥ 0
    · rw [if_pos hb] at h
      intro t ht
      have := lexN_fine k r l h t ht
      exact ⟨this.1, by simp; omega⟩
    · rw [if_neg hb] at h
      simp only at h
      by_cases hn : Sg.remarkL (c :: r) < 0
      · rw [if_pos hn] at h; cases h
      · rw [if_neg hn] at h
        by_cases hz : Sg.remarkL (c :: r) = 0
        · rw [if_pos hz] at h
          cases ho : Sg.oneL (c :: r) with
          | none => rw [ho] at h; cases h
          | some x =>
            rw [ho] at h
            simp only at h
            obtain ⟨l', h1, rfl⟩ := Option.map_eq_some_iff.1 h
            intro t ht
            rcases List.mem_cons.1 ht with rfl | ht
            · exact ⟨oneC_fine c r x ho, by have := Sg.oneC_le c r x ho; simp; omega⟩
            · have := lexN_fine k _ l' h1 t ht
              rw [List.length_drop] at this
              exact ⟨this.1, by omega⟩
        · rw [if_neg hz] at h
          intro t ht
          have := lexN_fine k _ l h t ht
          rw [List.length_drop] at this
          exact ⟨this.1, by omega⟩
theorem lexL_fine {s : Sg.B} {l : List Sg.Tok} (h : Sg.lexL s = some l) (t : Sg.Tok) (ht : t ∈ l) : TokFine t ∧ t.text.length ≤ 200 := by
  unfold Sg.lexL at h
  split at h
  · cases h
  · have := lexN_fine _ _ _ h t ht
    exact ⟨this.1, by omega⟩

theorem repl_one (c : UInt8) : Lib.replaceAll [c] [63] [63, 63] = if c = 63 then [63, 63] else [c] := by
  by_cases h : c = 63
  · subst h; rw [if_pos rfl]; decide +kernel
  · rw [if_neg h]
    have key : ∀ n : Fin 256, UInt8.ofNat n.val ≠ 63 → Lib.replaceAll [UInt8.ofNat n.val] [63] [63, 63] = [UInt8.ofNat n.val] := by decide +kernel
    have := key ⟨c.toNat, c.toNat_lt⟩
    simp only [UInt8.ofNat_toNat] at this
    exact this h

/-- a word is not empty, has no space, and is ? of a String alone. -/
theorem wordOf_fine {t : Sg.Tok} (h : TokFine t) : ∀ w ∈ wordOf t, w ≠ [] ∧ (32 : UInt8) ∉ w ∧ (w = [63] ↔ t.kind = 3) ∧ w.length ≤ max t.text.length 2 := by
  obtain ⟨h1, h6, _, _⟩ := h
  intro w hw
  unfold wordOf at hw
  split at hw
  · rename_i hk
    obtain rfl := List.mem_singleton.1 hw
    obtain ⟨a, b, c⟩ := h1 hk
    refine ⟨a, b, ⟨fun e => ?_, fun e => by omega⟩, by omega⟩
    rw [e] at c; exact absurd (List.mem_singleton.2 rfl) c
  · split at hw
    · rename_i hk
      obtain rfl := List.mem_singleton.1 hw
      exact ⟨by simp, by decide, ⟨fun _ => hk, fun _ => rfl⟩, by simp; omega⟩
    · split at hw
      · rename_i hk1 hk3 hk
        obtain rfl := List.mem_singleton.1 hw
        obtain ⟨c, hc, hne⟩ := h6 hk
        rw [hc, repl_one]
        split
        · exact ⟨by simp, by decide, ⟨fun e => (by cases e), fun e => absurd e hk3⟩, by simp⟩
        · rename_i hc63
          refine ⟨by simp, ?_, ⟨fun e => ?_, fun e => absurd e hk3⟩, by simp⟩
          · intro hm; exact hne (List.mem_singleton.1 hm).symm
          · cases e; exact absurd rfl hc63
      · split at hw
        · rename_i hk1 hk3 hk6 hk
          obtain rfl := List.mem_singleton.1 hw
          exact ⟨by simp, by decide, ⟨fun e => (by cases e), fun e => absurd e hk3⟩, by simp; omega⟩
        · cases hw

theorem strs_count (l : List Sg.Tok) (h : ∀ t ∈ l, TokFine t) : (strsL l).length = (wordsL l).countP (· == [63]) := by
  induction l with
  | nil => rfl
  | cons t l ih =>
    have ih := ih fun t ht => h t (List.mem_cons_of_mem _ ht)
    have hf := wordOf_fine (h t (List.mem_cons_self ..))
    show (strOf t ++ strsL l).length = (wordOf t ++ wordsL l).countP (· == [63])
    rw [List.length_append, List.countP_append, ih]
    congr 1
    unfold strOf
    by_cases h3 : t.kind = 3
    · have : wordOf t = [[63]] := by unfold wordOf; rw [if_neg (by omega), if_pos h3]
      rw [if_pos h3, this]; rfl
    · rw [if_neg h3]
      symm
      rw [List.length_nil, List.countP_eq_zero]
      intro w hw e
      exact h3 ((hf w hw).2.2.1.1 (by simpa using e))

theorem trimSemi_count (l : List Sg.B) : (trimSemi l).countP (· == [63]) = l.countP (· == [63]) := by
  unfold trimSemi
  rw [List.countP_reverse]
  have e : ∀ m : List Sg.B, (m.dropWhile fun x => x == semi).countP (· == [63]) = m.countP (· == [63]) := by
    intro m
    induction m with
    | nil => rfl
    | cons x m ih =>
      by_cases hx : (x == semi) = true
      · rw [List.dropWhile_cons_of_pos (p := fun x => x == semi) hx, ih, List.countP_cons_of_neg]
        have : x = semi := by simpa using hx
        subst this; decide
      · rw [List.dropWhile_cons_of_neg (p := fun x => x == semi) hx]
  rw [e, List.countP_reverse]
theorem trimSemi_mem {l : List Sg.B} {x : Sg.B} (h : x ∈ trimSemi l) : x ∈ l := by
  unfold trimSemi at h
  have h := List.mem_reverse.1 h
  exact List.mem_reverse.1 ((List.dropWhile_sublist _).mem h)

/-- a text cut at its spaces. -/
def splitSp : Sg.B → Sg.B → List Sg.B
  | [], acc => [acc.reverse]
  | c :: r, acc => if c = 32 then acc.reverse :: splitSp r [] else splitSp r (c :: acc)
theorem splitSp_word : ∀ (x r acc : Sg.B), (32 : UInt8) ∉ x → splitSp (x ++ r) acc = splitSp r (x.reverse ++ acc)
  | [], r, acc, _ => rfl
  | c :: x, r, acc, h => by
    have hc : c ≠ 32 := fun e => h (by rw [e]; exact List.mem_cons_self ..)
    have hx : (32 : UInt8) ∉ x := fun e => h (List.mem_cons_of_mem _ e)
    show (if c = 32 then _ else splitSp (x ++ r) (c :: acc)) = _
    rw [if_neg hc, splitSp_word x r (c :: acc) hx, List.reverse_cons, List.append_assoc]
    rfl
theorem splitSp_tail : ∀ (ws : List Sg.B) (acc : Sg.B), (∀ w ∈ ws, (32 : UInt8) ∉ w) → splitSp (Lib.joinTail [32] ws) acc = acc.reverse :: ws
  | [], acc, _ => rfl
  | w :: ws, acc, h => by
    have e : Lib.joinTail [32] (w :: ws) = 32 :: (w ++ Lib.joinTail [32] ws) := by simp [Lib.joinTail]
    rw [e]
    show (if (32 : UInt8) = 32 then _ else _) = _
    rw [if_pos rfl, splitSp_word _ _ _ (h w (List.mem_cons_self ..)), splitSp_tail ws _ fun w hw => h w (List.mem_cons_of_mem _ hw)]
    simp
theorem splitSp_join (w : Sg.B) (ws : List Sg.B) (h : ∀ x ∈ w :: ws, (32 : UInt8) ∉ x) : splitSp (Lib.join (w :: ws) [32]) [] = w :: ws := by
  rw [Lib.join_cons, splitSp_word _ _ _ (h w (List.mem_cons_self ..)), splitSp_tail ws _ fun w hw => h w (List.mem_cons_of_mem _ hw)]
  simp

def formWants : List Nat := [1, 0, 2, 2, 1]
theorem words_form {s : Sg.B} {l : List Sg.Tok} (h : Sg.lexL s = some l) (k : Nat) (f : Sg.B) (hk : formTexts[k]? = some f) (he : Lib.join (trimSemi (wordsL l)) [32] = f) : formWants[k]? = some (strsL l).length := by
  have hfine := fun t ht => (lexL_fine h t ht).1
  rw [strs_count l hfine, ← trimSemi_count]
  have hsp : ∀ x ∈ trimSemi (wordsL l), (32 : UInt8) ∉ x := fun x hx => by
    obtain ⟨t, ht, hw⟩ := List.mem_flatMap.1 (trimSemi_mem hx)
    exact (wordOf_fine (hfine t ht) x hw).2.1
  have hk5 := (List.getElem?_eq_some_iff.1 hk).1
  have h5 : formTexts.length = 5 := rfl
  have hne : f ≠ [] := by
    have key : ∀ k < 5, ∀ f, formTexts[k]? = some f → f ≠ [] := by decide +kernel
    exact key k (by omega) f hk
  cases hw : trimSemi (wordsL l) with
  | nil => rw [hw] at he; exact absurd he.symm hne
  | cons w ws =>
    rw [hw] at he hsp
    rw [← splitSp_join w ws hsp, he]
    have key : ∀ k < 5, ∀ f, formTexts[k]? = some f → formWants[k]? = some ((splitSp f []).countP (· == [63])) := by decide +kernel
    exact key k (by omega) f hk

theorem lens_le (c : Nat) : ∀ ws : List Sg.B, (∀ w ∈ ws, w.length ≤ c) → Lib.lens ws ≤ ws.length * c
  | [], _ => by simp [Lib.lens]
  | w :: ws, h => by
    have := lens_le c ws fun w hw => h w (List.mem_cons_of_mem _ hw)
    have h1 := h w (List.mem_cons_self ..)
    have e : Lib.lens (w :: ws) = w.length + Lib.lens ws := by simp [Lib.lens]
    rw [e, List.length_cons, Nat.add_mul]; omega
theorem join_le (c : Nat) (ws : List Sg.B) (h : ∀ w ∈ ws, w.length ≤ c) : (Lib.join ws [32]).length ≤ ws.length * (c + 1) := by
  cases ws with
  | nil => simp [Lib.join_nil]
  | cons w r =>
    rw [Lib.join_length]
    have := lens_le c (w :: r) h
    simp only [List.length_cons, List.length_nil, Nat.zero_add, Nat.one_mul, Nat.add_mul, Nat.mul_add] at this ⊢
    omega
theorem words_short {s : Sg.B} {l : List Sg.Tok} (h : Sg.lexL s = some l) (w : Sg.B) (hw : w ∈ trimSemi (wordsL l)) : w.length ≤ 200 := by
  obtain ⟨t, ht, hm⟩ := List.mem_flatMap.1 (trimSemi_mem hw)
  have h1 := lexL_fine h t ht
  have := (wordOf_fine h1.1 w hm).2.2.2
  omega
end Go.Proofs.YtpaioaljopjpkaaGreatDoor
