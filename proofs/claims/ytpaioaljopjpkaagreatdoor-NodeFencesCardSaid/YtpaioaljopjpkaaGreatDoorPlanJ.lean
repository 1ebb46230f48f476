/- plan.Of at every text, and the plain laws of tables: a write keeps the keys rising. Conditions: none but Go's own of a string's size. -/
import Derived.Test.YtpaioaljopjpkaaGreatDoorPlanH
set_option linter.unusedVariables false
set_option linter.unusedSimpArgs false
namespace Go.Proofs.YtpaioaljopjpkaaGreatDoor
open Go.RowKit

def formPlan (k : Nat) (ss : List Sg.B) : Pn :=
  match k with
  | 0 => ⟨1, ss.getD 0 [], []⟩
  | 1 => ⟨2, [], []⟩
  | 2 => ⟨3, ss.getD 0 [], ss.getD 1 []⟩
  | 3 => ⟨4, ss.getD 1 [], ss.getD 0 []⟩
  | _ => ⟨5, ss.getD 0 [], []⟩
def planT (T : Sg.B) (ss : List Sg.B) : Pn :=
  match formTexts.findIdx? (· == T) with
  | none => ⟨0, [], []⟩
  | some k => formPlan k ss
/-- what a text's statement does. -/
def planL (s : Sg.B) : Pn :=
  match Sg.lexL s with
  | none => ⟨0, [], []⟩
  | some l => planT (Lib.join (trimSemi (wordsL l)) [32]) (strsL l)

theorem getD_of_lt {l : List Sg.B} {i : Nat} (h : i < l.length) : l[i]? = some (l.getD i []) := by
  rw [List.getD_eq_getElem?_getD, List.getElem?_eq_getElem h]; rfl
theorem forms_ok {s : Sg.B} {l : List Sg.Tok} (h : Sg.lexL s = some l) : FormsOk (Lib.join (trimSemi (wordsL l)) [32]) (strsL l) (planT (Lib.join (trimSemi (wordsL l)) [32]) (strsL l)) := by
  unfold FormsOk planT
  cases hf : formTexts.findIdx? (· == Lib.join (trimSemi (wordsL l)) [32]) with
  | none => rfl
  | some k =>
    obtain ⟨hk, he, _⟩ := List.findIdx?_eq_some_iff_getElem.1 hf
    have hw := words_form h k _ (List.getElem?_eq_getElem hk) (eq_of_beq he).symm
    have h5 : formTexts.length = 5 := rfl
    have hkc : k = 0 ∨ k = 1 ∨ k = 2 ∨ k = 3 ∨ k = 4 := by omega
    simp only
    rcases hkc with rfl | rfl | rfl | rfl | rfl
    · have : (strsL l).length = 1 := (Option.some.inj hw).symm
      exact ⟨_, getD_of_lt (by omega), rfl⟩
    · rfl
    · have : (strsL l).length = 2 := (Option.some.inj hw).symm
      exact ⟨_, _, getD_of_lt (by omega), getD_of_lt (by omega), rfl⟩
    · have : (strsL l).length = 2 := (Option.some.inj hw).symm
      exact ⟨_, _, getD_of_lt (by omega), getD_of_lt (by omega), rfl⟩
    · have : (strsL l).length = 1 := (Option.some.inj hw).symm
      exact ⟨_, getD_of_lt (by omega), rfl⟩

set_option maxRecDepth 100000 in
theorem of_none (s : ByteArray) (m : Int) (w : World) (hs : s.size ≤ maxLen) (hm : w.cell? ⟨0, 0, none⟩ = some (.int .i64 m)) (hl : Sg.lexL s.data.toList = none) :
    Calls Tryz.prog 59 #[.string s] w (OfPost w ⟨0, [], []⟩) := by
  have hbx : Below w.heap.size w (w.alloc (.cells #[.int .i64 0, .string ⟨#[]⟩, .string ⟨#[]⟩] 140)) := (Below.refl _ _).alloc (Nat.le_refl _) _
  have h0 : (0 : Nat) < w.heap.size := World.block_lt_of_cell? w ⟨0, 0, none⟩ hm
  have HLEX := Lib.hid (lex_calls s m _ hs ((hbx.cell (p := ⟨0, 0, none⟩) h0).trans hm))
  have HBX := Lib.hid hbx
  rw [hl] at HLEX
  have he : ((if s.size > 200 then (4 : Int) else 2) != 0) = true := by split <;> rfl
  unfold LexP at HLEX
  simp only at HLEX
  generalize (if s.size > 200 then (4 : Int) else 2) = n at *
  clear hbx hl
  go_enter Tryz.func59, Tryz.ntmps59
  go_wp2_with (go_at_call 61; refine HLEX.out.mono ?_; rintro e w1 ⟨rfl, hb1⟩; have HB1 := Lib.hid (HBX.out.trans (hb1.mono (by simp))); have HRC := Lib.hid (new3 hb1); have HRF := Lib.hid (new3f hb1); obtain ⟨c0, c1', c2, hz⟩ := HRC.out; obtain ⟨f0', f1', f2'⟩ := HRF.out)
  exact of_ret (r := ⟨0, [], []⟩) (((HB1.out.setCell (p := ⟨w.heap.size, 0, none⟩) (Nat.le_refl _) _).setCell (p := ⟨w.heap.size, 1, none⟩) (Nat.le_refl _) _).setCell (p := ⟨w.heap.size, 2, none⟩) (Nat.le_refl _) _) (by first | (go_simp; done) | (go_simp; rfl)) (by first | (go_simp; done) | (go_simp; rfl)) (by first | (go_simp; done) | (go_simp; rfl)) rfl rfl

/-- plan.Of at every text. -/
theorem plan_calls (s : ByteArray) (m : Int) (w : World) (hs : s.size ≤ maxLen) (hm : w.cell? ⟨0, 0, none⟩ = some (.int .i64 m)) : Calls Tryz.prog 59 #[.string s] w (OfPost w (planL s.data.toList)) := by
  unfold planL
  cases hl : Sg.lexL s.data.toList with
  | none => exact of_none s m w hs hm hl
  | some l =>
    refine of_calls s l m w hs hm hl (lexL_len hl) (fun t ht => (lexL_fine hl t ht).2) ?_ _ (forms_ok hl)
    have h1 := join_le 200 (trimSemi (wordsL l)) fun w hw => words_short hl w hw
    have h2 : (trimSemi (wordsL l)).length ≤ 200 := by
      have h3 : (trimSemi (wordsL l)).length ≤ (wordsL l).length := by
        unfold trimSemi
        have := (List.dropWhile_sublist (fun x => x == semi) (l := (wordsL l).reverse)).length_le
        simpa using this
      exact Nat.le_trans h3 (Nat.le_trans (wordsL_len l) (lexL_len hl))
    have h4 := Nat.mul_le_mul_right 201 h2
    omega

/-! ### tables -/
theorem placeL_lt {l : List Pr} {key : Sg.B} {k : Nat} {p : Pr} (hk : k < placeL l key) (hp : l[k]? = some p) : cmpB p.1 key < 0 := by
  unfold placeL at hk
  have hpre := List.takeWhile_prefix (l := l) (fun p : Pr => decide (cmpB p.1 key < 0))
  have h1 : (l.takeWhile fun p => decide (cmpB p.1 key < 0))[k]? = some p := by
    rw [List.prefix_iff_eq_take.1 hpre, List.getElem?_take_of_lt hk]; exact hp
  have := List.all_eq_true.1 (List.all_takeWhile (l := l) (p := fun p : Pr => decide (cmpB p.1 key < 0))) p (List.mem_of_getElem? h1)
  simpa using this
theorem placeL_at {l : List Pr} {key : Sg.B} {p : Pr} (hp : l[placeL l key]? = some p) : ¬ cmpB p.1 key < 0 := by
  induction l with
  | nil => simp at hp
  | cons x l ih =>
    by_cases hx : cmpB x.1 key < 0
    · have e : placeL (x :: l) key = placeL l key + 1 := by unfold placeL; rw [List.takeWhile_cons_of_pos (by simpa using hx)]; rfl
      rw [e] at hp
      exact ih (by simpa using hp)
    · have e : placeL (x :: l) key = 0 := by unfold placeL; rw [List.takeWhile_cons_of_neg (by simpa using hx)]; rfl
      rw [e] at hp
      simp at hp; subst hp; exact hx
theorem sortL_keys (l : List Pr) : SortL l ↔ (l.map (·.1)).Pairwise fun a b => cmpB a b < 0 := by unfold SortL; rw [List.pairwise_map]
theorem sortL_nil : SortL [] := List.Pairwise.nil
theorem sortL_writes (p : Pn) (l : List Pr) (h : SortL l) : SortL (writesL p l).1 := by
  have hset : ∀ k v0 v, l[placeL l k]? = some (k, v0) → SortL (l.set (placeL l k) (k, v)) := fun k v0 v hk => by
    rw [sortL_keys, List.map_set]
    have : (l.map (·.1)).set (placeL l k) k = l.map (·.1) := by
      apply List.ext_getElem?
      intro j
      rw [List.getElem?_set, List.getElem?_map]
      split
      · rename_i e
        subst e
        rw [hk, if_pos (by have := (List.getElem?_eq_some_iff.1 hk).1; simpa using this)]; rfl
      · rfl
    rw [this, ← sortL_keys]; exact h
  unfold writesL
  split
  · rename_i h3
    have hle := placeL_le l p.key
    unfold SortL at h ⊢
    rw [List.append_assoc, List.pairwise_append]
    refine ⟨h.take, ?_, ?_⟩
    · rw [List.singleton_append, List.pairwise_cons]
      refine ⟨fun b hb => ?_, h.drop⟩
      obtain ⟨j, hj⟩ := List.mem_iff_getElem?.1 hb
      rw [List.getElem?_drop] at hj
      have h0 : ∃ q, l[placeL l p.key]? = some q := ⟨_, List.getElem?_eq_getElem (by have := (List.getElem?_eq_some_iff.1 hj).1; omega)⟩
      obtain ⟨q, hq⟩ := h0
      have hq1 := placeL_at hq
      have hq2 : q.1 ≠ p.key := fun e => by
        have : isAt l p.key = true := by unfold isAt; rw [hq]; simpa using e
        rw [h3.2] at this; cases this
      have hq3 : cmpB p.key q.1 < 0 := (cmpB_swap q.1 p.key).1 (by have := (cmpB_eq q.1 p.key); have : cmpB q.1 p.key ≠ 0 := fun e => hq2 (this.1 e); omega)
      rcases j with _ | j
      · have e := hq.symm.trans (by simpa using hj); cases e; exact hq3
      · exact cmpB_trans _ _ _ hq3 (sortL_at h (by omega) hq hj)
    · intro a ha b hb
      obtain ⟨i, hi⟩ := List.mem_iff_getElem?.1 ha
      have hil := (List.getElem?_eq_some_iff.1 hi).1
      rw [List.length_take] at hil
      rw [List.getElem?_take_of_lt (by omega)] at hi
      have ha1 := placeL_lt (l := l) (key := p.key) (k := i) (by omega) hi
      rcases List.mem_append.1 hb with hb | hb
      · rw [List.mem_singleton.1 hb]; exact ha1
      · obtain ⟨j, hj⟩ := List.mem_iff_getElem?.1 hb
        rw [List.getElem?_drop] at hj
        exact sortL_at h (by omega) hi hj
  · split
    · rename_i h3 h4
      by_cases hat : isAt l p.key = true
      · obtain ⟨v0, hv⟩ := isAt_some hat
        exact hset _ v0 _ hv
      · have hf : isAt l p.key = false := by simpa using hat
        rcases h4 with h4 | h4
        · exact absurd ⟨h4, hf⟩ h3
        · exact absurd h4.2 hat
    · split
      · have : (l.take (placeL l p.key) ++ l.drop (placeL l p.key + 1)) = l.eraseIdx (placeL l p.key) := (List.eraseIdx_eq_take_drop_succ ..).symm
        rw [this]
        exact List.Pairwise.sublist (List.eraseIdx_sublist ..) h
      · exact h
theorem writes_len (p : Pn) (l : List Pr) : (writesL p l).1.length ≤ l.length + 1 := by
  have := placeL_le l p.key
  unfold writesL
  split
  · simp; omega
  · split
    · simp
    · split <;> simp <;> omega
end Go.Proofs.YtpaioaljopjpkaaGreatDoor
