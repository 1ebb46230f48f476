/- (*Classer).tokens and explain, which call each other: the class of tokens is the plain function tokF's. Conditions: at most 1000 tokens. -/
import Derived.Test.YtpaioaljopjpkaaGreatDoorClsH
set_option linter.unusedVariables false
set_option linter.unusedSimpArgs false
namespace Go.Proofs.YtpaioaljopjpkaaGreatDoor
open Go.RowKit

def ruleOf (k : Sg.B) : Option Rule := (rulesAll.find? fun x => x.1 == k).map (·.2)
theorem S4_all (k : Sg.B) (r : Rule) : S4 4 k r ↔ (k, r) ∈ rulesAll := by
  unfold S4 S3 S2 S1 rulesAll
  rw [List.take_of_length_le (show rules2.length ≤ 3 by decide), List.take_of_length_le (show rules3.length ≤ 12 by decide), List.take_of_length_le (show rules4.length ≤ 4 by decide)]
  simp only [List.mem_append, List.mem_map, Prod.mk.injEq]
  constructor
  · rintro (((h | ⟨h, rfl⟩) | ⟨h, rfl⟩) | ⟨h, rfl⟩)
    · exact .inl (.inl (.inl h))
    · exact .inl (.inl (.inr ⟨k, h, rfl, rfl⟩))
    · exact .inl (.inr ⟨k, h, rfl, rfl⟩)
    · exact .inr ⟨k, h, rfl, rfl⟩
  · rintro (((h | ⟨x, h, rfl, rfl⟩) | ⟨x, h, rfl, rfl⟩) | ⟨x, h, rfl, rfl⟩)
    · exact .inl (.inl (.inl h))
    · exact .inl (.inl (.inr ⟨h, rfl⟩))
    · exact .inl (.inr ⟨h, rfl⟩)
    · exact .inr ⟨h, rfl⟩
theorem keys_apart : (rulesAll.map (·.1)).Nodup := by decide
theorem find_key {l : List (Sg.B × Rule)} (hn : (l.map (·.1)).Nodup) {k : Sg.B} {r : Rule} (h : (k, r) ∈ l) : (l.find? fun x => x.1 == k) = some (k, r) := by
  induction l with
  | nil => cases h
  | cons x l ih =>
    rw [List.map_cons, List.nodup_cons] at hn
    rcases List.mem_cons.1 h with rfl | h'
    · simp
    · have hne : x.1 ≠ k := fun e => hn.1 (e ▸ List.mem_map.2 ⟨_, h', rfl⟩)
      rw [List.find?_cons_of_neg (by simpa using hne)]
      exact ih hn.2 h'
theorem ruleOf_of {k : Sg.B} {r : Rule} (h : S4 4 k r) : ruleOf k = some r := by
  unfold ruleOf
  rw [find_key keys_apart ((S4_all k r).1 h)]
  rfl
theorem ruleOf_some {k : Sg.B} {r : Rule} (h : ruleOf k = some r) : S4 4 k r ∧ ∀ r', S4 4 k r' → r' = r := by
  have h1 : S4 4 k r := by
    unfold ruleOf at h
    obtain ⟨x, hx, rfl⟩ := Option.map_eq_some_iff.1 h
    have hm := List.mem_of_find?_eq_some hx
    have hk := List.find?_some hx
    have : x.1 = k := by simpa using hk
    rw [S4_all, ← this]
    exact hm
  exact ⟨h1, fun r' h' => by have := ruleOf_of h'; rw [h] at this; cases this; rfl⟩
theorem ruleOf_none {k : Sg.B} (h : ruleOf k = none) (r : Rule) : ¬ S4 4 k r := fun h' => by
  rw [ruleOf_of h'] at h; cases h

def runRule (rec : List Sg.Tok → Int) (l : List Sg.Tok) : Rule → Int
  | .explain => if wordL l 1 [[65, 78, 65, 76, 89, 90, 69], [65, 78, 65, 76, 89, 83, 69]] = true then (if rec (l.drop 2) = 2 ∨ rec (l.drop 2) = 7 then rec (l.drop 2) else 1) else 1
  | .begin => beginR l
  | .start => startR l
  | .set => setR l
  | .asks => asksR l
  | .ends n => endsR n l
  | .always n => n

def tokF : Nat → List Sg.Tok → Int
  | 0, _ => 7
  | _ + 1, [] => 7
  | k + 1, t :: r =>
    if t.kind ≠ 1 then 7
    else if (t :: r).any isSign = true then 7
    else match ruleOf t.text with
      | none => 7
      | some ru => runRule (tokF k) (t :: r) ru

/-- how a classer's map may come: as it was, or new. -/
def Later (w : World) (mo mo' : Option Nat) : Prop := mo' = mo ∨ ∃ mb, mo = none ∧ mo' = some mb ∧ w.heap.size ≤ mb
theorem Later.trans {w w1 : World} {a b c : Option Nat} (h : Later w a b) (k : Later w1 b c) (hs : w.heap.size ≤ w1.heap.size) : Later w a c := by
  rcases h with rfl | ⟨mb, rfl, rfl, h1⟩
  · rcases k with rfl | ⟨mb, rfl, rfl, h2⟩
    · exact .inl rfl
    · exact .inr ⟨mb, rfl, rfl, by omega⟩
  · rcases k with rfl | ⟨_, h, _⟩
    · exact .inr ⟨mb, rfl, rfl, h1⟩
    · cases h

def TokPost (c : Nat) (mo : Option Nat) (w : World) (n : Int) (e : Ending) (w' : World) : Prop :=
  e = .returned (.int .i64 n) ∧ ∃ mo', ClsAt w' c mo' ∧ Keeps (· = c) w w' ∧ Later w mo mo'

def TokSaid (k : Nat) (l : List Sg.Tok) : Prop :=
  ∀ (c : Nat) (mo : Option Nat) (v : Value) (w : World), ClsAt w c mo → TokAt w v l → Calls Tryz.prog 65 #[.pointer (some ⟨c, 0, none⟩), v] w (TokPost c mo w (tokF k l))

/-- a sub-slice from place 2 on. -/
theorem TokAt.from2 {w : World} {a : Option Addr} {n c : Nat} {l : List Sg.Tok} (h : TokAt w (.slice a n c) l) (h2 : 2 ≤ l.length) : ∃ g off, a = some ⟨g, off, none⟩ ∧ n = l.length ∧
    (c = 2 → TokAt w (.slice (some ⟨g, off, none⟩) 0 0) (l.drop 2)) ∧ (2 < c → TokAt w (.slice (some ⟨g, off + 2 * 2, none⟩) (l.length - 2) (c - 2)) (l.drop 2)) ∧ 2 ≤ c ∧ c ≤ maxLen := by
  obtain ⟨a', c', he, h1, h3, h4⟩ := h
  cases he
  obtain ⟨g, off, cur, T, fz, rfl, hg, hc⟩ := h4 (by omega)
  refine ⟨g, off, rfl, rfl, fun e => ?_, fun e => ?_, by omega, h3⟩
  · have : l.drop 2 = [] := List.drop_eq_nil_of_le (by omega)
    rw [this]
    exact ⟨_, 0, rfl, by simp, by omega, fun h => absurd h (by simp)⟩
  · refine ⟨_, c - 2, by simp, by simp; omega, by omega, fun _ => ⟨g, off + 2 * 2, cur, T, fz, rfl, hg, fun i t ht => ?_⟩⟩
    have := hc (2 + i) t (by rw [List.getElem?_drop] at ht; exact ht)
    rw [show off + 2 * 2 + i * 2 = off + (2 + i) * 2 from by omega]
    exact this

set_option maxRecDepth 100000 in
set_option maxHeartbeats 1600000 in
theorem explain_of (k : Nat) (l : List Sg.Tok) (hll : l.length ≤ 1000) (ih : 2 ≤ l.length → TokSaid k (l.drop 2)) (c : Nat) (mo : Option Nat) (v : Value) (w : World) (hc : ClsAt w c mo) (hl : TokAt w v l) :
    Calls Tryz.prog 136 #[.pointer (some ⟨c, 0, none⟩), v] w (TokPost c mo w (runRule (tokF k) l .explain)) := by
  have HW := Lib.hid (word_new v l 1 [[65, 78, 65, 76, 89, 90, 69], [65, 78, 65, 76, 89, 83, 69]] 2 _ w hl rfl (by decide) (by decide))
  have hb := (Below.refl w.heap.size w).alloc (Nat.le_refl _) (.cells ([[65, 78, 65, 76, 89, 90, 69], [65, 78, 65, 76, 89, 83, 69]].map fun x => Value.string (ba x)).toArray 9)
  have hl1 := hl.below hb (Nat.le_refl _)
  have hc1 := hc.below hb (Nat.le_refl _)
  have hk1 := Keeps.of_new hb (· = c)
  obtain ⟨a, n, hv, _⟩ := id hl
  subst hv
  by_cases hw : wordL l 1 [[65, 78, 65, 76, 89, 90, 69], [65, 78, 65, 76, 89, 83, 69]] = true
  · have h2 : 2 ≤ l.length := by
      unfold wordL at hw
      cases h : l[1]? with
      | none => rw [h] at hw; cases hw
      | some t => have := (List.getElem?_eq_some_iff.1 h).1; omega
    have HR : Hid (runRule (tokF k) l .explain = if tokF k (l.drop 2) = 2 ∨ tokF k (l.drop 2) = 7 then tokF k (l.drop 2) else 1) := by unfold Hid runRule; rw [if_pos hw]
    obtain ⟨g, off, rfl, _, hA, hB, hn2, hmx⟩ := hl1.from2 h2
    have hn3 : l.length ≤ n := by obtain ⟨_, _, he, h3, _⟩ := hl; cases he; exact h3
    rw [HR.out]
    unfold maxLen at hmx
    rw [hw] at HW
    by_cases hn : n = 2
    · have hlen : l.length = 2 := by omega
      have HI := Lib.hid (ih h2 c mo _ _ hc1 (hA hn))
      generalize tokF k (l.drop 2) = x at *
      obtain ⟨y, hy⟩ : ∃ y : Int, y = if x = 2 ∨ x = 7 then x else 1 := ⟨_, rfl⟩
      rw [← hy]
      have HY := Lib.hid hy; clear hy
      have HK1 := Lib.hid hk1
      subst hn
      rw [hlen] at HW
      rw [hlen]
      clear hA hB hb hl1 hc1 hk1 hl hc hw ih HR hlen h2 hn3
      by_cases hx2 : x = 2
      · have b2 : (x == 2) = true := by simpa using hx2
        have HX := Lib.hid hx2; clear hx2
        go_enter Tryz.func136, Tryz.ntmps136
        go_wp2_with (first | (go_at_call 170; refine HW.out.mono ?_; rintro e w' ⟨rfl, rfl⟩) | (go_at_call 65; go_must (refine HI.out.mono ?_; rintro e w2 ⟨rfl, mo', h1, h2, h3⟩)))
        go_ret
        exact ⟨ret_int (by rw [HY.out]; have := HX.out; simp [this]), mo', h1, HK1.out.then h2 fun i _ e => e, (show Later w mo mo from .inl rfl).trans h3 HK1.out.size⟩
      · have b2 : (x == 2) = false := by simpa using hx2
        by_cases hx7 : x = 7
        · have b7 : (x == 7) = true := by simpa using hx7
          have HX := Lib.hid hx7; clear hx7
          go_enter Tryz.func136, Tryz.ntmps136
          go_wp2_with (first | (go_at_call 170; refine HW.out.mono ?_; rintro e w' ⟨rfl, rfl⟩) | (go_at_call 65; go_must (refine HI.out.mono ?_; rintro e w2 ⟨rfl, mo', h1, h2, h3⟩)))
          go_ret
          exact ⟨ret_int (by rw [HY.out]; have := HX.out; simp [this]), mo', h1, HK1.out.then h2 fun i _ e => e, (show Later w mo mo from .inl rfl).trans h3 HK1.out.size⟩
        · have b7 : (x == 7) = false := by simpa using hx7
          go_enter Tryz.func136, Tryz.ntmps136
          go_wp2_with (first | (go_at_call 170; refine HW.out.mono ?_; rintro e w' ⟨rfl, rfl⟩) | (go_at_call 65; go_must (refine HI.out.mono ?_; rintro e w2 ⟨rfl, mo', h1, h2, h3⟩)))
          go_ret
          exact ⟨ret_int (by rw [HY.out]; simp [hx2, hx7]), mo', h1, HK1.out.then h2 fun i _ e => e, (show Later w mo mo from .inl rfl).trans h3 HK1.out.size⟩
    · have hn4 : 2 < n := by omega
      have HI := Lib.hid (ih h2 c mo _ _ hc1 (hB hn4))
      generalize tokF k (l.drop 2) = x at *
      obtain ⟨y, hy⟩ : ∃ y : Int, y = if x = 2 ∨ x = 7 then x else 1 := ⟨_, rfl⟩
      rw [← hy]
      have HY := Lib.hid hy; clear hy
      have HK1 := Lib.hid hk1
      have hn5 : ¬ n = 2 := hn
      clear hA hB hb hl1 hc1 hk1 hl hc hw ih HR
      by_cases hx2 : x = 2
      · have b2 : (x == 2) = true := by simpa using hx2
        have HX := Lib.hid hx2; clear hx2
        go_enter Tryz.func136, Tryz.ntmps136
        go_wp2_with (first | (go_at_call 170; refine HW.out.mono ?_; rintro e w' ⟨rfl, rfl⟩) | (go_at_call 65; go_must (refine HI.out.mono ?_; rintro e w2 ⟨rfl, mo', h1, h2, h3⟩)))
        go_ret
        exact ⟨ret_int (by rw [HY.out]; have := HX.out; simp [this]), mo', h1, HK1.out.then h2 fun i _ e => e, (show Later w mo mo from .inl rfl).trans h3 HK1.out.size⟩
      · have b2 : (x == 2) = false := by simpa using hx2
        by_cases hx7 : x = 7
        · have b7 : (x == 7) = true := by simpa using hx7
          have HX := Lib.hid hx7; clear hx7
          go_enter Tryz.func136, Tryz.ntmps136
          go_wp2_with (first | (go_at_call 170; refine HW.out.mono ?_; rintro e w' ⟨rfl, rfl⟩) | (go_at_call 65; go_must (refine HI.out.mono ?_; rintro e w2 ⟨rfl, mo', h1, h2, h3⟩)))
          go_ret
          exact ⟨ret_int (by rw [HY.out]; have := HX.out; simp [this]), mo', h1, HK1.out.then h2 fun i _ e => e, (show Later w mo mo from .inl rfl).trans h3 HK1.out.size⟩
        · have b7 : (x == 7) = false := by simpa using hx7
          go_enter Tryz.func136, Tryz.ntmps136
          go_wp2_with (first | (go_at_call 170; refine HW.out.mono ?_; rintro e w' ⟨rfl, rfl⟩) | (go_at_call 65; go_must (refine HI.out.mono ?_; rintro e w2 ⟨rfl, mo', h1, h2, h3⟩)))
          go_ret
          exact ⟨ret_int (by rw [HY.out]; simp [hx2, hx7]), mo', h1, HK1.out.then h2 fun i _ e => e, (show Later w mo mo from .inl rfl).trans h3 HK1.out.size⟩
  · have HR : Hid (runRule (tokF k) l .explain = 1) := by unfold Hid runRule; rw [if_neg hw]
    have hw' : wordL l 1 [[65, 78, 65, 76, 89, 90, 69], [65, 78, 65, 76, 89, 83, 69]] = false := by simpa using hw
    clear hw
    rw [hw'] at HW
    have HP : Hid (TokPost c mo w 1 (.returned (.int .i64 1)) (w.alloc (.cells ([[65, 78, 65, 76, 89, 90, 69], [65, 78, 65, 76, 89, 83, 69]].map fun x => Value.string (ba x)).toArray 9))) := ⟨rfl, mo, hc1, hk1, .inl rfl⟩
    rw [HR.out]
    clear hb hl1 hc1 hk1 hl hc hw' ih
    go_enter Tryz.func136, Tryz.ntmps136
    go_wp2_with (go_at_call 170; refine HW.out.mono ?_; rintro e w' ⟨rfl, rfl⟩)
    go_ret
    exact HP.out
end Go.Proofs.YtpaioaljopjpkaaGreatDoor
