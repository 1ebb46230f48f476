/- The walks of lex.remark, lex.one and lex.Lex: the tokens of a text are those that the plain function lexL tells. Conditions: a text of at most 1000 bytes for the first two. -/
import Derived.Test.YtpaioaljopjpkaaGreatDoorLexB
import Derived.Shelf.Strings.SlTrimAscii
import Derived.WalkSmall
import Derived.Deep.DeepMust
namespace Go.Proofs.YtpaioaljopjpkaaGreatDoor
open Go.RowKit

theorem ext_drop (s : ByteArray) (n : Nat) : (s.extract n s.size).data.toList = s.data.toList.drop n := by
  rw [ByteArray.data_extract]
  simp only [Array.toList_extract, List.extract_eq_take_drop]
  exact List.take_of_length_le (by simp)
theorem ext_size (s : ByteArray) (n : Nat) : (s.extract n s.size).size = s.size - n := by simp [ByteArray.size_extract]
theorem ext_take (s : ByteArray) (n : Nat) : (s.extract 0 n).data.toList = s.data.toList.take n := by
  rw [ByteArray.data_extract]
  simp only [Array.toList_extract, List.extract_eq_take_drop, List.drop_zero, Nat.sub_zero]

theorem prefix_len (s p : List UInt8) (h : Lib.hasPrefix s p = true) : p.length ≤ s.length := by
  unfold Lib.hasPrefix at h
  exact (List.isPrefixOf_iff_prefix.1 h).length_le

set_option maxHeartbeats 1000000 in
set_option maxRecDepth 1000000 in
theorem remark_calls (s : ByteArray) (m : Int) (w : World) (hs : s.size ≤ 1000) (hm : w.cell? ⟨0, 0, none⟩ = some (.int .i64 m)) :
    Calls Tryz.prog 93 #[.string s] w fun e w' => e = .returned (.int .i64 (Sg.remarkL s.data.toList)) ∧ w' = w := by
  have hl : s.data.toList.length = s.size := by simp
  have HF : Hid (Sg.remarkL s.data.toList = if Lib.hasPrefix s.data.toList [47, 42, 43] then 0
    else if Lib.hasPrefix s.data.toList [47, 42] then
      (if Lib.index (s.data.toList.drop 2) [42, 47] < 0 then Lib.index (s.data.toList.drop 2) [42, 47] else 2 + Lib.index (s.data.toList.drop 2) [42, 47] + 2)
    else if Lib.hasPrefix s.data.toList [45, 45] || Lib.hasPrefix s.data.toList [35] then
      (if 0 ≤ Lib.indexByte s.data.toList 10 then Lib.indexByte s.data.toList 10 else s.size)
    else 0) := by unfold Hid Sg.remarkL Sg.hintsL Sg.opensL Sg.closesL; rw [hl]
  clear hl
  by_cases p1 : Lib.hasPrefix s.data.toList [47, 42, 43] = true
  · go_enter Tryz.func93, Tryz.ntmps93
    go_wp2_with (first | (go_at_call 124; refine (Tryz.strings_HasPrefix _ _ _).mono ?_; rintro e w' ⟨rfl, rfl⟩))
    go_ret
    exact ⟨ret_int (by rw [HF.out, if_pos p1]), rfl⟩
  · have p1' : Lib.hasPrefix s.data.toList [47, 42, 43] = false := by simpa using p1
    by_cases p2 : Lib.hasPrefix s.data.toList [47, 42] = true
    · have h2 : 2 ≤ s.size := by have := prefix_len _ _ p2; simpa using this
      have HE : Hid ((s.extract 2 s.size).data.toList = s.data.toList.drop 2) := ext_drop s 2
      have hix := Lib.index_ge (s.data.toList.drop 2) [42, 47]
      have hix2 : Lib.index (s.data.toList.drop 2) [42, 47] ≤ 1000 := by
        have := Lib.index_le (s.data.toList.drop 2) [42, 47]; simp at this; omega
      go_enter Tryz.func93, Tryz.ntmps93
      go_wp2_with (first | (go_at_call 124; refine (Tryz.strings_HasPrefix _ _ _).mono ?_; rintro e w' ⟨rfl, rfl⟩) | (go_at_call 125; refine (Tryz.strings_Index _ _ m _ (by rw [ext_size]; omega) hm).mono ?_; rw [HE.out]; rintro e w' ⟨rfl, rfl⟩))
      all_goals
        go_ret
        exact ⟨ret_int (by rw [HF.out, if_neg p1, if_pos p2]; first | rw [if_pos (by assumption)] | rw [if_neg (by omega)]), rfl⟩
    · have p2' : Lib.hasPrefix s.data.toList [47, 42] = false := by simpa using p2
      go_enter Tryz.func93, Tryz.ntmps93
      go_wp2_with (first | (go_at_call 124; refine (Tryz.strings_HasPrefix _ _ _).mono ?_; rintro e w' ⟨rfl, rfl⟩) | (go_at_call 92; refine (Tryz.strings_IndexByte _ _ _).mono ?_; rintro e w' ⟨rfl, rfl⟩))
      all_goals
        go_ret
        exact ⟨ret_int (by rw [HF.out, if_neg p1, if_neg p2]; simp [*] <;> omega), rfl⟩

def OneP (r : Option (Sg.Tok × Nat)) (e : Ending) : Prop :=
  match r with
  | some x => e = .returned (.tuple #[.agg #[.int .i64 x.1.kind, .string ⟨x.1.text.toArray⟩], .int .i64 x.2])
  | none => ∃ (k : Int) (t : ByteArray), e = .returned (.tuple #[.agg #[.int .i64 k, .string t], .int .i64 (-1)])

theorem new2 {w w1 : World} {a b : Value} {T B : Nat} (hb : Below B (w.alloc (.cells #[a, b] T)) w1) (hB : w.heap.size < B) :
    w1.cell? ⟨w.heap.size, 0, none⟩ = some a ∧ w1.cell? ⟨w.heap.size, 1, none⟩ = some b ∧ w1.frozen? ⟨w.heap.size, 0, none⟩ = false ∧ w1.frozen? ⟨w.heap.size, 1, none⟩ = false ∧ w.heap.size < w1.heap.size ∧ Below w.heap.size w w1 := by
  have h0 := hb.cell (p := ⟨w.heap.size, 0, none⟩) hB
  have h1 := hb.cell (p := ⟨w.heap.size, 1, none⟩) hB
  have g0 := hb.frozen (p := ⟨w.heap.size, 0, none⟩) hB
  have g1 := hb.frozen (p := ⟨w.heap.size, 1, none⟩) hB
  have hs := hb.size
  simp at h0 h1 g0 g1 hs
  exact ⟨h0, h1, g0, g1, by omega, ((Below.refl _ _).alloc (Nat.le_refl _) _).trans (hb.mono (by omega))⟩

theorem one_ret {a : Act} {w w' : World} {k n : Int} {t : ByteArray} {r : Option (Sg.Tok × Nat)} (h : OneP r (.returned (.tuple #[.agg #[.int .i64 k, .string t], .int .i64 n])))
    (hb : Below w.heap.size w w') (h0 : w'.cell? ⟨w.heap.size, 0, none⟩ = some (.int .i64 k)) (h1 : w'.cell? ⟨w.heap.size, 1, none⟩ = some (.string t))
    (ha : a.tmps.getD 2 undef = .pointer (some ⟨w.heap.size, 0, none⟩)) (hn : a.tmps.getD 3 undef = .int .i64 n) (hd : a.defers = []) :
    bodyPost Tryz.prog Tryz.f94 (fun e w' => OneP r e ∧ Below w.heap.size w w') Exit.ret a w' := by
  refine bodyPost_ret (v := .tuple #[.agg #[.int .i64 k, .string t], .int .i64 n]) ?_ hd ⟨h, hb⟩
  simp only [Array.getD_eq_getD_getElem?] at ha hn
  simp [results, Tryz.results94, go_sem, ha, hn, h0, h1]

theorem ba_of (x : ByteArray) (l : List UInt8) (h : x.data.toList = l) : x = ⟨l.toArray⟩ := by
  obtain ⟨d⟩ := x
  subst h
  rfl
theorem head_at (s : ByteArray) (h : 0 < s.size) : s.data.toList = s[0] :: s.data.toList.drop 1 := by
  have := drop_at s 0 h
  simpa using this
theorem runL_le (p : UInt8 → Bool) (l : List UInt8) : Sg.runL p l ≤ l.length := (List.takeWhile_prefix p).length_le
theorem runL_all (p : UInt8 → Bool) (s : ByteArray) (j : Nat) (hj : j < s.size) (h : j < Sg.runL p s.data.toList) : p s[j] = true := by
  have h2 := List.takeWhile_prefix (p := p) (l := s.data.toList)
  have h3 : (s.data.toList.takeWhile p)[j]'h = s.data.toList[j]'(by simpa using hj) := List.IsPrefix.getElem h2 h
  have h4 : p ((s.data.toList.takeWhile p)[j]'h) = true := by
    have := List.all_takeWhile (p := p) (l := s.data.toList)
    exact List.all_eq_true.1 this _ (List.getElem_mem h)
  rw [h3] at h4
  exact h4

set_option maxHeartbeats 1000000 in
set_option maxRecDepth 1000000 in
theorem one_sign (s : ByteArray) (w : World) (hs : s.size ≤ 1000) (h0 : 0 < s.size) (p1 : Lib.hasPrefix s.data.toList [47, 42, 43] = false)
   (hl : Sg.letter s[0] = false) (hd : Sg.digit s[0] = false) (h39 : s[0].toNat ≠ 39) (h34 : s[0].toNat ≠ 34) (h96 : s[0].toNat ≠ 96) (r : Option (Sg.Tok × Nat))
   (hr : r = if 33 ≤ s[0].toNat ∧ s[0].toNat ≤ 126 then some (⟨6, [s[0]]⟩, 1) else none) :
    Calls Tryz.prog 94 #[.string s] w fun e w' => OneP r e ∧ Below w.heap.size w w' := by
  have HR := Lib.hid hr; clear hr
  have b1 : ((s[0].toNat : Int) == 39) = false := by simp; omega
  have b2 : ((s[0].toNat : Int) == 34) = false := by simp; omega
  have b3 : ((s[0].toNat : Int) == 96) = false := by simp; omega
  have HX : Hid ((s.extract 0 1) = ⟨[s[0]].toArray⟩) := ba_of _ _ (by rw [ext_take, head_at s h0]; rfl)
  go_enter Tryz.func94, Tryz.ntmps94
  go_wp2_with (first | (go_at_call 124; refine (Tryz.strings_HasPrefix _ _ _).mono ?_; rintro e w' ⟨rfl, rfl⟩) | (go_at_call 128; refine (letter_calls _ _).mono ?_; rintro e w' ⟨rfl, rfl⟩) | (go_at_call 131; refine (digit_calls _ _).mono ?_; rintro e w' ⟨rfl, rfl⟩))
  · refine one_ret (k := 6) (n := 1) ?_ ((Below.refl _ _).alloc (Nat.le_refl _) _) (by simp) (by simp; rfl) rfl rfl rfl
    rw [HR.out, if_pos ⟨by omega, by omega⟩, HX.out]; rfl
  all_goals
    refine one_ret (k := 0) (n := -1) ?_ ((Below.refl _ _).alloc (Nat.le_refl _) _) (by simp) (by simp; rfl) rfl rfl rfl
    rw [HR.out, if_neg (by omega)]; exact ⟨_, _, rfl⟩

set_option maxHeartbeats 1000000 in
set_option maxRecDepth 1000000 in
theorem one_quote (s : ByteArray) (w : World) (hs : s.size ≤ 1000) (h0 : 0 < s.size) (p1 : Lib.hasPrefix s.data.toList [47, 42, 43] = false)
   (hl : Sg.letter s[0] = false) (hd : Sg.digit s[0] = false) (hq : s[0].toNat = 39 ∨ s[0].toNat = 34 ∨ s[0].toNat = 96) (r : Option (Sg.Tok × Nat))
   (hr : r = (Sg.quotedL s[0] (s.data.toList.drop 1)).map fun x => (⟨if s[0].toNat = 39 then 3 else 2, x.1⟩, x.2 + 1)) :
    Calls Tryz.prog 94 #[.string s] w fun e w' => OneP r e ∧ Below w.heap.size w w' := by
  have HR := Lib.hid hr; clear hr
  have b1 : ((s[0].toNat : Int) == 39) = true ∨ (((s[0].toNat : Int) == 39) = false ∧ ((s[0].toNat : Int) == 34) = true) ∨ (((s[0].toNat : Int) == 39) = false ∧ ((s[0].toNat : Int) == 34) = false ∧ ((s[0].toNat : Int) == 96) = true) := by
    simp; omega
  have HQ : Hid (s[0].toNat = 39 ∨ s[0].toNat = 34 ∨ s[0].toNat = 96) := hq
  clear hq
  rcases b1 with b1 | ⟨b1, b2⟩ | ⟨b1, b2, b3⟩
  · have h39 : s[0].toNat = 39 := by simp at b1; omega
    have H39 := Lib.hid h39; clear h39
    cases hx : Sg.quotedL s[0] (s.data.toList.drop 1) with
    | none =>
      have HX := Lib.hid hx; clear hx
      go_enter Tryz.func94, Tryz.ntmps94
      go_wp2_with (first | (go_at_call 124; refine (Tryz.strings_HasPrefix _ _ _).mono ?_; rintro e w' ⟨rfl, rfl⟩) | (go_at_call 128; refine (letter_calls _ _).mono ?_; rintro e w' ⟨rfl, rfl⟩) | (go_at_call 131; refine (digit_calls _ _).mono ?_; rintro e w' ⟨rfl, rfl⟩) | (go_at_call 133; refine (quoted_calls _ _ hs h0).mono ?_; rw [HX.out]; rintro e w1 ⟨rfl, hb⟩; obtain ⟨q0, q1, f0, f1, hz, hb0⟩ := new2 hb (by simp); unfold quotedV))
      refine one_ret (k := 3) (n := -1) (t := ⟨#[]⟩) (by rw [HR.out, HX.out]; exact ⟨_, _, rfl⟩) ((hb0.setCell (Nat.le_refl _) _).setCell (Nat.le_refl _) _) (by go_simp) (by go_simp) rfl rfl rfl
    | some x =>
      have HX := Lib.hid hx; clear hx
      go_enter Tryz.func94, Tryz.ntmps94
      go_wp2_with (first | (go_at_call 124; refine (Tryz.strings_HasPrefix _ _ _).mono ?_; rintro e w' ⟨rfl, rfl⟩) | (go_at_call 128; refine (letter_calls _ _).mono ?_; rintro e w' ⟨rfl, rfl⟩) | (go_at_call 131; refine (digit_calls _ _).mono ?_; rintro e w' ⟨rfl, rfl⟩) | (go_at_call 133; refine (quoted_calls _ _ hs h0).mono ?_; rw [HX.out]; rintro e w1 ⟨rfl, hb⟩; obtain ⟨q0, q1, f0, f1, hz, hb0⟩ := new2 hb (by simp); unfold quotedV))
      refine one_ret (k := 3) (n := x.2 + 1) (t := ⟨x.1.toArray⟩) (by rw [HR.out, HX.out]; have h39 := H39.out; simp [OneP, h39]) ((hb0.setCell (Nat.le_refl _) _).setCell (Nat.le_refl _) _) (by go_simp) (by go_simp) rfl rfl rfl
  · have h39 : s[0].toNat ≠ 39 := by simp at b1; omega
    have H39 := Lib.hid h39; clear h39
    cases hx : Sg.quotedL s[0] (s.data.toList.drop 1) with
    | none =>
      have HX := Lib.hid hx; clear hx
      go_enter Tryz.func94, Tryz.ntmps94
      go_wp2_with (first | (go_at_call 124; refine (Tryz.strings_HasPrefix _ _ _).mono ?_; rintro e w' ⟨rfl, rfl⟩) | (go_at_call 128; refine (letter_calls _ _).mono ?_; rintro e w' ⟨rfl, rfl⟩) | (go_at_call 131; refine (digit_calls _ _).mono ?_; rintro e w' ⟨rfl, rfl⟩) | (go_at_call 133; refine (quoted_calls _ _ hs h0).mono ?_; rw [HX.out]; rintro e w1 ⟨rfl, hb⟩; obtain ⟨q0, q1, f0, f1, hz, hb0⟩ := new2 hb (by simp); unfold quotedV))
      refine one_ret (k := 2) (n := -1) (t := ⟨#[]⟩) (by rw [HR.out, HX.out]; exact ⟨_, _, rfl⟩) ((hb0.setCell (Nat.le_refl _) _).setCell (Nat.le_refl _) _) (by go_simp) (by go_simp) rfl rfl rfl
    | some x =>
      have HX := Lib.hid hx; clear hx
      go_enter Tryz.func94, Tryz.ntmps94
      go_wp2_with (first | (go_at_call 124; refine (Tryz.strings_HasPrefix _ _ _).mono ?_; rintro e w' ⟨rfl, rfl⟩) | (go_at_call 128; refine (letter_calls _ _).mono ?_; rintro e w' ⟨rfl, rfl⟩) | (go_at_call 131; refine (digit_calls _ _).mono ?_; rintro e w' ⟨rfl, rfl⟩) | (go_at_call 133; refine (quoted_calls _ _ hs h0).mono ?_; rw [HX.out]; rintro e w1 ⟨rfl, hb⟩; obtain ⟨q0, q1, f0, f1, hz, hb0⟩ := new2 hb (by simp); unfold quotedV))
      refine one_ret (k := 2) (n := x.2 + 1) (t := ⟨x.1.toArray⟩) (by rw [HR.out, HX.out]; have h39 := H39.out; simp [OneP, h39]) ((hb0.setCell (Nat.le_refl _) _).setCell (Nat.le_refl _) _) (by go_simp) (by go_simp) rfl rfl rfl
  · have h39 : s[0].toNat ≠ 39 := by simp at b1; omega
    have H39 := Lib.hid h39; clear h39
    cases hx : Sg.quotedL s[0] (s.data.toList.drop 1) with
    | none =>
      have HX := Lib.hid hx; clear hx
      go_enter Tryz.func94, Tryz.ntmps94
      go_wp2_with (first | (go_at_call 124; refine (Tryz.strings_HasPrefix _ _ _).mono ?_; rintro e w' ⟨rfl, rfl⟩) | (go_at_call 128; refine (letter_calls _ _).mono ?_; rintro e w' ⟨rfl, rfl⟩) | (go_at_call 131; refine (digit_calls _ _).mono ?_; rintro e w' ⟨rfl, rfl⟩) | (go_at_call 133; refine (quoted_calls _ _ hs h0).mono ?_; rw [HX.out]; rintro e w1 ⟨rfl, hb⟩; obtain ⟨q0, q1, f0, f1, hz, hb0⟩ := new2 hb (by simp); unfold quotedV))
      refine one_ret (k := 2) (n := -1) (t := ⟨#[]⟩) (by rw [HR.out, HX.out]; exact ⟨_, _, rfl⟩) ((hb0.setCell (Nat.le_refl _) _).setCell (Nat.le_refl _) _) (by go_simp) (by go_simp) rfl rfl rfl
    | some x =>
      have HX := Lib.hid hx; clear hx
      go_enter Tryz.func94, Tryz.ntmps94
      go_wp2_with (first | (go_at_call 124; refine (Tryz.strings_HasPrefix _ _ _).mono ?_; rintro e w' ⟨rfl, rfl⟩) | (go_at_call 128; refine (letter_calls _ _).mono ?_; rintro e w' ⟨rfl, rfl⟩) | (go_at_call 131; refine (digit_calls _ _).mono ?_; rintro e w' ⟨rfl, rfl⟩) | (go_at_call 133; refine (quoted_calls _ _ hs h0).mono ?_; rw [HX.out]; rintro e w1 ⟨rfl, hb⟩; obtain ⟨q0, q1, f0, f1, hz, hb0⟩ := new2 hb (by simp); unfold quotedV))
      refine one_ret (k := 2) (n := x.2 + 1) (t := ⟨x.1.toArray⟩) (by rw [HR.out, HX.out]; have h39 := H39.out; simp [OneP, h39]) ((hb0.setCell (Nat.le_refl _) _).setCell (Nat.le_refl _) _) (by go_simp) (by go_simp) rfl rfl rfl

theorem callFunc_131 (args : Array Value) (w : World) : (callFunc 131 args).run Tryz.prog w = .ok (.enter 131 args) w := by go_simp
theorem callFunc_130 (args : Array Value) (w : World) : (callFunc 130 args).run Tryz.prog w = .ok (.enter 130 args) w := by go_simp

theorem ascii_of_word (c : UInt8) (h : (Sg.letter c || Sg.digit c) = true) : c.toNat < 128 := by
  unfold Sg.letter Sg.digit at h
  simp only [Bool.or_eq_true, Bool.and_eq_true, decide_eq_true_eq, UInt8.le_iff_toNat_le, beq_iff_eq] at h
  rcases h with ((h | h) | h) | h
  · have := h.2; simp at this; omega
  · have := h.2; simp at this; omega
  · subst h; decide
  · have := h.2; simp at this; omega

set_option maxHeartbeats 1000000 in
set_option maxRecDepth 1000000 in
theorem one_word (s : ByteArray) (w : World) (hs : s.size ≤ 1000) (h0 : 0 < s.size) (p1 : Lib.hasPrefix s.data.toList [47, 42, 43] = false)
   (hl : Sg.letter s[0] = true) (r : Option (Sg.Tok × Nat))
   (hr : r = some (⟨1, (s.data.toList.take (Sg.runL (fun c => Sg.letter c || Sg.digit c) s.data.toList)).map Sg.up⟩, Sg.runL (fun c => Sg.letter c || Sg.digit c) s.data.toList)) :
    Calls Tryz.prog 94 #[.string s] w fun e w' => OneP r e ∧ Below w.heap.size w w' := by
  have hle := runL_le (fun c => Sg.letter c || Sg.digit c) s.data.toList
  have hall := fun j hj => runL_all (fun c => Sg.letter c || Sg.digit c) s j hj
  have HC := run_calls 130 (fun c => Sg.letter c || Sg.digit c) callFunc_130 one1_calls s (by unfold maxLen; omega)
  generalize Sg.runL (fun c => Sg.letter c || Sg.digit c) s.data.toList = k at *
  have HCH := Lib.hid HC; clear HC
  have hle2 : k ≤ s.size := by simpa using hle
  clear hle
  have HR := Lib.hid hr; clear hr
  have hsz : (s.extract 0 k).size = k := by simp [ByteArray.size_extract]; omega
  have hasc : ∀ j, (h : j < (s.extract 0 k).size) → (s.extract 0 k)[j].toNat < 128 := by
    intro j h
    have h1 := hall j (by omega) (by omega)
    have h2 : (s.extract 0 k)[j] = s[j]'(by omega) := by simp [ByteArray.getElem_extract]
    rw [h2]
    exact ascii_of_word _ h1
  have HG := Lib.hid (fun w => great_calls (s.extract 0 k) w (by omega) hasc)
  clear hall hasc hsz
  have HX : Hid ((s.extract 0 k).data.toList = s.data.toList.take k) := ext_take s k
  go_enter Tryz.func94, Tryz.ntmps94
  go_wp2_with (first | (go_at_call 124; refine (Tryz.strings_HasPrefix _ _ _).mono ?_; rintro e w' ⟨rfl, rfl⟩) | (go_at_call 128; refine (letter_calls _ _).mono ?_; rintro e w' ⟨rfl, rfl⟩) | (go_at_call 131; refine (digit_calls _ _).mono ?_; rintro e w' ⟨rfl, rfl⟩) | (go_at_call 129; refine (HCH.out _).mono ?_; rintro e w' ⟨rfl, rfl⟩) | (go_at_call 132; refine (HG.out _).mono ?_; rw [HX.out]; rintro e w1 ⟨rfl, hb⟩; obtain ⟨q0, q1, f0, f1, hz, hb0⟩ := new2 hb (by simp)))
  refine one_ret (k := 1) (n := k) ?_ ((hb0.setCell (Nat.le_refl _) _).setCell (Nat.le_refl _) _) (by go_simp) (by go_simp; rfl) rfl rfl rfl
  rw [HR.out]; simp [OneP]

set_option maxHeartbeats 1000000 in
set_option maxRecDepth 1000000 in
theorem one_num (s : ByteArray) (w : World) (hs : s.size ≤ 1000) (h0 : 0 < s.size) (p1 : Lib.hasPrefix s.data.toList [47, 42, 43] = false)
   (hl : Sg.letter s[0] = false) (hd : Sg.digit s[0] = true) (r : Option (Sg.Tok × Nat))
   (hr : r = some (⟨4, s.data.toList.take (Sg.runL Sg.digit s.data.toList)⟩, Sg.runL Sg.digit s.data.toList)) :
    Calls Tryz.prog 94 #[.string s] w fun e w' => OneP r e ∧ Below w.heap.size w w' := by
  have hle := runL_le Sg.digit s.data.toList
  have HC := run_calls 131 Sg.digit callFunc_131 digit_calls s (by unfold maxLen; omega)
  generalize Sg.runL Sg.digit s.data.toList = k at *
  have HCH := Lib.hid HC; clear HC
  have hle2 : k ≤ s.size := by simpa using hle
  clear hle
  have HR := Lib.hid hr; clear hr
  have HX : Hid ((s.extract 0 k) = ⟨(s.data.toList.take k).toArray⟩) := ba_of _ _ (ext_take s k)
  go_enter Tryz.func94, Tryz.ntmps94
  go_wp2_with (first | (go_at_call 124; refine (Tryz.strings_HasPrefix _ _ _).mono ?_; rintro e w' ⟨rfl, rfl⟩) | (go_at_call 128; refine (letter_calls _ _).mono ?_; rintro e w' ⟨rfl, rfl⟩) | (go_at_call 131; refine (digit_calls _ _).mono ?_; rintro e w' ⟨rfl, rfl⟩) | (go_at_call 129; refine (HCH.out _).mono ?_; rintro e w' ⟨rfl, rfl⟩))
  refine one_ret (k := 4) (n := k) ?_ ((Below.refl _ _).alloc (Nat.le_refl _) _) (by simp) (by simp; rfl) rfl rfl rfl
  rw [HR.out, HX.out]; rfl

end Go.Proofs.YtpaioaljopjpkaaGreatDoor
