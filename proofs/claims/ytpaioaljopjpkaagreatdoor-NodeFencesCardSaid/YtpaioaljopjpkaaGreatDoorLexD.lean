/- The walk of lex.one at a hint, all of lex.one, and lex.Lex: the tokens of a text are those that the plain function lexL tells. Conditions: none but Go's own of a string's size. -/
import Derived.Test.YtpaioaljopjpkaaGreatDoorLexC
import Derived.Test.YtpaioaljopjpkaaGreatDoorSpecB
import Derived.Lib.TrimByte
namespace Go.Proofs.YtpaioaljopjpkaaGreatDoor
open Go.RowKit

set_option maxHeartbeats 1000000 in
set_option maxRecDepth 1000000 in
theorem one_hint (s : ByteArray) (m : Int) (w : World) (hs : s.size ≤ 1000) (h0 : 0 < s.size) (hm : w.cell? ⟨0, 0, none⟩ = some (.int .i64 m)) (p1 : Lib.hasPrefix s.data.toList [47, 42, 43] = true)
   (r : Option (Sg.Tok × Nat))
   (hr : r = if (Lib.cut (s.data.toList.drop 3) [42, 47]).2.2 then some (⟨5, Lib.trimS (Lib.cut (s.data.toList.drop 3) [42, 47]).1 [32, 9, 10, 13]⟩, 3 + (Lib.cut (s.data.toList.drop 3) [42, 47]).1.length + 2) else none) :
    Calls Tryz.prog 94 #[.string s] w fun e w' => OneP r e ∧ Below w.heap.size w w' := by
  have h3 : 3 ≤ s.size := by have := prefix_len _ _ p1; simpa using this
  have hw0 : 0 < w.heap.size := World.block_lt_of_cell? w _ hm
  have HE : Hid ((s.extract 3 s.size).data.toList = s.data.toList.drop 3) := ext_drop s 3
  have hlc : (Lib.cut (s.data.toList.drop 3) [42, 47]).1.length ≤ 1000 := by
    unfold Lib.cut; split <;> simp <;> omega
  generalize hx : Lib.cut (s.data.toList.drop 3) [42, 47] = x at *
  have HX := Lib.hid hx; clear hx
  obtain ⟨x1, x2, x3⟩ := x
  simp only at hr hlc
  have hA : (w.alloc (.cells #[.int .i64 0, .string ⟨#[]⟩] 148)).cell? ⟨0, 0, none⟩ = some (.int .i64 m) := by rw [World.cell?_alloc_past _ _ _ hw0]; exact hm
  have HR := Lib.hid hr; clear hr
  have HA := Lib.hid hA; clear hA
  cases x3 with
  | false =>
    go_enter Tryz.func94, Tryz.ntmps94
    go_wp2_with (first | (go_at_call 124; refine (Tryz.strings_HasPrefix _ _ _).mono ?_; rintro e w' ⟨rfl, rfl⟩) | (go_at_call 128; refine (letter_calls _ _).mono ?_; rintro e w' ⟨rfl, rfl⟩) | (go_at_call 131; refine (digit_calls _ _).mono ?_; rintro e w' ⟨rfl, rfl⟩) | (go_at_call 126; go_must (refine (Tryz.strings_Cut _ _ m _ (by rw [ext_size]; omega) HA.out).mono ?_; rw [HE.out, HX.out]; rintro e w1 ⟨rfl, n, hn⟩; have hb : Below (w.heap.size + 1) (w.alloc (.cells #[.int .i64 0, .string ⟨#[]⟩] 148)) w1 := (by rw [hn]; exact below_drewN (Below.refl _ _) n); clear hn; obtain ⟨q0, q1, f0, f1, hz, hb0⟩ := new2 hb (by omega))))
    refine one_ret (k := 0) (n := -1) ?_ ((hb0.setCell (Nat.le_refl _) _).setCell (Nat.le_refl _) _) (by go_simp) (by go_simp; rfl) rfl rfl rfl
    rw [HR.out]; exact ⟨_, _, rfl⟩
  | true =>
    have HT : Hid (∀ w : World, Calls Tryz.prog 127 #[.string ⟨x1.toArray⟩, .string ⟨#[32, 9, 10, 13]⟩] w fun e w' => e = .returned (.string ⟨(Lib.trimS x1 [32, 9, 10, 13]).toArray⟩) ∧ Below w.heap.size w w') :=
      fun w => Any.strings_Trim_laid Tryz.lays160 (by kernel_rfl) (⟨x1.toArray⟩ : ByteArray) (⟨#[32, 9, 10, 13]⟩ : ByteArray) w (by show x1.toArray.size ≤ _; simp; omega) (by decide) (ascii_of_all (by decide))
    go_enter Tryz.func94, Tryz.ntmps94
    go_wp2_with (first | (go_at_call 124; refine (Tryz.strings_HasPrefix _ _ _).mono ?_; rintro e w' ⟨rfl, rfl⟩) | (go_at_call 128; refine (letter_calls _ _).mono ?_; rintro e w' ⟨rfl, rfl⟩) | (go_at_call 131; refine (digit_calls _ _).mono ?_; rintro e w' ⟨rfl, rfl⟩) | (go_at_call 126; go_must (refine (Tryz.strings_Cut _ _ m _ (by rw [ext_size]; omega) HA.out).mono ?_; rw [HE.out, HX.out]; rintro e w1 ⟨rfl, n, hn⟩; have hb : Below (w.heap.size + 1) (w.alloc (.cells #[.int .i64 0, .string ⟨#[]⟩] 148)) w1 := (by rw [hn]; exact below_drewN (Below.refl _ _) n); clear hn; obtain ⟨q0, q1, f0, f1, hz, hb0⟩ := new2 hb (by omega))) | (go_at_call 127; go_must (refine (HT.out _).mono ?_; rintro e w2 ⟨rfl, hc⟩; clear q0 q1 f0 f1; obtain ⟨q0, q1, f0, f1, hz2, hb2⟩ := new2 (hb.trans (hc.mono hz)) (by omega))))
    refine one_ret (k := 5) (n := 3 + x1.length + 2) ?_ ((hb2.setCell (Nat.le_refl _) _).setCell (Nat.le_refl _) _) (by go_simp) (by go_simp; rfl) rfl rfl rfl
    rw [HR.out]; rfl

theorem byte_is (c : UInt8) (n : Nat) (h : n < 256) : c.toNat = n ↔ c = UInt8.ofNat n := by
  rw [← UInt8.toNat_inj, UInt8.toNat_ofNat', Nat.mod_eq_of_lt h]

theorem one_calls (s : ByteArray) (m : Int) (w : World) (hs : s.size ≤ 1000) (h0 : 0 < s.size) (hm : w.cell? ⟨0, 0, none⟩ = some (.int .i64 m)) :
    Calls Tryz.prog 94 #[.string s] w fun e w' => OneP (Sg.oneL s.data.toList) e ∧ Below w.heap.size w w' := by
  have hd := head_at s h0
  have HO : Sg.oneL s.data.toList = Sg.oneC s[0] (s.data.toList.drop 1) := by rw [hd]; rfl
  rw [HO]
  unfold Sg.oneC
  rw [← hd]
  unfold Sg.hintsL Sg.closesL Sg.blanksL
  by_cases p1 : Lib.hasPrefix s.data.toList [47, 42, 43] = true
  · rw [if_pos p1]; exact one_hint s m w hs h0 hm p1 _ rfl
  · rw [if_neg p1]
    have p1' : Lib.hasPrefix s.data.toList [47, 42, 43] = false := by simpa using p1
    by_cases hl : Sg.letter s[0] = true
    · rw [if_pos hl]; exact one_word s w hs h0 p1' hl _ rfl
    · rw [if_neg hl]
      have hl' : Sg.letter s[0] = false := by simpa using hl
      by_cases hg : Sg.digit s[0] = true
      · rw [if_pos hg]; exact one_num s w hs h0 p1' hl' hg _ rfl
      · rw [if_neg hg]
        have hg' : Sg.digit s[0] = false := by simpa using hg
        have e39 : s[0].toNat = 39 ↔ s[0] = 39 := byte_is _ 39 (by decide)
        have e34 : s[0].toNat = 34 ↔ s[0] = 34 := byte_is _ 34 (by decide)
        have e96 : s[0].toNat = 96 ↔ s[0] = 96 := byte_is _ 96 (by decide)
        by_cases hq : s[0] = 39 ∨ s[0] = 34 ∨ s[0] = 96
        · rw [if_pos hq]
          exact one_quote s w hs h0 p1' hl' hg' (by rw [e39, e34, e96]; exact hq) _ (by simp only [e39])
        · rw [if_neg hq]
          exact one_sign s w hs h0 p1' hl' hg' (fun h => hq (.inl (e39.1 h))) (fun h => hq (.inr (.inl (e34.1 h)))) (fun h => hq (.inr (.inr (e96.1 h)))) _ rfl

def tokCells (l : List Sg.Tok) : List Value := l.flatMap fun t => [.int .i64 t.kind, .string ⟨t.text.toArray⟩]

def LexP (B : Nat) (r : Option (List Sg.Tok)) (n : Nat) (e : Ending) (w' : World) : Prop :=
  match r with
  | some l => ∃ v, e = .returned (.tuple #[v, .int .i64 0]) ∧ w'.ownsRow B 148 2 v l.length (tokCells l)
  | none => e = .returned (.tuple #[.slice none 0 0, .int .i64 (if n > 200 then 4 else 2)])

theorem Tryz.info148 : (Tryz.prog.info? 148).map (fun i => (i.zero, i.size, i.bytes)) = some (some (.agg #[.int .i64 0, .string ⟨#[]⟩]), 2, 24) := by kernel_rfl

theorem lexN_nil (k : Nat) : Sg.lexN k [] = some [] := by cases k <;> rfl
theorem lexN_mono : ∀ (k k' : Nat) (s : Sg.B), s.length ≤ k → k ≤ k' → Sg.lexN k' s = Sg.lexN k s
  | k, k', [], _, _ => by rw [lexN_nil, lexN_nil]
  | 0, k', c :: r, h, _ => by simp at h
  | k + 1, 0, c :: r, _, h => by omega
  | k + 1, k' + 1, c :: r, h, hk => by
    simp only [List.length_cons] at h
    unfold Sg.lexN
    have ih := fun s h => lexN_mono k k' s h (by omega)
    by_cases hb : Lib.indexByte Sg.blanksL c ≥ 0
    · rw [if_pos hb, if_pos hb, ih r (by omega)]
    · rw [if_neg hb, if_neg hb]
      simp only
      by_cases hn : Sg.remarkL (c :: r) < 0
      · rw [if_pos hn, if_pos hn]
      · rw [if_neg hn, if_neg hn]
        by_cases hz : Sg.remarkL (c :: r) = 0
        · rw [if_pos hz, if_pos hz]
          cases ho : Sg.oneL (c :: r) with
          | none => rfl
          | some x =>
            have := Sg.oneC_le c r x ho
            simp only
            rw [ih _ (by simp only [List.length_drop, List.length_cons]; omega)]
        · rw [if_neg hz, if_neg hz, ih _ (by simp only [List.length_drop, List.length_cons]; omega)]

/-- what the tokens of a rest come to: lexN with rounds enough. -/
def rest (t : Sg.B) : Option (List Sg.Tok) := Sg.lexN t.length t
theorem rest_nil : rest [] = some [] := rfl
theorem rest_cons (c : UInt8) (r : Sg.B) : rest (c :: r) =
    if Lib.indexByte Sg.blanksL c ≥ 0 then rest r
    else if Sg.remarkL (c :: r) < 0 then none
    else if Sg.remarkL (c :: r) = 0 then
      match Sg.oneL (c :: r) with
      | none => none
      | some x => (rest ((c :: r).drop x.2)).map (x.1 :: ·)
    else rest ((c :: r).drop (Sg.remarkL (c :: r)).toNat) := by
  unfold rest
  rw [List.length_cons]
  conv => lhs; unfold Sg.lexN
  by_cases hb : Lib.indexByte Sg.blanksL c ≥ 0
  · rw [if_pos hb, if_pos hb]
  · rw [if_neg hb, if_neg hb]
    simp only
    by_cases hn : Sg.remarkL (c :: r) < 0
    · rw [if_pos hn, if_pos hn]
    · rw [if_neg hn, if_neg hn]
      by_cases hz : Sg.remarkL (c :: r) = 0
      · rw [if_pos hz, if_pos hz]
        cases ho : Sg.oneL (c :: r) with
        | none => rfl
        | some x =>
          have := Sg.oneC_le c r x ho
          simp only
          rw [lexN_mono _ r.length _ (Nat.le_refl _) (by simp only [List.length_drop, List.length_cons]; omega)]
      · rw [if_neg hz, if_neg hz, lexN_mono _ r.length _ (Nat.le_refl _) (by simp only [List.length_drop, List.length_cons]; omega)]

theorem own_below {w w1 : World} {base e size n B : Nat} {v : Value} {xs : List Value} (h : w.ownsRow base e size v n xs) (hb : Below B w w1) (hB : w.heap.size ≤ B) : w1.ownsRow base e size v n xs :=
  h.kept (row := none) ⟨hb.os, hb.tape, hb.output, hb.size, fun k hk _ => hb.block k (by omega)⟩ (by cases v.ownBlock <;> simp)
theorem own_set {w : World} {base e size n : Nat} {v : Value} {xs : List Value} (h : w.ownsRow base e size v n xs) {a : Addr} (hne : v.ownBlock ≠ some a.block) (u : Value) : (w.setCell a u).ownsRow base e size v n xs :=
  h.kept (row := some a.block) ⟨rfl, rfl, rfl, by simp [World.setCell], fun k _ hk => Below.heap_setCell _ _ _ _ (fun e => hk (by rw [e]))⟩ (.inr hne)
theorem own_ne {w : World} {base e size n g : Nat} {v : Value} {xs : List Value} (h : w.ownsRow base e size v n xs) (hg : w.heap.size ≤ g) : v.ownBlock ≠ some g := fun e => by
  have := (h.lt g e).2
  omega

theorem new_two (w : World) (x y : Value) (T g : Nat) (hg : w.heap.size = g) : ∀ j u, [x, y][j]? = some u → (w.alloc (.cells #[x, y] T)).cell? ((⟨g, 0, none⟩ : Addr).add j) = some u := by
  subst hg
  intro j u h
  have hadd : (⟨w.heap.size, 0, none⟩ : Addr).add j = ⟨w.heap.size, j, none⟩ := by unfold Addr.add; split <;> simp_all
  rw [hadd]
  match j, h with
  | 0, h => simp at h; subst h; simp
  | 1, h => simp at h; subst h; simp
theorem one_two (k : IntKind) (n : Int) (x : ByteArray) : ∀ u ∈ [Value.int k n, .string x], u.oneCell' = true := by
  intro u hu; simp at hu; rcases hu with rfl | rfl <;> rfl
theorem set_size (w : World) (a b : Addr) (x y : Value) : ((w.setCell a x).setCell b y).heap.size = w.heap.size := by simp [World.setCell]

def LRel (s t : ByteArray) (acc : List Sg.Tok) : Prop := Sg.lexN s.data.toList.length s.data.toList = (rest t.data.toList).map (acc ++ ·)

set_option maxHeartbeats 2000000 in
set_option maxRecDepth 1000000 in
theorem lex_calls (s : ByteArray) (m : Int) (w : World) (hs : s.size ≤ maxLen) (hm : w.cell? ⟨0, 0, none⟩ = some (.int .i64 m)) :
    Calls Tryz.prog 61 #[.string s] w fun e w' => LexP w.heap.size (Sg.lexL s.data.toList) s.size e w' ∧ Below w.heap.size w w' := by
  unfold maxLen at hs
  by_cases hbig : 200 < s.size
  · have HF : Hid (Sg.lexL s.data.toList = none) := by
      unfold Hid Sg.lexL; rw [if_pos (by simpa using hbig)]
    go_enter Tryz.func61, Tryz.ntmps61
    go_wp2
    go_step3
    go_wp2
    rw [Exit.noGoto_ret]
    go_ret2
    rw [HF.out]
    exact ⟨by simp [LexP, hbig], Below.refl _ _⟩
  · have hsz : s.size ≤ 200 := by omega
    have HF : Hid (Sg.lexL s.data.toList = Sg.lexN s.data.toList.length s.data.toList) := by
      unfold Hid Sg.lexL; rw [if_neg (by simpa using hsz)]
    have hb2 : decide (200 < s.size) = false := by simpa using hsz
    clear hbig
    go_enter Tryz.func61, Tryz.ntmps61
    go_wp2
    go_step3
    go_wp2
    go_step3
    go_wp2
    go_loopg [0, 4] s.size (fun n v0 v4 wr => ∃ (t : ByteArray) (acc : List Sg.Tok), v0 = .string t ∧ n = t.size ∧ t.size ≤ s.size ∧ acc.length + t.size ≤ s.size ∧ wr.ownsRow w.heap.size 148 2 v4 acc.length (tokCells acc) ∧ Below w.heap.size w wr ∧ LRel s t acc)
    case atStart =>
      exact ⟨s, [], rfl, rfl, Nat.le_refl _, by simp, World.ownsRow_nil _ _ _ _, Below.refl _ _, by unfold LRel rest; simp⟩
    case round =>
      obtain ⟨t, acc, rfl, rfl, ht, hac, hown, hbw, hrel⟩ := hrel
      have HR := Lib.hid hrel; clear hrel
      have hw0 : 0 < w.heap.size := World.block_lt_of_cell? w _ hm
      have hmr : wr.cell? ⟨0, 0, none⟩ = some (.int .i64 m) := (hbw.cell (p := ⟨0, 0, none⟩) hw0).trans hm
      have hzr := hbw.size
      by_cases h0 : t.size = 0
      · have hne : t.toList.isEmpty = true := by rw [Lib.toList_data]; have h1 : t.data.toList.length = t.size := (by simp); rw [h0] at h1; simpa using List.eq_nil_of_length_eq_zero h1
        have hfin : Sg.lexL s.data.toList = some acc := by
          have h1 : t.data.toList = [] := List.eq_nil_of_length_eq_zero (by simpa using h0)
          have := HR.out; unfold LRel at this; rw [HF.out, this, h1, rest_nil]; simp
        have HFIN := Lib.hid hfin; clear hfin
        go_wp2
        rw [Exit.noGoto_ret]
        go_ret2
        rw [HFIN.out]
        exact ⟨⟨_, rfl, hown⟩, hbw⟩
      · have hlt : 0 < t.size := by omega
        have hne : t.toList.isEmpty = false := by rw [Lib.toList_data, head_at t hlt]; rfl
        have hd := head_at t hlt
        have HB : Hid (∀ w, Calls Tryz.prog 92 #[.string ⟨#[32, 9, 10, 13]⟩, .int .u8 (t[0].toNat : Int)] w fun e w' => e = .returned (.int .i64 (Lib.indexByte Sg.blanksL t[0])) ∧ w' = w) := fun w => by
          have := Tryz.strings_IndexByte ⟨#[32, 9, 10, 13]⟩ (t[0].toNat : Int) w
          simpa [Sg.blanksL] using this
        have hrc := rest_cons t[0] (t.data.toList.drop 1)
        rw [← hd] at hrc
        have hrl := Sg.remarkL_le t.data.toList
        have htl : t.data.toList.length = t.size := by simp
        have HREM := Lib.hid (fun w hm => remark_calls t m w (by omega) hm)
        have HONE := Lib.hid (fun w hm => one_calls t m w (by omega) hlt hm)
        generalize Lib.indexByte Sg.blanksL t[0] = bI at *
        generalize Sg.remarkL t.data.toList = rm at *
        rw [htl] at hrl
        clear htl
        have HRC := Lib.hid hrc; clear hrc
        have HD := Lib.hid hd; clear hd
        by_cases hb : 0 ≤ bI
        · go_wp2_with (first | (go_at_call 92; refine (HB.out _).mono ?_; rintro e w' ⟨rfl, rfl⟩))
          go_roundg (t.size - 1)
          case measure => omega
          case rel =>
            refine ⟨t.extract 1 t.size, acc, rfl, by rw [ext_size], by rw [ext_size]; omega, by rw [ext_size]; omega, hown, hbw, ?_⟩
            have := HR.out; unfold LRel at this ⊢
            rw [this, HRC.out, if_pos hb, ext_drop]
        · have hb' : bI < 0 := by omega
          clear hb
          by_cases hr0 : rm < 0
          · go_wp2_with (first | (go_at_call 92; refine (HB.out _).mono ?_; rintro e w' ⟨rfl, rfl⟩) | (go_at_call 93; refine (HREM.out _ hmr).mono ?_; rintro e w' ⟨rfl, rfl⟩))
            rw [Exit.noGoto_ret]
            go_ret2
            have hfin : Sg.lexL s.data.toList = none := by
              have := HR.out; unfold LRel at this; rw [HF.out, this, HRC.out, if_neg (by omega), if_pos hr0]; rfl
            rw [hfin]
            refine ⟨?_, hbw⟩
            simp only [LexP]
            rw [if_neg (by omega)]; rfl
          · by_cases hrz : rm = 0
            · subst hrz
              obtain ⟨i0, hi, hz0, hz1, hz2⟩ := info_parts Tryz.info148
              have hmr2 : (wr.alloc (.cells #[.int .i64 0, .string ⟨#[]⟩] 148)).cell? ⟨0, 0, none⟩ = some (.int .i64 m) := by rw [World.cell?_alloc_past _ _ _ (by show 0 < wr.heap.size; omega)]; exact hmr
              have HM2 := Lib.hid hmr2; clear hmr2
              cases hone : Sg.oneL t.data.toList with
              | none =>
                have HN := Lib.hid hone; clear hone
                go_wp2_with (first | (go_at_call 92; refine (HB.out _).mono ?_; rintro e w' ⟨rfl, rfl⟩) | (go_at_call 93; refine (HREM.out _ hmr).mono ?_; rintro e w' ⟨rfl, rfl⟩) | (go_at_call 94; go_must (refine (HONE.out _ HM2.out).mono ?_; rw [HN.out]; rintro e w1 ⟨⟨k, x, rfl⟩, hb1⟩; obtain ⟨q0, q1, f0, f1, hz, hb2⟩ := new2 hb1 (by simp); have hown1 := own_below hown hb2 (Nat.le_refl _))) | (at_builtin; go_must (refine wpList_append_own _ rfl _ _ 143 rfl w.heap.size 148 i0 _ 2 24 Tryz.underlying143 hi hz0 hz1 hz2 rfl (by decide) _ _ _ rfl ((own_set (own_set hown1 (own_ne hown (Nat.le_refl _)) _) (own_ne hown (Nat.le_refl _)) _).alloc _) ⟨w1.heap.size, 0, none⟩ 1 1 [.int .i64 k, .string x] rfl rfl (new_two _ _ _ _ _ (set_size ..)) (one_two _ _ _) (by unfold maxLen; omega) (by omega) (by simp; omega) ?_; intro v' w2 hown2 hg _; have hbig := (((hbw.trans (hb2.mono hzr)).setCell (p := ⟨_, 0, none⟩) hzr (.int .i64 k)).setCell (p := ⟨_, 1, none⟩) hzr (.string x)).alloc (by rw [set_size]; omega) (.cells #[.int .i64 k, .string x] 148))))
                have hbw2 := hbig.grown hg (by simp; omega) (fun k hk => (hown.lt k hk).1)
                rw [Exit.noGoto_ret]
                go_ret2
                have hfin : Sg.lexL s.data.toList = none := by
                  have := HR.out; unfold LRel at this; rw [HF.out, this, HRC.out, if_neg (by omega), HN.out]; rfl
                rw [hfin]
                refine ⟨?_, hbw2⟩
                simp only [LexP]
                rw [if_neg (by omega)]; rfl
              | some x =>
                obtain ⟨⟨kd, tx⟩, n⟩ := x
                have hle : n ≤ t.size ∧ 1 ≤ n := by
                  have h1 := hone
                  rw [HD.out] at h1
                  have h2 := Sg.oneC_le _ _ _ h1
                  have h3 := congrArg List.length HD.out
                  simp only [List.length_cons, Array.length_toList] at h2 h3
                  exact ⟨by have : t.data.size = t.size := rfl; omega, h2.2.1⟩
                obtain ⟨hn1, hn2⟩ := hle
                have HN := Lib.hid hone; clear hone
                go_wp2_with (first | (go_at_call 92; refine (HB.out _).mono ?_; rintro e w' ⟨rfl, rfl⟩) | (go_at_call 93; refine (HREM.out _ hmr).mono ?_; rintro e w' ⟨rfl, rfl⟩) | (go_at_call 94; go_must (refine (HONE.out _ HM2.out).mono ?_; rw [HN.out]; rintro e w1 ⟨rfl, hb1⟩; obtain ⟨q0, q1, f0, f1, hz, hb2⟩ := new2 hb1 (by simp); have hown1 := own_below hown hb2 (Nat.le_refl _))) | (at_builtin; go_must (refine wpList_append_own _ rfl _ _ 143 rfl w.heap.size 148 i0 _ 2 24 Tryz.underlying143 hi hz0 hz1 hz2 rfl (by decide) _ _ _ rfl ((own_set (own_set hown1 (own_ne hown (Nat.le_refl _)) _) (own_ne hown (Nat.le_refl _)) _).alloc _) ⟨w1.heap.size, 0, none⟩ 1 1 [.int .i64 kd, .string ⟨tx.toArray⟩] rfl rfl (new_two _ _ _ _ _ (set_size ..)) (one_two _ _ _) (by unfold maxLen; omega) (by omega) (by simp; omega) ?_; intro v' w2 hown2 hg _; have hbig := (((hbw.trans (hb2.mono hzr)).setCell (p := ⟨_, 0, none⟩) hzr (.int .i64 kd)).setCell (p := ⟨_, 1, none⟩) hzr (.string ⟨tx.toArray⟩)).alloc (by rw [set_size]; omega) (.cells #[.int .i64 kd, .string ⟨tx.toArray⟩] 148))))
                have hbw2 := hbig.grown hg (by simp; omega) (fun k hk => (hown.lt k hk).1)
                go_roundg (t.size - n)
                case measure => omega
                case rel =>
                  refine ⟨t.extract n t.size, acc ++ [⟨kd, tx⟩], rfl, by rw [ext_size], by rw [ext_size]; omega, by rw [ext_size]; simp; omega, ?_, hbw2, ?_⟩
                  · have e : tokCells (acc ++ [⟨kd, tx⟩]) = tokCells acc ++ [.int .i64 kd, .string ⟨tx.toArray⟩] := by simp [tokCells]
                    rw [e]
                    simpa using hown2
                  · have := HR.out; unfold LRel at this ⊢
                    rw [this, HRC.out, if_neg (by omega), HN.out, ext_drop]
                    rw [if_neg (by omega)]
                    simp only [if_true, Option.map_map]
                    congr 1; funext l; show acc ++ (_ :: l) = (acc ++ [_]) ++ l; rw [List.append_assoc]; rfl
            · obtain ⟨r, rfl⟩ : ∃ r : Nat, rm = (r : Int) := ⟨rm.toNat, by omega⟩
              have hr1 : 0 < r := by omega
              have hr2 : r ≤ t.size := by omega
              have hre : ((r : Int) == 0) = false := by simp; omega
              clear hrz hr0 hrl
              go_wp2_with (first | (go_at_call 92; refine (HB.out _).mono ?_; rintro e w' ⟨rfl, rfl⟩) | (go_at_call 93; refine (HREM.out _ hmr).mono ?_; rintro e w' ⟨rfl, rfl⟩))
              go_roundg (t.size - r)
              case measure => omega
              case rel =>
                refine ⟨t.extract r t.size, acc, rfl, by rw [ext_size], by rw [ext_size]; omega, by rw [ext_size]; omega, hown, hbw, ?_⟩
                have := HR.out; unfold LRel at this ⊢
                rw [this, HRC.out, if_neg (by omega), if_neg (by omega), if_neg (by omega), ext_drop, Int.toNat_natCast]

end Go.Proofs.YtpaioaljopjpkaaGreatDoor
