/- (*Classer).Class: the class of a text is the plain function clsL's. Conditions: none but Go's own of a string's size. -/
import Derived.Test.YtpaioaljopjpkaaGreatDoorClsJ
set_option linter.unusedVariables false
set_option linter.unusedSimpArgs false
namespace Go.Proofs.YtpaioaljopjpkaaGreatDoor
open Go.RowKit

theorem lexN_len : ∀ (k : Nat) (s : Sg.B) (l : List Sg.Tok), Sg.lexN k s = some l → l.length ≤ s.length
  | k, [], l, h => by rw [lexN_nil] at h; cases h; simp
  | 0, c :: r, l, h => by simp [Sg.lexN] at h
  | k + 1, c :: r, l, h => by
    unfold Sg.lexN at h
    by_cases hb : Lib.indexByte Sg.blanksL c ≥ 0
    · rw [if_pos hb] at h
      have := lexN_len k r l h
      simp; omega
    · rw [if_neg hb] at h
      simp only at h
      by_cases hn : Sg.remarkL (c :: r) < 0
      · rw [if_pos hn] at h; cases h
      · rw [if_neg hn] at h
        by_cases hz : Sg.remarkL (c :: r) = 0
        · rw [if_pos hz] at h
          cases ho : Sg.oneL (c :: r) with
          | none => rw [ho] at h; cases h
          | some x =>
            rw [ho] at h
            simp only at h
            obtain ⟨l', h1, rfl⟩ := Option.map_eq_some_iff.1 h
            have h2 := lexN_len k _ l' h1
            have h3 := Sg.oneC_le c r x ho
            rw [List.length_drop, List.length_cons] at h2
            rw [List.length_cons, List.length_cons]
            omega
        · rw [if_neg hz] at h
          have h2 := lexN_len k _ l h
          rw [List.length_drop] at h2
          omega
theorem lexL_len {s : Sg.B} {l : List Sg.Tok} (h : Sg.lexL s = some l) : l.length ≤ 200 := by
  unfold Sg.lexL at h
  split at h
  · cases h
  · have := lexN_len _ _ _ h
    omega

theorem trim_sign (l : List Sg.Tok) (m : Nat) (t : Sg.Tok) (h : l[m]? = some t) (ht : isSign t = true) : trimSigns (l.take (m + 1)) = trimSigns (l.take m) := by
  obtain ⟨hm, rfl⟩ := List.getElem?_eq_some_iff.1 h
  unfold trimSigns
  rw [List.take_succ_eq_append_getElem hm, List.reverse_append]
  simp only [List.reverse_cons, List.reverse_nil, List.nil_append, List.cons_append]
  rw [List.dropWhile_cons_of_pos ht]
theorem trim_other (l : List Sg.Tok) (m : Nat) (t : Sg.Tok) (h : l[m]? = some t) (ht : isSign t = false) : trimSigns (l.take (m + 1)) = l.take (m + 1) := by
  obtain ⟨hm, rfl⟩ := List.getElem?_eq_some_iff.1 h
  unfold trimSigns
  rw [List.take_succ_eq_append_getElem hm, List.reverse_append]
  simp only [List.reverse_cons, List.reverse_nil, List.nil_append, List.cons_append]
  rw [List.dropWhile_cons_of_neg (by simp [ht])]
  simp
theorem TokAt.front {w : World} {a : Option Addr} {n c m : Nat} {l : List Sg.Tok} (h : TokAt w (.slice a n c) (l.take (m + 1))) (hm : m < l.length) : TokAt w (.slice a m c) (l.take m) := by
  obtain ⟨a', c', he, h1, h2, h3⟩ := h
  cases he
  have e1 : (l.take (m + 1)).length = m + 1 := by simp; omega
  have e2 : (l.take m).length = m := by simp; omega
  refine ⟨a, c, by rw [e2], by omega, h2, fun h0 => ?_⟩
  obtain ⟨g, off, cur, T, fz, ha, hg, hc⟩ := h3 (by omega)
  refine ⟨g, off, cur, T, fz, ha, hg, fun i t ht => hc i t ?_⟩
  have hi := (List.getElem?_eq_some_iff.1 ht).1
  rw [List.getElem?_take_of_lt (by omega)] at ht ⊢
  exact ht

set_option maxRecDepth 100000 in
set_option maxHeartbeats 4000000 in
theorem class_calls (c : Nat) (mo : Option Nat) (s : ByteArray) (m : Int) (w : World) (hc : ClsAt w c mo) (hs : s.size ≤ maxLen) (hm : w.cell? ⟨0, 0, none⟩ = some (.int .i64 m)) :
    Calls Tryz.prog 18 #[.pointer (some ⟨c, 0, none⟩), .string s] w (TokPost c mo w (clsL s.data.toList)) := by
  have HLEX := Lib.hid (lex_calls s m w hs hm)
  have HC := Lib.hid hc; clear hc
  cases hl : Sg.lexL s.data.toList with
  | none =>
    have HR : Hid (clsL s.data.toList = 0) := by unfold Hid clsL; rw [hl]
    rw [hl] at HLEX
    rw [HR.out]
    have he : ((if s.size > 200 then (4 : Int) else 2) != 0) = true := by split <;> rfl
    unfold LexP at HLEX
    simp only at HLEX
    generalize (if s.size > 200 then (4 : Int) else 2) = n at *
    go_enter Tryz.func18, Tryz.ntmps18
    go_wp2_with (go_at_call 61; refine HLEX.out.mono ?_; rintro e w1 ⟨rfl, hb1⟩)
    go_ret
    exact ⟨rfl, mo, HC.out.below hb1 (Nat.le_refl _), Keeps.of_new hb1 _, .inl rfl⟩
  | some l =>
    have hlen := lexL_len hl
    have HR : Hid (clsL s.data.toList = tokF 1001 (trimSigns (l.filter fun t => !((t.kind : Int) == 5)))) := by unfold Hid clsL; rw [hl]; rfl
    rw [hl] at HLEX
    rw [HR.out]
    unfold LexP at HLEX
    simp only at HLEX
    have hflen : (l.filter fun t => !((t.kind : Int) == 5)).length ≤ 200 := Nat.le_trans (List.length_filter_le _ _) hlen
    have HDEL := Lib.hid (fun v B w hown hB => deleteFunc_calls v l B w hown hB)
    generalize (l.filter fun t => !((t.kind : Int) == 5)) = lf at *
    go_enter Tryz.func18, Tryz.ntmps18
    go_wp2_with (first | (go_at_call 61; refine HLEX.out.mono ?_; rintro e w1 ⟨⟨v1, rfl, hown⟩, hb1⟩; have hz := hb1.size) | (go_at_call 62; refine (HDEL.out _ w.heap.size _ hown hz).mono ?_; rintro e w2 ⟨v2, rfl, ht2, hb2⟩))
    have HB2 := Lib.hid (hb1.trans hb2)
    have HT2 := Lib.hid ht2
    clear ht2 hb2 hb1 hown hl
    go_loopg [5] lf.length (fun n v5 wr => ∃ m : Nat, m = n ∧ m ≤ lf.length ∧ TokAt wr v5 (lf.take m) ∧ Below w.heap.size w wr ∧ Hid (trimSigns (lf.take m) = trimSigns lf))
    case atStart => exact ⟨lf.length, rfl, Nat.le_refl _, by rw [List.take_length]; exact HT2.out, HB2.out, Lib.hid (by rw [List.take_length])⟩
    case round =>
      obtain ⟨m, hmn, hm3, ht, hbw, HA⟩ := hrel; subst hmn; clear hm
      have HBW := Lib.hid hbw
      have HTT := Lib.hid (fun (l2 : List Sg.Tok) (v : Value) (wr : World) (hb : Below w.heap.size w wr) (hlen : l2.length ≤ 200) (ht : TokAt wr v l2) => tokens_said 1001 l2 (by omega) (by omega) c mo v wr (HC.out.below hb (Nat.le_refl _)) ht)
      rcases m with _ | m
      · obtain ⟨a, c2, he, _⟩ := id ht
        subst he
        have HT3 := Lib.hid ht
        clear ht hbw
        have hR : trimSigns lf = [] := by rw [← HA.out]; rfl
        rw [List.take_zero] at HT3
        go_wp2_with (first | (go_at_call 65; refine (HTT.out [] _ _ HBW.out (by simp) HT3.out).mono ?_; rintro e w3 ⟨rfl, mo3, h31, h32, h33⟩))
        go_ret
        exact ⟨by rw [hR]; rfl, mo3, h31, (Keeps.of_new HBW.out _).trans h32, h33.elim .inl fun ⟨mb, h1, h2, h3⟩ => .inr ⟨mb, h1, h2, Nat.le_trans HBW.out.size h3⟩⟩
      · obtain ⟨t, htm⟩ : ∃ t, lf[m]? = some t := ⟨lf[m], List.getElem?_eq_getElem (by omega)⟩
        have hl2 : (lf.take (m + 1)).length = m + 1 := by simp; omega
        obtain ⟨g1, off, c2, rfl, hc1, hc2, hg1, hcell⟩ := ht.cells (by omega)
        obtain ⟨q0, q1⟩ := hcell m t (by rw [List.getElem?_take_of_lt (by omega)]; exact htm)
        rw [hl2] at ht hc1 ⊢
        unfold maxLen at hc2
        have HT3 := Lib.hid ht
        have HM := Lib.hid htm
        clear ht hbw hcell hl2 htm
        cases hs : isSign t with
        | true =>
          have HSG := Lib.hid (fun w => sign_calls t w)
          rw [hs] at HSG
          have HS := Lib.hid hs
          clear hs
          go_wp2_with (first | (go_at_call 64; refine (HSG.out _).mono ?_; rintro e w3 ⟨rfl, hb3⟩))
          go_roundg m
          case measure => omega
          case rel => exact ⟨m, rfl, by omega, (HT3.out.below hb3 (Nat.le_refl _)).front (by omega), HBW.out.trans (hb3.mono HBW.out.size), Lib.hid (by rw [← trim_sign lf m t HM.out HS.out]; exact HA.out)⟩
        | false =>
          have HSG := Lib.hid (fun w => sign_calls t w)
          rw [hs] at HSG
          have HS := Lib.hid hs
          clear hs
          have hR : trimSigns lf = lf.take (m + 1) := by rw [← HA.out]; exact trim_other lf m t HM.out HS.out
          go_wp2_with (first | (go_at_call 64; refine (HSG.out _).mono ?_; rintro e w3 ⟨rfl, hb3⟩; have HB3 := Lib.hid (HBW.out.trans (hb3.mono HBW.out.size)); have HT4 := Lib.hid (HT3.out.below hb3 (Nat.le_refl _))) | (go_at_call 65; refine (HTT.out _ _ _ HB3.out (by simp; omega) HT4.out).mono ?_; rintro e w3 ⟨rfl, mo3, h31, h32, h33⟩))
          go_ret
          exact ⟨by rw [hR]; rfl, mo3, h31, (Keeps.of_new HB3.out _).trans h32, h33.elim .inl fun ⟨mb, h1, h2, h3⟩ => .inr ⟨mb, h1, h2, Nat.le_trans HB3.out.size h3⟩⟩
end Go.Proofs.YtpaioaljopjpkaaGreatDoor
