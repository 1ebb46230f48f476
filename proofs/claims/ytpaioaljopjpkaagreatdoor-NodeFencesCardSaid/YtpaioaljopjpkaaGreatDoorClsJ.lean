/- (*Classer).tokens: the class of tokens is the plain function tokF's. Conditions: at most 1000 tokens. -/
import Derived.Test.YtpaioaljopjpkaaGreatDoorClsI
set_option linter.unusedVariables false
set_option linter.unusedSimpArgs false
namespace Go.Proofs.YtpaioaljopjpkaaGreatDoor
open Go.RowKit

theorem ClsAt.ne {w : World} {c g o : Nat} {mo : Option Nat} {n : Int} (h : ClsAt w c mo) (q : w.cell? ⟨g, o, none⟩ = some (.int .i64 n)) : g ≠ c := by
  intro e
  subst e
  cases mo with
  | none =>
    have h' : w.heap[g]? = _ := h
    simp only [World.cell?, h'] at q
    rcases o with _ | _ | _ | _ | o <;> simp at q
  | some mb =>
    simp only [World.cell?, h.1] at q
    rcases o with _ | _ | _ | _ | o <;> simp at q

theorem callFunc_rules (args : Array Value) (w : World) : (callFunc 136 args).run Tryz.prog w = .ok (.enter 136 args) w ∧ (callFunc 137 args).run Tryz.prog w = .ok (.enter 137 args) w ∧ (callFunc 138 args).run Tryz.prog w = .ok (.enter 138 args) w ∧
    (callFunc 140 args).run Tryz.prog w = .ok (.enter 140 args) w ∧ (callFunc 142 args).run Tryz.prog w = .ok (.enter 142 args) w ∧ (callFunc 171 args).run Tryz.prog w = .ok (.enter 171 args) w ∧ (callFunc 172 args).run Tryz.prog w = .ok (.enter 172 args) w := by
  refine ⟨?_, ?_, ?_, ?_, ?_, ?_, ?_⟩ <;> go_simp

/-- a rule's value, called. -/
theorem rule_calls (k : Nat) (l : List Sg.Tok) (hll : l.length ≤ 1000) (ih : 2 ≤ l.length → TokSaid k (l.drop 2)) (r : Rule) (rv : Value) (c : Nat) (mo : Option Nat) (v : Value) (w : World)
    (hr : RuleV w r rv) (hc : ClsAt w c mo) (hl : TokAt w v l) :
    ∃ f cap, rv = .func (.func f) #[] cap ∧ (∀ args w, (callFunc f args).run Tryz.prog w = .ok (.enter f args) w) ∧ Calls Tryz.prog f (#[.pointer (some ⟨c, 0, none⟩), v] ++ cap) w (TokPost c mo w (runRule (tokF k) l r)) := by
  have post : ∀ {n m : Int}, n = m → ∀ e w', (e = .returned (.int .i64 n) ∧ Below w.heap.size w w') → TokPost c mo w m e w' := fun hnm e w' h => ⟨by rw [h.1, hnm], mo, hc.below h.2 (Nat.le_refl _), Keeps.of_new h.2 _, .inl rfl⟩
  cases r with
  | explain => exact ⟨136, #[], hr, fun a w => (callFunc_rules a w).1, explain_of k l hll ih c mo v w hc hl⟩
  | begin => exact ⟨137, #[], hr, fun a w => (callFunc_rules a w).2.1, (begin_calls _ v l w hl).mono (post rfl)⟩
  | start => exact ⟨138, #[], hr, fun a w => (callFunc_rules a w).2.2.1, (start_calls _ v l w hl).mono (post rfl)⟩
  | set => exact ⟨140, #[], hr, fun a w => (callFunc_rules a w).2.2.2.1, (set_calls _ v l w hl).mono (post rfl)⟩
  | asks => exact ⟨142, #[], hr, fun a w => (callFunc_rules a w).2.2.2.2.1, (asks_calls _ v l w hl hll).mono (post rfl)⟩
  | ends n =>
    obtain ⟨b, h1, h2⟩ := hr
    exact ⟨171, _, h1, fun a w => (callFunc_rules a w).2.2.2.2.2.1, (ends1_calls _ v l b n w hl (by simp [World.cell?, h2])).mono (post rfl)⟩
  | always n =>
    obtain ⟨b, h1, h2⟩ := hr
    exact ⟨172, _, h1, fun a w => (callFunc_rules a w).2.2.2.2.2.2, (always1_calls _ v b n w (by simp [World.cell?, h2])).mono (post rfl)⟩

theorem later_of {w : World} {mo : Option Nat} {mb : Nat} (h : mo = some mb ∨ (mo = none ∧ w.heap.size ≤ mb)) : Later w mo (some mb) := by
  rcases h with rfl | ⟨rfl, h⟩
  · exact .inl rfl
  · exact .inr ⟨mb, rfl, rfl, h⟩
theorem TokAt.kept {w w1 : World} {l : List Sg.Tok} {g off n c2 c : Nat} (h : TokAt w (.slice (some ⟨g, off, none⟩) n c2) l) (hk : Keeps (· = c) w w1) (hgc : g ≠ c) : TokAt w1 (.slice (some ⟨g, off, none⟩) n c2) l := by
  obtain ⟨a, c', he, h1, h2, h3⟩ := h
  cases he
  refine ⟨_, c2, rfl, h1, h2, fun h0 => ?_⟩
  obtain ⟨g', off', cur, T, fz, ha, hg, hc⟩ := h3 h0
  cases ha
  exact ⟨g, off, cur, T, fz, rfl, by rw [hk.block g (Array.getElem?_eq_some_iff.1 hg).1 hgc]; exact hg, hc⟩

theorem keeps_drewN {m : Nat → Prop} {w w' : World} {n : Nat} (h : Keeps m (w.drewN n) w') : Keeps m w w' := ⟨h.os, h.tape, h.output, h.size, h.block⟩

def LookOk (w : World) (mb : Nat) (x : Sg.B) : Option Rule → Prop
  | none => (Instr.lookup 130 (.map (some mb)) (.string (ba x)) true).run Tryz.prog w = .ok (.tuple #[.nilFunc, .bool false]) w
  | some r => ∃ rv, (Instr.lookup 130 (.map (some mb)) (.string (ba x)) true).run Tryz.prog w = .ok (.tuple #[rv, .bool true]) w ∧ RuleV w r rv
theorem look_rule {w : World} {c mb : Nat} (h : ClsAt w c (some mb)) (x : Sg.B) : LookOk w mb x (ruleOf x) := by
  obtain ⟨_, es, ck, h2, h3⟩ := h
  have hz : (zeroValue 189).run Tryz.prog w = .ok .nilFunc w := by kernel_rfl
  cases hr : ruleOf x with
  | none =>
    have := run_lookup_miss (P := Tryz.prog) (t := 130) Tryz.underlying130 Tryz.underlying9 (fun e => checkKey_string Tryz.underlying9 e (ba x)) h2 (h3.new x (ruleOf_none hr)) hz true
    simpa [LookOk] using this
  | some r =>
    obtain ⟨h4, h5⟩ := ruleOf_some hr
    obtain ⟨i, rv, h6, h7⟩ := h3.look x r h4 h5
    have := run_lookup_hit (P := Tryz.prog) (t := 130) Tryz.underlying130 Tryz.underlying9 (fun e => checkKey_string Tryz.underlying9 e (ba x)) h2 h6 true
    exact ⟨rv, by simpa using this, h7⟩

set_option maxRecDepth 100000 in
set_option maxHeartbeats 4000000 in
theorem tokens_step (k : Nat) (t : Sg.Tok) (r : List Sg.Tok) (hll : (t :: r).length ≤ 1000) (ih : 2 ≤ (t :: r).length → TokSaid k ((t :: r).drop 2)) : TokSaid (k + 1) (t :: r) := by
  intro c mo v w hc hl
  obtain ⟨l, hle⟩ : ∃ l, l = t :: r := ⟨_, rfl⟩
  have h0 : l[0]? = some t := by rw [hle]; rfl
  have hlen : 0 < l.length := by rw [hle]; simp
  have HT : Hid (tokF (k + 1) l = if t.kind ≠ 1 then 7 else if l.any isSign = true then 7 else match ruleOf t.text with | none => 7 | some ru => runRule (tokF k) l ru) := by rw [hle]; rfl
  rw [← hle] at hll ih hl ⊢
  clear hle
  rw [HT.out]
  have HCF := Lib.hid (containsFunc_calls v l w hl)
  obtain ⟨g, off, c2, rfl, h1, h2, h3, h4⟩ := hl.cells hlen
  obtain ⟨q0, q1⟩ := h4 0 t h0
  rw [Nat.zero_mul, Nat.add_zero] at q0 q1
  have hgc := hc.ne q0
  clear h4 h0
  unfold maxLen at h2
  have b0 : ((l.length : Int) == 0) = false := by rw [beq_eq_false_iff_ne]; omega
  by_cases hk : t.kind = 1
  · rw [if_neg (by simpa using hk)]
    have bk : ((t.kind : Int) != 1) = false := by rw [hk]; rfl
    by_cases hs : l.any isSign = true
    · rw [if_pos hs]
      rw [hs] at HCF
      have HC := Lib.hid hc
      clear hc hl ih hk hs HT
      go_enter Tryz.func65, Tryz.ntmps65
      go_wp2_with (first | (go_at_call 96; refine HCF.out.mono ?_; rintro e w1 ⟨rfl, hb1⟩))
      go_ret
      exact ⟨rfl, mo, HC.out.below hb1 (Nat.le_refl _), Keeps.of_new hb1 _, .inl rfl⟩
    · have hs' : l.any isSign = false := by simpa using hs
      rw [if_neg hs]
      rw [hs'] at HCF
      have HB := Lib.hid (fun w1 (h : ClsAt w1 c mo) => begins_calls c mo w1 h)
      have HC := Lib.hid hc
      have HL := Lib.hid hl
      obtain ⟨x, hx⟩ : ∃ x, x = ruleOf t.text := ⟨_, rfl⟩
      rw [← hx]
      have HX := Lib.hid hx
      have HIH := Lib.hid ih
      clear hc hl ih hk hs hs' HT hx
      cases x with
      | none =>
        go_enter Tryz.func65, Tryz.ntmps65
        go_wp2_with (first | (go_at_call 96; refine HCF.out.mono ?_; rintro e w1 ⟨rfl, hb1⟩; have p1 := (hb1.cell (p := ⟨g, off + 1, none⟩) h3).trans q1; have hz := hb1.size; have HC1 := Lib.hid (HC.out.below hb1 (Nat.le_refl _))))
        go_region_held3 (fun w'' => w''.cell? ⟨g, off + 1, none⟩ = some (.string ⟨t.text.toArray⟩))
          (go_keep)
          ((go_at_call 97; refine (HB.out _ (HC1.out.below (below_drewN (Below.refl _ _) 1) (Nat.le_refl _))).mono ?_; rintro e w2 ⟨mb, rfl, hc2, hk2', hl2⟩; have hk2 := keeps_drewN hk2'; clear hk2'; have hlk := look_rule hc2 t.text; rw [← HX.out] at hlk; unfold LookOk ba at hlk; have p2 := (hk2.cell (p := ⟨g, off + 1, none⟩) (by show g < w1.heap.size; omega) hgc).trans p1; have HC2 := Lib.hid hc2; clear hc2))
        go_wp2
        go_ret
        exact ⟨rfl, some mb, HC2.out, (Keeps.of_new hb1 _).then hk2 fun i _ e => e, (show Later w mo mo from .inl rfl).trans (later_of hl2) hz⟩
      | some ru =>
        have HRC := Lib.hid (fun mb v w rv (hr : RuleV w ru rv) (hc : ClsAt w c (some mb)) (hl : TokAt w v l) => rule_calls k l hll HIH.out ru rv c (some mb) v w hr hc hl)
        go_enter Tryz.func65, Tryz.ntmps65
        go_wp2_with (first | (go_at_call 96; refine HCF.out.mono ?_; rintro e w1 ⟨rfl, hb1⟩; have p1 := (hb1.cell (p := ⟨g, off + 1, none⟩) h3).trans q1; have hz := hb1.size; have HC1 := Lib.hid (HC.out.below hb1 (Nat.le_refl _)); have HL1 := Lib.hid (HL.out.below hb1 (Nat.le_refl _))))
        go_region_held3 (fun w'' => w''.cell? ⟨g, off + 1, none⟩ = some (.string ⟨t.text.toArray⟩))
          (go_keep)
          ((go_at_call 97; refine (HB.out _ (HC1.out.below (below_drewN (Below.refl _ _) 1) (Nat.le_refl _))).mono ?_; rintro e w2 ⟨mb, rfl, hc2, hk2', hl2⟩; have hk2 := keeps_drewN hk2'; clear hk2'; have hlk := look_rule hc2 t.text; rw [← HX.out] at hlk; unfold LookOk ba at hlk; obtain ⟨rv, hlk, hrv⟩ := hlk; have p2 := (hk2.cell (p := ⟨g, off + 1, none⟩) (by show g < w1.heap.size; omega) hgc).trans p1; have HL2 := Lib.hid (HL1.out.kept hk2 hgc); obtain ⟨f, cap, hrv2, hcf, hcall⟩ := HRC.out mb _ w2 rv hrv hc2 HL2.out; subst hrv2; have HCALL := Lib.hid hcall; clear hcall hrv; have HC2 := Lib.hid hc2; clear hc2))
        go_wp2_with fail
        refine HCALL.out.mono ?_
        rintro e w3 ⟨rfl, mo3, h31, h32, h33⟩
        go_wp2
        go_ret
        exact ⟨rfl, mo3, h31, ((Keeps.of_new hb1 (· = c)).then hk2 fun i _ e => e).then h32 fun i _ e => e, ((show Later w mo mo from .inl rfl).trans (later_of hl2) hz).trans h33 (Nat.le_trans hz hk2.size)⟩
  · rw [if_pos (by simpa using hk)]
    have bk : ((t.kind : Int) != 1) = true := by rw [bne_iff_ne]; omega
    have HC := Lib.hid hc
    clear hc hl ih hk HT
    go_enter Tryz.func65, Tryz.ntmps65
    go_wp2
    go_ret
    exact ⟨rfl, mo, HC.out, Keeps.refl _ _, .inl rfl⟩

set_option maxRecDepth 100000 in
theorem tokens_nil (k : Nat) : TokSaid (k + 1) [] := by
  intro c mo v w hc hl
  have HC := Lib.hid hc
  obtain ⟨a, c2, rfl, _⟩ := hl
  clear hc
  show Calls _ _ _ _ (TokPost c mo w 7)
  go_enter Tryz.func65, Tryz.ntmps65
  go_wp2
  go_ret
  exact ⟨rfl, mo, HC.out, Keeps.refl _ _, .inl rfl⟩

theorem tokens_said : ∀ (k : Nat) (l : List Sg.Tok), l.length < k → l.length ≤ 1000 → TokSaid k l
  | 0, l, h, _ => absurd h (by omega)
  | k + 1, [], _, _ => tokens_nil k
  | k + 1, t :: r, h, hl => tokens_step k t r hl fun h2 => tokens_said k _ (by simp at h h2 ⊢; omega) (by simp at hl h2 ⊢; omega)

/-- the tokens without the signs at their end. -/
def trimSigns (l : List Sg.Tok) : List Sg.Tok := (l.reverse.dropWhile isSign).reverse
def clsTok (l : List Sg.Tok) : Int := tokF 1001 (trimSigns (l.filter fun t => !((t.kind : Int) == 5)))
def clsL (s : Sg.B) : Int :=
  match Sg.lexL s with
  | none => 0
  | some l => clsTok l
end Go.Proofs.YtpaioaljopjpkaaGreatDoor
