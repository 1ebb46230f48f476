/- plan.Of: what a text's statement does (the walk of its first loop). Conditions: none but Go's own of a string's size. -/
import Derived.Test.YtpaioaljopjpkaaGreatDoorPlanR
import Derived.Deep.AppendLies
import Derived.Deep.RegionHeldLaw
import Derived.Maps.AppendAt
set_option linter.unusedVariables false
set_option linter.unusedSimpArgs false
namespace Go.Proofs.YtpaioaljopjpkaaGreatDoor
open Go.RowKit

theorem wordsL_take (l : List Sg.Tok) (k : Nat) (t : Sg.Tok) (h : l[k]? = some t) : wordsL (l.take (k + 1)) = wordsL (l.take k) ++ wordOf t := by
  rw [List.take_add_one, h]; simp [wordsL]
theorem strsL_take (l : List Sg.Tok) (k : Nat) (t : Sg.Tok) (h : l[k]? = some t) : strsL (l.take (k + 1)) = strsL (l.take k) ++ strOf t := by
  rw [List.take_add_one, h]; simp [strsL]
theorem wordOf_len (t : Sg.Tok) : (wordOf t).length ≤ 1 := by
  unfold wordOf
  split
  · simp
  · split
    · simp
    · split
      · simp
      · split <;> simp
theorem strOf_len (t : Sg.Tok) : (strOf t).length ≤ 1 := by unfold strOf; split <;> simp
theorem wordsL_len (l : List Sg.Tok) : (wordsL l).length ≤ l.length := by
  induction l with
  | nil => simp [wordsL]
  | cons x l ih => have := wordOf_len x; simp [wordsL] at ih ⊢; omega
theorem strsL_len (l : List Sg.Tok) : (strsL l).length ≤ l.length := by
  induction l with
  | nil => simp [strsL]
  | cons x l ih => have := strOf_len x; simp [strsL] at ih ⊢; omega

theorem own_old {w w' : World} {B e size n : Nat} {v : Value} {xs : List Value} (h : w.ownsRow B e size v n xs) (hb : ∀ k, k < w.heap.size → w'.heap[k]? = w.heap[k]?) : w'.ownsRow B e size v n xs := by
  refine ⟨h.1, ?_⟩
  rcases h.2 with h0 | ⟨g, cap, cur, h1, h2, hg, h3⟩
  · exact .inl h0
  · exact .inr ⟨g, cap, cur, h1, h2, by rw [hb g (Array.getElem?_eq_some_iff.1 hg).1]; exact hg, h3⟩
theorem alloc_heap (w : World) (o : Obj) : (w.alloc o).heap = w.heap.push o := rfl
theorem drew_heap (w : World) : w.drew.heap = w.heap := rfl
theorem push_old {h : Array Obj} {o : Obj} {k : Nat} {x : Option Obj} (hk : k < h.size) (e : h[k]? = x) : (h.push o)[k]? = x := by
  rw [Array.getElem?_push, if_neg (by omega)]; exact e
def OfRel (w wr : World) (l : List Sg.Tok) (k : Nat) (v5 v6 : Value) : Prop :=
  OwnS wr w.heap.size v5 (wordsL (l.take k)) ∧ OwnS wr w.heap.size v6 (strsL (l.take k)) ∧ Apart v5 v6 ∧ Apart v6 v5 ∧ Below w.heap.size w wr

/-- a word more. -/
theorem OfRel.word {w wr w1 : World} {l : List Sg.Tok} {k : Nat} {v5 v6 v' : Value} {t : Sg.Tok} {x : Sg.B} (h : OfRel w wr l k v5 v6) (ht : l[k]? = some t) (hw : wordOf t = [x]) (hs : strOf t = [])
    (hb : Below wr.heap.size wr w1) {w2 : World} (hown : w2.ownsRow w.heap.size 9 1 v' ((wordsL (l.take k)).length + 1) (strCells (wordsL (l.take k)) ++ [.string (ba x)])) (hg : w1.grownBy w2 v5.ownBlock) (hat : v'.ownBlock = v5.ownBlock ∨ v'.ownBlock = some w1.heap.size) : OfRel w w2 l (k + 1) v' v6 := by
  obtain ⟨h5, h6, a1, a2, hb0⟩ := h
  have h6' : w1.ownsRow w.heap.size 9 1 v6 _ _ := own_below h6 hb (Nat.le_refl _)
  refine ⟨?_, ?_, ?_, ?_, ?_⟩
  · rw [wordsL_take l k t ht, hw]; unfold OwnS; rw [strCells_append, List.length_append]; exact hown
  · rw [strsL_take l k t ht, hs, List.append_nil]
    exact h6'.kept hg a2
  · rcases hat with h | h
    · unfold Apart; rw [h]; exact a1
    · right; rw [h]; intro e; have := (h6'.lt _ e.symm).2; omega
  · rcases hat with h | h
    · unfold Apart; rw [h]; exact a2
    · by_cases hn : v6.ownBlock = none
      · exact .inl hn
      · right; rw [h]; intro e; have := (h6'.lt _ e).2; omega
  · exact (hb0.trans (hb.mono hb0.size)).grown hg (Nat.le_trans hb0.size hb.size) (fun k hk => (h5.lt k hk).1)
theorem OfRel.skip {w wr w1 : World} {l : List Sg.Tok} {k : Nat} {v5 v6 : Value} {t : Sg.Tok} (h : OfRel w wr l k v5 v6) (ht : l[k]? = some t) (hw : wordOf t = []) (hs : strOf t = [])
    (hb : Below wr.heap.size wr w1) : OfRel w w1 l (k + 1) v5 v6 := by
  obtain ⟨h5, h6, a1, a2, hb0⟩ := h
  refine ⟨?_, ?_, a1, a2, hb0.trans (hb.mono hb0.size)⟩
  · rw [wordsL_take l k t ht, hw, List.append_nil]; exact own_below h5 hb (Nat.le_refl _)
  · rw [strsL_take l k t ht, hs, List.append_nil]; exact own_below h6 hb (Nat.le_refl _)

theorem OfRel.str {w wr w1 w2 : World} {l : List Sg.Tok} {k : Nat} {v5 v6 v5' v6' : Value} {t : Sg.Tok} {x y : Sg.B} (h : OfRel w wr l k v5 v6) (ht : l[k]? = some t) (hw : wordOf t = [x]) (hs : strOf t = [y])
    (hb : Below wr.heap.size wr w1) (h5 : OwnS w2 w.heap.size v5' (wordsL (l.take k) ++ [x])) (h6 : OwnS w2 w.heap.size v6' (strsL (l.take k) ++ [y])) (hne : v5'.ownBlock ≠ v6'.ownBlock)
    (hk : Keeps (fun k => v5.ownBlock = some k ∨ v6.ownBlock = some k) w1 w2) : OfRel w w2 l (k + 1) v5' v6' := by
  obtain ⟨o5, o6, a1, a2, hb0⟩ := h
  refine ⟨?_, ?_, .inr hne, .inr (fun e => hne e.symm), ?_⟩
  · rw [wordsL_take l k t ht, hw]; exact h5
  · rw [strsL_take l k t ht, hs]; exact h6
  · have hb1 := hb0.trans (hb.mono hb0.size)
    exact hb1.trans (hk.below w.heap.size hb1.size fun i hi hm => hm.elim (fun e => by have := (o5.lt i e).1; omega) (fun e => by have := (o6.lt i e).1; omega))
theorem one_new (w : World) (x : Value) (T g : Nat) (hg : w.heap.size = g) : ∀ j u, [x][j]? = some u → (w.alloc (.cells #[x] T)).cell? ((⟨g, 0, none⟩ : Addr).add j) = some u := by
  subst hg
  exact new_cells w [x] T
theorem ba_toList (x : Sg.B) : (ba x).toList = x := by rw [Lib.toList_data]; rfl
theorem trimSemi_hit (l : List Sg.B) (m : Nat) (h : l[m]? = some semi) : trimSemi (l.take (m + 1)) = trimSemi (l.take m) := by
  obtain ⟨hm, he⟩ := List.getElem?_eq_some_iff.1 h
  unfold trimSemi
  rw [List.take_succ_eq_append_getElem hm, List.reverse_append, he]
  simp only [List.reverse_cons, List.reverse_nil, List.nil_append, List.cons_append]
  rw [List.dropWhile_cons_of_pos (by simp)]
theorem trimSemi_other (l : List Sg.B) (m : Nat) (t : Sg.B) (h : l[m]? = some t) (ht : t ≠ semi) : trimSemi (l.take (m + 1)) = l.take (m + 1) := by
  obtain ⟨hm, rfl⟩ := List.getElem?_eq_some_iff.1 h
  unfold trimSemi
  rw [List.take_succ_eq_append_getElem hm, List.reverse_append]
  simp only [List.reverse_cons, List.reverse_nil, List.nil_append, List.cons_append]
  rw [List.dropWhile_cons_of_neg (by simp [ht])]
  simp
theorem StrRow.front {w : World} {a : Option Addr} {n c m : Nat} {l : List Sg.B} (h : StrRow w (.slice a n c) (l.take n)) (hn : n ≤ l.length) (hm : m ≤ n) : StrRow w (.slice a m c) (l.take m) := by
  have e : (l.take n).length = n := by rw [List.length_take]; omega
  have e2 : (l.take m).length = m := by rw [List.length_take]; omega
  unfold StrRow at h ⊢
  rw [e] at h
  have := rowAt_prefix h hm (by rw [strCells, List.length_map, e])
  rw [e2]
  have e3 : strCells (l.take m) = (strCells (l.take n)).take m := by rw [strCells, strCells, ← List.map_take, List.take_take, Nat.min_eq_left hm]
  rw [e3]; exact this
def FormOk (k : Nat) (ss : List Sg.B) (r : Pn) : Prop :=
  match k with
  | 0 => ∃ x, ss[0]? = some x ∧ r = ⟨1, x, []⟩
  | 1 => r = ⟨2, [], []⟩
  | 2 => ∃ x y, ss[0]? = some x ∧ ss[1]? = some y ∧ r = ⟨3, x, y⟩
  | 3 => ∃ x y, ss[0]? = some x ∧ ss[1]? = some y ∧ r = ⟨4, y, x⟩
  | _ => ∃ x, ss[0]? = some x ∧ r = ⟨5, x, []⟩
def FormsOk (T : Sg.B) (ss : List Sg.B) (r : Pn) : Prop :=
  match formTexts.findIdx? (· == T) with
  | none => r = ⟨0, [], []⟩
  | some k => FormOk k ss r
def OfPost (w : World) (r : Pn) (e : Ending) (w' : World) : Prop := e = .returned (pnV r) ∧ Below w.heap.size w w'
theorem form_calls (k : Nat) (hk : k < 5) (v : Value) (ss : List Sg.B) (w : World) (hl : StrRow w v ss) (r : Pn) (hr : FormOk k ss r) :
    (∀ (args : Array Value) (w : World), (callFunc (115 + k) args).run Tryz.prog w = .ok (.enter (115 + k) args) w) ∧ Calls Tryz.prog (115 + k) #[v] w fun e w' => e = .returned (pnV r) ∧ Below w.heap.size w w' := by
  have hkc : k = 0 ∨ k = 1 ∨ k = 2 ∨ k = 3 ∨ k = 4 := by omega
  rcases hkc with rfl | rfl | rfl | rfl | rfl
  · obtain ⟨x, hx, rfl⟩ := hr
    exact ⟨fun args w => by go_simp, form1_calls v ss w hl x hx⟩
  · cases (show r = ⟨2, [], []⟩ from hr)
    exact ⟨fun args w => by go_simp, form2_calls v ss w hl⟩
  · obtain ⟨x, y, hx, hy, rfl⟩ := hr
    exact ⟨fun args w => by go_simp, form3_calls v ss w hl x hx y hy⟩
  · obtain ⟨x, y, hx, hy, rfl⟩ := hr
    exact ⟨fun args w => by go_simp, form4_calls v ss w hl x hx y hy⟩
  · obtain ⟨x, hx, rfl⟩ := hr
    exact ⟨fun args w => by go_simp, form5_calls v ss w hl x hx⟩
theorem form_cells (k : Nat) (ft : Sg.B) (h : formTexts[k]? = some ft) : formCells[k * 2]? = some (.string (ba ft)) ∧ formCells[k * 2 + 1]? = some (.func (.func (115 + k)) #[] #[]) := by
  have hk := (List.getElem?_eq_some_iff.1 h).1
  have h5 : formTexts.length = 5 := rfl
  have hkc : k = 0 ∨ k = 1 ∨ k = 2 ∨ k = 3 ∨ k = 4 := by omega
  rcases hkc with rfl | rfl | rfl | rfl | rfl <;> (cases h; exact ⟨rfl, rfl⟩)
theorem forms_hit {ft : Sg.B} {k : Nat} {ss : List Sg.B} {r : Pn} (h : FormsOk ft ss r) (hk : formTexts[k]? = some ft) (hn : ∀ (j : Nat) f, j < k → formTexts[j]? = some f → f ≠ ft) : FormOk k ss r := by
  unfold FormsOk at h
  have : formTexts.findIdx? (· == ft) = some k := by
    rw [List.findIdx?_eq_some_iff_getElem]
    obtain ⟨h1, h2⟩ := List.getElem?_eq_some_iff.1 hk
    refine ⟨h1, by simp [h2], fun j hj => ?_⟩
    have := hn j formTexts[j] hj (List.getElem?_eq_getElem (by omega))
    simpa using this
  rw [this] at h
  exact h
theorem forms_miss {T : Sg.B} {ss : List Sg.B} {r : Pn} (h : FormsOk T ss r) (hn : ∀ (j : Nat) f, j < 5 → formTexts[j]? = some f → f ≠ T) : r = ⟨0, [], []⟩ := by
  unfold FormsOk at h
  have : formTexts.findIdx? (· == T) = none := by
    rw [List.findIdx?_eq_none_iff]
    intro x hx
    obtain ⟨j, hj, rfl⟩ := List.mem_iff_getElem.1 hx
    have h5 : formTexts.length = 5 := rfl
    have := hn j _ (by omega) (List.getElem?_eq_getElem hj)
    simpa using this
  rw [this] at h
  exact h
theorem new3f {w w1 : World} {x y z : Value} {T : TypeId} (hb : Below (w.alloc (.cells #[x, y, z] T)).heap.size (w.alloc (.cells #[x, y, z] T)) w1) :
    w1.frozen? ⟨w.heap.size, 0, none⟩ = false ∧ w1.frozen? ⟨w.heap.size, 1, none⟩ = false ∧ w1.frozen? ⟨w.heap.size, 2, none⟩ = false := by
  have h0 : w.heap.size < (w.alloc (.cells #[x, y, z] T)).heap.size := by simp
  have e : ∀ o, w1.frozen? ⟨w.heap.size, o, none⟩ = false := fun o => by
    rw [hb.frozen (p := ⟨w.heap.size, o, none⟩) h0]
    simp only [World.frozen?, heap_alloc_new]
    simp
  exact ⟨e 0, e 1, e 2⟩
/-- the result's cell of Of, written. -/
theorem of_ret {a : Act} {w w' : World} {r : Pn} (hb : Below w.heap.size w w') (h0 : w'.cell? ⟨w.heap.size, 0, none⟩ = some (.int .i64 r.op)) (h1 : w'.cell? ⟨w.heap.size, 1, none⟩ = some (.string (ba r.key))) (h2 : w'.cell? ⟨w.heap.size, 2, none⟩ = some (.string (ba r.val)))
    (ha : a.tmps.getD 2 undef = .pointer (some ⟨w.heap.size, 0, none⟩)) (hd : a.defers = []) :
    bodyPost Tryz.prog Tryz.f59 (OfPost w r) Exit.ret a w' := by
  refine bodyPost_ret (v := pnV r) ?_ hd ⟨rfl, hb⟩
  simp only [Array.getD_eq_getD_getElem?] at ha
  simp [results, Tryz.results59, go_sem, ha, h0, h1, h2, pnV]
theorem join_row {w : World} {v : Value} {ws : List Sg.B} (h : StrRow w v ws) (hlen : ws.length ≤ 1000) (hj : (Lib.join ws [32]).length ≤ 140737488355328) :
    Calls Tryz.prog 89 #[v, .string ⟨#[32]⟩] w fun e w' => e = .returned (.string (ba (Lib.join ws [32]))) ∧ Below w.heap.size w w' := by
  by_cases h0 : ws.length = 0
  · obtain rfl : ws = [] := List.eq_nil_of_length_eq_zero h0
    obtain ⟨a, c, rfl, _⟩ := h
    refine (Tryz.strings_Join_none a c ⟨#[32]⟩ w).mono ?_
    rintro e w' ⟨rfl, rfl⟩
    exact ⟨rfl, Below.refl _ _⟩
  · obtain ⟨g, off, c, rfl, h1, h2, h3, h4⟩ := h.cell (by omega)
    have e : (ws.map ba).map (·.data.toList) = ws := by
      rw [List.map_map]
      exact (List.map_congr_left (fun x _ => (rfl : ((fun b : ByteArray => b.data.toList) ∘ ba) x = id x))).trans (List.map_id ws)
    have := Tryz.strings_Join g off c (ws.map ba) ⟨#[32]⟩ w (fun j x hx => by
      rw [List.getElem?_map] at hx
      obtain ⟨y, hy, rfl⟩ := Option.map_eq_some_iff.1 hx
      exact h4 j y hy) h3 (by rw [List.length_map]; omega) (by rw [List.length_map]; exact h1) (by rw [e]; exact hj)
    rw [e, List.length_map] at this
    exact this

set_option maxRecDepth 100000 in
set_option maxHeartbeats 8000000 in
theorem of_calls (s : ByteArray) (l : List Sg.Tok) (m : Int) (w : World) (hs : s.size ≤ maxLen) (hm : w.cell? ⟨0, 0, none⟩ = some (.int .i64 m)) (hl : Sg.lexL s.data.toList = some l) (hlen : l.length ≤ 200) (htx : ∀ t ∈ l, t.text.length ≤ 200) (hjl : (Lib.join (trimSemi (wordsL l)) [32]).length ≤ 140737488355328) (r : Pn) (hr : FormsOk (Lib.join (trimSemi (wordsL l)) [32]) (strsL l) r) :
    Calls Tryz.prog 59 #[.string s] w (OfPost w r) := by
  have hbx : Below w.heap.size w (w.alloc (.cells #[.int .i64 0, .string ⟨#[]⟩, .string ⟨#[]⟩] 140)) := (Below.refl _ _).alloc (Nat.le_refl _) _
  have h0 : (0 : Nat) < w.heap.size := World.block_lt_of_cell? w ⟨0, 0, none⟩ hm
  have HM1 := Lib.hid ((hbx.cell (p := ⟨0, 0, none⟩) h0).trans hm)
  have HLEX := Lib.hid (lex_calls s m _ hs HM1.out)
  rw [hl] at HLEX
  unfold LexP at HLEX
  simp only at HLEX
  obtain ⟨i0, hinfo, hz0, hz1, hz2⟩ := info9_parts
  have HBX := Lib.hid hbx
  have HTX := Lib.hid htx
  have HJL := Lib.hid hjl
  have HRES := Lib.hid hr
  clear hl hbx htx hjl hr
  go_enter Tryz.func59, Tryz.ntmps59
  go_wp2_with (go_at_call 61; refine HLEX.out.mono ?_; rintro e w1 ⟨⟨v1, rfl, hown⟩, hb1⟩; have HB1 := Lib.hid (HBX.out.trans (hb1.mono (by simp))); have HT := Lib.hid (own_tokAt hown); obtain ⟨a1, c1, rfl⟩ := own_len hown; have HMW := Lib.hid ((hb1.cell (p := ⟨0, 0, none⟩) (by simp)).trans HM1.out); have HRC := Lib.hid (new3 hb1); have HRF := Lib.hid (new3f hb1); clear hown)
  go_loopg [5, 6, 22] l.length (fun n v5 v6 vi wr => ∃ k : Nat, n + k = l.length ∧ vi = .int .i64 k ∧ OfRel w1 wr l k v5 v6)
  case atStart => exact ⟨0, by omega, rfl, World.ownsRow_nil _ _ _ _, World.ownsRow_nil _ _ _ _, .inl rfl, .inl rfl, Below.refl _ _⟩
  case round =>
    obtain ⟨k, hk, rfl, hrel⟩ := hrel
    have HREL := Lib.hid hrel
    clear hrel
    by_cases hlt : k < l.length
    · obtain ⟨t, ht⟩ : ∃ t, l[k]? = some t := ⟨l[k], List.getElem?_eq_getElem hlt⟩
      obtain ⟨g, off, c, hv, hc1, hc2, hg1, hcell⟩ := HT.out.cells (by omega)
      cases hv
      obtain ⟨q0, q1⟩ := hcell k t ht
      have r0 : wr.cell? ⟨g, off + k * 2, none⟩ = _ := (HREL.out.2.2.2.2.cell (p := ⟨g, off + k * 2, none⟩) hg1).trans q0
      have r1 : wr.cell? ⟨g, off + k * 2 + 1, none⟩ = _ := (HREL.out.2.2.2.2.cell (p := ⟨g, off + k * 2 + 1, none⟩) hg1).trans q1
      have HK := Lib.hid ht
      clear q0 q1 hcell ht
      unfold maxLen at hc2
      have HO := Lib.hid HREL.out.1
      have hwl : (wordsL (l.take k)).length ≤ 200 := Nat.le_trans (wordsL_len _) (by rw [List.length_take]; omega)
      by_cases hk1 : t.kind = 1
      · have b1 : ((t.kind : Int) == 1) = true := by rw [hk1]; rfl
        have HW : Hid (wordOf t = [t.text] ∧ strOf t = []) := by constructor <;> simp [wordOf, strOf, hk1]
        clear hk1
        go_wp2_with (at_builtin; go_must (refine wpList_append_own_at _ rfl _ _ 22 rfl w1.heap.size 9 i0 _ 1 16 Tryz.underlying22 hinfo hz0 hz1 hz2 rfl (by decide) _ _ _ rfl ((HO.out.alloc _).alloc _) ⟨wr.heap.size + 1, 0, none⟩ 1 1 [.string ⟨t.text.toArray⟩] rfl rfl (one_new _ _ _ _ (by simp)) one_str (by unfold maxLen; omega) (by omega) (by have := HREL.out.2.2.2.2.size; simp; omega) ?_; intro v' w2 hown2 hg _ hat))
        go_roundg (l.length - (k + 1))
        case measure => omega
        case rel => exact ⟨k + 1, by omega, by go_num, HREL.out.word HK.out HW.out.1 HW.out.2 ((Below.refl _ _).alloc (Nat.le_refl _) _ |>.alloc (by simp) _) hown2 hg hat⟩
      have b1 : ((t.kind : Int) == 1) = false := by rw [beq_eq_false_iff_ne]; omega
      by_cases hk3 : t.kind = 3
      · have b3 : ((t.kind : Int) == 3) = true := by rw [hk3]; rfl
        have HW : Hid (wordOf t = [[63]] ∧ strOf t = [t.text]) := by constructor <;> simp [wordOf, strOf, hk3]
        have hsl : (strsL (l.take k)).length ≤ 200 := Nat.le_trans (strsL_len _) (by rw [List.length_take]; omega)
        have hwa : Below wr.heap.size wr (wr.alloc (.cells #[.int .i64 t.kind, .string ⟨t.text.toArray⟩] 148)) := (Below.refl _ _).alloc (Nat.le_refl _) _
        have HWA := Lib.hid hwa
        have H5 := Lib.hid HREL.out.1
        have H6 := Lib.hid HREL.out.2.1
        have HR := Lib.hid (region12 w1.heap.size wr.heap.size u5 u6 (wordsL (l.take k)) (strsL (l.take k)) t.text (wr.alloc (.cells #[.int .i64 t.kind, .string ⟨t.text.toArray⟩] 148)))
        clear hk1 hk3 hwa
        go_wp2
        refine HR.out _ ⟨by simp, rfl, by simp only [World.cell?, heap_alloc_new]; rfl, ⟨fun e => by have := (H5.out.lt _ e).2; omega, fun e => by have := (H6.out.lt _ e).2; omega⟩, ⟨HREL.out.2.2.1, HREL.out.2.2.2.1⟩, Nat.le_trans HREL.out.2.2.2.2.size HWA.out.size, by omega, by omega, fun k e => Nat.lt_of_lt_of_le (H5.out.lt _ e).2 HWA.out.size, fun k e => Nat.lt_of_lt_of_le (H6.out.lt _ e).2 HWA.out.size⟩ _ _ rfl rfl (H5.out.alloc _) (H6.out.alloc _) ?_
        rintro f w2 ⟨g5', c5', e5⟩ ⟨g6', c6', e6⟩ o5 o6 hne hkp
        have HE := Lib.hid (HREL.out.str HK.out HW.out.1 HW.out.2 HWA.out o5 o6 hne hkp)
        rw [e5, e6] at HE
        clear o5 o6 hne hkp
        simp only [Act.lay, ks12, List.foldl_cons, List.foldl_nil]
        go_wp2
        go_roundg (l.length - (k + 1))
        case measure => omega
        case rel => exact ⟨k + 1, by omega, by go_num, HE.out⟩
      have b3 : ((t.kind : Int) == 3) = false := by rw [beq_eq_false_iff_ne]; omega
      by_cases hk6 : t.kind = 6
      · have b6 : ((t.kind : Int) == 6) = true := by rw [hk6]; rfl
        have HW : Hid (wordOf t = [Lib.replaceAll t.text [63] [63, 63]] ∧ strOf t = []) := by constructor <;> simp [wordOf, strOf, hk6]
        have hwa : Below wr.heap.size wr (wr.alloc (.cells #[.int .i64 t.kind, .string ⟨t.text.toArray⟩] 148)) := (Below.refl _ _).alloc (Nat.le_refl _) _
        have hm3 := (hwa.cell (p := ⟨0, 0, none⟩) (by show 0 < wr.heap.size; have := HREL.out.2.2.2.2.size; have := HB1.out.size; omega)).trans ((HREL.out.2.2.2.2.cell (p := ⟨0, 0, none⟩) (by show 0 < w1.heap.size; have := HB1.out.size; omega)).trans HMW.out)
        have hts : (⟨t.text.toArray⟩ : ByteArray).size ≤ 200 := by have := HTX.out t (List.mem_of_getElem? HK.out); simpa [ByteArray.size] using this
        have hcnt := Lib.countB_le ⟨#[63]⟩ (by decide) _ ⟨t.text.toArray⟩ (Nat.le_refl _)
        have HRP := Lib.hid (Tryz.strings_ReplaceAll ⟨t.text.toArray⟩ ⟨#[63]⟩ ⟨#[63, 63]⟩ m _ (by omega) hm3 (by decide) (by have : (⟨#[63, 63]⟩ : ByteArray).size = 2 := rfl; rw [this]; omega))
        have HWA := Lib.hid hwa
        clear hk1 hk3 hk6 hm3 hts hcnt hwa
        go_wp2_with (first | (go_at_call 88; go_must (refine HRP.out.mono ?_; rintro e w3 ⟨rfl, hb3⟩; have HB3 := Lib.hid (HWA.out.trans (hb3.mono (by simp))); have HO3 := Lib.hid (own_below HO.out HB3.out (Nat.le_refl _)); have hz3 := Nat.le_trans HREL.out.2.2.2.2.size HB3.out.size)) | (at_builtin; go_must (refine wpList_append_own_at _ rfl _ _ 22 rfl w1.heap.size 9 i0 _ 1 16 Tryz.underlying22 hinfo hz0 hz1 hz2 rfl (by decide) _ _ _ rfl (HO3.out.alloc _) ⟨w3.heap.size, 0, none⟩ 1 1 [.string (ba (Lib.replaceAll t.text [63] [63, 63]))] rfl rfl (one_new _ _ _ _ rfl) one_str (by unfold maxLen; omega) (by omega) (by simp; omega) ?_; intro v' w2 hown2 hg _ hat)))
        go_roundg (l.length - (k + 1))
        case measure => omega
        case rel => exact ⟨k + 1, by omega, by go_num, HREL.out.word HK.out HW.out.1 HW.out.2 (HB3.out.alloc HB3.out.size _) hown2 hg hat⟩
      have b6 : ((t.kind : Int) == 6) = false := by rw [beq_eq_false_iff_ne]; omega
      by_cases hk2 : t.kind = 2
      · have b2 : ((t.kind : Int) == 2) = true := by rw [hk2]; rfl
        have HW : Hid (wordOf t = [[63, 63]] ∧ strOf t = []) := by constructor <;> simp [wordOf, strOf, hk2]
        clear hk1 hk2 hk3 hk6
        go_wp2_with (at_builtin; go_must (refine wpList_append_own_at _ rfl _ _ 22 rfl w1.heap.size 9 i0 _ 1 16 Tryz.underlying22 hinfo hz0 hz1 hz2 rfl (by decide) _ _ _ rfl ((HO.out.alloc _).alloc _) ⟨wr.heap.size + 1, 0, none⟩ 1 1 [.string (ba [63, 63])] rfl rfl (one_new _ _ _ _ (by simp)) one_str (by unfold maxLen; omega) (by omega) (by have := HREL.out.2.2.2.2.size; simp; omega) ?_; intro v' w2 hown2 hg _ hat))
        go_roundg (l.length - (k + 1))
        case measure => omega
        case rel => exact ⟨k + 1, by omega, by go_num, HREL.out.word HK.out HW.out.1 HW.out.2 ((Below.refl _ _).alloc (Nat.le_refl _) _ |>.alloc (by simp) _) hown2 hg hat⟩
      have b2 : ((t.kind : Int) == 2) = false := by rw [beq_eq_false_iff_ne]; omega
      by_cases hk4 : t.kind = 4
      · have b4 : ((t.kind : Int) == 4) = true := by rw [hk4]; rfl
        have HW : Hid (wordOf t = [[63, 63]] ∧ strOf t = []) := by constructor <;> simp [wordOf, strOf, hk4]
        clear hk1 hk2 hk3 hk4 hk6
        go_wp2_with (at_builtin; go_must (refine wpList_append_own_at _ rfl _ _ 22 rfl w1.heap.size 9 i0 _ 1 16 Tryz.underlying22 hinfo hz0 hz1 hz2 rfl (by decide) _ _ _ rfl ((HO.out.alloc _).alloc _) ⟨wr.heap.size + 1, 0, none⟩ 1 1 [.string (ba [63, 63])] rfl rfl (one_new _ _ _ _ (by simp)) one_str (by unfold maxLen; omega) (by omega) (by have := HREL.out.2.2.2.2.size; simp; omega) ?_; intro v' w2 hown2 hg _ hat))
        go_roundg (l.length - (k + 1))
        case measure => omega
        case rel => exact ⟨k + 1, by omega, by go_num, HREL.out.word HK.out HW.out.1 HW.out.2 ((Below.refl _ _).alloc (Nat.le_refl _) _ |>.alloc (by simp) _) hown2 hg hat⟩
      have b4 : ((t.kind : Int) == 4) = false := by rw [beq_eq_false_iff_ne]; omega
      have HW : Hid (wordOf t = [] ∧ strOf t = []) := by constructor <;> simp [wordOf, strOf, hk1, hk2, hk3, hk4, hk6]
      clear hk1 hk2 hk3 hk4 hk6
      go_wp2
      go_roundg (l.length - (k + 1))
      case measure => omega
      case rel => exact ⟨k + 1, by omega, by go_num, HREL.out.skip HK.out HW.out.1 HW.out.2 ((Below.refl _ _).alloc (Nat.le_refl _) _)⟩
    · obtain rfl : k = l.length := by omega
      obtain ⟨h5, h6, -, -, hbw⟩ := HREL.out
      rw [List.take_length] at h5 h6
      have hwl : (wordsL l).length ≤ 200 := Nat.le_trans (wordsL_len _) hlen
      have HR5 := Lib.hid (own_rowAt h5)
      have HR6 := Lib.hid (own_rowAt h6)
      obtain ⟨a5, c5, rfl, hc5, hc6⟩ := own_len2 h5
      have HBW := Lib.hid hbw
      clear h5 h6 hbw HREL
      obtain ⟨ws, hws⟩ : ∃ ws, ws = wordsL l := ⟨_, rfl⟩
      obtain ⟨ss, hss⟩ : ∃ ss, ss = strsL l := ⟨_, rfl⟩
      rw [← hws] at HR5 hwl hc5 HJL HRES ⊢
      rw [← hss] at HR6 HRES
      go_wp2
      go_loopg [5] ws.length (fun n v5 w5 => ∃ m : Nat, m = n ∧ m ≤ ws.length ∧ w5 = wr ∧ StrRow wr v5 (ws.take m) ∧ Hid (trimSemi (ws.take m) = trimSemi ws))
      case atStart => exact ⟨ws.length, rfl, Nat.le_refl _, rfl, by rw [List.take_length]; exact HR5.out, Lib.hid (by rw [List.take_length])⟩
      case round =>
        obtain ⟨m', hmn, hm3, rfl, hr, HA⟩ := hrel
        subst hmn
        rcases m' with _ | m'
        · have hl2 : (ws.take 0).length = 0 := by simp
          have hR : trimSemi ws = ws.take 0 := by rw [← HA.out]; rfl
          obtain ⟨a0, cc0, he, _⟩ := id hr
          rw [hl2] at he
          subst he
          have HRR := Lib.hid hr
          clear hr
          rw [hR] at HJL HRES
          have HJ := Lib.hid (join_row HRR.out (by rw [hl2]; omega) HJL.out)
          obtain ⟨T, hT⟩ : ∃ T, T = Lib.join (ws.take 0) [32] := ⟨_, rfl⟩
          rw [← hT] at HRES HJ
          clear hT HJL
          go_wp2_with (first | (go_at_call 89; refine HJ.out.mono ?_; rintro e w3 ⟨rfl, hb3⟩; have HB3 := Lib.hid hb3) | (go_at_call 90; refine (forms_calls _).mono ?_; rintro e w4 ⟨rfl, rfl⟩))
          clear HJ
          have HB4 : Hid (Below w1.heap.size w1 (w3.alloc (.cells formCells 180))) := (HBW.out.trans (HB3.out.mono HBW.out.size)).alloc (Nat.le_trans HBW.out.size HB3.out.size) _
          have HR4 := Lib.hid (HR6.out.below (HB3.out.alloc HB3.out.size (.cells formCells 180)) (Nat.le_refl _))
          go_loopg [81] 5 (fun n vi wl => ∃ k : Nat, n + k = 5 ∧ vi = .int .i64 k ∧ Below (w3.alloc (.cells formCells 180)).heap.size (w3.alloc (.cells formCells 180)) wl ∧ Hid (∀ (j : Nat) f, j < k → formTexts[j]? = some f → f ≠ T))
          case atStart => exact ⟨0, rfl, rfl, Below.refl _ _, fun j f h => absurd h (by omega)⟩
          case round =>
            obtain ⟨k, hk5, rfl, hbl, HN⟩ := hrel
            have HBL := Lib.hid hbl
            have hfc : ∀ o v, formCells[o]? = some v → wr.cell? ⟨w3.heap.size, o, none⟩ = some v := fun o v ho => by
              rw [hbl.cell (p := ⟨w3.heap.size, o, none⟩) (by simp)]
              simp only [World.cell?, heap_alloc_new]
              exact ho
            by_cases hk : k < 5
            · obtain ⟨ft, hft⟩ : ∃ ft, formTexts[k]? = some ft := ⟨formTexts[k], List.getElem?_eq_getElem hk⟩
              have f0 := hfc _ _ (form_cells k ft hft).1
              have f1 := hfc _ _ (form_cells k ft hft).2
              have HFT := Lib.hid hft
              clear hfc hbl hft
              by_cases heq : ft = T
              · subst heq
                have bs : ((ba ft).toList == (ba ft).toList) = true := by simp
                have hfo := forms_hit HRES.out HFT.out HN.out
                have hbz := HBL.out.alloc HBL.out.size (.cells #[.string (ba ft), .func (.func (115 + k)) #[] #[]] 180)
                have hfcl := form_calls k hk _ ss _ (HR4.out.below hbz (Nat.le_refl _)) r hfo
                have hcf := hfcl.1
                have HFC := Lib.hid hfcl.2
                have HBZ := Lib.hid (HB4.out.trans (hbz.mono HB4.out.size))
                obtain ⟨op, key, val⟩ := r
                unfold pnV at HFC
                clear hfcl hfo hbz
                go_wp2_with fail
                refine HFC.out.mono ?_
                rintro e wz ⟨rfl, hbz2⟩
                have HBZ2 := Lib.hid (HBZ.out.trans (hbz2.mono HBZ.out.size))
                obtain ⟨c0, c1', c2, hz⟩ := HRC.out
                obtain ⟨f0', f1', f2'⟩ := HRF.out
                have z0 := (HBZ2.out.cell (p := ⟨w.heap.size, 0, none⟩) hz).trans c0
                have z1 := (HBZ2.out.cell (p := ⟨w.heap.size, 1, none⟩) hz).trans c1'
                have z2 := (HBZ2.out.cell (p := ⟨w.heap.size, 2, none⟩) hz).trans c2
                have y0 := (HBZ2.out.frozen (p := ⟨w.heap.size, 0, none⟩) hz).trans f0'
                have y1 := (HBZ2.out.frozen (p := ⟨w.heap.size, 1, none⟩) hz).trans f1'
                have y2 := (HBZ2.out.frozen (p := ⟨w.heap.size, 2, none⟩) hz).trans f2'
                clear c0 c1' c2 f0' f1' f2'
                have HBW2 := Lib.hid (HB1.out.trans (HBZ2.out.mono HB1.out.size))
                go_wp2
                exact of_ret (((HBW2.out.setCell (p := ⟨w.heap.size, 0, none⟩) (Nat.le_refl _) _).setCell (p := ⟨w.heap.size, 1, none⟩) (Nat.le_refl _) _).setCell (p := ⟨w.heap.size, 2, none⟩) (Nat.le_refl _) _) (by go_simp) (by go_simp) (by go_simp) rfl rfl
              · have bs : ((ba ft).toList == (ba T).toList) = false := by rw [ba_toList, ba_toList, beq_eq_false_iff_ne]; exact heq
                go_wp2
                go_roundg (5 - (k + 1))
                case measure => omega
                case rel => 
                  refine ⟨k + 1, by omega, by go_num, HBL.out.alloc HBL.out.size _, fun j f hj hf => ?_⟩
                  rcases Nat.lt_succ_iff_lt_or_eq.1 hj with h' | rfl
                  · exact HN.out j f h' hf
                  · have := HFT.out.symm.trans hf; cases this; exact heq
            · have hr0 := forms_miss HRES.out (fun j f hj hf => HN.out j f (by omega) hf)
              subst hr0
              have hk5' : k = 5 := by omega
              subst hk5'
              have HBZ2 := Lib.hid (HB4.out.trans (HBL.out.mono HB4.out.size))
              obtain ⟨c0, c1', c2, hz⟩ := HRC.out
              obtain ⟨f0', f1', f2'⟩ := HRF.out
              have z0 := (HBZ2.out.cell (p := ⟨w.heap.size, 0, none⟩) hz).trans c0
              have z1 := (HBZ2.out.cell (p := ⟨w.heap.size, 1, none⟩) hz).trans c1'
              have z2 := (HBZ2.out.cell (p := ⟨w.heap.size, 2, none⟩) hz).trans c2
              have y0 := (HBZ2.out.frozen (p := ⟨w.heap.size, 0, none⟩) hz).trans f0'
              have y1 := (HBZ2.out.frozen (p := ⟨w.heap.size, 1, none⟩) hz).trans f1'
              have y2 := (HBZ2.out.frozen (p := ⟨w.heap.size, 2, none⟩) hz).trans f2'
              clear c0 c1' c2 f0' f1' f2'
              have HBW2 := Lib.hid (HB1.out.trans (HBZ2.out.mono HB1.out.size))
              go_wp2
              exact of_ret (((HBW2.out.setCell (p := ⟨w.heap.size, 0, none⟩) (Nat.le_refl _) _).setCell (p := ⟨w.heap.size, 1, none⟩) (Nat.le_refl _) _).setCell (p := ⟨w.heap.size, 2, none⟩) (Nat.le_refl _) _) (by first | (go_simp; done) | (go_simp; rfl)) (by first | (go_simp; done) | (go_simp; rfl)) (by first | (go_simp; done) | (go_simp; rfl)) rfl rfl
        · obtain ⟨x, hx⟩ : ∃ x, ws[m']? = some x := ⟨ws[m'], List.getElem?_eq_getElem (by omega)⟩
          have hl2 : (ws.take (m' + 1)).length = m' + 1 := by simp; omega
          obtain ⟨g5, o5, cc5, hv5, hd1, hd2, hg5, hcell5⟩ := hr.cell (by omega)
          have r5 := hcell5 m' x (by rw [List.getElem?_take_of_lt (by omega)]; exact hx)
          rw [hl2] at hv5 hd1
          unfold maxLen at hd2
          subst hv5
          have HX := Lib.hid hx
          have HRR := Lib.hid hr
          clear hcell5 hx hr
          by_cases hsm : x = semi
          · subst hsm
            have bs : ((ba semi).toList == [59]) = true := by rw [ba_toList]; rfl
            go_wp2
            go_roundg m'
            case measure => omega
            case rel => exact ⟨m', rfl, by omega, rfl, HRR.out.front (by omega) (by omega), Lib.hid (by rw [← trimSemi_hit ws m' HX.out]; exact HA.out)⟩
          · have bs : ((ba x).toList == [59]) = false := by rw [ba_toList, beq_eq_false_iff_ne]; exact hsm
            have hR : trimSemi ws = ws.take (m' + 1) := by rw [← HA.out]; exact trimSemi_other ws m' x HX.out hsm
            rw [hR] at HJL HRES
            have HJ := Lib.hid (join_row HRR.out (by rw [hl2]; omega) HJL.out)
            obtain ⟨T, hT⟩ : ∃ T, T = Lib.join (ws.take (m' + 1)) [32] := ⟨_, rfl⟩
            rw [← hT] at HRES HJ
            clear hT HJL
            go_wp2_with (first | (go_at_call 89; refine HJ.out.mono ?_; rintro e w3 ⟨rfl, hb3⟩; have HB3 := Lib.hid hb3) | (go_at_call 90; refine (forms_calls _).mono ?_; rintro e w4 ⟨rfl, rfl⟩))
            clear HJ
            have HB4 : Hid (Below w1.heap.size w1 (w3.alloc (.cells formCells 180))) := (HBW.out.trans (HB3.out.mono HBW.out.size)).alloc (Nat.le_trans HBW.out.size HB3.out.size) _
            have HR4 := Lib.hid (HR6.out.below (HB3.out.alloc HB3.out.size (.cells formCells 180)) (Nat.le_refl _))
            go_loopg [81] 5 (fun n vi wl => ∃ k : Nat, n + k = 5 ∧ vi = .int .i64 k ∧ Below (w3.alloc (.cells formCells 180)).heap.size (w3.alloc (.cells formCells 180)) wl ∧ Hid (∀ (j : Nat) f, j < k → formTexts[j]? = some f → f ≠ T))
            case atStart => exact ⟨0, rfl, rfl, Below.refl _ _, fun j f h => absurd h (by omega)⟩
            case round =>
              obtain ⟨k, hk5, rfl, hbl, HN⟩ := hrel
              have HBL := Lib.hid hbl
              have hfc : ∀ o v, formCells[o]? = some v → wr.cell? ⟨w3.heap.size, o, none⟩ = some v := fun o v ho => by
                rw [hbl.cell (p := ⟨w3.heap.size, o, none⟩) (by simp)]
                simp only [World.cell?, heap_alloc_new]
                exact ho
              by_cases hk : k < 5
              · obtain ⟨ft, hft⟩ : ∃ ft, formTexts[k]? = some ft := ⟨formTexts[k], List.getElem?_eq_getElem hk⟩
                have f0 := hfc _ _ (form_cells k ft hft).1
                have f1 := hfc _ _ (form_cells k ft hft).2
                have HFT := Lib.hid hft
                clear hfc hbl hft
                by_cases heq : ft = T
                · subst heq
                  have bs : ((ba ft).toList == (ba ft).toList) = true := by simp
                  have hfo := forms_hit HRES.out HFT.out HN.out
                  have hbz := HBL.out.alloc HBL.out.size (.cells #[.string (ba ft), .func (.func (115 + k)) #[] #[]] 180)
                  have hfcl := form_calls k hk _ ss _ (HR4.out.below hbz (Nat.le_refl _)) r hfo
                  have hcf := hfcl.1
                  have HFC := Lib.hid hfcl.2
                  have HBZ := Lib.hid (HB4.out.trans (hbz.mono HB4.out.size))
                  obtain ⟨op, key, val⟩ := r
                  unfold pnV at HFC
                  clear hfcl hfo hbz
                  go_wp2_with fail
                  refine HFC.out.mono ?_
                  rintro e wz ⟨rfl, hbz2⟩
                  have HBZ2 := Lib.hid (HBZ.out.trans (hbz2.mono HBZ.out.size))
                  obtain ⟨c0, c1', c2, hz⟩ := HRC.out
                  obtain ⟨f0', f1', f2'⟩ := HRF.out
                  have z0 := (HBZ2.out.cell (p := ⟨w.heap.size, 0, none⟩) hz).trans c0
                  have z1 := (HBZ2.out.cell (p := ⟨w.heap.size, 1, none⟩) hz).trans c1'
                  have z2 := (HBZ2.out.cell (p := ⟨w.heap.size, 2, none⟩) hz).trans c2
                  have y0 := (HBZ2.out.frozen (p := ⟨w.heap.size, 0, none⟩) hz).trans f0'
                  have y1 := (HBZ2.out.frozen (p := ⟨w.heap.size, 1, none⟩) hz).trans f1'
                  have y2 := (HBZ2.out.frozen (p := ⟨w.heap.size, 2, none⟩) hz).trans f2'
                  clear c0 c1' c2 f0' f1' f2'
                  have HBW2 := Lib.hid (HB1.out.trans (HBZ2.out.mono HB1.out.size))
                  go_wp2
                  exact of_ret (((HBW2.out.setCell (p := ⟨w.heap.size, 0, none⟩) (Nat.le_refl _) _).setCell (p := ⟨w.heap.size, 1, none⟩) (Nat.le_refl _) _).setCell (p := ⟨w.heap.size, 2, none⟩) (Nat.le_refl _) _) (by go_simp) (by go_simp) (by go_simp) rfl rfl
                · have bs : ((ba ft).toList == (ba T).toList) = false := by rw [ba_toList, ba_toList, beq_eq_false_iff_ne]; exact heq
                  go_wp2
                  go_roundg (5 - (k + 1))
                  case measure => omega
                  case rel => 
                    refine ⟨k + 1, by omega, by go_num, HBL.out.alloc HBL.out.size _, fun j f hj hf => ?_⟩
                    rcases Nat.lt_succ_iff_lt_or_eq.1 hj with h' | rfl
                    · exact HN.out j f h' hf
                    · have := HFT.out.symm.trans hf; cases this; exact heq
              · have hr0 := forms_miss HRES.out (fun j f hj hf => HN.out j f (by omega) hf)
                subst hr0
                have hk5' : k = 5 := by omega
                subst hk5'
                have HBZ2 := Lib.hid (HB4.out.trans (HBL.out.mono HB4.out.size))
                obtain ⟨c0, c1', c2, hz⟩ := HRC.out
                obtain ⟨f0', f1', f2'⟩ := HRF.out
                have z0 := (HBZ2.out.cell (p := ⟨w.heap.size, 0, none⟩) hz).trans c0
                have z1 := (HBZ2.out.cell (p := ⟨w.heap.size, 1, none⟩) hz).trans c1'
                have z2 := (HBZ2.out.cell (p := ⟨w.heap.size, 2, none⟩) hz).trans c2
                have y0 := (HBZ2.out.frozen (p := ⟨w.heap.size, 0, none⟩) hz).trans f0'
                have y1 := (HBZ2.out.frozen (p := ⟨w.heap.size, 1, none⟩) hz).trans f1'
                have y2 := (HBZ2.out.frozen (p := ⟨w.heap.size, 2, none⟩) hz).trans f2'
                clear c0 c1' c2 f0' f1' f2'
                have HBW2 := Lib.hid (HB1.out.trans (HBZ2.out.mono HB1.out.size))
                go_wp2
                exact of_ret (((HBW2.out.setCell (p := ⟨w.heap.size, 0, none⟩) (Nat.le_refl _) _).setCell (p := ⟨w.heap.size, 1, none⟩) (Nat.le_refl _) _).setCell (p := ⟨w.heap.size, 2, none⟩) (Nat.le_refl _) _) (by first | (go_simp; done) | (go_simp; rfl)) (by first | (go_simp; done) | (go_simp; rfl)) (by first | (go_simp; done) | (go_simp; rfl)) rfl rfl
end Go.Proofs.YtpaioaljopjpkaaGreatDoor
