/- The walk of slices.DeleteFunc at tokens, over a row that the caller owns. Conditions: the row owned, at most 1000 tokens. -/
import Derived.Test.YtpaioaljopjpkaaGreatDoorClsA
namespace Go.Proofs.YtpaioaljopjpkaaGreatDoor
open Go.RowKit

theorem zero_oneCell (n : Nat) : ∀ u ∈ (Builtin.zeroCells #[.int .i64 0, .string ⟨#[]⟩] n).toList, u.oneCell' = true := by
  intro u hu
  unfold Builtin.zeroCells at hu
  simp only [Array.toList_map, List.mem_map] at hu
  obtain ⟨i, _, rfl⟩ := hu
  have h2 : i % 2 < 2 := Nat.mod_lt _ (by decide)
  show (#[Value.int .i64 0, Value.string ⟨#[]⟩][i % 2]!).oneCell' = true
  rcases (by omega : i % 2 = 0 ∨ i % 2 = 1) with h | h <;> rw [h] <;> rfl

theorem run_clear_toks (g o m c : Nat) (ty : TypeId) (cur : Array Value) (w : World) (hg : w.heap[g]? = some (.cells cur 148 (0, 0))) (hfit : o + (m + 1) * 2 ≤ cur.size) :
    ∃ row : Array Value, (Builtin.clear_ #[143] ty #[.slice (some ⟨g, o, none⟩) (m + 1) c]).run Tryz.prog w = .ok (.tuple #[]) (w.setRow g row) ∧ row.size = cur.size ∧ ∀ j, j < o → row[j]? = cur[j]? := by
  have hz : (zeroValue 148).run Tryz.prog w = .ok (.agg #[.int .i64 0, .string ⟨#[]⟩]) w := by kernel_rfl
  have hs : (Builtin.zeroCells #[.int .i64 0, .string ⟨#[]⟩] (m + 1)).toList.length = (m + 1) * 2 := by simp [Builtin.zeroCells]
  have hst := run_storeCells_at Tryz.prog g o 148 (Builtin.zeroCells #[.int .i64 0, .string ⟨#[]⟩] (m + 1)).toList 0 cur w hg (by rw [hs]; simpa using hfit) (zero_oneCell _)
  obtain ⟨row, hrow⟩ : ∃ row : Array Value, row = (cur.toList.take (o + 0) ++ (Builtin.zeroCells #[.int .i64 0, .string ⟨#[]⟩] (m + 1)).toList ++ cur.toList.drop (o + 0 + (Builtin.zeroCells #[.int .i64 0, .string ⟨#[]⟩] (m + 1)).toList.length)).toArray := ⟨_, rfl⟩
  rw [← hrow] at hst
  refine ⟨row, ?_, ?_, ?_⟩
  · simp [Builtin.clear_, run_underlying Tryz.underlying143, hz, Value.cells, hst, Result.andThen]
  · subst hrow
    simp only [List.size_toArray, List.length_append, List.length_take, List.length_drop, hs, Array.length_toList]; omega
  · intro j hj
    subst hrow
    simp only [List.getElem?_toArray]
    rw [List.append_assoc, List.getElem?_append_left (by simp; omega), List.getElem?_take_of_lt (by omega)]
    simp

theorem tokCells_at (l : List Sg.Tok) : ∀ (i : Nat) (t : Sg.Tok), l[i]? = some t → (tokCells l)[i * 2]? = some (.int .i64 t.kind) ∧ (tokCells l)[i * 2 + 1]? = some (.string ⟨t.text.toArray⟩) := by
  induction l with
  | nil => intro i t h; simp at h
  | cons x l ih =>
    intro i t h
    have e : tokCells (x :: l) = .int .i64 x.kind :: .string ⟨x.text.toArray⟩ :: tokCells l := rfl
    rw [e]
    cases i with
    | zero => simp at h; subst h; simp
    | succ i =>
      have := ih i t (by simpa using h)
      have e1 : (i + 1) * 2 = i * 2 + 1 + 1 := by omega
      rw [e1]
      simpa using this
theorem tokCells_length (l : List Sg.Tok) : (tokCells l).length = l.length * 2 := by
  induction l with
  | nil => rfl
  | cons x l ih => simp [tokCells] at ih ⊢; omega

/-- the row g holds, from its head, the tokens of k, and from place j on those of l. -/
def RowIs (w : World) (g cap : Nat) (k l : List Sg.Tok) (j : Nat) : Prop :=
  ∃ cur : Array Value, w.heap[g]? = some (.cells cur 148 (0, 0)) ∧ cur.size = cap * 2 ∧
    (∀ (i : Nat) t, k[i]? = some t → cur[i * 2]? = some (.int .i64 t.kind) ∧ cur[i * 2 + 1]? = some (.string ⟨t.text.toArray⟩)) ∧
    (∀ (i : Nat) t, j ≤ i → l[i]? = some t → cur[i * 2]? = some (.int .i64 t.kind) ∧ cur[i * 2 + 1]? = some (.string ⟨t.text.toArray⟩))

theorem RowIs.of_block {w w1 : World} {g cap j : Nat} {k l : List Sg.Tok} (h : RowIs w g cap k l j) (hb : w1.heap[g]? = w.heap[g]?) : RowIs w1 g cap k l j := by
  obtain ⟨cur, hg, h2⟩ := h
  exact ⟨cur, by rw [hb]; exact hg, h2⟩
theorem RowIs.lt {w : World} {g cap j : Nat} {k l : List Sg.Tok} (h : RowIs w g cap k l j) : g < w.heap.size := by
  obtain ⟨cur, hg, _⟩ := h
  exact (Array.getElem?_eq_some_iff.1 hg).1
theorem RowIs.free {w : World} {g cap j : Nat} {k l : List Sg.Tok} (h : RowIs w g cap k l j) (o : Nat) : w.frozen? ⟨g, o, none⟩ = false := by
  obtain ⟨cur, hg, _⟩ := h
  simp [World.frozen?, hg]
theorem RowIs.some_cell {w : World} {g cap j : Nat} {k l : List Sg.Tok} (h : RowIs w g cap k l j) (o : Nat) (ho : o < cap * 2) : ∃ v, w.cell? ⟨g, o, none⟩ = some v := by
  obtain ⟨cur, hg, hs, _⟩ := h
  exact ⟨cur[o]'(by omega), by simp [World.cell?, hg]⟩
theorem RowIs.drop {w : World} {g cap j : Nat} {k l : List Sg.Tok} (h : RowIs w g cap k l j) : RowIs w g cap k l (j + 1) := by
  obtain ⟨cur, hg, hs, h1, h2⟩ := h
  exact ⟨cur, hg, hs, h1, fun i t hi => h2 i t (by omega)⟩
theorem setCell_row (w : World) (g o : Nat) (cur : Array Value) (T : TypeId) (fz : Nat × Nat) (v : Value) (hg : w.heap[g]? = some (.cells cur T fz)) :
    (w.setCell ⟨g, o, none⟩ v).heap[g]? = some (.cells (cur.setIfInBounds o v) T fz) := by
  simp [World.setCell, Array.getElem?_modify, hg]
theorem RowIs.put {w : World} {g cap j : Nat} {k l : List Sg.Tok} (h : RowIs w g cap k l j) (t : Sg.Tok) (hk : k.length < j) (hc : j ≤ cap) :
    RowIs ((w.setCell ⟨g, k.length * 2, none⟩ (.int .i64 t.kind)).setCell ⟨g, k.length * 2 + 1, none⟩ (.string ⟨t.text.toArray⟩)) g cap (k ++ [t]) l j := by
  obtain ⟨cur, hg, hs, h1, h2⟩ := h
  refine ⟨_, setCell_row _ _ _ _ _ _ _ (setCell_row _ _ _ _ _ _ _ hg), by simpa using hs, fun i u hi => ?_, fun i u hi hu => ?_⟩
  · rcases Nat.lt_trichotomy i k.length with hlt | rfl | hgt
    · rw [List.getElem?_append_left hlt] at hi
      have := h1 i u hi
      simp only [Array.getElem?_setIfInBounds]
      rw [if_neg (by omega), if_neg (by omega), if_neg (by omega), if_neg (by omega)]
      exact this
    · simp at hi; subst hi
      simp only [Array.getElem?_setIfInBounds, Array.size_setIfInBounds]
      rw [if_neg (by omega), if_pos trivial, if_pos (by omega), if_pos trivial, if_pos (by omega)]
      exact ⟨rfl, rfl⟩
    · rw [List.getElem?_eq_none (by simp; omega)] at hi; cases hi
  · have := h2 i u hi hu
    simp only [Array.getElem?_setIfInBounds]
    rw [if_neg (by omega), if_neg (by omega), if_neg (by omega), if_neg (by omega)]
    exact this

theorem RowIs.tokAt {w : World} {g cap j : Nat} {k l : List Sg.Tok} (h : RowIs w g cap k l j) (c : Nat) (hc : k.length ≤ c) (hm : c ≤ maxLen) : TokAt w (.slice (some ⟨g, 0, none⟩) k.length c) k := by
  obtain ⟨cur, hg, hs, h1, _⟩ := h
  exact ⟨_, c, rfl, hc, hm, fun _ => ⟨g, 0, cur, 148, (0, 0), rfl, hg, fun i t ht => by simpa using h1 i t ht⟩⟩

theorem own_tokAt {w : World} {B : Nat} {v : Value} {l : List Sg.Tok} (h : w.ownsRow B 148 2 v l.length (tokCells l)) : TokAt w v l := by
  rcases h.2 with ⟨rfl, h0⟩ | ⟨g, cap, cur, rfl, hb, hg, hn, hm, hs, ht⟩
  · exact ⟨none, 0, by rw [h0], by omega, by omega, fun h => absurd h (by omega)⟩
  · refine ⟨_, cap, rfl, hn, hm, fun _ => ⟨g, 0, cur, 148, (0, 0), rfl, hg, fun i t hi => ?_⟩⟩
    have h1 := tokCells_at l i t hi
    have hl := (List.getElem?_eq_some_iff.1 hi).1
    rw [← ht] at h1
    rw [List.getElem?_take_of_lt (by omega), List.getElem?_take_of_lt (by omega)] at h1
    simpa using h1

theorem own_rowIs {w : World} {B : Nat} {v : Value} {l : List Sg.Tok} (h : w.ownsRow B 148 2 v l.length (tokCells l)) (h0 : 0 < l.length) :
    ∃ g cap, v = .slice (some ⟨g, 0, none⟩) l.length cap ∧ B ≤ g ∧ l.length ≤ cap ∧ cap ≤ maxLen ∧ ∀ j, RowIs w g cap (l.take j) l j := by
  rcases h.2 with ⟨rfl, h1⟩ | ⟨g, cap, cur, rfl, hb, hg, hn, hm, hs, ht⟩
  · omega
  · have hall : ∀ (i : Nat) (t : Sg.Tok), l[i]? = some t → cur[i * 2]? = some (.int .i64 t.kind) ∧ cur[i * 2 + 1]? = some (.string ⟨t.text.toArray⟩) := by
      intro i t hi
      have h1 := tokCells_at l i t hi
      have hl := (List.getElem?_eq_some_iff.1 hi).1
      rw [← ht] at h1
      rw [List.getElem?_take_of_lt (by omega), List.getElem?_take_of_lt (by omega)] at h1
      simpa using h1
    refine ⟨g, cap, rfl, hb, hn, hm, fun j => ⟨cur, hg, hs, fun i t hi => ?_, fun i t _ hi => hall i t hi⟩⟩
    rw [List.getElem?_take] at hi
    split at hi
    · exact hall i t hi
    · cases hi

theorem idxOf_cases (p : Sg.Tok → Bool) (l : List Sg.Tok) : (idxOf p l = -1 ∧ l.filter (fun t => !p t) = l) ∨ ∃ i : Nat, idxOf p l = i ∧ i < l.length ∧ (l.take (i + 1)).filter (fun t => !p t) = l.take i := by
  unfold idxOf
  cases h : l.findIdx? p with
  | none =>
    left
    rw [List.findIdx?_eq_none_iff] at h
    exact ⟨rfl, List.filter_eq_self.2 fun a ha => by simp [h a ha]⟩
  | some i =>
    right
    rw [List.findIdx?_eq_some_iff_getElem] at h
    obtain ⟨hi, h1, h2⟩ := h
    refine ⟨i, rfl, hi, ?_⟩
    rw [List.take_succ_eq_append_getElem hi, List.filter_append]
    have e1 : [l[i]].filter (fun t => !p t) = [] := by simp [h1]
    rw [e1, List.append_nil, List.filter_eq_self]
    intro a ha
    obtain ⟨j, hj, rfl⟩ := List.mem_iff_getElem.1 ha
    simp only [List.length_take] at hj
    have := h2 j (by omega)
    simpa using this

def kept (l : List Sg.Tok) (j : Nat) : List Sg.Tok := (l.take j).filter (fun t => !((t.kind : Int) == 5))
theorem kept_succ (l : List Sg.Tok) (j : Nat) (t : Sg.Tok) (h : l[j]? = some t) : kept l (j + 1) = if ((t.kind : Int) == 5) = true then kept l j else kept l j ++ [t] := by
  unfold kept
  obtain ⟨hj, rfl⟩ := List.getElem?_eq_some_iff.1 h
  rw [List.take_succ_eq_append_getElem hj, List.filter_append]
  by_cases hk : ((l[j].kind : Int) == 5) = true
  · rw [if_pos hk]; simp [hk]
  · rw [if_neg hk]; simp [hk]
theorem kept_all (l : List Sg.Tok) : kept l l.length = l.filter fun t => !((t.kind : Int) == 5) := by unfold kept; rw [List.take_length]

set_option maxHeartbeats 2000000 in
set_option maxRecDepth 100000 in
theorem deleteFunc_calls (v : Value) (l : List Sg.Tok) (B : Nat) (w : World) (hown : w.ownsRow B 148 2 v l.length (tokCells l)) (hB : B ≤ w.heap.size) :
    Calls Tryz.prog 62 #[v, .func (.func 63) #[] #[]] w fun e w' => ∃ v', e = .returned v' ∧ TokAt w' v' (l.filter fun t => !((t.kind : Int) == 5)) ∧ Below B w w' := by
  have hp := pays_hint
  have HC := Lib.hid (indexFunc_calls 63 _ hp v l w (own_tokAt hown))
  rcases idxOf_cases (fun t => (t.kind : Int) == 5) l with ⟨h1, h2⟩ | ⟨i, h1, h2, h3⟩
  · have hT := own_tokAt hown
    rw [h1] at HC
    have HF := Lib.hid h2; clear h2 h1 hown
    obtain ⟨a, c, hv, _⟩ := id hT
    subst hv
    go_enter Tryz.func62, Tryz.ntmps62
    go_wp2_with (go_at_call 95; refine HC.out.mono ?_; rintro e w1 ⟨rfl, hb1⟩)
    go_ret
    refine ⟨_, rfl, ?_, hb1.mono hB⟩
    rw [HF.out]
    exact hT.below hb1 (Nat.le_refl _)
  · rw [h1] at HC
    obtain ⟨g, cap, rfl, hg, hcap, hmx, hrow⟩ := own_rowIs hown (by omega)
    have HF := Lib.hid h3; clear h3 h1 hown
    have HROW := Lib.hid hrow; clear hrow
    obtain ⟨hcall, hpay⟩ := hp
    have HP := Lib.hid hpay; clear hpay
    unfold maxLen at hmx
    have hi0 : ((i : Int) == -1) = false := by simp
    go_enter Tryz.func62, Tryz.ntmps62
    go_wp2_with (go_at_call 95; refine HC.out.mono ?_; rintro e w1 ⟨rfl, hb1⟩)
    have hkk : Hid (kept l (i + 1) = l.take i) := HF
    go_loopg [5, 6] (l.length - (i + 1)) (fun n vi vj wr => ∃ j : Nat, n + j = l.length ∧ vj = .int .i64 j ∧ vi = .int .i64 (kept l j).length ∧ (kept l j).length < j ∧ RowIs wr g cap (kept l j) l j ∧ Below B w wr)
    case atStart =>
      refine ⟨i + 1, by omega, by go_num, ?_, ?_, ?_, hb1.mono hB⟩
      · rw [hkk.out]; simp; omega
      · rw [hkk.out]; simp; omega
      · rw [hkk.out]
        have := (HROW.out i).drop
        exact this.of_block (hb1.block g this.lt)
    case round =>
      obtain ⟨j, hj, rfl, rfl, hkj, hR, hbw⟩ := hrel
      have hgl := hR.lt
      have HR := Lib.hid hR; clear hR
      by_cases hlt : j < l.length
      · obtain ⟨t, ht⟩ : ∃ t, l[j]? = some t := ⟨l[j], List.getElem?_eq_getElem hlt⟩
        have HT := Lib.hid ht
        have HK := Lib.hid (kept_succ l j t ht); clear ht
        obtain ⟨q0, q1⟩ : wr.cell? ⟨g, j * 2, none⟩ = some (.int .i64 t.kind) ∧ wr.cell? ⟨g, j * 2 + 1, none⟩ = some (.string ⟨t.text.toArray⟩) := by
          obtain ⟨cur, hgc, hs, _, h2⟩ := HR.out
          have := h2 j t (Nat.le_refl _) HT.out
          simp [World.cell?, hgc, this.1, this.2]
        generalize hkn : kept l j = ks at *
        have HKN := Lib.hid hkn; clear hkn
        go_wp2_with (go_at_call 63; go_must (refine (HP.out t _).mono ?_; rintro e w2 ⟨rfl, hb2⟩; obtain ⟨p0, p1, f0, f1, hz, hb3⟩ := new2 hb2 (by simp); have HR2 := Lib.hid (HR.out.of_block (hb3.block g hgl)); obtain ⟨y0, hy0⟩ := HR2.out.some_cell (ks.length * 2) (by omega); obtain ⟨y1, hy1⟩ := HR2.out.some_cell (ks.length * 2 + 1) (by omega); have g0 := HR2.out.free (ks.length * 2); have g1 := HR2.out.free (ks.length * 2 + 1)))
        · have hpt : ((t.kind : Int) == 5) = false := by have h : (!((t.kind : Int) == 5)) = true := by assumption
                                                         simpa using h
          go_roundg (l.length - (j + 1))
          case measure => omega
          case rel =>
            have e : kept l (j + 1) = ks ++ [t] := by rw [HK.out, if_neg (by rw [hpt]; decide)]
            refine ⟨j + 1, by omega, by go_num, ?_, ?_, ?_, ?_⟩
            · rw [e]; simp
            · rw [e]; simp; omega
            · rw [e]; exact (HR2.out.put t hkj (by omega)).drop
            · exact ((hbw.trans (hb3.mono (by have := hbw.size; omega))).setCell (p := ⟨g, _, none⟩) hg _).setCell (p := ⟨g, _, none⟩) hg _
        · have hpt : ((t.kind : Int) == 5) = true := by have h : (!((t.kind : Int) == 5)) = false := by assumption
                                                        simpa using h
          go_roundg (l.length - (j + 1))
          case measure => omega
          case rel =>
            have e : kept l (j + 1) = ks := by rw [HK.out, if_pos hpt]
            refine ⟨j + 1, by omega, by go_num, ?_, ?_, ?_, ?_⟩
            · rw [e]
            · rw [e]; omega
            · rw [e]; exact HR2.out.drop
            · exact hbw.trans (hb3.mono (by have := hbw.size; omega))
      · have hjl : j = l.length := by omega
        have HJ := Lib.hid hjl
        have HKA : Hid (kept l j = l.filter fun t => !((t.kind : Int) == 5)) := by rw [hjl]; exact kept_all l
        clear hjl
        generalize hkn : kept l j = ks at *
        have HKN := Lib.hid hkn; clear hkn
        have hlt2 : ks.length < l.length := by omega
        have hlt3 : ks.length < cap := by omega
        have hne : ¬ cap = ks.length := by omega
        obtain ⟨row, hclr, hrs, hrow⟩ : ∃ row : Array Value, (Builtin.clear_ #[143] 0 #[.slice (some ⟨g, ks.length * 2, none⟩) (l.length - ks.length) (cap - ks.length)]).run Tryz.prog wr = .ok (.tuple #[]) (wr.setRow g row) ∧ row.size = cap * 2 ∧ (∀ (i : Nat) t, ks[i]? = some t → row[i * 2]? = some (.int .i64 t.kind) ∧ row[i * 2 + 1]? = some (.string ⟨t.text.toArray⟩)) := by
          obtain ⟨cur, hgc, hs, h1, _⟩ := HR.out
          obtain ⟨row, h2, h3, h4⟩ := run_clear_toks g (ks.length * 2) (l.length - ks.length - 1) (cap - ks.length) 0 cur wr hgc (by omega)
          rw [show l.length - ks.length - 1 + 1 = l.length - ks.length from by omega] at h2
          refine ⟨row, h2, by omega, fun i t hi => ?_⟩
          have hi2 := (List.getElem?_eq_some_iff.1 hi).1
          rw [h4 _ (by omega), h4 _ (by omega)]
          exact h1 i t hi
        have HROW2 := Lib.hid hrow; clear hrow
        have HRS := Lib.hid hrs; clear hrs
        go_wp2
        go_ret
        obtain ⟨cur, hgc, _⟩ := HR.out
        refine ⟨_, rfl, ?_, ?_⟩
        · rw [← HKA.out]
          exact ⟨_, cap, rfl, by omega, by unfold maxLen; omega, fun _ => ⟨g, 0, row, 148, (0, 0), rfl, setRow_heap wr g cur row 148 (0, 0) hgc, fun i t ht => by simpa using HROW2.out i t ht⟩⟩
        · exact hbw.trans ⟨rfl, rfl, rfl, by simp, fun k hk => setRow_other wr g k row (by omega)⟩
end Go.Proofs.YtpaioaljopjpkaaGreatDoor
