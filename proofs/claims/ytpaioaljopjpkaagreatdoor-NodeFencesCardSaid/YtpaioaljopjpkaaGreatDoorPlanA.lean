/- plan.place: where a key stands in a sorted list of pairs. Conditions: the pairs lie sorted, fewer than 10000. -/
import Derived.Test.YtpaioaljopjpkaaGreatDoorClsK
set_option linter.unusedVariables false
set_option linter.unusedSimpArgs false
namespace Go.Proofs.YtpaioaljopjpkaaGreatDoor
open Go.RowKit

abbrev Pr := Sg.B × Sg.B
def cmpB (a b : Sg.B) : Int := Lib.compareBytes a b

/-- a slice read as cells: n elements of some size, whose cells are cs. -/
def RowAt (w : World) (v : Value) (n : Nat) (cs : List Value) : Prop :=
  ∃ (a : Option Addr) (c : Nat), v = .slice a n c ∧ n ≤ c ∧ c ≤ maxLen ∧
    (0 < n → ∃ g off cur T fz, a = some ⟨g, off, none⟩ ∧ w.heap[g]? = some (.cells cur T fz) ∧ ∀ j u, cs[j]? = some u → cur[off + j]? = some u)

theorem RowAt.below {w w1 : World} {v : Value} {n : Nat} {cs : List Value} {B : Nat} (h : RowAt w v n cs) (hb : Below B w w1) (hB : w.heap.size ≤ B) : RowAt w1 v n cs := by
  obtain ⟨a, c, rfl, h1, h2, h3⟩ := h
  refine ⟨a, c, rfl, h1, h2, fun h0 => ?_⟩
  obtain ⟨g, off, cur, T, fz, ha, hg, hc⟩ := h3 h0
  refine ⟨g, off, cur, T, fz, ha, ?_, hc⟩
  rw [hb.block g (by have := (Array.getElem?_eq_some_iff.1 hg).1; omega)]
  exact hg
theorem RowAt.cells {w : World} {v : Value} {n : Nat} {cs : List Value} (h : RowAt w v n cs) (h0 : 0 < n) : ∃ g off c, v = .slice (some ⟨g, off, none⟩) n c ∧ n ≤ c ∧ c ≤ maxLen ∧ g < w.heap.size ∧
    ∀ j u, cs[j]? = some u → w.cell? ⟨g, off + j, none⟩ = some u := by
  obtain ⟨a, c, rfl, h1, h2, h3⟩ := h
  obtain ⟨g, off, cur, T, fz, rfl, hg, hc⟩ := h3 h0
  refine ⟨g, off, c, rfl, h1, h2, (Array.getElem?_eq_some_iff.1 hg).1, fun j u hu => ?_⟩
  simp only [World.cell?, hg]
  exact hc j u hu
theorem RowAt.keeps {w w1 : World} {v : Value} {n : Nat} {cs : List Value} {m : Nat → Prop} (h : RowAt w v n cs) (hk : Keeps m w w1) (hm : ∀ g off c, v = .slice (some ⟨g, off, none⟩) n c → ¬ m g) : RowAt w1 v n cs := by
  obtain ⟨a, c, rfl, h1, h2, h3⟩ := h
  refine ⟨a, c, rfl, h1, h2, fun h0 => ?_⟩
  obtain ⟨g, off, cur, T, fz, rfl, hg, hc⟩ := h3 h0
  exact ⟨g, off, cur, T, fz, rfl, by rw [hk.block g (Array.getElem?_eq_some_iff.1 hg).1 (hm g off c rfl)]; exact hg, hc⟩
theorem own_rowAt {w : World} {B e size : Nat} {v : Value} {n : Nat} {cs : List Value} (h : w.ownsRow B e size v n cs) : RowAt w v n cs := by
  rcases h.2 with ⟨rfl, h0⟩ | ⟨g, cap, cur, rfl, hb, hg, hn, hm, hs, ht⟩
  · exact ⟨none, 0, by rw [h0], by omega, by omega, fun h => absurd h (by omega)⟩
  · refine ⟨_, cap, rfl, hn, hm, fun _ => ⟨g, 0, cur, e, (0, 0), rfl, hg, fun j u hj => ?_⟩⟩
    have hl := (List.getElem?_eq_some_iff.1 hj).1
    rw [← ht] at hj hl
    rw [List.length_take] at hl
    rw [List.getElem?_take_of_lt (by omega)] at hj
    simpa using hj

def prCells (l : List Pr) : List Value := l.flatMap fun p => [.string (ba p.1), .string (ba p.2)]
theorem prCells_at (l : List Pr) : ∀ (i : Nat) (t : Pr), l[i]? = some t → (prCells l)[i * 2]? = some (.string (ba t.1)) ∧ (prCells l)[i * 2 + 1]? = some (.string (ba t.2)) := by
  induction l with
  | nil => intro i t h; simp at h
  | cons x l ih =>
    intro i t h
    have e : prCells (x :: l) = .string (ba x.1) :: .string (ba x.2) :: prCells l := rfl
    rw [e]
    cases i with
    | zero => simp at h; subst h; simp
    | succ i =>
      have := ih i t (by simpa using h)
      rw [show (i + 1) * 2 = i * 2 + 1 + 1 from by omega]
      simpa using this
theorem prCells_len (l : List Pr) : (prCells l).length = l.length * 2 := by
  induction l with
  | nil => rfl
  | cons x l ih => show (prCells l).length + 2 = _; rw [ih]; simp; omega

/-- the keys of a table rise. -/
def SortL (l : List Pr) : Prop := l.Pairwise fun a b => cmpB a.1 b.1 < 0
def placeL (l : List Pr) (key : Sg.B) : Nat := (l.takeWhile fun p => decide (cmpB p.1 key < 0)).length
def isAt (l : List Pr) (key : Sg.B) : Bool :=
  match l[placeL l key]? with
  | some p => p.1 == key
  | none => false

theorem place_of (l : List Pr) (key : Sg.B) (i : Nat) (hi : i ≤ l.length) (h1 : ∀ k p, k < i → l[k]? = some p → cmpB p.1 key < 0) (h2 : ∀ p, l[i]? = some p → ¬ cmpB p.1 key < 0) : placeL l key = i := by
  unfold placeL
  induction l generalizing i with
  | nil => simp at hi; simp [hi]
  | cons x l ih =>
    cases i with
    | zero => rw [List.takeWhile_cons_of_neg]; rfl; simpa using h2 x rfl
    | succ i =>
      rw [List.takeWhile_cons_of_pos (by simpa using h1 0 x (by omega) rfl)]
      simp only [List.length_cons]
      rw [ih i (by simpa using hi) (fun k p hk hp => h1 (k + 1) p (by omega) (by simpa using hp)) (fun p hp => h2 p (by simpa using hp))]

theorem cmpB_cons (a b : UInt8) (x y : Sg.B) : cmpB (a :: x) (b :: y) = if a.toNat < b.toNat then -1 else if b.toNat < a.toNat then 1 else cmpB x y := by
  unfold cmpB; simp only [Lib.compareBytes, UInt8.lt_iff_toNat_lt]
theorem cmpB_trans : ∀ (a b c : Sg.B), cmpB a b < 0 → cmpB b c < 0 → cmpB a c < 0
  | [], [], c, h, _ => by simp [cmpB, Lib.compareBytes] at h
  | [], b :: y, [], _, h => by simp [cmpB, Lib.compareBytes] at h
  | [], b :: y, c :: z, _, _ => by simp [cmpB, Lib.compareBytes]
  | a :: x, [], c, h, _ => by simp [cmpB, Lib.compareBytes] at h
  | a :: x, b :: y, [], _, h => by simp [cmpB, Lib.compareBytes] at h
  | a :: x, b :: y, c :: z, h, h' => by
    have ih := cmpB_trans x y z
    rw [cmpB_cons] at h h' ⊢
    split at h <;> split at h' <;> (try split at h) <;> (try split at h') <;> split <;> (try split) <;> first | omega | exact ih (by omega) (by omega)
theorem cmpB_eq : ∀ (a b : Sg.B), cmpB a b = 0 ↔ a = b
  | [], [] => by simp [cmpB, Lib.compareBytes]
  | [], b :: y => by simp [cmpB, Lib.compareBytes]
  | a :: x, [] => by simp [cmpB, Lib.compareBytes]
  | a :: x, b :: y => by
    have ih := cmpB_eq x y
    rw [cmpB_cons]
    have e : a = b ↔ a.toNat = b.toNat := ⟨fun h => by rw [h], UInt8.toNat_inj.1⟩
    rw [List.cons.injEq, e, ← ih]
    split
    · omega
    · split <;> omega
theorem cmpB_self (a : Sg.B) : cmpB a a = 0 := (cmpB_eq a a).2 rfl
theorem cmpB_swap : ∀ (a b : Sg.B), 0 < cmpB a b ↔ cmpB b a < 0
  | [], [] => by simp [cmpB, Lib.compareBytes]
  | [], b :: y => by simp [cmpB, Lib.compareBytes]
  | a :: x, [] => by simp [cmpB, Lib.compareBytes]
  | a :: x, b :: y => by
    have ih := cmpB_swap x y
    rw [cmpB_cons, cmpB_cons]
    split
    · rw [if_neg (by omega)]; simp
    · split <;> omega
theorem cmpB_i64 (a b : Sg.B) : -1 ≤ cmpB a b ∧ cmpB a b ≤ 1 := by
  unfold cmpB
  induction a generalizing b with
  | nil => cases b <;> simp [Lib.compareBytes]
  | cons x a ih => cases b with
    | nil => simp [Lib.compareBytes]
    | cons y b =>
      simp only [Lib.compareBytes]
      have := ih b
      split
      · omega
      · split <;> omega

theorem sortL_at {l : List Pr} (h : SortL l) {i k : Nat} {a b : Pr} (hik : i < k) (ha : l[i]? = some a) (hb : l[k]? = some b) : cmpB a.1 b.1 < 0 := by
  obtain ⟨h1, rfl⟩ := List.getElem?_eq_some_iff.1 ha
  obtain ⟨h2, rfl⟩ := List.getElem?_eq_some_iff.1 hb
  exact List.pairwise_iff_getElem.1 h i k h1 h2 hik

theorem named_calls (a b : ByteArray) (w : World) : Calls Tryz.prog 87 #[.agg #[.string a, .string b]] w fun e w' => e = .returned (.string a) ∧ Below w.heap.size w w' := by
  go_enter Tryz.func87, Tryz.ntmps87
  go_wp2
  go_ret
  exact ⟨rfl, (Below.refl _ _).alloc (Nat.le_refl _) _⟩

theorem callFunc_87 (args : Array Value) (w : World) : (callFunc 87 args).run Tryz.prog w = .ok (.enter 87 args) w := by go_simp
theorem callFunc_109 (args : Array Value) (w : World) : (callFunc 109 args).run Tryz.prog w = .ok (.enter 109 args) w := by go_simp

theorem place1_calls (a b key : ByteArray) (g : Nat) (w : World) (hg : w.cell? ⟨g, 0, none⟩ = some (.func (.func 87) #[] #[])) :
    Calls Tryz.prog 109 #[.agg #[.string a, .string b], .string key, .pointer (some ⟨g, 0, none⟩)] w fun e w' => e = .returned (.int .i64 (cmpB a.data.toList key.data.toList)) ∧ Below w.heap.size w w' := by
  have hlt : g < w.heap.size := World.block_lt_of_cell? w ⟨g, 0, none⟩ hg
  go_enter Tryz.func109, Tryz.ntmps109
  go_wp2_with (first | (go_at_call 87; refine (named_calls _ _ _).mono ?_; rintro e w1 ⟨rfl, hb⟩) | (go_at_call 110; refine (Tryz.strings_Compare _ _ _).mono ?_; rintro e w2 ⟨rfl, rfl⟩))
  go_ret
  exact ⟨rfl, ((Below.refl _ _).alloc (Nat.le_refl _) _).trans (hb.mono (by simp))⟩

set_option maxRecDepth 100000 in
set_option maxHeartbeats 4000000 in
theorem search_calls (v : Value) (l : List Pr) (key : Sg.B) (g : Nat) (w : World) (hl : RowAt w v l.length (prCells l)) (hs : SortL l) (hll : l.length ≤ 10000) (hg : w.cell? ⟨g, 0, none⟩ = some (.func (.func 87) #[] #[])) :
    Calls Tryz.prog 108 #[v, .string (ba key), .func (.func 109) #[] #[.pointer (some ⟨g, 0, none⟩)]] w fun e w' => e = .returned (.tuple #[.int .i64 (placeL l key), .bool (isAt l key)]) ∧ Below w.heap.size w w' := by
  have hglt : g < w.heap.size := World.block_lt_of_cell? w ⟨g, 0, none⟩ hg
  have hcf := callFunc_109
  have HPL : Hid (∀ (p : Pr) (w : World), w.cell? ⟨g, 0, none⟩ = some (.func (.func 87) #[] #[]) → Calls Tryz.prog 109 #[.agg #[.string (ba p.1), .string (ba p.2)], .string (ba key), .pointer (some ⟨g, 0, none⟩)] w fun e w' => e = .returned (.int .i64 (cmpB p.1 key)) ∧ Below w.heap.size w w') := fun p w hg => place1_calls (ba p.1) (ba p.2) (ba key) g w hg
  by_cases h0 : l.length = 0
  · obtain rfl : l = [] := List.eq_nil_of_length_eq_zero h0
    obtain ⟨a, c, rfl, _⟩ := hl
    go_enter Tryz.func108, Tryz.ntmps108
    go_wp2
    go_loopg [9, 10] 0 (fun n i j wr => i = .int .i64 0 ∧ j = .int .i64 0 ∧ Below w.heap.size w wr)
    case atStart => exact ⟨rfl, rfl, Below.refl _ _⟩
    case round =>
      obtain ⟨rfl, rfl, hbw⟩ := hrel
      go_wp2
      go_ret2
      exact ⟨rfl, hbw⟩
  · obtain ⟨g1, off, c, rfl, hc1, hc2, hg1, hcell⟩ := hl.cells (by omega)
    have HC := Lib.hid (fun i t (h : l[i]? = some t) => And.intro (hcell _ _ (prCells_at l i t h).1) (hcell _ _ (prCells_at l i t h).2)); clear hcell hl
    unfold maxLen at hc2
    go_enter Tryz.func108, Tryz.ntmps108
    go_wp2
    go_loopg [9, 10] l.length (fun n vi vj wr => ∃ i j : Nat, n + i = j ∧ j ≤ l.length ∧ vi = .int .i64 i ∧ vj = .int .i64 j ∧ Below w.heap.size w wr ∧ Hid (∀ k p, k < i → l[k]? = some p → cmpB p.1 key < 0) ∧ Hid (∀ k p, j ≤ k → l[k]? = some p → 0 ≤ cmpB p.1 key))
    case atStart => exact ⟨0, l.length, by omega, Nat.le_refl _, rfl, rfl, Below.refl _ _, fun k p h => absurd h (by omega), fun k p h hk => by have := (List.getElem?_eq_some_iff.1 hk).1; omega⟩
    case round =>
      obtain ⟨i, j, hk, hj, rfl, rfl, hbw, HA, HB⟩ := hrel
      by_cases hlt : i < j
      · obtain ⟨t, ht⟩ : ∃ t, l[(i + j) / 2]? = some t := ⟨l[(i + j) / 2], List.getElem?_eq_getElem (by omega)⟩
        have hc := HC.out _ t ht
        have q0 : wr.cell? ⟨g1, off + (i + j) / 2 * 2, none⟩ = some (.string (ba t.1)) := (hbw.cell (p := ⟨g1, off + (i + j) / 2 * 2, none⟩) hg1).trans hc.1
        have q1 : wr.cell? ⟨g1, off + (i + j) / 2 * 2 + 1, none⟩ = some (.string (ba t.2)) := (hbw.cell (p := ⟨g1, off + (i + j) / 2 * 2 + 1, none⟩) hg1).trans hc.2
        have hg2 := (hbw.cell (p := ⟨g, 0, none⟩) hglt).trans hg
        have HT := Lib.hid ht
        clear hc ht
        by_cases hcm : cmpB t.1 key < 0
        · go_wp2_with fail
          refine (HPL.out t _ hg2).mono ?_
          rintro e w1 ⟨rfl, hb1⟩
          go_wp2
          go_roundg (j - ((i + j) / 2 + 1))
          case measure => omega
          case rel =>
            refine ⟨(i + j) / 2 + 1, j, by omega, hj, by go_num, rfl, hbw.trans (hb1.mono hbw.size), fun k p hk2 hp => ?_, HB⟩
            rcases Nat.lt_succ_iff_lt_or_eq.1 hk2 with h' | rfl
            · exact cmpB_trans _ _ _ (sortL_at hs h' hp HT.out) hcm
            · have := HT.out.symm.trans hp; cases this; exact hcm
        · go_wp2_with fail
          refine (HPL.out t _ hg2).mono ?_
          rintro e w1 ⟨rfl, hb1⟩
          go_wp2
          go_roundg ((i + j) / 2 - i)
          case measure => omega
          case rel =>
            refine ⟨i, (i + j) / 2, by omega, by omega, rfl, by go_num, hbw.trans (hb1.mono hbw.size), HA, fun k p hk2 hp => Int.not_lt.1 fun h3 => ?_⟩
            rcases Nat.lt_or_eq_of_le hk2 with h' | rfl
            · exact Int.not_lt.2 hcm (cmpB_trans _ _ _ (sortL_at hs h' HT.out hp) h3)
            · have := HT.out.symm.trans hp; cases this; exact Int.not_lt.2 hcm h3
      · obtain rfl : i = j := by omega
        by_cases hil : i < l.length
        · obtain ⟨t, ht⟩ : ∃ t, l[i]? = some t := ⟨l[i], List.getElem?_eq_getElem (by omega)⟩
          have hc := HC.out _ t ht
          have q0 : wr.cell? ⟨g1, off + i * 2, none⟩ = some (.string (ba t.1)) := (hbw.cell (p := ⟨g1, off + i * 2, none⟩) hg1).trans hc.1
          have q1 : wr.cell? ⟨g1, off + i * 2 + 1, none⟩ = some (.string (ba t.2)) := (hbw.cell (p := ⟨g1, off + i * 2 + 1, none⟩) hg1).trans hc.2
          have hg2 := (hbw.cell (p := ⟨g, 0, none⟩) hglt).trans hg
          have HT := Lib.hid ht
          clear hc ht
          have HP : Hid (placeL l key = i) := place_of l key i hj HA.out fun p hp => Int.not_lt.2 (HB.out i p (Nat.le_refl _) hp)
          have HI : Hid (isAt l key = (cmpB t.1 key == 0)) := by
            show isAt l key = (cmpB t.1 key == 0)
            unfold isAt; rw [HP.out, HT.out]
            rw [Bool.eq_iff_iff, beq_iff_eq, beq_iff_eq, cmpB_eq]
          go_wp2_with fail
          refine (HPL.out t _ hg2).mono ?_
          rintro e w1 ⟨rfl, hb1⟩
          go_wp2
          go_ret2
          exact ⟨by rw [HP.out, HI.out]; rfl, hbw.trans (hb1.mono hbw.size)⟩
        · obtain rfl : i = l.length := by omega
          have hn : l[l.length]? = none := by simp
          have HP : Hid (placeL l key = l.length) := place_of l key l.length hj HA.out fun p hp => by rw [hn] at hp; cases hp
          have HI : Hid (isAt l key = false) := by
            show isAt l key = false
            unfold isAt; rw [HP.out, hn]
          clear hn
          go_wp2
          go_ret2
          exact ⟨by rw [HP.out, HI.out]; rfl, hbw⟩

set_option maxRecDepth 100000 in
theorem place_calls (v : Value) (l : List Pr) (key : Sg.B) (w : World) (hl : RowAt w v l.length (prCells l)) (hs : SortL l) (hll : l.length ≤ 10000) :
    Calls Tryz.prog 86 #[v, .string (ba key), .func (.func 87) #[] #[]] w fun e w' => e = .returned (.tuple #[.int .i64 (placeL l key), .bool (isAt l key)]) ∧ Below w.heap.size w w' := by
  have hb := (Below.refl w.heap.size w).alloc (Nat.le_refl _) (.cells #[Value.func (.func 87) #[] #[]] 173)
  have HS := Lib.hid (search_calls v l key w.heap.size _ (hl.below hb (Nat.le_refl _)) hs hll (by simp only [World.cell?, heap_alloc_new]; rfl))
  have HB := Lib.hid hb
  clear hb
  go_enter Tryz.func86, Tryz.ntmps86
  go_wp2_with (first | (go_at_call 108; refine HS.out.mono ?_; rintro e w1 ⟨rfl, hb1⟩))
  go_ret2
  exact ⟨rfl, HB.out.trans (hb1.mono (by simp))⟩
end Go.Proofs.YtpaioaljopjpkaaGreatDoor
