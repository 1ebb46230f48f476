/- Walks of class's small functions over tokens. Conditions: the slice of tokens reads as a list. -/
import Derived.Test.YtpaioaljopjpkaaGreatDoorLexD
namespace Go.Proofs.YtpaioaljopjpkaaGreatDoor
open Go.RowKit

def tokV (t : Sg.Tok) : Value := .agg #[.int .i64 t.kind, .string ⟨t.text.toArray⟩]

theorem isHint_calls (t : Sg.Tok) (w : World) : Calls Tryz.prog 63 #[tokV t] w fun e w' => e = .returned (.bool ((t.kind : Int) == 5)) ∧ Below w.heap.size w w' := by
  unfold tokV
  go_enter Tryz.func63, Tryz.ntmps63
  go_wp2
  go_ret
  exact ⟨rfl, (Below.refl _ _).alloc (Nat.le_refl _) _⟩

def isSign (t : Sg.Tok) : Bool := t.kind == 6 && t.text == [59]

theorem sign_calls (t : Sg.Tok) (w : World) : Calls Tryz.prog 64 #[tokV t] w fun e w' => e = .returned (.bool (isSign t)) ∧ Below w.heap.size w w' := by
  unfold tokV
  go_enter Tryz.func64, Tryz.ntmps64
  go_wp2
  all_goals
    go_ret
    refine ⟨ret_bool ?_, (Below.refl _ _).alloc (Nat.le_refl _) _⟩
    simp_all [isSign]
    try omega

/-- A slice's value that reads as a list of tokens, whatever its row. -/
def TokAt (w : World) (v : Value) (l : List Sg.Tok) : Prop :=
  ∃ (a : Option Addr) (c : Nat), v = .slice a l.length c ∧ l.length ≤ c ∧ c ≤ maxLen ∧
    (0 < l.length → ∃ g off cur T fz, a = some ⟨g, off, none⟩ ∧ w.heap[g]? = some (.cells cur T fz) ∧
      ∀ i t, l[i]? = some t → cur[off + i * 2]? = some (.int .i64 t.kind) ∧ cur[off + i * 2 + 1]? = some (.string ⟨t.text.toArray⟩))

theorem TokAt.below {w w1 : World} {v : Value} {l : List Sg.Tok} {B : Nat} (h : TokAt w v l) (hb : Below B w w1) (hB : w.heap.size ≤ B) : TokAt w1 v l := by
  obtain ⟨a, c, rfl, h1, h2, h3⟩ := h
  refine ⟨a, c, rfl, h1, h2, fun h0 => ?_⟩
  obtain ⟨g, off, cur, T, fz, ha, hg, hc⟩ := h3 h0
  refine ⟨g, off, cur, T, fz, ha, ?_, hc⟩
  rw [hb.block g (by have := (Array.getElem?_eq_some_iff.1 hg).1; omega)]
  exact hg

theorem TokAt.cells {w : World} {v : Value} {l : List Sg.Tok} (h : TokAt w v l) (h0 : 0 < l.length) : ∃ g off c, v = .slice (some ⟨g, off, none⟩) l.length c ∧ l.length ≤ c ∧ c ≤ maxLen ∧ g < w.heap.size ∧
    ∀ i t, l[i]? = some t → w.cell? ⟨g, off + i * 2, none⟩ = some (.int .i64 t.kind) ∧ w.cell? ⟨g, off + i * 2 + 1, none⟩ = some (.string ⟨t.text.toArray⟩) := by
  obtain ⟨a, c, rfl, h1, h2, h3⟩ := h
  obtain ⟨g, off, cur, T, fz, rfl, hg, hc⟩ := h3 h0
  refine ⟨g, off, c, rfl, h1, h2, (Array.getElem?_eq_some_iff.1 hg).1, fun i t ht => ?_⟩
  have := hc i t ht
  simp [World.cell?, hg, this.1, this.2]

/-- the first that pays a test: its place, or -1. -/
def idxOf (p : Sg.Tok → Bool) (l : List Sg.Tok) : Int :=
  match l.findIdx? p with
  | some i => i
  | none => -1

theorem idxOf_hit (p : Sg.Tok → Bool) (l : List Sg.Tok) (k : Nat) (t : Sg.Tok) (ht : l[k]? = some t) (hp : p t = true) (hall : ∀ (j : Nat) (u : Sg.Tok), j < k → l[j]? = some u → p u = false) : idxOf p l = k := by
  unfold idxOf
  have hk := (List.getElem?_eq_some_iff.1 ht).1
  have : l.findIdx? p = some k := by
    rw [List.findIdx?_eq_some_iff_getElem]
    refine ⟨hk, ?_, fun j hj => ?_⟩
    · have := (List.getElem?_eq_some_iff.1 ht).2; rw [this]; exact hp
    · have := hall j l[j] hj (List.getElem?_eq_getElem (by omega)); simp [this]
  rw [this]
theorem idxOf_none (p : Sg.Tok → Bool) (l : List Sg.Tok) (hall : ∀ (j : Nat) (u : Sg.Tok), l[j]? = some u → p u = false) : idxOf p l = -1 := by
  unfold idxOf
  have : l.findIdx? p = none := by
    rw [List.findIdx?_eq_none_iff]
    intro x hx
    obtain ⟨j, hj, rfl⟩ := List.mem_iff_getElem.1 hx
    exact hall j _ (List.getElem?_eq_getElem hj)
  rw [this]

def Pays (g : FuncId) (p : Sg.Tok → Bool) : Prop :=
  (∀ args w, (callFunc g args).run Tryz.prog w = .ok (.enter g args) w) ∧
  ∀ (t : Sg.Tok) (w : World), Calls Tryz.prog g #[.agg #[.int .i64 t.kind, .string ⟨t.text.toArray⟩]] w fun e w' => e = .returned (.bool (p t)) ∧ Below w.heap.size w w'

set_option maxHeartbeats 1000000 in
theorem indexFunc_calls (g : FuncId) (p : Sg.Tok → Bool) (hp : Pays g p) (v : Value) (l : List Sg.Tok) (w : World) (hl : TokAt w v l) :
    Calls Tryz.prog 95 #[v, .func (.func g) #[] #[]] w fun e w' => e = .returned (.int .i64 (idxOf p l)) ∧ Below w.heap.size w w' := by
  by_cases h0 : l.length = 0
  · obtain rfl : l = [] := List.eq_nil_of_length_eq_zero h0
    obtain ⟨a, c, rfl, _⟩ := hl
    go_enter Tryz.func95, Tryz.ntmps95
    go_wp2
    go_loopg [8] 0 (fun n i wr => i = .int .i64 0 ∧ Below w.heap.size w wr)
    case atStart => exact ⟨rfl, Below.refl _ _⟩
    case round =>
      obtain ⟨rfl, hbw⟩ := hrel
      go_wp2
      go_ret
      exact ⟨rfl, hbw⟩
  · obtain ⟨g1, off, c, rfl, hc1, hc2, hg1, hcell⟩ := hl.cells (by omega)
    have HC := Lib.hid hcell; clear hcell hl
    obtain ⟨hcall, hpay⟩ := hp
    have HP := Lib.hid hpay; clear hpay
    unfold maxLen at hc2
    go_enter Tryz.func95, Tryz.ntmps95
    go_wp2
    go_loopg [8] l.length (fun n i wr => ∃ k : Nat, n + k = l.length ∧ i = .int .i64 k ∧ Below w.heap.size w wr ∧ Hid (∀ j t, j < k → l[j]? = some t → p t = false))
    case atStart => exact ⟨0, by omega, rfl, Below.refl _ _, fun j t h => absurd h (by omega)⟩
    case round =>
      obtain ⟨k, hk, rfl, hbw, HA⟩ := hrel
      by_cases hlt : k < l.length
      · obtain ⟨t, ht⟩ : ∃ t, l[k]? = some t := ⟨l[k], List.getElem?_eq_getElem hlt⟩
        have hc := HC.out k t ht
        have q0 : wr.cell? ⟨g1, off + k * 2, none⟩ = some (.int .i64 t.kind) := (hbw.cell (p := ⟨g1, off + k * 2, none⟩) hg1).trans hc.1
        have q1 : wr.cell? ⟨g1, off + k * 2 + 1, none⟩ = some (.string ⟨t.text.toArray⟩) := (hbw.cell (p := ⟨g1, off + k * 2 + 1, none⟩) hg1).trans hc.2
        clear hc
        go_wp2_with fail
        refine (HP.out t _).mono ?_
        rintro e w1 ⟨rfl, hb1⟩
        go_wp2
        · have hpt : p t = true := by assumption
          go_ret
          refine ⟨ret_int ?_, hbw.trans (hb1.mono (by have := hbw.size; omega))⟩
          rw [idxOf_hit p l k t ht hpt HA.out]
        · have hpt : p t = false := by assumption
          go_roundg (l.length - (k + 1))
          case measure => omega
          case rel =>
            refine ⟨k + 1, by omega, by go_num, hbw.trans (hb1.mono (by have := hbw.size; omega)), fun j u hj hu => ?_⟩
            rcases Nat.lt_succ_iff_lt_or_eq.1 hj with h' | rfl
            · exact HA.out j u h' hu
            · rw [ht] at hu; cases hu; exact hpt
      · go_wp2
        go_ret
        refine ⟨ret_int ?_, hbw⟩
        rw [idxOf_none p l (fun j t hj => HA.out j t (by have := (List.getElem?_eq_some_iff.1 hj).1; omega) hj)]

theorem pays_sign : Pays 64 isSign := ⟨fun args w => by go_simp, fun t w => sign_calls t w⟩
theorem pays_hint : Pays 63 (fun t => (t.kind : Int) == 5) := ⟨fun args w => by go_simp, fun t w => isHint_calls t w⟩

theorem containsFunc_calls (v : Value) (l : List Sg.Tok) (w : World) (hl : TokAt w v l) :
    Calls Tryz.prog 96 #[v, .func (.func 64) #[] #[]] w fun e w' => e = .returned (.bool (l.any isSign)) ∧ Below w.heap.size w w' := by
  have hid : (decide (0 ≤ idxOf isSign l)) = l.any isSign := by
    unfold idxOf
    cases h : l.findIdx? isSign with
    | none =>
      rw [List.findIdx?_eq_none_iff] at h
      have : l.any isSign = false := by rw [List.any_eq_false]; intro x hx; simp [h x hx]
      simp [this]
    | some i =>
      rw [List.findIdx?_eq_some_iff_getElem] at h
      obtain ⟨hi, h1, _⟩ := h
      have : l.any isSign = true := by rw [List.any_eq_true]; exact ⟨_, List.getElem_mem hi, h1⟩
      simp [this]
  have HI := Lib.hid hid; clear hid
  have HC := Lib.hid (indexFunc_calls 64 isSign pays_sign v l w hl)
  obtain ⟨a, c, rfl, _⟩ := hl
  generalize idxOf isSign l = k at *
  go_enter Tryz.func96, Tryz.ntmps96
  go_wp2_with (go_at_call 95; refine HC.out.mono ?_; rintro e w1 ⟨rfl, hb1⟩)
  go_ret
  exact ⟨ret_bool HI.out, hb1⟩
end Go.Proofs.YtpaioaljopjpkaaGreatDoor
