/- A node's New and Copy. Conditions: nodes as they are laid; the one that is copied from apart, where it is of a later epoch. -/
import Derived.Test.YtpaioaljopjpkaaGreatDoorNodeK
import Derived.Deep.QuietTactic
import Derived.BigQuiet
set_option linter.unusedVariables false
set_option linter.unusedSimpArgs false
namespace Go.Proofs.YtpaioaljopjpkaaGreatDoor
open Go.RowKit

theorem class_new (w : World) : Calls Tryz.prog 16 #[] w fun e w' => e = .returned (.pointer (some ⟨w.heap.size, 0, none⟩)) ∧ w' = w.alloc (.cells #[.int .u32 0, .int .i32 0, .int .u32 0, .map none] 132) := by
  go_enter Tryz.func16, Tryz.ntmps16
  go_wp2
  go_ret
  exact ⟨rfl, rfl⟩
def NodeS.new : NodeS := ⟨1, false, [], []⟩
def NewPost (w : World) (e : Ending) (w' : World) : Prop := ∃ c L, e = .returned (.pointer (some ⟨c, 0, none⟩)) ∧ NodeAt w' c L NodeS.new ∧ Below w.heap.size w w' ∧ ∀ k, L.fp c k → w.heap.size ≤ k
set_option maxRecDepth 100000 in
theorem new_calls (w : World) : Calls Tryz.prog 14 #[] w (NewPost w) := by
  have hmm := @run_makeMap Tryz.prog
  go_enter Tryz.func14, Tryz.ntmps14
  go_wp2_with (go_at_call 16; refine (class_new _).mono ?_; rintro e w1 ⟨rfl, rfl⟩)
  go_ret
  refine ⟨w.heap.size + 2, ⟨w.heap.size, w.heap.size + 1, none, .slice none 0 0, []⟩, by simp, ?_, ((((Below.refl _ _).alloc (Nat.le_refl _) _).alloc (by simp) _).alloc (by simp; omega) _), ?_⟩
  · have e1 : (w.alloc (.map #[] 0)).heap.size = w.heap.size + 1 := by simp
    have e2 : ((w.alloc (.map #[] 0)).alloc (.cells #[.int .u32 0, .int .i32 0, .int .u32 0, .map none] 132)).heap.size = w.heap.size + 2 := by simp
    have h3 := heap_alloc_new ((w.alloc (.map #[] 0)).alloc (.cells #[.int .u32 0, .int .i32 0, .int .u32 0, .map none] 132)) (.cells #[.int .u64 1, .bool false, .slice none 0 0, .map (some w.heap.size), .pointer (some ⟨w.heap.size + 1, 0, none⟩)] 116)
    have h2 := heap_old (o := .cells #[.int .u64 1, .bool false, .slice none 0 0, .map (some w.heap.size), .pointer (some ⟨w.heap.size + 1, 0, none⟩)] 116) (heap_alloc_new (w.alloc (.map #[] 0)) (.cells #[.int .u32 0, .int .i32 0, .int .u32 0, .map none] 132))
    have h1 := heap_old (o := .cells #[.int .u64 1, .bool false, .slice none 0 0, .map (some w.heap.size), .pointer (some ⟨w.heap.size + 1, 0, none⟩)] 116) (heap_old (o := .cells #[.int .u32 0, .int .i32 0, .int .u32 0, .map none] 132) (heap_alloc_new w (.map #[] 0)))
    rw [e2] at h3
    rw [e1] at h2
    refine ⟨h3, World.ownsRow_nil _ _ _ _, ⟨#[], 0, h1, rfl⟩, rfl, (fun i x p hx => by simp at hx), (fun i j x y _ hx => by simp at hx), h2, (fun mb e => by cases e), ⟨by decide, by simp [NodeS.new], (fun e he => by simp [NodeS.new] at he), (fun p hp => by simp [NodeS.new] at hp), by simp [NodeS.new]⟩⟩
  · intro k hk
    rcases hk with hk | hk | hk | hk | hk | ⟨x, hx, _⟩
    · omega
    · have hk : k = w.heap.size := hk
      omega
    · have hk : k = w.heap.size + 1 := hk
      omega
    · cases hk
    · cases hk
    · cases hx

/-- how many entries two logs begin with alike. -/
def commonL : List En → List En → Nat
  | a :: l, b :: m => if a = b then commonL l m + 1 else 0
  | _, _ => 0
theorem commonL_le : ∀ (a b : List En), commonL a b ≤ a.length ∧ commonL a b ≤ b.length
  | [], b => by simp [commonL]
  | a :: l, [] => by simp [commonL]
  | a :: l, b :: m => by
    have := commonL_le l m
    unfold commonL
    split <;> simp <;> omega
theorem commonL_take : ∀ (a b : List En), a.take (commonL a b) = b.take (commonL a b)
  | [], b => by simp [commonL]
  | a :: l, [] => by simp [commonL]
  | a :: l, b :: m => by
    have := commonL_take l m
    unfold commonL
    split
    · rename_i e; subst e; simp [this]
    · rfl
theorem commonL_of : ∀ (a b : List En) (k : Nat), k ≤ a.length → k ≤ b.length → a.take k = b.take k → (∀ x y, a[k]? = some x → b[k]? = some y → x ≠ y) → commonL a b = k
  | [], b, k, h1, _, _, _ => by simp at h1; subst h1; simp [commonL]
  | a :: l, [], k, _, h2, _, _ => by simp at h2; subst h2; simp [commonL]
  | a :: l, b :: m, 0, _, _, _, h => by unfold commonL; rw [if_neg (h a b rfl rfl)]
  | a :: l, b :: m, k + 1, h1, h2, ht, h => by
    simp only [List.take_succ_cons, List.cons.injEq] at ht
    unfold commonL
    rw [if_pos ht.1, commonL_of l m k (by simpa using h1) (by simpa using h2) ht.2 (fun x y hx hy => h x y (by simpa using hx) (by simpa using hy))]

def NodeS.upto (s t : NodeS) (most : Int) : Nat := min t.log.length (commonL s.log t.log + (max (min most 200) 0).toNat)
def NodeS.taken (s t : NodeS) (most : Int) : NodeS × Nat :=
  (⟨s.epoch, s.leads, s.log.take (commonL s.log t.log) ++ (t.log.drop (commonL s.log t.log)).take (s.upto t most - commonL s.log t.log), s.opn⟩, s.upto t most - commonL s.log t.log)
def NodeS.copy (s t : NodeS) (most : Int) : NodeS × Nat :=
  if t.epoch < s.epoch ∨ (t.epoch = s.epoch ∧ s.leads = true) then (s, 0) else if s.epoch < t.epoch then (s.atS t.epoch false).taken t most else s.taken t most

theorem slice43 (g off n c lo hi : Nat) (w : World) (h1 : lo ≤ hi) (h2 : hi ≤ n) (h3 : n ≤ c) (h4 : c ≤ 9223372036854775807) : (Instr.sliceAt 43 (.slice (some ⟨g, off, none⟩) n c) (some (.int .i64 lo)) (some (.int .i64 hi)) none).run Tryz.prog w = .ok (.slice (if c = lo then some ⟨g, off, none⟩ else some ⟨g, off + lo * 2, none⟩) (hi - lo) (c - lo)) w := by
  have h5 : ¬ c < hi := by omega
  go_simp
theorem slice43_nil (w : World) : (Instr.sliceAt 43 (.slice none 0 0) (some (.int .i64 0)) (some (.int .i64 0)) none).run Tryz.prog w = .ok (.slice none 0 0) w := by go_simp
theorem slice43_to (g off n c hi : Nat) (w : World) (h2 : hi ≤ n) (h3 : n ≤ c) (h4 : c ≤ 9223372036854775807) : (Instr.sliceAt 43 (.slice (some ⟨g, off, none⟩) n c) none (some (.int .i64 hi)) none).run Tryz.prog w = .ok (.slice (some ⟨g, off, none⟩) hi c) w := by
  have h5 : ¬ c < hi := by omega
  go_simp
theorem slice43_to_nil (w : World) : (Instr.sliceAt 43 (.slice none 0 0) none (some (.int .i64 0)) none).run Tryz.prog w = .ok (.slice none 0 0) w := by go_simp
/-- a part of an own row, read. -/
theorem cut_row {w : World} {l : List En} {v : Value} (h : w.ownsRow 0 73 2 v l.length (enCells l)) (lo hi : Nat) (h1 : lo ≤ hi) (h2 : hi ≤ l.length) :
    ∃ a c, (∀ w' : World, (Instr.sliceAt 43 v (some (.int .i64 lo)) (some (.int .i64 hi)) none).run Tryz.prog w' = .ok (.slice a (hi - lo) c) w') ∧ RowAt w (.slice a (hi - lo) c) (hi - lo) (enCells ((l.drop lo).take (hi - lo))) ∧ (a = none → hi - lo = 0) := by
  rcases h.2 with ⟨rfl, h0⟩ | ⟨g, cap, cur, rfl, hb, hg, hn, hm, hs, ht⟩
  · have hl : l = [] := List.eq_nil_of_length_eq_zero h0
    subst hl
    obtain rfl : hi = 0 := by simpa using h2
    obtain rfl : lo = 0 := by omega
    exact ⟨none, 0, fun w' => slice43_nil w', ⟨none, 0, rfl, by simp, by decide, fun h => absurd h (by simp)⟩, fun _ => rfl⟩
  · unfold maxLen at hm
    refine ⟨_, _, fun w' => slice43 g 0 l.length cap lo hi w' h1 h2 hn hm, ?_, fun e => by split at e <;> cases e⟩
    have key : ∀ (a : Option Addr), (0 < hi - lo → a = some ⟨g, lo * 2, none⟩) → RowAt w (.slice a (hi - lo) (cap - lo)) (hi - lo) (enCells ((l.drop lo).take (hi - lo))) := fun a ha =>
      ⟨a, cap - lo, rfl, by omega, by unfold maxLen; omega, fun h0 => ⟨g, lo * 2, cur, 73, (0, 0), ha h0, hg, fun j u hj => by
        rw [enCells_take, enCells_drop, ← ht] at hj
        have hjl : j < (hi - lo) * 2 := by
          have := (List.getElem?_eq_some_iff.1 hj).1
          rw [List.length_take] at this; omega
        rw [List.getElem?_take_of_lt hjl, List.getElem?_drop, List.getElem?_take_of_lt (by omega)] at hj
        simpa using hj⟩⟩
    split
    · rename_i e
      exact key _ fun h0 => by omega
    · exact key _ fun h0 => by rw [Nat.zero_add]
theorem cut_to {w : World} {l : List En} {v : Value} (h : w.ownsRow 0 73 2 v l.length (enCells l)) (hi : Nat) (h2 : hi ≤ l.length) :
    ∃ a c, (∀ w' : World, (Instr.sliceAt 43 v none (some (.int .i64 hi)) none).run Tryz.prog w' = .ok (.slice a hi c) w') ∧ RowAt w (.slice a hi c) hi (enCells (l.take hi)) ∧ (a = none → hi = 0) := by
  rcases h.2 with ⟨rfl, h0⟩ | ⟨g, cap, cur, rfl, hb, hg, hn, hm, hs, ht⟩
  · have hl : l = [] := List.eq_nil_of_length_eq_zero h0
    subst hl
    obtain rfl : hi = 0 := by simpa using h2
    exact ⟨none, 0, fun w' => slice43_to_nil w', ⟨none, 0, rfl, by simp, by decide, fun h => absurd h (by simp)⟩, fun _ => rfl⟩
  · unfold maxLen at hm
    refine ⟨_, _, fun w' => slice43_to g 0 l.length cap hi w' h2 hn hm, ?_, fun e => by cases e⟩
    refine ⟨_, cap, rfl, by omega, by unfold maxLen; omega, fun h0 => ⟨g, 0, cur, 73, (0, 0), rfl, hg, fun j u hj => ?_⟩⟩
    rw [enCells_take, ← ht] at hj
    have hjl : j < hi * 2 := by
      have := (List.getElem?_eq_some_iff.1 hj).1
      rw [List.length_take] at this; omega
    rw [List.getElem?_take_of_lt hjl, List.getElem?_take_of_lt (by omega)] at hj
    simpa using hj

set_option maxRecDepth 100000 in
set_option maxHeartbeats 2000000 in
theorem copy_no (w : World) (c : Nat) (L : NodeL) (s : NodeS) (h : NodeAt w c L s) (d : Nat) (M : NodeL) (t : NodeS) (hd : NodeAt w d M t) (most : Int) (hst : t.epoch < s.epoch ∨ (t.epoch = s.epoch ∧ s.leads = true)) :
    Calls Tryz.prog 36 #[.pointer (some ⟨c, 0, none⟩), .pointer (some ⟨d, 0, none⟩), .int .i64 most] w fun e w' => e = .returned (.int .i64 0) ∧ Below w.heap.size w w' := by
  have mixed : Tryz.prog.follows Departure.mixedOrders = true := by kernel_rfl
  have c0 := h.cell0
  have c1 := h.cell1
  have d0 := hd.cell0
  clear h hd
  rcases hst with h1 | ⟨h1, h2⟩
  · have b1 : decide (t.epoch < s.epoch) = true := by simpa using h1
    clear h1
    go_enter Tryz.func36, Tryz.ntmps36
    go_wp2
    go_quiet (fail)
    go_wp2
    go_ret
    exact ⟨rfl, below_drewN (Below.refl _ _) _⟩
  · have b1 : decide (t.epoch < s.epoch) = false := by simp [h1]
    have b2 : ((t.epoch : Int) == (s.epoch : Int)) = true := by simp [h1]
    rw [h2] at c1
    clear h1 h2
    go_enter Tryz.func36, Tryz.ntmps36
    go_wp2
    go_quiet (fail)
    go_wp2
    go_ret
    exact ⟨rfl, below_drewN (Below.refl _ _) _⟩
end Go.Proofs.YtpaioaljopjpkaaGreatDoor
