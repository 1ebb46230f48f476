/- The map of rules of a classer, and the closure that fills it. Conditions: the classer's cells as they are laid. -/
import Derived.Test.YtpaioaljopjpkaaGreatDoorOnce
import Derived.Test.YtpaioaljopjpkaaGreatDoorMem
import Derived.Test.YtpaioaljopjpkaaGreatDoorReg
import Derived.Laws.EntriesVeiled
namespace Go.Proofs.YtpaioaljopjpkaaGreatDoor
open Go.RowKit

inductive Rule where
  | explain | begin | start | set | asks
  | ends (n : Nat) | always (n : Nat)

def rules1 : List (Sg.B × Rule) := [([69, 88, 80, 76, 65, 73, 78], .explain), ([66, 69, 71, 73, 78], .begin), ([83, 84, 65, 82, 84], .start), ([67, 79, 77, 77, 73, 84], (.ends 4)), ([82, 79, 76, 76, 66, 65, 67, 75], (.ends 5)), ([83, 69, 84], .set)]
def rules2 : List Sg.B := [[83, 72, 79, 87], [68, 69, 83, 67, 82, 73, 66, 69], [68, 69, 83, 67]]
def rules3 : List Sg.B := [[73, 78, 83, 69, 82, 84], [85, 80, 68, 65, 84, 69], [68, 69, 76, 69, 84, 69], [82, 69, 80, 76, 65, 67, 69], [67, 82, 69, 65, 84, 69], [68, 82, 79, 80], [65, 76, 84, 69, 82], [84, 82, 85, 78, 67, 65, 84, 69], [71, 82, 65, 78, 84], [82, 69, 86, 79, 75, 69], [67, 65, 76, 76], [76, 79, 67, 75]]
def rules4 : List Sg.B := [[83, 69, 76, 69, 67, 84], [86, 65, 76, 85, 69, 83], [84, 65, 66, 76, 69], [87, 73, 84, 72]]
def rulesAll : List (Sg.B × Rule) := rules1 ++ rules2.map (·, Rule.always 1) ++ rules3.map (·, Rule.always 2) ++ rules4.map (·, Rule.asks)

/-- a rule's value, in blocks from base on. -/
def RuleV (w : World) : Rule → Value → Prop
  | .explain, v => v = .func (.func 136) #[] #[]
  | .begin, v => v = .func (.func 137) #[] #[]
  | .start, v => v = .func (.func 138) #[] #[]
  | .set, v => v = .func (.func 140) #[] #[]
  | .asks, v => v = .func (.func 142) #[] #[]
  | .ends n, v => ∃ b, v = .func (.func 171) #[] #[.pointer (some ⟨b, 0, none⟩)] ∧ w.heap[b]? = some (.cells #[.int .i64 n] 3 (0, 0))
  | .always n, v => ∃ b, v = .func (.func 172) #[] #[.pointer (some ⟨b, 0, none⟩)] ∧ w.heap[b]? = some (.cells #[.int .i64 n] 3 (0, 0))

theorem RuleV.keep {w w' : World} {r : Rule} {v : Value} (h : RuleV w r v) (hk : ∀ (b n : Nat), w.heap[b]? = some (Obj.cells #[.int .i64 (n : Int)] 3 (0, 0)) → w'.heap[b]? = w.heap[b]?) : RuleV w' r v := by
  cases r with
  | ends n => obtain ⟨b, h1, h2⟩ := h; exact ⟨b, h1, by rw [hk b _ h2]; exact h2⟩
  | always n => obtain ⟨b, h1, h2⟩ := h; exact ⟨b, h1, by rw [hk b _ h2]; exact h2⟩
  | _ => exact h

/-- entries that hold the rules of S, and no others. -/
def RulesIn (w : World) (es : Array MapEntry) (S : Sg.B → Rule → Prop) : Prop :=
  (∀ e ∈ es.toList, ∃ k r, S k r ∧ e.key = .string (ba k) ∧ RuleV w r e.val) ∧ (∀ k r, S k r → ∃ e ∈ es.toList, e.key = .string (ba k))

theorem RulesIn.keep {w w' : World} {es : Array MapEntry} {S : Sg.B → Rule → Prop} (h : RulesIn w es S) (hk : ∀ (b n : Nat), w.heap[b]? = some (Obj.cells #[.int .i64 (n : Int)] 3 (0, 0)) → w'.heap[b]? = w.heap[b]?) : RulesIn w' es S :=
  ⟨fun e he => let ⟨k, r, h1, h2, h3⟩ := h.1 e he; ⟨k, r, h1, h2, RuleV.keep h3 hk⟩, h.2⟩
theorem RulesIn.keys {w : World} {es : Array MapEntry} {S : Sg.B → Rule → Prop} (h : RulesIn w es S) : ∀ x ∈ es.toList, MapKept.IsKey .string x.key := fun x hx => by
  obtain ⟨k, r, _, h2, _⟩ := h.1 x hx
  rw [h2]; trivial
theorem RulesIn.new {w : World} {es : Array MapEntry} {S : Sg.B → Rule → Prop} (h : RulesIn w es S) (k : Sg.B) (hk : ∀ r, ¬ S k r) : Instr.findNow .string (.string (ba k)) es.toList 0 = some none := by
  rcases MapKept.findNow_spec (d := .string) (k := .string (ba k)) trivial es.toList 0 h.keys with h1 | ⟨j, e, h1, h2, h3⟩
  · exact h1.1
  · obtain ⟨k', r, h4, h5, _⟩ := h.1 e (List.mem_of_getElem? h2)
    rw [h5] at h3
    have : k' = k := ba_inj (by injection h3)
    exact absurd (this ▸ h4) (hk r)
theorem RulesIn.push {w : World} {es : Array MapEntry} {S S' : Sg.B → Rule → Prop} (h : RulesIn w es S) (k : Sg.B) (r : Rule) (v : Value) (ck : Nat) (hv : RuleV w r v) (hS : ∀ k' r', S' k' r' ↔ (S k' r' ∨ (k' = k ∧ r' = r))) :
    RulesIn w (es.push { key := .string (ba k), val := v, born := ck }) S' := by
  constructor
  · intro e he
    rw [Array.toList_push, List.mem_append] at he
    rcases he with he | he
    · obtain ⟨k', r', h1, h2, h3⟩ := h.1 e he
      exact ⟨k', r', (hS k' r').2 (.inl h1), h2, h3⟩
    · simp at he; subst he
      exact ⟨k, r, (hS k r).2 (.inr ⟨rfl, rfl⟩), rfl, hv⟩
  · intro k' r' h'
    rcases (hS k' r').1 h' with h1 | ⟨rfl, rfl⟩
    · obtain ⟨e, he, h2⟩ := h.2 k' r' h1
      exact ⟨e, by rw [Array.toList_push]; exact List.mem_append_left _ he, h2⟩
    · exact ⟨_, by rw [Array.toList_push]; exact List.mem_append_right _ (List.mem_singleton.2 rfl), rfl⟩
theorem RulesIn.look {w : World} {es : Array MapEntry} {S : Sg.B → Rule → Prop} (h : RulesIn w es S) (k : Sg.B) (r : Rule) (hk : S k r) (hone : ∀ r', S k r' → r' = r) :
    ∃ i v, Instr.findNow .string (.string (ba k)) es.toList 0 = some (some (i, v)) ∧ RuleV w r v := by
  rcases MapKept.findNow_spec (d := .string) (k := .string (ba k)) trivial es.toList 0 h.keys with h1 | ⟨j, e, h1, h2, h3⟩
  · obtain ⟨e, he, h2⟩ := h.2 k r hk
    exact absurd h2 (h1.2 e he)
  · obtain ⟨k', r', h4, h5, h6⟩ := h.1 e (List.mem_of_getElem? h2)
    rw [h5] at h3
    have : k' = k := ba_inj (by injection h3)
    subst this
    rw [hone r' h4] at h6
    exact ⟨_, _, h1, h6⟩
end Go.Proofs.YtpaioaljopjpkaaGreatDoor
