/- sync.Once at a classer, and (*Classer).begins. Conditions: the classer fresh, or filled. -/
import Derived.Test.YtpaioaljopjpkaaGreatDoorClsG
set_option linter.unusedVariables false
set_option linter.unusedSimpArgs false
namespace Go.Proofs.YtpaioaljopjpkaaGreatDoor
open Go.RowKit

theorem Filled.set0 {w w' : World} {c mb : Nat} {x0 x1 x2 : Value} {S : Sg.B → Rule → Prop} (h : Filled w c mb x0 x1 x2 S w') (v : Value) : Filled w c mb v x1 x2 S (w'.setCell ⟨c, 0, none⟩ v) := by
  obtain ⟨h1, h2, ⟨es, ck, h3, h4⟩, h5⟩ := h
  refine ⟨?_, h2, ⟨es, ck, ?_, h4.keep fun b n hb => box_set _ _ _ _ _ h1 b n hb⟩, h5.setCell (.inr rfl) _⟩
  · rw [setCell_row _ _ _ _ _ _ _ h1]; rfl
  · rw [Below.heap_setCell _ _ _ _ (fun e => by simp only at e; rw [← e, h3] at h1; cases h1)]; exact h3
theorem Filled.set1 {w w' : World} {c mb : Nat} {x0 x1 x2 : Value} {S : Sg.B → Rule → Prop} (h : Filled w c mb x0 x1 x2 S w') (v : Value) : Filled w c mb x0 v x2 S (w'.setCell ⟨c, 1, none⟩ v) := by
  obtain ⟨h1, h2, ⟨es, ck, h3, h4⟩, h5⟩ := h
  refine ⟨?_, h2, ⟨es, ck, ?_, h4.keep fun b n hb => box_set _ _ _ _ _ h1 b n hb⟩, h5.setCell (.inr rfl) _⟩
  · rw [setCell_row _ _ _ _ _ _ _ h1]; rfl
  · rw [Below.heap_setCell _ _ _ _ (fun e => by simp only at e; rw [← e, h3] at h1; cases h1)]; exact h3
theorem Filled.base {w w1 w' : World} {c mb : Nat} {x0 x1 x2 : Value} {S : Sg.B → Rule → Prop} (h : Filled w1 c mb x0 x1 x2 S w') (hk : Keeps (· = c) w w1) : Filled w c mb x0 x1 x2 S w' :=
  ⟨h.hc, Nat.le_trans hk.size h.hmb, h.hm, hk.then h.hk fun i _ e => e⟩

set_option maxRecDepth 100000 in
set_option maxHeartbeats 1600000 in
theorem slow_calls (pl c : Nat) (x2 : Value) (w : World) (hp : w.cell? ⟨pl, 0, none⟩ = some (.pointer (some ⟨c, 0, none⟩))) (hpc : pl ≠ c)
    (hc : w.heap[c]? = some (.cells #[.int .u32 0, .int .i32 0, x2, .map none] 132 (0, 0))) :
    Calls Tryz.prog 169 #[.pointer (some ⟨c, 0, none⟩), .func (.func 135) #[] #[.pointer (some ⟨pl, 0, none⟩)]] w fun e w' => e = .returned (.tuple #[]) ∧ ∃ mb, Filled w c mb (.int .u32 1) (.int .i32 0) x2 (S4 4) w' := by
  have q0 : w.cell? ⟨c, 0, none⟩ = some (.int .u32 0) := by simp [World.cell?, hc]
  have q1 : w.cell? ⟨c, 1, none⟩ = some (.int .i32 0) := by simp [World.cell?, hc]
  have z1 : w.frozen? ⟨c, 1, none⟩ = false := by simp [World.frozen?, hc]
  have hl := run_call_load (P := Tryz.prog) Tryz.func199 (by kernel_rfl) (by kernel_rfl) (by kernel_rfl) .u32 (by kernel_rfl) (w := w.setCell ⟨c, 1, none⟩ (.int .i32 1)) (a := ⟨c, 0, none⟩) (x := 0) ((World.cell?_setCell_other _ ⟨c, 1, none⟩ ⟨c, 0, none⟩ _ (by simp)).trans q0)
  have hnot : ∀ (x : Bool) (w : World), (Op.unary .not (.bool x)).run Tryz.prog w = .ok (.bool (!x)) w := fun _ _ => rfl
  have HF := Lib.hid (fill_calls pl c (.int .u32 0) (.int .i32 1) x2 (w.setCell ⟨c, 1, none⟩ (.int .i32 1)) ((World.cell?_setCell_other _ ⟨c, 1, none⟩ ⟨pl, 0, none⟩ _ (by simp)).trans hp) hpc (by rw [setCell_row _ _ _ _ _ _ _ hc]; rfl))
  have hk1 := Lib.hid ((Keeps.refl (· = c) w).setCell (p := ⟨c, 1, none⟩) (.inr rfl) (.int .i32 1))
  go_enter_defers Tryz.func169, Tryz.ntmps169
  go_wp2_with (first | (go_at_call 200; refine (lock_free ⟨c, 1, none⟩ _ (by go_simp) (by go_simp)).mono ?_; rintro e w' ⟨rfl, rfl⟩) | (go_at_call 135; refine HF.out.mono ?_; rintro e w2 ⟨rfl, mb, hF2⟩; have HF2 := Lib.hid (hF2.base hk1.out); clear hF2) | (go_at_call 168; go_in))
  have hc2 := HF2.out.hc
  refine leaves_cons (f := 202) (args := #[.pointer (some ⟨c, 0, none⟩), .bool true]) (by simp) (by simp [go_sem]) ?_
  refine (store_deferred ⟨c, 0, none⟩ (.int .u32 0) .returning _ (by simp [World.cell?, hc2]) (by simp [World.frozen?, hc2])).mono ?_
  rintro e u' w3 ⟨rfl, rfl, hw3⟩
  have hF3 : Filled w c mb (.int .u32 1) (.int .i32 1) x2 (S4 4) w3 := by rw [hw3]; exact HF2.out.drew.set0 _
  clear hw3
  have hc3 := hF3.hc
  have HF3 := Lib.hid hF3; clear hF3
  refine leaves_cons (f := 201) (args := #[.pointer (some ⟨c, 1, none⟩)]) (by simp [settle]) (by simp [go_sem]) ?_
  refine (unlock_deferred ⟨c, 1, none⟩ _ _ (by simp [World.cell?, hc3]) (by simp [World.frozen?, hc3])).mono ?_
  rintro e u' w4 ⟨rfl, rfl, hw4⟩
  have HF4 : Hid (Filled w c mb (.int .u32 1) (.int .i32 0) x2 (S4 4) w4) := by rw [hw4]; exact HF3.out.set1 _
  clear hw4
  simp [Leaves, settle, results, Tryz.results169]
  exact ⟨mb, HF4.out⟩

set_option maxRecDepth 100000 in
set_option maxHeartbeats 1600000 in
theorem do_first (pl c : Nat) (x2 : Value) (w : World) (hp : w.cell? ⟨pl, 0, none⟩ = some (.pointer (some ⟨c, 0, none⟩))) (hpc : pl ≠ c)
    (hc : w.heap[c]? = some (.cells #[.int .u32 0, .int .i32 0, x2, .map none] 132 (0, 0))) :
    Calls Tryz.prog 134 #[.pointer (some ⟨c, 0, none⟩), .func (.func 135) #[] #[.pointer (some ⟨pl, 0, none⟩)]] w fun e w' => e = .returned (.tuple #[]) ∧ ∃ mb, Filled w c mb (.int .u32 1) (.int .i32 0) x2 (S4 4) w' := by
  have q0 : w.cell? ⟨c, 0, none⟩ = some (.int .u32 0) := by simp [World.cell?, hc]
  have hl := run_call_load (P := Tryz.prog) Tryz.func199 (by kernel_rfl) (by kernel_rfl) (by kernel_rfl) .u32 (by kernel_rfl) q0
  have hnot : ∀ (x : Bool) (w : World), (Op.unary .not (.bool x)).run Tryz.prog w = .ok (.bool (!x)) w := fun _ _ => rfl
  have HS := Lib.hid (slow_calls pl c x2 w hp hpc hc)
  go_enter Tryz.func134, Tryz.ntmps134
  go_wp2_with (first | (go_at_call 169; refine HS.out.mono ?_; rintro e w2 ⟨rfl, hx⟩) | (go_at_call 168; go_in))
  go_end0
  exact ⟨rfl, hx⟩

set_option maxRecDepth 100000 in
theorem do_done (c : Nat) (fv x1 x2 x3 : Value) (w : World) (hc : w.heap[c]? = some (.cells #[.int .u32 1, x1, x2, x3] 132 (0, 0))) :
    Calls Tryz.prog 134 #[.pointer (some ⟨c, 0, none⟩), fv] w fun e w' => e = .returned (.tuple #[]) ∧ w' = w := by
  have q0 : w.cell? ⟨c, 0, none⟩ = some (.int .u32 1) := by simp [World.cell?, hc]
  have hl := run_call_load (P := Tryz.prog) Tryz.func199 (by kernel_rfl) (by kernel_rfl) (by kernel_rfl) .u32 (by kernel_rfl) q0
  have hnot : ∀ (x : Bool) (w : World), (Op.unary .not (.bool x)).run Tryz.prog w = .ok (.bool (!x)) w := fun _ _ => rfl
  go_enter Tryz.func134, Tryz.ntmps134
  go_wp2
  go_end0
  exact ⟨rfl, rfl⟩

/-- a classer: fresh, or filled with its map in a block. -/
def ClsAt (w : World) (c : Nat) : Option Nat → Prop
  | none => w.heap[c]? = some (.cells #[.int .u32 0, .int .i32 0, .int .u32 0, .map none] 132 (0, 0))
  | some mb => w.heap[c]? = some (.cells #[.int .u32 1, .int .i32 0, .int .u32 0, .map (some mb)] 132 (0, 0)) ∧ ∃ es ck, w.heap[mb]? = some (.map es ck) ∧ RulesIn w es (S4 4)
theorem ClsAt.lt {w : World} {c : Nat} {mo : Option Nat} (h : ClsAt w c mo) : c < w.heap.size := by
  cases mo with
  | none => exact (Array.getElem?_eq_some_iff.1 h).1
  | some mb => exact (Array.getElem?_eq_some_iff.1 h.1).1
/-- what does not turn the classer's block, its map, and no box leaves it a classer. -/
theorem ClsAt.keep {w w' : World} {c : Nat} {mo : Option Nat} (h : ClsAt w c mo) (hc : w'.heap[c]? = w.heap[c]?) (hm : ∀ mb, mo = some mb → w'.heap[mb]? = w.heap[mb]?)
    (hk : ∀ (b n : Nat), w.heap[b]? = some (Obj.cells #[.int .i64 (n : Int)] 3 (0, 0)) → w'.heap[b]? = w.heap[b]?) : ClsAt w' c mo := by
  cases mo with
  | none => exact hc.trans h
  | some mb =>
    obtain ⟨h1, es, ck, h2, h3⟩ := h
    exact ⟨hc.trans h1, es, ck, (hm mb rfl).trans h2, h3.keep hk⟩
theorem ClsAt.below {w w' : World} {c : Nat} {mo : Option Nat} (h : ClsAt w c mo) {B : Nat} (hb : Below B w w') (hB : w.heap.size ≤ B) : ClsAt w' c mo := by
  refine h.keep (hb.block c (by have := h.lt; omega)) (fun mb e => hb.block mb ?_) (fun b n hbn => hb.block b (by have := (Array.getElem?_eq_some_iff.1 hbn).1; omega))
  subst e
  obtain ⟨_, es, ck, h2, _⟩ := h
  have := (Array.getElem?_eq_some_iff.1 h2).1
  omega

set_option maxRecDepth 100000 in
set_option maxHeartbeats 1600000 in
theorem begins_calls (c : Nat) (mo : Option Nat) (w : World) (hc : ClsAt w c mo) :
    Calls Tryz.prog 97 #[.pointer (some ⟨c, 0, none⟩)] w fun e w' => ∃ mb, e = .returned (.map (some mb)) ∧ ClsAt w' c (some mb) ∧ Keeps (· = c) w w' ∧ (mo = some mb ∨ (mo = none ∧ w.heap.size ≤ mb)) := by
  have hlt := hc.lt
  have hmf : ∀ (fn : Fn) (first cap : Array Value) (w : World), (Instr.makeFunc fn first cap).run Tryz.prog w = .ok (.func fn first cap) w := fun _ _ _ _ => rfl
  have hc1 := hc.below ((Below.refl _ _).alloc (Nat.le_refl _) (.cells #[.pointer (some ⟨c, 0, none⟩)] 28)) (Nat.le_refl _)
  cases mo with
  | none =>
    have HD := Lib.hid (do_first w.heap.size c (.int .u32 0) (w.alloc (.cells #[.pointer (some ⟨c, 0, none⟩)] 28)) (by simp) (by omega) hc1)
    have hkk := Lib.hid ((Keeps.refl (· = c) w).alloc (.cells #[.pointer (some ⟨c, 0, none⟩)] 28))
    clear hc hc1
    go_enter Tryz.func97, Tryz.ntmps97
    go_wp2_with (go_at_call 134; refine HD.out.mono ?_; rintro e w2 ⟨rfl, mb, hF⟩; have qv : w2.cell? ⟨w.heap.size, 0, none⟩ = some (.pointer (some ⟨c, 0, none⟩)) := (hF.hk.cell (p := ⟨w.heap.size, 0, none⟩) (by simp) (by simp; omega)).trans (by simp); have qm : w2.cell? ⟨c, 3, none⟩ = some (.map (some mb)) := (by simp [World.cell?, hF.hc]); have HF := Lib.hid hF; clear hF)
    go_ret
    refine ⟨mb, rfl, ⟨HF.out.hc, HF.out.hm⟩, hkk.out.then HF.out.hk fun i _ e => e, .inr ⟨?_, ?_⟩⟩
    · first | exact rfl | trivial
    · have := HF.out.hmb
      simp at this
      omega
  | some mb =>
    have HD := Lib.hid (do_done c (.func (.func 135) #[] #[.pointer (some ⟨w.heap.size, 0, none⟩)]) _ _ _ (w.alloc (.cells #[.pointer (some ⟨c, 0, none⟩)] 28)) hc1.1)
    have q3 : (w.alloc (.cells #[.pointer (some ⟨c, 0, none⟩)] 28)).cell? ⟨c, 3, none⟩ = some (.map (some mb)) := by simp only [World.cell?, hc1.1]; rfl
    have HC1 := Lib.hid hc1; clear hc1 hc
    go_enter Tryz.func97, Tryz.ntmps97
    go_wp2_with (go_at_call 134; refine HD.out.mono ?_; rintro e w2 ⟨rfl, rfl⟩)
    go_ret
    first | exact ⟨mb, rfl, HC1.out, (Keeps.refl _ _).alloc _, .inl rfl⟩ | (refine ⟨mb, ?_, HC1.out, (Keeps.refl _ _).alloc _, ?_⟩ <;> simp)
end Go.Proofs.YtpaioaljopjpkaaGreatDoor
