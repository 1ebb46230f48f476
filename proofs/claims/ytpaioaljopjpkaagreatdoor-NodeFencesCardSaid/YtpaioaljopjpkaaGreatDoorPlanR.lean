/- plan.Of's region that draws its order: a String's two appends. Conditions: none beyond the rows being owned apart. -/
import Derived.Test.YtpaioaljopjpkaaGreatDoorPlanI
import Derived.Test.YtpaioaljopjpkaaGreatDoorSpecC
import Derived.Test.YtpaioaljopjpkaaGreatDoorReg
import Derived.Deep.AppendLies
set_option linter.unusedVariables false
set_option linter.unusedSimpArgs false
namespace Go
/-- Some slots of a frame laid anew. -/
def Act.lay (a : Act) (ks : List Nat) (f : Nat → Value) : Act := { a with tmps := ks.foldl (fun t k => t.setIfInBounds k (f k)) a.tmps }
theorem lay_get (f : Nat → Value) : ∀ (ks : List Nat) (t : Array Value) (i : Nat), (ks.foldl (fun t k => t.setIfInBounds k (f k)) t)[i]? = if i ∈ ks ∧ i < t.size then some (f i) else t[i]?
  | [], t, i => by simp
  | k :: ks, t, i => by
    rw [List.foldl_cons, lay_get f ks]
    rw [Array.size_setIfInBounds]
    by_cases hi : i < t.size
    · by_cases hm : i ∈ ks
      · rw [if_pos ⟨hm, hi⟩, if_pos ⟨List.mem_cons_of_mem _ hm, hi⟩]
      · rw [if_neg (fun h => hm h.1)]
        by_cases hk : i = k
        · subst hk
          rw [if_pos ⟨List.mem_cons_self .., hi⟩]
          simp [Array.getElem?_setIfInBounds, hi]
        · rw [if_neg (fun h => (List.mem_cons.1 h.1).elim hk hm), Array.getElem?_setIfInBounds_ne (fun e => hk e.symm)]
    · rw [if_neg (fun h => hi h.2), if_neg (fun h => hi h.2)]
      rw [Array.getElem?_eq_none (by simp; omega), Array.getElem?_eq_none (by omega)]
theorem Act.lay_in (a : Act) (ks : List Nat) (f : Nat → Value) (t : Nat) (h : t ∈ ks) (hs : t < a.tmps.size) : (a.lay ks f).eval (.tmp t) = f t := by
  show ((ks.foldl _ a.tmps).getD t undef) = _
  rw [Array.getD_eq_getD_getElem?, lay_get, if_pos ⟨h, hs⟩]; rfl
theorem Act.lay_out (a : Act) (ks : List Nat) (f : Nat → Value) (t : Nat) (h : t ∉ ks) : (a.lay ks f).eval (.tmp t) = a.eval (.tmp t) := by
  show ((ks.foldl _ a.tmps).getD t undef) = a.tmps.getD t undef
  rw [Array.getD_eq_getD_getElem?, lay_get, if_neg (fun e => h e.1), Array.getD_eq_getD_getElem?]
theorem Act.lay_put (a : Act) (ks : List Nat) (f : Nat → Value) (d : Nat) (v : Value) (h : d ∈ ks) : (a.lay ks f).put (some d) v = a.lay ks (fun k => if k = d then v else f k) := by
  show ({ a with tmps := (ks.foldl _ a.tmps).setIfInBounds d v } : Act) = { a with tmps := ks.foldl _ a.tmps }
  congr 1
  apply Array.ext_getElem?
  intro i
  rw [lay_get]
  by_cases hi : i = d
  · subst hi
    by_cases hs : i < a.tmps.size
    · rw [if_pos ⟨h, hs⟩, if_pos rfl, Array.getElem?_setIfInBounds]
      rw [if_pos rfl]
      have hsz : i < (ks.foldl (fun t k => t.setIfInBounds k (f k)) a.tmps).size := by
        have h1 := lay_get f ks a.tmps i
        rw [if_pos ⟨h, hs⟩] at h1
        exact (Array.getElem?_eq_some_iff.1 h1).1
      rw [if_pos hsz]
    · have h1 := lay_get f ks a.tmps i
      rw [if_neg (fun e => hs e.2)] at h1
      have h2 : a.tmps[i]? = none := Array.getElem?_eq_none (by omega)
      rw [h2, Array.getElem?_eq_none_iff] at h1
      rw [if_neg (fun e => hs e.2), h2, Array.getElem?_eq_none (by rw [Array.size_setIfInBounds]; exact h1)]
  · rw [Array.getElem?_setIfInBounds_ne (fun e => hi e.symm), lay_get]
    by_cases hm : i ∈ ks ∧ i < a.tmps.size
    · rw [if_pos hm, if_pos hm, if_neg hi]
    · rw [if_neg hm, if_neg hm]
theorem Act.lay_self (a : Act) (ks : List Nat) : a.lay ks (fun k => a.tmps.getD k undef) = a := by
  show ({ a with tmps := ks.foldl _ a.tmps } : Act) = a
  have : ks.foldl (fun t k => t.setIfInBounds k (a.tmps.getD k undef)) a.tmps = a.tmps := by
    apply Array.ext_getElem?
    intro i
    rw [lay_get]
    split
    · rename_i h
      rw [Array.getD_eq_getD_getElem?, Array.getElem?_eq_getElem h.2]; rfl
    · rfl
  rw [this]
theorem wp_val {P : Program} {o : Oper} {a : Act} {w w' : World} {K : Act → World → Prop} {Q : Exit → Act → World → Prop} {v : Value} (h : (execOp a.eval o).run P w = .ok (.value v) w') (hk : K (a.put o.dst v) w') : o.wp P a w K Q := by
  unfold Oper.wp; rw [h]; exact hk
end Go
namespace Go.Proofs.YtpaioaljopjpkaaGreatDoor
open Go.RowKit

/-- a row of strings of one's own. -/
def OwnS (w : World) (B : Nat) (v : Value) (l : List Sg.B) : Prop := w.ownsRow B 9 1 v l.length (strCells l)
def Apart (a b : Value) : Prop := a.ownBlock = none ∨ a.ownBlock ≠ b.ownBlock

def ks12 : List Nat := [5, 6, 37, 38, 39, 40, 41, 42, 43, 44]
structure J12 (w0 : World) (B b8 : Nat) (u5 u6 : Value) (ws ss : List Sg.B) (x : Sg.B) (done : Nat → Bool) (f : Nat → Value) (w : World) : Prop where
  own5 : done 2 = false → OwnS w B u5 ws
  d2 : done 2 = true → ∃ g cap, f 39 = .slice (some ⟨g, 0, none⟩) (ws.length + 1) cap ∧ w.ownsRow B 9 1 (f 39) (ws.length + 1) (strCells ws ++ [.string (ba [63])]) ∧ (u5.ownBlock = some g ∨ w0.heap.size ≤ g)
  own6 : done 7 = false → OwnS w B u6 ss
  d7 : done 7 = true → ∃ g cap, f 44 = .slice (some ⟨g, 0, none⟩) (ss.length + 1) cap ∧ w.ownsRow B 9 1 (f 44) (ss.length + 1) (strCells ss ++ [.string (ba x)]) ∧ (f 39).ownBlock ≠ (f 44).ownBlock
  d0 : done 0 = true → f 37 = u5
  d1 : done 1 = true → done 2 = false → ∃ b, f 38 = .slice (some ⟨b, 0, none⟩) 1 1 ∧ w0.heap.size ≤ b ∧ w.heap[b]? = some (.cells #[.string (ba [63])] 9 (0, 0))
  d3 : done 3 = true → f 40 = u6
  d4 : done 4 = true → f 41 = .pointer (some ⟨b8, 1, none⟩)
  d5 : done 5 = true → f 42 = .string (ba x)
  d6 : done 6 = true → done 7 = false → ∃ b, f 43 = .slice (some ⟨b, 0, none⟩) 1 1 ∧ w0.heap.size ≤ b ∧ w.heap[b]? = some (.cells #[.string (ba x)] 9 (0, 0))
  d8 : done 8 = true → f 5 = f 39
  n8 : done 8 = false → f 5 = u5
  d9 : done 9 = true → f 6 = f 44
  n9 : done 9 = false → f 6 = u6
  hk : Keeps (fun k => u5.ownBlock = some k ∨ u6.ownBlock = some k) w0 w
  c2 : done 2 = true → done 0 = true ∧ done 1 = true
  c7 : done 7 = true → done 3 = true ∧ done 6 = true ∧ done 2 = true
  c8 : done 8 = true → done 2 = true ∧ done 7 = true ∧ done 0 = true
  c9 : done 9 = true → done 7 = true ∧ done 8 = true ∧ done 3 = true
/-- what the region asks of its start. -/
structure Pre12 (B b8 : Nat) (u5 u6 : Value) (ws ss : List Sg.B) (x : Sg.B) (w0 : World) (a0 : Act) : Prop where
  size : 45 ≤ a0.tmps.size
  at8 : a0.eval (.tmp 8) = .pointer (some ⟨b8, 0, none⟩)
  cell : w0.cell? ⟨b8, 1, none⟩ = some (.string (ba x))
  far : u5.ownBlock ≠ some b8 ∧ u6.ownBlock ≠ some b8
  apart : Apart u5 u6 ∧ Apart u6 u5
  base : B ≤ w0.heap.size
  len5 : ws.length ≤ 1000
  len6 : ss.length ≤ 1000
  lt5 : ∀ k, u5.ownBlock = some k → k < w0.heap.size
  lt6 : ∀ k, u6.ownBlock = some k → k < w0.heap.size

theorem own_alloc {w : World} {B e n size : Nat} {v : Value} {xs : List Value} (h : w.ownsRow B e size v n xs) (o : Obj) : (w.alloc o).ownsRow B e size v n xs := h.alloc o

theorem ne_true_of {done : Nat → Bool} {i j : Nat} (h : i ≠ j) : ((i == j) || done i) = done i := by
  have : (i == j) = false := by simpa using h
  rw [this]; rfl
theorem build_str (x : ByteArray) (w : World) : (Instr.buildSlice 22 1 #[(0, .string x)]).run Tryz.prog w = .ok (.slice (some ⟨w.heap.size, 0, none⟩) 1 1) (w.alloc (.cells #[.string x] 9)) := by go_simp
theorem load_str (b : Nat) (x : ByteArray) (w : World) (h : w.cell? ⟨b, 1, none⟩ = some (.string x)) : (Instr.loadAt 9 (.pointer (some ⟨b, 1, none⟩))).run Tryz.prog w = .ok (.string x) w := by go_simp
theorem addr_str (b : Nat) (w : World) : (Instr.fieldAt 148 (.pointer (some ⟨b, 0, none⟩)) 1).run Tryz.prog w = .ok (.pointer (some ⟨b, 1, none⟩)) w := by go_simp
theorem exec_field (ρ : Operand → Value) (o : Oper) (t : TypeId) (x : Operand) (f : Nat) (ho : o.op = .fieldAddr t x f) {v : Value} {w w' : World} (h : (Instr.fieldAt t (ρ x) f).run Tryz.prog w = .ok v w') : (execOp ρ o).run Tryz.prog w = .ok (.value v) w' := by
  unfold execOp; rw [ho]; simp only [Sem.run_bind, h]; rfl
theorem exec_move (ρ : Operand → Value) (o : Oper) (x : Operand) (ho : o.op = .move x ∨ o.op = .assign x) {v : Value} {w : World} (h : ρ x = v) : (execOp ρ o).run Tryz.prog w = .ok (.value v) w := by
  unfold execOp; rcases ho with ho | ho <;> (rw [ho]; simp only [h]; rfl)
theorem exec_load (ρ : Operand → Value) (o : Oper) (t : TypeId) (x : Operand) (ho : o.op = .load t x) {v : Value} {w w' : World} (h : (Instr.loadAt t (ρ x)).run Tryz.prog w = .ok v w') : (execOp ρ o).run Tryz.prog w = .ok (.value v) w' := by
  unfold execOp; rw [ho]; simp only [Sem.run_bind, h]; rfl
theorem exec_build (ρ : Operand → Value) (o : Oper) (t : TypeId) (n i : Nat) (x : Operand) (ho : o.op = .buildSlice t n #[(i, x)]) {v : Value} {w w' : World} (h : (Instr.buildSlice t n #[(i, ρ x)]).run Tryz.prog w = .ok v w') : (execOp ρ o).run Tryz.prog w = .ok (.value v) w' := by
  unfold execOp; rw [ho]
  have e : (#[(i, x)] : Array (Nat × Operand)).map (fun (i, x) => (i, ρ x)) = #[(i, ρ x)] := by simp
  simp only [Sem.run_bind, e, h]; rfl
theorem heap_old {w : World} {b : Nat} {x o : Obj} (h : w.heap[b]? = some x) : (w.alloc o).heap[b]? = some x := by
  rw [Below.heap_alloc _ _ _ (Array.getElem?_eq_some_iff.1 h).1]; exact h
theorem heap_lt {w : World} {b : Nat} {x : Obj} (h : w.heap[b]? = some x) : b < w.heap.size := (Array.getElem?_eq_some_iff.1 h).1
theorem one_str {x : ByteArray} : ∀ u ∈ [Value.string x], u.oneCell' = true := fun u hu => by rw [List.mem_singleton.1 hu]; rfl
theorem strCells_append (a b : List Sg.B) : strCells (a ++ b) = strCells a ++ strCells b := by simp [strCells]
/-- a step holds: a box round 'wp', so that nothing runs the program to see what it says. -/
structure StepOk (o : Oper) (a : Act) (w : World) (K : Act → World → Prop) (Q : Exit → Act → World → Prop) : Prop where
  h : o.wp Tryz.prog a w K Q
theorem step_val {o : Oper} {a : Act} {w w' : World} {K : Act → World → Prop} {Q : Exit → Act → World → Prop} {v : Value} (h : (execOp a.eval o).run Tryz.prog w = .ok (.value v) w') (hk : K (a.put o.dst v) w') : StepOk o a w K Q := ⟨wp_val h hk⟩
theorem wpOp_step {ops : Array Oper} {Q : Exit → Act → World → Prop} {i : Nat} {o : Oper} {K : Act → World → Prop} {a : Act} {w : World} (ho : ops[i]? = some o) (hg : o.guard = none) (h : StepOk o a w K Q) : wpOp Tryz.prog ops Q i K a w := wpOp_lit ho hg h.h
def ops12 : Array Oper := #[{ dst := some 37, op := Op.move (Operand.tmp 5), type := 22, pos := "plan.go:60", after := #[], guard := none },
  { dst := some 38, op := Op.buildSlice 22 1 #[(0, Operand.const (Value.string { data := #[63] }))], type := 22, pos := "plan.go:60", after := #[], guard := none },
  { dst := some 39, op := Op.call { callee := Callee.builtin Builtin.append, args := #[Operand.tmp 37, Operand.tmp 38], argTypes := #[22, 22] }, type := 22, pos := "plan.go:60", after := #[{ on := 0, ground := Ground.data }, { on := 1, ground := Ground.data }], guard := none },
  { dst := some 40, op := Op.move (Operand.tmp 6), type := 22, pos := "plan.go:60", after := #[], guard := none },
  { dst := some 41, op := Op.fieldAddr 148 (Operand.tmp 8) 1, type := 0, pos := "plan.go:60", after := #[], guard := none },
  { dst := some 42, op := Op.load 9 (Operand.tmp 41), type := 9, pos := "plan.go:60", after := #[{ on := 4, ground := Ground.data }], guard := none },
  { dst := some 43, op := Op.buildSlice 22 1 #[(0, Operand.tmp 42)], type := 22, pos := "plan.go:60", after := #[{ on := 5, ground := Ground.data }], guard := none },
  { dst := some 44, op := Op.call { callee := Callee.builtin Builtin.append, args := #[Operand.tmp 40, Operand.tmp 43], argTypes := #[22, 22] }, type := 22, pos := "plan.go:60", after := #[{ on := 3, ground := Ground.data }, { on := 6, ground := Ground.data }, { on := 2, ground := Ground.chain }], guard := none },
  { dst := some 5, op := Op.assign (Operand.tmp 39), type := 22, pos := "plan.go:60", after := #[{ on := 2, ground := Ground.data }, { on := 7, ground := Ground.chain }, { on := 0, ground := Ground.phase }, { on := 1, ground := Ground.phase }, { on := 2, ground := Ground.phase }, { on := 3, ground := Ground.textOnly Departure.lateStores }, { on := 4, ground := Ground.textOnly Departure.lateStores }, { on := 5, ground := Ground.textOnly Departure.lateStores }, { on := 6, ground := Ground.textOnly Departure.lateStores }, { on := 7, ground := Ground.textOnly Departure.lateStoresUnsure }], guard := none },
  { dst := some 6, op := Op.assign (Operand.tmp 44), type := 22, pos := "plan.go:60", after := #[{ on := 7, ground := Ground.data }, { on := 8, ground := Ground.chain }, { on := 0, ground := Ground.phase }, { on := 1, ground := Ground.phase }, { on := 2, ground := Ground.phase }, { on := 3, ground := Ground.phase }, { on := 4, ground := Ground.phase }, { on := 5, ground := Ground.phase }, { on := 6, ground := Ground.phase }, { on := 7, ground := Ground.phase }, { on := 8, ground := Ground.phase }], guard := none }]
set_option maxRecDepth 100000 in
set_option maxHeartbeats 400000 in
theorem step12_0 (B b8 : Nat) (u5 u6 : Value) (ws ss : List Sg.B) (x : Sg.B) (w0 : World) (a0 : Act) (H : Pre12 B b8 u5 u6 ws ss x w0 a0) (Q : Exit → Act → World → Prop) (done : Nat → Bool) (f : Nat → Value) (w : World)
    (hni : done 0 = false) (hpre : ∀ e ∈ ({ dst := some 37, op := Op.move (Operand.tmp 5), type := 22, pos := "plan.go:60", after := #[], guard := none } : Oper).after, Region.binds .any e = true → done e.on = true) (hJ : J12 w0 B b8 u5 u6 ws ss x done f w) :
    StepOk ({ dst := some 37, op := Op.move (Operand.tmp 5), type := 22, pos := "plan.go:60", after := #[], guard := none } : Oper) (a0.lay ks12 f) w (fun a' w' => ∃ f', a' = a0.lay ks12 f' ∧ J12 w0 B b8 u5 u6 ws ss x (fun j => j == 0 || done j) f' w') Q := by
  have hx : (execOp (a0.lay ks12 f).eval ({ dst := some 37, op := Op.move (Operand.tmp 5), type := 22, pos := "plan.go:60", after := #[], guard := none } : Oper)).run Tryz.prog w = .ok (.value (f 5)) w := by
    have e := Act.lay_in a0 ks12 f 5 (by decide) (by have := H.size; omega)
    exact exec_move _ _ (.tmp 5) (by first | exact .inl rfl | exact .inr rfl) e
  refine step_val hx ?_
  refine ⟨_, Act.lay_put _ _ _ 37 _ (by decide), ?_⟩
  exact {
    own5 := (by simpa using hJ.own5),
    d2 := (by simpa using hJ.d2),
    own6 := (by simpa using hJ.own6),
    d7 := (by simpa using hJ.d7),
    d0 := (fun _ => by simpa using hJ.n8 (by cases h : done 8 with | false => rfl | true => have h2 := (hJ.c8 h).2.2; rw [hni] at h2; cases h2)),
    d1 := (by simpa using hJ.d1),
    d3 := (by simpa using hJ.d3),
    d4 := (by simpa using hJ.d4),
    d5 := (by simpa using hJ.d5),
    d6 := (by simpa using hJ.d6),
    d8 := (by simpa using hJ.d8),
    n8 := (by simpa using hJ.n8),
    d9 := (by simpa using hJ.d9),
    n9 := (by simpa using hJ.n9),
    hk := (by simpa using hJ.hk),
    c2 := (fun h => by have h2 := (hJ.c2 (by simpa using h)).1; rw [hni] at h2; cases h2),
    c7 := (by simpa using hJ.c7),
    c8 := (fun h => by have h2 := (hJ.c8 (by simpa using h)).2.2; rw [hni] at h2; cases h2),
    c9 := (by simpa using hJ.c9) }
set_option maxRecDepth 100000 in
set_option maxHeartbeats 400000 in
theorem step12_1 (B b8 : Nat) (u5 u6 : Value) (ws ss : List Sg.B) (x : Sg.B) (w0 : World) (a0 : Act) (H : Pre12 B b8 u5 u6 ws ss x w0 a0) (Q : Exit → Act → World → Prop) (done : Nat → Bool) (f : Nat → Value) (w : World)
    (hni : done 1 = false) (hpre : ∀ e ∈ ({ dst := some 38, op := Op.buildSlice 22 1 #[(0, Operand.const (Value.string { data := #[63] }))], type := 22, pos := "plan.go:60", after := #[], guard := none } : Oper).after, Region.binds .any e = true → done e.on = true) (hJ : J12 w0 B b8 u5 u6 ws ss x done f w) :
    StepOk ({ dst := some 38, op := Op.buildSlice 22 1 #[(0, Operand.const (Value.string { data := #[63] }))], type := 22, pos := "plan.go:60", after := #[], guard := none } : Oper) (a0.lay ks12 f) w (fun a' w' => ∃ f', a' = a0.lay ks12 f' ∧ J12 w0 B b8 u5 u6 ws ss x (fun j => j == 1 || done j) f' w') Q := by
  have hx : (execOp (a0.lay ks12 f).eval ({ dst := some 38, op := Op.buildSlice 22 1 #[(0, Operand.const (Value.string { data := #[63] }))], type := 22, pos := "plan.go:60", after := #[], guard := none } : Oper)).run Tryz.prog w = .ok (.value (.slice (some ⟨w.heap.size, 0, none⟩) 1 1)) (w.alloc (.cells #[.string ⟨#[63]⟩] 9)) := by
    have e : (a0.lay ks12 f).eval (.const (.string ⟨#[63]⟩)) = .string ⟨#[63]⟩ := rfl
    refine exec_build _ _ 22 1 0 (.const (.string ⟨#[63]⟩)) rfl ?_
    rw [e]
    exact build_str ⟨#[63]⟩ w
  refine step_val hx ?_
  refine ⟨_, Act.lay_put _ _ _ 38 _ (by decide), ?_⟩
  exact {
    own5 := (fun h => (hJ.own5 (by simpa using h)).alloc _),
    d2 := (fun h => by obtain ⟨g, cap, h1, h2, h3⟩ := hJ.d2 (by simpa using h); exact ⟨g, cap, by simpa using h1, by simpa using h2.alloc _, h3⟩),
    own6 := (fun h => (hJ.own6 (by simpa using h)).alloc _),
    d7 := (fun h => by obtain ⟨g, cap, h1, h2, h3⟩ := hJ.d7 (by simpa using h); exact ⟨g, cap, by simpa using h1, by simpa using h2.alloc _, by simpa using h3⟩),
    d0 := (by simpa using hJ.d0),
    d1 := (fun _ _ => ⟨w.heap.size, by simp, hJ.hk.size, heap_alloc_new _ _⟩),
    d3 := (by simpa using hJ.d3),
    d4 := (by simpa using hJ.d4),
    d5 := (by simpa using hJ.d5),
    d6 := (fun h h' => by obtain ⟨b, h1, h2, h3⟩ := hJ.d6 (by simpa using h) (by simpa using h'); exact ⟨b, by simpa using h1, h2, heap_old h3⟩),
    d8 := (by simpa using hJ.d8),
    n8 := (by simpa using hJ.n8),
    d9 := (by simpa using hJ.d9),
    n9 := (by simpa using hJ.n9),
    hk := (hJ.hk.alloc _),
    c2 := (fun h => by have h2 := (hJ.c2 (by simpa using h)).2; rw [hni] at h2; cases h2),
    c7 := (by simpa using hJ.c7),
    c8 := (by simpa using hJ.c8),
    c9 := (by simpa using hJ.c9) }
set_option maxRecDepth 100000 in
set_option maxHeartbeats 400000 in
theorem step12_2 (B b8 : Nat) (u5 u6 : Value) (ws ss : List Sg.B) (x : Sg.B) (w0 : World) (a0 : Act) (H : Pre12 B b8 u5 u6 ws ss x w0 a0) (Q : Exit → Act → World → Prop) (done : Nat → Bool) (f : Nat → Value) (w : World)
    (hni : done 2 = false) (hpre : ∀ e ∈ ({ dst := some 39, op := Op.call { callee := Callee.builtin Builtin.append, args := #[Operand.tmp 37, Operand.tmp 38], argTypes := #[22, 22] }, type := 22, pos := "plan.go:60", after := #[{ on := 0, ground := Ground.data }, { on := 1, ground := Ground.data }], guard := none } : Oper).after, Region.binds .any e = true → done e.on = true) (hJ : J12 w0 B b8 u5 u6 ws ss x done f w) :
    StepOk ({ dst := some 39, op := Op.call { callee := Callee.builtin Builtin.append, args := #[Operand.tmp 37, Operand.tmp 38], argTypes := #[22, 22] }, type := 22, pos := "plan.go:60", after := #[{ on := 0, ground := Ground.data }, { on := 1, ground := Ground.data }], guard := none } : Oper) (a0.lay ks12 f) w (fun a' w' => ∃ f', a' = a0.lay ks12 f' ∧ J12 w0 B b8 u5 u6 ws ss x (fun j => j == 2 || done j) f' w') Q := by
  obtain ⟨i0, hinfo, hz0, hz1, hz2⟩ := info9_parts
  have p0 : done 0 = true := hpre ⟨0, .data⟩ (by simp) rfl
  have p1 : done 1 = true := hpre ⟨1, .data⟩ (by simp) rfl
  obtain ⟨b, hf38, hb1, hb2⟩ := hJ.d1 p1 hni
  have n7 : done 7 = false := by cases h : done 7 with | false => rfl | true => have h2 := (hJ.c7 h).2.2; rw [hni] at h2; cases h2
  have hf37 := hJ.d0 p0
  have hsz := hJ.hk.size
  have hl5 := H.len5
  refine ⟨?_⟩
  refine wp_append_lies w (.tmp 37) (.tmp 38) 22 rfl B 9 i0 _ 1 16 Tryz.underlying22 hinfo hz0 hz1 hz2 rfl (by decide) u5 ws.length (strCells ws) (by rw [Act.lay_in a0 ks12 f 37 (by decide) (by have := H.size; omega)]; exact hf37) (hJ.own5 hni) ⟨b, 0, none⟩ 1 1 [.string (ba [63])] (by rw [Act.lay_in a0 ks12 f 38 (by decide) (by have := H.size; omega)]; exact hf38) rfl (World.news_of_block (cs := #[.string (ba [63])]) hb2) one_str (by decide) (by unfold maxLen; omega) (by omega) (Nat.le_trans H.base hsz) _ rfl ?_
  intro g cap w' hown hgrow hat hlt
  refine ⟨_, Act.lay_put _ _ _ 39 _ (by decide), ?_⟩
  exact {
    own5 := (fun h => by simp at h),
    d2 := (fun _ => ⟨g, cap, by simp, by simpa using hown, hat.imp id fun e => by omega⟩),
    own6 := (fun h => (hJ.own6 (by simpa using h)).kept hgrow H.apart.2),
    d7 := (fun h => by have h2 : done 7 = true := (by simpa using h); rw [n7] at h2; cases h2),
    d0 := (by simpa using hJ.d0),
    d1 := (fun _ h => by simp at h),
    d3 := (by simpa using hJ.d3),
    d4 := (by simpa using hJ.d4),
    d5 := (by simpa using hJ.d5),
    d6 := (fun h h' => by obtain ⟨c, h1, h2, h3⟩ := hJ.d6 (by simpa using h) (by simpa using h'); exact ⟨c, by simpa using h1, h2, (hgrow.block c (heap_lt h3) (fun e => by have := H.lt5 _ e.symm; omega)).trans h3⟩),
    d8 := (fun h => by have h2 := (hJ.c8 (by simpa using h)).1; rw [hni] at h2; cases h2),
    n8 := (by simpa using hJ.n8),
    d9 := (by simpa using hJ.d9),
    n9 := (by simpa using hJ.n9),
    hk := (hJ.hk.grown hgrow (fun k e => .inr (.inl e))),
    c2 := (fun _ => ⟨by simp [p0], by simp [p1]⟩),
    c7 := (fun h => by have h2 : done 7 = true := (by simpa using h); rw [n7] at h2; cases h2),
    c8 := (fun h => by have h2 := (hJ.c8 (by simpa using h)).1; rw [hni] at h2; cases h2),
    c9 := (by simpa using hJ.c9) }
set_option maxRecDepth 100000 in
set_option maxHeartbeats 400000 in
theorem step12_3 (B b8 : Nat) (u5 u6 : Value) (ws ss : List Sg.B) (x : Sg.B) (w0 : World) (a0 : Act) (H : Pre12 B b8 u5 u6 ws ss x w0 a0) (Q : Exit → Act → World → Prop) (done : Nat → Bool) (f : Nat → Value) (w : World)
    (hni : done 3 = false) (hpre : ∀ e ∈ ({ dst := some 40, op := Op.move (Operand.tmp 6), type := 22, pos := "plan.go:60", after := #[], guard := none } : Oper).after, Region.binds .any e = true → done e.on = true) (hJ : J12 w0 B b8 u5 u6 ws ss x done f w) :
    StepOk ({ dst := some 40, op := Op.move (Operand.tmp 6), type := 22, pos := "plan.go:60", after := #[], guard := none } : Oper) (a0.lay ks12 f) w (fun a' w' => ∃ f', a' = a0.lay ks12 f' ∧ J12 w0 B b8 u5 u6 ws ss x (fun j => j == 3 || done j) f' w') Q := by
  have hx : (execOp (a0.lay ks12 f).eval ({ dst := some 40, op := Op.move (Operand.tmp 6), type := 22, pos := "plan.go:60", after := #[], guard := none } : Oper)).run Tryz.prog w = .ok (.value (f 6)) w := by
    have e := Act.lay_in a0 ks12 f 6 (by decide) (by have := H.size; omega)
    exact exec_move _ _ (.tmp 6) (by first | exact .inl rfl | exact .inr rfl) e
  refine step_val hx ?_
  refine ⟨_, Act.lay_put _ _ _ 40 _ (by decide), ?_⟩
  exact {
    own5 := (by simpa using hJ.own5),
    d2 := (by simpa using hJ.d2),
    own6 := (by simpa using hJ.own6),
    d7 := (by simpa using hJ.d7),
    d0 := (by simpa using hJ.d0),
    d1 := (by simpa using hJ.d1),
    d3 := (fun _ => by simpa using hJ.n9 (by cases h : done 9 with | false => rfl | true => have h2 := (hJ.c9 h).2.2; rw [hni] at h2; cases h2)),
    d4 := (by simpa using hJ.d4),
    d5 := (by simpa using hJ.d5),
    d6 := (by simpa using hJ.d6),
    d8 := (by simpa using hJ.d8),
    n8 := (by simpa using hJ.n8),
    d9 := (by simpa using hJ.d9),
    n9 := (by simpa using hJ.n9),
    hk := (by simpa using hJ.hk),
    c2 := (by simpa using hJ.c2),
    c7 := (fun h => by have h2 := (hJ.c7 (by simpa using h)).1; rw [hni] at h2; cases h2),
    c8 := (by simpa using hJ.c8),
    c9 := (fun h => by have h2 := (hJ.c9 (by simpa using h)).2.2; rw [hni] at h2; cases h2) }
set_option maxRecDepth 100000 in
set_option maxHeartbeats 400000 in
theorem step12_4 (B b8 : Nat) (u5 u6 : Value) (ws ss : List Sg.B) (x : Sg.B) (w0 : World) (a0 : Act) (H : Pre12 B b8 u5 u6 ws ss x w0 a0) (Q : Exit → Act → World → Prop) (done : Nat → Bool) (f : Nat → Value) (w : World)
    (hni : done 4 = false) (hpre : ∀ e ∈ ({ dst := some 41, op := Op.fieldAddr 148 (Operand.tmp 8) 1, type := 0, pos := "plan.go:60", after := #[], guard := none } : Oper).after, Region.binds .any e = true → done e.on = true) (hJ : J12 w0 B b8 u5 u6 ws ss x done f w) :
    StepOk ({ dst := some 41, op := Op.fieldAddr 148 (Operand.tmp 8) 1, type := 0, pos := "plan.go:60", after := #[], guard := none } : Oper) (a0.lay ks12 f) w (fun a' w' => ∃ f', a' = a0.lay ks12 f' ∧ J12 w0 B b8 u5 u6 ws ss x (fun j => j == 4 || done j) f' w') Q := by
  have hx : (execOp (a0.lay ks12 f).eval ({ dst := some 41, op := Op.fieldAddr 148 (Operand.tmp 8) 1, type := 0, pos := "plan.go:60", after := #[], guard := none } : Oper)).run Tryz.prog w = .ok (.value (.pointer (some ⟨b8, 1, none⟩))) w := by
    have e : (a0.lay ks12 f).eval (.tmp 8) = .pointer (some ⟨b8, 0, none⟩) := (Act.lay_out a0 ks12 f 8 (by decide)).trans H.at8
    refine exec_field _ _ 148 (.tmp 8) 1 rfl ?_
    rw [e]
    exact addr_str b8 w
  refine step_val hx ?_
  refine ⟨_, Act.lay_put _ _ _ 41 _ (by decide), ?_⟩
  exact {
    own5 := (by simpa using hJ.own5),
    d2 := (by simpa using hJ.d2),
    own6 := (by simpa using hJ.own6),
    d7 := (by simpa using hJ.d7),
    d0 := (by simpa using hJ.d0),
    d1 := (by simpa using hJ.d1),
    d3 := (by simpa using hJ.d3),
    d4 := (fun _ => by simp),
    d5 := (by simpa using hJ.d5),
    d6 := (by simpa using hJ.d6),
    d8 := (by simpa using hJ.d8),
    n8 := (by simpa using hJ.n8),
    d9 := (by simpa using hJ.d9),
    n9 := (by simpa using hJ.n9),
    hk := (by simpa using hJ.hk),
    c2 := (by simpa using hJ.c2),
    c7 := (by simpa using hJ.c7),
    c8 := (by simpa using hJ.c8),
    c9 := (by simpa using hJ.c9) }
set_option maxRecDepth 100000 in
set_option maxHeartbeats 400000 in
theorem step12_5 (B b8 : Nat) (u5 u6 : Value) (ws ss : List Sg.B) (x : Sg.B) (w0 : World) (a0 : Act) (H : Pre12 B b8 u5 u6 ws ss x w0 a0) (Q : Exit → Act → World → Prop) (done : Nat → Bool) (f : Nat → Value) (w : World)
    (hni : done 5 = false) (hpre : ∀ e ∈ ({ dst := some 42, op := Op.load 9 (Operand.tmp 41), type := 9, pos := "plan.go:60", after := #[{ on := 4, ground := Ground.data }], guard := none } : Oper).after, Region.binds .any e = true → done e.on = true) (hJ : J12 w0 B b8 u5 u6 ws ss x done f w) :
    StepOk ({ dst := some 42, op := Op.load 9 (Operand.tmp 41), type := 9, pos := "plan.go:60", after := #[{ on := 4, ground := Ground.data }], guard := none } : Oper) (a0.lay ks12 f) w (fun a' w' => ∃ f', a' = a0.lay ks12 f' ∧ J12 w0 B b8 u5 u6 ws ss x (fun j => j == 5 || done j) f' w') Q := by
  have p4 : done 4 = true := hpre ⟨4, .data⟩ (by simp) rfl
  have hf := hJ.d4 p4
  have hc : w.cell? ⟨b8, 1, none⟩ = some (.string (ba x)) := (hJ.hk.cell (p := ⟨b8, 1, none⟩) (World.block_lt_of_cell? w0 _ H.cell) (fun e => e.elim H.far.1 H.far.2)).trans H.cell
  have hx : (execOp (a0.lay ks12 f).eval ({ dst := some 42, op := Op.load 9 (Operand.tmp 41), type := 9, pos := "plan.go:60", after := #[{ on := 4, ground := Ground.data }], guard := none } : Oper)).run Tryz.prog w = .ok (.value (.string (ba x))) w := by
    have e : (a0.lay ks12 f).eval (.tmp 41) = .pointer (some ⟨b8, 1, none⟩) := (Act.lay_in a0 ks12 f 41 (by decide) (by have := H.size; omega)).trans hf
    refine exec_load _ _ 9 (.tmp 41) rfl ?_
    rw [e]
    exact load_str b8 (ba x) w hc
  refine step_val hx ?_
  refine ⟨_, Act.lay_put _ _ _ 42 _ (by decide), ?_⟩
  exact {
    own5 := (by simpa using hJ.own5),
    d2 := (by simpa using hJ.d2),
    own6 := (by simpa using hJ.own6),
    d7 := (by simpa using hJ.d7),
    d0 := (by simpa using hJ.d0),
    d1 := (by simpa using hJ.d1),
    d3 := (by simpa using hJ.d3),
    d4 := (by simpa using hJ.d4),
    d5 := (fun _ => by simp),
    d6 := (by simpa using hJ.d6),
    d8 := (by simpa using hJ.d8),
    n8 := (by simpa using hJ.n8),
    d9 := (by simpa using hJ.d9),
    n9 := (by simpa using hJ.n9),
    hk := (by simpa using hJ.hk),
    c2 := (by simpa using hJ.c2),
    c7 := (by simpa using hJ.c7),
    c8 := (by simpa using hJ.c8),
    c9 := (by simpa using hJ.c9) }
set_option maxRecDepth 100000 in
set_option maxHeartbeats 400000 in
theorem step12_6 (B b8 : Nat) (u5 u6 : Value) (ws ss : List Sg.B) (x : Sg.B) (w0 : World) (a0 : Act) (H : Pre12 B b8 u5 u6 ws ss x w0 a0) (Q : Exit → Act → World → Prop) (done : Nat → Bool) (f : Nat → Value) (w : World)
    (hni : done 6 = false) (hpre : ∀ e ∈ ({ dst := some 43, op := Op.buildSlice 22 1 #[(0, Operand.tmp 42)], type := 22, pos := "plan.go:60", after := #[{ on := 5, ground := Ground.data }], guard := none } : Oper).after, Region.binds .any e = true → done e.on = true) (hJ : J12 w0 B b8 u5 u6 ws ss x done f w) :
    StepOk ({ dst := some 43, op := Op.buildSlice 22 1 #[(0, Operand.tmp 42)], type := 22, pos := "plan.go:60", after := #[{ on := 5, ground := Ground.data }], guard := none } : Oper) (a0.lay ks12 f) w (fun a' w' => ∃ f', a' = a0.lay ks12 f' ∧ J12 w0 B b8 u5 u6 ws ss x (fun j => j == 6 || done j) f' w') Q := by
  have p5 : done 5 = true := hpre ⟨5, .data⟩ (by simp) rfl
  have hf := hJ.d5 p5
  have hx : (execOp (a0.lay ks12 f).eval ({ dst := some 43, op := Op.buildSlice 22 1 #[(0, Operand.tmp 42)], type := 22, pos := "plan.go:60", after := #[{ on := 5, ground := Ground.data }], guard := none } : Oper)).run Tryz.prog w = .ok (.value (.slice (some ⟨w.heap.size, 0, none⟩) 1 1)) (w.alloc (.cells #[.string (ba x)] 9)) := by
    have e : (a0.lay ks12 f).eval (.tmp 42) = .string (ba x) := (Act.lay_in a0 ks12 f 42 (by decide) (by have := H.size; omega)).trans hf
    refine exec_build _ _ 22 1 0 (.tmp 42) rfl ?_
    rw [e]
    exact build_str (ba x) w
  refine step_val hx ?_
  refine ⟨_, Act.lay_put _ _ _ 43 _ (by decide), ?_⟩
  exact {
    own5 := (fun h => (hJ.own5 (by simpa using h)).alloc _),
    d2 := (fun h => by obtain ⟨g, cap, h1, h2, h3⟩ := hJ.d2 (by simpa using h); exact ⟨g, cap, by simpa using h1, by simpa using h2.alloc _, h3⟩),
    own6 := (fun h => (hJ.own6 (by simpa using h)).alloc _),
    d7 := (fun h => by obtain ⟨g, cap, h1, h2, h3⟩ := hJ.d7 (by simpa using h); exact ⟨g, cap, by simpa using h1, by simpa using h2.alloc _, by simpa using h3⟩),
    d0 := (by simpa using hJ.d0),
    d1 := (fun h h' => by obtain ⟨b, h1, h2, h3⟩ := hJ.d1 (by simpa using h) (by simpa using h'); exact ⟨b, by simpa using h1, h2, heap_old h3⟩),
    d3 := (by simpa using hJ.d3),
    d4 := (by simpa using hJ.d4),
    d5 := (by simpa using hJ.d5),
    d6 := (fun _ _ => ⟨w.heap.size, by simp, hJ.hk.size, heap_alloc_new _ _⟩),
    d8 := (by simpa using hJ.d8),
    n8 := (by simpa using hJ.n8),
    d9 := (by simpa using hJ.d9),
    n9 := (by simpa using hJ.n9),
    hk := (hJ.hk.alloc _),
    c2 := (by simpa using hJ.c2),
    c7 := (fun h => by have h2 := (hJ.c7 (by simpa using h)).2.1; rw [hni] at h2; cases h2),
    c8 := (by simpa using hJ.c8),
    c9 := (by simpa using hJ.c9) }
set_option maxRecDepth 100000 in
set_option maxHeartbeats 400000 in
theorem step12_7 (B b8 : Nat) (u5 u6 : Value) (ws ss : List Sg.B) (x : Sg.B) (w0 : World) (a0 : Act) (H : Pre12 B b8 u5 u6 ws ss x w0 a0) (Q : Exit → Act → World → Prop) (done : Nat → Bool) (f : Nat → Value) (w : World)
    (hni : done 7 = false) (hpre : ∀ e ∈ ({ dst := some 44, op := Op.call { callee := Callee.builtin Builtin.append, args := #[Operand.tmp 40, Operand.tmp 43], argTypes := #[22, 22] }, type := 22, pos := "plan.go:60", after := #[{ on := 3, ground := Ground.data }, { on := 6, ground := Ground.data }, { on := 2, ground := Ground.chain }], guard := none } : Oper).after, Region.binds .any e = true → done e.on = true) (hJ : J12 w0 B b8 u5 u6 ws ss x done f w) :
    StepOk ({ dst := some 44, op := Op.call { callee := Callee.builtin Builtin.append, args := #[Operand.tmp 40, Operand.tmp 43], argTypes := #[22, 22] }, type := 22, pos := "plan.go:60", after := #[{ on := 3, ground := Ground.data }, { on := 6, ground := Ground.data }, { on := 2, ground := Ground.chain }], guard := none } : Oper) (a0.lay ks12 f) w (fun a' w' => ∃ f', a' = a0.lay ks12 f' ∧ J12 w0 B b8 u5 u6 ws ss x (fun j => j == 7 || done j) f' w') Q := by
  obtain ⟨i0, hinfo, hz0, hz1, hz2⟩ := info9_parts
  have p2 : done 2 = true := hpre ⟨2, .chain⟩ (by simp) rfl
  have p3 : done 3 = true := hpre ⟨3, .data⟩ (by simp) rfl
  have p6 : done 6 = true := hpre ⟨6, .data⟩ (by simp) rfl
  obtain ⟨b, hf43, hb1, hb2⟩ := hJ.d6 p6 hni
  obtain ⟨g5, cap5, hf39, hown5, hat5⟩ := hJ.d2 p2
  have hf40 := hJ.d3 p3
  have hsz := hJ.hk.size
  have hl6 := H.len6
  have hne : (f 39).ownBlock ≠ u6.ownBlock := by
    rw [hf39]
    show some g5 ≠ u6.ownBlock
    rcases hat5 with h | h
    · rw [← h]; exact fun e => (H.apart.1).elim (fun h1 => by rw [h1] at h; cases h) (fun h1 => h1 e)
    · intro e; have := H.lt6 _ e.symm; omega
  have hlt5 : g5 < w.heap.size := (hown5.lt g5 (by rw [hf39]; rfl)).2
  refine ⟨?_⟩
  refine wp_append_lies w (.tmp 40) (.tmp 43) 22 rfl B 9 i0 _ 1 16 Tryz.underlying22 hinfo hz0 hz1 hz2 rfl (by decide) u6 ss.length (strCells ss) (by rw [Act.lay_in a0 ks12 f 40 (by decide) (by have := H.size; omega)]; exact hf40) (hJ.own6 hni) ⟨b, 0, none⟩ 1 1 [.string (ba x)] (by rw [Act.lay_in a0 ks12 f 43 (by decide) (by have := H.size; omega)]; exact hf43) rfl (World.news_of_block (cs := #[.string (ba x)]) hb2) one_str (by decide) (by unfold maxLen; omega) (by omega) (Nat.le_trans H.base hsz) _ rfl ?_
  intro g cap w' hown hgrow hat hlt
  refine ⟨_, Act.lay_put _ _ _ 44 _ (by decide), ?_⟩
  exact {
    own5 := (fun h => by have h2 : done 2 = false := (by simpa using h); rw [p2] at h2; cases h2),
    d2 := (fun _ => ⟨g5, cap5, by simpa using hf39, by simpa using hown5.kept hgrow (.inr hne), hat5⟩),
    own6 := (fun h => by simp at h),
    d7 := (fun _ => ⟨g, cap, by simp, by simpa using hown, by
      simp only [show ((39 : Nat) = 44) = False by simp, if_false, if_true]
      rcases hat with h | h
      · rw [show (Value.slice (some ⟨g, 0, none⟩) (ss.length + 1) cap).ownBlock = some g from rfl, ← h]; exact hne
      · rw [hf39]; show some g5 ≠ some g; intro e; cases e; omega⟩),
    d0 := (by simpa using hJ.d0),
    d1 := (fun _ h => by have h2 : done 2 = false := (by simpa using h); rw [p2] at h2; cases h2),
    d3 := (by simpa using hJ.d3),
    d4 := (by simpa using hJ.d4),
    d5 := (by simpa using hJ.d5),
    d6 := (fun _ h => by simp at h),
    d8 := (by simpa using hJ.d8),
    n8 := (by simpa using hJ.n8),
    d9 := (fun h => by have h2 := (hJ.c9 (by simpa using h)).1; rw [hni] at h2; cases h2),
    n9 := (by simpa using hJ.n9),
    hk := (hJ.hk.grown hgrow (fun k e => .inr (.inr e))),
    c2 := (by simpa using hJ.c2),
    c7 := (fun _ => ⟨by simp [p3], by simp [p6], by simp [p2]⟩),
    c8 := (fun h => by have h2 := (hJ.c8 (by simpa using h)).2.1; rw [hni] at h2; cases h2),
    c9 := (fun h => by have h2 := (hJ.c9 (by simpa using h)).1; rw [hni] at h2; cases h2) }
set_option maxRecDepth 100000 in
set_option maxHeartbeats 400000 in
theorem step12_8 (B b8 : Nat) (u5 u6 : Value) (ws ss : List Sg.B) (x : Sg.B) (w0 : World) (a0 : Act) (H : Pre12 B b8 u5 u6 ws ss x w0 a0) (Q : Exit → Act → World → Prop) (done : Nat → Bool) (f : Nat → Value) (w : World)
    (hni : done 8 = false) (hpre : ∀ e ∈ ({ dst := some 5, op := Op.assign (Operand.tmp 39), type := 22, pos := "plan.go:60", after := #[{ on := 2, ground := Ground.data }, { on := 7, ground := Ground.chain }, { on := 0, ground := Ground.phase }, { on := 1, ground := Ground.phase }, { on := 2, ground := Ground.phase }, { on := 3, ground := Ground.textOnly Departure.lateStores }, { on := 4, ground := Ground.textOnly Departure.lateStores }, { on := 5, ground := Ground.textOnly Departure.lateStores }, { on := 6, ground := Ground.textOnly Departure.lateStores }, { on := 7, ground := Ground.textOnly Departure.lateStoresUnsure }], guard := none } : Oper).after, Region.binds .any e = true → done e.on = true) (hJ : J12 w0 B b8 u5 u6 ws ss x done f w) :
    StepOk ({ dst := some 5, op := Op.assign (Operand.tmp 39), type := 22, pos := "plan.go:60", after := #[{ on := 2, ground := Ground.data }, { on := 7, ground := Ground.chain }, { on := 0, ground := Ground.phase }, { on := 1, ground := Ground.phase }, { on := 2, ground := Ground.phase }, { on := 3, ground := Ground.textOnly Departure.lateStores }, { on := 4, ground := Ground.textOnly Departure.lateStores }, { on := 5, ground := Ground.textOnly Departure.lateStores }, { on := 6, ground := Ground.textOnly Departure.lateStores }, { on := 7, ground := Ground.textOnly Departure.lateStoresUnsure }], guard := none } : Oper) (a0.lay ks12 f) w (fun a' w' => ∃ f', a' = a0.lay ks12 f' ∧ J12 w0 B b8 u5 u6 ws ss x (fun j => j == 8 || done j) f' w') Q := by
  have p2 : done 2 = true := hpre ⟨2, .data⟩ (by simp) rfl
  have p7 : done 7 = true := hpre ⟨7, .chain⟩ (by simp) rfl
  have p0 : done 0 = true := hpre ⟨0, .phase⟩ (by simp) rfl
  have hx : (execOp (a0.lay ks12 f).eval ({ dst := some 5, op := Op.assign (Operand.tmp 39), type := 22, pos := "plan.go:60", after := #[{ on := 2, ground := Ground.data }, { on := 7, ground := Ground.chain }, { on := 0, ground := Ground.phase }, { on := 1, ground := Ground.phase }, { on := 2, ground := Ground.phase }, { on := 3, ground := Ground.textOnly Departure.lateStores }, { on := 4, ground := Ground.textOnly Departure.lateStores }, { on := 5, ground := Ground.textOnly Departure.lateStores }, { on := 6, ground := Ground.textOnly Departure.lateStores }, { on := 7, ground := Ground.textOnly Departure.lateStoresUnsure }], guard := none } : Oper)).run Tryz.prog w = .ok (.value (f 39)) w := by
    have e := Act.lay_in a0 ks12 f 39 (by decide) (by have := H.size; omega)
    exact exec_move _ _ (.tmp 39) (by first | exact .inl rfl | exact .inr rfl) e
  refine step_val hx ?_
  refine ⟨_, Act.lay_put _ _ _ 5 _ (by decide), ?_⟩
  exact {
    own5 := (by simpa using hJ.own5),
    d2 := (by simpa using hJ.d2),
    own6 := (by simpa using hJ.own6),
    d7 := (by simpa using hJ.d7),
    d0 := (by simpa using hJ.d0),
    d1 := (by simpa using hJ.d1),
    d3 := (by simpa using hJ.d3),
    d4 := (by simpa using hJ.d4),
    d5 := (by simpa using hJ.d5),
    d6 := (by simpa using hJ.d6),
    d8 := (fun _ => by simp),
    n8 := (fun h => by simp at h),
    d9 := (by simpa using hJ.d9),
    n9 := (by simpa using hJ.n9),
    hk := (by simpa using hJ.hk),
    c2 := (by simpa using hJ.c2),
    c7 := (by simpa using hJ.c7),
    c8 := (fun _ => ⟨by simp [p2], by simp [p7], by simp [p0]⟩),
    c9 := (fun h => by have h2 := (hJ.c9 (by simpa using h)).2.1; rw [hni] at h2; cases h2) }
set_option maxRecDepth 100000 in
set_option maxHeartbeats 400000 in
theorem step12_9 (B b8 : Nat) (u5 u6 : Value) (ws ss : List Sg.B) (x : Sg.B) (w0 : World) (a0 : Act) (H : Pre12 B b8 u5 u6 ws ss x w0 a0) (Q : Exit → Act → World → Prop) (done : Nat → Bool) (f : Nat → Value) (w : World)
    (hni : done 9 = false) (hpre : ∀ e ∈ ({ dst := some 6, op := Op.assign (Operand.tmp 44), type := 22, pos := "plan.go:60", after := #[{ on := 7, ground := Ground.data }, { on := 8, ground := Ground.chain }, { on := 0, ground := Ground.phase }, { on := 1, ground := Ground.phase }, { on := 2, ground := Ground.phase }, { on := 3, ground := Ground.phase }, { on := 4, ground := Ground.phase }, { on := 5, ground := Ground.phase }, { on := 6, ground := Ground.phase }, { on := 7, ground := Ground.phase }, { on := 8, ground := Ground.phase }], guard := none } : Oper).after, Region.binds .any e = true → done e.on = true) (hJ : J12 w0 B b8 u5 u6 ws ss x done f w) :
    StepOk ({ dst := some 6, op := Op.assign (Operand.tmp 44), type := 22, pos := "plan.go:60", after := #[{ on := 7, ground := Ground.data }, { on := 8, ground := Ground.chain }, { on := 0, ground := Ground.phase }, { on := 1, ground := Ground.phase }, { on := 2, ground := Ground.phase }, { on := 3, ground := Ground.phase }, { on := 4, ground := Ground.phase }, { on := 5, ground := Ground.phase }, { on := 6, ground := Ground.phase }, { on := 7, ground := Ground.phase }, { on := 8, ground := Ground.phase }], guard := none } : Oper) (a0.lay ks12 f) w (fun a' w' => ∃ f', a' = a0.lay ks12 f' ∧ J12 w0 B b8 u5 u6 ws ss x (fun j => j == 9 || done j) f' w') Q := by
  have p7 : done 7 = true := hpre ⟨7, .data⟩ (by simp) rfl
  have p8 : done 8 = true := hpre ⟨8, .chain⟩ (by simp) rfl
  have p3 : done 3 = true := hpre ⟨3, .phase⟩ (by simp) rfl
  have hx : (execOp (a0.lay ks12 f).eval ({ dst := some 6, op := Op.assign (Operand.tmp 44), type := 22, pos := "plan.go:60", after := #[{ on := 7, ground := Ground.data }, { on := 8, ground := Ground.chain }, { on := 0, ground := Ground.phase }, { on := 1, ground := Ground.phase }, { on := 2, ground := Ground.phase }, { on := 3, ground := Ground.phase }, { on := 4, ground := Ground.phase }, { on := 5, ground := Ground.phase }, { on := 6, ground := Ground.phase }, { on := 7, ground := Ground.phase }, { on := 8, ground := Ground.phase }], guard := none } : Oper)).run Tryz.prog w = .ok (.value (f 44)) w := by
    have e := Act.lay_in a0 ks12 f 44 (by decide) (by have := H.size; omega)
    exact exec_move _ _ (.tmp 44) (by first | exact .inl rfl | exact .inr rfl) e
  refine step_val hx ?_
  refine ⟨_, Act.lay_put _ _ _ 6 _ (by decide), ?_⟩
  exact {
    own5 := (by simpa using hJ.own5),
    d2 := (by simpa using hJ.d2),
    own6 := (by simpa using hJ.own6),
    d7 := (by simpa using hJ.d7),
    d0 := (by simpa using hJ.d0),
    d1 := (by simpa using hJ.d1),
    d3 := (by simpa using hJ.d3),
    d4 := (by simpa using hJ.d4),
    d5 := (by simpa using hJ.d5),
    d6 := (by simpa using hJ.d6),
    d8 := (by simpa using hJ.d8),
    n8 := (by simpa using hJ.n8),
    d9 := (fun _ => by simp),
    n9 := (fun h => by simp at h),
    hk := (by simpa using hJ.hk),
    c2 := (by simpa using hJ.c2),
    c7 := (by simpa using hJ.c7),
    c8 := (by simpa using hJ.c8),
    c9 := (fun _ => ⟨by simp [p7], by simp [p8], by simp [p3]⟩) }

set_option maxRecDepth 100000 in
theorem region12 (B b8 : Nat) (u5 u6 : Value) (ws ss : List Sg.B) (x : Sg.B) (w0 : World) (a0 : Act) (H : Pre12 B b8 u5 u6 ws ss x w0 a0) (Q : Exit → Act → World → Prop) (id : Nat)
    (h5 : a0.eval (.tmp 5) = u5) (h6 : a0.eval (.tmp 6) = u6) (hd : OwnS w0 B u5 ws) (hd6 : OwnS w0 B u6 ss)
    (hQ : ∀ (f : Nat → Value) (w : World), (∃ g cap, f 5 = .slice (some ⟨g, 0, none⟩) (ws.length + 1) cap) → (∃ g cap, f 6 = .slice (some ⟨g, 0, none⟩) (ss.length + 1) cap) → OwnS w B (f 5) (ws ++ [[63]]) → OwnS w B (f 6) (ss ++ [x]) → (f 5).ownBlock ≠ (f 6).ownBlock →
      Keeps (fun k => u5.ownBlock = some k ∨ u6.ownBlock = some k) w0 w → Q .normal (a0.lay ks12 f) w) :
    (Code.region id ops12 true).wp Tryz.prog Q a0 w0 := by
  refine wp_region_inv (by kernel_rfl) (fun done a w => ∃ f, a = a0.lay ks12 f ∧ J12 w0 B b8 u5 u6 ws ss x done f w) (by kernel_rfl) ?_ ?_ ?_
  · refine ⟨fun k => a0.tmps.getD k undef, (Act.lay_self a0 ks12).symm, ?_⟩
    exact { own5 := fun _ => hd, d2 := (fun h => by cases h), own6 := fun _ => hd6, d7 := (fun h => by cases h), d0 := (fun h => by cases h), d1 := (fun h => by cases h), d3 := (fun h => by cases h), d4 := (fun h => by cases h), d5 := (fun h => by cases h), d6 := (fun h => by cases h), d8 := (fun h => by cases h), n8 := fun _ => h5, d9 := (fun h => by cases h), n9 := fun _ => h6, hk := (Keeps.refl _ _).drew, c2 := (fun h => by cases h), c7 := (fun h => by cases h), c8 := (fun h => by cases h), c9 := (fun h => by cases h) }
  · rintro done a w i o ho hni hpre ⟨f, rfl, hJ⟩
    match i, ho, hni with
    | 0, ho, hni =>
      have e := ho
      simp only [ops12, List.getElem?_toArray, List.getElem?_cons_succ, List.getElem?_cons_zero, Option.some.injEq] at e
      subst e
      refine wpOp_step ho rfl ?_
      exact step12_0 B b8 u5 u6 ws ss x w0 a0 H Q done f w hni hpre hJ
    | 1, ho, hni =>
      have e := ho
      simp only [ops12, List.getElem?_toArray, List.getElem?_cons_succ, List.getElem?_cons_zero, Option.some.injEq] at e
      subst e
      refine wpOp_step ho rfl ?_
      exact step12_1 B b8 u5 u6 ws ss x w0 a0 H Q done f w hni hpre hJ
    | 2, ho, hni =>
      have e := ho
      simp only [ops12, List.getElem?_toArray, List.getElem?_cons_succ, List.getElem?_cons_zero, Option.some.injEq] at e
      subst e
      refine wpOp_step ho rfl ?_
      exact step12_2 B b8 u5 u6 ws ss x w0 a0 H Q done f w hni hpre hJ
    | 3, ho, hni =>
      have e := ho
      simp only [ops12, List.getElem?_toArray, List.getElem?_cons_succ, List.getElem?_cons_zero, Option.some.injEq] at e
      subst e
      refine wpOp_step ho rfl ?_
      exact step12_3 B b8 u5 u6 ws ss x w0 a0 H Q done f w hni hpre hJ
    | 4, ho, hni =>
      have e := ho
      simp only [ops12, List.getElem?_toArray, List.getElem?_cons_succ, List.getElem?_cons_zero, Option.some.injEq] at e
      subst e
      refine wpOp_step ho rfl ?_
      exact step12_4 B b8 u5 u6 ws ss x w0 a0 H Q done f w hni hpre hJ
    | 5, ho, hni =>
      have e := ho
      simp only [ops12, List.getElem?_toArray, List.getElem?_cons_succ, List.getElem?_cons_zero, Option.some.injEq] at e
      subst e
      refine wpOp_step ho rfl ?_
      exact step12_5 B b8 u5 u6 ws ss x w0 a0 H Q done f w hni hpre hJ
    | 6, ho, hni =>
      have e := ho
      simp only [ops12, List.getElem?_toArray, List.getElem?_cons_succ, List.getElem?_cons_zero, Option.some.injEq] at e
      subst e
      refine wpOp_step ho rfl ?_
      exact step12_6 B b8 u5 u6 ws ss x w0 a0 H Q done f w hni hpre hJ
    | 7, ho, hni =>
      have e := ho
      simp only [ops12, List.getElem?_toArray, List.getElem?_cons_succ, List.getElem?_cons_zero, Option.some.injEq] at e
      subst e
      refine wpOp_step ho rfl ?_
      exact step12_7 B b8 u5 u6 ws ss x w0 a0 H Q done f w hni hpre hJ
    | 8, ho, hni =>
      have e := ho
      simp only [ops12, List.getElem?_toArray, List.getElem?_cons_succ, List.getElem?_cons_zero, Option.some.injEq] at e
      subst e
      refine wpOp_step ho rfl ?_
      exact step12_8 B b8 u5 u6 ws ss x w0 a0 H Q done f w hni hpre hJ
    | 9, ho, hni =>
      have e := ho
      simp only [ops12, List.getElem?_toArray, List.getElem?_cons_succ, List.getElem?_cons_zero, Option.some.injEq] at e
      subst e
      refine wpOp_step ho rfl ?_
      exact step12_9 B b8 u5 u6 ws ss x w0 a0 H Q done f w hni hpre hJ
    | n + 10, ho, hni => exact absurd ho (by simp [ops12])
  · rintro done a w hall ⟨f, rfl, hJ⟩
    have hd2 := hJ.d2 (hall 2 (by decide))
    have hd7 := hJ.d7 (hall 7 (by decide))
    have e8 := hJ.d8 (hall 8 (by decide))
    have e9 := hJ.d9 (hall 9 (by decide))
    obtain ⟨g, cap, h1, h2, h3⟩ := hd2
    obtain ⟨g', cap', h1', h2', h3'⟩ := hd7
    refine hQ f w ⟨g, cap, e8.trans h1⟩ ⟨g', cap', e9.trans h1'⟩ ?_ ?_ ?_ hJ.hk
    · rw [e8]; unfold OwnS; rw [strCells_append, List.length_append]; exact h2
    · rw [e9]; unfold OwnS; rw [strCells_append, List.length_append]; exact h2'
    · rw [e8, e9]; exact h3'
end Go.Proofs.YtpaioaljopjpkaaGreatDoor
