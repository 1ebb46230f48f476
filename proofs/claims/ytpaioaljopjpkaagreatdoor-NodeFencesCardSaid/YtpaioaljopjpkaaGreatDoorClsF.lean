/- The closure that fills a classer's map of rules: its drawing region by an invariant. Conditions: the classer's cells as they are laid. -/
import Derived.Test.YtpaioaljopjpkaaGreatDoorClsE
set_option linter.unusedVariables false
set_option linter.unusedSimpArgs false
namespace Go.Proofs.YtpaioaljopjpkaaGreatDoor
open Go.RowKit

theorem wpOp_lit {P : Program} {ops : Array Oper} {Q : Exit → Act → World → Prop} {i : Nat} {o : Oper} {K : Act → World → Prop} {a : Act} {w : World} (ho : ops[i]? = some o) (hg : o.guard = none) (h : o.wp P a w K Q) : wpOp P ops Q i K a w := by
  unfold wpOp
  rw [ho]
  simp only
  rw [if_pos (by simp [Region.wanted, hg])]
  exact .inl h

def insOf : Nat → Option (Sg.B × Rule)
  | 2 => some ([69, 88, 80, 76, 65, 73, 78], .explain)
  | 3 => some ([66, 69, 71, 73, 78], .begin)
  | 4 => some ([83, 84, 65, 82, 84], .start)
  | 6 => some ([67, 79, 77, 77, 73, 84], .ends 4)
  | 8 => some ([82, 79, 76, 76, 66, 65, 67, 75], .ends 5)
  | 9 => some ([83, 69, 84], .set)
  | _ => none

def frame0 (pv v7 v8 v9 v10 v11 v12 v13 : Value) : Act := ⟨#[pv, undef, undef, undef, undef, undef, undef, v7, v8, v9, v10, v11, v12, v13, undef, undef, undef, undef, undef, undef, undef, undef, undef, undef, undef, undef, undef, undef, undef, undef, undef, undef, undef, undef, undef, undef, undef, undef, undef, undef, undef, undef, undef, undef, undef, undef, undef, undef, undef, undef, undef, undef], []⟩

def doneS (done : Nat → Bool) (k : Sg.B) (r : Rule) : Prop := ∃ i, done i = true ∧ insOf i = some (k, r)
structure Inv0 (w : World) (pl c : Nat) (x0 x1 x2 : Value) (done : Nat → Bool) (v7 v8 v9 v10 v11 v12 v13 : Value) (mb : Nat) (w' : World) : Prop where
  h0 : done 0 = true → v7 = .pointer (some ⟨c, 0, none⟩)
  h1 : done 1 = true → v8 = .map (some mb) ∧ w.heap.size ≤ mb ∧ ∃ es ck, w'.heap[mb]? = some (.map es ck) ∧ RulesIn w' es (doneS done)
  h5 : done 5 = true → RuleV w' (.ends 4) v9
  h7 : done 7 = true → RuleV w' (.ends 5) v10
  h10 : done 10 = true → v11 = .map (some mb)
  h11 : done 11 = true → v12 = .pointer (some ⟨c, 0, none⟩)
  h12 : done 12 = true → v13 = .pointer (some ⟨c, 3, none⟩)
  hc : w'.heap[c]? = some (.cells #[x0, x1, x2, if done 13 then .map (some mb) else .map none] 132 (0, 0))
  hk : Keeps (· = c) w w'

def I0 (w : World) (pl c : Nat) (x0 x1 x2 : Value) (done : Nat → Bool) (a : Act) (w' : World) : Prop :=
  ∃ v7 v8 v9 v10 v11 v12 v13 mb, a = frame0 (.pointer (some ⟨pl, 0, none⟩)) v7 v8 v9 v10 v11 v12 v13 ∧ Inv0 w pl c x0 x1 x2 done v7 v8 v9 v10 v11 v12 v13 mb w'

theorem RulesIn.congr {w : World} {es : Array MapEntry} {S S' : Sg.B → Rule → Prop} (h : RulesIn w es S) (hS : ∀ k r, S' k r ↔ S k r) : RulesIn w es S' :=
  ⟨fun e he => let ⟨k, r, h1, h2, h3⟩ := h.1 e he; ⟨k, r, (hS k r).2 h1, h2, h3⟩, fun k r h' => h.2 k r ((hS k r).1 h')⟩
theorem doneS_skip (done : Nat → Bool) (n : Nat) (hn : insOf n = none) (k : Sg.B) (r : Rule) : doneS (fun j => j == n || done j) k r ↔ doneS done k r := by
  constructor
  · rintro ⟨i, h1, h2⟩
    by_cases e : i = n
    · subst e; rw [hn] at h2; cases h2
    · exact ⟨i, by simpa [e] using h1, h2⟩
  · rintro ⟨i, h1, h2⟩
    exact ⟨i, by simp [h1], h2⟩
theorem doneS_put (done : Nat → Bool) (n : Nat) (k0 : Sg.B) (r0 : Rule) (hn : insOf n = some (k0, r0)) (k : Sg.B) (r : Rule) : doneS (fun j => j == n || done j) k r ↔ (doneS done k r ∨ (k = k0 ∧ r = r0)) := by
  constructor
  · rintro ⟨i, h1, h2⟩
    by_cases e : i = n
    · subst e; rw [hn] at h2; cases h2; exact .inr ⟨rfl, rfl⟩
    · exact .inl ⟨i, by simpa [e] using h1, h2⟩
  · rintro (⟨i, h1, h2⟩ | ⟨rfl, rfl⟩)
    · exact ⟨i, by simp [h1], h2⟩
    · exact ⟨n, by simp, hn⟩
theorem insOf_inj {i j : Nat} {k : Sg.B} {r r' : Rule} (hi : insOf i = some (k, r)) (hj : insOf j = some (k, r')) : i = j := by
  unfold insOf at hi hj
  split at hi <;> first | (cases hi; done) | skip
  all_goals
    split at hj <;> first | (cases hj; done) | skip
    all_goals
      simp only [Option.some.injEq, Prod.mk.injEq] at hi hj
      first
        | rfl
        | (exfalso; have h1 := hi.1.trans hj.1.symm; revert h1; decide)
theorem doneS_new (done : Nat → Bool) (n : Nat) (k0 : Sg.B) (r0 : Rule) (hn : insOf n = some (k0, r0)) (hd : done n = false) (r : Rule) : ¬ doneS done k0 r := by
  rintro ⟨i, h1, h2⟩
  have := insOf_inj h2 hn
  subst this
  rw [hd] at h1
  cases h1
/-- what is left as it was: a box. -/
theorem box_alloc (w : World) (o : Obj) (b n : Nat) (h : w.heap[b]? = some (Obj.cells #[.int .i64 (n : Int)] 3 (0, 0))) : (w.alloc o).heap[b]? = w.heap[b]? :=
  Below.heap_alloc _ _ _ (Array.getElem?_eq_some_iff.1 h).1
theorem box_put (w : World) (mb : Nat) (es : Array MapEntry) (ck : Nat) (o : Obj) (hm : w.heap[mb]? = some (.map es ck)) (b n : Nat) (h : w.heap[b]? = some (Obj.cells #[.int .i64 (n : Int)] 3 (0, 0))) : (w.putObj mb o).heap[b]? = w.heap[b]? :=
  putObj_other _ _ _ _ (fun e => by subst e; rw [hm] at h; cases h)
theorem box_set (w : World) (c o : Nat) (v : Value) (cs : Array Value) (hc : w.heap[c]? = some (.cells cs 132 (0, 0))) (b n : Nat) (h : w.heap[b]? = some (Obj.cells #[.int .i64 (n : Int)] 3 (0, 0))) : (w.setCell ⟨c, o, none⟩ v).heap[b]? = w.heap[b]? :=
  Below.heap_setCell _ _ _ _ (fun e => by simp only at e; subst e; rw [hc] at h; cases h)

def fillOps : Array Oper := #[{ dst := some 7, op := Op.load 28 (Operand.tmp 0), type := 28, pos := "class.go:51", after := #[], guard := none }, { dst := some 8, op := Op.makeMap 130 none, type := 130, pos := "class.go:51", after := #[], guard := none }, { dst := none, op := Op.insert 130 (Operand.tmp 8) (Operand.const (Value.string { data := #[69, 88, 80, 76, 65, 73, 78] })) (Operand.func 136), type := 0, pos := "class.go:51", after := #[{ on := 1, ground := Ground.data }], guard := none }, { dst := none, op := Op.insert 130 (Operand.tmp 8) (Operand.const (Value.string { data := #[66, 69, 71, 73, 78] })) (Operand.func 137), type := 0, pos := "class.go:51", after := #[{ on := 1, ground := Ground.data }], guard := none }, { dst := none, op := Op.insert 130 (Operand.tmp 8) (Operand.const (Value.string { data := #[83, 84, 65, 82, 84] })) (Operand.func 138), type := 0, pos := "class.go:51", after := #[{ on := 1, ground := Ground.data }], guard := none }, { dst := some 9, op := Op.call { callee := Callee.value (Operand.func 139), args := #[Operand.const (Value.int IntKind.i64 4)], argTypes := #[3] }, type := 189, pos := "class.go:51", after := #[], guard := none }, { dst := none, op := Op.insert 130 (Operand.tmp 8) (Operand.const (Value.string { data := #[67, 79, 77, 77, 73, 84] })) (Operand.tmp 9), type := 0, pos := "class.go:51", after := #[{ on := 1, ground := Ground.data }, { on := 5, ground := Ground.data }], guard := none }, { dst := some 10, op := Op.call { callee := Callee.value (Operand.func 139), args := #[Operand.const (Value.int IntKind.i64 5)], argTypes := #[3] }, type := 189, pos := "class.go:51", after := #[{ on := 5, ground := Ground.chain }], guard := none }, { dst := none, op := Op.insert 130 (Operand.tmp 8) (Operand.const (Value.string { data := #[82, 79, 76, 76, 66, 65, 67, 75] })) (Operand.tmp 10), type := 0, pos := "class.go:51", after := #[{ on := 1, ground := Ground.data }, { on := 7, ground := Ground.data }], guard := none }, { dst := none, op := Op.insert 130 (Operand.tmp 8) (Operand.const (Value.string { data := #[83, 69, 84] })) (Operand.func 140), type := 0, pos := "class.go:51", after := #[{ on := 1, ground := Ground.data }], guard := none }, { dst := some 11, op := Op.move (Operand.tmp 8), type := 130, pos := "class.go:51", after := #[{ on := 1, ground := Ground.data }, { on := 2, ground := Ground.data }, { on := 3, ground := Ground.data }, { on := 4, ground := Ground.data }, { on := 5, ground := Ground.data }, { on := 6, ground := Ground.data }, { on := 7, ground := Ground.data }, { on := 8, ground := Ground.data }, { on := 9, ground := Ground.data }], guard := none }, { dst := some 12, op := Op.nilCheck (Operand.tmp 7), type := 0, pos := "class.go:51", after := #[{ on := 0, ground := Ground.data }, { on := 0, ground := Ground.phase }, { on := 1, ground := Ground.phase }, { on := 2, ground := Ground.phase }, { on := 3, ground := Ground.phase }, { on := 4, ground := Ground.phase }, { on := 5, ground := Ground.phase }, { on := 6, ground := Ground.phase }, { on := 7, ground := Ground.phase }, { on := 8, ground := Ground.phase }, { on := 9, ground := Ground.phase }, { on := 10, ground := Ground.phase }], guard := none }, { dst := some 13, op := Op.fieldAddr 132 (Operand.tmp 12) 1, type := 0, pos := "class.go:51", after := #[{ on := 11, ground := Ground.data }, { on := 0, ground := Ground.phase }, { on := 1, ground := Ground.phase }, { on := 2, ground := Ground.phase }, { on := 3, ground := Ground.phase }, { on := 4, ground := Ground.phase }, { on := 5, ground := Ground.phase }, { on := 6, ground := Ground.phase }, { on := 7, ground := Ground.phase }, { on := 8, ground := Ground.phase }, { on := 9, ground := Ground.phase }, { on := 10, ground := Ground.phase }], guard := none }, { dst := none, op := Op.store 130 (Operand.tmp 13) (Operand.tmp 11), type := 0, pos := "class.go:51", after := #[{ on := 12, ground := Ground.data }, { on := 10, ground := Ground.data }, { on := 7, ground := Ground.chain }, { on := 0, ground := Ground.phase }, { on := 1, ground := Ground.phase }, { on := 2, ground := Ground.phase }, { on := 3, ground := Ground.phase }, { on := 4, ground := Ground.phase }, { on := 5, ground := Ground.phase }, { on := 6, ground := Ground.phase }, { on := 7, ground := Ground.phase }, { on := 8, ground := Ground.phase }, { on := 9, ground := Ground.phase }, { on := 10, ground := Ground.phase }], guard := none }]

def waits (i j : Nat) : Bool := j == 1 && (i == 2 || i == 3 || i == 4 || i == 6 || i == 8 || i == 9 || i == 10 || i == 13)
theorem insOf_after {i : Nat} {k : Sg.B} {r : Rule} (h : insOf i = some (k, r)) : waits i 1 = true := by
  unfold insOf at h
  split at h <;> first | rfl | cases h

set_option maxRecDepth 100000 in
set_option maxHeartbeats 1000000 in
theorem fill_step0 (pl c : Nat) (x0 x1 x2 : Value) (w : World) (hp : w.cell? ⟨pl, 0, none⟩ = some (.pointer (some ⟨c, 0, none⟩))) (hpc : pl ≠ c)
    (Q : Exit → Act → World → Prop) (done : Nat → Bool) (a : Act) (w' : World) (hni : done 0 = false) (hlow : ∀ i j, waits i j = true → done j = false → done i = false)
    (hpre : ∀ e ∈ ({ dst := some 7, op := Op.load 28 (Operand.tmp 0), type := 28, pos := "class.go:51", after := #[], guard := none } : Oper).after, Region.binds .any e = true → done e.on = true) (hI : I0 w pl c x0 x1 x2 done a w') :
    ({ dst := some 7, op := Op.load 28 (Operand.tmp 0), type := 28, pos := "class.go:51", after := #[], guard := none } : Oper).wp Tryz.prog a w' (I0 w pl c x0 x1 x2 (fun j => j == 0 || done j)) Q := by
    obtain ⟨v7, v8, v9, v10, v11, v12, v13, mb, rfl, J⟩ := hI
    unfold frame0
    have HJ := Lib.hid J; clear J
    have hl := HJ.out.hk.cell (p := ⟨pl, 0, none⟩) (World.block_lt_of_cell? w _ hp) hpc
    rw [hp] at hl
    clear hpre
    go_wp2
    exact ⟨_, v8, v9, v10, v11, v12, v13, mb, rfl, { h0 := fun _ => rfl, h5 := fun h => HJ.out.h5 (by simpa using h), h7 := fun h => HJ.out.h7 (by simpa using h), h10 := fun h => HJ.out.h10 (by simpa using h), h11 := fun h => HJ.out.h11 (by simpa using h), h12 := fun h => HJ.out.h12 (by simpa using h), h1 := fun h => by obtain ⟨a1, a2, es, ck, a3, a4⟩ := HJ.out.h1 (by simpa using h); exact ⟨a1, a2, es, ck, a3, a4.congr (doneS_skip done 0 rfl)⟩, hc := by have := HJ.out.hc; simpa using this, hk := HJ.out.hk }⟩

set_option maxRecDepth 100000 in
set_option maxHeartbeats 1000000 in
theorem fill_step1 (pl c : Nat) (x0 x1 x2 : Value) (w : World) (hp : w.cell? ⟨pl, 0, none⟩ = some (.pointer (some ⟨c, 0, none⟩))) (hpc : pl ≠ c)
    (Q : Exit → Act → World → Prop) (done : Nat → Bool) (a : Act) (w' : World) (hni : done 1 = false) (hlow : ∀ i j, waits i j = true → done j = false → done i = false)
    (hpre : ∀ e ∈ ({ dst := some 8, op := Op.makeMap 130 none, type := 130, pos := "class.go:51", after := #[], guard := none } : Oper).after, Region.binds .any e = true → done e.on = true) (hI : I0 w pl c x0 x1 x2 done a w') :
    ({ dst := some 8, op := Op.makeMap 130 none, type := 130, pos := "class.go:51", after := #[], guard := none } : Oper).wp Tryz.prog a w' (I0 w pl c x0 x1 x2 (fun j => j == 1 || done j)) Q := by
    obtain ⟨v7, v8, v9, v10, v11, v12, v13, mb, rfl, J⟩ := hI
    unfold frame0
    have HJ := Lib.hid J; clear J
    have hmm := @run_makeMap Tryz.prog
    clear hpre
    have hn10 : done 10 = false := hlow 10 1 rfl hni
    have hn13 : done 13 = false := hlow 13 1 rfl hni
    go_wp2
    refine ⟨v7, _, v9, v10, v11, v12, v13, w'.heap.size, rfl, { h0 := fun h => HJ.out.h0 (by simpa using h), h5 := fun h => RuleV.keep (HJ.out.h5 (by simpa using h)) (fun b n hb => box_alloc _ _ b n hb), h7 := fun h => RuleV.keep (HJ.out.h7 (by simpa using h)) (fun b n hb => box_alloc _ _ b n hb), h10 := fun h => by simp [hn10] at h, h11 := fun h => HJ.out.h11 (by simpa using h), h12 := fun h => HJ.out.h12 (by simpa using h), h1 := fun _ => ⟨rfl, HJ.out.hk.size, #[], 0, heap_alloc_new _ _, ⟨fun e he => by simp at he, fun k r h => ?_⟩⟩, hc := by have h := HJ.out.hc; rw [Below.heap_alloc w' _ c (Array.getElem?_eq_some_iff.1 h).1, h]; simp [hn13], hk := HJ.out.hk.alloc _ }⟩
    exfalso
    obtain ⟨i, h1, h2⟩ := h
    have h3 : i = 1 ∨ done i = true := by simpa using h1
    rcases h3 with rfl | h3
    · cases h2
    · have := hlow i 1 (insOf_after h2) hni
      rw [this] at h3; cases h3

set_option maxRecDepth 100000 in
set_option maxHeartbeats 1000000 in
theorem fill_step2 (pl c : Nat) (x0 x1 x2 : Value) (w : World) (hp : w.cell? ⟨pl, 0, none⟩ = some (.pointer (some ⟨c, 0, none⟩))) (hpc : pl ≠ c)
    (Q : Exit → Act → World → Prop) (done : Nat → Bool) (a : Act) (w' : World) (hni : done 2 = false) (hlow : ∀ i j, waits i j = true → done j = false → done i = false)
    (hpre : ∀ e ∈ ({ dst := none, op := Op.insert 130 (Operand.tmp 8) (Operand.const (Value.string { data := #[69, 88, 80, 76, 65, 73, 78] })) (Operand.func 136), type := 0, pos := "class.go:51", after := #[{ on := 1, ground := Ground.data }], guard := none } : Oper).after, Region.binds .any e = true → done e.on = true) (hI : I0 w pl c x0 x1 x2 done a w') :
    ({ dst := none, op := Op.insert 130 (Operand.tmp 8) (Operand.const (Value.string { data := #[69, 88, 80, 76, 65, 73, 78] })) (Operand.func 136), type := 0, pos := "class.go:51", after := #[{ on := 1, ground := Ground.data }], guard := none } : Oper).wp Tryz.prog a w' (I0 w pl c x0 x1 x2 (fun j => j == 2 || done j)) Q := by
    obtain ⟨v7, v8, v9, v10, v11, v12, v13, mb, rfl, J⟩ := hI
    unfold frame0
    have HJ := Lib.hid J; clear J
    have hrv : RuleV w' .explain (.func (.func 136) #[] #[]) := rfl
    obtain ⟨rfl, a2, es, ck, a3, a4⟩ := HJ.out.h1 (hpre ⟨1, .data⟩ (by simp) rfl)
    have hmu := run_mapUpdate_new (P := Tryz.prog) (t := 130) (v := .func (.func 136) #[] #[]) Tryz.underlying130 Tryz.underlying9 (checkKey_string Tryz.underlying9 _ _) a3 (a4.new [69, 88, 80, 76, 65, 73, 78] (fun r => doneS_new done 2 _ _ rfl hni r))
    unfold ba at hmu
    clear hpre
    go_wp2
    exact ⟨v7, (.map (some mb)), v9, v10, v11, v12, v13, mb, rfl, { h0 := fun h => HJ.out.h0 (by simpa using h), h5 := fun h => RuleV.keep (HJ.out.h5 (by simpa using h)) (fun b n hb => box_put _ _ _ _ _ a3 b n hb), h7 := fun h => RuleV.keep (HJ.out.h7 (by simpa using h)) (fun b n hb => box_put _ _ _ _ _ a3 b n hb), h10 := fun h => HJ.out.h10 (by simpa using h), h11 := fun h => HJ.out.h11 (by simpa using h), h12 := fun h => HJ.out.h12 (by simpa using h), h1 := fun _ => ⟨rfl, a2, _, _, putObj_same _ _ _ (Array.getElem?_eq_some_iff.1 a3).1, (RulesIn.push a4 _ .explain _ ck hrv (doneS_put done 2 _ _ rfl)).keep (fun b n hb => box_put _ _ _ _ _ a3 b n hb)⟩, hc := by have h := HJ.out.hc; rw [putObj_other _ _ _ _ (fun e => by rw [e, a3] at h; cases h)]; simpa using h, hk := HJ.out.hk.putObj (.inl a2) _ }⟩

set_option maxRecDepth 100000 in
set_option maxHeartbeats 1000000 in
theorem fill_step3 (pl c : Nat) (x0 x1 x2 : Value) (w : World) (hp : w.cell? ⟨pl, 0, none⟩ = some (.pointer (some ⟨c, 0, none⟩))) (hpc : pl ≠ c)
    (Q : Exit → Act → World → Prop) (done : Nat → Bool) (a : Act) (w' : World) (hni : done 3 = false) (hlow : ∀ i j, waits i j = true → done j = false → done i = false)
    (hpre : ∀ e ∈ ({ dst := none, op := Op.insert 130 (Operand.tmp 8) (Operand.const (Value.string { data := #[66, 69, 71, 73, 78] })) (Operand.func 137), type := 0, pos := "class.go:51", after := #[{ on := 1, ground := Ground.data }], guard := none } : Oper).after, Region.binds .any e = true → done e.on = true) (hI : I0 w pl c x0 x1 x2 done a w') :
    ({ dst := none, op := Op.insert 130 (Operand.tmp 8) (Operand.const (Value.string { data := #[66, 69, 71, 73, 78] })) (Operand.func 137), type := 0, pos := "class.go:51", after := #[{ on := 1, ground := Ground.data }], guard := none } : Oper).wp Tryz.prog a w' (I0 w pl c x0 x1 x2 (fun j => j == 3 || done j)) Q := by
    obtain ⟨v7, v8, v9, v10, v11, v12, v13, mb, rfl, J⟩ := hI
    unfold frame0
    have HJ := Lib.hid J; clear J
    have hrv : RuleV w' .begin (.func (.func 137) #[] #[]) := rfl
    obtain ⟨rfl, a2, es, ck, a3, a4⟩ := HJ.out.h1 (hpre ⟨1, .data⟩ (by simp) rfl)
    have hmu := run_mapUpdate_new (P := Tryz.prog) (t := 130) (v := .func (.func 137) #[] #[]) Tryz.underlying130 Tryz.underlying9 (checkKey_string Tryz.underlying9 _ _) a3 (a4.new [66, 69, 71, 73, 78] (fun r => doneS_new done 3 _ _ rfl hni r))
    unfold ba at hmu
    clear hpre
    go_wp2
    exact ⟨v7, (.map (some mb)), v9, v10, v11, v12, v13, mb, rfl, { h0 := fun h => HJ.out.h0 (by simpa using h), h5 := fun h => RuleV.keep (HJ.out.h5 (by simpa using h)) (fun b n hb => box_put _ _ _ _ _ a3 b n hb), h7 := fun h => RuleV.keep (HJ.out.h7 (by simpa using h)) (fun b n hb => box_put _ _ _ _ _ a3 b n hb), h10 := fun h => HJ.out.h10 (by simpa using h), h11 := fun h => HJ.out.h11 (by simpa using h), h12 := fun h => HJ.out.h12 (by simpa using h), h1 := fun _ => ⟨rfl, a2, _, _, putObj_same _ _ _ (Array.getElem?_eq_some_iff.1 a3).1, (RulesIn.push a4 _ .begin _ ck hrv (doneS_put done 3 _ _ rfl)).keep (fun b n hb => box_put _ _ _ _ _ a3 b n hb)⟩, hc := by have h := HJ.out.hc; rw [putObj_other _ _ _ _ (fun e => by rw [e, a3] at h; cases h)]; simpa using h, hk := HJ.out.hk.putObj (.inl a2) _ }⟩

set_option maxRecDepth 100000 in
set_option maxHeartbeats 1000000 in
theorem fill_step4 (pl c : Nat) (x0 x1 x2 : Value) (w : World) (hp : w.cell? ⟨pl, 0, none⟩ = some (.pointer (some ⟨c, 0, none⟩))) (hpc : pl ≠ c)
    (Q : Exit → Act → World → Prop) (done : Nat → Bool) (a : Act) (w' : World) (hni : done 4 = false) (hlow : ∀ i j, waits i j = true → done j = false → done i = false)
    (hpre : ∀ e ∈ ({ dst := none, op := Op.insert 130 (Operand.tmp 8) (Operand.const (Value.string { data := #[83, 84, 65, 82, 84] })) (Operand.func 138), type := 0, pos := "class.go:51", after := #[{ on := 1, ground := Ground.data }], guard := none } : Oper).after, Region.binds .any e = true → done e.on = true) (hI : I0 w pl c x0 x1 x2 done a w') :
    ({ dst := none, op := Op.insert 130 (Operand.tmp 8) (Operand.const (Value.string { data := #[83, 84, 65, 82, 84] })) (Operand.func 138), type := 0, pos := "class.go:51", after := #[{ on := 1, ground := Ground.data }], guard := none } : Oper).wp Tryz.prog a w' (I0 w pl c x0 x1 x2 (fun j => j == 4 || done j)) Q := by
    obtain ⟨v7, v8, v9, v10, v11, v12, v13, mb, rfl, J⟩ := hI
    unfold frame0
    have HJ := Lib.hid J; clear J
    have hrv : RuleV w' .start (.func (.func 138) #[] #[]) := rfl
    obtain ⟨rfl, a2, es, ck, a3, a4⟩ := HJ.out.h1 (hpre ⟨1, .data⟩ (by simp) rfl)
    have hmu := run_mapUpdate_new (P := Tryz.prog) (t := 130) (v := .func (.func 138) #[] #[]) Tryz.underlying130 Tryz.underlying9 (checkKey_string Tryz.underlying9 _ _) a3 (a4.new [83, 84, 65, 82, 84] (fun r => doneS_new done 4 _ _ rfl hni r))
    unfold ba at hmu
    clear hpre
    go_wp2
    exact ⟨v7, (.map (some mb)), v9, v10, v11, v12, v13, mb, rfl, { h0 := fun h => HJ.out.h0 (by simpa using h), h5 := fun h => RuleV.keep (HJ.out.h5 (by simpa using h)) (fun b n hb => box_put _ _ _ _ _ a3 b n hb), h7 := fun h => RuleV.keep (HJ.out.h7 (by simpa using h)) (fun b n hb => box_put _ _ _ _ _ a3 b n hb), h10 := fun h => HJ.out.h10 (by simpa using h), h11 := fun h => HJ.out.h11 (by simpa using h), h12 := fun h => HJ.out.h12 (by simpa using h), h1 := fun _ => ⟨rfl, a2, _, _, putObj_same _ _ _ (Array.getElem?_eq_some_iff.1 a3).1, (RulesIn.push a4 _ .start _ ck hrv (doneS_put done 4 _ _ rfl)).keep (fun b n hb => box_put _ _ _ _ _ a3 b n hb)⟩, hc := by have h := HJ.out.hc; rw [putObj_other _ _ _ _ (fun e => by rw [e, a3] at h; cases h)]; simpa using h, hk := HJ.out.hk.putObj (.inl a2) _ }⟩

set_option maxRecDepth 100000 in
set_option maxHeartbeats 1000000 in
theorem fill_step5 (pl c : Nat) (x0 x1 x2 : Value) (w : World) (hp : w.cell? ⟨pl, 0, none⟩ = some (.pointer (some ⟨c, 0, none⟩))) (hpc : pl ≠ c)
    (Q : Exit → Act → World → Prop) (done : Nat → Bool) (a : Act) (w' : World) (hni : done 5 = false) (hlow : ∀ i j, waits i j = true → done j = false → done i = false)
    (hpre : ∀ e ∈ ({ dst := some 9, op := Op.call { callee := Callee.value (Operand.func 139), args := #[Operand.const (Value.int IntKind.i64 4)], argTypes := #[3] }, type := 189, pos := "class.go:51", after := #[], guard := none } : Oper).after, Region.binds .any e = true → done e.on = true) (hI : I0 w pl c x0 x1 x2 done a w') :
    ({ dst := some 9, op := Op.call { callee := Callee.value (Operand.func 139), args := #[Operand.const (Value.int IntKind.i64 4)], argTypes := #[3] }, type := 189, pos := "class.go:51", after := #[], guard := none } : Oper).wp Tryz.prog a w' (I0 w pl c x0 x1 x2 (fun j => j == 5 || done j)) Q := by
    obtain ⟨v7, v8, v9, v10, v11, v12, v13, mb, rfl, J⟩ := hI
    unfold frame0
    have HJ := Lib.hid J; clear J
    clear hpre
    go_wp2_with fail
    refine (ends_calls 4 _).mono ?_
    rintro e w1 ⟨rfl, rfl⟩
    exact ⟨v7, v8, _, v10, v11, v12, v13, mb, rfl, { h0 := fun h => HJ.out.h0 (by simpa using h), h5 := fun _ => ⟨_, rfl, heap_alloc_new _ _⟩, h7 := fun h => RuleV.keep (HJ.out.h7 (by simpa using h)) (fun b n hb => box_alloc _ _ b n hb), h10 := fun h => HJ.out.h10 (by simpa using h), h11 := fun h => HJ.out.h11 (by simpa using h), h12 := fun h => HJ.out.h12 (by simpa using h), h1 := fun h => by obtain ⟨a1, a2, es, ck, a3, a4⟩ := HJ.out.h1 (by simpa using h); exact ⟨a1, a2, es, ck, by rw [Below.heap_alloc _ _ _ (Array.getElem?_eq_some_iff.1 a3).1]; exact a3, (a4.keep (fun b n hb => box_alloc _ _ b n hb)).congr (doneS_skip done 5 rfl)⟩, hc := by have h := HJ.out.hc; rw [Below.heap_alloc w' _ c (Array.getElem?_eq_some_iff.1 h).1]; simpa using h, hk := HJ.out.hk.alloc _ }⟩

set_option maxRecDepth 100000 in
set_option maxHeartbeats 1000000 in
theorem fill_step6 (pl c : Nat) (x0 x1 x2 : Value) (w : World) (hp : w.cell? ⟨pl, 0, none⟩ = some (.pointer (some ⟨c, 0, none⟩))) (hpc : pl ≠ c)
    (Q : Exit → Act → World → Prop) (done : Nat → Bool) (a : Act) (w' : World) (hni : done 6 = false) (hlow : ∀ i j, waits i j = true → done j = false → done i = false)
    (hpre : ∀ e ∈ ({ dst := none, op := Op.insert 130 (Operand.tmp 8) (Operand.const (Value.string { data := #[67, 79, 77, 77, 73, 84] })) (Operand.tmp 9), type := 0, pos := "class.go:51", after := #[{ on := 1, ground := Ground.data }, { on := 5, ground := Ground.data }], guard := none } : Oper).after, Region.binds .any e = true → done e.on = true) (hI : I0 w pl c x0 x1 x2 done a w') :
    ({ dst := none, op := Op.insert 130 (Operand.tmp 8) (Operand.const (Value.string { data := #[67, 79, 77, 77, 73, 84] })) (Operand.tmp 9), type := 0, pos := "class.go:51", after := #[{ on := 1, ground := Ground.data }, { on := 5, ground := Ground.data }], guard := none } : Oper).wp Tryz.prog a w' (I0 w pl c x0 x1 x2 (fun j => j == 6 || done j)) Q := by
    obtain ⟨v7, v8, v9, v10, v11, v12, v13, mb, rfl, J⟩ := hI
    unfold frame0
    have HJ := Lib.hid J; clear J
    have hrv : RuleV w' (.ends 4) v9 := HJ.out.h5 (hpre ⟨5, .data⟩ (by simp) rfl)
    obtain ⟨b9, rfl, hb9⟩ := id hrv
    obtain ⟨rfl, a2, es, ck, a3, a4⟩ := HJ.out.h1 (hpre ⟨1, .data⟩ (by simp) rfl)
    have hmu := run_mapUpdate_new (P := Tryz.prog) (t := 130) (v := .func (.func 171) #[] #[.pointer (some ⟨b9, 0, none⟩)]) Tryz.underlying130 Tryz.underlying9 (checkKey_string Tryz.underlying9 _ _) a3 (a4.new [67, 79, 77, 77, 73, 84] (fun r => doneS_new done 6 _ _ rfl hni r))
    unfold ba at hmu
    clear hpre
    go_wp2
    exact ⟨v7, (.map (some mb)), _, v10, v11, v12, v13, mb, rfl, { h0 := fun h => HJ.out.h0 (by simpa using h), h5 := fun h => RuleV.keep (HJ.out.h5 (by simpa using h)) (fun b n hb => box_put _ _ _ _ _ a3 b n hb), h7 := fun h => RuleV.keep (HJ.out.h7 (by simpa using h)) (fun b n hb => box_put _ _ _ _ _ a3 b n hb), h10 := fun h => HJ.out.h10 (by simpa using h), h11 := fun h => HJ.out.h11 (by simpa using h), h12 := fun h => HJ.out.h12 (by simpa using h), h1 := fun _ => ⟨rfl, a2, _, _, putObj_same _ _ _ (Array.getElem?_eq_some_iff.1 a3).1, (RulesIn.push a4 _ (.ends 4) _ ck hrv (doneS_put done 6 _ _ rfl)).keep (fun b n hb => box_put _ _ _ _ _ a3 b n hb)⟩, hc := by have h := HJ.out.hc; rw [putObj_other _ _ _ _ (fun e => by rw [e, a3] at h; cases h)]; simpa using h, hk := HJ.out.hk.putObj (.inl a2) _ }⟩

set_option maxRecDepth 100000 in
set_option maxHeartbeats 1000000 in
theorem fill_step7 (pl c : Nat) (x0 x1 x2 : Value) (w : World) (hp : w.cell? ⟨pl, 0, none⟩ = some (.pointer (some ⟨c, 0, none⟩))) (hpc : pl ≠ c)
    (Q : Exit → Act → World → Prop) (done : Nat → Bool) (a : Act) (w' : World) (hni : done 7 = false) (hlow : ∀ i j, waits i j = true → done j = false → done i = false)
    (hpre : ∀ e ∈ ({ dst := some 10, op := Op.call { callee := Callee.value (Operand.func 139), args := #[Operand.const (Value.int IntKind.i64 5)], argTypes := #[3] }, type := 189, pos := "class.go:51", after := #[{ on := 5, ground := Ground.chain }], guard := none } : Oper).after, Region.binds .any e = true → done e.on = true) (hI : I0 w pl c x0 x1 x2 done a w') :
    ({ dst := some 10, op := Op.call { callee := Callee.value (Operand.func 139), args := #[Operand.const (Value.int IntKind.i64 5)], argTypes := #[3] }, type := 189, pos := "class.go:51", after := #[{ on := 5, ground := Ground.chain }], guard := none } : Oper).wp Tryz.prog a w' (I0 w pl c x0 x1 x2 (fun j => j == 7 || done j)) Q := by
    obtain ⟨v7, v8, v9, v10, v11, v12, v13, mb, rfl, J⟩ := hI
    unfold frame0
    have HJ := Lib.hid J; clear J
    clear hpre
    go_wp2_with fail
    refine (ends_calls 5 _).mono ?_
    rintro e w1 ⟨rfl, rfl⟩
    exact ⟨v7, v8, v9, _, v11, v12, v13, mb, rfl, { h0 := fun h => HJ.out.h0 (by simpa using h), h5 := fun h => RuleV.keep (HJ.out.h5 (by simpa using h)) (fun b n hb => box_alloc _ _ b n hb), h7 := fun _ => ⟨_, rfl, heap_alloc_new _ _⟩, h10 := fun h => HJ.out.h10 (by simpa using h), h11 := fun h => HJ.out.h11 (by simpa using h), h12 := fun h => HJ.out.h12 (by simpa using h), h1 := fun h => by obtain ⟨a1, a2, es, ck, a3, a4⟩ := HJ.out.h1 (by simpa using h); exact ⟨a1, a2, es, ck, by rw [Below.heap_alloc _ _ _ (Array.getElem?_eq_some_iff.1 a3).1]; exact a3, (a4.keep (fun b n hb => box_alloc _ _ b n hb)).congr (doneS_skip done 7 rfl)⟩, hc := by have h := HJ.out.hc; rw [Below.heap_alloc w' _ c (Array.getElem?_eq_some_iff.1 h).1]; simpa using h, hk := HJ.out.hk.alloc _ }⟩

set_option maxRecDepth 100000 in
set_option maxHeartbeats 1000000 in
theorem fill_step8 (pl c : Nat) (x0 x1 x2 : Value) (w : World) (hp : w.cell? ⟨pl, 0, none⟩ = some (.pointer (some ⟨c, 0, none⟩))) (hpc : pl ≠ c)
    (Q : Exit → Act → World → Prop) (done : Nat → Bool) (a : Act) (w' : World) (hni : done 8 = false) (hlow : ∀ i j, waits i j = true → done j = false → done i = false)
    (hpre : ∀ e ∈ ({ dst := none, op := Op.insert 130 (Operand.tmp 8) (Operand.const (Value.string { data := #[82, 79, 76, 76, 66, 65, 67, 75] })) (Operand.tmp 10), type := 0, pos := "class.go:51", after := #[{ on := 1, ground := Ground.data }, { on := 7, ground := Ground.data }], guard := none } : Oper).after, Region.binds .any e = true → done e.on = true) (hI : I0 w pl c x0 x1 x2 done a w') :
    ({ dst := none, op := Op.insert 130 (Operand.tmp 8) (Operand.const (Value.string { data := #[82, 79, 76, 76, 66, 65, 67, 75] })) (Operand.tmp 10), type := 0, pos := "class.go:51", after := #[{ on := 1, ground := Ground.data }, { on := 7, ground := Ground.data }], guard := none } : Oper).wp Tryz.prog a w' (I0 w pl c x0 x1 x2 (fun j => j == 8 || done j)) Q := by
    obtain ⟨v7, v8, v9, v10, v11, v12, v13, mb, rfl, J⟩ := hI
    unfold frame0
    have HJ := Lib.hid J; clear J
    have hrv : RuleV w' (.ends 5) v10 := HJ.out.h7 (hpre ⟨7, .data⟩ (by simp) rfl)
    obtain ⟨b9, rfl, hb9⟩ := id hrv
    obtain ⟨rfl, a2, es, ck, a3, a4⟩ := HJ.out.h1 (hpre ⟨1, .data⟩ (by simp) rfl)
    have hmu := run_mapUpdate_new (P := Tryz.prog) (t := 130) (v := .func (.func 171) #[] #[.pointer (some ⟨b9, 0, none⟩)]) Tryz.underlying130 Tryz.underlying9 (checkKey_string Tryz.underlying9 _ _) a3 (a4.new [82, 79, 76, 76, 66, 65, 67, 75] (fun r => doneS_new done 8 _ _ rfl hni r))
    unfold ba at hmu
    clear hpre
    go_wp2
    exact ⟨v7, (.map (some mb)), v9, _, v11, v12, v13, mb, rfl, { h0 := fun h => HJ.out.h0 (by simpa using h), h5 := fun h => RuleV.keep (HJ.out.h5 (by simpa using h)) (fun b n hb => box_put _ _ _ _ _ a3 b n hb), h7 := fun h => RuleV.keep (HJ.out.h7 (by simpa using h)) (fun b n hb => box_put _ _ _ _ _ a3 b n hb), h10 := fun h => HJ.out.h10 (by simpa using h), h11 := fun h => HJ.out.h11 (by simpa using h), h12 := fun h => HJ.out.h12 (by simpa using h), h1 := fun _ => ⟨rfl, a2, _, _, putObj_same _ _ _ (Array.getElem?_eq_some_iff.1 a3).1, (RulesIn.push a4 _ (.ends 5) _ ck hrv (doneS_put done 8 _ _ rfl)).keep (fun b n hb => box_put _ _ _ _ _ a3 b n hb)⟩, hc := by have h := HJ.out.hc; rw [putObj_other _ _ _ _ (fun e => by rw [e, a3] at h; cases h)]; simpa using h, hk := HJ.out.hk.putObj (.inl a2) _ }⟩

set_option maxRecDepth 100000 in
set_option maxHeartbeats 1000000 in
theorem fill_step9 (pl c : Nat) (x0 x1 x2 : Value) (w : World) (hp : w.cell? ⟨pl, 0, none⟩ = some (.pointer (some ⟨c, 0, none⟩))) (hpc : pl ≠ c)
    (Q : Exit → Act → World → Prop) (done : Nat → Bool) (a : Act) (w' : World) (hni : done 9 = false) (hlow : ∀ i j, waits i j = true → done j = false → done i = false)
    (hpre : ∀ e ∈ ({ dst := none, op := Op.insert 130 (Operand.tmp 8) (Operand.const (Value.string { data := #[83, 69, 84] })) (Operand.func 140), type := 0, pos := "class.go:51", after := #[{ on := 1, ground := Ground.data }], guard := none } : Oper).after, Region.binds .any e = true → done e.on = true) (hI : I0 w pl c x0 x1 x2 done a w') :
    ({ dst := none, op := Op.insert 130 (Operand.tmp 8) (Operand.const (Value.string { data := #[83, 69, 84] })) (Operand.func 140), type := 0, pos := "class.go:51", after := #[{ on := 1, ground := Ground.data }], guard := none } : Oper).wp Tryz.prog a w' (I0 w pl c x0 x1 x2 (fun j => j == 9 || done j)) Q := by
    obtain ⟨v7, v8, v9, v10, v11, v12, v13, mb, rfl, J⟩ := hI
    unfold frame0
    have HJ := Lib.hid J; clear J
    have hrv : RuleV w' .set (.func (.func 140) #[] #[]) := rfl
    obtain ⟨rfl, a2, es, ck, a3, a4⟩ := HJ.out.h1 (hpre ⟨1, .data⟩ (by simp) rfl)
    have hmu := run_mapUpdate_new (P := Tryz.prog) (t := 130) (v := .func (.func 140) #[] #[]) Tryz.underlying130 Tryz.underlying9 (checkKey_string Tryz.underlying9 _ _) a3 (a4.new [83, 69, 84] (fun r => doneS_new done 9 _ _ rfl hni r))
    unfold ba at hmu
    clear hpre
    go_wp2
    exact ⟨v7, (.map (some mb)), v9, v10, v11, v12, v13, mb, rfl, { h0 := fun h => HJ.out.h0 (by simpa using h), h5 := fun h => RuleV.keep (HJ.out.h5 (by simpa using h)) (fun b n hb => box_put _ _ _ _ _ a3 b n hb), h7 := fun h => RuleV.keep (HJ.out.h7 (by simpa using h)) (fun b n hb => box_put _ _ _ _ _ a3 b n hb), h10 := fun h => HJ.out.h10 (by simpa using h), h11 := fun h => HJ.out.h11 (by simpa using h), h12 := fun h => HJ.out.h12 (by simpa using h), h1 := fun _ => ⟨rfl, a2, _, _, putObj_same _ _ _ (Array.getElem?_eq_some_iff.1 a3).1, (RulesIn.push a4 _ .set _ ck hrv (doneS_put done 9 _ _ rfl)).keep (fun b n hb => box_put _ _ _ _ _ a3 b n hb)⟩, hc := by have h := HJ.out.hc; rw [putObj_other _ _ _ _ (fun e => by rw [e, a3] at h; cases h)]; simpa using h, hk := HJ.out.hk.putObj (.inl a2) _ }⟩

set_option maxRecDepth 100000 in
set_option maxHeartbeats 1000000 in
theorem fill_step10 (pl c : Nat) (x0 x1 x2 : Value) (w : World) (hp : w.cell? ⟨pl, 0, none⟩ = some (.pointer (some ⟨c, 0, none⟩))) (hpc : pl ≠ c)
    (Q : Exit → Act → World → Prop) (done : Nat → Bool) (a : Act) (w' : World) (hni : done 10 = false) (hlow : ∀ i j, waits i j = true → done j = false → done i = false)
    (hpre : ∀ e ∈ ({ dst := some 11, op := Op.move (Operand.tmp 8), type := 130, pos := "class.go:51", after := #[{ on := 1, ground := Ground.data }, { on := 2, ground := Ground.data }, { on := 3, ground := Ground.data }, { on := 4, ground := Ground.data }, { on := 5, ground := Ground.data }, { on := 6, ground := Ground.data }, { on := 7, ground := Ground.data }, { on := 8, ground := Ground.data }, { on := 9, ground := Ground.data }], guard := none } : Oper).after, Region.binds .any e = true → done e.on = true) (hI : I0 w pl c x0 x1 x2 done a w') :
    ({ dst := some 11, op := Op.move (Operand.tmp 8), type := 130, pos := "class.go:51", after := #[{ on := 1, ground := Ground.data }, { on := 2, ground := Ground.data }, { on := 3, ground := Ground.data }, { on := 4, ground := Ground.data }, { on := 5, ground := Ground.data }, { on := 6, ground := Ground.data }, { on := 7, ground := Ground.data }, { on := 8, ground := Ground.data }, { on := 9, ground := Ground.data }], guard := none } : Oper).wp Tryz.prog a w' (I0 w pl c x0 x1 x2 (fun j => j == 10 || done j)) Q := by
    obtain ⟨v7, v8, v9, v10, v11, v12, v13, mb, rfl, J⟩ := hI
    unfold frame0
    have HJ := Lib.hid J; clear J
    obtain ⟨hv8, a2, es, ck, a3, a4⟩ := HJ.out.h1 (hpre ⟨1, .data⟩ (by simp) rfl)
    subst hv8
    clear hpre
    go_wp2
    exact ⟨v7, _, v9, v10, _, v12, v13, mb, rfl, { h0 := fun h => HJ.out.h0 (by simpa using h), h5 := fun h => HJ.out.h5 (by simpa using h), h7 := fun h => HJ.out.h7 (by simpa using h), h10 := fun _ => rfl, h11 := fun h => HJ.out.h11 (by simpa using h), h12 := fun h => HJ.out.h12 (by simpa using h), h1 := fun h => by obtain ⟨a1, a2, es, ck, a3, a4⟩ := HJ.out.h1 (by simpa using h); exact ⟨a1, a2, es, ck, a3, a4.congr (doneS_skip done 10 rfl)⟩, hc := by have := HJ.out.hc; simpa using this, hk := HJ.out.hk }⟩

set_option maxRecDepth 100000 in
set_option maxHeartbeats 1000000 in
theorem fill_step11 (pl c : Nat) (x0 x1 x2 : Value) (w : World) (hp : w.cell? ⟨pl, 0, none⟩ = some (.pointer (some ⟨c, 0, none⟩))) (hpc : pl ≠ c)
    (Q : Exit → Act → World → Prop) (done : Nat → Bool) (a : Act) (w' : World) (hni : done 11 = false) (hlow : ∀ i j, waits i j = true → done j = false → done i = false)
    (hpre : ∀ e ∈ ({ dst := some 12, op := Op.nilCheck (Operand.tmp 7), type := 0, pos := "class.go:51", after := #[{ on := 0, ground := Ground.data }, { on := 0, ground := Ground.phase }, { on := 1, ground := Ground.phase }, { on := 2, ground := Ground.phase }, { on := 3, ground := Ground.phase }, { on := 4, ground := Ground.phase }, { on := 5, ground := Ground.phase }, { on := 6, ground := Ground.phase }, { on := 7, ground := Ground.phase }, { on := 8, ground := Ground.phase }, { on := 9, ground := Ground.phase }, { on := 10, ground := Ground.phase }], guard := none } : Oper).after, Region.binds .any e = true → done e.on = true) (hI : I0 w pl c x0 x1 x2 done a w') :
    ({ dst := some 12, op := Op.nilCheck (Operand.tmp 7), type := 0, pos := "class.go:51", after := #[{ on := 0, ground := Ground.data }, { on := 0, ground := Ground.phase }, { on := 1, ground := Ground.phase }, { on := 2, ground := Ground.phase }, { on := 3, ground := Ground.phase }, { on := 4, ground := Ground.phase }, { on := 5, ground := Ground.phase }, { on := 6, ground := Ground.phase }, { on := 7, ground := Ground.phase }, { on := 8, ground := Ground.phase }, { on := 9, ground := Ground.phase }, { on := 10, ground := Ground.phase }], guard := none } : Oper).wp Tryz.prog a w' (I0 w pl c x0 x1 x2 (fun j => j == 11 || done j)) Q := by
    obtain ⟨v7, v8, v9, v10, v11, v12, v13, mb, rfl, J⟩ := hI
    unfold frame0
    have HJ := Lib.hid J; clear J
    have h7 := HJ.out.h0 (hpre ⟨0, .data⟩ (by simp) rfl)
    subst h7
    clear hpre
    go_wp2
    exact ⟨_, v8, v9, v10, v11, _, v13, mb, rfl, { h0 := fun h => HJ.out.h0 (by simpa using h), h5 := fun h => HJ.out.h5 (by simpa using h), h7 := fun h => HJ.out.h7 (by simpa using h), h10 := fun h => HJ.out.h10 (by simpa using h), h11 := fun _ => rfl, h12 := fun h => HJ.out.h12 (by simpa using h), h1 := fun h => by obtain ⟨a1, a2, es, ck, a3, a4⟩ := HJ.out.h1 (by simpa using h); exact ⟨a1, a2, es, ck, a3, a4.congr (doneS_skip done 11 rfl)⟩, hc := by have := HJ.out.hc; simpa using this, hk := HJ.out.hk }⟩

set_option maxRecDepth 100000 in
set_option maxHeartbeats 1000000 in
theorem fill_step12 (pl c : Nat) (x0 x1 x2 : Value) (w : World) (hp : w.cell? ⟨pl, 0, none⟩ = some (.pointer (some ⟨c, 0, none⟩))) (hpc : pl ≠ c)
    (Q : Exit → Act → World → Prop) (done : Nat → Bool) (a : Act) (w' : World) (hni : done 12 = false) (hlow : ∀ i j, waits i j = true → done j = false → done i = false)
    (hpre : ∀ e ∈ ({ dst := some 13, op := Op.fieldAddr 132 (Operand.tmp 12) 1, type := 0, pos := "class.go:51", after := #[{ on := 11, ground := Ground.data }, { on := 0, ground := Ground.phase }, { on := 1, ground := Ground.phase }, { on := 2, ground := Ground.phase }, { on := 3, ground := Ground.phase }, { on := 4, ground := Ground.phase }, { on := 5, ground := Ground.phase }, { on := 6, ground := Ground.phase }, { on := 7, ground := Ground.phase }, { on := 8, ground := Ground.phase }, { on := 9, ground := Ground.phase }, { on := 10, ground := Ground.phase }], guard := none } : Oper).after, Region.binds .any e = true → done e.on = true) (hI : I0 w pl c x0 x1 x2 done a w') :
    ({ dst := some 13, op := Op.fieldAddr 132 (Operand.tmp 12) 1, type := 0, pos := "class.go:51", after := #[{ on := 11, ground := Ground.data }, { on := 0, ground := Ground.phase }, { on := 1, ground := Ground.phase }, { on := 2, ground := Ground.phase }, { on := 3, ground := Ground.phase }, { on := 4, ground := Ground.phase }, { on := 5, ground := Ground.phase }, { on := 6, ground := Ground.phase }, { on := 7, ground := Ground.phase }, { on := 8, ground := Ground.phase }, { on := 9, ground := Ground.phase }, { on := 10, ground := Ground.phase }], guard := none } : Oper).wp Tryz.prog a w' (I0 w pl c x0 x1 x2 (fun j => j == 12 || done j)) Q := by
    obtain ⟨v7, v8, v9, v10, v11, v12, v13, mb, rfl, J⟩ := hI
    unfold frame0
    have HJ := Lib.hid J; clear J
    have h7 := HJ.out.h11 (hpre ⟨11, .data⟩ (by simp) rfl)
    subst h7
    clear hpre
    go_wp2
    exact ⟨v7, v8, v9, v10, v11, _, _, mb, rfl, { h0 := fun h => HJ.out.h0 (by simpa using h), h5 := fun h => HJ.out.h5 (by simpa using h), h7 := fun h => HJ.out.h7 (by simpa using h), h10 := fun h => HJ.out.h10 (by simpa using h), h11 := fun h => HJ.out.h11 (by simpa using h), h12 := fun _ => rfl, h1 := fun h => by obtain ⟨a1, a2, es, ck, a3, a4⟩ := HJ.out.h1 (by simpa using h); exact ⟨a1, a2, es, ck, a3, a4.congr (doneS_skip done 12 rfl)⟩, hc := by have := HJ.out.hc; simpa using this, hk := HJ.out.hk }⟩

set_option maxRecDepth 100000 in
set_option maxHeartbeats 1000000 in
theorem fill_step13 (pl c : Nat) (x0 x1 x2 : Value) (w : World) (hp : w.cell? ⟨pl, 0, none⟩ = some (.pointer (some ⟨c, 0, none⟩))) (hpc : pl ≠ c)
    (Q : Exit → Act → World → Prop) (done : Nat → Bool) (a : Act) (w' : World) (hni : done 13 = false) (hlow : ∀ i j, waits i j = true → done j = false → done i = false)
    (hpre : ∀ e ∈ ({ dst := none, op := Op.store 130 (Operand.tmp 13) (Operand.tmp 11), type := 0, pos := "class.go:51", after := #[{ on := 12, ground := Ground.data }, { on := 10, ground := Ground.data }, { on := 7, ground := Ground.chain }, { on := 0, ground := Ground.phase }, { on := 1, ground := Ground.phase }, { on := 2, ground := Ground.phase }, { on := 3, ground := Ground.phase }, { on := 4, ground := Ground.phase }, { on := 5, ground := Ground.phase }, { on := 6, ground := Ground.phase }, { on := 7, ground := Ground.phase }, { on := 8, ground := Ground.phase }, { on := 9, ground := Ground.phase }, { on := 10, ground := Ground.phase }], guard := none } : Oper).after, Region.binds .any e = true → done e.on = true) (hI : I0 w pl c x0 x1 x2 done a w') :
    ({ dst := none, op := Op.store 130 (Operand.tmp 13) (Operand.tmp 11), type := 0, pos := "class.go:51", after := #[{ on := 12, ground := Ground.data }, { on := 10, ground := Ground.data }, { on := 7, ground := Ground.chain }, { on := 0, ground := Ground.phase }, { on := 1, ground := Ground.phase }, { on := 2, ground := Ground.phase }, { on := 3, ground := Ground.phase }, { on := 4, ground := Ground.phase }, { on := 5, ground := Ground.phase }, { on := 6, ground := Ground.phase }, { on := 7, ground := Ground.phase }, { on := 8, ground := Ground.phase }, { on := 9, ground := Ground.phase }, { on := 10, ground := Ground.phase }], guard := none } : Oper).wp Tryz.prog a w' (I0 w pl c x0 x1 x2 (fun j => j == 13 || done j)) Q := by
    obtain ⟨v7, v8, v9, v10, v11, v12, v13, mb, rfl, J⟩ := hI
    unfold frame0
    have HJ := Lib.hid J; clear J
    have h7 := HJ.out.h12 (hpre ⟨12, .data⟩ (by simp) rfl)
    have h8 := HJ.out.h10 (hpre ⟨10, .data⟩ (by simp) rfl)
    subst h7 h8
    clear hpre
    have q3 : w'.cell? ⟨c, 3, none⟩ = some (.map none) := by have h := HJ.out.hc; rw [hni] at h; simp [World.cell?, h]
    have z3 : w'.frozen? ⟨c, 3, none⟩ = false := by have h := HJ.out.hc; simp [World.frozen?, h]
    go_wp2
    exact ⟨v7, v8, v9, v10, _, v12, _, mb, rfl, { h0 := fun h => HJ.out.h0 (by simpa using h), h5 := fun h => RuleV.keep (HJ.out.h5 (by simpa using h)) (fun b n hb => box_set _ _ _ _ _ HJ.out.hc b n hb), h7 := fun h => RuleV.keep (HJ.out.h7 (by simpa using h)) (fun b n hb => box_set _ _ _ _ _ HJ.out.hc b n hb), h10 := fun h => HJ.out.h10 (by simpa using h), h11 := fun h => HJ.out.h11 (by simpa using h), h12 := fun h => HJ.out.h12 (by simpa using h), h1 := fun h => by obtain ⟨a1, a2, es, ck, a3, a4⟩ := HJ.out.h1 (by simpa using h); exact ⟨a1, a2, es, ck, by rw [Below.heap_setCell _ _ _ _ (fun e => by have h := HJ.out.hc; simp only at e; rw [← e, a3] at h; cases h)]; exact a3, (a4.keep (fun b n hb => box_set _ _ _ _ _ HJ.out.hc b n hb)).congr (doneS_skip done 13 rfl)⟩, hc := by have h := setCell_row w' c 3 _ _ _ (.map (some mb)) HJ.out.hc; rw [h]; simp, hk := HJ.out.hk.setCell (.inr rfl) _ }⟩


def I1 (w : World) (pl c : Nat) (x0 x1 x2 : Value) (done : Nat → Bool) (a : Act) (w' : World) : Prop :=
  I0 w pl c x0 x1 x2 done a w' ∧ ∀ i j, waits i j = true → done i = true → done j = true

set_option maxRecDepth 100000 in
theorem fill_step (pl c : Nat) (x0 x1 x2 : Value) (w : World) (hp : w.cell? ⟨pl, 0, none⟩ = some (.pointer (some ⟨c, 0, none⟩))) (hpc : pl ≠ c)
    (Q : Exit → Act → World → Prop) (done : Nat → Bool) (a : Act) (w' : World) (i : Nat) (o : Oper) (ho : fillOps[i]? = some o) (hni : done i = false)
    (hpre : ∀ e ∈ o.after, Region.binds .any e = true → done e.on = true) (hI : I1 w pl c x0 x1 x2 done a w') : wpOp Tryz.prog fillOps Q i (I1 w pl c x0 x1 x2 (fun j => j == i || done j)) a w' := by
  obtain ⟨hI, hl⟩ := hI
  have hlow : ∀ i j, waits i j = true → done j = false → done i = false := fun i j hw hj => by
    cases h : done i with
    | false => rfl
    | true => have := hl i j hw h; rw [hj] at this; cases this
  have hl2 : ∀ i', waits i i' = true → done i' = true → ∀ i2 j2, waits i2 j2 = true → (i2 == i || done i2) = true → (j2 == i || done j2) = true := by
    intro i' hw hd i2 j2 hw2 h2
    have e1 : i' = 1 := by simp [waits] at hw; exact hw.1
    have e2 : j2 = 1 := by simp [waits] at hw2; exact hw2.1
    subst e1 e2
    simp [hd]
  have hl3 : (∀ j, waits i j = false) → ∀ i2 j2, waits i2 j2 = true → (i2 == i || done i2) = true → (j2 == i || done j2) = true := by
    intro hw i2 j2 hw2 h2
    by_cases e : i2 = i
    · subst e; rw [hw j2] at hw2; cases hw2
    · have h3 : done i2 = true := by simpa [e] using h2
      simp [hl i2 j2 hw2 h3]
  have fin : (∀ i2 j2, waits i2 j2 = true → (i2 == i || done i2) = true → (j2 == i || done j2) = true) → wpOp Tryz.prog fillOps Q i (I0 w pl c x0 x1 x2 (fun j => j == i || done j)) a w' → wpOp Tryz.prog fillOps Q i (I1 w pl c x0 x1 x2 (fun j => j == i || done j)) a w' :=
    fun h1 h2 => wpOp_mono (fun a' w'' h => ⟨h, h1⟩) h2
  match i, ho, hni, hl2, hl3, fin with
  | 0, ho, hni, hl2, hl3, fin =>
    obtain rfl : ({ dst := some 7, op := Op.load 28 (Operand.tmp 0), type := 28, pos := "class.go:51", after := #[], guard := none } : Oper) = o := Option.some.inj ho
    exact fin (hl3 (fun j => by simp [waits])) (wpOp_lit ho rfl (fill_step0 pl c x0 x1 x2 w hp hpc Q done a w' hni hlow hpre hI))
  | 1, ho, hni, hl2, hl3, fin =>
    obtain rfl : ({ dst := some 8, op := Op.makeMap 130 none, type := 130, pos := "class.go:51", after := #[], guard := none } : Oper) = o := Option.some.inj ho
    exact fin (hl3 (fun j => by simp [waits])) (wpOp_lit ho rfl (fill_step1 pl c x0 x1 x2 w hp hpc Q done a w' hni hlow hpre hI))
  | 2, ho, hni, hl2, hl3, fin =>
    obtain rfl : ({ dst := none, op := Op.insert 130 (Operand.tmp 8) (Operand.const (Value.string { data := #[69, 88, 80, 76, 65, 73, 78] })) (Operand.func 136), type := 0, pos := "class.go:51", after := #[{ on := 1, ground := Ground.data }], guard := none } : Oper) = o := Option.some.inj ho
    exact fin (hl2 1 rfl (hpre ⟨1, .data⟩ (by simp) rfl)) (wpOp_lit ho rfl (fill_step2 pl c x0 x1 x2 w hp hpc Q done a w' hni hlow hpre hI))
  | 3, ho, hni, hl2, hl3, fin =>
    obtain rfl : ({ dst := none, op := Op.insert 130 (Operand.tmp 8) (Operand.const (Value.string { data := #[66, 69, 71, 73, 78] })) (Operand.func 137), type := 0, pos := "class.go:51", after := #[{ on := 1, ground := Ground.data }], guard := none } : Oper) = o := Option.some.inj ho
    exact fin (hl2 1 rfl (hpre ⟨1, .data⟩ (by simp) rfl)) (wpOp_lit ho rfl (fill_step3 pl c x0 x1 x2 w hp hpc Q done a w' hni hlow hpre hI))
  | 4, ho, hni, hl2, hl3, fin =>
    obtain rfl : ({ dst := none, op := Op.insert 130 (Operand.tmp 8) (Operand.const (Value.string { data := #[83, 84, 65, 82, 84] })) (Operand.func 138), type := 0, pos := "class.go:51", after := #[{ on := 1, ground := Ground.data }], guard := none } : Oper) = o := Option.some.inj ho
    exact fin (hl2 1 rfl (hpre ⟨1, .data⟩ (by simp) rfl)) (wpOp_lit ho rfl (fill_step4 pl c x0 x1 x2 w hp hpc Q done a w' hni hlow hpre hI))
  | 5, ho, hni, hl2, hl3, fin =>
    obtain rfl : ({ dst := some 9, op := Op.call { callee := Callee.value (Operand.func 139), args := #[Operand.const (Value.int IntKind.i64 4)], argTypes := #[3] }, type := 189, pos := "class.go:51", after := #[], guard := none } : Oper) = o := Option.some.inj ho
    exact fin (hl3 (fun j => by simp [waits])) (wpOp_lit ho rfl (fill_step5 pl c x0 x1 x2 w hp hpc Q done a w' hni hlow hpre hI))
  | 6, ho, hni, hl2, hl3, fin =>
    obtain rfl : ({ dst := none, op := Op.insert 130 (Operand.tmp 8) (Operand.const (Value.string { data := #[67, 79, 77, 77, 73, 84] })) (Operand.tmp 9), type := 0, pos := "class.go:51", after := #[{ on := 1, ground := Ground.data }, { on := 5, ground := Ground.data }], guard := none } : Oper) = o := Option.some.inj ho
    exact fin (hl2 1 rfl (hpre ⟨1, .data⟩ (by simp) rfl)) (wpOp_lit ho rfl (fill_step6 pl c x0 x1 x2 w hp hpc Q done a w' hni hlow hpre hI))
  | 7, ho, hni, hl2, hl3, fin =>
    obtain rfl : ({ dst := some 10, op := Op.call { callee := Callee.value (Operand.func 139), args := #[Operand.const (Value.int IntKind.i64 5)], argTypes := #[3] }, type := 189, pos := "class.go:51", after := #[{ on := 5, ground := Ground.chain }], guard := none } : Oper) = o := Option.some.inj ho
    exact fin (hl3 (fun j => by simp [waits])) (wpOp_lit ho rfl (fill_step7 pl c x0 x1 x2 w hp hpc Q done a w' hni hlow hpre hI))
  | 8, ho, hni, hl2, hl3, fin =>
    obtain rfl : ({ dst := none, op := Op.insert 130 (Operand.tmp 8) (Operand.const (Value.string { data := #[82, 79, 76, 76, 66, 65, 67, 75] })) (Operand.tmp 10), type := 0, pos := "class.go:51", after := #[{ on := 1, ground := Ground.data }, { on := 7, ground := Ground.data }], guard := none } : Oper) = o := Option.some.inj ho
    exact fin (hl2 1 rfl (hpre ⟨1, .data⟩ (by simp) rfl)) (wpOp_lit ho rfl (fill_step8 pl c x0 x1 x2 w hp hpc Q done a w' hni hlow hpre hI))
  | 9, ho, hni, hl2, hl3, fin =>
    obtain rfl : ({ dst := none, op := Op.insert 130 (Operand.tmp 8) (Operand.const (Value.string { data := #[83, 69, 84] })) (Operand.func 140), type := 0, pos := "class.go:51", after := #[{ on := 1, ground := Ground.data }], guard := none } : Oper) = o := Option.some.inj ho
    exact fin (hl2 1 rfl (hpre ⟨1, .data⟩ (by simp) rfl)) (wpOp_lit ho rfl (fill_step9 pl c x0 x1 x2 w hp hpc Q done a w' hni hlow hpre hI))
  | 10, ho, hni, hl2, hl3, fin =>
    obtain rfl : ({ dst := some 11, op := Op.move (Operand.tmp 8), type := 130, pos := "class.go:51", after := #[{ on := 1, ground := Ground.data }, { on := 2, ground := Ground.data }, { on := 3, ground := Ground.data }, { on := 4, ground := Ground.data }, { on := 5, ground := Ground.data }, { on := 6, ground := Ground.data }, { on := 7, ground := Ground.data }, { on := 8, ground := Ground.data }, { on := 9, ground := Ground.data }], guard := none } : Oper) = o := Option.some.inj ho
    exact fin (hl2 1 rfl (hpre ⟨1, .data⟩ (by simp) rfl)) (wpOp_lit ho rfl (fill_step10 pl c x0 x1 x2 w hp hpc Q done a w' hni hlow hpre hI))
  | 11, ho, hni, hl2, hl3, fin =>
    obtain rfl : ({ dst := some 12, op := Op.nilCheck (Operand.tmp 7), type := 0, pos := "class.go:51", after := #[{ on := 0, ground := Ground.data }, { on := 0, ground := Ground.phase }, { on := 1, ground := Ground.phase }, { on := 2, ground := Ground.phase }, { on := 3, ground := Ground.phase }, { on := 4, ground := Ground.phase }, { on := 5, ground := Ground.phase }, { on := 6, ground := Ground.phase }, { on := 7, ground := Ground.phase }, { on := 8, ground := Ground.phase }, { on := 9, ground := Ground.phase }, { on := 10, ground := Ground.phase }], guard := none } : Oper) = o := Option.some.inj ho
    exact fin (hl3 (fun j => by simp [waits])) (wpOp_lit ho rfl (fill_step11 pl c x0 x1 x2 w hp hpc Q done a w' hni hlow hpre hI))
  | 12, ho, hni, hl2, hl3, fin =>
    obtain rfl : ({ dst := some 13, op := Op.fieldAddr 132 (Operand.tmp 12) 1, type := 0, pos := "class.go:51", after := #[{ on := 11, ground := Ground.data }, { on := 0, ground := Ground.phase }, { on := 1, ground := Ground.phase }, { on := 2, ground := Ground.phase }, { on := 3, ground := Ground.phase }, { on := 4, ground := Ground.phase }, { on := 5, ground := Ground.phase }, { on := 6, ground := Ground.phase }, { on := 7, ground := Ground.phase }, { on := 8, ground := Ground.phase }, { on := 9, ground := Ground.phase }, { on := 10, ground := Ground.phase }], guard := none } : Oper) = o := Option.some.inj ho
    exact fin (hl3 (fun j => by simp [waits])) (wpOp_lit ho rfl (fill_step12 pl c x0 x1 x2 w hp hpc Q done a w' hni hlow hpre hI))
  | 13, ho, hni, hl2, hl3, fin =>
    obtain rfl : ({ dst := none, op := Op.store 130 (Operand.tmp 13) (Operand.tmp 11), type := 0, pos := "class.go:51", after := #[{ on := 12, ground := Ground.data }, { on := 10, ground := Ground.data }, { on := 7, ground := Ground.chain }, { on := 0, ground := Ground.phase }, { on := 1, ground := Ground.phase }, { on := 2, ground := Ground.phase }, { on := 3, ground := Ground.phase }, { on := 4, ground := Ground.phase }, { on := 5, ground := Ground.phase }, { on := 6, ground := Ground.phase }, { on := 7, ground := Ground.phase }, { on := 8, ground := Ground.phase }, { on := 9, ground := Ground.phase }, { on := 10, ground := Ground.phase }], guard := none } : Oper) = o := Option.some.inj ho
    exact fin (hl2 1 rfl (hpre ⟨1, .phase⟩ (by simp) rfl)) (wpOp_lit ho rfl (fill_step13 pl c x0 x1 x2 w hp hpc Q done a w' hni hlow hpre hI))
  | n + 14, ho, hni, hl2, hl3, fin => exact absurd ho (by simp [fillOps])
end Go.Proofs.YtpaioaljopjpkaaGreatDoor
