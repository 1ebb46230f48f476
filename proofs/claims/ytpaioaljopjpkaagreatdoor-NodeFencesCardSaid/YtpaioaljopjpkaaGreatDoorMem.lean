/- Words on memory: what a call keeps; an object put into a block; what a map's operations do, whatever the program. Conditions: those that each law names. -/
import Derived.Below
import Derived.Laws.AppendOwn
import Derived.MapKept
import GoSem.Instr.MapUpdate
namespace Go
open Go.RowKit

/-- w' is w but for the blocks of m, and new ones. -/
structure Keeps (m : Nat → Prop) (w w' : World) : Prop where
  os : w'.os = w.os
  tape : w'.tape = w.tape
  output : w'.output = w.output
  size : w.heap.size ≤ w'.heap.size
  block : ∀ k, k < w.heap.size → ¬ m k → w'.heap[k]? = w.heap[k]?

theorem Keeps.refl (m : Nat → Prop) (w : World) : Keeps m w w := ⟨rfl, rfl, rfl, Nat.le_refl _, fun _ _ _ => rfl⟩
theorem Keeps.trans {m : Nat → Prop} {a b c : World} (h : Keeps m a b) (k : Keeps m b c) : Keeps m a c :=
  ⟨k.os.trans h.os, k.tape.trans h.tape, k.output.trans h.output, Nat.le_trans h.size k.size, fun i hi hm => (k.block i (Nat.lt_of_lt_of_le hi h.size) hm).trans (h.block i hi hm)⟩
theorem Keeps.mono {m m' : Nat → Prop} {w w' : World} (h : Keeps m w w') (hm : ∀ k, k < w.heap.size → m k → m' k) : Keeps m' w w' :=
  ⟨h.os, h.tape, h.output, h.size, fun k hk hn => h.block k hk (fun e => hn (hm k hk e))⟩
theorem Keeps.of_below {B : Nat} {w w' : World} (h : Below B w w') (m : Nat → Prop) (hm : ∀ k, k < w.heap.size → B ≤ k → m k) : Keeps m w w' :=
  ⟨h.os, h.tape, h.output, h.size, fun k hk hn => h.block k (Nat.lt_of_not_le fun e => hn (hm k hk e))⟩
theorem Keeps.of_new {w w' : World} (h : Below w.heap.size w w') (m : Nat → Prop) : Keeps m w w' := Keeps.of_below h m fun k hk hB => absurd hB (by omega)
theorem Keeps.below {m : Nat → Prop} {w w' : World} (h : Keeps m w w') (B : Nat) (hB : B ≤ w.heap.size) (hm : ∀ k, k < B → ¬ m k) : Below B w w' :=
  ⟨h.os, h.tape, h.output, h.size, fun k hk => h.block k (by omega) (hm k hk)⟩
theorem Keeps.cell {m : Nat → Prop} {w w' : World} (h : Keeps m w w') {p : Addr} (hp : p.block < w.heap.size) (hm : ¬ m p.block) : w'.cell? p = w.cell? p := World.cell?_of_block (w := w) (h.block p.block hp hm)
theorem Keeps.drew {m : Nat → Prop} {a w : World} (h : Keeps m a w) : Keeps m a w.drew := ⟨h.os, h.tape, h.output, h.size, h.block⟩
theorem Keeps.alloc {m : Nat → Prop} {a w : World} (h : Keeps m a w) (o : Obj) : Keeps m a (w.alloc o) :=
  h.trans ⟨rfl, rfl, rfl, by simp, fun k hk _ => Below.heap_alloc _ _ _ hk⟩
theorem Keeps.setCell {m : Nat → Prop} {a w : World} (h : Keeps m a w) {p : Addr} (hp : a.heap.size ≤ p.block ∨ m p.block) (u : Value) : Keeps m a (w.setCell p u) :=
  ⟨h.os, h.tape, h.output, by have := h.size; simpa [World.setCell] using this, fun k hk hn => by
    rw [Below.heap_setCell _ _ _ _ (fun e => hp.elim (fun hp => by omega) (fun hp => hn (by rw [e]; exact hp)))]
    exact h.block k hk hn⟩
/-- Behind other blocks' turning: m for the one, m' for the other, seen from a's old blocks. -/
theorem Keeps.then {m m' : Nat → Prop} {a b c : World} (h : Keeps m a b) (k : Keeps m' b c) (hm : ∀ i, i < a.heap.size → m' i → m i) : Keeps m a c :=
  ⟨k.os.trans h.os, k.tape.trans h.tape, k.output.trans h.output, Nat.le_trans h.size k.size, fun i hi hn =>
    (k.block i (Nat.lt_of_lt_of_le hi h.size) (fun e => hn (hm i hi e))).trans (h.block i hi hn)⟩
theorem Keeps.grown {m : Nat → Prop} {a w w' : World} {row : Option Nat} (h : Keeps m a w) (hg : w.grownBy w' row) (hr : ∀ k, row = some k → a.heap.size ≤ k ∨ m k) : Keeps m a w' :=
  ⟨hg.os.trans h.os, hg.tape.trans h.tape, hg.output.trans h.output, Nat.le_trans h.size hg.size, fun k hk hn =>
    (hg.block k (by have := h.size; omega) (fun e => (hr k e.symm).elim (fun h1 => by omega) (fun h1 => hn h1))).trans (h.block k hk hn)⟩

/-- The world with another object in a block. -/
def World.putObj (w : World) (r : Nat) (o : Obj) : World := { w with heap := w.heap.setIfInBounds r o }
theorem putObj_size (w : World) (r : Nat) (o : Obj) : (w.putObj r o).heap.size = w.heap.size := by simp [World.putObj]
theorem putObj_same (w : World) (r : Nat) (o : Obj) (h : r < w.heap.size) : (w.putObj r o).heap[r]? = some o := by simp [World.putObj, h]
theorem putObj_other (w : World) (r k : Nat) (o : Obj) (h : k ≠ r) : (w.putObj r o).heap[k]? = w.heap[k]? := by
  simp only [World.putObj]
  rw [Array.getElem?_setIfInBounds_ne (fun e => h e.symm)]
theorem Keeps.putObj {m : Nat → Prop} {a w : World} (h : Keeps m a w) {r : Nat} (hr : a.heap.size ≤ r ∨ m r) (o : Obj) : Keeps m a (w.putObj r o) :=
  ⟨h.os, h.tape, h.output, by rw [putObj_size]; exact h.size, fun k hk hn => by
    rw [putObj_other _ _ _ _ (fun e => hr.elim (fun hr => by omega) (fun hr => hn (by rw [e]; exact hr)))]
    exact h.block k hk hn⟩

section
variable {P : Program} {w : World} {r : Nat} {es : Array MapEntry} {ck : Nat} {t kt et : TypeId}
open Go.Instr

theorem getObj_map (hb : w.heap[r]? = some (.map es ck)) : (getObj r).run P w = .ok (.map es ck) w := by
  simp [getObj, Sem.run, hb]
theorem setObj_map (hb : w.heap[r]? = some (.map es ck)) (o : Obj) : (setObj r o).run P w = .ok () (w.putObj r o) := by
  simp [setObj, Sem.run, hb, World.putObj]
theorem checkKey_string (hk : P.underlying kt = some .string) (e : Bool) (s : ByteArray) : (checkKey e 10000 kt (.string s)).run P w = .ok () w :=
  MapKept.run_checkKey hk (by simp [MapKept.IsKey]) e 9999
theorem checkKey_int {k : IntKind} (hk : P.underlying kt = some (.int k)) (e : Bool) (n : Int) : (checkKey e 10000 kt (.int k n)).run P w = .ok () w :=
  MapKept.run_checkKey hk (by simp [MapKept.IsKey]) e 9999

/-- A store of a new key. -/
theorem run_mapUpdate_new {d : TypeDesc} {key v : Value} (ht : P.underlying t = some (.map kt et)) (hk : P.underlying kt = some d) (hc : (checkKey false 10000 kt key).run P w = .ok () w)
    (hb : w.heap[r]? = some (.map es ck)) (hf : findNow d key es.toList 0 = some none) :
    (mapUpdate t (.map (some r)) key v).run P w = .ok () (w.putObj r (.map (es.push { key, val := v, born := ck }) (ck + 1))) := by
  have h1 := getObj_map (P := P) hb
  have h2 := fun o => setObj_map (P := P) hb o
  simp [mapUpdate, run_underlying ht, run_underlying hk, h1, h2, hc, findKey, hf, Result.andThen]

/-- A look for a key that is there, and for one that is not. -/
theorem run_lookup_hit {d : TypeDesc} {key v : Value} {i : Nat} (ht : P.underlying t = some (.map kt et)) (hk : P.underlying kt = some d) (hc : ∀ e, (checkKey e 10000 kt key).run P w = .ok () w)
    (hb : w.heap[r]? = some (.map es ck)) (hf : findNow d key es.toList 0 = some (some (i, v))) (ok : Bool) :
    (lookup t (.map (some r)) key ok).run P w = .ok (if ok then .tuple #[v, .bool true] else v) w := by
  have h1 := getObj_map (P := P) hb
  simp [lookup, run_underlying ht, run_underlying hk, h1, hc, findKey, hf, Result.andThen]
theorem run_lookup_miss {d : TypeDesc} {key z : Value} (ht : P.underlying t = some (.map kt et)) (hk : P.underlying kt = some d) (hc : ∀ e, (checkKey e 10000 kt key).run P w = .ok () w)
    (hb : w.heap[r]? = some (.map es ck)) (hf : findNow d key es.toList 0 = some none) (hz : (zeroValue et).run P w = .ok z w) (ok : Bool) :
    (lookup t (.map (some r)) key ok).run P w = .ok (if ok then .tuple #[z, .bool false] else z) w := by
  have h1 := getObj_map (P := P) hb
  simp [lookup, run_underlying ht, run_underlying hk, h1, hc, findKey, hf, hz, Result.andThen]
end
end Go
