/- A node in memory: its cells, its log, its map of transactions, its classer; what keeps it. Conditions: none. -/
import Derived.Test.YtpaioaljopjpkaaGreatDoorPlanJ
set_option linter.unusedVariables false
set_option linter.unusedSimpArgs false
namespace Go.Proofs.YtpaioaljopjpkaaGreatDoor
open Go.RowKit

/-- an entry of a log: its epoch, its text. -/
abbrev En := Nat × Sg.B
def enCells (l : List En) : List Value := l.flatMap fun e => [.int .u64 (e.1 : Int), .string (ba e.2)]
theorem enCells_append (a b : List En) : enCells (a ++ b) = enCells a ++ enCells b := by simp [enCells]
theorem enCells_len (l : List En) : (enCells l).length = l.length * 2 := by
  induction l with
  | nil => rfl
  | cons x l ih => show (enCells l).length + 2 = _; rw [ih]; simp; omega
theorem enCells_at (l : List En) : ∀ (i : Nat) (t : En), l[i]? = some t → (enCells l)[i * 2]? = some (.int .u64 (t.1 : Int)) ∧ (enCells l)[i * 2 + 1]? = some (.string (ba t.2)) := by
  induction l with
  | nil => intro i t h; simp at h
  | cons x l ih =>
    intro i t h
    have e : enCells (x :: l) = .int .u64 (x.1 : Int) :: .string (ba x.2) :: enCells l := rfl
    rw [e]
    cases i with
    | zero => simp at h; subst h; simp
    | succ i =>
      have := ih i t (by simpa using h)
      rw [show (i + 1) * 2 = i * 2 + 1 + 1 from by omega]
      simpa using this
theorem enCells_take : ∀ (l : List En) (i : Nat), enCells (l.take i) = (enCells l).take (i * 2)
  | [], i => by simp [enCells]
  | x :: l, 0 => by simp [enCells]
  | x :: l, i + 1 => by
    have e : ∀ m : List En, enCells (x :: m) = .int .u64 (x.1 : Int) :: .string (ba x.2) :: enCells m := fun _ => rfl
    rw [List.take_succ_cons, e, e, enCells_take l i, show (i + 1) * 2 = i * 2 + 1 + 1 from by omega]
    rfl
theorem enCells_drop : ∀ (l : List En) (i : Nat), enCells (l.drop i) = (enCells l).drop (i * 2)
  | [], i => by simp [enCells]
  | x :: l, 0 => by simp [enCells]
  | x :: l, i + 1 => by
    have e : ∀ m : List En, enCells (x :: m) = .int .u64 (x.1 : Int) :: .string (ba x.2) :: enCells m := fun _ => rfl
    rw [List.drop_succ_cons, e, enCells_drop l i, show (i + 1) * 2 = i * 2 + 1 + 1 from by omega]
    rfl
theorem enCells_one (l : List En) : OneC (enCells l) := by
  intro u hu
  obtain ⟨e, _, h⟩ := List.mem_flatMap.1 hu
  rcases List.mem_cons.1 h with rfl | h
  · rfl
  · rcases List.mem_cons.1 h with rfl | h
    · rfl
    · cases h

/-- a node, as it is thought of. -/
structure NodeS where
  epoch : Nat
  leads : Bool
  log : List En
  opn : List (Int × List Sg.B)

/-- where a node's parts lie. -/
structure NodeL where
  mb : Nat
  cl : Nat
  mo : Option Nat
  lv : Value
  ops : List (Int × Value)

def NodeL.fp (L : NodeL) (c : Nat) (k : Nat) : Prop := k = c ∨ k = L.mb ∨ k = L.cl ∨ L.mo = some k ∨ L.lv.ownBlock = some k ∨ ∃ x ∈ L.ops, x.2.ownBlock = some k

/-- what holds of every node. -/
structure NodeS.Fine (s : NodeS) : Prop where
  epoch : s.epoch < 18446744073709551616
  log : s.log.length ≤ 200
  texts : ∀ e ∈ s.log, e.2.length ≤ 200 ∧ e.1 < 18446744073709551616
  opn : ∀ p ∈ s.opn, p.2.length ≤ 200 ∧ ∀ t ∈ p.2, t.length ≤ 200
  nd : (s.opn.map (·.1)).Nodup

/-- the entries of a map of transactions. -/
def entryOf (x : Int × Value) : Value × Value := (.int .i64 x.1, x.2)
def EntsAt (w : World) (mb : Nat) (ops : List (Int × Value)) : Prop := ∃ es ck, w.heap[mb]? = some (.map es ck) ∧ es.toList.map (fun e => (e.key, e.val)) = ops.map entryOf

structure NodeAt (w : World) (c : Nat) (L : NodeL) (s : NodeS) : Prop where
  hc : w.heap[c]? = some (.cells #[.int .u64 (s.epoch : Int), .bool s.leads, L.lv, .map (some L.mb), .pointer (some ⟨L.cl, 0, none⟩)] 116 (0, 0))
  hlog : w.ownsRow 0 73 2 L.lv s.log.length (enCells s.log)
  hmap : EntsAt w L.mb L.ops
  hops : L.ops.length = s.opn.length
  hop : ∀ (i : Nat) (x : Int × Value) (p : Int × List Sg.B), L.ops[i]? = some x → s.opn[i]? = some p → x.1 = p.1 ∧ OwnS w 0 x.2 p.2
  hdis : ∀ (i j : Nat) (x y : Int × Value), i ≠ j → L.ops[i]? = some x → L.ops[j]? = some y → Apart x.2 y.2
  hcls : ClsAt w L.cl L.mo
  hmm : ∀ mb, L.mo = some mb → mb ≠ L.mb
  fine : s.Fine

theorem cells_ne {a b : Array Value} {T U : TypeId} {f g : Nat × Nat} (h : T ≠ U) : Obj.cells a T f ≠ Obj.cells b U g := fun e => by injection e with _ e; exact h e
theorem cells_map {a : Array Value} {T : TypeId} {f : Nat × Nat} {es : Array MapEntry} {ck : Nat} : Obj.cells a T f ≠ Obj.map es ck := fun e => by cases e
/-- a block that holds one number, as a rule's box does. -/
def isBox (w : World) (k : Nat) : Prop := ∃ n : Nat, w.heap[k]? = some (Obj.cells #[.int .i64 (n : Int)] 3 (0, 0))

theorem own_obj {w : World} {B e size n : Nat} {v : Value} {xs : List Value} (h : w.ownsRow B e size v n xs) {k : Nat} (hk : v.ownBlock = some k) : ∃ cur, w.heap[k]? = some (.cells cur e (0, 0)) := by
  rcases h.2 with ⟨rfl, _⟩ | ⟨g, cap, cur, rfl, _, hg, _⟩
  · cases hk
  · cases hk; exact ⟨cur, hg⟩

theorem NodeAt.ops_some {w : World} {c : Nat} {L : NodeL} {s : NodeS} (h : NodeAt w c L s) {i : Nat} {x : Int × Value} (hx : L.ops[i]? = some x) : ∃ p, s.opn[i]? = some p := by
  have := (List.getElem?_eq_some_iff.1 hx).1
  rw [h.hops] at this
  exact ⟨_, List.getElem?_eq_getElem this⟩
theorem NodeAt.fp_obj {w : World} {c : Nat} {L : NodeL} {s : NodeS} (h : NodeAt w c L s) {k : Nat} (hk : L.fp c k) : k < w.heap.size ∧ ¬ isBox w k := by
  have key : ∀ o, w.heap[k]? = some o → (∀ n : Nat, o ≠ .cells #[.int .i64 (n : Int)] 3 (0, 0)) → k < w.heap.size ∧ ¬ isBox w k := fun o ho hn =>
    ⟨(Array.getElem?_eq_some_iff.1 ho).1, fun ⟨n, hb⟩ => hn n (Option.some.inj (ho.symm.trans hb))⟩
  rcases hk with rfl | rfl | rfl | hk | hk | ⟨x, hx, hk⟩
  · exact key _ h.hc fun n e => cells_ne (by decide) e
  · obtain ⟨es, ck, h1, _⟩ := h.hmap
    exact key _ h1 fun n e => cells_map e.symm
  · have := h.hcls
    cases hm : L.mo with
    | none => rw [hm] at this; exact key _ this fun n e => cells_ne (by decide) e
    | some mb => rw [hm] at this; exact key _ this.1 fun n e => cells_ne (by decide) e
  · have := h.hcls
    rw [hk] at this
    obtain ⟨_, es, ck, h2, _⟩ := this
    exact key _ h2 fun n e => cells_map e.symm
  · obtain ⟨cur, h1⟩ := own_obj h.hlog hk
    exact key _ h1 fun n e => cells_ne (by decide) e
  · obtain ⟨i, hi, rfl⟩ := List.mem_iff_getElem.1 hx
    have hx' := List.getElem?_eq_getElem hi
    obtain ⟨p, hp⟩ := h.ops_some hx'
    obtain ⟨cur, h1⟩ := own_obj (h.hop i _ p hx' hp).2 hk
    exact key _ h1 fun n e => cells_ne (by decide) e

theorem own_by {w w' : World} {B e size n : Nat} {v : Value} {xs : List Value} (h : w.ownsRow B e size v n xs) (hk : ∀ k, v.ownBlock = some k → w'.heap[k]? = w.heap[k]?) : w'.ownsRow B e size v n xs := by
  refine ⟨h.1, ?_⟩
  rcases h.2 with h0 | ⟨g, cap, cur, rfl, h2, hg, h3⟩
  · exact .inl h0
  · exact .inr ⟨g, cap, cur, rfl, h2, by rw [hk g rfl]; exact hg, h3⟩

/-- whose blocks stay, and the boxes, that node stays. -/
theorem NodeAt.stay {w w' : World} {c : Nat} {L : NodeL} {s : NodeS} (h : NodeAt w c L s) (hk : ∀ k, L.fp c k → w'.heap[k]? = w.heap[k]?) (hb : ∀ k, isBox w k → w'.heap[k]? = w.heap[k]?) : NodeAt w' c L s := by
  refine ⟨(hk c (.inl rfl)).trans h.hc, own_by h.hlog fun k e => hk k (.inr (.inr (.inr (.inr (.inl e))))), ?_, h.hops, fun i x p hx hp => ⟨(h.hop i x p hx hp).1, own_by (h.hop i x p hx hp).2 fun k e => hk k (.inr (.inr (.inr (.inr (.inr ⟨x, List.mem_of_getElem? hx, e⟩)))))⟩, h.hdis, ?_, h.hmm, h.fine⟩
  · obtain ⟨es, ck, h1, h2⟩ := h.hmap
    exact ⟨es, ck, (hk _ (.inr (.inl rfl))).trans h1, h2⟩
  · exact h.hcls.keep (hk _ (.inr (.inr (.inl rfl)))) (fun mb e => hk _ (.inr (.inr (.inr (.inl e))))) fun b n hbn => hb b ⟨n, hbn⟩
theorem NodeAt.keeps {w w' : World} {c : Nat} {L : NodeL} {s : NodeS} {m : Nat → Prop} (h : NodeAt w c L s) (hk : Keeps m w w') (hm : ∀ k, L.fp c k → ¬ m k) (hb : ∀ k, m k → ¬ isBox w k) : NodeAt w' c L s :=
  h.stay (fun k hf => hk.block k (h.fp_obj hf).1 (hm k hf)) fun k hx => hk.block k (by obtain ⟨n, e⟩ := hx; exact (Array.getElem?_eq_some_iff.1 e).1) fun e => hb k e hx
theorem NodeAt.below {w w' : World} {c : Nat} {L : NodeL} {s : NodeS} (h : NodeAt w c L s) (hk : Below w.heap.size w w') : NodeAt w' c L s :=
  h.keeps (Keeps.of_new hk fun _ => False) (fun _ _ e => e) fun _ e => e.elim
theorem NodeAt.alloc {w : World} {c : Nat} {L : NodeL} {s : NodeS} (h : NodeAt w c L s) (o : Obj) : NodeAt (w.alloc o) c L s := h.below ((Below.refl _ _).alloc (Nat.le_refl _) _)
theorem NodeAt.drew {w : World} {c : Nat} {L : NodeL} {s : NodeS} (h : NodeAt w c L s) : NodeAt w.drew c L s := h.below (Below.refl _ _).drew

/-- from world to world a node's parts turn, and new blocks come. -/
def Moves (w : World) (c : Nat) (L L' : NodeL) (w' : World) : Prop := Keeps (L.fp c) w w' ∧ ∀ k, L'.fp c k → L.fp c k ∨ w.heap.size ≤ k
def NodeTo (w : World) (c : Nat) (L : NodeL) (s' : NodeS) (w' : World) : Prop := ∃ L', NodeAt w' c L' s' ∧ Moves w c L L' w'
theorem Moves.refl (w : World) (c : Nat) (L : NodeL) : Moves w c L L w := ⟨Keeps.refl _ _, fun _ h => .inl h⟩
theorem Moves.trans {w w1 w2 : World} {c : Nat} {L L1 L2 : NodeL} (h : Moves w c L L1 w1) (k : Moves w1 c L1 L2 w2) (hf : ∀ i, L.fp c i → i < w.heap.size) : Moves w c L L2 w2 :=
  ⟨h.1.then k.1 fun i hi hm => (h.2 i hm).elim id fun e => by omega, fun i hi => (k.2 i hi).elim (h.2 i) fun e => .inr (Nat.le_trans h.1.size e)⟩
theorem Moves.below {w w1 w2 : World} {c : Nat} {L L1 : NodeL} (h : Moves w c L L1 w1) (k : Below w1.heap.size w1 w2) : Moves w c L L1 w2 :=
  ⟨h.1.then (Keeps.of_new k fun _ => False) fun i hi hm => hm.elim, h.2⟩
theorem NodeTo.same {w : World} {c : Nat} {L : NodeL} {s : NodeS} (h : NodeAt w c L s) : NodeTo w c L s w := ⟨L, h, Moves.refl _ _ _⟩
theorem NodeTo.of_below {w w' : World} {c : Nat} {L : NodeL} {s : NodeS} (h : NodeAt w c L s) (hb : Below w.heap.size w w') : NodeTo w c L s w' := ⟨L, h.below hb, (Moves.refl w c L).below hb⟩
theorem NodeTo.then_below {w w1 w' : World} {c : Nat} {L : NodeL} {s : NodeS} (h : NodeTo w c L s w1) (hb : Below w1.heap.size w1 w') : NodeTo w c L s w' := let ⟨L1, h1, h2⟩ := h; ⟨L1, h1.below hb, h2.below hb⟩

theorem erase_map {α β : Type} (f : α → β) : ∀ (l : List α) (i : Nat), (l.eraseIdx i).map f = (l.map f).eraseIdx i
  | [], i => by simp
  | x :: l, 0 => rfl
  | x :: l, i + 1 => by simp [erase_map f l i]
/-! ### the map's operations -/
section
variable {w : World} {mb : Nat} {ops : List (Int × Value)}
theorem ents_keys {es : Array MapEntry} (h : es.toList.map (fun e => (e.key, e.val)) = ops.map entryOf) : ∀ x ∈ es.toList, MapKept.IsKey (.int .i64) x.key := fun x hx => by
  have : (x.key, x.val) ∈ ops.map entryOf := by rw [← h]; exact List.mem_map.2 ⟨x, hx, rfl⟩
  obtain ⟨p, _, e⟩ := List.mem_map.1 this
  have e1 : x.key = .int .i64 p.1 := (congrArg Prod.fst e).symm
  rw [e1]; exact rfl
theorem ents_at {es : Array MapEntry} (h : es.toList.map (fun e => (e.key, e.val)) = ops.map entryOf) {i : Nat} {e : MapEntry} (he : es.toList[i]? = some e) : ∃ p, ops[i]? = some p ∧ e.key = .int .i64 p.1 ∧ e.val = p.2 := by
  have h1 : (es.toList.map (fun e => (e.key, e.val)))[i]? = some (e.key, e.val) := by rw [List.getElem?_map, he]; rfl
  rw [h, List.getElem?_map] at h1
  obtain ⟨p, hp, e1⟩ := Option.map_eq_some_iff.1 h1
  exact ⟨p, hp, (congrArg Prod.fst e1).symm, (congrArg Prod.snd e1).symm⟩
theorem find_no {es : Array MapEntry} (h : es.toList.map (fun e => (e.key, e.val)) = ops.map entryOf) (n : Int) (hn : ∀ p ∈ ops, p.1 ≠ n) : Instr.findNow (.int .i64) (.int .i64 n) es.toList 0 = some none := by
  rcases MapKept.findNow_spec (d := .int .i64) (k := .int .i64 n) rfl es.toList 0 (ents_keys h) with h1 | ⟨j, e, h1, h2, h3⟩
  · exact h1.1
  · obtain ⟨p, hp, hk, _⟩ := ents_at h h2
    rw [hk] at h3
    exact absurd (by injection h3) (hn p (List.mem_of_getElem? hp))
theorem find_at {es : Array MapEntry} (h : es.toList.map (fun e => (e.key, e.val)) = ops.map entryOf) (hnd : (ops.map (·.1)).Nodup) {i : Nat} {n : Int} {v : Value} (hi : ops[i]? = some (n, v)) : Instr.findNow (.int .i64) (.int .i64 n) es.toList 0 = some (some (i, v)) := by
  have hl : es.toList.length = ops.length := by simpa using congrArg List.length h
  have hil := (List.getElem?_eq_some_iff.1 hi).1
  have hei := List.getElem?_eq_getElem (l := es.toList) (i := i) (by omega)
  rcases MapKept.findNow_spec (d := .int .i64) (k := .int .i64 n) rfl es.toList 0 (ents_keys h) with h1 | ⟨j, e, h1, h2, h3⟩
  · obtain ⟨p, hp, hk, _⟩ := ents_at h hei
    have := hi.symm.trans hp
    cases this
    exact absurd hk (h1.2 _ (List.mem_of_getElem? hei))
  · obtain ⟨p, hp, hk, hv⟩ := ents_at h h2
    rw [hk] at h3
    have hpn : p.1 = n := by injection h3
    have hj : j = i := by
      have hjl := (List.getElem?_eq_some_iff.1 hp).1
      refine (List.getElem_inj (h₀ := by simpa using hjl) (h₁ := by simpa using hil) hnd).1 ?_
      rw [List.getElem_map, List.getElem_map, (List.getElem?_eq_some_iff.1 hp).2, (List.getElem?_eq_some_iff.1 hi).2]
      exact hpn
    subst hj
    have := hi.symm.trans hp
    cases this
    rw [h1, hv, Nat.zero_add]

theorem ents_push (h : EntsAt w mb ops) (n : Int) (v : Value) (hn : ∀ p ∈ ops, p.1 ≠ n) :
    ∃ o, (Instr.mapUpdate 114 (.map (some mb)) (.int .i64 n) v).run Tryz.prog w = .ok () (w.putObj mb o) ∧ EntsAt (w.putObj mb o) mb (ops ++ [(n, v)]) := by
  obtain ⟨es, ck, h1, h2⟩ := h
  refine ⟨_, run_mapUpdate_new (P := Tryz.prog) (t := 114) Tryz.underlying114 Tryz.underlying3 (checkKey_int Tryz.underlying3 _ _) h1 (find_no h2 n hn), _, _, putObj_same _ _ _ (Array.getElem?_eq_some_iff.1 h1).1, ?_⟩
  rw [Array.toList_push, List.map_append, h2, List.map_append]; rfl
theorem run_mapUpdate_old {P : Program} {r : Nat} {es : Array MapEntry} {ck : Nat} {t kt et : TypeId} {n n' : Int} {v v0 : Value} {i : Nat} {e0 : MapEntry} (ht : P.underlying t = some (.map kt et)) (hk : P.underlying kt = some (.int .i64))
    (hb : w.heap[r]? = some (.map es ck)) (hf : Instr.findNow (.int .i64) (.int .i64 n) es.toList 0 = some (some (i, v0))) (he : es[i]? = some e0) (hek : e0.key = .int .i64 n) :
    (Instr.mapUpdate t (.map (some r)) (.int .i64 n) v).run P w = .ok () (w.putObj r (.map (es.modify i fun e => { e with key := .int .i64 n, val := v }) ck)) := by
  have h1 := getObj_map (P := P) hb
  have h2 := fun o => setObj_map (P := P) hb o
  have h3 := checkKey_int (P := P) (w := w) hk false n
  simp [Instr.mapUpdate, run_underlying ht, run_underlying hk, h1, h2, h3, Instr.findKey, hf, Result.andThen, he, hek, Instr.keyThatStays, Instr.sameBits]
theorem ents_set (h : EntsAt w mb ops) (hnd : (ops.map (·.1)).Nodup) {i : Nat} {n : Int} {v0 : Value} (hi : ops[i]? = some (n, v0)) (v : Value) :
    ∃ o, (Instr.mapUpdate 114 (.map (some mb)) (.int .i64 n) v).run Tryz.prog w = .ok () (w.putObj mb o) ∧ EntsAt (w.putObj mb o) mb (ops.set i (n, v)) := by
  obtain ⟨es, ck, h1, h2⟩ := h
  have hl : es.toList.length = ops.length := by simpa using congrArg List.length h2
  have hil := (List.getElem?_eq_some_iff.1 hi).1
  have hei := List.getElem?_eq_getElem (l := es.toList) (i := i) (by omega)
  obtain ⟨p, hp, hk, _⟩ := ents_at h2 hei
  have e := hi.symm.trans hp
  cases e
  refine ⟨_, run_mapUpdate_old (P := Tryz.prog) (t := 114) (kt := 3) (et := 22) (n' := n) Tryz.underlying114 Tryz.underlying3 h1 (find_at h2 hnd hi) (by rw [← Array.getElem?_toList]; exact hei) hk, _, _, putObj_same _ _ _ (Array.getElem?_eq_some_iff.1 h1).1, ?_⟩
  apply List.ext_getElem?
  intro j
  have h3 : (es.toList.map (fun e => (e.key, e.val)))[j]? = (ops.map entryOf)[j]? := by rw [h2]
  rw [List.getElem?_map, List.getElem?_map] at h3
  rw [List.getElem?_map, List.getElem?_map, Array.toList_modify, List.getElem?_modify, List.getElem?_set]
  by_cases hj : i = j
  · subst hj
    rw [hei]
    simp [hil, entryOf]
  · rw [if_neg hj]
    have : (fun a => if i = j then ({ a with key := .int .i64 n, val := v } : MapEntry) else a) = id := by funext a; rw [if_neg hj]; rfl
    simp only [this, id_map]
    exact h3
theorem ents_look (h : EntsAt w mb ops) (hnd : (ops.map (·.1)).Nodup) {i : Nat} {n : Int} {v : Value} (hi : ops[i]? = some (n, v)) (ok : Bool) :
    (Instr.lookup 114 (.map (some mb)) (.int .i64 n) ok).run Tryz.prog w = .ok (if ok then .tuple #[v, .bool true] else v) w := by
  obtain ⟨es, ck, h1, h2⟩ := h
  exact run_lookup_hit (P := Tryz.prog) (t := 114) Tryz.underlying114 Tryz.underlying3 (fun e => checkKey_int Tryz.underlying3 e n) h1 (find_at h2 hnd hi) ok
theorem ents_look_no (h : EntsAt w mb ops) {n : Int} (hn : ∀ p ∈ ops, p.1 ≠ n) (ok : Bool) :
    (Instr.lookup 114 (.map (some mb)) (.int .i64 n) ok).run Tryz.prog w = .ok (if ok then .tuple #[.slice none 0 0, .bool false] else .slice none 0 0) w := by
  obtain ⟨es, ck, h1, h2⟩ := h
  have hz : (zeroValue 22).run Tryz.prog w = .ok (.slice none 0 0) w := by kernel_rfl
  exact run_lookup_miss (P := Tryz.prog) (t := 114) Tryz.underlying114 Tryz.underlying3 (fun e => checkKey_int Tryz.underlying3 e n) h1 (find_no h2 n hn) hz ok
theorem ents_del (h : EntsAt w mb ops) (hnd : (ops.map (·.1)).Nodup) {i : Nat} {n : Int} {v : Value} (hi : ops[i]? = some (n, v)) :
    ∃ o, (Builtin.delete_ #[114, 3] 0 #[.map (some mb), .int .i64 n]).run Tryz.prog w = .ok (.tuple #[]) (w.putObj mb o) ∧ EntsAt (w.putObj mb o) mb (ops.eraseIdx i) := by
  obtain ⟨es, ck, h1, h2⟩ := h
  have g1 := getObj_map (P := Tryz.prog) h1
  have g2 := fun o => setObj_map (P := Tryz.prog) h1 o
  have g3 := fun e => checkKey_int (P := Tryz.prog) (w := w) Tryz.underlying3 e n
  have g4 := find_at h2 hnd hi
  have hl : es.toList.length = ops.length := by simpa using congrArg List.length h2
  have hil := (List.getElem?_eq_some_iff.1 hi).1
  refine ⟨.map (es.eraseIdxIfInBounds i) ck, ?_, _, _, putObj_same _ _ _ (Array.getElem?_eq_some_iff.1 h1).1, ?_⟩
  · simp [Builtin.delete_, run_underlying Tryz.underlying114, run_underlying Tryz.underlying3, g1, g2, g3, Instr.findKey, g4, Result.andThen]
  · rw [Array.toList_eraseIdxIfInBounds, erase_map, h2, erase_map]
theorem ents_del_no (h : EntsAt w mb ops) {n : Int} (hn : ∀ p ∈ ops, p.1 ≠ n) :
    ∃ o, (Builtin.delete_ #[114, 3] 0 #[.map (some mb), .int .i64 n]).run Tryz.prog w = .ok (.tuple #[]) (w.putObj mb o) ∧ EntsAt (w.putObj mb o) mb ops := by
  obtain ⟨es, ck, h1, h2⟩ := h
  have g1 := getObj_map (P := Tryz.prog) h1
  have g2 := fun o => setObj_map (P := Tryz.prog) h1 o
  have g3 := fun e => checkKey_int (P := Tryz.prog) (w := w) Tryz.underlying3 e n
  have g4 := find_no h2 n hn
  refine ⟨.map es ck, ?_, _, _, putObj_same _ _ _ (Array.getElem?_eq_some_iff.1 h1).1, h2⟩
  simp [Builtin.delete_, run_underlying Tryz.underlying114, run_underlying Tryz.underlying3, g1, g2, g3, Instr.findKey, g4, Result.andThen]
theorem ents_clear (h : EntsAt w mb ops) :
    ∃ o, (Builtin.clear_ #[114] 0 #[.map (some mb)]).run Tryz.prog w = .ok (.tuple #[]) (w.putObj mb o) ∧ EntsAt (w.putObj mb o) mb [] := by
  obtain ⟨es, ck, h1, h2⟩ := h
  have g1 := getObj_map (P := Tryz.prog) h1
  have g2 := fun o => setObj_map (P := Tryz.prog) h1 o
  refine ⟨.map #[] ck, ?_, _, _, putObj_same _ _ _ (Array.getElem?_eq_some_iff.1 h1).1, rfl⟩
  simp [Builtin.clear_, run_underlying Tryz.underlying114, g1, g2, Result.andThen]
end
end Go.Proofs.YtpaioaljopjpkaaGreatDoor
