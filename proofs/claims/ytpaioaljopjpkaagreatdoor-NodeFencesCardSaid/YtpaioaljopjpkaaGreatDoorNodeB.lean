/- A node's small methods: New, Epoch, Leads, at, Lead, Close, begin, rollback, may. Conditions: a node as it is laid. -/
import Derived.Test.YtpaioaljopjpkaaGreatDoorNodeA
set_option linter.unusedVariables false
set_option linter.unusedSimpArgs false
namespace Go.Proofs.YtpaioaljopjpkaaGreatDoor
open Go.RowKit

theorem setCell_put {w : World} {g o : Nat} {cur : Array Value} {T : TypeId} {fz : Nat × Nat} {v : Value} (hg : w.heap[g]? = some (.cells cur T fz)) : w.setCell ⟨g, o, none⟩ v = w.putObj g (.cells (cur.setIfInBounds o v) T fz) := by
  have : (w.setCell ⟨g, o, none⟩ v).heap = (w.putObj g (.cells (cur.setIfInBounds o v) T fz)).heap := by
    apply Array.ext_getElem?
    intro i
    by_cases hi : i = g
    · subst hi
      rw [setCell_row _ _ _ _ _ _ _ hg, putObj_same _ _ _ (Array.getElem?_eq_some_iff.1 hg).1]
    · rw [putObj_other _ _ _ _ hi]
      exact Below.heap_setCell _ _ _ _ (fun e => hi e)
  show ({ w with heap := (w.setCell ⟨g, o, none⟩ v).heap } : World) = { w with heap := (w.putObj g _).heap }
  rw [this]
theorem putObj_put (w : World) (g : Nat) (o o' : Obj) : (w.putObj g o).putObj g o' = w.putObj g o' := by
  have : ((w.putObj g o).putObj g o').heap = (w.putObj g o').heap := by
    apply Array.ext_getElem?
    intro i
    by_cases hi : i = g
    · subst hi
      by_cases hs : i < w.heap.size
      · rw [putObj_same _ _ _ (by rw [putObj_size]; exact hs), putObj_same _ _ _ hs]
      · rw [Array.getElem?_eq_none (by rw [putObj_size, putObj_size]; omega), Array.getElem?_eq_none (by rw [putObj_size]; omega)]
    · rw [putObj_other _ _ _ _ hi, putObj_other _ _ _ _ hi, putObj_other _ _ _ _ hi]
  show ({ w with heap := ((w.putObj g o).putObj g o').heap } : World) = { w with heap := (w.putObj g o').heap }
  rw [this]

section
variable {w : World} {c : Nat} {L : NodeL} {s : NodeS}
theorem NodeAt.ne_mb (h : NodeAt w c L s) : c ≠ L.mb := fun e => by
  obtain ⟨es, ck, h1, _⟩ := h.hmap
  have := h.hc
  rw [e, h1] at this; cases this
theorem NodeAt.not_map (h : NodeAt w c L s) {v : Value} {B e size n : Nat} {xs : List Value} (ho : w.ownsRow B e size v n xs) : v.ownBlock ≠ some L.mb := fun e => by
  obtain ⟨cur, h2⟩ := own_obj ho e
  obtain ⟨es, ck, h1, _⟩ := h.hmap
  rw [h1] at h2; cases h2
theorem NodeAt.not_c (h : NodeAt w c L s) {v : Value} {B e size n : Nat} {xs : List Value} (ho : w.ownsRow B e size v n xs) (he : e ≠ 116) : v.ownBlock ≠ some c := fun e1 => by
  obtain ⟨cur, h2⟩ := own_obj ho e1
  have := h.hc
  rw [h2] at this
  injection this with this
  injection this with _ h3
  exact he h3
theorem obj_ne {w : World} {g k : Nat} {o o' : Obj} (h : w.heap[g]? = some o) (h' : w.heap[k]? = some o') (hne : o ≠ o') : g ≠ k := fun e => by subst e; rw [h] at h'; exact hne (Option.some.inj h')
theorem NodeAt.cl_obj (h : NodeAt w c L s) : ∃ cur, w.heap[L.cl]? = some (.cells cur 132 (0, 0)) := by
  have hk := h.hcls
  cases hm : L.mo with
  | none => rw [hm] at hk; exact ⟨_, hk⟩
  | some mb => rw [hm] at hk; exact ⟨_, hk.1⟩
theorem NodeAt.mo_obj (h : NodeAt w c L s) {mb : Nat} (hm : L.mo = some mb) : ∃ es ck, w.heap[mb]? = some (.map es ck) := by
  have hk := h.hcls
  rw [hm] at hk
  obtain ⟨_, es, ck, h2, _⟩ := hk
  exact ⟨es, ck, h2⟩
theorem NodeAt.op_obj (h : NodeAt w c L s) {x : Int × Value} (hx : x ∈ L.ops) {k : Nat} (hk : x.2.ownBlock = some k) : ∃ cur, w.heap[k]? = some (.cells cur 9 (0, 0)) := by
  obtain ⟨i, hi, rfl⟩ := List.mem_iff_getElem.1 hx
  have hx' := List.getElem?_eq_getElem hi
  obtain ⟨p, hp⟩ := h.ops_some hx'
  exact own_obj (h.hop i _ p hx' hp).2 hk
end

/-- a block turned that is not the classer's, nor a box. -/
theorem cls_put {w : World} {cl : Nat} {mo : Option Nat} (h : ClsAt w cl mo) {g : Nat} (o : Obj) (h1 : cl ≠ g) (h2 : ∀ mb, mo = some mb → mb ≠ g) (h3 : ¬ isBox w g) : ClsAt (w.putObj g o) cl mo :=
  h.keep (putObj_other _ _ _ _ h1) (fun mb e => putObj_other _ _ _ _ (h2 mb e)) fun b n hb => putObj_other _ _ _ _ fun e => h3 (e ▸ ⟨n, hb⟩)
theorem NodeAt.c_far {w : World} {c : Nat} {L : NodeL} {s : NodeS} (h : NodeAt w c L s) : L.mb ≠ c ∧ L.cl ≠ c ∧ (∀ mb, L.mo = some mb → mb ≠ c) ∧ ¬ isBox w c := by
  obtain ⟨es, ck, h1, _⟩ := h.hmap
  obtain ⟨cur, h2⟩ := h.cl_obj
  exact ⟨obj_ne h1 h.hc (fun e => cells_map e.symm), obj_ne h2 h.hc (cells_ne (by decide)), fun mb hm => by obtain ⟨es', ck', h3⟩ := h.mo_obj hm; exact obj_ne h3 h.hc (fun e => cells_map e.symm), fun ⟨n, hb⟩ => (h.fp_obj (k := c) (.inl rfl)).2 ⟨n, hb⟩⟩
theorem NodeAt.mb_far {w : World} {c : Nat} {L : NodeL} {s : NodeS} (h : NodeAt w c L s) : L.cl ≠ L.mb ∧ ¬ isBox w L.mb := by
  obtain ⟨es, ck, h1, _⟩ := h.hmap
  obtain ⟨cur, h2⟩ := h.cl_obj
  exact ⟨obj_ne h2 h1 cells_map, (h.fp_obj (k := L.mb) (.inr (.inl rfl))).2⟩
theorem own_put {w : World} {B e size n g : Nat} {v : Value} {xs : List Value} (h : w.ownsRow B e size v n xs) (o : Obj) (hne : v.ownBlock ≠ some g) : (w.putObj g o).ownsRow B e size v n xs :=
  own_by h fun k hk => putObj_other _ _ _ _ fun e => hne (by rw [hk, e])

/-- the node's own cells written anew. -/
theorem NodeAt.recell {w : World} {c : Nat} {L : NodeL} {s : NodeS} (h : NodeAt w c L s) (e : Nat) (b : Bool) (lv : Value) (log : List En) (hown : w.ownsRow 0 73 2 lv log.length (enCells log)) (hf : NodeS.Fine ⟨e, b, log, s.opn⟩) :
    NodeAt (w.putObj c (.cells #[.int .u64 (e : Int), .bool b, lv, .map (some L.mb), .pointer (some ⟨L.cl, 0, none⟩)] 116 (0, 0))) c { L with lv := lv } ⟨e, b, log, s.opn⟩ := by
  obtain ⟨f1, f2, f3, f4⟩ := h.c_far
  refine ⟨putObj_same _ _ _ (Array.getElem?_eq_some_iff.1 h.hc).1, own_put hown _ (h.not_c hown (by decide)), ?_, h.hops, fun i x p hx hp => ⟨(h.hop i x p hx hp).1, own_put (h.hop i x p hx hp).2 _ (h.not_c (h.hop i x p hx hp).2 (by decide))⟩, h.hdis, cls_put h.hcls _ f2 f3 f4, h.hmm, hf⟩
  obtain ⟨es, ck, h1, h2⟩ := h.hmap
  exact ⟨es, ck, (putObj_other _ _ _ _ f1).trans h1, h2⟩
/-- the map of transactions turned. -/
theorem NodeAt.remap {w : World} {c : Nat} {L : NodeL} {s : NodeS} (h : NodeAt w c L s) (o : Obj) (ops : List (Int × Value)) (opn : List (Int × List Sg.B)) (he : EntsAt (w.putObj L.mb o) L.mb ops) (hl : ops.length = opn.length)
    (hop : ∀ (i : Nat) (x : Int × Value) (p : Int × List Sg.B), ops[i]? = some x → opn[i]? = some p → x.1 = p.1 ∧ OwnS w 0 x.2 p.2) (hdis : ∀ (i j : Nat) (x y : Int × Value), i ≠ j → ops[i]? = some x → ops[j]? = some y → Apart x.2 y.2) (hf : NodeS.Fine ⟨s.epoch, s.leads, s.log, opn⟩) :
    NodeAt (w.putObj L.mb o) c { L with ops := ops } ⟨s.epoch, s.leads, s.log, opn⟩ := by
  obtain ⟨f1, f2⟩ := h.mb_far
  obtain ⟨g1, g2, g3, g4⟩ := h.c_far
  refine ⟨(putObj_other _ _ _ _ g1.symm).trans h.hc, own_put h.hlog _ (h.not_map h.hlog), he, hl, fun i x p hx hp => ⟨(hop i x p hx hp).1, own_put (hop i x p hx hp).2 _ (h.not_map (hop i x p hx hp).2)⟩, hdis, cls_put h.hcls _ f1 h.hmm f2, h.hmm, hf⟩
theorem keeps_put {w w' : World} {c : Nat} {L : NodeL} (h : Keeps (L.fp c) w w') {g : Nat} (hg : L.fp c g) (o : Obj) : Keeps (L.fp c) w (w'.putObj g o) := h.putObj (.inr hg) o

theorem NodeAt.keys {w : World} {c : Nat} {L : NodeL} {s : NodeS} (h : NodeAt w c L s) : L.ops.map (·.1) = s.opn.map (·.1) := by
  apply List.ext_getElem?
  intro i
  rw [List.getElem?_map, List.getElem?_map]
  cases hx : L.ops[i]? with
  | none =>
    have : s.opn[i]? = none := by rw [List.getElem?_eq_none_iff] at hx ⊢; rw [← h.hops]; exact hx
    rw [this]; rfl
  | some x =>
    obtain ⟨p, hp⟩ := h.ops_some hx
    rw [hp]
    exact congrArg some (h.hop i x p hx hp).1
theorem NodeAt.knd {w : World} {c : Nat} {L : NodeL} {s : NodeS} (h : NodeAt w c L s) : (L.ops.map (·.1)).Nodup := by rw [h.keys]; exact h.fine.nd

/-- where a connection's transaction stands. -/
def NodeS.find (s : NodeS) (n : Int) : Option Nat := s.opn.findIdx? (·.1 == n)
theorem NodeAt.find_no {w : World} {c : Nat} {L : NodeL} {s : NodeS} (h : NodeAt w c L s) {n : Int} (hn : s.find n = none) : ∀ p ∈ L.ops, p.1 ≠ n := fun p hp e => by
  have : p.1 ∈ s.opn.map (·.1) := by rw [← h.keys]; exact List.mem_map.2 ⟨p, hp, rfl⟩
  obtain ⟨q, hq, hqe⟩ := List.mem_map.1 this
  have := (List.findIdx?_eq_none_iff.1 hn) q hq
  simp [hqe, e] at this
theorem NodeAt.find_at {w : World} {c : Nat} {L : NodeL} {s : NodeS} (h : NodeAt w c L s) {n : Int} {i : Nat} (hn : s.find n = some i) : ∃ v l, L.ops[i]? = some (n, v) ∧ s.opn[i]? = some (n, l) ∧ OwnS w 0 v l := by
  obtain ⟨hi, he, _⟩ := List.findIdx?_eq_some_iff_getElem.1 hn
  have hp := List.getElem?_eq_getElem hi
  have hil : i < L.ops.length := by rw [h.hops]; exact hi
  have hx := List.getElem?_eq_getElem hil
  obtain ⟨h1, h2⟩ := h.hop i _ _ hx hp
  have h3 : s.opn[i].1 = n := by simpa using he
  refine ⟨L.ops[i].2, s.opn[i].2, ?_, ?_, h2⟩
  · rw [hx, ← h3, ← h1]
  · rw [hp, ← h3]

/-! ### the methods, as they are thought of -/
def NodeS.atS (s : NodeS) (e : Nat) (b : Bool) : NodeS := ⟨e, b, s.log, []⟩
def NodeS.lead (s : NodeS) (e : Nat) : NodeS × Bool := if e < s.epoch then (s, false) else (s.atS e true, true)
def NodeS.close (s : NodeS) (n : Int) : NodeS × Bool :=
  match s.find n with
  | none => (s, false)
  | some i => (⟨s.epoch, s.leads, s.log, s.opn.eraseIdx i⟩, true)
def NodeS.begin (s : NodeS) (n : Int) : NodeS × Int :=
  match s.find n with
  | none => (⟨s.epoch, s.leads, s.log, s.opn ++ [(n, [])]⟩, 0)
  | some _ => (s, 7)
def NodeS.may (s : NodeS) (epoch : Nat) (reads : Bool) (is : Int) : Int :=
  if epoch ≠ s.epoch then 8 else if is = 0 ∨ (reads = true ∧ is ≠ 1) then 2 else if reads = false ∧ s.leads = false then 7 else 0
theorem NodeS.Fine.atS {s : NodeS} (h : s.Fine) (e : Nat) (he : e < 18446744073709551616) (b : Bool) : (s.atS e b).Fine := ⟨he, h.log, h.texts, (fun p hp => by cases hp), List.nodup_nil⟩
theorem NodeS.Fine.erase {s : NodeS} (h : s.Fine) (i : Nat) : NodeS.Fine ⟨s.epoch, s.leads, s.log, s.opn.eraseIdx i⟩ :=
  ⟨h.epoch, h.log, h.texts, fun p hp => h.opn p (List.mem_of_mem_eraseIdx hp), by rw [erase_map]; exact h.nd.sublist (List.eraseIdx_sublist ..)⟩

section
variable {w : World} {c : Nat} {L : NodeL} {s : NodeS}
theorem NodeAt.cell0 (h : NodeAt w c L s) : w.cell? ⟨c, 0, none⟩ = some (.int .u64 (s.epoch : Int)) := by simp [World.cell?, h.hc]
theorem NodeAt.cell1 (h : NodeAt w c L s) : w.cell? ⟨c, 1, none⟩ = some (.bool s.leads) := by simp [World.cell?, h.hc]
theorem NodeAt.cell2 (h : NodeAt w c L s) : w.cell? ⟨c, 2, none⟩ = some L.lv := by simp [World.cell?, h.hc]
theorem NodeAt.cell3 (h : NodeAt w c L s) : w.cell? ⟨c, 3, none⟩ = some (.map (some L.mb)) := by simp [World.cell?, h.hc]
theorem NodeAt.cell4 (h : NodeAt w c L s) : w.cell? ⟨c, 4, none⟩ = some (.pointer (some ⟨L.cl, 0, none⟩)) := by simp [World.cell?, h.hc]
theorem NodeAt.froz (h : NodeAt w c L s) (i : Nat) : w.frozen? ⟨c, i, none⟩ = false := by simp [World.frozen?, h.hc]
theorem NodeAt.lt (h : NodeAt w c L s) : c < w.heap.size := (Array.getElem?_eq_some_iff.1 h.hc).1
end

set_option maxRecDepth 100000 in
theorem epoch_calls (w : World) (c : Nat) (L : NodeL) (s : NodeS) (h : NodeAt w c L s) : Calls Tryz.prog 32 #[.pointer (some ⟨c, 0, none⟩)] w fun e w' => e = .returned (.int .u64 (s.epoch : Int)) ∧ w = w' := by
  have c0 := h.cell0
  clear h
  go_enter Tryz.func32, Tryz.ntmps32
  go_wp2
  go_ret
  exact ⟨rfl, rfl⟩
set_option maxRecDepth 100000 in
theorem leads_calls (w : World) (c : Nat) (L : NodeL) (s : NodeS) (h : NodeAt w c L s) : Calls Tryz.prog 33 #[.pointer (some ⟨c, 0, none⟩)] w fun e w' => e = .returned (.bool s.leads) ∧ w = w' := by
  have c0 := h.cell1
  clear h
  go_enter Tryz.func33, Tryz.ntmps33
  go_wp2
  go_ret
  exact ⟨rfl, rfl⟩

theorem at_world {w : World} {c : Nat} {L : NodeL} {s : NodeS} (h : NodeAt w c L s) (e : Nat) (he : e < 18446744073709551616) (b : Bool) :
    ∃ o, (Builtin.clear_ #[114] 0 #[.map (some L.mb)]).run Tryz.prog ((w.setCell ⟨c, 0, none⟩ (.int .u64 (e : Int))).setCell ⟨c, 1, none⟩ (.bool b)) = .ok (.tuple #[]) (((w.setCell ⟨c, 0, none⟩ (.int .u64 (e : Int))).setCell ⟨c, 1, none⟩ (.bool b)).putObj L.mb o) ∧
      NodeTo w c L (s.atS e b) (((w.setCell ⟨c, 0, none⟩ (.int .u64 (e : Int))).setCell ⟨c, 1, none⟩ (.bool b)).putObj L.mb o) ∧
      ((w.setCell ⟨c, 0, none⟩ (.int .u64 (e : Int))).setCell ⟨c, 1, none⟩ (.bool b)).cell? ⟨c, 3, none⟩ = some (.map (some L.mb)) := by
  have e1 : (w.setCell ⟨c, 0, none⟩ (.int .u64 (e : Int))).setCell ⟨c, 1, none⟩ (.bool b) = w.putObj c (.cells #[.int .u64 (e : Int), .bool b, L.lv, .map (some L.mb), .pointer (some ⟨L.cl, 0, none⟩)] 116 (0, 0)) := by
    rw [setCell_put h.hc, setCell_put (putObj_same _ _ _ h.lt), putObj_put]; rfl
  rw [e1]
  have h1 := h.recell e b L.lv s.log h.hlog ⟨he, h.fine.log, h.fine.texts, h.fine.opn, h.fine.nd⟩
  obtain ⟨o, h2, h3⟩ := ents_clear h1.hmap
  refine ⟨o, h2, ⟨{ L with ops := [] }, h1.remap o [] [] h3 rfl (fun i x p hx => by simp at hx) (fun i j x y _ hx => by simp at hx) (h.fine.atS e he b), keeps_put (keeps_put (Keeps.refl (L.fp c) w) (.inl rfl) _) (.inr (.inl rfl)) _, fun k hk => .inl ?_⟩, h1.cell3⟩
  rcases hk with hk | hk | hk | hk | hk | ⟨x, hx, _⟩
  · exact .inl hk
  · exact .inr (.inl hk)
  · exact .inr (.inr (.inl hk))
  · exact .inr (.inr (.inr (.inl hk)))
  · exact .inr (.inr (.inr (.inr (.inl hk))))
  · cases hx
set_option maxRecDepth 100000 in
theorem at_calls (w : World) (c : Nat) (L : NodeL) (s : NodeS) (h : NodeAt w c L s) (e : Nat) (he : e < 18446744073709551616) (b : Bool) :
    Calls Tryz.prog 55 #[.pointer (some ⟨c, 0, none⟩), .int .u64 (e : Int), .bool b] w fun r w' => r = .returned (.tuple #[]) ∧ NodeTo w c L (s.atS e b) w' := by
  obtain ⟨o, h1, h2, h3⟩ := at_world h e he b
  have c0 := h.cell0
  have c1 := h.cell1
  have f0 := h.froz 0
  have f1 := h.froz 1
  have H2 := Lib.hid h2
  clear h h2
  go_enter Tryz.func55, Tryz.ntmps55
  go_wp2
  go_end0
  exact ⟨rfl, H2.out⟩
set_option maxRecDepth 100000 in
theorem lead_calls (w : World) (c : Nat) (L : NodeL) (s : NodeS) (h : NodeAt w c L s) (e : Nat) (he : e < 18446744073709551616) :
    Calls Tryz.prog 15 #[.pointer (some ⟨c, 0, none⟩), .int .u64 (e : Int)] w fun r w' => r = .returned (.bool (s.lead e).2) ∧ NodeTo w c L (s.lead e).1 w' := by
  have c0 := h.cell0
  have HA := Lib.hid (at_calls w c L s h e he true)
  have HS := Lib.hid (NodeTo.same h)
  clear h
  unfold NodeS.lead
  by_cases hlt : e < s.epoch
  · rw [if_pos hlt]
    have hlt' : decide ((e : Int) < (s.epoch : Int)) = true := by simpa using hlt
    go_enter Tryz.func15, Tryz.ntmps15
    go_wp2
    go_ret
    exact ⟨rfl, HS.out⟩
  · rw [if_neg hlt]
    have hlt' : decide ((e : Int) < (s.epoch : Int)) = false := by simpa using hlt
    go_enter Tryz.func15, Tryz.ntmps15
    go_wp2_with (go_at_call 55; refine HA.out.mono ?_; rintro r w1 ⟨rfl, h1⟩)
    go_ret
    exact ⟨rfl, h1⟩
end Go.Proofs.YtpaioaljopjpkaaGreatDoor
