/- The node's laws' do: an act on three nodes. Conditions: the nodes as they are laid. -/
import Derived.Test.YtpaioaljopjpkaaGreatDoorLawA
set_option linter.unusedVariables false
set_option linter.unusedSimpArgs false
namespace Go.Proofs.YtpaioaljopjpkaaGreatDoor
open Go.RowKit

structure ToldS where
  err : Int
  epoch : Nat
  place : Nat
  texts : List Sg.B
  is : Bool
  many : Nat
def toldV (t : ToldS) (tv : Value) : Value := .agg #[.int .i64 t.err, .int .u64 (t.epoch : Int), .int .u64 (t.place : Int), tv, .bool t.is, .int .i64 (t.many : Int)]
def ActS.bytes (x : ActS) : Sg.B := x.text.data.toList
theorem bytes_len (x : ActS) : x.bytes.length = x.text.size := by unfold ActS.bytes; rw [Array.length_toList]; rfl
theorem ba_bytes (x : ActS) : ba x.bytes = x.text := rfl
def nodeOf (ss : List NodeS) (n : Int) : NodeS := ss.getD (ofI n) NodeS.new
/-- an act, as it is thought of. -/
def doL (ss : List NodeS) (x : ActS) : List NodeS × ToldS :=
  let s := nodeOf ss x.node
  if x.act = 0 then (ss.set (ofI x.node) (s.run x.conn x.epoch x.reads x.bytes).s, ⟨(s.run x.conn x.epoch x.reads x.bytes).err, (s.run x.conn x.epoch x.reads x.bytes).s.epoch, (s.run x.conn x.epoch x.reads x.bytes).s.log.length, (s.run x.conn x.epoch x.reads x.bytes).texts, false, 0⟩)
  else if x.act = 1 then (ss.set (ofI x.node) (s.close x.conn).1, ⟨0, 0, 0, [], (s.close x.conn).2, 0⟩)
  else if x.act = 2 then (ss.set (ofI x.node) (s.lead x.epoch).1, ⟨0, 0, 0, [], (s.lead x.epoch).2, 0⟩)
  else (ss.set (ofI x.node) (s.copy (nodeOf ss x.fro) x.many).1, ⟨0, 0, 0, [], false, (s.copy (nodeOf ss x.fro) x.many).2⟩)
def DoPost (w : World) (R : Nat → Prop) (cs : List Nat) (ss : List NodeS) (x : ActS) (e : Ending) (w' : World) : Prop :=
  ∃ tv R', e = .returned (toldV (doL ss x).2 tv) ∧ StrRow w' tv (doL ss x).2.texts ∧ (∀ k, tv.ownBlock = some k → R' k) ∧ Nodes w' R' cs (doL ss x).1 ∧ Grows R R' w w'

theorem NodeTv.below {w w1 w2 : World} {c : Nat} {L : NodeL} {s' : NodeS} {tv : Value} (h : NodeTv w c L s' w1 tv) (hb : Below w1.heap.size w1 w2) : NodeTv w c L s' w2 tv := by
  obtain ⟨L1, h1, h2, h3⟩ := h
  exact ⟨L1, h1.below hb, h2.below hb, fun k e => ⟨(h3 k e).1, Nat.lt_of_lt_of_le (h3 k e).2 hb.size⟩⟩
theorem below_to {w w' : World} {A B : Nat} (h : Below A w w') (hB : B ≤ A) : Below B w w' := ⟨h.os, h.tape, h.output, h.size, fun k hk => h.block k (by omega)⟩
theorem StrRow.setc {w : World} {v : Value} {l : List Sg.B} (h : StrRow w v l) (b i : Nat) (u : Value) (hb : v.ownBlock ≠ some b) : StrRow (w.setCell ⟨b, i, none⟩ u) v l :=
  h.move fun g off n cp e hl => Below.heap_setCell _ _ _ _ fun e2 => hb (by rw [e, show g = b from e2]; rfl)
theorem NodeAt.putNew {w1 : World} {c : Nat} {L1 : NodeL} {s : NodeS} (h1 : NodeAt w1 c L1 s) {b : Nat} (o : Obj) {cur : Array Value} {T : TypeId} {fz : Nat × Nat} (hb : w1.heap[b]? = some (.cells cur T fz)) (hT : T ≠ 116 ∧ T ≠ 132 ∧ T ≠ 73 ∧ T ≠ 9) (hT3 : T ≠ 3) : NodeAt (w1.putObj b o) c L1 s := by
  refine h1.stay (fun k hk' => putObj_other _ _ _ _ fun e => h1.far hb hT (e ▸ hk')) fun k ⟨n, hk'⟩ => putObj_other _ _ _ _ fun e => ?_
  subst e
  exact obj_ne hb hk' (cells_ne hT3) rfl
/-- the nodes behind stores into the answer's block. -/
structure StayA (R R5 : Nat → Prop) (cs : List Nat) (ss : List NodeS) (w wA : World) : Prop where
  nodes : Nodes wA R5 cs ss
  r4 : ∃ cur, wA.heap[w.heap.size + 1]? = some (.cells cur 57 (0, 0)) ∧ cur.size = 6
  r5 : ∃ cur, wA.heap[w.heap.size + 1 + 1]? = some (.cells cur 57 (0, 0))
  gr : Grows R R5 w wA
  in4 : R5 (w.heap.size + 1)
  in5 : R5 (w.heap.size + 1 + 1)
theorem StayA.start {R R5 : Nat → Prop} {cs : List Nat} {ss : List NodeS} {w w5 : World} {a b : Array Value} (h1 : Nodes w5 R5 cs ss) (h3 : w5.heap[w.heap.size + 1]? = some (.cells a 57 (0, 0))) (h4 : w5.heap[w.heap.size + 1 + 1]? = some (.cells b 57 (0, 0))) (h5 : Grows R R5 w w5) (i4 : R5 (w.heap.size + 1)) (i5 : R5 (w.heap.size + 1 + 1)) (ha : a.size = 6 := by rfl) : StayA R R5 cs ss w w5 :=
  ⟨h1, ⟨a, h3, ha⟩, ⟨b, h4⟩, h5, i4, i5⟩
theorem StayA.put {R R5 : Nat → Prop} {cs : List Nat} {ss : List NodeS} {w wA : World} (h : StayA R R5 cs ss w wA) (i : Nat) (v : Value) : StayA R R5 cs ss w (wA.setCell ⟨w.heap.size + 1 + 1, i, none⟩ v) := by
  obtain ⟨h1, ⟨a, h3, h3s⟩, ⟨b, h4⟩, h5, h6, h7⟩ := h
  exact ⟨h1.write i v h4 h7 (by decide), ⟨a, (Below.heap_setCell _ _ _ _ fun e => by have e : w.heap.size + 1 = w.heap.size + 1 + 1 := e; omega).trans h3, h3s⟩, ⟨_, setCell_row _ _ _ _ _ _ _ h4⟩, h5.setCell (by show w.heap.size ≤ w.heap.size + 1 + 1; omega) _, h6, h7⟩
def six (w : World) (b : Nat) (v0 v1 v2 v3 v4 v5 : Value) : World := (((((w.setCell ⟨b, 0, none⟩ v0).setCell ⟨b, 1, none⟩ v1).setCell ⟨b, 2, none⟩ v2).setCell ⟨b, 3, none⟩ v3).setCell ⟨b, 4, none⟩ v4).setCell ⟨b, 5, none⟩ v5
theorem six_eq {w : World} {b : Nat} {cur : Array Value} {T : TypeId} {v0 v1 v2 v3 v4 v5 : Value} (h : w.heap[b]? = some (.cells cur T (0, 0))) (hs : cur.size = 6) : six w b v0 v1 v2 v3 v4 v5 = w.putObj b (.cells #[v0, v1, v2, v3, v4, v5] T (0, 0)) := by
  unfold six
  have hl := heap_lt h
  obtain ⟨l⟩ := cur
  match l, hs with
  | [y0, y1, y2, y3, y4, y5], _ =>
    rw [setCell_put h, setCell_put (putObj_same _ _ _ hl), putObj_put, setCell_put (putObj_same _ _ _ hl), putObj_put, setCell_put (putObj_same _ _ _ hl), putObj_put, setCell_put (putObj_same _ _ _ hl), putObj_put, setCell_put (putObj_same _ _ _ hl), putObj_put]
    rfl
theorem do_ret {a : Act} {w wA : World} {R R5 : Nat → Prop} {cs : List Nat} {ss0 : List NodeS} {x : ActS} (ss : List NodeS) (t : ToldS) (tv : Value) (h : StayA R R5 cs ss w wA) (hrow : StrRow wA tv t.texts) (hnew : ∀ k, tv.ownBlock = some k → R5 k ∧ k ≠ w.heap.size + 1)
    (ha : a.tmps.getD 4 undef = .pointer (some ⟨w.heap.size + 1, 0, none⟩)) (hd : a.defers = []) (htv : ∃ y n cp, tv = .slice y n cp) (hdo : doL ss0 x = (ss, t)) :
    bodyPost Tryz.prog Tryz.f28 (DoPost w R cs ss0 x) Exit.ret a (six wA (w.heap.size + 1) (.int .i64 t.err) (.int .u64 (t.epoch : Int)) (.int .u64 (t.place : Int)) tv (.bool t.is) (.int .i64 (t.many : Int))) := by
  obtain ⟨h1, ⟨b4, h3, h3s⟩, ⟨b, h4⟩, h5, h6, h7⟩ := h
  rw [six_eq h3 h3s]
  have hz := putObj_same wA (w.heap.size + 1) (.cells #[.int .i64 t.err, .int .u64 (t.epoch : Int), .int .u64 (t.place : Int), tv, .bool t.is, .int .i64 (t.many : Int)] 57 (0, 0)) (heap_lt h3)
  have n1 := h1.put (.cells #[.int .i64 t.err, .int .u64 (t.epoch : Int), .int .u64 (t.place : Int), tv, .bool t.is, .int .i64 (t.many : Int)] 57 (0, 0)) h3 h6 (by decide)
  have s1 := hrow.put (w.heap.size + 1) (.cells #[.int .i64 t.err, .int .u64 (t.epoch : Int), .int .u64 (t.place : Int), tv, .bool t.is, .int .i64 (t.many : Int)] 57 (0, 0)) (fun e => (hnew _ e).2 rfl)
  have b1 := h5.putObj (b := w.heap.size + 1) (by omega) (.cells #[.int .i64 t.err, .int .u64 (t.epoch : Int), .int .u64 (t.place : Int), tv, .bool t.is, .int .i64 (t.many : Int)] 57 (0, 0))
  generalize wA.putObj (w.heap.size + 1) (.cells #[.int .i64 t.err, .int .u64 (t.epoch : Int), .int .u64 (t.place : Int), tv, .bool t.is, .int .i64 (t.many : Int)] 57 (0, 0)) = wz at *
  obtain ⟨y, n, cp, rfl⟩ := htv
  refine bodyPost_ret (v := toldV t (.slice y n cp)) ?_ hd ⟨.slice y n cp, R5, by rw [hdo], by rw [hdo]; exact s1, fun k e => (hnew k e).1, by rw [hdo]; exact n1, b1⟩
  simp only [Array.getD_eq_getD_getElem?] at ha
  have q0 : wz.cell? ⟨w.heap.size + 1, 0, none⟩ = some (.int .i64 t.err) := by simp [World.cell?, hz]
  have q1 : wz.cell? ⟨w.heap.size + 1, 1, none⟩ = some (.int .u64 (t.epoch : Int)) := by simp [World.cell?, hz]
  have q2 : wz.cell? ⟨w.heap.size + 1, 2, none⟩ = some (.int .u64 (t.place : Int)) := by simp [World.cell?, hz]
  have q3 : wz.cell? ⟨w.heap.size + 1, 3, none⟩ = some (.slice y n cp) := by simp [World.cell?, hz]
  have q4 : wz.cell? ⟨w.heap.size + 1, 4, none⟩ = some (.bool t.is) := by simp [World.cell?, hz]
  have q5 : wz.cell? ⟨w.heap.size + 1, 5, none⟩ = some (.int .i64 (t.many : Int)) := by simp [World.cell?, hz]
  simp [results, Tryz.results28, go_sem, ha, q0, q1, q2, q3, q4, q5, toldV]

set_option maxRecDepth 100000 in
set_option maxHeartbeats 4000000 in
theorem do_run (w : World) (R : Nat → Prop) (g : Nat) (cs : List Nat) (ss : List NodeS) (hN : Nodes w R cs ss) (hP : PtrRow w g cs) (hlen : cs.length = 3) (hRg : R g) (hR0 : R 0) (m : Int) (hm : w.cell? ⟨0, 0, none⟩ = some (.int .i64 m)) (x : ActS) (hxe : x.epoch < 18446744073709551616) (hxt : x.text.size ≤ maxLen) (ha : x.act = 0) :
    Calls Tryz.prog 28 #[.slice (some ⟨g, 0, none⟩) 3 3, .agg (actL x).toArray] w (DoPost w R cs ss x) := by
  obtain ⟨c, hc⟩ : ∃ c, cs[ofI x.node]? = some c := ⟨cs[ofI x.node]'(by rw [hlen]; exact ofI_lt _), List.getElem?_eq_getElem _⟩
  obtain ⟨s, hs⟩ : ∃ s, ss[ofI x.node]? = some s := ⟨ss[ofI x.node]'(by rw [hN.len, hlen]; exact ofI_lt _), List.getElem?_eq_getElem _⟩
  have hnode : nodeOf ss x.node = s := by unfold nodeOf; rw [List.getD_eq_getElem?_getD, hs]; rfl
  have hgl := hP.lt
  have hw0 := World.block_lt_of_cell? w ⟨0, 0, none⟩ hm
  obtain ⟨w3, hw3⟩ : ∃ w3, w3 = ((w.alloc (.cells #[.int .i64 x.act, .int .i64 x.node, .int .i64 x.fro, .int .i64 x.conn, .int .i64 x.many, .int .u64 (x.epoch : Int), .bool x.reads, .string x.text] 54)).alloc (.cells #[.int .i64 0, .int .u64 0, .int .u64 0, .slice none 0 0, .bool false, .int .i64 0] 57)).alloc (.cells #[.int .i64 0, .int .u64 0, .int .u64 0, .slice none 0 0, .bool false, .int .i64 0] 57) := ⟨_, rfl⟩
  have hb3 : Below w.heap.size w w3 := by rw [hw3]; exact (((Below.refl _ _).alloc (Nat.le_refl _) _).alloc (by simp) _).alloc (by simp; omega) _
  have hz3 : w3.heap.size = w.heap.size + 3 := by rw [hw3]; simp
  have r4 : w3.heap[w.heap.size + 1]? = some (.cells #[.int .i64 0, .int .u64 0, .int .u64 0, .slice none 0 0, .bool false, .int .i64 0] 57 (0, 0)) := by
    rw [hw3]
    have := heap_old (o := .cells #[.int .i64 0, .int .u64 0, .int .u64 0, .slice none 0 0, .bool false, .int .i64 0] 57) (heap_alloc_new (w.alloc (.cells #[.int .i64 x.act, .int .i64 x.node, .int .i64 x.fro, .int .i64 x.conn, .int .i64 x.many, .int .u64 (x.epoch : Int), .bool x.reads, .string x.text] 54)) (.cells #[.int .i64 0, .int .u64 0, .int .u64 0, .slice none 0 0, .bool false, .int .i64 0] 57))
    simpa using this
  have r5 : w3.heap[w.heap.size + 1 + 1]? = some (.cells #[.int .i64 0, .int .u64 0, .int .u64 0, .slice none 0 0, .bool false, .int .i64 0] 57 (0, 0)) := by
    rw [hw3]
    have := heap_alloc_new ((w.alloc (.cells #[.int .i64 x.act, .int .i64 x.node, .int .i64 x.fro, .int .i64 x.conn, .int .i64 x.many, .int .u64 (x.epoch : Int), .bool x.reads, .string x.text] 54)).alloc (.cells #[.int .i64 0, .int .u64 0, .int .u64 0, .slice none 0 0, .bool false, .int .i64 0] 57)) (.cells #[.int .i64 0, .int .u64 0, .int .u64 0, .slice none 0 0, .bool false, .int .i64 0] 57)
    simpa using this
  have r3 : w3.heap[w.heap.size]? = some (.cells #[.int .i64 x.act, .int .i64 x.node, .int .i64 x.fro, .int .i64 x.conn, .int .i64 x.many, .int .u64 (x.epoch : Int), .bool x.reads, .string x.text] 54 (0, 0)) := by
    rw [hw3]
    exact heap_old (heap_old (heap_alloc_new _ _))
  obtain ⟨R3, hN3, hg3, hr3⟩ := hN.below hb3
  have hP3 := hP.below hb3
  have in4 : R3 (w.heap.size + 1) := hr3 _ (by omega) (by omega)
  have in5 : R3 (w.heap.size + 1 + 1) := hr3 _ (by omega) (by omega)
  have hR03 := hg3.2 0 hR0
  have hRg3 := hg3.2 g hRg
  obtain ⟨L, nL, fL, stepL, othL⟩ := hN3.get hc hs
  have GR3 := Lib.hid hg3
  have k0 := hP3.cell hc
  have hm3 := (hb3.cell (p := ⟨0, 0, none⟩) hw0).trans hm
  have q0 : w3.cell? ⟨w.heap.size, 0, none⟩ = some (.int .i64 x.act) := by simp [World.cell?, r3]
  have q1 : w3.cell? ⟨w.heap.size, 1, none⟩ = some (.int .i64 x.node) := by simp [World.cell?, r3]
  have q2 : w3.cell? ⟨w.heap.size, 2, none⟩ = some (.int .i64 x.fro) := by simp [World.cell?, r3]
  have q3 : w3.cell? ⟨w.heap.size, 3, none⟩ = some (.int .i64 x.conn) := by simp [World.cell?, r3]
  have q4 : w3.cell? ⟨w.heap.size, 4, none⟩ = some (.int .i64 x.many) := by simp [World.cell?, r3]
  have q5 : w3.cell? ⟨w.heap.size, 5, none⟩ = some (.int .u64 (x.epoch : Int)) := by simp [World.cell?, r3]
  have q6 : w3.cell? ⟨w.heap.size, 6, none⟩ = some (.bool x.reads) := by simp [World.cell?, r3]
  have q7 : w3.cell? ⟨w.heap.size, 7, none⟩ = some (.string x.text) := by simp [World.cell?, r3]
  have R4 := Lib.hid r4
  have R5 := Lib.hid r5
  have HP3 := Lib.hid hP3
  have NL := Lib.hid nL
  have STEP := Lib.hid stepL
  have hl3 := ofI_lt x.node
  have b0 : (x.act == 0) = true := by simpa using ha
  have hdo : doL ss x = (ss.set (ofI x.node) (s.run x.conn x.epoch x.reads x.bytes).s, ⟨(s.run x.conn x.epoch x.reads x.bytes).err, (s.run x.conn x.epoch x.reads x.bytes).s.epoch, (s.run x.conn x.epoch x.reads x.bytes).s.log.length, (s.run x.conn x.epoch x.reads x.bytes).texts, false, 0⟩) := by unfold doL; rw [if_pos ha, hnode]
  have HRUN := Lib.hid (nrun_calls w3 c L s nL m hm3 (fun e => fL 0 e hR03) x.conn x.epoch x.reads x.bytes (by rw [bytes_len]; exact hxt))
  rw [ba_bytes] at HRUN
  obtain ⟨r, hr⟩ : ∃ r, r = s.run x.conn x.epoch x.reads x.bytes := ⟨_, rfl⟩
  rw [← hr] at HRUN hdo
  clear hr ha
  have HDO := Lib.hid hdo
  clear hdo hN hP hN3 hP3 hm r3 r4 r5 hb3 stepL othL nL hlen hs hc hnode hg3 hr3
  unfold actL
  go_enter Tryz.func28, Tryz.ntmps28
  go_wp2_with fail
  rw [← hw3]
  clear hw3
  refine (of3_calls _ _).mono ?_
  rintro e w' ⟨rfl, rfl⟩
  go_wp2_with (first | (go_at_call 17; refine HRUN.out.mono ?_; rintro e w4 ⟨tv, rfl, hrow, hnew, hto⟩; obtain ⟨xa, xc, hf, _⟩ := id hrow; subst hf; have HROW := Lib.hid hrow; have HNEW := Lib.hid hnew; have HTO := Lib.hid hto; clear hrow hnew hto) | (go_at_call 37; refine (reply_calls _ _ _ _ _ _ _).mono ?_; rintro e w5 ⟨rfl, hb5⟩; have HB45 := Lib.hid hb5; have hntv := HTO.out.below hb5; have hto := hntv.to; have u4 := (hto).far NL.out R4.out (by decide); have u5 := (hto).far NL.out R5.out (by decide); obtain ⟨R5', hn5, hg5, htv5⟩ := STEP.out _ _ (.slice xa r.texts.length xc) hntv; have HN5 := Lib.hid hn5; have HG5 := Lib.hid (GR3.out.trans hg5); have IN4 := hg5.2 _ in4; have IN5 := hg5.2 _ in5; have HU4 := Lib.hid u4; have HU5 := Lib.hid u5; have HTV5 := Lib.hid htv5; have HPG := Lib.hid (HP3.out.grows hg5 hRg3); have HNE : Hid ((Value.slice xa r.texts.length xc).ownBlock ≠ some (w.heap.size + 1 + 1)) := fun e => (by have := HNEW.out _ e; omega); have y0 : w5.cell? ⟨w.heap.size + 1, 0, none⟩ = some (.int .i64 0) := (by simp [World.cell?, u4]); have yf0 : w5.frozen? ⟨w.heap.size + 1, 0, none⟩ = false := (by simp [World.frozen?, u4]); have y1 : w5.cell? ⟨w.heap.size + 1, 1, none⟩ = some (.int .u64 0) := (by simp [World.cell?, u4]); have yf1 : w5.frozen? ⟨w.heap.size + 1, 1, none⟩ = false := (by simp [World.frozen?, u4]); have y2 : w5.cell? ⟨w.heap.size + 1, 2, none⟩ = some (.int .u64 0) := (by simp [World.cell?, u4]); have yf2 : w5.frozen? ⟨w.heap.size + 1, 2, none⟩ = false := (by simp [World.frozen?, u4]); have y3 : w5.cell? ⟨w.heap.size + 1, 3, none⟩ = some (.slice none 0 0) := (by simp [World.cell?, u4]); have yf3 : w5.frozen? ⟨w.heap.size + 1, 3, none⟩ = false := (by simp [World.frozen?, u4]); have y4 : w5.cell? ⟨w.heap.size + 1, 4, none⟩ = some (.bool false) := (by simp [World.cell?, u4]); have yf4 : w5.frozen? ⟨w.heap.size + 1, 4, none⟩ = false := (by simp [World.frozen?, u4]); have y5 : w5.cell? ⟨w.heap.size + 1, 5, none⟩ = some (.int .i64 0) := (by simp [World.cell?, u4]); have yf5 : w5.frozen? ⟨w.heap.size + 1, 5, none⟩ = false := (by simp [World.frozen?, u4]); have z0 : w5.cell? ⟨w.heap.size + 1 + 1, 0, none⟩ = some (.int .i64 0) := (by simp [World.cell?, u5]); have zf0 : w5.frozen? ⟨w.heap.size + 1 + 1, 0, none⟩ = false := (by simp [World.frozen?, u5]); have z1 : w5.cell? ⟨w.heap.size + 1 + 1, 1, none⟩ = some (.int .u64 0) := (by simp [World.cell?, u5]); have zf1 : w5.frozen? ⟨w.heap.size + 1 + 1, 1, none⟩ = false := (by simp [World.frozen?, u5]); have z2 : w5.cell? ⟨w.heap.size + 1 + 1, 2, none⟩ = some (.int .u64 0) := (by simp [World.cell?, u5]); have zf2 : w5.frozen? ⟨w.heap.size + 1 + 1, 2, none⟩ = false := (by simp [World.frozen?, u5]); have z3 : w5.cell? ⟨w.heap.size + 1 + 1, 3, none⟩ = some (.slice none 0 0) := (by simp [World.cell?, u5]); have zf3 : w5.frozen? ⟨w.heap.size + 1 + 1, 3, none⟩ = false := (by simp [World.frozen?, u5]); have z4 : w5.cell? ⟨w.heap.size + 1 + 1, 4, none⟩ = some (.bool false) := (by simp [World.cell?, u5]); have zf4 : w5.frozen? ⟨w.heap.size + 1 + 1, 4, none⟩ = false := (by simp [World.frozen?, u5]); have z5 : w5.cell? ⟨w.heap.size + 1 + 1, 5, none⟩ = some (.int .i64 0) := (by simp [World.cell?, u5]); have zf5 : w5.frozen? ⟨w.heap.size + 1 + 1, 5, none⟩ = false := (by simp [World.frozen?, u5]); clear hto hntv hn5 hg5 htv5 u4 u5 hb5))
  have HWA : Hid (StayA R R5' cs (ss.set (ofI x.node) r.s) w ((((w5.setCell ⟨w.heap.size + 1 + 1, 0, none⟩ (.int .i64 r.err)).setCell ⟨w.heap.size + 1 + 1, 1, none⟩ (.int .u64 (r.s.epoch : Int))).setCell ⟨w.heap.size + 1 + 1, 2, none⟩ (.int .u64 (r.s.log.length : Int))).setCell ⟨w.heap.size + 1 + 1, 3, none⟩ (.slice xa r.texts.length xc))) := (StayA.put (StayA.put (StayA.put (StayA.put (StayA.start HN5.out HU4.out HU5.out HG5.out IN4 IN5) 0 (.int .i64 r.err)) 1 (.int .u64 (r.s.epoch : Int))) 2 (.int .u64 (r.s.log.length : Int))) 3 (.slice xa r.texts.length xc))
  have HRW : Hid (StrRow ((((w5.setCell ⟨w.heap.size + 1 + 1, 0, none⟩ (.int .i64 r.err)).setCell ⟨w.heap.size + 1 + 1, 1, none⟩ (.int .u64 (r.s.epoch : Int))).setCell ⟨w.heap.size + 1 + 1, 2, none⟩ (.int .u64 (r.s.log.length : Int))).setCell ⟨w.heap.size + 1 + 1, 3, none⟩ (.slice xa r.texts.length xc)) (.slice xa r.texts.length xc) r.texts) := (StrRow.setc (StrRow.setc (StrRow.setc (StrRow.setc (HROW.out.below HB45.out (Nat.le_refl _)) (w.heap.size + 1 + 1) 0 _ HNE.out) (w.heap.size + 1 + 1) 1 _ HNE.out) (w.heap.size + 1 + 1) 2 _ HNE.out) (w.heap.size + 1 + 1) 3 _ HNE.out)
  go_wp2
  refine do_ret (ss.set (ofI x.node) r.s) ⟨r.err, r.s.epoch, r.s.log.length, r.texts, false, 0⟩ (.slice xa r.texts.length xc) HWA.out HRW.out (fun k e => ⟨HTV5.out k e (HNEW.out k e), by have := HNEW.out k e; omega⟩) ?_ ?_ ⟨_, _, _, rfl⟩ HDO.out
  · rfl
  · rfl
set_option maxRecDepth 100000 in
set_option maxHeartbeats 4000000 in
theorem do_close (w : World) (R : Nat → Prop) (g : Nat) (cs : List Nat) (ss : List NodeS) (hN : Nodes w R cs ss) (hP : PtrRow w g cs) (hlen : cs.length = 3) (hRg : R g) (hR0 : R 0) (m : Int) (hm : w.cell? ⟨0, 0, none⟩ = some (.int .i64 m)) (x : ActS) (hxe : x.epoch < 18446744073709551616) (hxt : x.text.size ≤ maxLen) (ha : x.act = 1) :
    Calls Tryz.prog 28 #[.slice (some ⟨g, 0, none⟩) 3 3, .agg (actL x).toArray] w (DoPost w R cs ss x) := by
  obtain ⟨c, hc⟩ : ∃ c, cs[ofI x.node]? = some c := ⟨cs[ofI x.node]'(by rw [hlen]; exact ofI_lt _), List.getElem?_eq_getElem _⟩
  obtain ⟨s, hs⟩ : ∃ s, ss[ofI x.node]? = some s := ⟨ss[ofI x.node]'(by rw [hN.len, hlen]; exact ofI_lt _), List.getElem?_eq_getElem _⟩
  have hnode : nodeOf ss x.node = s := by unfold nodeOf; rw [List.getD_eq_getElem?_getD, hs]; rfl
  have hgl := hP.lt
  have hw0 := World.block_lt_of_cell? w ⟨0, 0, none⟩ hm
  obtain ⟨w3, hw3⟩ : ∃ w3, w3 = ((w.alloc (.cells #[.int .i64 x.act, .int .i64 x.node, .int .i64 x.fro, .int .i64 x.conn, .int .i64 x.many, .int .u64 (x.epoch : Int), .bool x.reads, .string x.text] 54)).alloc (.cells #[.int .i64 0, .int .u64 0, .int .u64 0, .slice none 0 0, .bool false, .int .i64 0] 57)).alloc (.cells #[.int .i64 0, .int .u64 0, .int .u64 0, .slice none 0 0, .bool false, .int .i64 0] 57) := ⟨_, rfl⟩
  have hb3 : Below w.heap.size w w3 := by rw [hw3]; exact (((Below.refl _ _).alloc (Nat.le_refl _) _).alloc (by simp) _).alloc (by simp; omega) _
  have hz3 : w3.heap.size = w.heap.size + 3 := by rw [hw3]; simp
  have r4 : w3.heap[w.heap.size + 1]? = some (.cells #[.int .i64 0, .int .u64 0, .int .u64 0, .slice none 0 0, .bool false, .int .i64 0] 57 (0, 0)) := by
    rw [hw3]
    have := heap_old (o := .cells #[.int .i64 0, .int .u64 0, .int .u64 0, .slice none 0 0, .bool false, .int .i64 0] 57) (heap_alloc_new (w.alloc (.cells #[.int .i64 x.act, .int .i64 x.node, .int .i64 x.fro, .int .i64 x.conn, .int .i64 x.many, .int .u64 (x.epoch : Int), .bool x.reads, .string x.text] 54)) (.cells #[.int .i64 0, .int .u64 0, .int .u64 0, .slice none 0 0, .bool false, .int .i64 0] 57))
    simpa using this
  have r5 : w3.heap[w.heap.size + 1 + 1]? = some (.cells #[.int .i64 0, .int .u64 0, .int .u64 0, .slice none 0 0, .bool false, .int .i64 0] 57 (0, 0)) := by
    rw [hw3]
    have := heap_alloc_new ((w.alloc (.cells #[.int .i64 x.act, .int .i64 x.node, .int .i64 x.fro, .int .i64 x.conn, .int .i64 x.many, .int .u64 (x.epoch : Int), .bool x.reads, .string x.text] 54)).alloc (.cells #[.int .i64 0, .int .u64 0, .int .u64 0, .slice none 0 0, .bool false, .int .i64 0] 57)) (.cells #[.int .i64 0, .int .u64 0, .int .u64 0, .slice none 0 0, .bool false, .int .i64 0] 57)
    simpa using this
  have r3 : w3.heap[w.heap.size]? = some (.cells #[.int .i64 x.act, .int .i64 x.node, .int .i64 x.fro, .int .i64 x.conn, .int .i64 x.many, .int .u64 (x.epoch : Int), .bool x.reads, .string x.text] 54 (0, 0)) := by
    rw [hw3]
    exact heap_old (heap_old (heap_alloc_new _ _))
  obtain ⟨R3, hN3, hg3, hr3⟩ := hN.below hb3
  have hP3 := hP.below hb3
  have in4 : R3 (w.heap.size + 1) := hr3 _ (by omega) (by omega)
  have in5 : R3 (w.heap.size + 1 + 1) := hr3 _ (by omega) (by omega)
  have hR03 := hg3.2 0 hR0
  have hRg3 := hg3.2 g hRg
  obtain ⟨L, nL, fL, stepL, othL⟩ := hN3.get hc hs
  have GR3 := Lib.hid hg3
  have k0 := hP3.cell hc
  have hm3 := (hb3.cell (p := ⟨0, 0, none⟩) hw0).trans hm
  have q0 : w3.cell? ⟨w.heap.size, 0, none⟩ = some (.int .i64 x.act) := by simp [World.cell?, r3]
  have q1 : w3.cell? ⟨w.heap.size, 1, none⟩ = some (.int .i64 x.node) := by simp [World.cell?, r3]
  have q2 : w3.cell? ⟨w.heap.size, 2, none⟩ = some (.int .i64 x.fro) := by simp [World.cell?, r3]
  have q3 : w3.cell? ⟨w.heap.size, 3, none⟩ = some (.int .i64 x.conn) := by simp [World.cell?, r3]
  have q4 : w3.cell? ⟨w.heap.size, 4, none⟩ = some (.int .i64 x.many) := by simp [World.cell?, r3]
  have q5 : w3.cell? ⟨w.heap.size, 5, none⟩ = some (.int .u64 (x.epoch : Int)) := by simp [World.cell?, r3]
  have q6 : w3.cell? ⟨w.heap.size, 6, none⟩ = some (.bool x.reads) := by simp [World.cell?, r3]
  have q7 : w3.cell? ⟨w.heap.size, 7, none⟩ = some (.string x.text) := by simp [World.cell?, r3]
  have R4 := Lib.hid r4
  have R5 := Lib.hid r5
  have HP3 := Lib.hid hP3
  have NL := Lib.hid nL
  have STEP := Lib.hid stepL
  have hl3 := ofI_lt x.node
  have b0 : (x.act == 0) = false := by simp [ha]
  have b1 : (x.act == 1) = true := by simp [ha]
  obtain ⟨r, hr⟩ : ∃ r, r = s.close x.conn := ⟨_, rfl⟩
  have hdo : doL ss x = (ss.set (ofI x.node) r.1, ⟨0, 0, 0, [], r.2, 0⟩) := by unfold doL; rw [if_neg (by omega), if_pos ha, hnode, hr]
  have HCL := Lib.hid (close_calls w3 c L s nL x.conn)
  rw [← hr] at HCL
  obtain ⟨rs, rb⟩ := r
  clear hr ha
  have HDO := Lib.hid hdo
  clear hdo hN hP hN3 hP3 hm r3 r4 r5 hb3 stepL othL nL hlen hs hc hnode hg3 hr3
  unfold actL
  go_enter Tryz.func28, Tryz.ntmps28
  go_wp2_with fail
  rw [← hw3]
  clear hw3
  refine (of3_calls _ _).mono ?_
  rintro e w' ⟨rfl, rfl⟩
  go_wp2_with (first | (go_at_call 21; refine HCL.out.mono ?_; rintro e w5 ⟨rfl, hto⟩; have u4 := (hto).far NL.out R4.out (by decide); have u5 := (hto).far NL.out R5.out (by decide); obtain ⟨R5', hn5, hg5, htv5⟩ := STEP.out _ _ (.slice none 0 0) (hto).tvNil; have HN5 := Lib.hid hn5; have HG5 := Lib.hid (GR3.out.trans hg5); have IN4 := hg5.2 _ in4; have IN5 := hg5.2 _ in5; have HU4 := Lib.hid u4; have HU5 := Lib.hid u5; have HTV5 := Lib.hid htv5; have HPG := Lib.hid (HP3.out.grows hg5 hRg3); have HNE : Hid ((Value.slice none 0 0).ownBlock ≠ some (w.heap.size + 1 + 1)) := fun e => (by cases e); have y0 : w5.cell? ⟨w.heap.size + 1, 0, none⟩ = some (.int .i64 0) := (by simp [World.cell?, u4]); have yf0 : w5.frozen? ⟨w.heap.size + 1, 0, none⟩ = false := (by simp [World.frozen?, u4]); have y1 : w5.cell? ⟨w.heap.size + 1, 1, none⟩ = some (.int .u64 0) := (by simp [World.cell?, u4]); have yf1 : w5.frozen? ⟨w.heap.size + 1, 1, none⟩ = false := (by simp [World.frozen?, u4]); have y2 : w5.cell? ⟨w.heap.size + 1, 2, none⟩ = some (.int .u64 0) := (by simp [World.cell?, u4]); have yf2 : w5.frozen? ⟨w.heap.size + 1, 2, none⟩ = false := (by simp [World.frozen?, u4]); have y3 : w5.cell? ⟨w.heap.size + 1, 3, none⟩ = some (.slice none 0 0) := (by simp [World.cell?, u4]); have yf3 : w5.frozen? ⟨w.heap.size + 1, 3, none⟩ = false := (by simp [World.frozen?, u4]); have y4 : w5.cell? ⟨w.heap.size + 1, 4, none⟩ = some (.bool false) := (by simp [World.cell?, u4]); have yf4 : w5.frozen? ⟨w.heap.size + 1, 4, none⟩ = false := (by simp [World.frozen?, u4]); have y5 : w5.cell? ⟨w.heap.size + 1, 5, none⟩ = some (.int .i64 0) := (by simp [World.cell?, u4]); have yf5 : w5.frozen? ⟨w.heap.size + 1, 5, none⟩ = false := (by simp [World.frozen?, u4]); have z0 : w5.cell? ⟨w.heap.size + 1 + 1, 0, none⟩ = some (.int .i64 0) := (by simp [World.cell?, u5]); have zf0 : w5.frozen? ⟨w.heap.size + 1 + 1, 0, none⟩ = false := (by simp [World.frozen?, u5]); have z1 : w5.cell? ⟨w.heap.size + 1 + 1, 1, none⟩ = some (.int .u64 0) := (by simp [World.cell?, u5]); have zf1 : w5.frozen? ⟨w.heap.size + 1 + 1, 1, none⟩ = false := (by simp [World.frozen?, u5]); have z2 : w5.cell? ⟨w.heap.size + 1 + 1, 2, none⟩ = some (.int .u64 0) := (by simp [World.cell?, u5]); have zf2 : w5.frozen? ⟨w.heap.size + 1 + 1, 2, none⟩ = false := (by simp [World.frozen?, u5]); have z3 : w5.cell? ⟨w.heap.size + 1 + 1, 3, none⟩ = some (.slice none 0 0) := (by simp [World.cell?, u5]); have zf3 : w5.frozen? ⟨w.heap.size + 1 + 1, 3, none⟩ = false := (by simp [World.frozen?, u5]); have z4 : w5.cell? ⟨w.heap.size + 1 + 1, 4, none⟩ = some (.bool false) := (by simp [World.cell?, u5]); have zf4 : w5.frozen? ⟨w.heap.size + 1 + 1, 4, none⟩ = false := (by simp [World.frozen?, u5]); have z5 : w5.cell? ⟨w.heap.size + 1 + 1, 5, none⟩ = some (.int .i64 0) := (by simp [World.cell?, u5]); have zf5 : w5.frozen? ⟨w.heap.size + 1 + 1, 5, none⟩ = false := (by simp [World.frozen?, u5]); clear hto hn5 hg5 htv5 u4 u5))
  have HWA : Hid (StayA R R5' cs (ss.set (ofI x.node) rs) w (w5.setCell ⟨w.heap.size + 1 + 1, 4, none⟩ (.bool rb))) := (StayA.put (StayA.start HN5.out HU4.out HU5.out HG5.out IN4 IN5) 4 (.bool rb))
  have HRW : Hid (StrRow (w5.setCell ⟨w.heap.size + 1 + 1, 4, none⟩ (.bool rb)) (.slice none 0 0) []) := (StrRow.setc (show StrRow w5 (.slice none 0 0) [] from ⟨none, 0, rfl, by simp, by decide, fun h => absurd h (by simp)⟩) (w.heap.size + 1 + 1) 4 _ HNE.out)
  go_wp2
  refine do_ret (ss.set (ofI x.node) rs) ⟨0, 0, 0, [], rb, 0⟩ (.slice none 0 0) HWA.out HRW.out (fun k e => by cases e) ?_ ?_ ⟨_, _, _, rfl⟩ HDO.out
  · rfl
  · rfl
set_option maxRecDepth 100000 in
set_option maxHeartbeats 4000000 in
theorem do_lead (w : World) (R : Nat → Prop) (g : Nat) (cs : List Nat) (ss : List NodeS) (hN : Nodes w R cs ss) (hP : PtrRow w g cs) (hlen : cs.length = 3) (hRg : R g) (hR0 : R 0) (m : Int) (hm : w.cell? ⟨0, 0, none⟩ = some (.int .i64 m)) (x : ActS) (hxe : x.epoch < 18446744073709551616) (hxt : x.text.size ≤ maxLen) (ha : x.act = 2) :
    Calls Tryz.prog 28 #[.slice (some ⟨g, 0, none⟩) 3 3, .agg (actL x).toArray] w (DoPost w R cs ss x) := by
  obtain ⟨c, hc⟩ : ∃ c, cs[ofI x.node]? = some c := ⟨cs[ofI x.node]'(by rw [hlen]; exact ofI_lt _), List.getElem?_eq_getElem _⟩
  obtain ⟨s, hs⟩ : ∃ s, ss[ofI x.node]? = some s := ⟨ss[ofI x.node]'(by rw [hN.len, hlen]; exact ofI_lt _), List.getElem?_eq_getElem _⟩
  have hnode : nodeOf ss x.node = s := by unfold nodeOf; rw [List.getD_eq_getElem?_getD, hs]; rfl
  have hgl := hP.lt
  have hw0 := World.block_lt_of_cell? w ⟨0, 0, none⟩ hm
  obtain ⟨w3, hw3⟩ : ∃ w3, w3 = ((w.alloc (.cells #[.int .i64 x.act, .int .i64 x.node, .int .i64 x.fro, .int .i64 x.conn, .int .i64 x.many, .int .u64 (x.epoch : Int), .bool x.reads, .string x.text] 54)).alloc (.cells #[.int .i64 0, .int .u64 0, .int .u64 0, .slice none 0 0, .bool false, .int .i64 0] 57)).alloc (.cells #[.int .i64 0, .int .u64 0, .int .u64 0, .slice none 0 0, .bool false, .int .i64 0] 57) := ⟨_, rfl⟩
  have hb3 : Below w.heap.size w w3 := by rw [hw3]; exact (((Below.refl _ _).alloc (Nat.le_refl _) _).alloc (by simp) _).alloc (by simp; omega) _
  have hz3 : w3.heap.size = w.heap.size + 3 := by rw [hw3]; simp
  have r4 : w3.heap[w.heap.size + 1]? = some (.cells #[.int .i64 0, .int .u64 0, .int .u64 0, .slice none 0 0, .bool false, .int .i64 0] 57 (0, 0)) := by
    rw [hw3]
    have := heap_old (o := .cells #[.int .i64 0, .int .u64 0, .int .u64 0, .slice none 0 0, .bool false, .int .i64 0] 57) (heap_alloc_new (w.alloc (.cells #[.int .i64 x.act, .int .i64 x.node, .int .i64 x.fro, .int .i64 x.conn, .int .i64 x.many, .int .u64 (x.epoch : Int), .bool x.reads, .string x.text] 54)) (.cells #[.int .i64 0, .int .u64 0, .int .u64 0, .slice none 0 0, .bool false, .int .i64 0] 57))
    simpa using this
  have r5 : w3.heap[w.heap.size + 1 + 1]? = some (.cells #[.int .i64 0, .int .u64 0, .int .u64 0, .slice none 0 0, .bool false, .int .i64 0] 57 (0, 0)) := by
    rw [hw3]
    have := heap_alloc_new ((w.alloc (.cells #[.int .i64 x.act, .int .i64 x.node, .int .i64 x.fro, .int .i64 x.conn, .int .i64 x.many, .int .u64 (x.epoch : Int), .bool x.reads, .string x.text] 54)).alloc (.cells #[.int .i64 0, .int .u64 0, .int .u64 0, .slice none 0 0, .bool false, .int .i64 0] 57)) (.cells #[.int .i64 0, .int .u64 0, .int .u64 0, .slice none 0 0, .bool false, .int .i64 0] 57)
    simpa using this
  have r3 : w3.heap[w.heap.size]? = some (.cells #[.int .i64 x.act, .int .i64 x.node, .int .i64 x.fro, .int .i64 x.conn, .int .i64 x.many, .int .u64 (x.epoch : Int), .bool x.reads, .string x.text] 54 (0, 0)) := by
    rw [hw3]
    exact heap_old (heap_old (heap_alloc_new _ _))
  obtain ⟨R3, hN3, hg3, hr3⟩ := hN.below hb3
  have hP3 := hP.below hb3
  have in4 : R3 (w.heap.size + 1) := hr3 _ (by omega) (by omega)
  have in5 : R3 (w.heap.size + 1 + 1) := hr3 _ (by omega) (by omega)
  have hR03 := hg3.2 0 hR0
  have hRg3 := hg3.2 g hRg
  obtain ⟨L, nL, fL, stepL, othL⟩ := hN3.get hc hs
  have GR3 := Lib.hid hg3
  have k0 := hP3.cell hc
  have hm3 := (hb3.cell (p := ⟨0, 0, none⟩) hw0).trans hm
  have q0 : w3.cell? ⟨w.heap.size, 0, none⟩ = some (.int .i64 x.act) := by simp [World.cell?, r3]
  have q1 : w3.cell? ⟨w.heap.size, 1, none⟩ = some (.int .i64 x.node) := by simp [World.cell?, r3]
  have q2 : w3.cell? ⟨w.heap.size, 2, none⟩ = some (.int .i64 x.fro) := by simp [World.cell?, r3]
  have q3 : w3.cell? ⟨w.heap.size, 3, none⟩ = some (.int .i64 x.conn) := by simp [World.cell?, r3]
  have q4 : w3.cell? ⟨w.heap.size, 4, none⟩ = some (.int .i64 x.many) := by simp [World.cell?, r3]
  have q5 : w3.cell? ⟨w.heap.size, 5, none⟩ = some (.int .u64 (x.epoch : Int)) := by simp [World.cell?, r3]
  have q6 : w3.cell? ⟨w.heap.size, 6, none⟩ = some (.bool x.reads) := by simp [World.cell?, r3]
  have q7 : w3.cell? ⟨w.heap.size, 7, none⟩ = some (.string x.text) := by simp [World.cell?, r3]
  have R4 := Lib.hid r4
  have R5 := Lib.hid r5
  have HP3 := Lib.hid hP3
  have NL := Lib.hid nL
  have STEP := Lib.hid stepL
  have hl3 := ofI_lt x.node
  have b0 : (x.act == 0) = false := by simp [ha]
  have b1 : (x.act == 1) = false := by simp [ha]
  have b2 : (x.act == 2) = true := by simp [ha]
  obtain ⟨r, hr⟩ : ∃ r, r = s.lead x.epoch := ⟨_, rfl⟩
  have hdo : doL ss x = (ss.set (ofI x.node) r.1, ⟨0, 0, 0, [], r.2, 0⟩) := by unfold doL; rw [if_neg (by omega), if_neg (by omega), if_pos ha, hnode, hr]
  have HCL := Lib.hid (lead_calls w3 c L s nL x.epoch hxe)
  rw [← hr] at HCL
  obtain ⟨rs, rb⟩ := r
  clear hr ha
  have HDO := Lib.hid hdo
  clear hdo hN hP hN3 hP3 hm r3 r4 r5 hb3 stepL othL nL hlen hs hc hnode hg3 hr3
  unfold actL
  go_enter Tryz.func28, Tryz.ntmps28
  go_wp2_with fail
  rw [← hw3]
  clear hw3
  refine (of3_calls _ _).mono ?_
  rintro e w' ⟨rfl, rfl⟩
  go_wp2_with (first | (go_at_call 15; refine HCL.out.mono ?_; rintro e w5 ⟨rfl, hto⟩; have u4 := (hto).far NL.out R4.out (by decide); have u5 := (hto).far NL.out R5.out (by decide); obtain ⟨R5', hn5, hg5, htv5⟩ := STEP.out _ _ (.slice none 0 0) (hto).tvNil; have HN5 := Lib.hid hn5; have HG5 := Lib.hid (GR3.out.trans hg5); have IN4 := hg5.2 _ in4; have IN5 := hg5.2 _ in5; have HU4 := Lib.hid u4; have HU5 := Lib.hid u5; have HTV5 := Lib.hid htv5; have HPG := Lib.hid (HP3.out.grows hg5 hRg3); have HNE : Hid ((Value.slice none 0 0).ownBlock ≠ some (w.heap.size + 1 + 1)) := fun e => (by cases e); have y0 : w5.cell? ⟨w.heap.size + 1, 0, none⟩ = some (.int .i64 0) := (by simp [World.cell?, u4]); have yf0 : w5.frozen? ⟨w.heap.size + 1, 0, none⟩ = false := (by simp [World.frozen?, u4]); have y1 : w5.cell? ⟨w.heap.size + 1, 1, none⟩ = some (.int .u64 0) := (by simp [World.cell?, u4]); have yf1 : w5.frozen? ⟨w.heap.size + 1, 1, none⟩ = false := (by simp [World.frozen?, u4]); have y2 : w5.cell? ⟨w.heap.size + 1, 2, none⟩ = some (.int .u64 0) := (by simp [World.cell?, u4]); have yf2 : w5.frozen? ⟨w.heap.size + 1, 2, none⟩ = false := (by simp [World.frozen?, u4]); have y3 : w5.cell? ⟨w.heap.size + 1, 3, none⟩ = some (.slice none 0 0) := (by simp [World.cell?, u4]); have yf3 : w5.frozen? ⟨w.heap.size + 1, 3, none⟩ = false := (by simp [World.frozen?, u4]); have y4 : w5.cell? ⟨w.heap.size + 1, 4, none⟩ = some (.bool false) := (by simp [World.cell?, u4]); have yf4 : w5.frozen? ⟨w.heap.size + 1, 4, none⟩ = false := (by simp [World.frozen?, u4]); have y5 : w5.cell? ⟨w.heap.size + 1, 5, none⟩ = some (.int .i64 0) := (by simp [World.cell?, u4]); have yf5 : w5.frozen? ⟨w.heap.size + 1, 5, none⟩ = false := (by simp [World.frozen?, u4]); have z0 : w5.cell? ⟨w.heap.size + 1 + 1, 0, none⟩ = some (.int .i64 0) := (by simp [World.cell?, u5]); have zf0 : w5.frozen? ⟨w.heap.size + 1 + 1, 0, none⟩ = false := (by simp [World.frozen?, u5]); have z1 : w5.cell? ⟨w.heap.size + 1 + 1, 1, none⟩ = some (.int .u64 0) := (by simp [World.cell?, u5]); have zf1 : w5.frozen? ⟨w.heap.size + 1 + 1, 1, none⟩ = false := (by simp [World.frozen?, u5]); have z2 : w5.cell? ⟨w.heap.size + 1 + 1, 2, none⟩ = some (.int .u64 0) := (by simp [World.cell?, u5]); have zf2 : w5.frozen? ⟨w.heap.size + 1 + 1, 2, none⟩ = false := (by simp [World.frozen?, u5]); have z3 : w5.cell? ⟨w.heap.size + 1 + 1, 3, none⟩ = some (.slice none 0 0) := (by simp [World.cell?, u5]); have zf3 : w5.frozen? ⟨w.heap.size + 1 + 1, 3, none⟩ = false := (by simp [World.frozen?, u5]); have z4 : w5.cell? ⟨w.heap.size + 1 + 1, 4, none⟩ = some (.bool false) := (by simp [World.cell?, u5]); have zf4 : w5.frozen? ⟨w.heap.size + 1 + 1, 4, none⟩ = false := (by simp [World.frozen?, u5]); have z5 : w5.cell? ⟨w.heap.size + 1 + 1, 5, none⟩ = some (.int .i64 0) := (by simp [World.cell?, u5]); have zf5 : w5.frozen? ⟨w.heap.size + 1 + 1, 5, none⟩ = false := (by simp [World.frozen?, u5]); clear hto hn5 hg5 htv5 u4 u5))
  have HWA : Hid (StayA R R5' cs (ss.set (ofI x.node) rs) w (w5.setCell ⟨w.heap.size + 1 + 1, 4, none⟩ (.bool rb))) := (StayA.put (StayA.start HN5.out HU4.out HU5.out HG5.out IN4 IN5) 4 (.bool rb))
  have HRW : Hid (StrRow (w5.setCell ⟨w.heap.size + 1 + 1, 4, none⟩ (.bool rb)) (.slice none 0 0) []) := (StrRow.setc (show StrRow w5 (.slice none 0 0) [] from ⟨none, 0, rfl, by simp, by decide, fun h => absurd h (by simp)⟩) (w.heap.size + 1 + 1) 4 _ HNE.out)
  go_wp2
  refine do_ret (ss.set (ofI x.node) rs) ⟨0, 0, 0, [], rb, 0⟩ (.slice none 0 0) HWA.out HRW.out (fun k e => by cases e) ?_ ?_ ⟨_, _, _, rfl⟩ HDO.out
  · rfl
  · rfl
set_option maxRecDepth 100000 in
set_option maxHeartbeats 4000000 in
theorem do_copy (w : World) (R : Nat → Prop) (g : Nat) (cs : List Nat) (ss : List NodeS) (hN : Nodes w R cs ss) (hP : PtrRow w g cs) (hlen : cs.length = 3) (hRg : R g) (hR0 : R 0) (m : Int) (hm : w.cell? ⟨0, 0, none⟩ = some (.int .i64 m)) (x : ActS) (hxe : x.epoch < 18446744073709551616) (hxt : x.text.size ≤ maxLen) (h0 : x.act ≠ 0) (h1 : x.act ≠ 1) (h2 : x.act ≠ 2) :
    Calls Tryz.prog 28 #[.slice (some ⟨g, 0, none⟩) 3 3, .agg (actL x).toArray] w (DoPost w R cs ss x) := by
  obtain ⟨c, hc⟩ : ∃ c, cs[ofI x.node]? = some c := ⟨cs[ofI x.node]'(by rw [hlen]; exact ofI_lt _), List.getElem?_eq_getElem _⟩
  obtain ⟨s, hs⟩ : ∃ s, ss[ofI x.node]? = some s := ⟨ss[ofI x.node]'(by rw [hN.len, hlen]; exact ofI_lt _), List.getElem?_eq_getElem _⟩
  have hnode : nodeOf ss x.node = s := by unfold nodeOf; rw [List.getD_eq_getElem?_getD, hs]; rfl
  have hgl := hP.lt
  have hw0 := World.block_lt_of_cell? w ⟨0, 0, none⟩ hm
  obtain ⟨w3, hw3⟩ : ∃ w3, w3 = ((w.alloc (.cells #[.int .i64 x.act, .int .i64 x.node, .int .i64 x.fro, .int .i64 x.conn, .int .i64 x.many, .int .u64 (x.epoch : Int), .bool x.reads, .string x.text] 54)).alloc (.cells #[.int .i64 0, .int .u64 0, .int .u64 0, .slice none 0 0, .bool false, .int .i64 0] 57)).alloc (.cells #[.int .i64 0, .int .u64 0, .int .u64 0, .slice none 0 0, .bool false, .int .i64 0] 57) := ⟨_, rfl⟩
  have hb3 : Below w.heap.size w w3 := by rw [hw3]; exact (((Below.refl _ _).alloc (Nat.le_refl _) _).alloc (by simp) _).alloc (by simp; omega) _
  have hz3 : w3.heap.size = w.heap.size + 3 := by rw [hw3]; simp
  have r4 : w3.heap[w.heap.size + 1]? = some (.cells #[.int .i64 0, .int .u64 0, .int .u64 0, .slice none 0 0, .bool false, .int .i64 0] 57 (0, 0)) := by
    rw [hw3]
    have := heap_old (o := .cells #[.int .i64 0, .int .u64 0, .int .u64 0, .slice none 0 0, .bool false, .int .i64 0] 57) (heap_alloc_new (w.alloc (.cells #[.int .i64 x.act, .int .i64 x.node, .int .i64 x.fro, .int .i64 x.conn, .int .i64 x.many, .int .u64 (x.epoch : Int), .bool x.reads, .string x.text] 54)) (.cells #[.int .i64 0, .int .u64 0, .int .u64 0, .slice none 0 0, .bool false, .int .i64 0] 57))
    simpa using this
  have r5 : w3.heap[w.heap.size + 1 + 1]? = some (.cells #[.int .i64 0, .int .u64 0, .int .u64 0, .slice none 0 0, .bool false, .int .i64 0] 57 (0, 0)) := by
    rw [hw3]
    have := heap_alloc_new ((w.alloc (.cells #[.int .i64 x.act, .int .i64 x.node, .int .i64 x.fro, .int .i64 x.conn, .int .i64 x.many, .int .u64 (x.epoch : Int), .bool x.reads, .string x.text] 54)).alloc (.cells #[.int .i64 0, .int .u64 0, .int .u64 0, .slice none 0 0, .bool false, .int .i64 0] 57)) (.cells #[.int .i64 0, .int .u64 0, .int .u64 0, .slice none 0 0, .bool false, .int .i64 0] 57)
    simpa using this
  have r3 : w3.heap[w.heap.size]? = some (.cells #[.int .i64 x.act, .int .i64 x.node, .int .i64 x.fro, .int .i64 x.conn, .int .i64 x.many, .int .u64 (x.epoch : Int), .bool x.reads, .string x.text] 54 (0, 0)) := by
    rw [hw3]
    exact heap_old (heap_old (heap_alloc_new _ _))
  obtain ⟨R3, hN3, hg3, hr3⟩ := hN.below hb3
  have hP3 := hP.below hb3
  have in4 : R3 (w.heap.size + 1) := hr3 _ (by omega) (by omega)
  have in5 : R3 (w.heap.size + 1 + 1) := hr3 _ (by omega) (by omega)
  have hR03 := hg3.2 0 hR0
  have hRg3 := hg3.2 g hRg
  obtain ⟨L, nL, fL, stepL, othL⟩ := hN3.get hc hs
  have GR3 := Lib.hid hg3
  have k0 := hP3.cell hc
  have hm3 := (hb3.cell (p := ⟨0, 0, none⟩) hw0).trans hm
  have q0 : w3.cell? ⟨w.heap.size, 0, none⟩ = some (.int .i64 x.act) := by simp [World.cell?, r3]
  have q1 : w3.cell? ⟨w.heap.size, 1, none⟩ = some (.int .i64 x.node) := by simp [World.cell?, r3]
  have q2 : w3.cell? ⟨w.heap.size, 2, none⟩ = some (.int .i64 x.fro) := by simp [World.cell?, r3]
  have q3 : w3.cell? ⟨w.heap.size, 3, none⟩ = some (.int .i64 x.conn) := by simp [World.cell?, r3]
  have q4 : w3.cell? ⟨w.heap.size, 4, none⟩ = some (.int .i64 x.many) := by simp [World.cell?, r3]
  have q5 : w3.cell? ⟨w.heap.size, 5, none⟩ = some (.int .u64 (x.epoch : Int)) := by simp [World.cell?, r3]
  have q6 : w3.cell? ⟨w.heap.size, 6, none⟩ = some (.bool x.reads) := by simp [World.cell?, r3]
  have q7 : w3.cell? ⟨w.heap.size, 7, none⟩ = some (.string x.text) := by simp [World.cell?, r3]
  have R4 := Lib.hid r4
  have R5 := Lib.hid r5
  have HP3 := Lib.hid hP3
  have NL := Lib.hid nL
  have STEP := Lib.hid stepL
  have hl3 := ofI_lt x.node
  have b0 : (x.act == 0) = false := by simpa using h0
  have b1 : (x.act == 1) = false := by simpa using h1
  have b2 : (x.act == 2) = false := by simpa using h2
  obtain ⟨d, hd⟩ : ∃ d, cs[ofI x.fro]? = some d := ⟨cs[ofI x.fro]'(by rw [hlen]; exact ofI_lt _), List.getElem?_eq_getElem _⟩
  obtain ⟨t, ht⟩ : ∃ t, ss[ofI x.fro]? = some t := ⟨ss[ofI x.fro]'(by rw [hN.len, hlen]; exact ofI_lt _), List.getElem?_eq_getElem _⟩
  have hfro : nodeOf ss x.fro = t := by unfold nodeOf; rw [List.getD_eq_getElem?_getD, ht]; rfl
  obtain ⟨M, nM, hsepM⟩ := othL _ d t hd ht
  have k1 := hP3.cell hd
  have hl4 := ofI_lt x.fro
  have hl5 : (ofI x.fro : Int) < 3 := by omega
  obtain ⟨r, hr⟩ : ∃ r, r = s.copy t x.many := ⟨_, rfl⟩
  have hdo : doL ss x = (ss.set (ofI x.node) r.1, ⟨0, 0, 0, [], false, r.2⟩) := by unfold doL; rw [if_neg h0, if_neg h1, if_neg h2, hnode, hfro, hr]
  have HCL := Lib.hid (copy_calls w3.drew c L s nL.drew d M t nM.drew (fun hlt => hsepM fun e => by rw [e, hs] at ht; cases ht; omega) x.many)
  rw [← hr] at HCL
  obtain ⟨rs, rn⟩ := r
  have R3 := Lib.hid r3
  have mixed : Tryz.prog.follows Departure.mixedOrders = true := by kernel_rfl
  have PG := hP3.lt
  have HDC := Lib.hid hd
  clear hr h0 h1 h2 hd ht hfro nM hsepM
  have HDO := Lib.hid hdo
  clear hdo hN hP hN3 hP3 hm r3 r4 r5 hb3 stepL othL nL hlen hs hc hnode hg3 hr3
  unfold actL
  go_enter Tryz.func28, Tryz.ntmps28
  go_wp2_with fail
  rw [← hw3]
  clear hw3
  refine (of3_calls _ _).mono ?_
  rintro e w' ⟨rfl, rfl⟩
  go_wp2
  go_region_held3 (fun w'' => w''.cell? ⟨w.heap.size, 2, none⟩ = some (.int .i64 x.fro) ∧ w''.cell? ⟨w.heap.size, 4, none⟩ = some (.int .i64 x.many) ∧ w''.cell? ⟨g, ofI x.fro, none⟩ = some (.pointer (some ⟨d, 0, none⟩)))
    (first | exact ⟨p2, p4, pk⟩ | exact ⟨p2', p4', pk'⟩ | exact ⟨q2, q4, k1⟩ | go_keep)
    ((first
      | (go_at_call 20; refine (of3_calls _ _).mono ?_; rintro e w' ⟨rfl, rfl⟩)
      | (go_at_call 36; refine HCL.out.mono ?_; rintro e w5 ⟨rfl, hto'⟩; have hto := hto'.from_below (Below.refl w3.heap.size w3).drew; have u4 := (hto).far NL.out R4.out (by decide); have u5 := (hto).far NL.out R5.out (by decide); obtain ⟨R5', hn5, hg5, htv5⟩ := STEP.out _ _ (.slice none 0 0) (hto).tvNil; have HN5 := Lib.hid hn5; have HG5 := Lib.hid (GR3.out.trans hg5); have IN4 := hg5.2 _ in4; have IN5 := hg5.2 _ in5; have HU4 := Lib.hid u4; have HU5 := Lib.hid u5; have HTV5 := Lib.hid htv5; have HPG := Lib.hid (HP3.out.grows hg5 hRg3); have u3 := hto.far NL.out R3.out (by decide); have p2 : w5.cell? ⟨w.heap.size, 2, none⟩ = some (.int .i64 x.fro) := (by simp [World.cell?, u3]); have p4 : w5.cell? ⟨w.heap.size, 4, none⟩ = some (.int .i64 x.many) := (by simp [World.cell?, u3]); have pk := HPG.out.cell HDC.out; have p2' : (w5.setCell ⟨w.heap.size + 1 + 1, 5, none⟩ (.int .i64 (rn : Int))).cell? ⟨w.heap.size, 2, none⟩ = some (.int .i64 x.fro) := ((World.cell?_setCell_other _ _ _ _ (by simp)).trans p2); have p4' : (w5.setCell ⟨w.heap.size + 1 + 1, 5, none⟩ (.int .i64 (rn : Int))).cell? ⟨w.heap.size, 4, none⟩ = some (.int .i64 x.many) := ((World.cell?_setCell_other _ _ _ _ (by simp)).trans p4); have pk' : (w5.setCell ⟨w.heap.size + 1 + 1, 5, none⟩ (.int .i64 (rn : Int))).cell? ⟨g, ofI x.fro, none⟩ = some (.pointer (some ⟨d, 0, none⟩)) := ((World.cell?_setCell_other _ _ _ _ (by first | (simp; done) | (simp; omega))).trans pk); have HNE : Hid ((Value.slice none 0 0).ownBlock ≠ some (w.heap.size + 1 + 1)) := fun e => (by cases e); have y0 : w5.cell? ⟨w.heap.size + 1, 0, none⟩ = some (.int .i64 0) := (by simp [World.cell?, u4]); have yf0 : w5.frozen? ⟨w.heap.size + 1, 0, none⟩ = false := (by simp [World.frozen?, u4]); have y1 : w5.cell? ⟨w.heap.size + 1, 1, none⟩ = some (.int .u64 0) := (by simp [World.cell?, u4]); have yf1 : w5.frozen? ⟨w.heap.size + 1, 1, none⟩ = false := (by simp [World.frozen?, u4]); have y2 : w5.cell? ⟨w.heap.size + 1, 2, none⟩ = some (.int .u64 0) := (by simp [World.cell?, u4]); have yf2 : w5.frozen? ⟨w.heap.size + 1, 2, none⟩ = false := (by simp [World.frozen?, u4]); have y3 : w5.cell? ⟨w.heap.size + 1, 3, none⟩ = some (.slice none 0 0) := (by simp [World.cell?, u4]); have yf3 : w5.frozen? ⟨w.heap.size + 1, 3, none⟩ = false := (by simp [World.frozen?, u4]); have y4 : w5.cell? ⟨w.heap.size + 1, 4, none⟩ = some (.bool false) := (by simp [World.cell?, u4]); have yf4 : w5.frozen? ⟨w.heap.size + 1, 4, none⟩ = false := (by simp [World.frozen?, u4]); have y5 : w5.cell? ⟨w.heap.size + 1, 5, none⟩ = some (.int .i64 0) := (by simp [World.cell?, u4]); have yf5 : w5.frozen? ⟨w.heap.size + 1, 5, none⟩ = false := (by simp [World.frozen?, u4]); have z0 : w5.cell? ⟨w.heap.size + 1 + 1, 0, none⟩ = some (.int .i64 0) := (by simp [World.cell?, u5]); have zf0 : w5.frozen? ⟨w.heap.size + 1 + 1, 0, none⟩ = false := (by simp [World.frozen?, u5]); have z1 : w5.cell? ⟨w.heap.size + 1 + 1, 1, none⟩ = some (.int .u64 0) := (by simp [World.cell?, u5]); have zf1 : w5.frozen? ⟨w.heap.size + 1 + 1, 1, none⟩ = false := (by simp [World.frozen?, u5]); have z2 : w5.cell? ⟨w.heap.size + 1 + 1, 2, none⟩ = some (.int .u64 0) := (by simp [World.cell?, u5]); have zf2 : w5.frozen? ⟨w.heap.size + 1 + 1, 2, none⟩ = false := (by simp [World.frozen?, u5]); have z3 : w5.cell? ⟨w.heap.size + 1 + 1, 3, none⟩ = some (.slice none 0 0) := (by simp [World.cell?, u5]); have zf3 : w5.frozen? ⟨w.heap.size + 1 + 1, 3, none⟩ = false := (by simp [World.frozen?, u5]); have z4 : w5.cell? ⟨w.heap.size + 1 + 1, 4, none⟩ = some (.bool false) := (by simp [World.cell?, u5]); have zf4 : w5.frozen? ⟨w.heap.size + 1 + 1, 4, none⟩ = false := (by simp [World.frozen?, u5]); have z5 : w5.cell? ⟨w.heap.size + 1 + 1, 5, none⟩ = some (.int .i64 0) := (by simp [World.cell?, u5]); have zf5 : w5.frozen? ⟨w.heap.size + 1 + 1, 5, none⟩ = false := (by simp [World.frozen?, u5]); clear hto hto' hn5 hg5 htv5 u3 u4 u5)))
  all_goals
    have HWA : Hid (StayA R R5' cs (ss.set (ofI x.node) rs) w (w5.setCell ⟨w.heap.size + 1 + 1, 5, none⟩ (.int .i64 (rn : Int)))) := (StayA.put (StayA.start HN5.out HU4.out HU5.out HG5.out IN4 IN5) 5 (.int .i64 (rn : Int)))
    have HRW : Hid (StrRow (w5.setCell ⟨w.heap.size + 1 + 1, 5, none⟩ (.int .i64 (rn : Int))) (.slice none 0 0) []) := (StrRow.setc (show StrRow w5 (.slice none 0 0) [] from ⟨none, 0, rfl, by simp, by decide, fun h => absurd h (by simp)⟩) (w.heap.size + 1 + 1) 5 _ HNE.out)
    go_wp2
    refine do_ret (ss.set (ofI x.node) rs) ⟨0, 0, 0, [], false, rn⟩ (.slice none 0 0) HWA.out HRW.out (fun k e => by cases e) ?_ ?_ ⟨_, _, _, rfl⟩ HDO.out
    · rfl
    · rfl


theorem do_calls (w : World) (R : Nat → Prop) (g : Nat) (cs : List Nat) (ss : List NodeS) (hN : Nodes w R cs ss) (hP : PtrRow w g cs) (hlen : cs.length = 3) (hRg : R g) (hR0 : R 0) (m : Int) (hm : w.cell? ⟨0, 0, none⟩ = some (.int .i64 m)) (x : ActS) (hxe : x.epoch < 18446744073709551616) (hxt : x.text.size ≤ maxLen) :
    Calls Tryz.prog 28 #[.slice (some ⟨g, 0, none⟩) 3 3, .agg (actL x).toArray] w (DoPost w R cs ss x) := by
  by_cases h0 : x.act = 0
  · exact do_run w R g cs ss hN hP hlen hRg hR0 m hm x hxe hxt h0
  by_cases h1 : x.act = 1
  · exact do_close w R g cs ss hN hP hlen hRg hR0 m hm x hxe hxt h1
  by_cases h2 : x.act = 2
  · exact do_lead w R g cs ss hN hP hlen hRg hR0 m hm x hxe hxt h2
  exact do_copy w R g cs ss hN hP hlen hRg hR0 m hm x hxe hxt h0 h1 h2
end Go.Proofs.YtpaioaljopjpkaaGreatDoor
