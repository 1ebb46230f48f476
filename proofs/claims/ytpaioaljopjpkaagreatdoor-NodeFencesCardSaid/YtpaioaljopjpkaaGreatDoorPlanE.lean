/- plan.Writes: the table behind a plan. Conditions: a sorted table in an own row, fewer than 5000 pairs. -/
import Derived.Test.YtpaioaljopjpkaaGreatDoorPlanD
set_option linter.unusedVariables false
set_option linter.unusedSimpArgs false
namespace Go.Proofs.YtpaioaljopjpkaaGreatDoor
open Go.RowKit

structure Pn where
  op : Nat
  key : Sg.B
  val : Sg.B
def pnV (p : Pn) : Value := .agg #[.int .i64 p.op, .string (ba p.key), .string (ba p.val)]

def writesL (p : Pn) (l : List Pr) : List Pr × Nat :=
  if p.op = 3 ∧ isAt l p.key = false then (l.take (placeL l p.key) ++ [(p.key, p.val)] ++ l.drop (placeL l p.key), 1)
  else if p.op = 3 ∨ (p.op = 4 ∧ isAt l p.key = true) then (l.set (placeL l p.key) (p.key, p.val), 1)
  else if p.op = 5 ∧ isAt l p.key = true then (l.take (placeL l p.key) ++ l.drop (placeL l p.key + 1), 1)
  else (l, 0)

theorem prCells_append (a b : List Pr) : prCells (a ++ b) = prCells a ++ prCells b := by simp [prCells]
theorem prCells_take : ∀ (l : List Pr) (i : Nat), prCells (l.take i) = (prCells l).take (i * 2)
  | [], i => by simp [prCells]
  | x :: l, 0 => by simp [prCells]
  | x :: l, i + 1 => by
    have e : ∀ l, prCells (x :: l) = .string (ba x.1) :: .string (ba x.2) :: prCells l := fun _ => rfl
    rw [List.take_succ_cons, e, e, prCells_take l i, show (i + 1) * 2 = i * 2 + 1 + 1 from by omega]; rfl
theorem prCells_drop : ∀ (l : List Pr) (i : Nat), prCells (l.drop i) = (prCells l).drop (i * 2)
  | [], i => by simp [prCells]
  | x :: l, 0 => by simp [prCells]
  | x :: l, i + 1 => by
    have e : ∀ l, prCells (x :: l) = .string (ba x.1) :: .string (ba x.2) :: prCells l := fun _ => rfl
    rw [List.drop_succ_cons, e, prCells_drop l i, show (i + 1) * 2 = i * 2 + 1 + 1 from by omega]; rfl
theorem prCells_one (l : List Pr) : OneC (prCells l) := by
  intro v hv
  obtain ⟨p, _, hp⟩ := List.mem_flatMap.1 hv
  rcases List.mem_cons.1 hp with rfl | h
  · rfl
  · rcases List.mem_cons.1 h with rfl | h
    · rfl
    · cases h
theorem prCells_set : ∀ (l : List Pr) (i : Nat) (k v v0 : Sg.B), l[i]? = some (k, v0) → prCells (l.set i (k, v)) = (prCells l).set (i * 2 + 1) (.string (ba v))
  | x :: l, 0, k, v, v0, h => by cases h; rfl
  | x :: l, i + 1, k, v, v0, h => by
    have e : ∀ x l, prCells (x :: l) = .string (ba x.1) :: .string (ba x.2) :: prCells l := fun _ _ => rfl
    rw [List.set_cons_succ, e, e, prCells_set l i k v v0 h, show (i + 1) * 2 + 1 = i * 2 + 1 + 1 + 1 from by omega]; rfl
theorem placeL_le (l : List Pr) (k : Sg.B) : placeL l k ≤ l.length := by
  unfold placeL
  exact (List.takeWhile_sublist _).length_le
theorem isAt_some {l : List Pr} {k : Sg.B} (h : isAt l k = true) : ∃ v, l[placeL l k]? = some (k, v) := by
  unfold isAt at h
  cases hx : l[placeL l k]? with
  | none => rw [hx] at h; cases h
  | some p => rw [hx] at h; obtain ⟨a, b⟩ := p; simp at h; exact ⟨b, by rw [h]⟩
theorem own_nil {w : World} {B e n size : Nat} {v : Value} {xs : List Value} (h : w.ownsRow B e size v n xs) : ∀ n' c, v = .slice none n' c → n' = 0 := by
  intro n' c hv
  rcases h.2 with ⟨rfl, h0⟩ | ⟨g, cap, cur, rfl, hb, hg, hn, hm, hs, ht⟩ <;> cases hv
  rfl
theorem own_len {w : World} {B e n size : Nat} {v : Value} {xs : List Value} (h : w.ownsRow B e size v n xs) : ∃ a c, v = .slice a n c := by
  rcases h.2 with ⟨rfl, h0⟩ | ⟨g, cap, cur, rfl, hb, hg, hn, hm, hs, ht⟩
  · exact ⟨none, 0, by rw [h0]⟩
  · exact ⟨_, _, rfl⟩

def WritesPost (w : World) (r : List Pr × Nat) (e : Ending) (w' : World) : Prop :=
  ∃ v', e = .returned (.tuple #[v', .int .i64 r.2]) ∧ w'.ownsRow w.heap.size 65 2 v' r.1.length (prCells r.1) ∧ Below w.heap.size w w'

theorem new3 {w w1 : World} {x y z : Value} {T : TypeId} (hb : Below (w.alloc (.cells #[x, y, z] T)).heap.size (w.alloc (.cells #[x, y, z] T)) w1) :
    w1.cell? ⟨w.heap.size, 0, none⟩ = some x ∧ w1.cell? ⟨w.heap.size, 1, none⟩ = some y ∧ w1.cell? ⟨w.heap.size, 2, none⟩ = some z ∧ w.heap.size < w1.heap.size := by
  have h0 : w.heap.size < (w.alloc (.cells #[x, y, z] T)).heap.size := by simp
  have e : ∀ o, w1.cell? ⟨w.heap.size, o, none⟩ = #[x, y, z][o]? := fun o => by
    rw [hb.cell (p := ⟨w.heap.size, o, none⟩) h0]
    simp only [World.cell?, heap_alloc_new]; rfl
  refine ⟨(e 0).trans rfl, (e 1).trans rfl, (e 2).trans rfl, ?_⟩
  have := hb.size
  omega
theorem own_mono {w : World} {B B' e n size : Nat} {v : Value} {xs : List Value} (h : w.ownsRow B e size v n xs) (hb : B' ≤ B) : w.ownsRow B' e size v n xs := by
  refine ⟨h.1, ?_⟩
  rcases h.2 with h | ⟨g, cap, cur, h1, h2, h3⟩
  · exact .inl h
  · exact .inr ⟨g, cap, cur, h1, Nat.le_trans hb h2, h3⟩

theorem own_form {w : World} {B e n size : Nat} {v : Value} {xs : List Value} (h : w.ownsRow B e size v n xs) (h0 : 0 < n) : ∃ g c, v = .slice (some ⟨g, 0, none⟩) n c := by
  rcases h.2 with ⟨rfl, h0⟩ | ⟨g, cap, cur, rfl, hb, hg, hn, hm, hs, ht⟩
  · omega
  · exact ⟨_, _, rfl⟩
def PlaceAt (l : List Pr) (key : Sg.B) (i : Nat) (is : Bool) : Prop :=
  ∀ (w1 : World) (v : Value), RowAt w1 v l.length (prCells l) → Calls Tryz.prog 86 #[v, .string (ba key), .func (.func 87) #[] #[]] w1 fun e w' => e = .returned (.tuple #[.int .i64 i, .bool is]) ∧ Below w1.heap.size w1 w'

set_option maxRecDepth 100000 in
set_option maxHeartbeats 8000000 in
theorem writes_other (op : Nat) (is : Bool) (key val : Sg.B) (i : Nat) (B : Nat) (v : Value) (l : List Pr) (w : World) (hown : w.ownsRow B 65 2 v l.length (prCells l)) (hp : PlaceAt l key i is) (hi : i ≤ l.length) (hll : l.length ≤ 5000) (hB : B ≤ w.heap.size) (h3 : ((op : Int) == 3) = false) (h4 : ((op : Int) == 4) = false) (h5 : ((op : Int) == 5) = false) :
    Calls Tryz.prog 91 #[.agg #[.int .i64 op, .string (ba key), .string (ba val)], v] w (WritesPost w (l, 0)) := by
  have HO := Lib.hid hown
  have HP := Lib.hid hp
  unfold PlaceAt at HP
  have HCL := Lib.hid (fun (w1 : World) (v : Value) (h : RowAt w1 v l.length (prCells l)) (hn : ∀ n c, v = .slice none n c → n = 0) => clone_calls v l.length (prCells l) w1 h hn (prCells_len l) (prCells_one l) (by omega))
  have HN := Lib.hid (own_nil hown)
  obtain ⟨a, c, rfl⟩ := own_len hown
  clear hown hp
  have HR := Lib.hid (own_rowAt HO.out)
  have HBX : Hid (Below w.heap.size w (w.alloc (.cells #[.int .i64 op, .string (ba key), .string (ba val)] 140))) := (Below.refl _ _).alloc (Nat.le_refl _) _
  have HRX := Lib.hid (HR.out.below HBX.out (Nat.le_refl _))
  go_enter Tryz.func91, Tryz.ntmps91
  go_wp2_with (first | (go_at_call 120; refine (HCL.out _ _ HRX.out HN.out).mono ?_; rintro e w1 ⟨v1, rfl, hown1, hb1⟩; have HB1 := Lib.hid (HBX.out.trans (hb1.mono (by simp))); have HR1 := Lib.hid (HRX.out.below hb1 (Nat.le_refl _)); have HO1 := Lib.hid (own_mono hown1 (by simp : w.heap.size ≤ _)); clear hown1; obtain ⟨c0, c1, c2, hz1⟩ := new3 hb1) | (go_at_call 86; refine (HP.out _ _ HR1.out).mono ?_; rintro e w2 ⟨rfl, hb2⟩; have d0 := (hb2.cell (p := ⟨w.heap.size, 0, none⟩) hz1).trans c0; have d1 := (hb2.cell (p := ⟨w.heap.size, 1, none⟩) hz1).trans c1; have d2 := (hb2.cell (p := ⟨w.heap.size, 2, none⟩) hz1).trans c2; have HO2 := Lib.hid (own_below HO1.out hb2 (Nat.le_refl _)); have HB2 := Lib.hid (HB1.out.trans (hb2.mono HB1.out.size)); have hz2 := HB2.out.size))
  all_goals
    go_ret2
    exact ⟨v1, rfl, HO2.out, HB2.out⟩
set_option maxRecDepth 100000 in
set_option maxHeartbeats 8000000 in
theorem writes_none4 (key val : Sg.B) (i : Nat) (B : Nat) (v : Value) (l : List Pr) (w : World) (hown : w.ownsRow B 65 2 v l.length (prCells l)) (hp : PlaceAt l key i false) (hi : i ≤ l.length) (hll : l.length ≤ 5000) (hB : B ≤ w.heap.size)  :
    Calls Tryz.prog 91 #[.agg #[.int .i64 4, .string (ba key), .string (ba val)], v] w (WritesPost w (l, 0)) := by
  have HO := Lib.hid hown
  have HP := Lib.hid hp
  unfold PlaceAt at HP
  have HCL := Lib.hid (fun (w1 : World) (v : Value) (h : RowAt w1 v l.length (prCells l)) (hn : ∀ n c, v = .slice none n c → n = 0) => clone_calls v l.length (prCells l) w1 h hn (prCells_len l) (prCells_one l) (by omega))
  have HN := Lib.hid (own_nil hown)
  obtain ⟨a, c, rfl⟩ := own_len hown
  clear hown hp
  have HR := Lib.hid (own_rowAt HO.out)
  have HBX : Hid (Below w.heap.size w (w.alloc (.cells #[.int .i64 4, .string (ba key), .string (ba val)] 140))) := (Below.refl _ _).alloc (Nat.le_refl _) _
  have HRX := Lib.hid (HR.out.below HBX.out (Nat.le_refl _))
  go_enter Tryz.func91, Tryz.ntmps91
  go_wp2_with (first | (go_at_call 120; refine (HCL.out _ _ HRX.out HN.out).mono ?_; rintro e w1 ⟨v1, rfl, hown1, hb1⟩; have HB1 := Lib.hid (HBX.out.trans (hb1.mono (by simp))); have HR1 := Lib.hid (HRX.out.below hb1 (Nat.le_refl _)); have HO1 := Lib.hid (own_mono hown1 (by simp : w.heap.size ≤ _)); clear hown1; obtain ⟨c0, c1, c2, hz1⟩ := new3 hb1) | (go_at_call 86; refine (HP.out _ _ HR1.out).mono ?_; rintro e w2 ⟨rfl, hb2⟩; have d0 := (hb2.cell (p := ⟨w.heap.size, 0, none⟩) hz1).trans c0; have d1 := (hb2.cell (p := ⟨w.heap.size, 1, none⟩) hz1).trans c1; have d2 := (hb2.cell (p := ⟨w.heap.size, 2, none⟩) hz1).trans c2; have HO2 := Lib.hid (own_below HO1.out hb2 (Nat.le_refl _)); have HB2 := Lib.hid (HB1.out.trans (hb2.mono HB1.out.size)); have hz2 := HB2.out.size))
  all_goals
    go_ret2
    exact ⟨v1, rfl, HO2.out, HB2.out⟩
set_option maxRecDepth 100000 in
set_option maxHeartbeats 8000000 in
theorem writes_none5 (key val : Sg.B) (i : Nat) (B : Nat) (v : Value) (l : List Pr) (w : World) (hown : w.ownsRow B 65 2 v l.length (prCells l)) (hp : PlaceAt l key i false) (hi : i ≤ l.length) (hll : l.length ≤ 5000) (hB : B ≤ w.heap.size)  :
    Calls Tryz.prog 91 #[.agg #[.int .i64 5, .string (ba key), .string (ba val)], v] w (WritesPost w (l, 0)) := by
  have HO := Lib.hid hown
  have HP := Lib.hid hp
  unfold PlaceAt at HP
  have HCL := Lib.hid (fun (w1 : World) (v : Value) (h : RowAt w1 v l.length (prCells l)) (hn : ∀ n c, v = .slice none n c → n = 0) => clone_calls v l.length (prCells l) w1 h hn (prCells_len l) (prCells_one l) (by omega))
  have HN := Lib.hid (own_nil hown)
  obtain ⟨a, c, rfl⟩ := own_len hown
  clear hown hp
  have HR := Lib.hid (own_rowAt HO.out)
  have HBX : Hid (Below w.heap.size w (w.alloc (.cells #[.int .i64 5, .string (ba key), .string (ba val)] 140))) := (Below.refl _ _).alloc (Nat.le_refl _) _
  have HRX := Lib.hid (HR.out.below HBX.out (Nat.le_refl _))
  go_enter Tryz.func91, Tryz.ntmps91
  go_wp2_with (first | (go_at_call 120; refine (HCL.out _ _ HRX.out HN.out).mono ?_; rintro e w1 ⟨v1, rfl, hown1, hb1⟩; have HB1 := Lib.hid (HBX.out.trans (hb1.mono (by simp))); have HR1 := Lib.hid (HRX.out.below hb1 (Nat.le_refl _)); have HO1 := Lib.hid (own_mono hown1 (by simp : w.heap.size ≤ _)); clear hown1; obtain ⟨c0, c1, c2, hz1⟩ := new3 hb1) | (go_at_call 86; refine (HP.out _ _ HR1.out).mono ?_; rintro e w2 ⟨rfl, hb2⟩; have d0 := (hb2.cell (p := ⟨w.heap.size, 0, none⟩) hz1).trans c0; have d1 := (hb2.cell (p := ⟨w.heap.size, 1, none⟩) hz1).trans c1; have d2 := (hb2.cell (p := ⟨w.heap.size, 2, none⟩) hz1).trans c2; have HO2 := Lib.hid (own_below HO1.out hb2 (Nat.le_refl _)); have HB2 := Lib.hid (HB1.out.trans (hb2.mono HB1.out.size)); have hz2 := HB2.out.size))
  all_goals
    go_ret2
    exact ⟨v1, rfl, HO2.out, HB2.out⟩
set_option maxRecDepth 100000 in
set_option maxHeartbeats 8000000 in
theorem writes_ins (key val : Sg.B) (i : Nat) (B : Nat) (v : Value) (l : List Pr) (w : World) (hown : w.ownsRow B 65 2 v l.length (prCells l)) (hp : PlaceAt l key i false) (hi : i ≤ l.length) (hll : l.length ≤ 5000) (hB : B ≤ w.heap.size)  :
    Calls Tryz.prog 91 #[.agg #[.int .i64 3, .string (ba key), .string (ba val)], v] w (WritesPost w (l.take i ++ [(key, val)] ++ l.drop i, 1)) := by
  have HO := Lib.hid hown
  have HP := Lib.hid hp
  unfold PlaceAt at HP
  have HCL := Lib.hid (fun (w1 : World) (v : Value) (h : RowAt w1 v l.length (prCells l)) (hn : ∀ n c, v = .slice none n c → n = 0) => clone_calls v l.length (prCells l) w1 h hn (prCells_len l) (prCells_one l) (by omega))
  have HN := Lib.hid (own_nil hown)
  obtain ⟨a, c, rfl⟩ := own_len hown
  clear hown hp
  have HR := Lib.hid (own_rowAt HO.out)
  have HBX : Hid (Below w.heap.size w (w.alloc (.cells #[.int .i64 3, .string (ba key), .string (ba val)] 140))) := (Below.refl _ _).alloc (Nat.le_refl _) _
  have HRX := Lib.hid (HR.out.below HBX.out (Nat.le_refl _))
  have HINS := Lib.hid (fun (v : Value) (vb : Nat) (w1 : World) (hown : w1.ownsRow w.heap.size 65 2 v l.length (prCells l)) (hB : w.heap.size ≤ w1.heap.size) (hvb : w1.heap[vb]? = some (.cells #[.string (ba key), .string (ba val)] 65 (0, 0))) (hvne : v.ownBlock ≠ some vb) => insert_calls w.heap.size v l.length i (prCells l) (.string (ba key)) (.string (ba val)) vb w1 hown (prCells_one l) rfl rfl hi (by omega) hB hvb hvne)
  go_enter Tryz.func91, Tryz.ntmps91
  go_wp2_with (first | (go_at_call 120; refine (HCL.out _ _ HRX.out HN.out).mono ?_; rintro e w1 ⟨v1, rfl, hown1, hb1⟩; have HB1 := Lib.hid (HBX.out.trans (hb1.mono (by simp))); have HR1 := Lib.hid (HRX.out.below hb1 (Nat.le_refl _)); have HO1 := Lib.hid (own_mono hown1 (by simp : w.heap.size ≤ _)); clear hown1; obtain ⟨c0, c1, c2, hz1⟩ := new3 hb1) | (go_at_call 86; refine (HP.out _ _ HR1.out).mono ?_; rintro e w2 ⟨rfl, hb2⟩; have d0 := (hb2.cell (p := ⟨w.heap.size, 0, none⟩) hz1).trans c0; have d1 := (hb2.cell (p := ⟨w.heap.size, 1, none⟩) hz1).trans c1; have d2 := (hb2.cell (p := ⟨w.heap.size, 2, none⟩) hz1).trans c2; have HO2 := Lib.hid (own_below HO1.out hb2 (Nat.le_refl _)); have HB2 := Lib.hid (HB1.out.trans (hb2.mono HB1.out.size)); have hz2 := HB2.out.size) | (go_at_call 121; go_must (refine (HINS.out _ _ _ (HO2.out.alloc _) (by simp; omega) (heap_alloc_new _ _) (own_ne HO2.out (Nat.le_refl _))).mono ?_); rintro e w3 ⟨v3, rfl, hown3, hb3⟩))
  go_ret2
  refine ⟨v3, rfl, ?_, (HB2.out.alloc hz2 _).trans hb3⟩
  have e1 : (l.take i ++ [(key, val)] ++ l.drop i).length = l.length + 1 := by simp; omega
  rw [e1, prCells_append, prCells_append, prCells_take, prCells_drop]
  exact hown3
set_option maxRecDepth 100000 in
set_option maxHeartbeats 8000000 in
theorem writes_del (key val : Sg.B) (i : Nat) (B : Nat) (v : Value) (l : List Pr) (w : World) (hown : w.ownsRow B 65 2 v l.length (prCells l)) (hp : PlaceAt l key i true) (hi : i < l.length) (hll : l.length ≤ 5000) (hB : B ≤ w.heap.size)  :
    Calls Tryz.prog 91 #[.agg #[.int .i64 5, .string (ba key), .string (ba val)], v] w (WritesPost w (l.take i ++ l.drop (i + 1), 1)) := by
  have HO := Lib.hid hown
  have HP := Lib.hid hp
  unfold PlaceAt at HP
  have HCL := Lib.hid (fun (w1 : World) (v : Value) (h : RowAt w1 v l.length (prCells l)) (hn : ∀ n c, v = .slice none n c → n = 0) => clone_calls v l.length (prCells l) w1 h hn (prCells_len l) (prCells_one l) (by omega))
  have HN := Lib.hid (own_nil hown)
  obtain ⟨a, c, rfl⟩ := own_len hown
  clear hown hp
  have HR := Lib.hid (own_rowAt HO.out)
  have HBX : Hid (Below w.heap.size w (w.alloc (.cells #[.int .i64 5, .string (ba key), .string (ba val)] 140))) := (Below.refl _ _).alloc (Nat.le_refl _) _
  have HRX := Lib.hid (HR.out.below HBX.out (Nat.le_refl _))
  have HDEL := Lib.hid (fun (v : Value) (w1 : World) (hown : w1.ownsRow w.heap.size 65 2 v l.length (prCells l)) (hB : w.heap.size ≤ w1.heap.size) => delete_calls w.heap.size v l.length i (prCells l) w1 hown (prCells_one l) hi (by omega) hB)
  go_enter Tryz.func91, Tryz.ntmps91
  go_wp2_with (first | (go_at_call 120; refine (HCL.out _ _ HRX.out HN.out).mono ?_; rintro e w1 ⟨v1, rfl, hown1, hb1⟩; have HB1 := Lib.hid (HBX.out.trans (hb1.mono (by simp))); have HR1 := Lib.hid (HRX.out.below hb1 (Nat.le_refl _)); have HO1 := Lib.hid (own_mono hown1 (by simp : w.heap.size ≤ _)); clear hown1; obtain ⟨c0, c1, c2, hz1⟩ := new3 hb1) | (go_at_call 86; refine (HP.out _ _ HR1.out).mono ?_; rintro e w2 ⟨rfl, hb2⟩; have d0 := (hb2.cell (p := ⟨w.heap.size, 0, none⟩) hz1).trans c0; have d1 := (hb2.cell (p := ⟨w.heap.size, 1, none⟩) hz1).trans c1; have d2 := (hb2.cell (p := ⟨w.heap.size, 2, none⟩) hz1).trans c2; have HO2 := Lib.hid (own_below HO1.out hb2 (Nat.le_refl _)); have HB2 := Lib.hid (HB1.out.trans (hb2.mono HB1.out.size)); have hz2 := HB2.out.size) | (go_at_call 122; go_must (refine (HDEL.out _ _ HO2.out hz2).mono ?_); rintro e w3 ⟨v3, rfl, hown3, hb3⟩))
  go_ret2
  refine ⟨v3, rfl, ?_, HB2.out.trans hb3⟩
  have e1 : (l.take i ++ l.drop (i + 1)).length = l.length - 1 := by simp; omega
  rw [e1, prCells_append, prCells_take, prCells_drop, show (i + 1) * 2 = i * 2 + 2 from by omega]
  exact hown3
set_option maxRecDepth 100000 in
set_option maxHeartbeats 8000000 in
theorem writes_set3 (v0 : Sg.B) (key val : Sg.B) (i : Nat) (B : Nat) (v : Value) (l : List Pr) (w : World) (hown : w.ownsRow B 65 2 v l.length (prCells l)) (hp : PlaceAt l key i true) (hi : i < l.length) (hll : l.length ≤ 5000) (hB : B ≤ w.heap.size) (hat : l[i]? = some (key, v0))  :
    Calls Tryz.prog 91 #[.agg #[.int .i64 3, .string (ba key), .string (ba val)], v] w (WritesPost w (l.set i (key, val), 1)) := by
  have HO := Lib.hid hown
  have HP := Lib.hid hp
  unfold PlaceAt at HP
  have HCL := Lib.hid (fun (w1 : World) (v : Value) (h : RowAt w1 v l.length (prCells l)) (hn : ∀ n c, v = .slice none n c → n = 0) => clone_calls v l.length (prCells l) w1 h hn (prCells_len l) (prCells_one l) (by omega))
  have HN := Lib.hid (own_nil hown)
  obtain ⟨a, c, rfl⟩ := own_len hown
  clear hown hp
  have HR := Lib.hid (own_rowAt HO.out)
  have HBX : Hid (Below w.heap.size w (w.alloc (.cells #[.int .i64 3, .string (ba key), .string (ba val)] 140))) := (Below.refl _ _).alloc (Nat.le_refl _) _
  have HRX := Lib.hid (HR.out.below HBX.out (Nat.le_refl _))
  go_enter Tryz.func91, Tryz.ntmps91
  go_wp2_with (first | (go_at_call 120; refine (HCL.out _ _ HRX.out HN.out).mono ?_; rintro e w1 ⟨v1, rfl, hown1, hb1⟩; have HB1 := Lib.hid (HBX.out.trans (hb1.mono (by simp))); have HR1 := Lib.hid (HRX.out.below hb1 (Nat.le_refl _)); have HO1 := Lib.hid (own_mono hown1 (by simp : w.heap.size ≤ _)); clear hown1; obtain ⟨c0, c1, c2, hz1⟩ := new3 hb1) | (go_at_call 86; refine (HP.out _ _ HR1.out).mono ?_; rintro e w2 ⟨rfl, hb2⟩; have d0 := (hb2.cell (p := ⟨w.heap.size, 0, none⟩) hz1).trans c0; have d1 := (hb2.cell (p := ⟨w.heap.size, 1, none⟩) hz1).trans c1; have d2 := (hb2.cell (p := ⟨w.heap.size, 2, none⟩) hz1).trans c2; have HO2 := Lib.hid (own_below HO1.out hb2 (Nat.le_refl _)); have HB2 := Lib.hid (HB1.out.trans (hb2.mono HB1.out.size)); have hz2 := HB2.out.size; obtain ⟨g1, cp1, rfl⟩ := own_form HO2.out (by omega); have c3 := (HO2.out.cellAt (i * 2 + 1) (by omega)).trans (prCells_at l i _ hat).2; have c4 := HO2.out.frozenAt (i * 2 + 1)))
  go_ret2
  have hst := HO2.out.stored (i * 2 + 1) (.string (ba val))
  refine ⟨_, rfl, ?_, HB2.out.trans (below_grown (v := .slice (some ⟨g1, 0, none⟩) l.length cp1) hst.2 hz2 fun k hk => (HO2.out.lt k hk).1)⟩
  rw [List.length_set, prCells_set l i key val v0 hat]
  exact hst.1
set_option maxRecDepth 100000 in
set_option maxHeartbeats 8000000 in
theorem writes_set4 (v0 : Sg.B) (key val : Sg.B) (i : Nat) (B : Nat) (v : Value) (l : List Pr) (w : World) (hown : w.ownsRow B 65 2 v l.length (prCells l)) (hp : PlaceAt l key i true) (hi : i < l.length) (hll : l.length ≤ 5000) (hB : B ≤ w.heap.size) (hat : l[i]? = some (key, v0))  :
    Calls Tryz.prog 91 #[.agg #[.int .i64 4, .string (ba key), .string (ba val)], v] w (WritesPost w (l.set i (key, val), 1)) := by
  have HO := Lib.hid hown
  have HP := Lib.hid hp
  unfold PlaceAt at HP
  have HCL := Lib.hid (fun (w1 : World) (v : Value) (h : RowAt w1 v l.length (prCells l)) (hn : ∀ n c, v = .slice none n c → n = 0) => clone_calls v l.length (prCells l) w1 h hn (prCells_len l) (prCells_one l) (by omega))
  have HN := Lib.hid (own_nil hown)
  obtain ⟨a, c, rfl⟩ := own_len hown
  clear hown hp
  have HR := Lib.hid (own_rowAt HO.out)
  have HBX : Hid (Below w.heap.size w (w.alloc (.cells #[.int .i64 4, .string (ba key), .string (ba val)] 140))) := (Below.refl _ _).alloc (Nat.le_refl _) _
  have HRX := Lib.hid (HR.out.below HBX.out (Nat.le_refl _))
  go_enter Tryz.func91, Tryz.ntmps91
  go_wp2_with (first | (go_at_call 120; refine (HCL.out _ _ HRX.out HN.out).mono ?_; rintro e w1 ⟨v1, rfl, hown1, hb1⟩; have HB1 := Lib.hid (HBX.out.trans (hb1.mono (by simp))); have HR1 := Lib.hid (HRX.out.below hb1 (Nat.le_refl _)); have HO1 := Lib.hid (own_mono hown1 (by simp : w.heap.size ≤ _)); clear hown1; obtain ⟨c0, c1, c2, hz1⟩ := new3 hb1) | (go_at_call 86; refine (HP.out _ _ HR1.out).mono ?_; rintro e w2 ⟨rfl, hb2⟩; have d0 := (hb2.cell (p := ⟨w.heap.size, 0, none⟩) hz1).trans c0; have d1 := (hb2.cell (p := ⟨w.heap.size, 1, none⟩) hz1).trans c1; have d2 := (hb2.cell (p := ⟨w.heap.size, 2, none⟩) hz1).trans c2; have HO2 := Lib.hid (own_below HO1.out hb2 (Nat.le_refl _)); have HB2 := Lib.hid (HB1.out.trans (hb2.mono HB1.out.size)); have hz2 := HB2.out.size; obtain ⟨g1, cp1, rfl⟩ := own_form HO2.out (by omega); have c3 := (HO2.out.cellAt (i * 2 + 1) (by omega)).trans (prCells_at l i _ hat).2; have c4 := HO2.out.frozenAt (i * 2 + 1)))
  go_ret2
  have hst := HO2.out.stored (i * 2 + 1) (.string (ba val))
  refine ⟨_, rfl, ?_, HB2.out.trans (below_grown (v := .slice (some ⟨g1, 0, none⟩) l.length cp1) hst.2 hz2 fun k hk => (HO2.out.lt k hk).1)⟩
  rw [List.length_set, prCells_set l i key val v0 hat]
  exact hst.1

theorem writes_calls (p : Pn) (B : Nat) (v : Value) (l : List Pr) (w : World) (hown : w.ownsRow B 65 2 v l.length (prCells l)) (hs : SortL l) (hll : l.length ≤ 5000) (hB : B ≤ w.heap.size) :
    Calls Tryz.prog 91 #[pnV p, v] w (WritesPost w (writesL p l)) := by
  have hp : PlaceAt l p.key (placeL l p.key) (isAt l p.key) := fun w1 v h => place_calls v l p.key w1 h hs (by omega)
  have hle := placeL_le l p.key
  obtain ⟨op, key, val⟩ := p
  unfold pnV writesL
  simp only at hp hle ⊢
  by_cases h3 : op = 3
  · subst h3
    cases his : isAt l key with
    | false => rw [his] at hp; simpa using writes_ins key val _ B v l w hown hp hle hll hB
    | true =>
      rw [his] at hp
      obtain ⟨v0, hat⟩ := isAt_some his
      have := writes_set3 v0 key val _ B v l w hown hp (List.getElem?_eq_some_iff.1 hat).1 hll hB hat
      simpa using this
  by_cases h4 : op = 4
  · subst h4
    cases his : isAt l key with
    | false => rw [his] at hp; simpa using writes_none4 key val _ B v l w hown hp hle hll hB
    | true =>
      rw [his] at hp
      obtain ⟨v0, hat⟩ := isAt_some his
      have := writes_set4 v0 key val _ B v l w hown hp (List.getElem?_eq_some_iff.1 hat).1 hll hB hat
      simpa using this
  by_cases h5 : op = 5
  · subst h5
    cases his : isAt l key with
    | false => rw [his] at hp; simpa using writes_none5 key val _ B v l w hown hp hle hll hB
    | true =>
      rw [his] at hp
      obtain ⟨v0, hat⟩ := isAt_some his
      have := writes_del key val _ B v l w hown hp (List.getElem?_eq_some_iff.1 hat).1 hll hB
      simpa using this
  have := writes_other op (isAt l key) key val _ B v l w hown hp hle hll hB (by simp; omega) (by simp; omega) (by simp; omega)
  simpa [h3, h4, h5] using this
end Go.Proofs.YtpaioaljopjpkaaGreatDoor
