/- A law of any program: a region that draws its order is walked by an invariant over the set of operations that are done. Conditions: each operation waits for earlier ones alone. -/
import Derived.Orders
set_option linter.unusedSimpArgs false
set_option linter.unusedVariables false
namespace Go
section
variable {P : Program} {ops : Array Oper} {Q : Exit → Act → World → Prop} {md : Region.Mode}

def undone (listed : Array Bool) (n : Nat) : Nat := (List.range n).countP fun j => !listed.getD j false

theorem undone_set (listed : Array Bool) (n i : Nat) (hi : i < n) (hs : listed.size = n) (h : listed.getD i false = false) : undone (listed.setIfInBounds i true) n + 1 ≤ undone listed n := by
  unfold undone
  have key : ∀ l : List Nat, l.Nodup → i ∈ l → l.countP (fun j => !(listed.setIfInBounds i true).getD j false) + 1 ≤ l.countP (fun j => !listed.getD j false) := by
    intro l
    induction l with
    | nil => intro _ h; cases h
    | cons x l ih =>
      intro hn hm
      rw [List.nodup_cons] at hn
      have hmono : ∀ l : List Nat, l.countP (fun j => !(listed.setIfInBounds i true).getD j false) ≤ l.countP (fun j => !listed.getD j false) := fun l =>
        List.countP_mono_left fun x _ hx => by
          simp only [Bool.not_eq_true', Bool.not_eq_eq_eq_not, Bool.not_true] at hx ⊢
          cases hg : listed.getD x false with
          | false => rfl
          | true => rw [getD_set_true hg] at hx; cases hx
      rcases List.mem_cons.1 hm with rfl | hm'
      · rw [List.countP_cons, List.countP_cons]
        have h1 : (!(listed.setIfInBounds i true).getD i false) = false := by
          simp [Array.getD_eq_getD_getElem?, Array.getElem?_setIfInBounds, hs, hi]
        have h2 : (!listed.getD i false) = true := by rw [h]; rfl
        rw [h1, h2]
        have := hmono l
        rw [if_neg (by decide), if_pos rfl]
        omega
      · have hne : i ≠ x := fun e => hn.1 (e ▸ hm')
        rw [List.countP_cons, List.countP_cons, getD_set_ne false hne]
        have := ih hn.2 hm'
        omega
  exact key _ List.nodup_range (List.mem_range.2 hi)

theorem undone_zero (listed : Array Bool) (n : Nat) (h : undone listed n = 0) (j : Nat) (hj : j < n) : listed.getD j false = true := by
  unfold undone at h
  rw [List.countP_eq_zero] at h
  have := h j (List.mem_range.2 hj)
  simpa using this

theorem done_of_ready_nil (listed : Array Bool) (hs : listed.size = ops.size) (hlow : ∀ i o, ops[i]? = some o → ∀ e ∈ o.after, Region.binds md e = true → e.on < i)
    (h : Region.ready md ops listed = []) : ∀ j, j < ops.size → listed.getD j false = true := by
  intro j
  induction j using Nat.strongRecOn with
  | ind j ih =>
    intro hj
    cases hg : listed.getD j false with
    | true => rfl
    | false =>
      exfalso
      have : j ∈ Region.ready md ops listed := by
        rw [mem_ready]
        refine ⟨?_, ops[j], Array.getElem?_eq_getElem hj, fun e he hb => ?_⟩
        · rw [Array.getD_eq_getD_getElem?] at hg ⊢
          rw [Array.getElem?_eq_getElem (by omega)] at hg ⊢
          exact hg
        · have := hlow j _ (Array.getElem?_eq_getElem hj) e he hb
          exact ih e.on this (by omega)
      rw [h] at this
      cases this

theorem wpAny_inv (I : (Nat → Bool) → Act → World → Prop)
    (step : ∀ (done : Nat → Bool) (a : Act) (w : World) (i : Nat) (o : Oper), ops[i]? = some o → done i = false → (∀ e ∈ o.after, Region.binds md e = true → done e.on = true) → I done a w → wpOp P ops Q i (I (fun j => j == i || done j)) a w)
    (fin : ∀ (done : Nat → Bool) (a : Act) (w : World), (∀ i, i < ops.size → done i = true) → I done a w → Q .normal a w)
    (hlow : ∀ i o, ops[i]? = some o → ∀ e ∈ o.after, Region.binds md e = true → e.on < i) :
    ∀ (fuel : Nat) (listed : Array Bool) (a : Act) (w : World), listed.size = ops.size → undone listed ops.size ≤ fuel → I (fun j => listed.getD j false) a w → wpAny P md ops Q fuel listed a w
  | 0, listed, a, w, hs, hu, hI => by
    have hall := undone_zero listed ops.size (by omega)
    refine ⟨?_, fin _ a w hall hI⟩
    rw [List.eq_nil_iff_forall_not_mem]
    intro j hj
    rw [mem_ready] at hj
    obtain ⟨h0, o, ho, _⟩ := hj
    have hlt := (Array.getElem?_eq_some_iff.1 ho).1
    have := hall j hlt
    rw [Array.getD_eq_getD_getElem?, Array.getElem?_eq_getElem (by omega)] at this h0
    simp only [Option.getD_some] at this h0
    rw [this] at h0
    cases h0
  | fuel + 1, listed, a, w, hs, hu, hI => by
    refine ⟨fun h => fin _ a w (done_of_ready_nil listed hs hlow h) hI, fun i hi => ?_⟩
    rw [mem_ready] at hi
    obtain ⟨h0, o, ho, hall⟩ := hi
    have hlt := (Array.getElem?_eq_some_iff.1 ho).1
    have h0' : listed.getD i false = false := by
      rw [Array.getD_eq_getD_getElem?, Array.getElem?_eq_getElem (by omega)] at h0 ⊢
      exact h0
    refine wpOp_mono (fun a' w' h => ?_) (step _ a w i o ho h0' hall hI)
    refine wpAny_inv I step fin hlow fuel _ a' w' (by simpa using hs) (by have := undone_set listed ops.size i hlt hs h0'; omega) ?_
    have e : (fun j => (listed.setIfInBounds i true).getD j false) = (fun j => j == i || listed.getD j false) := by
      funext j
      by_cases hj : i = j
      · subst hj
        simp [Array.getD_eq_getD_getElem?, Array.getElem?_setIfInBounds, hs, hlt]
      · rw [getD_set_ne false hj]
        have : (j == i) = false := by simpa using fun e => hj e.symm
        simp [this]
    rw [e]
    exact h

/-- A region that draws: an invariant over what is done. -/
theorem wp_region_inv {id : Nat} {a : Act} {w : World} (hm : P.follows .mixedOrders = true) (I : (Nat → Bool) → Act → World → Prop)
    (hlow : (ops.toList.zipIdx.all fun x => x.1.after.all fun e => !Region.binds .any e || e.on < x.2) = true)
    (start : I (fun _ => false) a { w with drawn := w.drawn + 1 })
    (step : ∀ (done : Nat → Bool) (a : Act) (w : World) (i : Nat) (o : Oper), ops[i]? = some o → done i = false → (∀ e ∈ o.after, Region.binds .any e = true → done e.on = true) → I done a w → wpOp P ops Q i (I (fun j => j == i || done j)) a w)
    (fin : ∀ (done : Nat → Bool) (a : Act) (w : World), (∀ i, i < ops.size → done i = true) → I done a w → Q .normal a w) :
    (Code.region id ops true).wp P Q a w := by
  refine wp_region_any hm (wpAny_inv I step fin ?_ ops.size _ a _ (by simp) ?_ ?_)
  · intro i o ho e he hb
    rw [List.all_eq_true] at hlow
    have hmem : (o, i) ∈ ops.toList.zipIdx := by
      rw [List.mem_zipIdx_iff_getElem?]
      simpa using ho
    have := hlow _ hmem
    simp only [Array.all_eq_true_iff_forall_mem] at this
    have := this e he
    simpa [hb] using this
  · unfold undone
    exact Nat.le_trans (List.countP_le_length ..) (by simp)
  · have e : (fun j => (Array.replicate ops.size false).getD j false) = (fun _ : Nat => false) := by
      funext j
      rw [Array.getD_eq_getD_getElem?, Array.getElem?_replicate]
      split <;> rfl
    rw [e]
    exact start
end
end Go
