/- Plain laws of a node's Run: what is laid, and by what. Conditions: none. -/
import Derived.Test.YtpaioaljopjpkaaGreatDoorLawC
set_option linter.unusedVariables false
set_option linter.unusedSimpArgs false
namespace Go.Proofs.YtpaioaljopjpkaaGreatDoor
open Go

/-- what a turn lays: the node's epoch and lead stay; its log grows by entries of its epoch, with no error. -/
def Lays (s : NodeS) (r : NodeS × Int) : Prop := r.1.epoch = s.epoch ∧ r.1.leads = s.leads ∧ ∃ add : List En, r.1.log = s.log ++ add ∧ (∀ e ∈ add, e.1 = s.epoch) ∧ (add ≠ [] → r.2 = 0)
theorem lays_same (s : NodeS) (e : Int) : Lays s (s, e) := ⟨rfl, rfl, [], by simp, (fun e h => by cases h), fun h => absurd rfl h⟩
theorem lays_opn (s : NodeS) (o : List (Int × List Sg.B)) (e : Int) : Lays s (⟨s.epoch, s.leads, s.log, o⟩, e) := ⟨rfl, rfl, [], by simp, (fun e h => by cases h), fun h => absurd rfl h⟩
theorem lay_lays (s : NodeS) (ts : List Sg.B) : Lays s (s.lay ts) := by
  unfold NodeS.lay
  split
  · exact lays_same s 5
  · refine ⟨rfl, rfl, ts.map (s.epoch, ·), rfl, fun e h => ?_, fun _ => rfl⟩
    obtain ⟨t, _, rfl⟩ := List.mem_map.1 h
    rfl
theorem close_eq (s : NodeS) (n : Int) : ∃ o, (s.close n).1 = ⟨s.epoch, s.leads, s.log, o⟩ := by
  unfold NodeS.close
  cases s.find n with
  | none => exact ⟨s.opn, rfl⟩
  | some i => exact ⟨_, rfl⟩
theorem doCls_lays (s : NodeS) (is : Int) (n : Int) (t : Sg.B) : Lays s (s.doCls is n t) := by
  unfold NodeS.doCls
  split
  · unfold NodeS.begin
    cases s.find n with
    | none => exact lays_opn s _ _
    | some i => exact lays_same s _
  · split
    · unfold NodeS.commit
      split
      · obtain ⟨o, ho⟩ := close_eq s n
        rw [ho]
        exact lay_lays ⟨s.epoch, s.leads, s.log, o⟩ (s.texts n)
      · exact lays_same s _
    · split
      · obtain ⟨o, ho⟩ := close_eq s n
        rw [ho]
        exact lays_opn s o _
      · split
        · unfold NodeS.write
          cases s.find n with
          | none => exact lay_lays s [t]
          | some i =>
            dsimp only
            split
            · exact lays_same s _
            · exact lays_opn s _ _
        · exact lays_same s _
structure RunFact (s : NodeS) (epoch : Nat) (reads : Bool) (t : Sg.B) (r : RunR) : Prop where
  epoch_ : r.s.epoch = s.epoch
  leads_ : r.s.leads = s.leads
  log_ : ∃ add : List En, r.s.log = s.log ++ add ∧ (∀ e ∈ add, e.1 = s.epoch) ∧ (add ≠ [] → r.err = 0 ∧ epoch = s.epoch ∧ s.leads = true ∧ reads = false ∧ clsL t ≠ 1 ∧ clsL t ≠ 0 ∧ r.texts = [])
  stale : epoch ≠ s.epoch → r.err = 8
  state : s.leads = false → reads = false → r.err ≠ 0
  texts_ : r.texts ≠ [] → clsL t = 1
theorem run_fact (s : NodeS) (n : Int) (epoch : Nat) (reads : Bool) (t : Sg.B) : RunFact s epoch reads t (s.run n epoch reads t) := by
  unfold NodeS.run
  have same : ∀ (e : Int) (ts : List Sg.B), ∃ add : List En, s.log = s.log ++ add ∧ (∀ e ∈ add, e.1 = s.epoch) ∧ (add ≠ [] → e = 0 ∧ epoch = s.epoch ∧ s.leads = true ∧ reads = false ∧ clsL t ≠ 1 ∧ clsL t ≠ 0 ∧ ts = []) := fun e ts => ⟨[], by simp, (fun e h => by cases h), fun h => absurd rfl h⟩
  have hmay : s.may epoch reads (clsL t) = 0 → epoch = s.epoch ∧ clsL t ≠ 0 ∧ (reads = true → clsL t = 1) ∧ (reads = false → s.leads = true) := fun h => by
    unfold NodeS.may at h
    by_cases h1 : epoch = s.epoch
    · rw [if_neg (by simpa using h1)] at h
      by_cases h2 : clsL t = 0 ∨ (reads = true ∧ clsL t ≠ 1)
      · rw [if_pos h2] at h; cases h
      · rw [if_neg h2] at h
        by_cases h3 : reads = false ∧ s.leads = false
        · rw [if_pos h3] at h; cases h
        · refine ⟨h1, fun e => h2 (.inl e), fun e => Classical.byContradiction fun e2 => h2 (.inr ⟨e, e2⟩), fun e => ?_⟩
          cases hl : s.leads with
          | true => rfl
          | false => exact absurd ⟨e, hl⟩ h3
    · rw [if_pos h1] at h; cases h
  by_cases hm : s.may epoch reads (clsL t) = 0
  · rw [if_pos hm]
    obtain ⟨h1, h2, h3, h4⟩ := hmay hm
    by_cases hc : clsL t = 1
    · rw [if_pos hc]
      exact ⟨rfl, rfl, same _ _, fun e => absurd h1 e, (fun hl hr => by rw [h4 hr] at hl; cases hl), fun _ => hc⟩
    · rw [if_neg hc]
      have hr : reads = false := by
        cases reads with
        | false => rfl
        | true => exact absurd (h3 rfl) hc
      obtain ⟨a, b, add, h5, h6, h7⟩ := doCls_lays s (clsL t) n t
      refine ⟨a, b, ⟨add, h5, h6, fun e => ⟨h7 e, h1, h4 hr, hr, hc, h2, rfl⟩⟩, fun e => absurd h1 e, (fun hl _ => by rw [h4 hr] at hl; cases hl), fun e => absurd rfl e⟩
  · rw [if_neg hm]
    refine ⟨rfl, rfl, same _ _, fun e => ?_, fun hl hr => hm, fun e => absurd rfl e⟩
    unfold NodeS.may
    rw [if_pos e]
theorem lead_epoch (s : NodeS) (e : Nat) : s.epoch ≤ (s.lead e).1.epoch := by
  unfold NodeS.lead
  split
  · exact Nat.le_refl _
  · show s.epoch ≤ e; omega
theorem copy_epoch (s t : NodeS) (m : Int) : s.epoch ≤ (s.copy t m).1.epoch := by
  unfold NodeS.copy
  split
  · exact Nat.le_refl _
  · split
    · show s.epoch ≤ t.epoch; omega
    · exact Nat.le_refl _
theorem close_epoch (s : NodeS) (n : Int) : (s.close n).1.epoch = s.epoch := by obtain ⟨o, h⟩ := close_eq s n; rw [h]

/-- the node of an act, behind it. -/
theorem doL_node {ss : List NodeS} (h3 : ss.length = 3) (x : ActS) : ∃ s, ss[ofI x.node]? = some s ∧ nodeOf ss x.node = s ∧ ∃ s', (doL ss x).1 = ss.set (ofI x.node) s' ∧ s.epoch ≤ s'.epoch ∧
    (x.act = 0 → s' = (s.run x.conn x.epoch x.reads x.bytes).s ∧ (doL ss x).2 = ⟨(s.run x.conn x.epoch x.reads x.bytes).err, s'.epoch, s'.log.length, (s.run x.conn x.epoch x.reads x.bytes).texts, false, 0⟩) := by
  have hl := ofI_lt x.node
  obtain ⟨s, hs⟩ : ∃ s, ss[ofI x.node]? = some s := ⟨ss[ofI x.node]'(by omega), List.getElem?_eq_getElem (by omega)⟩
  have hn : nodeOf ss x.node = s := by unfold nodeOf; rw [List.getD_eq_getElem?_getD, hs]; rfl
  refine ⟨s, hs, hn, ?_⟩
  unfold doL
  rw [hn]
  by_cases h0 : x.act = 0
  · rw [if_pos h0]
    exact ⟨_, rfl, by rw [(run_fact s x.conn x.epoch x.reads x.bytes).epoch_]; exact Nat.le_refl _, fun _ => ⟨rfl, rfl⟩⟩
  · rw [if_neg h0]
    by_cases h1 : x.act = 1
    · rw [if_pos h1]
      exact ⟨_, rfl, by rw [close_epoch]; exact Nat.le_refl _, fun e => absurd e h0⟩
    · rw [if_neg h1]
      by_cases h2 : x.act = 2
      · rw [if_pos h2]
        exact ⟨_, rfl, lead_epoch s _, fun e => absurd e h0⟩
      · rw [if_neg h2]
        exact ⟨_, rfl, copy_epoch s _ _, fun e => absurd e h0⟩
end Go.Proofs.YtpaioaljopjpkaaGreatDoor
