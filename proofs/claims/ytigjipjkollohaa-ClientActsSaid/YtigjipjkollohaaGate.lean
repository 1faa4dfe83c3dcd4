/-
  A region that draws its order, its loads taken first as long as one of the operations 'gate' has not come up: behind them the stores may write what was loaded.
-/
import Derived.Test.YtigjipjkollohaaFrame
namespace Go.Proofs.Ytigjipjkollohaa
open Go

section
variable {P : Program} {ops : Array Oper} {Q : Exit → Act → World → Prop} {md : Region.Mode} {S : World → Prop} {gate : List Nat}

/-- S holds while one of 'gate' has not come up. -/
def GateS (gate : List Nat) (S : World → Prop) (listed : Array Bool) (w : World) : Prop := (∃ c ∈ gate, listed.getD c true = false) → S w
def wpAnyG (P : Program) (md : Region.Mode) (ops : Array Oper) (Q : Exit → Act → World → Prop) (S : World → Prop) (gate : List Nat) : Nat → Array Bool → Act → World → Prop
  | 0, listed, a, w => Region.ready md ops listed = [] ∧ Q .normal a w
  | fuel + 1, listed, a, w =>
    (Region.ready md ops listed = [] → Q .normal a w) ∧
    ∀ i ∈ Region.ready md ops listed, wpOp P ops Q i (fun a' w' => GateS gate S (listed.setIfInBounds i true) w' ∧ wpAnyG P md ops Q S gate fuel (listed.setIfInBounds i true) a' w') a w

theorem wpAny_of_gate : ∀ (fuel : Nat) (listed : Array Bool) (a : Act) (w : World), wpAnyG P md ops Q S gate fuel listed a w → wpAny P md ops Q fuel listed a w
  | 0, _, _, _, h => h
  | fuel + 1, _, _, _, h => ⟨h.1, fun i hi => wpOp_mono (fun a' w' h' => wpAny_of_gate fuel _ a' w' h'.2) (h.2 i hi)⟩

/-- An operation that feeds one of the gate's may be taken first if it yields its value in every world that meets S. -/
theorem wpAnyG_first {i : Nat} {oi : Oper} {v : Value} (hi : ops[i]? = some oi) (hsel : ∀ (j : Nat) (o : Oper) cs b, ops[j]? = some o → o.op ≠ .select cs b)
    (hQ : ∀ c a w, Q (.panic c) (a.put oi.dst v) w → Q (.panic c) a w) {T : World → Prop} {c : Nat} (hig : i ∉ gate)
    (hT : (∀ w, T w) ∨ (c ≠ i ∧ c ∈ gate ∧ (∃ oc, ops[c]? = some oc ∧ ∃ e ∈ oc.after, Region.binds md e = true ∧ e.on = i) ∧ ∀ w, S w → T w)) :
    ∀ (fuel : Nat) (listed : Array Bool) (a : Act) (w : World),
      ((∀ w, T w) ∨ listed.getD c true = false) →
      (∀ j oj, ops[j]? = some oj → j ≠ i → listed.getD j true = false → (∀ e ∈ oj.after, Region.binds md e = true → e.on ≠ i) → oi.apart ops oj = true) →
      i ∈ Region.ready md ops listed → YieldsIf P ops T oi v a → GateS gate S listed w →
      wpAnyG P md ops Q S gate fuel (listed.setIfInBounds i true) (a.put oi.dst v) w → wpAnyG P md ops Q S gate (fuel + 1) listed a w := by
  have key : ∀ (listed : Array Bool) (w : World), ((∀ w, T w) ∨ listed.getD c true = false) → GateS gate S listed w → T w := fun listed w hc hG => by
    rcases hT with hT | ⟨_, hcg, _, hST⟩
    · exact hT w
    · rcases hc with hc | hc
      · exact hc w
      · exact hST w (hG ⟨c, hcg, hc⟩)
  have key2 : ∀ (listed : Array Bool) (w : World), ((∀ w, T w) ∨ listed.getD c true = false) → GateS gate S listed w → GateS gate S (listed.setIfInBounds i true) w := fun listed w _ hG ⟨d, hd, hf⟩ => hG ⟨d, hd, by
    rwa [getD_set_ne true (fun e => hig (by rw [e]; exact hd))] at hf⟩
  intro fuel
  induction fuel with
  | zero =>
    intro listed a w hc _ hr hy hS H
    refine ⟨fun h => (by rw [h] at hr; cases hr), fun j hj => ?_⟩
    by_cases hji : j = i
    · subst hji; exact hy.wpOp hi (key listed w hc hS) ⟨key2 listed w hc hS, H⟩
    · have := ready_mono hj hji
      rw [H.1] at this
      cases this
  | succ fuel ih =>
    intro listed a w hc hfree hr hy hS H
    refine ⟨fun h => (by rw [h] at hr; cases hr), fun j hj => ?_⟩
    by_cases hji : j = i
    · subst hji; exact hy.wpOp hi (key listed w hc hS) ⟨key2 listed w hc hS, H⟩
    · have h1 := H.2 j (ready_mono hj hji)
      obtain ⟨hjun, oj, hoj, hall⟩ := mem_ready.1 hj
      have hnot : ∀ e ∈ oj.after, Region.binds md e = true → e.on ≠ i := fun e he hb heq => by
        have h1 := hall e he hb
        have h0 := (mem_ready.1 hr).1
        rw [heq] at h1
        rcases Nat.lt_or_ge i listed.size with h' | h'
        · simp [h'] at h0 h1; rw [h0] at h1; cases h1
        · simp [Array.getElem?_eq_none h'] at h1
      have h2 := wpOp_putIf hoj (hfree j oj hoj hji hjun hnot) (fun cs b => hsel i oi cs b hi) (fun cs b => hsel j oj cs b hoj) hQ hy h1
      have hc' : (∀ w, T w) ∨ (listed.setIfInBounds j true).getD c true = false := by
        rcases hT with hT | ⟨_, _, ⟨oc, hoc, e, he, hb, hei⟩, _⟩
        · exact Or.inl hT
        · rcases hc with hc | hc
          · exact Or.inl hc
          · refine Or.inr ?_
            have hjc : j ≠ c := by
              rintro rfl
              rw [hoc] at hoj
              injection hoj with hoj
              subst hoj
              exact hnot e he hb hei
            rw [getD_set_ne true hjc]; exact hc
      have hfree' : ∀ k ok, ops[k]? = some ok → k ≠ i → (listed.setIfInBounds j true).getD k true = false →
          (∀ e ∈ ok.after, Region.binds md e = true → e.on ≠ i) → oi.apart ops ok = true := fun k ok hk hki hun hno => by
        refine hfree k ok hk hki ?_ hno
        by_cases hjk : j = k
        · subst hjk; exact hjun
        · rw [getD_set_ne true hjk] at hun; exact hun
      refine wpOp_mono (fun a' w' h3 => ?_) h2
      have hS' : GateS gate S (listed.setIfInBounds j true) w' := fun ⟨d, hd, hf⟩ => by
        have hGij := h3.2.1
        have hdi : d ≠ i := fun e => hig (e ▸ hd)
        exact hGij ⟨d, hd, by rw [Array.setIfInBounds_comm _ _ (Ne.symm hji), getD_set_ne true (Ne.symm hdi)]; exact hf⟩
      refine ⟨hS', ih (listed.setIfInBounds j true) a' w' hc' hfree' (ready_mono hr (Ne.symm hji)) h3.1 hS' ?_⟩
      rw [Array.setIfInBounds_comm _ _ hji]
      exact h3.2.2

theorem wpAnyG_take {i : Nat} {oi : Oper} {v : Value} {fuel : Nat} {listed : Array Bool} {a : Act} {w : World} (hi : ops[i]? = some oi) (hig : i ∉ gate)
    (hs : Region.noSelect ops = true) (hf : Region.free md ops listed i = true) (hr : (Region.ready md ops listed).contains i = true)
    (hQ : ∀ c a w, Q (.panic c) (a.put oi.dst v) w → Q (.panic c) a w) (hy : Yields P ops oi v a) (hS : GateS gate S listed w)
    (h : GateS gate S listed w → wpAnyG P md ops Q S gate fuel (listed.setIfInBounds i true) (a.put oi.dst v) w) : wpAnyG P md ops Q S gate (fuel + 1) listed a w :=
  wpAnyG_first (T := fun _ => True) (c := 0) hi (Region.noSelect_spec hs) hQ hig (Or.inl fun _ => trivial) fuel listed a w (Or.inl fun _ => trivial) (Region.free_spec hi hf) (by simpa using hr)
    hy.yieldsIf hS (h hS)

/-- That operation c waits for i. -/
def waits (md : Region.Mode) (ops : Array Oper) (c i : Nat) : Bool := match ops[c]? with | some oc => oc.after.any fun e => Region.binds md e && (e.on == i) | none => false
theorem waits_of {c i : Nat} (h : waits md ops c i = true) : ∃ oc, ops[c]? = some oc ∧ ∃ e ∈ oc.after, Region.binds md e = true ∧ e.on = i := by
  unfold waits at h
  split at h
  · rename_i oc hoc
    obtain ⟨e, he, hb⟩ := Array.any_eq_true'.1 h
    rw [Bool.and_eq_true, beq_iff_eq] at hb
    exact ⟨oc, hoc, e, he, hb⟩
  · cases h
theorem wpAnyG_load {i c : Nat} {oi : Oper} {v : Value} {fuel : Nat} {listed : Array Bool} {a : Act} {w : World} (hi : ops[i]? = some oi) (hig : i ∉ gate) (hc : (c ≠ i ∧ c ∈ gate) ∧ listed.getD c true = false) (hw : waits md ops c i = true)
    (hs : Region.noSelect ops = true) (hf : Region.free md ops listed i = true) (hr : (Region.ready md ops listed).contains i = true)
    (hQ : ∀ c a w, Q (.panic c) (a.put oi.dst v) w → Q (.panic c) a w) (hy : YieldsIf P ops S oi v a) (hS : GateS gate S listed w)
    (h : GateS gate S listed w → wpAnyG P md ops Q S gate fuel (listed.setIfInBounds i true) (a.put oi.dst v) w) : wpAnyG P md ops Q S gate (fuel + 1) listed a w :=
  wpAnyG_first (T := S) (c := c) hi (Region.noSelect_spec hs) hQ hig (Or.inr ⟨hc.1.1, hc.1.2, waits_of hw, fun _ h => h⟩) fuel listed a w (Or.inr hc.2) (Region.free_spec hi hf) (by simpa using hr) hy hS (h hS)
/-- One operation alone may come up. -/
theorem wpAnyG_one {i : Nat} {o : Oper} {fuel : Nat} {listed : Array Bool} {a : Act} {w : World} (hr : Region.ready md ops listed = [i]) (ho : ops[i]? = some o)
    (h : ∀ K' : Act → World → Prop, Shut (∀ a w, GateS gate S (listed.setIfInBounds i true) w → (GateS gate S (listed.setIfInBounds i true) w → wpAnyG P md ops Q S gate fuel (listed.setIfInBounds i true) a w) → K' a w) → if Region.wanted o (yielded ops a.tmps) = true then Oper.wp P o a w K' Q else K' (a.put o.dst undef) w) :
    wpAnyG P md ops Q S gate (fuel + 1) listed a w :=
  ⟨fun h0 => absurd (hr.symm.trans h0) (List.cons_ne_nil _ _), fun j hj => by
    rw [hr, List.mem_singleton] at hj
    subst hj
    exact wpOp_step ho (fun K' hK => h K' (fun a w hS hW => hK a w ⟨hS, hW hS⟩))⟩
/-- Two operations may come up. -/
theorem wpAnyG_two {i j : Nat} {o o' : Oper} {fuel : Nat} {listed : Array Bool} {a : Act} {w : World} (hr : Region.ready md ops listed = [i, j]) (ho : ops[i]? = some o) (ho' : ops[j]? = some o')
    (h : ∀ K' : Act → World → Prop, Shut (∀ a w, GateS gate S (listed.setIfInBounds i true) w → (GateS gate S (listed.setIfInBounds i true) w → wpAnyG P md ops Q S gate fuel (listed.setIfInBounds i true) a w) → K' a w) → if Region.wanted o (yielded ops a.tmps) = true then Oper.wp P o a w K' Q else K' (a.put o.dst undef) w)
    (h' : ∀ K' : Act → World → Prop, Shut (∀ a w, GateS gate S (listed.setIfInBounds j true) w → (GateS gate S (listed.setIfInBounds j true) w → wpAnyG P md ops Q S gate fuel (listed.setIfInBounds j true) a w) → K' a w) → if Region.wanted o' (yielded ops a.tmps) = true then Oper.wp P o' a w K' Q else K' (a.put o'.dst undef) w) :
    wpAnyG P md ops Q S gate (fuel + 1) listed a w :=
  ⟨fun h0 => absurd (hr.symm.trans h0) (List.cons_ne_nil _ _), fun k hk => by
    rw [hr] at hk
    rcases List.mem_cons.1 hk with rfl | hk
    · exact wpOp_step ho (fun K' hK => h K' (fun a w hS hW => hK a w ⟨hS, hW hS⟩))
    · rw [List.mem_singleton] at hk
      subst hk
      exact wpOp_step ho' (fun K' hK => h' K' (fun a w hS hW => hK a w ⟨hS, hW hS⟩))⟩
/-- Three operations may come up. -/
theorem wpAnyG_three {i j k : Nat} {o o' o2 : Oper} {fuel : Nat} {listed : Array Bool} {a : Act} {w : World} (hr : Region.ready md ops listed = [i, j, k]) (ho : ops[i]? = some o) (ho' : ops[j]? = some o') (ho2 : ops[k]? = some o2)
    (h : ∀ K' : Act → World → Prop, Shut (∀ a w, GateS gate S (listed.setIfInBounds i true) w → (GateS gate S (listed.setIfInBounds i true) w → wpAnyG P md ops Q S gate fuel (listed.setIfInBounds i true) a w) → K' a w) → if Region.wanted o (yielded ops a.tmps) = true then Oper.wp P o a w K' Q else K' (a.put o.dst undef) w)
    (h' : ∀ K' : Act → World → Prop, Shut (∀ a w, GateS gate S (listed.setIfInBounds j true) w → (GateS gate S (listed.setIfInBounds j true) w → wpAnyG P md ops Q S gate fuel (listed.setIfInBounds j true) a w) → K' a w) → if Region.wanted o' (yielded ops a.tmps) = true then Oper.wp P o' a w K' Q else K' (a.put o'.dst undef) w)
    (h2 : ∀ K' : Act → World → Prop, Shut (∀ a w, GateS gate S (listed.setIfInBounds k true) w → (GateS gate S (listed.setIfInBounds k true) w → wpAnyG P md ops Q S gate fuel (listed.setIfInBounds k true) a w) → K' a w) → if Region.wanted o2 (yielded ops a.tmps) = true then Oper.wp P o2 a w K' Q else K' (a.put o2.dst undef) w) :
    wpAnyG P md ops Q S gate (fuel + 1) listed a w :=
  ⟨fun h0 => absurd (hr.symm.trans h0) (List.cons_ne_nil _ _), fun m hm => by
    rw [hr] at hm
    rcases List.mem_cons.1 hm with rfl | hm
    · exact wpOp_step ho (fun K' hK => h K' (fun a w hS hW => hK a w ⟨hS, hW hS⟩))
    · rcases List.mem_cons.1 hm with rfl | hm
      · exact wpOp_step ho' (fun K' hK => h' K' (fun a w hS hW => hK a w ⟨hS, hW hS⟩))
      · rw [List.mem_singleton] at hm
        subst hm
        exact wpOp_step ho2 (fun K' hK => h2 K' (fun a w hS hW => hK a w ⟨hS, hW hS⟩))⟩
theorem wpAnyG_open : ∀ (fuel : Nat) (listed : Array Bool) (a : Act) (w : World), (∀ c ∈ gate, listed.getD c true = true) → wpAny P md ops Q fuel listed a w → wpAnyG P md ops Q S gate fuel listed a w
  | 0, _, _, _, _, h => h
  | fuel + 1, listed, _, _, hg, h => ⟨h.1, fun i hi => wpOp_mono (fun a' w' h' => by
      have hg' : ∀ c ∈ gate, (listed.setIfInBounds i true).getD c true = true := fun c hc => by
        by_cases hci : i = c
        · subst hci
          rcases Nat.lt_or_ge i listed.size with h1 | h1
          · simp [h1]
          · rw [Array.setIfInBounds_eq_of_size_le h1]; exact hg i hc
        · rw [getD_set_ne true hci]; exact hg c hc
      exact ⟨fun ⟨c, hc, hf⟩ => absurd ((hg' c hc).symm.trans hf) (by decide), wpAnyG_open fuel _ a' w' hg' h'⟩) (h.2 i hi)⟩
theorem wp_region_gate {id : Nat} {a : Act} {w : World} (hm : P.follows .mixedOrders = true) (h : wpAnyG P .any ops Q S gate ops.size (Array.replicate ops.size false) a w.drew) : (Code.region id ops true).wp P Q a w :=
  wp_region_any hm (wpAny_of_gate _ _ _ _ h)
theorem GateS.vac {listed : Array Bool} {w : World} (h : ∀ c ∈ gate, listed.getD c true = true) : GateS gate S listed w := fun ⟨c, hc, hf⟩ => absurd ((h c hc).symm.trans hf) (by decide)
theorem GateS.of {listed : Array Bool} {w : World} (h : S w) : GateS gate S listed w := fun _ => h
end
end Go.Proofs.Ytigjipjkollohaa
