/-
  A region that draws its order, its loads taken first as long as one of the operations 'gate' has not come up: behind them the stores may write what was loaded.
-/
import Derived.Test.YtigjipjkollohaaFrame
namespace Go.Proofs.Ytigjipjkollohaa
open Go

section
variable {P : Program} {ops : Array Oper} {Q : Exit → Act → World → Prop} {md : Region.Mode} {S : World → Prop} {gate : List Nat}

/-- S holds while one of 'gate' has not come up. -/
def GateS (gate : List Nat) (S : World → Prop) (listed : Array Bool) (w : World) : Prop := (∃ c ∈ gate, listed.getD c true = false) → S w
def wpAnyG (P : Program) (md : Region.Mode) (ops : Array Oper) (Q : Exit → Act → World → Prop) (S : World → Prop) (gate : List Nat) : Nat → Array Bool → Act → World → Prop
  | 0, listed, a, w => Region.ready md ops listed = [] ∧ Q .normal a w
  | fuel + 1, listed, a, w =>
    (Region.ready md ops listed = [] → Q .normal a w) ∧
    ∀ i ∈ Region.ready md ops listed, wpOp P ops Q i (fun a' w' => GateS gate S (listed.setIfInBounds i true) w' ∧ wpAnyG P md ops Q S gate fuel (listed.setIfInBounds i true) a' w') a w

theorem wpAny_of_gate : ∀ (fuel : Nat) (listed : Array Bool) (a : Act) (w : World), wpAnyG P md ops Q S gate fuel listed a w → wpAny P md ops Q fuel listed a w
  | 0, _, _, _, h => h
  | fuel + 1, _, _, _, h => ⟨h.1, fun i hi => wpOp_mono (fun a' w' h' => wpAny_of_gate fuel _ a' w' h'.2) (h.2 i hi)⟩

/-- Of two operations that may both come up now neither waits for the other. -/
theorem no_wait {listed : Array Bool} {i j : Nat} {oj : Oper} (hr : i ∈ Region.ready md ops listed) (hj : j ∈ Region.ready md ops listed) (hoj : ops[j]? = some oj) : ∀ e ∈ oj.after, Region.binds md e = true → e.on ≠ i := by
  obtain ⟨_, o2, h2, hall⟩ := mem_ready.1 hj
  obtain rfl : oj = o2 := Option.some.inj (hoj.symm.trans h2)
  have hi := (mem_ready.1 hr).1
  intro e he hb hei
  have hd := hall e he hb
  rw [hei, Array.getD_eq_getD_getElem?] at hd
  rw [Array.getD_eq_getD_getElem?] at hi
  cases hg : listed[i]? with
  | none => rw [hg] at hd; cases hd
  | some b =>
    rw [hg] at hd hi
    have h1 : b = true := hd
    have h2 : b = false := hi
    rw [h1] at h2
    cases h2
/-- What is asked of an operation that is to be taken first. -/
structure First (md : Region.Mode) (ops : Array Oper) (Q : Exit → Act → World → Prop) (S : World → Prop) (gate : List Nat) (i : Nat) (oi : Oper) (v : Value) (T : World → Prop) (c : Nat) : Prop where
  at_ : ops[i]? = some oi
  plain : ∀ (j : Nat) (o : Oper) cs b, ops[j]? = some o → o.op ≠ .select cs b
  out : ∀ c a w, Q (.panic c) (a.put oi.dst v) w → Q (.panic c) a w
  outside : i ∉ gate
  feeds : (∀ w, T w) ∨ (c ∈ gate ∧ (∃ oc, ops[c]? = some oc ∧ ∃ e ∈ oc.after, Region.binds md e = true ∧ e.on = i) ∧ ∀ w, S w → T w)
/-- T holds where the gate is still shut for c. -/
theorem First.holds {i c : Nat} {oi : Oper} {v : Value} {T : World → Prop} (f : First md ops Q S gate i oi v T c) {listed : Array Bool} {w : World} (hc : (∀ w, T w) ∨ listed.getD c true = false) (hG : GateS gate S listed w) : T w := by
  rcases f.feeds with h | ⟨hcg, _, hST⟩
  · exact h w
  · rcases hc with h | h
    · exact h w
    · exact hST w (hG ⟨c, hcg, h⟩)
theorem First.more {i c : Nat} {oi : Oper} {v : Value} {T : World → Prop} (f : First md ops Q S gate i oi v T c) {listed : Array Bool} {w : World} (hG : GateS gate S listed w) : GateS gate S (listed.setIfInBounds i true) w := fun ⟨d, hd, hf⟩ =>
  hG ⟨d, hd, (getD_set_ne true (show i ≠ d from fun e => f.outside (by rw [e]; exact hd))).symm.trans hf⟩
theorem First.less {i c j : Nat} {oi : Oper} {v : Value} {T : World → Prop} (f : First md ops Q S gate i oi v T c) (hji : j ≠ i) {listed : Array Bool} {w : World} (hG : GateS gate S ((listed.setIfInBounds i true).setIfInBounds j true) w) : GateS gate S (listed.setIfInBounds j true) w := fun ⟨d, hd, hf⟩ =>
  hG ⟨d, hd, by rw [Array.setIfInBounds_comm _ _ (Ne.symm hji), getD_set_ne true (show i ≠ d from fun e => f.outside (by rw [e]; exact hd))]; exact hf⟩
/-- An operation that feeds one of the gate's may be taken first if it yields its value in every world that meets S. -/
theorem wpAnyG_first {i c : Nat} {oi : Oper} {v : Value} {T : World → Prop} (f : First md ops Q S gate i oi v T c) :
    ∀ (fuel : Nat) (listed : Array Bool) (a : Act) (w : World), ((∀ w, T w) ∨ listed.getD c true = false) →
      (∀ j oj, ops[j]? = some oj → j ≠ i → listed.getD j true = false → (∀ e ∈ oj.after, Region.binds md e = true → e.on ≠ i) → oi.apart ops oj = true) →
      i ∈ Region.ready md ops listed → YieldsIf P ops T oi v a → GateS gate S listed w →
      wpAnyG P md ops Q S gate fuel (listed.setIfInBounds i true) (a.put oi.dst v) w → wpAnyG P md ops Q S gate (fuel + 1) listed a w
  | fuel, listed, a, w, hc, hap, hr, hy, hS, H => ⟨fun h0 => absurd (h0 ▸ hr) (List.not_mem_nil), fun j hj => if hji : j = i then by
      subst hji
      exact hy.wpOp f.at_ (f.holds hc hS) ⟨f.more hS, H⟩
    else by
      have hj2 := ready_mono hj hji
      obtain ⟨hun, oj, hoj, _⟩ := mem_ready.1 hj
      have hno := no_wait hr hj hoj
      match fuel, H with
      | 0, H => exact absurd (H.1 ▸ hj2) (List.not_mem_nil)
      | fuel + 1, H =>
        have step := wpOp_putIf hoj (hap j oj hoj hji hun hno) (fun cs b => f.plain i oi cs b f.at_) (fun cs b => f.plain j oj cs b hoj) f.out hy (H.2 j hj2)
        refine wpOp_mono (fun a' w' ⟨hy', hG, hW⟩ => ⟨f.less hji hG, ?_⟩) step
        rw [Array.setIfInBounds_comm _ _ (Ne.symm hji)] at hW
        refine wpAnyG_first f fuel _ a' w' ?_ (fun k ok hk hki hun2 hno2 => hap k ok hk hki ?_ hno2) (ready_mono hr (Ne.symm hji)) hy' (f.less hji hG) hW
        · rcases f.feeds with h | ⟨_, ⟨oc, hoc, e, he, hb, hei⟩, _⟩
          · exact Or.inl h
          · rcases hc with h | h
            · exact Or.inl h
            · refine Or.inr ((getD_set_ne true (fun hjc => ?_)).trans h)
              rw [hjc, hoc] at hoj
              exact hno e (Option.some.inj hoj ▸ he) hb hei
        · by_cases hkj : j = k
          · rw [← hkj]; exact hun
          · rwa [getD_set_ne true hkj] at hun2⟩

theorem wpAnyG_take {i : Nat} {oi : Oper} {v : Value} {fuel : Nat} {listed : Array Bool} {a : Act} {w : World} (hi : ops[i]? = some oi) (hig : i ∉ gate)
    (hs : Region.noSelect ops = true) (hf : Region.free md ops listed i = true) (hr : (Region.ready md ops listed).contains i = true)
    (hQ : ∀ c a w, Q (.panic c) (a.put oi.dst v) w → Q (.panic c) a w) (hy : Yields P ops oi v a) (hS : GateS gate S listed w)
    (h : GateS gate S listed w → wpAnyG P md ops Q S gate fuel (listed.setIfInBounds i true) (a.put oi.dst v) w) : wpAnyG P md ops Q S gate (fuel + 1) listed a w :=
  wpAnyG_first (T := fun _ => True) (c := 0) ⟨hi, Region.noSelect_spec hs, hQ, hig, Or.inl fun _ => trivial⟩ fuel listed a w (Or.inl fun _ => trivial) (Region.free_spec hi hf) (by simpa using hr) hy.yieldsIf hS (h hS)

/-- That operation c waits for i. -/
def waits (md : Region.Mode) (ops : Array Oper) (c i : Nat) : Bool := match ops[c]? with | some oc => oc.after.any fun e => Region.binds md e && (e.on == i) | none => false
theorem waits_of {c i : Nat} (h : waits md ops c i = true) : ∃ oc, ops[c]? = some oc ∧ ∃ e ∈ oc.after, Region.binds md e = true ∧ e.on = i := by
  unfold waits at h
  split at h
  · rename_i oc hoc
    obtain ⟨e, he, hb⟩ := Array.any_eq_true'.1 h
    rw [Bool.and_eq_true, beq_iff_eq] at hb
    exact ⟨oc, hoc, e, he, hb⟩
  · cases h
theorem wpAnyG_load {i c : Nat} {oi : Oper} {v : Value} {fuel : Nat} {listed : Array Bool} {a : Act} {w : World} (hi : ops[i]? = some oi) (hig : i ∉ gate) (hc : (c ≠ i ∧ c ∈ gate) ∧ listed.getD c true = false) (hw : waits md ops c i = true)
    (hs : Region.noSelect ops = true) (hf : Region.free md ops listed i = true) (hr : (Region.ready md ops listed).contains i = true)
    (hQ : ∀ c a w, Q (.panic c) (a.put oi.dst v) w → Q (.panic c) a w) (hy : YieldsIf P ops S oi v a) (hS : GateS gate S listed w)
    (h : GateS gate S listed w → wpAnyG P md ops Q S gate fuel (listed.setIfInBounds i true) (a.put oi.dst v) w) : wpAnyG P md ops Q S gate (fuel + 1) listed a w :=
  wpAnyG_first (T := S) (c := c) ⟨hi, Region.noSelect_spec hs, hQ, hig, Or.inr ⟨hc.1.2, waits_of hw, fun _ h => h⟩⟩ fuel listed a w (Or.inr hc.2) (Region.free_spec hi hf) (by simpa using hr) hy hS (h hS)
/-- One operation alone may come up. -/
theorem wpAnyG_one {i : Nat} {o : Oper} {fuel : Nat} {listed : Array Bool} {a : Act} {w : World} (hr : Region.ready md ops listed = [i]) (ho : ops[i]? = some o)
    (h : ∀ K' : Act → World → Prop, Shut (∀ a w, GateS gate S (listed.setIfInBounds i true) w → (GateS gate S (listed.setIfInBounds i true) w → wpAnyG P md ops Q S gate fuel (listed.setIfInBounds i true) a w) → K' a w) → if Region.wanted o (yielded ops a.tmps) = true then Oper.wp P o a w K' Q else K' (a.put o.dst undef) w) :
    wpAnyG P md ops Q S gate (fuel + 1) listed a w :=
  ⟨fun h0 => absurd (hr.symm.trans h0) (List.cons_ne_nil _ _), fun j hj => by
    rw [hr, List.mem_singleton] at hj
    subst hj
    exact wpOp_step ho (fun K' hK => h K' (fun a w hS hW => hK a w ⟨hS, hW hS⟩))⟩
/-- Two operations may come up. -/
theorem wpAnyG_two {i j : Nat} {o o' : Oper} {fuel : Nat} {listed : Array Bool} {a : Act} {w : World} (hr : Region.ready md ops listed = [i, j]) (ho : ops[i]? = some o) (ho' : ops[j]? = some o')
    (h : ∀ K' : Act → World → Prop, Shut (∀ a w, GateS gate S (listed.setIfInBounds i true) w → (GateS gate S (listed.setIfInBounds i true) w → wpAnyG P md ops Q S gate fuel (listed.setIfInBounds i true) a w) → K' a w) → if Region.wanted o (yielded ops a.tmps) = true then Oper.wp P o a w K' Q else K' (a.put o.dst undef) w)
    (h' : ∀ K' : Act → World → Prop, Shut (∀ a w, GateS gate S (listed.setIfInBounds j true) w → (GateS gate S (listed.setIfInBounds j true) w → wpAnyG P md ops Q S gate fuel (listed.setIfInBounds j true) a w) → K' a w) → if Region.wanted o' (yielded ops a.tmps) = true then Oper.wp P o' a w K' Q else K' (a.put o'.dst undef) w) :
    wpAnyG P md ops Q S gate (fuel + 1) listed a w :=
  ⟨fun h0 => absurd (hr.symm.trans h0) (List.cons_ne_nil _ _), fun k hk => by
    rw [hr] at hk
    rcases List.mem_cons.1 hk with rfl | hk
    · exact wpOp_step ho (fun K' hK => h K' (fun a w hS hW => hK a w ⟨hS, hW hS⟩))
    · rw [List.mem_singleton] at hk
      subst hk
      exact wpOp_step ho' (fun K' hK => h' K' (fun a w hS hW => hK a w ⟨hS, hW hS⟩))⟩
/-- Three operations may come up. -/
theorem wpAnyG_three {i j k : Nat} {o o' o2 : Oper} {fuel : Nat} {listed : Array Bool} {a : Act} {w : World} (hr : Region.ready md ops listed = [i, j, k]) (ho : ops[i]? = some o) (ho' : ops[j]? = some o') (ho2 : ops[k]? = some o2)
    (h : ∀ K' : Act → World → Prop, Shut (∀ a w, GateS gate S (listed.setIfInBounds i true) w → (GateS gate S (listed.setIfInBounds i true) w → wpAnyG P md ops Q S gate fuel (listed.setIfInBounds i true) a w) → K' a w) → if Region.wanted o (yielded ops a.tmps) = true then Oper.wp P o a w K' Q else K' (a.put o.dst undef) w)
    (h' : ∀ K' : Act → World → Prop, Shut (∀ a w, GateS gate S (listed.setIfInBounds j true) w → (GateS gate S (listed.setIfInBounds j true) w → wpAnyG P md ops Q S gate fuel (listed.setIfInBounds j true) a w) → K' a w) → if Region.wanted o' (yielded ops a.tmps) = true then Oper.wp P o' a w K' Q else K' (a.put o'.dst undef) w)
    (h2 : ∀ K' : Act → World → Prop, Shut (∀ a w, GateS gate S (listed.setIfInBounds k true) w → (GateS gate S (listed.setIfInBounds k true) w → wpAnyG P md ops Q S gate fuel (listed.setIfInBounds k true) a w) → K' a w) → if Region.wanted o2 (yielded ops a.tmps) = true then Oper.wp P o2 a w K' Q else K' (a.put o2.dst undef) w) :
    wpAnyG P md ops Q S gate (fuel + 1) listed a w :=
  ⟨fun h0 => absurd (hr.symm.trans h0) (List.cons_ne_nil _ _), fun m hm => by
    rw [hr] at hm
    rcases List.mem_cons.1 hm with rfl | hm
    · exact wpOp_step ho (fun K' hK => h K' (fun a w hS hW => hK a w ⟨hS, hW hS⟩))
    · rcases List.mem_cons.1 hm with rfl | hm
      · exact wpOp_step ho' (fun K' hK => h' K' (fun a w hS hW => hK a w ⟨hS, hW hS⟩))
      · rw [List.mem_singleton] at hm
        subst hm
        exact wpOp_step ho2 (fun K' hK => h2 K' (fun a w hS hW => hK a w ⟨hS, hW hS⟩))⟩
theorem wpAnyG_open : ∀ (fuel : Nat) (listed : Array Bool) (a : Act) (w : World), (∀ c ∈ gate, listed.getD c true = true) → wpAny P md ops Q fuel listed a w → wpAnyG P md ops Q S gate fuel listed a w
  | 0, _, _, _, _, h => h
  | fuel + 1, listed, _, _, hg, h => ⟨h.1, fun i hi => wpOp_mono (fun a' w' h' => by
      have hg' : ∀ c ∈ gate, (listed.setIfInBounds i true).getD c true = true := fun c hc => by
        by_cases hci : i = c
        · subst hci
          rcases Nat.lt_or_ge i listed.size with h1 | h1
          · simp [h1]
          · rw [Array.setIfInBounds_eq_of_size_le h1]; exact hg i hc
        · rw [getD_set_ne true hci]; exact hg c hc
      exact ⟨fun ⟨c, hc, hf⟩ => absurd ((hg' c hc).symm.trans hf) (by decide), wpAnyG_open fuel _ a' w' hg' h'⟩) (h.2 i hi)⟩
theorem wp_region_gate {id : Nat} {a : Act} {w : World} (hm : P.follows .mixedOrders = true) (h : wpAnyG P .any ops Q S gate ops.size (Array.replicate ops.size false) a w.drew) : (Code.region id ops true).wp P Q a w :=
  wp_region_any hm (wpAny_of_gate _ _ _ _ h)
theorem GateS.vac {listed : Array Bool} {w : World} (h : ∀ c ∈ gate, listed.getD c true = true) : GateS gate S listed w := fun ⟨c, hc, hf⟩ => absurd ((h c hc).symm.trans hf) (by decide)
theorem GateS.of {listed : Array Bool} {w : World} (h : S w) : GateS gate S listed w := fun _ => h
end
end Go.Proofs.Ytigjipjkollohaa
