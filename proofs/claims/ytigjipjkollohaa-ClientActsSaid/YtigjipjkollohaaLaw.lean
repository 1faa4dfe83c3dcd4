/-
  THE LAST STEP OF EVERY LAW, no program: where the call returns true and nothing that was there has turned, the row's post holds.
-/
import Derived.Test.YtigjipjkollohaaWords
import Derived.WideKeyArgs
import Derived.OpenShut
import Derived.SizedLaws
import Derived.Deep.Slices
import Derived.Deep.Fields
import Derived.Lib.SmallJoins
namespace Go.Proofs.Ytigjipjkollohaa
open Go.RowKit Go.WideShapes Go.ChangeShapes Go.Deep

section
variable {H : Type} {enc : TypeId × Value → H} {P : Program}

theorem trodAll_below (hl : laidOutB P = true) {W W' : World} (hb : Below W.heap.size W W') (sp : Nat → Bool) :
    ∀ (ts : List TypeId) (vs : List Value) (ds : List (DataW H)) (ps : List MemPlace), (∀ t ∈ ts, P.readableRec t = true ∧ t < P.types.size) →
      DataW.TrodAll enc P W 0 (fun _ => true) true ts vs ds ps → (∀ p ∈ ps, p.block < W.heap.size) → (∀ p ∈ ps, sp p.block = true) → DataW.TrodAll enc P W' 0 sp true ts vs ds ps
  | [], vs, ds, ps, _, h, _, _ => by
    cases vs <;> cases ds <;> simp_all [DataW.TrodAll]
  | t :: ts, vs, ds, ps, hr, h, hlt, hsp => by
    obtain ⟨v, vs', d, ds', p, q, rfl, rfl, rfl, h0, h1⟩ := trodAll_cons h
    refine ⟨p, q, ?_, ?_, rfl⟩
    · exact WideElems.Trod_stays hl (hr t (by simp)).1 (hr t (by simp)).2 h0 (fun x hx => hb.same (hlt x (by simp [hx]))) (fun x hx => hsp x (by simp [hx]))
    · exact trodAll_below hl hb sp ts vs' ds' q (fun t ht => hr t (by simp [ht])) h1 (fun x hx => hlt x (by simp [hx])) (fun x hx => hsp x (by simp [hx]))

theorem readable_all {ts : List TypeId} (h : ts.all (fun t => P.readableRec t && decide (t < P.types.size)) = true) : ∀ t ∈ ts, P.readableRec t = true ∧ t < P.types.size := fun t ht => by
  have := List.all_eq_true.1 h t ht
  simpa using this

/-- The law's end. -/
theorem law_end {s : ChangeSpec} {f : Func} {tb : TypeId} (hvars : s.vars = []) (hres : f.resultTypes = #[tb]) (htb : P.underlying tb = some .bool) (hl : laidOutB P = true)
    (hr : ∀ t ∈ f.params.toList, P.readableRec t = true ∧ t < P.types.size) {apart fresh handsOn again : Bool} {W W' : World} {args : Array Value} {ds gs : List (DataW H)} {before : List MemPlace}
    (hW : DataW.Whole enc P f.params.toList s.vars apart W args.toList ds gs before) (hfn : s.fn H (ds ++ gs) = { results := [.lit (.bool true)], args := ds })
    (hb : Below W.heap.size W W') : s.post enc P f apart fresh handsOn again W args (.bool true) W' := by
  have hW0 := hW
  obtain ⟨p, q, hA, hV, rfl, _, _⟩ := hW
  have hq : q = [] := by
    rw [hvars] at hV
    cases gs <;> simp_all [DataW.TrodVars]
  subst hq
  have hlt : ∀ x ∈ p, x.block < W.heap.size := fun x hx => hW0.lt x (by simp [hx])
  refine post_of_below (pa := p) (pv := []) hW0 ?_ ?_ ?_ rfl hb ?_
  · intro b sp hd
    rw [hfn, hres]
    exact trodAll_cons_mk (shut_bool htb _) trodAll_mk0
  · intro sp hsp
    rw [hfn]
    exact trodAll_below hl hb sp _ _ _ _ hr hA hlt (fun x hx => hsp x (by simp [hx]))
  · intro sp _
    rw [hfn, hvars]
    rfl
  · rw [hres]
    intro j t r hj hrj
    match j, hj, hrj with
    | 0, hj, hrj =>
      simp at hj
      subst hj
      obtain rfl : r = .bool true := by
        have h2 : (#[tb] : Array TypeId).size = 1 := rfl
        rw [h2] at hrj
        simpa [Value.resultList] using hrj.symm
      exact okWide_bool_mk htb _
end
end Go.Proofs.Ytigjipjkollohaa
