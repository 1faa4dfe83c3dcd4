/- For every input WnameWrites returns true, and each argument reads behind the call as it read before. No condition beyond the given row. -/
import Derived.Test.YtkbbilcohoodlaaWnameWrites
import Derived.Test.YtkbbilcohoodlaaOpenOne
import Derived.WalkKit
import Derived.ProofKit
import Derived.OpenShut
namespace Go.Proofs.Ytkbbilcohoodlaa.wnameWrites
open Go.ChangeShapes Go.WideShapes Go.ChangeAt Go.RowKit

theorem own : ownKnob Try.prog.godebug = none := by kernel_rfl
theorem laidOut : laidOutB Try.prog = true := by kernel_rfl
theorem cells_u8 : Try.prog.cellsOf 5 = 1 := by kernel_rfl
theorem cellsAct : Try.prog.cellsOf 46 = 4 := by kernel_rfl
section
variable {H : Type} {enc : TypeId × Value → H} {W : World}

theorem actsV_length : ∀ l : List ActD, (actsV l).length = l.length * 4
  | [] => rfl
  | x :: r => by
    have := actsV_length r
    show (x.vals ++ actsV r).length = _
    rw [List.length_append, this, List.length_cons]
    show 4 + _ = _
    omega
theorem actsV_back : ∀ (l : List ActD) (i : Nat) (u : Value), (actsV l)[i]? = some u → ∃ k j, i = k * 4 + j ∧ j < 4 ∧ ∃ h : k < l.length, l[k].vals[j]? = some u
  | [], i, u, h => by simp [actsV] at h
  | x :: r, i, u, h => by
    have hv : x.vals.length = 4 := rfl
    replace h : (x.vals ++ actsV r)[i]? = some u := h
    by_cases hi : i < 4
    · rw [List.getElem?_append_left (by omega)] at h
      exact ⟨0, i, by omega, hi, by simp, h⟩
    · rw [List.getElem?_append_right (by omega), hv] at h
      obtain ⟨k, j, e, hj, hk, hu⟩ := actsV_back r (i - 4) u h
      exact ⟨k + 1, j, by omega, hj, by simpa using hk, by simpa using hu⟩
/-- A slice of acts that came in. -/
theorem open_acts {fuel : Nat} {v : Value} {y : DataW H × List MemPlace} (h : DataW.trod enc Try.prog W 0 (fun _ => true) true fuel 39 [v] = some y) :
    ∃ (A : Option Addr) (n c : Nat) (l : List ActD), v = .slice A n c ∧ n = l.length ∧ n ≤ maxLen ∧ Reads W W.heap.size 4 A n (actsV l) ∧ ∀ x ∈ l, x.ok W := by
  rcases open_slice_fields Try.underlying39 Try.underlying46 (by kernel_rfl) cellsAct h with ⟨hcs, _⟩ | ⟨a, len, cap, m, D, Pl, hcs, _, hl, hm, hmm, _, hi⟩
  · obtain rfl : v = .slice none 0 0 := by simpa using hcs
    exact ⟨none, 0, 0, [], rfl, rfl, by omega, Reads.none_, fun x hx => by cases hx⟩
  · obtain rfl : v = .slice (some a) len cap := by simpa using hcs
    have hle : len ≤ m := by rw [hmm]; simpa using hl
    have hx : ∀ i, i < len → ∃ x : ActD, (∀ j, j < 4 → W.cell? (a.add (i * 4 + j)) = x.vals[j]?) ∧ x.ok W := by
      intro i hil
      obtain ⟨ys, n, _, _, _, hf⟩ := hi i (by omega)
      obtain ⟨u0, y0, hc0, _, ht0⟩ := hf 0 _ rfl
      obtain ⟨u1, y1, hc1, _, ht1⟩ := hf 1 _ rfl
      obtain ⟨u2, y2, hc2, _, ht2⟩ := hf 2 _ rfl
      obtain ⟨u3, y3, hc3, _, ht3⟩ := hf 3 _ rfl
      obtain ⟨k0, e0, _, _⟩ := DataW.trod_int Try.underlying3 ht0
      obtain ⟨Ab, nb, cb, bs, e1, hb1, hb2, hb3, _, hb4, _⟩ := open_one (fun x : UInt8 => byteV x) Try.underlying22 cells_u8 ht1 (fun _ => True) (fun m u z hz => by
        obtain ⟨k, hk, _, hw⟩ := DataW.trod_int Try.underlying5 hz
        obtain ⟨x, rfl⟩ := byte_of_wf hw
        refine ⟨x, ?_, trivial⟩
        simpa [byteV] using hk)
      obtain ⟨k2, e2, _, _⟩ := DataW.trod_int Try.underlying3 ht2
      obtain ⟨s, e3, _, hs⟩ := DataW.trod_string Try.underlying9 ht3
      simp only [List.cons.injEq, and_true] at e0 e2 e3
      subst e0 e1 e2 e3
      have hsl : s.data.toList.length = s.size := by simp
      refine ⟨⟨k0, Ab, nb, cb, bs, k2, s.data.toList⟩, fun j hj => ?_, hb1, hb4, (by show nb ≤ maxLen; omega), (by show s.data.toList.length ≤ maxLen; omega)⟩
      match j, hj with
      | 0, _ => exact hc0
      | 1, _ => exact hc1
      | 2, _ => exact hc2
      | 3, _ => exact hc3
    obtain ⟨l, hlen, hR⟩ := list_of (R := fun i (x : ActD) => (∀ j, j < 4 → W.cell? (a.add (i * 4 + j)) = x.vals[j]?) ∧ x.ok W) len hx
    refine ⟨some a, len, cap, l, rfl, hlen.symm, by omega, ⟨?_, fun h0 => ⟨a, rfl, ?_, fun i u hu => ?_⟩⟩, fun x hx => ?_⟩
    · rw [← hlen]; clear hR hx; exact actsV_length l
    · have := World.block_lt_of_cell? _ _ ((hR 0 (by omega)).1 0 (by omega))
      rwa [block_of_add] at this
    · obtain ⟨k, j, rfl, hj, hk, hu⟩ := actsV_back l i u hu
      rw [(hR k hk).1 j hj]; exact hu
    · obtain ⟨k, hk, rfl⟩ := List.mem_iff_getElem.1 hx
      exact (hR k hk).2
end

set_option maxRecDepth 100000 in
theorem lifted (os : Os) (started : os.Started) (H : Type) (enc : TypeId × Value → H) :
    ReturnsInHanded {} Try.checked os 6 .any (Rows.wnameWritesSpec.pre6 enc Try.prog Try.f6 Rows.wnameWritesRow.domain false) (Rows.wnameWritesSpec.post enc Try.prog Try.f6 false true false false) := by
  refine returnsInHanded_of_change (C := Try.checked) own started (by kernel_rfl) Try.func6
    (ChangeSpec.witness6 (enc := enc) (C := Try.checked) false ⟨#[], #[.int .i64 0, .slice none 0 0], []⟩ 8 (by kernel_rfl) (by kernel_rfl) (by kernel_rfl) (by kernel_rfl)) ?_
  intro W base args ds gs before hval0 hW _ _
  have hval : ∀ (j : Nat) t v, Try.f6.params[j]? = some t → args[j]? = some v → Value.okWide Try.prog W .any base t v := hval0
  have hW' := hW
  obtain ⟨p, q, hA0, hV, rfl, _, _⟩ := hW
  have hA : DataW.TrodAll enc Try.prog W 0 (fun _ => true) true Try.f6.params.toList args.toList ds p := hA0
  rw [Try.params6] at hA hval
  obtain ⟨v0, vs0, d0, ds0, p0, q0, hargs, rfl, rfl, h0, r0⟩ := trodAll_cons hA
  obtain ⟨v1, vs1, d1, ds1, p1, q1, rfl, rfl, rfl, h1, r1⟩ := trodAll_cons r0
  obtain ⟨rfl, rfl, rfl⟩ := trodAll_nil r1
  obtain rfl : args = #[v0, v1] := by cases args; simp_all
  obtain ⟨rfl, rfl⟩ := trodVars_none hV
  obtain ⟨a0, rfl, rfl, rfl, w0⟩ := open_int Try.underlying3 (hval 0 3 v0 rfl rfl) h0
  obtain ⟨b1, l1, m1, rfl⟩ := okWide_slice Try.underlying39 (hval 1 39 v1 rfl rfl)
  obtain ⟨f1, t1⟩ := h1
  obtain ⟨A1, n1, c1, x1, e1, hl1, hn1, hr1, hx1⟩ := open_acts (by simpa [Value.cells] using t1)
  injection e1 with g01 g11 g21
  subst g01 g11 g21
  clear hA0 hval0
  refine (walkWnameWrites a0 b1 l1 m1 x1 W w0 hl1 hn1 hr1 hx1).mono fun e W1 ⟨he, hg⟩ => ?_
  subst he
  exact ⟨_, rfl, law_end rfl rfl Try.underlying4 laidOut (readable_all (by rw [Try.params6]; kernel_rfl)) hW' rfl hg⟩

theorem proved : Rows.WnameWritesSaid :=
  OpenClaim.holds_of_wide 6 Try.f6 rfl rfl rfl rfl rfl rfl rfl ⟨rfl, rfl, rfl, rfl, rfl⟩ rfl rfl rfl rfl rfl (by kernel_rfl) Try.func6 (by kernel_rfl)
    (of_decide_eq_true (by kernel_rfl)) (by unfold Func.isWrapper; first | (rw [if_pos (by decide +kernel)]; kernel_rfl) | (rw [if_neg (by decide +kernel)]; exact ⟨rfl, rfl⟩))
    (fun os started H enc _ => lifted os started H enc)
#print axioms proved
end Go.Proofs.Ytkbbilcohoodlaa.wnameWrites
