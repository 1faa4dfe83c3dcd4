/- For every input LeastTells returns true, and each argument reads behind the call as it read before. No condition beyond the given row. -/
import Derived.Test.YtofffkhipmoojaaLeastTellsWalk
import Derived.Test.YtofffkhipmoojaaOpen
import Derived.ProofKit
namespace Go.Proofs.Ytofffkhipmoojaa.leastTells
open Go.ChangeShapes Go.WideShapes Go.ChangeAt Go.RowKit Go.Deep

theorem own : ownKnob Try.prog.godebug = none := by kernel_rfl
theorem laidOut : laidOutB Try.prog = true := by kernel_rfl
theorem cellsCfg : Try.prog.cellsOf 24 = 9 := by kernel_rfl
theorem cellsSrv : Try.prog.cellsOf 27 = 2 := by kernel_rfl

section
variable {H : Type} {enc : TypeId × Value → H} {W : World}

/-- A slice of servers that came in, as a list of hints. -/
theorem open_hints {fuel : Nat} {v : Value} {y : DataW H × List MemPlace} (h : DataW.trod enc Try.prog W 0 (fun _ => true) true fuel 22 [v] = some y) :
    ∃ (A : Option Addr) (n c : Nat) (hs : List (List UInt8 × Int)), v = .slice A n c ∧ n = hs.length ∧ Hints W W.heap.size A hs ∧ (∀ x ∈ hs, x.1.length ≤ maxLen) := by
  rcases open_slice_fields Try.underlying22 Try.underlying27 (by kernel_rfl) cellsSrv h with ⟨hcs, _⟩ | ⟨a, len, cap, m, D, Pl, hcs, _, hl, hm, hmm, _, hi⟩
  · obtain rfl : v = .slice none 0 0 := by simpa using hcs
    exact ⟨none, 0, 0, [], rfl, rfl, Hints.nil _ _ _, fun x hx => by cases hx⟩
  · obtain rfl : v = .slice (some a) len cap := by simpa using hcs
    have hle : len ≤ m := by rw [hmm]; simpa using hl
    have hx : ∀ i, i < len → ∃ x : List UInt8 × Int, W.cell? (a.add (i * 2)) = some (strV x.1) ∧ W.cell? (a.add (i * 2 + 1)) = some (.int .i64 x.2) ∧ x.1.length ≤ maxLen := by
      intro i hil
      obtain ⟨ys, n, _, _, _, hf⟩ := hi i (by omega)
      obtain ⟨u0, y0, hc0, _, ht0⟩ := hf 0 _ rfl
      obtain ⟨u1, y1, hc1, _, ht1⟩ := hf 1 _ rfl
      obtain ⟨s, e0, _, hs⟩ := DataW.trod_string Try.underlying9 ht0
      obtain ⟨k, e1, _, _⟩ := DataW.trod_int Try.underlying3 ht1
      simp only [List.cons.injEq, and_true] at e0 e1
      subst e0 e1
      refine ⟨(s.data.toList, k), by simpa [strV] using hc0, by simpa using hc1, ?_⟩
      show s.data.toList.length ≤ maxLen
      have : s.data.toList.length = s.size := by simp
      omega
    obtain ⟨hs, hlen, hR⟩ := list_of (R := fun i (x : List UInt8 × Int) => W.cell? (a.add (i * 2)) = some (strV x.1) ∧ W.cell? (a.add (i * 2 + 1)) = some (.int .i64 x.2) ∧ x.1.length ≤ maxLen) len hx
    refine ⟨some a, len, cap, hs, rfl, hlen.symm, fun h0 => ⟨a, rfl, ?_, fun k hk => ⟨(hR k hk).1, (hR k hk).2.1⟩⟩, fun x hx => ?_⟩
    · have := World.block_lt_of_cell? _ _ (hR 0 h0).1
      rwa [block_of_add] at this
    · obtain ⟨k, hk, rfl⟩ := List.mem_iff_getElem.1 hx
      exact (hR k hk).2.2
theorem array9 {vs : Array Value} (h : vs.size = 9) : ∃ a b c d e f g i j, vs = #[a, b, c, d, e, f, g, i, j] := by
  obtain ⟨l⟩ := vs
  match l, h with
  | [a, b, c, d, e, f, g, i, j], _ => exact ⟨a, b, c, d, e, f, g, i, j, rfl⟩
end

set_option maxRecDepth 100000 in
theorem lifted (os : Os) (started : os.Started) (H : Type) (enc : TypeId × Value → H) :
    ReturnsInHanded {} Try.checked os 3 .any (Rows.leastTellsSpec.pre6 enc Try.prog Try.f3 Rows.leastTellsRow.domain false) (Rows.leastTellsSpec.post enc Try.prog Try.f3 false true false false) := by
  refine returnsInHanded_of_change (C := Try.checked) own started (by kernel_rfl) Try.func3
    (ChangeSpec.witness6 (enc := enc) (C := Try.checked) false ⟨#[], #[.agg #[.slice none 0 0, .int .i64 0, .int .i64 0, .int .i64 0, .int .i64 0, .int .i64 0, .int .i64 0, .int .i64 0, .int .i64 0]], []⟩ 8 (by kernel_rfl) (by kernel_rfl) (by kernel_rfl) (by kernel_rfl)) ?_
  intro W base args ds gs before hval0 hW _ _
  have hval : ∀ (j : Nat) t v, Try.f3.params[j]? = some t → args[j]? = some v → Value.okWide Try.prog W .any base t v := hval0
  have hW' := hW
  obtain ⟨p, q, hA0, hV, rfl, _, _⟩ := hW
  have hA : DataW.TrodAll enc Try.prog W 0 (fun _ => true) true Try.f3.params.toList args.toList ds p := hA0
  rw [Try.params3] at hA hval
  obtain ⟨v0, d0, rfl, rfl, h0⟩ := trodAll_one hA
  obtain ⟨rfl, rfl⟩ := trodVars_none hV
  obtain ⟨vs, ys, n, rfl, hsz, _, _, _, hf⟩ := open_agg_fields Try.underlying24 (by kernel_rfl) cellsCfg (hval 0 24 v0 rfl rfl) h0
  obtain ⟨x0, x1, x2, x3, x4, x5, x6, x7, x8, rfl⟩ := array9 hsz
  obtain ⟨u0, y0, e0, _, t0⟩ := hf 0 _ rfl
  obtain ⟨u1, y1, e1, _, t1⟩ := hf 1 _ rfl
  obtain ⟨u2, y2, e2, _, t2⟩ := hf 2 _ rfl
  obtain ⟨u3, y3, e3, _, t3⟩ := hf 3 _ rfl
  obtain ⟨u4, y4, e4, _, t4⟩ := hf 4 _ rfl
  obtain ⟨u5, y5, e5, _, t5⟩ := hf 5 _ rfl
  obtain ⟨u6, y6, e6, _, t6⟩ := hf 6 _ rfl
  obtain ⟨u7, y7, e7, _, t7⟩ := hf 7 _ rfl
  obtain ⟨u8, y8, e8, _, t8⟩ := hf 8 _ rfl
  simp at e0 e1 e2 e3 e4 e5 e6 e7 e8
  subst e0 e1 e2 e3 e4 e5 e6 e7 e8
  obtain ⟨A, len, cap, hs, rfl, hn, hH, hss⟩ := open_hints t0
  obtain ⟨k1, g1, _, _⟩ := DataW.trod_int Try.underlying3 t1
  obtain ⟨k2, g2, _, _⟩ := DataW.trod_int Try.underlying3 t2
  obtain ⟨k3, g3, _, _⟩ := DataW.trod_int Try.underlying3 t3
  obtain ⟨k4, g4, _, _⟩ := DataW.trod_int Try.underlying3 t4
  obtain ⟨k5, g5, _, _⟩ := DataW.trod_int Try.underlying3 t5
  obtain ⟨k6, g6, _, _⟩ := DataW.trod_int Try.underlying3 t6
  obtain ⟨k7, g7, _, _⟩ := DataW.trod_int Try.underlying3 t7
  obtain ⟨k8, g8, _, _⟩ := DataW.trod_int Try.underlying3 t8
  simp only [List.cons.injEq, and_true] at g1 g2 g3 g4 g5 g6 g7 g8
  subst g1 g2 g3 g4 g5 g6 g7 g8
  clear hA0 hval0
  refine (tells_any A len cap hs k1 k2 k3 k4 k5 k6 k7 k8 W hn hH hss).mono fun e W1 ⟨he, hg⟩ => ?_
  subst he
  exact ⟨_, rfl, law_end rfl rfl Try.underlying4 laidOut (readable_all (by rw [Try.params3]; kernel_rfl)) hW' rfl hg⟩

theorem proved : Rows.LeastTellsSaid :=
  OpenClaim.holds_of_wide 3 Try.f3 rfl rfl rfl rfl rfl rfl rfl ⟨rfl, rfl, rfl, rfl, rfl⟩ rfl rfl rfl rfl rfl (by kernel_rfl) Try.func3 (by kernel_rfl)
    (of_decide_eq_true (by kernel_rfl)) (by unfold Func.isWrapper; first | (rw [if_pos (by decide +kernel)]; kernel_rfl) | (rw [if_neg (by decide +kernel)]; exact ⟨rfl, rfl⟩))
    (fun os started H enc _ => lifted os started H enc)
#print axioms proved
end Go.Proofs.Ytofffkhipmoojaa.leastTells
