/-
  ARGUMENTS OPENED: a list of acts, each with an asker and what it asked.
-/
import Derived.Test.YtigjipjkollohaaActs
import Derived.Test.YtigjipjkollohaaOpenOne
namespace Go.Proofs.Ytigjipjkollohaa.G
open Go.RowKit Go.ChangeShapes Go.WideShapes Go.Deep

theorem head_of {cs : List Value} {o c : Nat} {v : Value} (h : (cs.drop o).take c = [v]) : cs[o]? = some v := by
  have h1 := congrArg (fun l => l[0]?) h
  simp only [List.getElem?_take, List.getElem?_drop] at h1
  split at h1
  · simpa using h1
  · simp at h1
theorem flatN_at {α : Type} (vals : α → List Value) {size : Nat} (hv : ∀ x, (vals x).length = size) : ∀ (l : List α) (k j : Nat), (hk : k < l.length) → j < size → (l.flatMap vals)[k * size + j]? = (vals l[k])[j]?
  | x :: r, 0, j, _, hj => by
    rw [List.flatMap_cons, Nat.zero_mul, Nat.zero_add, List.getElem?_append_left (by rw [hv]; exact hj)]
    rfl
  | x :: r, k + 1, j, hk, hj => by
    rw [List.flatMap_cons, List.getElem?_append_right (by rw [hv, Nat.add_mul]; omega), hv, show (k + 1) * size + j - size = k * size + j by rw [Nat.add_mul]; omega, flatN_at vals hv r k j (by simpa using hk) hj]
    rfl
theorem flatN_len {α : Type} (vals : α → List Value) {size : Nat} (hv : ∀ x, (vals x).length = size) : ∀ l : List α, (l.flatMap vals).length = l.length * size
  | [] => by simp
  | x :: r => by rw [List.flatMap_cons, List.length_append, hv, flatN_len vals hv r, List.length_cons, Nat.add_mul]; omega

section
variable {H : Type} {enc : TypeId × Value → H} {P : Program} {w : World}
/-- A slice that came in, of elements of so many cells. -/
theorem open_list {α : Type} (size : Nat) (vals : α → List Value) (hv : ∀ x, (vals x).length = size) (hs0 : 0 < size) {t e : TypeId} {fuel : Nat} {cs : List Value} {y : DataW H × List MemPlace} (ht : P.underlying t = some (.slice e)) (hC : P.cellsOf e = size)
    (h : DataW.trod enc P w 0 (fun _ => true) true fuel t cs = some y) (Q : α → Prop) (hel : ∀ n us z, us.length = size → DataW.trod enc P w 0 (fun _ => true) true n e us = some z → ∃ x, us = vals x ∧ Q x) :
    ∃ (A : Option Addr) (n c : Nat) (xs : List α), cs = [.slice A n c] ∧ n = xs.length ∧ n ≤ c ∧ c ≤ maxLen ∧ (A = none → c = 0) ∧ Reads w w.heap.size size A n (xs.flatMap vals) ∧ ∀ x ∈ xs, Q x := by
  rcases open_slice ht h with ⟨hcs, _⟩ | ⟨a, len, cap, m, n, D, Pl, hcs, _, hl, hm, hmm, _, hi⟩
  · exact ⟨none, 0, 0, [], hcs, rfl, by omega, by omega, fun _ => rfl, Reads.none_, fun x hx => by cases hx⟩
  · have hle : len ≤ m := by rw [hmm]; simpa using hl
    have hx : ∀ i, i < len → ∃ x : α, (∀ j, j < size → w.cell? ((a.add (i * size)).add j) = (vals x)[j]?) ∧ Q x := by
      intro i hil
      obtain ⟨cs', hc, ht'⟩ := hi i (by omega)
      rw [hC] at hc
      obtain ⟨_, hcl, hat⟩ := World.cells?_some hc
      obtain ⟨x, rfl, hq⟩ := hel _ _ _ hcl ht'
      exact ⟨x, hat, hq⟩
    obtain ⟨xs, hlen, hR⟩ := list_of (R := fun i (x : α) => (∀ j, j < size → w.cell? ((a.add (i * size)).add j) = (vals x)[j]?) ∧ Q x) len hx
    refine ⟨some a, len, cap, xs, hcs, hlen.symm, hl, hm, (fun h => by cases h), ⟨by rw [flatN_len vals hv, hlen], fun h0 => ⟨a, rfl, ?_, fun j u hu => ?_⟩⟩, fun x hx => ?_⟩
    · have h1 := (hR 0 (by omega)).1 0 hs0
      have hv0 : (vals (xs[0]'(by omega)))[0]? = some ((vals (xs[0]'(by omega)))[0]'(by rw [hv]; exact hs0)) := List.getElem?_eq_getElem _
      rw [hv0] at h1
      have := World.block_lt_of_cell? _ _ h1
      rwa [block_of_add, block_of_add] at this
    · have hj : j < xs.length * size := by
        rcases Nat.lt_or_ge j (xs.length * size) with hj | hj
        · exact hj
        · rw [List.getElem?_eq_none (by rw [flatN_len vals hv]; exact hj)] at hu; cases hu
      have hk : j / size < xs.length := Nat.div_lt_of_lt_mul (by rw [Nat.mul_comm]; exact hj)
      have hm2 : j % size < size := Nat.mod_lt _ hs0
      have hjj : j / size * size + j % size = j := by rw [Nat.mul_comm]; exact Nat.div_add_mod j size
      have h1 := (hR (j / size) hk).1 (j % size) hm2
      rw [add_of_add, hjj] at h1
      rw [h1, ← flatN_at vals hv xs (j / size) (j % size) hk hm2, hjj]
      exact hu
    · obtain ⟨k, hk, rfl⟩ := List.mem_iff_getElem.1 hx
      exact (hR k hk).2

variable {n o j : Nat} {ty : TypeId} {cs : List Value} {xs : List (DataW H × List MemPlace)}
theorem fld_int (hf : DataW.trod enc P w 0 (fun _ => true) true n ty ((cs.drop o).take (P.cellsOf ty)) = xs[j]?) (hj : j < xs.length) (he : P.underlying ty = some (.int .i64)) : ∃ k, cs[o]? = some (.int .i64 k) ∧ (Lit.int .i64 k).wf = true := by
  rw [List.getElem?_eq_getElem hj] at hf
  obtain ⟨k, hk, _, hw⟩ := DataW.trod_int he hf
  exact ⟨k, head_of hk, hw⟩
theorem fld_bool (hf : DataW.trod enc P w 0 (fun _ => true) true n ty ((cs.drop o).take (P.cellsOf ty)) = xs[j]?) (hj : j < xs.length) (he : P.underlying ty = some .bool) : ∃ b, cs[o]? = some (.bool b) := by
  rw [List.getElem?_eq_getElem hj] at hf
  obtain ⟨k, hk, _⟩ := DataW.trod_bool he hf
  exact ⟨k, head_of hk⟩
theorem fld_str (hf : DataW.trod enc P w 0 (fun _ => true) true n ty ((cs.drop o).take (P.cellsOf ty)) = xs[j]?) (hj : j < xs.length) (he : P.underlying ty = some .string) : ∃ l : List UInt8, cs[o]? = some (.string ⟨l.toArray⟩) ∧ l.length ≤ maxLen := by
  rw [List.getElem?_eq_getElem hj] at hf
  obtain ⟨s, hs, _, hl⟩ := DataW.trod_string he hf
  refine ⟨s.data.toList, by simpa using head_of hs, ?_⟩
  have : s.data.toList.length = s.size := by simp
  omega
end

section
variable {H : Type} {enc : TypeId × Value → H} {w : World}
theorem cells3 {cs : List Value} (h : cs.length = 3) {a b c : Value} (h0 : cs[0]? = some a) (h1 : cs[1]? = some b) (h2 : cs[2]? = some c) : cs = [a, b, c] := by
  match cs, h with
  | [x, y, z], _ =>
    injection h0 with h0
    injection h1 with h1
    injection h2 with h2
    subst h0 h1 h2
    rfl
theorem cells5 {cs : List Value} (h : cs.length = 5) {a b c d e : Value} (h0 : cs[0]? = some a) (h1 : cs[1]? = some b) (h2 : cs[2]? = some c) (h3 : cs[3]? = some d) (h4 : cs[4]? = some e) : cs = [a, b, c, d, e] := by
  match cs, h with
  | [x, y, z, u, v], _ =>
    injection h0 with h0
    injection h1 with h1
    injection h2 with h2
    injection h3 with h3
    injection h4 with h4
    subst h0 h1 h2 h3 h4
    rfl
theorem open_qn {n : Nat} {cs : List Value} {z : DataW H × List MemPlace} (hl : cs.length = 3) (h : DataW.trod enc Try.prog w 0 (fun _ => true) true n 61 cs = some z) : ∃ x : QnD, cs = x.vals ∧ x.name.length ≤ maxLen := by
  obtain ⟨xs, m, _, _, _, hlen, hf⟩ := DataW.trod_struct Try.underlying61 h
  have hlen : xs.length = 3 := hlen
  obtain ⟨a, h0, ha⟩ := fld_str (o := 0) (ty := 9) (hf 0 _ rfl) (by omega) Try.underlying9
  obtain ⟨b, h1, _⟩ := fld_int (o := 1) (ty := 3) (hf 1 _ rfl) (by omega) Try.underlying3
  obtain ⟨c, h2, _⟩ := fld_int (o := 2) (ty := 3) (hf 2 _ rfl) (by omega) Try.underlying3
  exact ⟨⟨a, b, c⟩, cells3 hl h0 h1 h2, ha⟩
theorem open_rr {n : Nat} {cs : List Value} {z : DataW H × List MemPlace} (hl : cs.length = 5) (h : DataW.trod enc Try.prog w 0 (fun _ => true) true n 69 cs = some z) : ∃ x : RrD, cs = x.vals ∧ x.ok := by
  obtain ⟨xs, m, _, _, _, hlen, hf⟩ := DataW.trod_struct Try.underlying69 h
  have hlen : xs.length = 5 := hlen
  obtain ⟨a, h0, ha⟩ := fld_str (o := 0) (ty := 9) (hf 0 _ rfl) (by omega) Try.underlying9
  obtain ⟨b, h1, _⟩ := fld_int (o := 1) (ty := 3) (hf 1 _ rfl) (by omega) Try.underlying3
  obtain ⟨c, h2, _⟩ := fld_int (o := 2) (ty := 3) (hf 2 _ rfl) (by omega) Try.underlying3
  obtain ⟨d, h3, _⟩ := fld_int (o := 3) (ty := 3) (hf 3 _ rfl) (by omega) Try.underlying3
  obtain ⟨e, h4, he⟩ := fld_str (o := 4) (ty := 9) (hf 4 _ rfl) (by omega) Try.underlying9
  exact ⟨⟨a, b, c, d, e⟩, cells5 hl h0 h1 h2 h3 h4, ha, he⟩
theorem cells_qn : Try.prog.cellsOf 61 = 3 := by kernel_rfl
theorem cells_rr : Try.prog.cellsOf 69 = 5 := by kernel_rfl
theorem fld_qs {n o j : Nat} {cs : List Value} {xs : List (DataW H × List MemPlace)} (hf : DataW.trod enc Try.prog w 0 (fun _ => true) true n 30 ((cs.drop o).take (Try.prog.cellsOf 30)) = xs[j]?) (hj : j < xs.length) :
    ∃ A c, ∃ l : List QnD, cs[o]? = some (.slice A l.length c) ∧ (A = none → c = 0) ∧ Reads w w.heap.size 3 A l.length (qnsV l) ∧ ∀ x ∈ l, x.name.length ≤ maxLen := by
  rw [List.getElem?_eq_getElem hj] at hf
  obtain ⟨A, m, c, l, hcs, rfl, _, _, hn, hr, hq⟩ := open_list 3 QnD.vals (fun _ => rfl) (by omega) Try.underlying30 cells_qn hf (fun x => x.name.length ≤ maxLen) (fun n us z hl h => open_qn hl h)
  exact ⟨A, c, l, head_of hcs, hn, hr, hq⟩
theorem fld_rs {n o j : Nat} {cs : List Value} {xs : List (DataW H × List MemPlace)} (hf : DataW.trod enc Try.prog w 0 (fun _ => true) true n 31 ((cs.drop o).take (Try.prog.cellsOf 31)) = xs[j]?) (hj : j < xs.length) :
    ∃ A c, ∃ l : List RrD, (cs[o]? = some (.slice A l.length c) ∧ (A = none → c = 0) ∧ Reads w w.heap.size 5 A l.length (rrsV l)) ∧ (∀ x ∈ l, x.ok) ∧ l.length ≤ maxLen := by
  rw [List.getElem?_eq_getElem hj] at hf
  obtain ⟨A, m, c, l, hcs, rfl, hc, hcm, hn, hr, hq⟩ := open_list 5 RrD.vals (fun _ => rfl) (by omega) Try.underlying31 cells_rr hf (fun x => x.ok) (fun n us z hl h => open_rr hl h)
  exact ⟨A, c, l, ⟨head_of hcs, hn, hr⟩, hq, by omega⟩
theorem cells_act : Try.prog.cellsOf 37 = 21 := by kernel_rfl
theorem cells_ask : Try.prog.cellsOf 35 = 18 := by kernel_rfl
theorem cells_msg : Try.prog.cellsOf 33 = 14 := by kernel_rfl
theorem sub_at {cs : List Value} {o c j : Nat} (h : j < c) : ((cs.drop o).take c)[j]? = cs[o + j]? := by rw [List.getElem?_take, if_pos h, List.getElem?_drop]
theorem all_one {x : Array Value} (h : ∀ j, j < x.size → ∃ v, x[j]? = some v ∧ v.oneCell' = true) : x.all (·.oneCell') = true := by
  rw [Array.all_eq_true_iff_forall_mem]
  intro u hu
  obtain ⟨j, hj, rfl⟩ := Array.mem_iff_getElem.1 hu
  obtain ⟨v, hv, h1⟩ := h j hj
  rw [Array.getElem?_eq_getElem hj] at hv
  injection hv with hv
  rw [hv]; exact h1
theorem open_act {n : Nat} {cs : List Value} {y : DataW H × List MemPlace} (hl : cs.length = 21) (h : DataW.trod enc Try.prog w 0 (fun _ => true) true n 37 cs = some y) : ∃ z : Array Value, cs = z.toList ∧ z.size = 21 ∧ ∃ kind nn dd x M, ActIn w z kind nn dd x M := by
  obtain ⟨xs, m, _, _, _, hlen, hf⟩ := DataW.trod_struct Try.underlying37 h
  have hlen : xs.length = 4 := hlen
  obtain ⟨kind, hk, _⟩ := fld_int (o := 0) (ty := 3) (hf 0 _ rfl) (by omega) Try.underlying3
  obtain ⟨nn, hnn, wn⟩ := fld_int (o := 19) (ty := 3) (hf 2 _ rfl) (by omega) Try.underlying3
  obtain ⟨dd, hdd, wd⟩ := fld_int (o := 20) (ty := 3) (hf 3 _ rfl) (by omega) Try.underlying3
  have ha : DataW.trod enc Try.prog w 0 (fun _ => true) true m 35 ((cs.drop 1).take (Try.prog.cellsOf 35)) = xs[1]? := hf 1 _ rfl
  rw [List.getElem?_eq_getElem (by omega), cells_ask] at ha
  obtain ⟨ys, m2, _, _, _, hylen, hg⟩ := DataW.trod_struct Try.underlying35 ha
  have hylen : ys.length = 5 := hylen
  obtain ⟨cl, g0, _⟩ := fld_int (o := 0) (ty := 3) (hg 0 _ rfl) (by omega) Try.underlying3
  obtain ⟨po, g1, _⟩ := fld_int (o := 1) (ty := 3) (hg 1 _ rfl) (by omega) Try.underlying3
  obtain ⟨jo, g2, wj⟩ := fld_int (o := 2) (ty := 3) (hg 2 _ rfl) (by omega) Try.underlying3
  obtain ⟨ca, g3, wc⟩ := fld_int (o := 3) (ty := 3) (hg 3 _ rfl) (by omega) Try.underlying3
  have hm : DataW.trod enc Try.prog w 0 (fun _ => true) true m2 33 ((((cs.drop 1).take 18).drop 4).take (Try.prog.cellsOf 33)) = ys[4]? := hg 4 _ rfl
  rw [List.getElem?_eq_getElem (by omega), cells_msg] at hm
  obtain ⟨vs, m3, _, _, _, hvlen, hh⟩ := DataW.trod_struct Try.underlying33 hm
  have hvlen : vs.length = 14 := hvlen
  obtain ⟨b0, e0, _⟩ := fld_int (o := 0) (ty := 3) (hh 0 _ rfl) (by omega) Try.underlying3
  obtain ⟨b1, e1⟩ := fld_bool (o := 1) (ty := 4) (hh 1 _ rfl) (by omega) Try.underlying4
  obtain ⟨b2, e2, _⟩ := fld_int (o := 2) (ty := 3) (hh 2 _ rfl) (by omega) Try.underlying3
  obtain ⟨b3, e3⟩ := fld_bool (o := 3) (ty := 4) (hh 3 _ rfl) (by omega) Try.underlying4
  obtain ⟨b4, e4⟩ := fld_bool (o := 4) (ty := 4) (hh 4 _ rfl) (by omega) Try.underlying4
  obtain ⟨b5, e5⟩ := fld_bool (o := 5) (ty := 4) (hh 5 _ rfl) (by omega) Try.underlying4
  obtain ⟨b6, e6⟩ := fld_bool (o := 6) (ty := 4) (hh 6 _ rfl) (by omega) Try.underlying4
  obtain ⟨b7, e7, _⟩ := fld_int (o := 7) (ty := 3) (hh 7 _ rfl) (by omega) Try.underlying3
  obtain ⟨A8, c8, q, e8, n8, r8, k8⟩ := fld_qs (o := 8) (hh 8 _ rfl) (by omega)
  obtain ⟨A9, c9, a, ⟨e9, n9, r9⟩, k9, l9⟩ := fld_rs (o := 9) (hh 9 _ rfl) (by omega)
  obtain ⟨A10, c10, s, ⟨e10, n10, r10⟩, k10, l10⟩ := fld_rs (o := 10) (hh 10 _ rfl) (by omega)
  obtain ⟨A11, c11, d, ⟨e11, n11, r11⟩, k11, l11⟩ := fld_rs (o := 11) (hh 11 _ rfl) (by omega)
  obtain ⟨b12, e12⟩ := fld_bool (o := 12) (ty := 4) (hh 12 _ rfl) (by omega) Try.underlying4
  obtain ⟨b13, e13, _⟩ := fld_int (o := 13) (ty := 3) (hh 13 _ rfl) (by omega) Try.underlying3
  clear hf hg hh h ha hm
  rw [sub_at (by omega)] at e0 e1 e2 e3 e4 e5 e6 e7 e8 e9 e10 e11 e12 e13
  obtain ⟨x, hx⟩ : ∃ x : Array Value, ((cs.drop 1).take 18).toArray = x := ⟨_, rfl⟩
  have hxl : x.toList = (cs.drop 1).take 18 := by rw [← hx]
  rw [← hxl] at g0 g1 g2 g3 e0 e1 e2 e3 e4 e5 e6 e7 e8 e9 e10 e11 e12 e13
  rw [Array.getElem?_toList] at g0 g1 g2 g3 e0 e1 e2 e3 e4 e5 e6 e7 e8 e9 e10 e11 e12 e13
  have hxs : x.size = 18 := by rw [← hx, List.size_toArray, List.length_take, List.length_drop, hl]; rfl
  have hone : x.all (·.oneCell') = true := all_one (fun j hj => by
    rw [hxs] at hj
    match j, hj with
    | 0, _ => exact ⟨_, g0, rfl⟩
    | 1, _ => exact ⟨_, g1, rfl⟩
    | 2, _ => exact ⟨_, g2, rfl⟩
    | 3, _ => exact ⟨_, g3, rfl⟩
    | 4, _ => exact ⟨_, e0, rfl⟩
    | 5, _ => exact ⟨_, e1, rfl⟩
    | 6, _ => exact ⟨_, e2, rfl⟩
    | 7, _ => exact ⟨_, e3, rfl⟩
    | 8, _ => exact ⟨_, e4, rfl⟩
    | 9, _ => exact ⟨_, e5, rfl⟩
    | 10, _ => exact ⟨_, e6, rfl⟩
    | 11, _ => exact ⟨_, e7, rfl⟩
    | 12, _ => exact ⟨_, e8, rfl⟩
    | 13, _ => exact ⟨_, e9, rfl⟩
    | 14, _ => exact ⟨_, e10, rfl⟩
    | 15, _ => exact ⟨_, e11, rfl⟩
    | 16, _ => exact ⟨_, e12, rfl⟩
    | 17, _ => exact ⟨_, e13, rfl⟩
    | j + 18, hj => omega)
  have hzone : cs.toArray.all (·.oneCell') = true := all_one (fun j hj => by
    rw [List.size_toArray, hl] at hj
    rw [List.getElem?_toArray]
    by_cases h0 : j = 0
    · subst h0; exact ⟨_, hk, rfl⟩
    · by_cases h19 : j = 19
      · subst h19; exact ⟨_, hnn, rfl⟩
      · by_cases h20 : j = 20
        · subst h20; exact ⟨_, hdd, rfl⟩
        · have hj1 : j - 1 < x.size := by omega
          have hv : x[j - 1]? = cs[j]? := by rw [← Array.getElem?_toList, hxl, sub_at (by omega), show 1 + (j - 1) = j by omega]
          refine ⟨x[j - 1], by rw [← hv]; exact Array.getElem?_eq_getElem hj1, ?_⟩
          exact (Array.all_eq_true_iff_forall_mem.1 hone) _ (Array.getElem_mem hj1))
  refine ⟨cs.toArray, by simp, by simpa using hl, kind, nn, dd, x, ⟨cl, po, jo, ca, b0, b1, b2, b3, b4, b5, b6, b7, q, a, s, d, b12, b13⟩, ?_⟩
  exact {
    size := by simpa using hl
    one := hzone
    kind := by rw [List.getElem?_toArray]; exact hk
    ask := by simpa using hx.symm
    cn := by rw [List.getElem?_toArray]; exact hnn
    cd := by rw [List.getElem?_toArray]; exact hdd
    wfn := wn
    wfd := wd
    g := ⟨hxs, hone⟩
    sc := ⟨g0, g1, g2, g3, e0, e1, e2, e3, e4, e5, e6, e7, e12, e13⟩
    in_ := ⟨⟨A8, c8, e8, n8, r8⟩, ⟨A9, c9, e9, n9, r9⟩, ⟨A10, c10, e10, n10, r10⟩, ⟨A11, c11, e11, n11, r11⟩⟩
    wfj := wj
    wfc := wc
    qok := k8
    aok := k9
    sok := k10
    dok := k11
    len := ⟨l9, l10, l11⟩ }
/-- '[]Act'. -/
theorem open_acts {fuel : Nat} {cs : List Value} {y : DataW H × List MemPlace} (h : DataW.trod enc Try.prog w 0 (fun _ => true) true fuel 22 cs = some y) :
    ∃ (A : Option Addr) (n c : Nat) (zs : List (Array Value)), cs = [.slice A n c] ∧ n = zs.length ∧ Reads w w.heap.size 21 A n (zs.flatMap Array.toList) ∧ ∀ z ∈ zs, ∃ kind nn dd x M, ActIn w z kind nn dd x M := by
  obtain ⟨A, n, c, xs, hcs, hn, _, _, _, hr, hq⟩ := open_list (α := { z : Array Value // z.size = 21 }) 21 (fun z => z.1.toList) (fun z => by rw [Array.length_toList]; exact z.2) (by omega) Try.underlying22 cells_act h (fun z => ∃ kind nn dd x M, ActIn w z.1 kind nn dd x M)
    (fun n us z hl h => by obtain ⟨z, h1, h2, h3⟩ := open_act hl h; exact ⟨⟨z, h2⟩, h1, h3⟩)
  refine ⟨A, n, c, xs.map (·.1), hcs, by rw [List.length_map]; exact hn, ?_, fun z hz => ?_⟩
  · rw [List.flatMap_map]; exact hr
  · obtain ⟨p, hp, rfl⟩ := List.mem_map.1 hz
    exact hq p hp
end
end Go.Proofs.Ytigjipjkollohaa.G
