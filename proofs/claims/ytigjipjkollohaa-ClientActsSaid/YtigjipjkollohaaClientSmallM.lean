/-
  What Small tells: a message's lists are short.
-/
import Derived.Test.YtigjipjkollohaaClientRRs
namespace Go.Proofs.Ytigjipjkollohaa
open Go.RowKit

/-- A question. -/
structure QnD where
  name : List UInt8
  typ : Int
  cls : Int
def QnD.vals (x : QnD) : List Value := [.string ⟨x.name.toArray⟩, .int .i64 x.typ, .int .i64 x.cls]
def qnsV (l : List QnD) : List Value := l.flatMap QnD.vals
theorem qnsV_at : ∀ (l : List QnD) (k j : Nat), (h : k < l.length) → j < 3 → (qnsV l)[k * 3 + j]? = l[k].vals[j]?
  | x :: r, 0, j, _, hj => by
    show (x.vals ++ qnsV r)[0 * 3 + j]? = _
    rw [List.getElem?_append_left (by simp [QnD.vals]; omega)]
    simp
  | x :: r, k + 1, j, h, hj => by
    have hv : x.vals.length = 3 := rfl
    show (x.vals ++ qnsV r)[(k + 1) * 3 + j]? = _
    rw [List.getElem?_append_right (by omega), hv, show (k + 1) * 3 + j - 3 = k * 3 + j by omega, qnsV_at r k j (by simpa using h) hj]
    simp
theorem qn_at {W w : World} {A : Option Addr} {n k : Nat} {l : List QnD} (hr : Reads W W.heap.size 3 A n (qnsV l)) (hn : n = l.length) (hk : k < l.length) (hb : Below W.heap.size W w) :
    ∃ ad, A = some ad ∧ w.cell? (ad.add (k * 3)) = some (.string ⟨l[k].name.toArray⟩) := by
  subst hn
  obtain ⟨ad, rfl, _, hc⟩ := (hr.below hb).2 (by omega)
  have h := qnsV_at l k 0 hk (by omega)
  rw [Nat.add_zero] at h
  exact ⟨ad, rfl, hc _ _ h⟩
/-- A message's cells and what its lists hold. -/
structure MsgIn (w : World) (y : Array Value) (q : List QnD) (a s d : List RrD) : Prop where
  size : y.size = 14
  qs : ∃ A c, y[8]? = some (.slice A q.length c) ∧ Reads w w.heap.size 3 A q.length (qnsV q)
  as_ : ∃ A c, y[9]? = some (.slice A a.length c) ∧ Reads w w.heap.size 5 A a.length (rrsV a)
  ss : ∃ A c, y[10]? = some (.slice A s.length c) ∧ Reads w w.heap.size 5 A s.length (rrsV s)
  ds : ∃ A c, y[11]? = some (.slice A d.length c) ∧ Reads w w.heap.size 5 A d.length (rrsV d)
  qok : ∀ x ∈ q, x.name.length ≤ maxLen
  aok : ∀ x ∈ a, x.ok
  sok : ∀ x ∈ s, x.ok
  dok : ∀ x ∈ d, x.ok
  len : a.length ≤ maxLen ∧ s.length ≤ maxLen ∧ d.length ≤ maxLen
def SmallPost (q : List QnD) (a s d : List RrD) (w : World) (e : Ending) (w' : World) : Prop := ∃ b : Bool, e = .returned (.bool b) ∧ Below w.heap.size w w' ∧ (b = true → q.length ≤ 8 ∧ a.length ≤ 1000 ∧ s.length ≤ 1000 ∧ d.length ≤ 1000)

set_option maxRecDepth 20000 in
set_option maxHeartbeats 1000000 in
theorem small_any (y : Array Value) (q : List QnD) (a s d : List RrD) (w : World) (h : MsgIn w y q a s d) :
    Calls Try.prog 9 #[.agg y, .int .i64 1000] w (SmallPost q a s d w) := by
  obtain ⟨Aq, cq, hy8, hrq⟩ := h.qs
  obtain ⟨Aa, ca, hy9, hra⟩ := h.as_
  obtain ⟨As, cs, hy10, hrs⟩ := h.ss
  obtain ⟨Ad, cd, hy11, hrd⟩ := h.ds
  have H := Lib.hid h
  clear h
  have hBA := (Below.refl w.heap.size w).alloc (Nat.le_refl _) (.cells y 33)
  have hblk := Blk.new w 33 y
  have h8 : (w.alloc (.cells y 33)).cell? ⟨w.heap.size, 8, none⟩ = some (.slice Aq q.length cq) := (hblk.cell 8).trans hy8
  have h9 : (w.alloc (.cells y 33)).cell? ⟨w.heap.size, 9, none⟩ = some (.slice Aa a.length ca) := (hblk.cell 9).trans hy9
  have h10 : (w.alloc (.cells y 33)).cell? ⟨w.heap.size, 10, none⟩ = some (.slice As s.length cs) := (hblk.cell 10).trans hy10
  have h11 : (w.alloc (.cells y 33)).cell? ⟨w.heap.size, 11, none⟩ = some (.slice Ad d.length cd) := (hblk.cell 11).trans hy11
  clear hblk hy8 hy9 hy10 hy11
  by_cases hq8 : 8 < q.length
  · go_enter Try.func9, Try.ntmps9
    go_wp2
    go_ret
    exact ⟨false, rfl, hBA, fun h => by cases h⟩
  · go_enter Try.func9, Try.ntmps9
    go_wp2
    go_loopw [5] (fun i wr => ∃ k : Nat, k ≤ q.length ∧ i = .int .i64 (k : Int) ∧ (w.alloc (.cells y 33)) = wr) (fun i _ => q.length - (intOf i).toNat)
    case atStart => exact ⟨0, by omega, rfl, rfl⟩
    case round =>
      obtain ⟨k, hk, rfl, hwr⟩ := hrel
      rw [hwr] at h8 h9 h10 h11 hBA
      have HWR := Lib.hid hwr
      clear hwr
      by_cases hlt : k < q.length
      · obtain ⟨ad, rfl, hcq⟩ := qn_at hrq rfl hlt hBA
        have hqo := H.out.qok _ (List.getElem_mem hlt)
        obtain ⟨x, hx⟩ : ∃ x, q[k] = x := ⟨_, rfl⟩
        rw [hx] at hcq hqo
        clear hx
        unfold maxLen at hqo
        have hsz : (ByteArray.mk x.name.toArray).size = x.name.length := by simp [ByteArray.size]
        have bi0 : (0 : Int) ≤ (k : Int) := by omega
        have bi1 : (k : Int) < (q.length : Int) := by omega
        by_cases h4 : 400 < x.name.length
        · go_wp2
          go_ret
          exact ⟨false, rfl, hBA, fun h => by cases h⟩
        · go_wp2
          go_roundw
          case rel => exact ⟨k + 1, by omega, by go_num, HWR.out⟩
          case measure => simp [intOf]; omega
      · obtain ⟨n1, n2, n3⟩ := H.out.len
        have N1 := Lib.hid n1
        have N2 := Lib.hid n2
        have N3 := Lib.hid n3
        clear n1 n2 n3
        go_wp2_with fail
        refine (records_any Aa a.length ca a _ rfl ((hra.below hBA).more hBA.size) H.out.aok N1.out).mono ?_
        rintro e w2 ⟨b1, rfl, ⟨m1, rfl⟩, hb1⟩
        have hB2 := below_drewN hBA m1
        cases b1
        · go_wp2
          go_ret
          exact ⟨false, rfl, hB2, fun h => by cases h⟩
        · have HB1 := Lib.hid (hb1 rfl)
          clear hb1
          go_wp2_with fail
          refine (records_any As s.length cs s _ rfl ((hrs.below hB2).more hB2.size) H.out.sok N2.out).mono ?_
          rintro e w3 ⟨b2, rfl, ⟨m2, rfl⟩, hb2⟩
          have hB3 := below_drewN hBA (m1 + m2)
          cases b2
          · go_wp2
            go_ret
            exact ⟨false, rfl, hB3, fun h => by cases h⟩
          · have HB2 := Lib.hid (hb2 rfl)
            clear hb2
            go_wp2_with fail
            refine (records_any Ad d.length cd d _ rfl ((hrd.below hB3).more hB3.size) H.out.dok N3.out).mono ?_
            rintro e w4 ⟨b3, rfl, ⟨m3, rfl⟩, hb3⟩
            have HB3 := Lib.hid hb3
            clear hb3
            go_wp2
            go_ret
            exact ⟨b3, rfl, below_drewN hBA _, fun h => ⟨by omega, HB1.out, HB2.out, HB3.out h⟩⟩
end Go.Proofs.Ytigjipjkollohaa
