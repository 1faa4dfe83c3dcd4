/-
  What Records tells: a list of records is short.
-/
import Derived.Test.YtigjipjkollohaaClientClone
namespace Go.Proofs.Ytigjipjkollohaa
open Go.RowKit

/-- A record. -/
structure RrD where
  name : List UInt8
  typ : Int
  cls : Int
  ttl : Int
  data : List UInt8
def RrD.vals (x : RrD) : List Value := [.string ⟨x.name.toArray⟩, .int .i64 x.typ, .int .i64 x.cls, .int .i64 x.ttl, .string ⟨x.data.toArray⟩]
def RrD.ok (x : RrD) : Prop := x.name.length ≤ maxLen ∧ x.data.length ≤ maxLen
def rrsV (l : List RrD) : List Value := l.flatMap RrD.vals
theorem rrsV_at : ∀ (l : List RrD) (k j : Nat), (h : k < l.length) → j < 5 → (rrsV l)[k * 5 + j]? = l[k].vals[j]?
  | x :: r, 0, j, _, hj => by
    show (x.vals ++ rrsV r)[0 * 5 + j]? = _
    rw [List.getElem?_append_left (by simp [RrD.vals]; omega)]
    simp
  | x :: r, k + 1, j, h, hj => by
    have hv : x.vals.length = 5 := rfl
    show (x.vals ++ rrsV r)[(k + 1) * 5 + j]? = _
    rw [List.getElem?_append_right (by omega), hv, show (k + 1) * 5 + j - 5 = k * 5 + j by omega, rrsV_at r k j (by simpa using h) hj]
    simp
/-- A record's cells. -/
def RrAt (w : World) (q : Addr) (x : RrD) : Prop :=
  w.cell? q = some (.string ⟨x.name.toArray⟩) ∧ w.cell? ⟨q.block, q.off + 4, none⟩ = some (.string ⟨x.data.toArray⟩)
theorem rr_at {W w : World} {A : Option Addr} {n k : Nat} {l : List RrD} (hr : Reads W W.heap.size 5 A n (rrsV l)) (hn : n = l.length) (hk : k < l.length) (hb : Below W.heap.size W w) :
    ∃ ad, A = some ad ∧ RrAt w (ad.add (k * 5)) l[k] := by
  subst hn
  obtain ⟨ad, rfl, _, hc⟩ := (hr.below hb).2 (by omega)
  have h : ∀ j, j < 5 → w.cell? ((ad.add (k * 5)).add j) = l[k].vals[j]? := by
    intro j hj
    have h5 : l[k].vals.length = 5 := rfl
    have h := rrsV_at l k j hk hj
    rw [add_of_add, hc _ (l[k].vals[j]'(by omega)) (by rw [h]; exact List.getElem?_eq_getElem _)]
    exact (List.getElem?_eq_getElem _).symm
  exact ⟨ad, rfl, h 0 (by omega), h 4 (by omega)⟩
def RecordsPost (l : List RrD) (w : World) (e : Ending) (w' : World) : Prop := ∃ b : Bool, e = .returned (.bool b) ∧ (∃ m, w' = w.drewN m) ∧ (b = true → l.length ≤ 1000)

set_option maxRecDepth 20000 in
set_option maxHeartbeats 1000000 in
theorem records_any (A : Option Addr) (n c : Nat) (l : List RrD) (w : World) (hl : n = l.length) (hr : Reads w w.heap.size 5 A n (rrsV l)) (hx : ∀ x ∈ l, x.ok) (hn : n ≤ maxLen) :
    Calls Try.prog 22 #[.slice A n c, .int .i64 1000] w (RecordsPost l w) := by
  subst hl
  unfold maxLen at hn
  go_enter Try.func22, Try.ntmps22
  go_wp2
  go_loopw [5, 6] (fun m i wr => ∃ k r t : Nat, k ≤ l.length ∧ i = .int .i64 (k : Int) ∧ m = .int .i64 (t : Int) ∧ l.length ≤ t ∧ (k = 0 ∨ t ≤ 3000) ∧ t ≤ 9223372036854775807 ∧ wr = w.drewN r) (fun _ i _ => l.length - (intOf i).toNat)
  case atStart => exact ⟨0, 0, l.length, by omega, rfl, rfl, by omega, Or.inl rfl, by omega, rfl⟩
  case round =>
    obtain ⟨k, r, t, hk, rfl, rfl, hs, ht3, ht, hwr⟩ := hrel
    have HWR := Lib.hid hwr
    by_cases hlt : k < l.length
    · by_cases h5 : t ≤ 1000
      · obtain ⟨ad, rfl, hc⟩ := rr_at hr rfl hlt (show Below w.heap.size w wr by rw [hwr]; exact below_drewN (Below.refl _ _) _)
        obtain ⟨o3, o4⟩ := hx _ (List.getElem_mem hlt)
        obtain ⟨x, hx'⟩ : ∃ x, l[k] = x := ⟨_, rfl⟩
        rw [hx'] at hc o3 o4
        clear hx' hwr
        unfold maxLen at o3 o4
        obtain ⟨hc0, hc4⟩ := hc
        have hsz : (ByteArray.mk x.name.toArray).size = x.name.length := by simp [ByteArray.size]
        have hsd : (ByteArray.mk x.data.toArray).size = x.data.length := by simp [ByteArray.size]
        have bi0 : (0 : Int) ≤ (k : Int) := by omega
        have bi1 : (k : Int) < (l.length : Int) := by omega
        by_cases h1 : 1000 < x.name.length
        · go_wp2
          go_ret
          exact ⟨false, by rfl, ⟨r, HWR.out⟩, fun h => by cases h⟩
        · by_cases h2 : 1000 < x.data.length
          · go_wp2
            go_ret
            exact ⟨false, by rfl, ⟨r, HWR.out⟩, fun h => by cases h⟩
          · have w1 : IntKind.i64.wrap ((t : Int) + (x.name.length : Int)) = (t : Int) + (x.name.length : Int) := IntWalk.i64_in _ (by omega)
            have w2 : IntKind.i64.wrap ((t : Int) + (x.name.length : Int) + (x.data.length : Int)) = (t : Int) + (x.name.length : Int) + (x.data.length : Int) := IntWalk.i64_in _ (by omega)
            go_wp2_with fail
            go_quiet (fail)
            clear w1 w2
            go_wp2
            go_roundw
            case rel => exact ⟨k + 1, r + nq, t + x.name.length + x.data.length, by omega, by go_num, by go_num, by omega, Or.inr (by omega), by omega, by rw [HWR.out, World.drewN_drewN]⟩
            case measure => simp [intOf]; omega
      · clear hwr
        go_wp2
        go_ret
        exact ⟨false, by first | rfl | (rw [show decide ((t : Int) ≤ 1000) = false from decide_eq_false (by omega)]; rfl), ⟨r, HWR.out⟩, fun h => by cases h⟩
    · clear hwr
      go_wp2
      go_ret
      exact ⟨decide ((t : Int) ≤ 1000), by rfl, ⟨r, HWR.out⟩, fun h => by have := of_decide_eq_true h; omega⟩
end Go.Proofs.Ytigjipjkollohaa
