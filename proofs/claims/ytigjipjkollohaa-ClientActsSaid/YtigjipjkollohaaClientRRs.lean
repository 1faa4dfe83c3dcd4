/-
  RRs: two lists that read the same records are alike.
-/
import Derived.Test.YtigjipjkollohaaClientSmall
namespace Go.Proofs.Ytigjipjkollohaa
open Go.RowKit

def RrAll (w : World) (q : Addr) (x : RrD) : Prop :=
  w.cell? q = some (.string ⟨x.name.toArray⟩) ∧ w.cell? ⟨q.block, q.off + 1, none⟩ = some (.int .i64 x.typ) ∧ w.cell? ⟨q.block, q.off + 2, none⟩ = some (.int .i64 x.cls) ∧ w.cell? ⟨q.block, q.off + 3, none⟩ = some (.int .i64 x.ttl) ∧
    w.cell? ⟨q.block, q.off + 4, none⟩ = some (.string ⟨x.data.toArray⟩)
theorem rr_all {W w : World} {A : Option Addr} {n k : Nat} {l : List RrD} (hr : Reads W W.heap.size 5 A n (rrsV l)) (hn : n = l.length) (hk : k < l.length) (hb : Below W.heap.size W w) :
    ∃ ad, A = some ad ∧ RrAll w (ad.add (k * 5)) l[k] := by
  subst hn
  obtain ⟨ad, rfl, _, hc⟩ := (hr.below hb).2 (by omega)
  have h : ∀ j, j < 5 → w.cell? ((ad.add (k * 5)).add j) = l[k].vals[j]? := by
    intro j hj
    have h5 : l[k].vals.length = 5 := rfl
    have h := rrsV_at l k j hk hj
    rw [add_of_add, hc _ (l[k].vals[j]'(by omega)) (by rw [h]; exact List.getElem?_eq_getElem _)]
    exact (List.getElem?_eq_getElem _).symm
  exact ⟨ad, rfl, h 0 (by omega), h 1 (by omega), h 2 (by omega), h 3 (by omega), h 4 (by omega)⟩

set_option maxRecDepth 20000 in
set_option maxHeartbeats 1000000 in
theorem rrs_same (A A' : Option Addr) (n c c' : Nat) (l : List RrD) (w : World) (hl : n = l.length) (hr : Reads w w.heap.size 5 A n (rrsV l)) (hr' : Reads w w.heap.size 5 A' n (rrsV l)) (hn : n ≤ 1000000) :
    Calls Try.prog 34 #[.slice A n c, .slice A' n c'] w fun e w' => e = .returned (.bool true) ∧ ∃ m, w' = w.drewN m := by
  subst hl
  go_enter Try.func34, Try.ntmps34
  go_wp2
  go_loopw [5] (fun i wr => ∃ k r : Nat, k ≤ l.length ∧ i = .int .i64 (k : Int) ∧ wr = w.drewN r) (fun i _ => l.length - (intOf i).toNat)
  case atStart => exact ⟨0, 0, by omega, rfl, rfl⟩
  case round =>
    obtain ⟨k, r, hk, rfl, hwr⟩ := hrel
    have HWR := Lib.hid hwr
    by_cases hlt : k < l.length
    · have hB : Below w.heap.size w wr := by rw [hwr]; exact below_drewN (Below.refl _ _) _
      obtain ⟨ad, rfl, h0, h1, h2, h3, h4⟩ := rr_all hr rfl hlt hB
      obtain ⟨ad', rfl, k0, k1, k2, k3, k4⟩ := rr_all hr' rfl hlt hB
      obtain ⟨x, hx⟩ : ∃ x, l[k] = x := ⟨_, rfl⟩
      rw [hx] at h0 h1 h2 h3 h4 k0 k1 k2 k3 k4
      clear hx hwr hB
      have bi0 : (0 : Int) ≤ (k : Int) := by omega
      have bi1 : (k : Int) < (l.length : Int) := by omega
      go_wp2_with fail
      go_big_quiet (fail)
      go_wp2
      go_roundw
      case rel => exact ⟨k + 1, r + nq, by omega, by go_num, by rw [HWR.out, World.drewN_drewN]⟩
      case measure => simp [intOf]; omega
    · clear hwr
      go_wp2
      go_ret
      exact ⟨rfl, r, HWR.out⟩
end Go.Proofs.Ytigjipjkollohaa
