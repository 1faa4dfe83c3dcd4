/-
  The walk of WnameGets: both Gets compute getL of the same bytes and place.
-/
import Derived.Test.YtkbbilcohoodlaaWAwake
import Derived.Test.YtkbbilcohoodlaaGetRef
namespace Go.Proofs.Ytkbbilcohoodlaa
open Go.RowKit

theorem refGet_ok (A : Option Addr) (n c : Nat) (bs : List UInt8) (at_ : Int) (l : List UInt8) (k : Nat) (w : World) (hr : Reads w w.heap.size 1 A n (bytesV bs)) (hnc : n ≤ c) (hn : n ≤ 1000000) (hg : getL bs at_ = some (l, k)) :
    Calls Try.prog 11 #[.slice A n c, .int .i64 at_] w fun e w' => e = .returned (.tuple #[.string ⟨l.toArray⟩, .int .i64 (k : Int), .bool true]) ∧ w = w' :=
  (refGet_any A n c bs at_ w hr hnc hn).mono fun e w' ⟨he, hb⟩ => ⟨by rw [he, hg]; rfl, hb⟩
theorem refGet_not (A : Option Addr) (n c : Nat) (bs : List UInt8) (at_ : Int) (w : World) (hr : Reads w w.heap.size 1 A n (bytesV bs)) (hnc : n ≤ c) (hn : n ≤ 1000000) (hg : getL bs at_ = none) :
    Calls Try.prog 11 #[.slice A n c, .int .i64 at_] w fun e w' => e = .returned (.tuple #[.string ⟨#[]⟩, .int .i64 0, .bool false]) ∧ w = w' :=
  (refGet_any A n c bs at_ w hr hnc hn).mono fun e w' ⟨he, hb⟩ => ⟨by rw [he, hg]; rfl, hb⟩

set_option maxRecDepth 20000 in
set_option maxHeartbeats 1000000 in
theorem walkWnameGets (A : Option Addr) (n c : Nat) (xs : List UInt8) (a1 : Int) (w : World) (_hl : n = xs.length) (hc : n ≤ c) (_hn : A = none → c = 0) (hr : Reads w w.heap.size 1 A n (bytesV xs)) (_w1 : (Lit.int .i64 a1).wf = true) :
    Calls Try.prog 3 #[.slice A n c, .int .i64 a1] w fun e w' => e = .returned (.bool true) ∧ Below w.heap.size w w' := by
  clear _hl _hn _w1
  by_cases h1000 : 1000 < n
  · go_enter Try.func3, Try.ntmps3
    go_wp2_with fail
    refine (awake_any _).mono ?_
    rintro e v ⟨rfl, hv⟩
    go_wp2
    go_ret
    exact ⟨rfl, hv⟩
  · cases hg : getL xs a1 with
    | none =>
      go_enter Try.func3, Try.ntmps3
      go_wp2_with fail
      refine (get_not A n c xs a1 _ hr hc (by omega) hg).mono ?_
      rintro e w1 ⟨rfl, hb1⟩
      go_wp2_with fail
      refine (refGet_not A n c xs a1 _ ((hr.below hb1).more hb1.size) hc (by omega) hg).mono ?_
      rintro e w2 ⟨rfl, rfl⟩
      go_wp2_with fail
      refine (awake_any _).mono ?_
      rintro e v ⟨rfl, hv⟩
      go_wp2
      go_ret
      exact ⟨rfl, hb1.trans (hv.mono hb1.size)⟩
    | some p =>
      obtain ⟨l, k⟩ := p
      go_enter Try.func3, Try.ntmps3
      go_wp2_with fail
      refine (get_ok A n c xs a1 l k _ hr hc (by omega) hg).mono ?_
      rintro e w1 ⟨rfl, hb1⟩
      go_wp2_with fail
      refine (refGet_ok A n c xs a1 l k _ ((hr.below hb1).more hb1.size) hc (by omega) hg).mono ?_
      rintro e w2 ⟨rfl, rfl⟩
      go_wp2_with fail
      refine (awake_any _).mono ?_
      rintro e v ⟨rfl, hv⟩
      go_wp2
      go_ret
      exact ⟨rfl, hb1.trans (hv.mono hb1.size)⟩
end Go.Proofs.Ytkbbilcohoodlaa
