/-
  The contract of Message: two messages that say the same are alike.
-/
import Derived.Test.YtigjipjkollohaaGFlat
namespace Go.Proofs.Ytigjipjkollohaa.G
open Go.RowKit

/-- Fourteen cells that say what was asked. -/
structure MsgAt (B : Nat) (w : World) (z : Array Value) (M : AskD) : Prop where
  c0 : z[0]? = some (.int .i64 M.id)
  c1 : z[1]? = some (.bool M.resp)
  c2 : z[2]? = some (.int .i64 M.opcode)
  c3 : z[3]? = some (.bool M.auth)
  c4 : z[4]? = some (.bool M.cut)
  c5 : z[5]? = some (.bool M.des)
  c6 : z[6]? = some (.bool M.avail)
  c7 : z[7]? = some (.int .i64 M.code)
  c12 : z[12]? = some (.bool M.edns)
  c13 : z[13]? = some (.int .i64 M.size)
  q : InL B w z 8 3 M.q.length (qnsV M.q)
  a : InL B w z 9 5 M.a.length (rrsV M.a)
  s : InL B w z 10 5 M.s.length (rrsV M.s)
  d : InL B w z 11 5 M.d.length (rrsV M.d)
theorem inL_ask {B : Nat} {w : World} {x : Array Value} {i size n : Nat} {vs : List Value} (h : InL B w x (i + 4) size n vs) : InL B w (askOf x) i size n vs := by
  obtain ⟨A, c, hv, r⟩ := h
  exact ⟨A, c, by rw [askOf_at]; exact hv, r⟩
theorem msg_of {B : Nat} {w : World} {x : Array Value} {M : AskD} (h : Scal x M) (hi : InAt B w x M) : MsgAt B w (askOf x) M := by
  obtain ⟨_, _, _, _, a4, a5, a6, a7, a8, a9, a10, a11, a16, a17⟩ := h
  obtain ⟨q, a, s, d⟩ := hi
  exact ⟨(askOf_at x 0).trans a4, (askOf_at x 1).trans a5, (askOf_at x 2).trans a6, (askOf_at x 3).trans a7, (askOf_at x 4).trans a8, (askOf_at x 5).trans a9, (askOf_at x 6).trans a10, (askOf_at x 7).trans a11, (askOf_at x 12).trans a16, (askOf_at x 13).trans a17, inL_ask q, inL_ask a, inL_ask s, inL_ask d⟩
theorem MsgAt.below {B : Nat} {w w' : World} {z : Array Value} {M : AskD} (h : MsgAt B w z M) (hb : Below B w w') : MsgAt B w' z M := { h with q := h.q.below hb, a := h.a.below hb, s := h.s.below hb, d := h.d.below hb }
theorem MsgAt.more {B B' : Nat} {w : World} {z : Array Value} {M : AskD} (h : MsgAt B w z M) (hb : B ≤ B') : MsgAt B' w z M := { h with q := h.q.more hb, a := h.a.more hb, s := h.s.more hb, d := h.d.more hb }
def QnAll (w : World) (q : Addr) (x : QnD) : Prop :=
  w.cell? q = some (.string ⟨x.name.toArray⟩) ∧ w.cell? ⟨q.block, q.off + 1, none⟩ = some (.int .i64 x.typ) ∧ w.cell? ⟨q.block, q.off + 2, none⟩ = some (.int .i64 x.cls)
theorem qn_all {B : Nat} {w : World} {A : Option Addr} {n k : Nat} {l : List QnD} (hr : Reads w B 3 A n (qnsV l)) (hn : n = l.length) (hk : k < l.length) :
    ∃ ad, A = some ad ∧ QnAll w (ad.add (k * 3)) l[k] := by
  subst hn
  obtain ⟨ad, rfl, _, hc⟩ := hr.2 (by omega)
  have h : ∀ j, j < 3 → w.cell? ((ad.add (k * 3)).add j) = l[k].vals[j]? := by
    intro j hj
    have h3 : l[k].vals.length = 3 := rfl
    have h := qnsV_at l k j hk hj
    rw [add_of_add, hc _ (l[k].vals[j]'(by omega)) (by rw [h]; exact List.getElem?_eq_getElem _)]
    exact (List.getElem?_eq_getElem _).symm
  exact ⟨ad, rfl, h 0 (by omega), h 1 (by omega), h 2 (by omega)⟩

set_option maxRecDepth 20000 in
set_option maxHeartbeats 4000000 in
theorem message_same (z z' : Array Value) (M : AskD) (w : World) (h : MsgAt w.heap.size w z M) (h' : MsgAt w.heap.size w z' M) (hm : M.Ok) :
    Calls Try.prog 24 #[.agg z, .agg z'] w fun e w' => e = .returned (.bool true) ∧ Below w.heap.size w w' := by
  obtain ⟨wA, hwA⟩ : ∃ wA, ((w.alloc (.cells z 33)).alloc (.cells z' 33)) = wA := ⟨_, rfl⟩
  have hB : Below w.heap.size w wA := by rw [← hwA]; exact ((Below.refl _ _).alloc (Nat.le_refl _) _).alloc (by simp) _
  have k1 : Blk wA w.heap.size 33 z := by rw [← hwA]; exact (Blk.new w _ z).alloc _
  have k2 : Blk wA (w.heap.size + 1) 33 z' := by rw [← hwA]; have := Blk.new (w.alloc (.cells z 33)) 33 z'; simpa using this
  obtain ⟨m1, m2, m3, m4, _, _⟩ := hm
  obtain ⟨Aq, cq, zq, _, rq⟩ := (h.q.below hB).more hB.size
  obtain ⟨Aa, ca, za, _, ra⟩ := (h.a.below hB).more hB.size
  obtain ⟨As, cs, zs, _, rs⟩ := (h.s.below hB).more hB.size
  obtain ⟨Ad, cd, zd, _, rd⟩ := (h.d.below hB).more hB.size
  obtain ⟨Aq', cq', zq', _, rq'⟩ := (h'.q.below hB).more hB.size
  obtain ⟨Aa', ca', za', _, ra'⟩ := (h'.a.below hB).more hB.size
  obtain ⟨As', cs', zs', _, rs'⟩ := (h'.s.below hB).more hB.size
  obtain ⟨Ad', cd', zd', _, rd'⟩ := (h'.d.below hB).more hB.size
  obtain ⟨b, hb⟩ : ∃ b, w.heap.size = b := ⟨_, rfl⟩
  have HB := Lib.hid hB
  rw [hb] at k1 k2
  have fk10 : wA.cell? ⟨b, 0, none⟩ = some (.int .i64 M.id) := (k1.cell 0).trans h.c0
  have fk11 : wA.cell? ⟨b, 1, none⟩ = some (.bool M.resp) := (k1.cell 1).trans h.c1
  have fk12 : wA.cell? ⟨b, 2, none⟩ = some (.int .i64 M.opcode) := (k1.cell 2).trans h.c2
  have fk13 : wA.cell? ⟨b, 3, none⟩ = some (.bool M.auth) := (k1.cell 3).trans h.c3
  have fk14 : wA.cell? ⟨b, 4, none⟩ = some (.bool M.cut) := (k1.cell 4).trans h.c4
  have fk15 : wA.cell? ⟨b, 5, none⟩ = some (.bool M.des) := (k1.cell 5).trans h.c5
  have fk16 : wA.cell? ⟨b, 6, none⟩ = some (.bool M.avail) := (k1.cell 6).trans h.c6
  have fk17 : wA.cell? ⟨b, 7, none⟩ = some (.int .i64 M.code) := (k1.cell 7).trans h.c7
  have fk112 : wA.cell? ⟨b, 12, none⟩ = some (.bool M.edns) := (k1.cell 12).trans h.c12
  have fk113 : wA.cell? ⟨b, 13, none⟩ = some (.int .i64 M.size) := (k1.cell 13).trans h.c13
  have fk18 : wA.cell? ⟨b, 8, none⟩ = some (.slice Aq M.q.length cq) := (k1.cell 8).trans zq
  have fk19 : wA.cell? ⟨b, 9, none⟩ = some (.slice Aa M.a.length ca) := (k1.cell 9).trans za
  have fk110 : wA.cell? ⟨b, 10, none⟩ = some (.slice As M.s.length cs) := (k1.cell 10).trans zs
  have fk111 : wA.cell? ⟨b, 11, none⟩ = some (.slice Ad M.d.length cd) := (k1.cell 11).trans zd
  have fk20 : wA.cell? ⟨b + 1, 0, none⟩ = some (.int .i64 M.id) := (k2.cell 0).trans h'.c0
  have fk21 : wA.cell? ⟨b + 1, 1, none⟩ = some (.bool M.resp) := (k2.cell 1).trans h'.c1
  have fk22 : wA.cell? ⟨b + 1, 2, none⟩ = some (.int .i64 M.opcode) := (k2.cell 2).trans h'.c2
  have fk23 : wA.cell? ⟨b + 1, 3, none⟩ = some (.bool M.auth) := (k2.cell 3).trans h'.c3
  have fk24 : wA.cell? ⟨b + 1, 4, none⟩ = some (.bool M.cut) := (k2.cell 4).trans h'.c4
  have fk25 : wA.cell? ⟨b + 1, 5, none⟩ = some (.bool M.des) := (k2.cell 5).trans h'.c5
  have fk26 : wA.cell? ⟨b + 1, 6, none⟩ = some (.bool M.avail) := (k2.cell 6).trans h'.c6
  have fk27 : wA.cell? ⟨b + 1, 7, none⟩ = some (.int .i64 M.code) := (k2.cell 7).trans h'.c7
  have fk212 : wA.cell? ⟨b + 1, 12, none⟩ = some (.bool M.edns) := (k2.cell 12).trans h'.c12
  have fk213 : wA.cell? ⟨b + 1, 13, none⟩ = some (.int .i64 M.size) := (k2.cell 13).trans h'.c13
  have fk28 : wA.cell? ⟨b + 1, 8, none⟩ = some (.slice Aq' M.q.length cq') := (k2.cell 8).trans zq'
  have fk29 : wA.cell? ⟨b + 1, 9, none⟩ = some (.slice Aa' M.a.length ca') := (k2.cell 9).trans za'
  have fk210 : wA.cell? ⟨b + 1, 10, none⟩ = some (.slice As' M.s.length cs') := (k2.cell 10).trans zs'
  have fk211 : wA.cell? ⟨b + 1, 11, none⟩ = some (.slice Ad' M.d.length cd') := (k2.cell 11).trans zd'
  clear h h' zq za zs zd zq' za' zs' zd' k1 k2 hB
  have HQ := Lib.hid rq
  have HA := Lib.hid ra
  have HS := Lib.hid rs
  have HD := Lib.hid rd
  have HQ' := Lib.hid rq'
  have HA' := Lib.hid ra'
  have HS' := Lib.hid rs'
  have HD' := Lib.hid rd'
  clear rq ra rs rd rq' ra' rs' rd'
  go_enter Try.func24, Try.ntmps24
  go_wp2
  clear fk10 fk11 fk12 fk13 fk14 fk15 fk16 fk17 fk112 fk113 fk20 fk21 fk22 fk23 fk24 fk25 fk26 fk27 fk212 fk213
  go_loopw [5] (fun i wr => ∃ k r : Nat, k ≤ M.q.length ∧ i = .int .i64 (k : Int) ∧ wr = wA.drewN r) (fun i _ => M.q.length - (intOf i).toNat)
  case atStart => exact ⟨0, 0, by omega, rfl, rfl⟩
  case round =>
    obtain ⟨k, r, hk, rfl, hwr⟩ := hrel
    have gk18 : wr.cell? ⟨b, 8, none⟩ = some (.slice Aq M.q.length cq) := by rw [hwr]; exact fk18
    have gk19 : wr.cell? ⟨b, 9, none⟩ = some (.slice Aa M.a.length ca) := by rw [hwr]; exact fk19
    have gk110 : wr.cell? ⟨b, 10, none⟩ = some (.slice As M.s.length cs) := by rw [hwr]; exact fk110
    have gk111 : wr.cell? ⟨b, 11, none⟩ = some (.slice Ad M.d.length cd) := by rw [hwr]; exact fk111
    have gk28 : wr.cell? ⟨b + 1, 8, none⟩ = some (.slice Aq' M.q.length cq') := by rw [hwr]; exact fk28
    have gk29 : wr.cell? ⟨b + 1, 9, none⟩ = some (.slice Aa' M.a.length ca') := by rw [hwr]; exact fk29
    have gk210 : wr.cell? ⟨b + 1, 10, none⟩ = some (.slice As' M.s.length cs') := by rw [hwr]; exact fk210
    have gk211 : wr.cell? ⟨b + 1, 11, none⟩ = some (.slice Ad' M.d.length cd') := by rw [hwr]; exact fk211
    have hBr : Below wA.heap.size wA wr := by rw [hwr]; exact below_drewN (Below.refl _ _) _
    have HBR := Lib.hid hBr
    have HWR := Lib.hid hwr
    clear hBr hwr fk18 fk19 fk110 fk111 fk28 fk29 fk210 fk211
    by_cases hlt : k < M.q.length
    · obtain ⟨ad, rfl, h0, h1, h2⟩ := qn_all (HQ.out.below HBR.out) rfl hlt
      obtain ⟨ad', rfl, e0, e1, e2⟩ := qn_all (HQ'.out.below HBR.out) rfl hlt
      obtain ⟨x, hx⟩ : ∃ x, M.q[k] = x := ⟨_, rfl⟩
      rw [hx] at h0 h1 h2 e0 e1 e2
      clear hx gk19 gk110 gk111 gk29 gk210 gk211
      have bi0 : (0 : Int) ≤ (k : Int) := by omega
      have bi1 : (k : Int) < (M.q.length : Int) := by omega
      go_wp2_with fail
      go_big_quiet (fail)
      go_wp2
      go_roundw
      case rel => exact ⟨k + 1, r + nq, by omega, by go_num, by rw [HWR.out, World.drewN_drewN]⟩
      case measure => simp [intOf]; omega
    · clear gk28
      go_wp2_with fail
      refine (rrs_same Aa Aa' M.a.length ca ca' M.a _ rfl ((HA.out.below HBR.out).more HBR.out.size) ((HA'.out.below HBR.out).more HBR.out.size) (by omega)).mono ?_
      rintro e w2 ⟨rfl, n2, rfl⟩
      have hB2 : Below wA.heap.size wA (wr.drewN n2) := below_drewN HBR.out _
      go_wp2_with fail
      refine (rrs_same As As' M.s.length cs cs' M.s _ rfl ((HS.out.below hB2).more hB2.size) ((HS'.out.below hB2).more hB2.size) (by omega)).mono ?_
      rintro e w3 ⟨rfl, n3, rfl⟩
      have hB3 : Below wA.heap.size wA (wr.drewN (n2 + n3)) := below_drewN HBR.out _
      go_wp2_with fail
      refine (rrs_same Ad Ad' M.d.length cd cd' M.d _ rfl ((HD.out.below hB3).more hB3.size) ((HD'.out.below hB3).more hB3.size) (by omega)).mono ?_
      rintro e w4 ⟨rfl, n4, rfl⟩
      have hB4 : ∀ j, Below wA.heap.size wA (wr.drewN j) := fun j => below_drewN HBR.out j
      go_wp2
      go_ret
      exact ⟨rfl, HB.out.trans ((hB4 _).mono HB.out.size)⟩
end Go.Proofs.Ytigjipjkollohaa.G
