/-
  The contract of client's own, whatever the message holds.
-/
import Derived.Test.YtigjipjkollohaaGate
import Derived.Test.YtigjipjkollohaaClientSmallM
import Derived.Test.YtigjipjkollohaaClientAdd
namespace Go.Proofs.Ytigjipjkollohaa.G
open Go.RowKit

/-- An asker, by what it says. -/
structure AskD where
  client : Int
  port : Int
  job : Int
  came : Int
  id : Int
  resp : Bool
  opcode : Int
  auth : Bool
  cut : Bool
  des : Bool
  avail : Bool
  code : Int
  q : List QnD
  a : List RrD
  s : List RrD
  d : List RrD
  edns : Bool
  size : Int
/-- Its lists are short, its numbers are numbers. -/
structure AskD.Ok (M : AskD) : Prop where
  q : M.q.length ≤ 8
  a : M.a.length ≤ 1000
  s : M.s.length ≤ 1000
  d : M.d.length ≤ 1000
  job : (Lit.int .i64 M.job).wf = true
  came : (Lit.int .i64 M.came).wf = true
/-- Eighteen cells. -/
structure AskG (x : Array Value) : Prop where
  size : x.size = 18
  one : x.all (·.oneCell') = true
theorem AskG.info {x : Array Value} (h : AskG x) : (Try.prog.info? 35).map (·.size) = some x.size := by rw [h.size]; exact Try.size35
structure Scal (x : Array Value) (M : AskD) : Prop where
  c0 : x[0]? = some (.int .i64 M.client)
  c1 : x[1]? = some (.int .i64 M.port)
  c2 : x[2]? = some (.int .i64 M.job)
  c3 : x[3]? = some (.int .i64 M.came)
  c4 : x[4]? = some (.int .i64 M.id)
  c5 : x[5]? = some (.bool M.resp)
  c6 : x[6]? = some (.int .i64 M.opcode)
  c7 : x[7]? = some (.bool M.auth)
  c8 : x[8]? = some (.bool M.cut)
  c9 : x[9]? = some (.bool M.des)
  c10 : x[10]? = some (.bool M.avail)
  c11 : x[11]? = some (.int .i64 M.code)
  c16 : x[16]? = some (.bool M.edns)
  c17 : x[17]? = some (.int .i64 M.size)
/-- A list that lies below B. -/
def InL (B : Nat) (w : World) (x : Array Value) (i size n : Nat) (vs : List Value) : Prop := ∃ A c, x[i]? = some (.slice A n c) ∧ (A = none → c = 0) ∧ Reads w B size A n vs
/-- A list of its own. -/
def OwnL (B : Nat) (w : World) (x : Array Value) (i : Nat) (e : TypeId) (size n : Nat) (vs : List Value) : Prop := ∃ v, x[i]? = some v ∧ w.ownsRow B e size v n vs
structure InAt (B : Nat) (w : World) (x : Array Value) (M : AskD) : Prop where
  q : InL B w x 12 3 M.q.length (qnsV M.q)
  a : InL B w x 13 5 M.a.length (rrsV M.a)
  s : InL B w x 14 5 M.s.length (rrsV M.s)
  d : InL B w x 15 5 M.d.length (rrsV M.d)
structure OwnAt (B : Nat) (w : World) (x : Array Value) (M : AskD) : Prop where
  q : OwnL B w x 12 61 3 M.q.length (qnsV M.q)
  a : OwnL B w x 13 69 5 M.a.length (rrsV M.a)
  s : OwnL B w x 14 69 5 M.s.length (rrsV M.s)
  d : OwnL B w x 15 69 5 M.d.length (rrsV M.d)
theorem OwnL.in_ {B : Nat} {w : World} {x : Array Value} {i : Nat} {e : TypeId} {size n : Nat} {vs : List Value} (h : OwnL B w x i e size n vs) : InL w.heap.size w x i size n vs := by
  obtain ⟨v, hv, ho⟩ := h
  obtain ⟨A, c, rfl⟩ := own_slice ho
  exact ⟨A, c, hv, own_cap ho, Reads.of_own ho⟩
theorem OwnAt.in_ {B : Nat} {w : World} {x : Array Value} {M : AskD} (h : OwnAt B w x M) : InAt w.heap.size w x M := ⟨h.q.in_, h.a.in_, h.s.in_, h.d.in_⟩
theorem InL.below {B : Nat} {w w' : World} {x : Array Value} {i size n : Nat} {vs : List Value} (h : InL B w x i size n vs) (hb : Below B w w') : InL B w' x i size n vs := by
  obtain ⟨A, c, hv, hc, hr⟩ := h
  exact ⟨A, c, hv, hc, hr.below hb⟩
theorem InL.more {B B' : Nat} {w : World} {x : Array Value} {i size n : Nat} {vs : List Value} (h : InL B w x i size n vs) (hb : B ≤ B') : InL B' w x i size n vs := by
  obtain ⟨A, c, hv, hc, hr⟩ := h
  exact ⟨A, c, hv, hc, hr.more hb⟩
theorem InAt.below {B : Nat} {w w' : World} {x : Array Value} {M : AskD} (h : InAt B w x M) (hb : Below B w w') : InAt B w' x M := ⟨h.q.below hb, h.a.below hb, h.s.below hb, h.d.below hb⟩
theorem InAt.more {B B' : Nat} {w : World} {x : Array Value} {M : AskD} (h : InAt B w x M) (hb : B ≤ B') : InAt B' w x M := ⟨h.q.more hb, h.a.more hb, h.s.more hb, h.d.more hb⟩
theorem OwnL.only {B : Nat} {w w' : World} {x : Array Value} {i : Nat} {e : TypeId} {size n : Nat} {vs : List Value} {S : Nat → Prop} (h : OwnL B w x i e size n vs) (ho : Only S w w') (hn : ∀ v k, v.ownBlock = some k → w.ownsRow B e size v n vs → ¬ S k) : OwnL B w' x i e size n vs := by
  obtain ⟨v, hv, hr⟩ := h
  exact ⟨v, hv, own_only hr ho (fun k hk => hn v k hk hr)⟩
theorem OwnL.below {B : Nat} {w w' : World} {x : Array Value} {i : Nat} {e : TypeId} {size n : Nat} {vs : List Value} (h : OwnL B w x i e size n vs) (hb : Below w.heap.size w w') : OwnL B w' x i e size n vs :=
  h.only (Only.of_below hb (fun _ => False)) (fun _ _ _ _ hf => hf)
theorem OwnAt.below {B : Nat} {w w' : World} {x : Array Value} {M : AskD} (h : OwnAt B w x M) (hb : Below w.heap.size w w') : OwnAt B w' x M := ⟨h.q.below hb, h.a.below hb, h.s.below hb, h.d.below hb⟩
theorem rrsV_one (l : List RrD) : ∀ u ∈ rrsV l, u.oneCell' = true := by
  intro u hu
  obtain ⟨x, _, hx⟩ := List.mem_flatMap.1 hu
  simp only [RrD.vals, List.mem_cons, List.not_mem_nil, or_false] at hx
  rcases hx with rfl | rfl | rfl | rfl | rfl <;> rfl
theorem qnsV_one (l : List QnD) : ∀ u ∈ qnsV l, u.oneCell' = true := by
  intro u hu
  obtain ⟨x, _, hx⟩ := List.mem_flatMap.1 hu
  simp only [QnD.vals, List.mem_cons, List.not_mem_nil, or_false] at hx
  rcases hx with rfl | rfl | rfl <;> rfl
theorem Try.callCloneQ (args : Array Value) (w : World) : (callFunc 32 args).run Try.prog w = .ok (.enter 32 args) w := run_enter Try.func32 (by kernel_rfl) rfl args w
theorem Try.callCloneR (args : Array Value) (w : World) : (callFunc 33 args).run Try.prog w = .ok (.enter 33 args) w := run_enter Try.func33 (by kernel_rfl) rfl args w
theorem one_set {x : Array Value} (i : Nat) (v : Value) (h : x.all (·.oneCell') = true) (hv : v.oneCell' = true) : (x.setIfInBounds i v).all (·.oneCell') = true := by
  rw [Array.all_eq_true_iff_forall_mem] at h ⊢
  intro u hu
  rcases Array.mem_or_eq_of_mem_setIfInBounds hu with hu | rfl
  · exact h u hu
  · exact hv
theorem get_far {x : Array Value} {i j : Nat} {v : Value} (h : i ≠ j) : (x.setIfInBounds i v)[j]? = x[j]? := Array.getElem?_setIfInBounds_ne h
theorem get_set {x : Array Value} {i : Nat} {v : Value} (h : i < x.size) : (x.setIfInBounds i v)[i]? = some v := by rw [Array.getElem?_setIfInBounds_self, if_pos h]
theorem scal_set {x : Array Value} {M : AskD} {i : Nat} {v : Value} (h : Scal x M) (h1 : 12 ≤ i) (h2 : i ≤ 15) : Scal (x.setIfInBounds i v) M := by
  obtain ⟨a0, a1, a2, a3, a4, a5, a6, a7, a8, a9, a10, a11, a16, a17⟩ := h
  exact ⟨(get_far (by omega)).trans a0, (get_far (by omega)).trans a1, (get_far (by omega)).trans a2, (get_far (by omega)).trans a3, (get_far (by omega)).trans a4, (get_far (by omega)).trans a5, (get_far (by omega)).trans a6, (get_far (by omega)).trans a7, (get_far (by omega)).trans a8, (get_far (by omega)).trans a9, (get_far (by omega)).trans a10, (get_far (by omega)).trans a11, (get_far (by omega)).trans a16, (get_far (by omega)).trans a17⟩
theorem own_stays2 {w w' : World} {B n size : Nat} {e : TypeId} {vo : Value} {xs : List Value} (ho : w.ownsRow B e size vo n xs) (hb : Below w.heap.size w w') : w'.ownsRow B e size vo n xs := own_only ho (Only.of_below hb (fun _ => False)) (fun _ _ hf => hf)
theorem only_row (w : World) (g : Nat) (cs : Array Value) : Only (fun i => i = g) w (w.setRow g cs) :=
  ⟨rfl, rfl, rfl, by simp [World.setRow], fun k _ hn => by
    unfold World.setRow
    rw [Array.getElem?_modify, if_neg (fun e => hn e.symm)]⟩
def OwnPost (M : AskD) (w : World) (e : Ending) (w' : World) : Prop := ∃ x', e = .returned (.agg x') ∧ AskG x' ∧ Scal x' M ∧ OwnAt w.heap.size w' x' M ∧ Below w.heap.size w w'

set_option maxRecDepth 200000 in
set_option maxHeartbeats 4000000 in
theorem own_any (x : Array Value) (M : AskD) (w : World) (hx : AskG x) (hs : Scal x M) (hi : InAt w.heap.size w x M) (hm : M.Ok) : Calls Try.prog 23 #[.agg x] w (OwnPost M w) := by
  obtain ⟨Aq, cq, hx12, hnq, hq⟩ := hi.q
  obtain ⟨Aa, ca, hx13, hna, ha⟩ := hi.a
  obtain ⟨As, cs, hx14, hns, hsr⟩ := hi.s
  obtain ⟨Ad, cd, hx15, hnd, hd⟩ := hi.d
  obtain ⟨m1, m2, m3, m4, _, _⟩ := hm
  go_enter Try.func23, Try.ntmps23
  go_wp2_with fail
  obtain ⟨wA, hwA⟩ : ∃ wA, ((w.alloc (.cells x 35)).alloc (.cells zeroA 35)) = wA := ⟨_, rfl⟩
  have hb1 : Below w.heap.size w wA := by rw [← hwA]; exact ((Below.refl _ _).alloc (Nat.le_refl _) _).alloc (by simp) _
  have blk1 : Blk wA w.heap.size 35 x := by rw [← hwA]; exact (Blk.new w _ _).alloc _
  have blk2 : Blk wA (w.heap.size + 1) 35 zeroA := by rw [← hwA]; have := Blk.new (w.alloc (.cells x 35)) 35 zeroA; simpa using this
  unfold zeroA at hwA
  rw [hwA]
  clear hwA
  obtain ⟨b, hb⟩ : ∃ b, w.heap.size = b := ⟨_, rfl⟩
  rw [hb] at blk1 blk2 hb1 hq ha hsr hd ⊢
  have hB0 : Below b w wA.drew := hb1.drew
  have hZ0 : b ≤ wA.drew.heap.size := by rw [← hb]; exact hB0.size
  have hsz4 := hx.size
  have hK0 : Blk wA.drew b 35 x := blk1.drew
  refine wp_region_gate (gate := [8, 13, 18, 23]) (S := fun w' => Blk w' b 35 x) (by kernel_rfl) ?_
  -- GEN
  refine wpAnyG_take (i := 0) (v := ?vv1) rfl (by decide) (by kernel_rfl) (by kernel_rfl) (by kernel_rfl) (fun _ _ _ h => h) (Or.inl ⟨by rfl, ?hy1⟩) (GateS.of blk1.drew) (fun _ => ?_)
  case hy1 => intro w; go_simp; try with_reducible rfl
  try simp only [List.getElem_toArray, List.getElem_cons_zero, Act.put, List.setIfInBounds_toArray, List.set_cons_zero, List.set_cons_succ]
  refine wpAnyG_take (i := 1) (v := ?vv2) rfl (by decide) (by kernel_rfl) (by kernel_rfl) (by kernel_rfl) (fun _ _ _ h => h) (Or.inl ⟨by rfl, ?hy2⟩) (GateS.of blk1.drew) (fun _ => ?_)
  case hy2 => intro w; go_simp; try with_reducible rfl
  try simp only [List.getElem_toArray, List.getElem_cons_zero, List.getElem_cons_succ, Act.put, List.setIfInBounds_toArray, List.set_cons_zero, List.set_cons_succ]
  refine wpAnyG_take (i := 2) (v := ?vv3) rfl (by decide) (by kernel_rfl) (by kernel_rfl) (by kernel_rfl) (fun _ _ _ h => h) (Or.inl ⟨by rfl, ?hy3⟩) (GateS.of blk1.drew) (fun _ => ?_)
  case hy3 => intro w; go_simp; try with_reducible rfl
  try simp only [List.getElem_toArray, List.getElem_cons_zero, List.getElem_cons_succ, Act.put, List.setIfInBounds_toArray, List.set_cons_zero, List.set_cons_succ]
  refine wpAnyG_take (i := 3) (v := ?vv4) rfl (by decide) (by kernel_rfl) (by kernel_rfl) (by kernel_rfl) (fun _ _ _ h => h) (Or.inl ⟨by rfl, ?hy4⟩) (GateS.of blk1.drew) (fun _ => ?_)
  case hy4 => intro w; go_simp; try with_reducible rfl
  try simp only [List.getElem_toArray, List.getElem_cons_zero, List.getElem_cons_succ, Act.put, List.setIfInBounds_toArray, List.set_cons_zero, List.set_cons_succ]
  refine wpAnyG_take (i := 4) (v := ?vv5) rfl (by decide) (by kernel_rfl) (by kernel_rfl) (by kernel_rfl) (fun _ _ _ h => h) (Or.inl ⟨by rfl, ?hy5⟩) (GateS.of blk1.drew) (fun _ => ?_)
  case hy5 => intro w; go_simp; try with_reducible rfl
  try simp only [List.getElem_toArray, List.getElem_cons_zero, List.getElem_cons_succ, Act.put, List.setIfInBounds_toArray, List.set_cons_zero, List.set_cons_succ]
  refine wpAnyG_take (i := 5) (v := ?vv6) rfl (by decide) (by kernel_rfl) (by kernel_rfl) (by kernel_rfl) (fun _ _ _ h => h) (Or.inl ⟨by rfl, ?hy6⟩) (GateS.of blk1.drew) (fun _ => ?_)
  case hy6 => intro w; go_simp; try with_reducible rfl
  try simp only [List.getElem_toArray, List.getElem_cons_zero, List.getElem_cons_succ, Act.put, List.setIfInBounds_toArray, List.set_cons_zero, List.set_cons_succ]
  refine wpAnyG_take (i := 6) (v := ?vv7) rfl (by decide) (by kernel_rfl) (by kernel_rfl) (by kernel_rfl) (fun _ _ _ h => h) (Or.inl ⟨by rfl, ?hy7⟩) (GateS.of blk1.drew) (fun _ => ?_)
  case hy7 => intro w; go_simp; try with_reducible rfl
  try simp only [List.getElem_toArray, List.getElem_cons_zero, List.getElem_cons_succ, Act.put, List.setIfInBounds_toArray, List.set_cons_zero, List.set_cons_succ]
  refine wpAnyG_load (i := 7) (c := 8) (v := ?vv8) rfl (by decide) ⟨by decide, by kernel_rfl⟩ (by kernel_rfl) (by kernel_rfl) (by kernel_rfl) (by kernel_rfl) (fun _ _ _ h => h) (Or.inl ⟨by rfl, ?hy8⟩) (GateS.of blk1.drew) (fun _ => ?_)
  case hy8 => intro w hSw; have hcell := (hSw.cell 12).trans hx12; clear hSw; go_simp; try with_reducible rfl
  try simp only [List.getElem_toArray, List.getElem_cons_zero, List.getElem_cons_succ, Act.put, List.setIfInBounds_toArray, List.set_cons_zero, List.set_cons_succ]
  refine wpAnyG_take (i := 9) (v := ?vv9) rfl (by decide) (by kernel_rfl) (by kernel_rfl) (by kernel_rfl) (fun _ _ _ h => h) (Or.inl ⟨by rfl, ?hy9⟩) (GateS.of blk1.drew) (fun _ => ?_)
  case hy9 => intro w; go_simp; try with_reducible rfl
  try simp only [List.getElem_toArray, List.getElem_cons_zero, List.getElem_cons_succ, Act.put, List.setIfInBounds_toArray, List.set_cons_zero, List.set_cons_succ]
  refine wpAnyG_take (i := 10) (v := ?vv10) rfl (by decide) (by kernel_rfl) (by kernel_rfl) (by kernel_rfl) (fun _ _ _ h => h) (Or.inl ⟨by rfl, ?hy10⟩) (GateS.of blk1.drew) (fun _ => ?_)
  case hy10 => intro w; go_simp; try with_reducible rfl
  try simp only [List.getElem_toArray, List.getElem_cons_zero, List.getElem_cons_succ, Act.put, List.setIfInBounds_toArray, List.set_cons_zero, List.set_cons_succ]
  refine wpAnyG_take (i := 11) (v := ?vv11) rfl (by decide) (by kernel_rfl) (by kernel_rfl) (by kernel_rfl) (fun _ _ _ h => h) (Or.inl ⟨by rfl, ?hy11⟩) (GateS.of blk1.drew) (fun _ => ?_)
  case hy11 => intro w; go_simp; try with_reducible rfl
  try simp only [List.getElem_toArray, List.getElem_cons_zero, List.getElem_cons_succ, Act.put, List.setIfInBounds_toArray, List.set_cons_zero, List.set_cons_succ]
  refine wpAnyG_load (i := 12) (c := 13) (v := ?vv12) rfl (by decide) ⟨by decide, by kernel_rfl⟩ (by kernel_rfl) (by kernel_rfl) (by kernel_rfl) (by kernel_rfl) (fun _ _ _ h => h) (Or.inl ⟨by rfl, ?hy12⟩) (GateS.of blk1.drew) (fun _ => ?_)
  case hy12 => intro w hSw; have hcell := (hSw.cell 13).trans hx13; clear hSw; go_simp; try with_reducible rfl
  try simp only [List.getElem_toArray, List.getElem_cons_zero, List.getElem_cons_succ, Act.put, List.setIfInBounds_toArray, List.set_cons_zero, List.set_cons_succ]
  refine wpAnyG_take (i := 14) (v := ?vv13) rfl (by decide) (by kernel_rfl) (by kernel_rfl) (by kernel_rfl) (fun _ _ _ h => h) (Or.inl ⟨by rfl, ?hy13⟩) (GateS.of blk1.drew) (fun _ => ?_)
  case hy13 => intro w; go_simp; try with_reducible rfl
  try simp only [List.getElem_toArray, List.getElem_cons_zero, List.getElem_cons_succ, Act.put, List.setIfInBounds_toArray, List.set_cons_zero, List.set_cons_succ]
  refine wpAnyG_take (i := 15) (v := ?vv14) rfl (by decide) (by kernel_rfl) (by kernel_rfl) (by kernel_rfl) (fun _ _ _ h => h) (Or.inl ⟨by rfl, ?hy14⟩) (GateS.of blk1.drew) (fun _ => ?_)
  case hy14 => intro w; go_simp; try with_reducible rfl
  try simp only [List.getElem_toArray, List.getElem_cons_zero, List.getElem_cons_succ, Act.put, List.setIfInBounds_toArray, List.set_cons_zero, List.set_cons_succ]
  refine wpAnyG_take (i := 16) (v := ?vv15) rfl (by decide) (by kernel_rfl) (by kernel_rfl) (by kernel_rfl) (fun _ _ _ h => h) (Or.inl ⟨by rfl, ?hy15⟩) (GateS.of blk1.drew) (fun _ => ?_)
  case hy15 => intro w; go_simp; try with_reducible rfl
  try simp only [List.getElem_toArray, List.getElem_cons_zero, List.getElem_cons_succ, Act.put, List.setIfInBounds_toArray, List.set_cons_zero, List.set_cons_succ]
  refine wpAnyG_load (i := 17) (c := 18) (v := ?vv16) rfl (by decide) ⟨by decide, by kernel_rfl⟩ (by kernel_rfl) (by kernel_rfl) (by kernel_rfl) (by kernel_rfl) (fun _ _ _ h => h) (Or.inl ⟨by rfl, ?hy16⟩) (GateS.of blk1.drew) (fun _ => ?_)
  case hy16 => intro w hSw; have hcell := (hSw.cell 14).trans hx14; clear hSw; go_simp; try with_reducible rfl
  try simp only [List.getElem_toArray, List.getElem_cons_zero, List.getElem_cons_succ, Act.put, List.setIfInBounds_toArray, List.set_cons_zero, List.set_cons_succ]
  refine wpAnyG_take (i := 19) (v := ?vv17) rfl (by decide) (by kernel_rfl) (by kernel_rfl) (by kernel_rfl) (fun _ _ _ h => h) (Or.inl ⟨by rfl, ?hy17⟩) (GateS.of blk1.drew) (fun _ => ?_)
  case hy17 => intro w; go_simp; try with_reducible rfl
  try simp only [List.getElem_toArray, List.getElem_cons_zero, List.getElem_cons_succ, Act.put, List.setIfInBounds_toArray, List.set_cons_zero, List.set_cons_succ]
  refine wpAnyG_take (i := 20) (v := ?vv18) rfl (by decide) (by kernel_rfl) (by kernel_rfl) (by kernel_rfl) (fun _ _ _ h => h) (Or.inl ⟨by rfl, ?hy18⟩) (GateS.of blk1.drew) (fun _ => ?_)
  case hy18 => intro w; go_simp; try with_reducible rfl
  try simp only [List.getElem_toArray, List.getElem_cons_zero, List.getElem_cons_succ, Act.put, List.setIfInBounds_toArray, List.set_cons_zero, List.set_cons_succ]
  refine wpAnyG_take (i := 21) (v := ?vv19) rfl (by decide) (by kernel_rfl) (by kernel_rfl) (by kernel_rfl) (fun _ _ _ h => h) (Or.inl ⟨by rfl, ?hy19⟩) (GateS.of blk1.drew) (fun _ => ?_)
  case hy19 => intro w; go_simp; try with_reducible rfl
  try simp only [List.getElem_toArray, List.getElem_cons_zero, List.getElem_cons_succ, Act.put, List.setIfInBounds_toArray, List.set_cons_zero, List.set_cons_succ]
  refine wpAnyG_load (i := 22) (c := 23) (v := ?vv20) rfl (by decide) ⟨by decide, by kernel_rfl⟩ (by kernel_rfl) (by kernel_rfl) (by kernel_rfl) (by kernel_rfl) (fun _ _ _ h => h) (Or.inl ⟨by rfl, ?hy20⟩) (GateS.of blk1.drew) (fun _ => ?_)
  case hy20 => intro w hSw; have hcell := (hSw.cell 15).trans hx15; clear hSw; go_simp; try with_reducible rfl
  try simp only [List.getElem_toArray, List.getElem_cons_zero, List.getElem_cons_succ, Act.put, List.setIfInBounds_toArray, List.set_cons_zero, List.set_cons_succ]
  refine wpAnyG_one (i := 8) (by kernel_rfl) rfl (fun K' hK => ?_)
  refine step_call rfl 32 (.tmp 12) 30 rfl Try.callCloneQ (y := .slice Aq M.q.length cq) rfl (cloneQn_any Aq M.q.length cq _ wA.drew ((hq.below hB0).more hZ0) (qnsV_one _) (by omega) hnq) ?_
  rintro e w1 ⟨vq, rfl, hoq, hC1⟩
  have hB1 := hB0.trans (hC1.mono hZ0)
  have hZ1 := Nat.le_trans hZ0 hC1.size
  have hK1 := hK0.below hC1 hK0.lt
  refine ⟨_, rfl, hK.out _ _ (GateS.of hK1) (fun _ => ?_)⟩
  clear hK K'
  try simp only [List.getElem_toArray, List.getElem_cons_zero, List.getElem_cons_succ, Act.put, List.setIfInBounds_toArray, List.set_cons_zero, List.set_cons_succ]
  refine wpAnyG_one (i := 13) (by kernel_rfl) rfl (fun K' hK => ?_)
  refine step_call rfl 33 (.tmp 17) 31 rfl Try.callCloneR (y := .slice Aa M.a.length ca) rfl (cloneRr_any Aa M.a.length ca _ w1 ((ha.below hB1).more hZ1) (rrsV_one _) (by omega) hna) ?_
  rintro e w2 ⟨va, rfl, hoa, hC2⟩
  have hB2 := hB1.trans (hC2.mono hZ1)
  have hZ2 := Nat.le_trans hZ1 hC2.size
  have hK2 := hK1.below hC2 hK1.lt
  refine ⟨_, rfl, hK.out _ _ (GateS.of hK2) (fun _ => ?_)⟩
  clear hK K'
  try simp only [List.getElem_toArray, List.getElem_cons_zero, List.getElem_cons_succ, Act.put, List.setIfInBounds_toArray, List.set_cons_zero, List.set_cons_succ]
  refine wpAnyG_one (i := 18) (by kernel_rfl) rfl (fun K' hK => ?_)
  refine step_call rfl 33 (.tmp 22) 31 rfl Try.callCloneR (y := .slice As M.s.length cs) rfl (cloneRr_any As M.s.length cs _ w2 ((hsr.below hB2).more hZ2) (rrsV_one _) (by omega) hns) ?_
  rintro e w3 ⟨vs, rfl, hos, hC3⟩
  have hB3 := hB2.trans (hC3.mono hZ2)
  have hZ3 := Nat.le_trans hZ2 hC3.size
  have hK3 := hK2.below hC3 hK2.lt
  refine ⟨_, rfl, hK.out _ _ (GateS.of hK3) (fun _ => ?_)⟩
  clear hK K'
  try simp only [List.getElem_toArray, List.getElem_cons_zero, List.getElem_cons_succ, Act.put, List.setIfInBounds_toArray, List.set_cons_zero, List.set_cons_succ]
  refine wpAnyG_one (i := 23) (by kernel_rfl) rfl (fun K' hK => ?_)
  refine step_call rfl 33 (.tmp 27) 31 rfl Try.callCloneR (y := .slice Ad M.d.length cd) rfl (cloneRr_any Ad M.d.length cd _ w3 ((hd.below hB3).more hZ3) (rrsV_one _) (by omega) hnd) ?_
  rintro e w4 ⟨vd, rfl, hod, hC4⟩
  have hB4 := hB3.trans (hC4.mono hZ3)
  have hZ4 := Nat.le_trans hZ3 hC4.size
  have hK4 := hK3.below hC4 hK3.lt
  refine ⟨_, rfl, hK.out _ _ (GateS.of hK4) (fun _ => ?_)⟩
  clear hK K'
  try simp only [List.getElem_toArray, List.getElem_cons_zero, List.getElem_cons_succ, Act.put, List.setIfInBounds_toArray, List.set_cons_zero, List.set_cons_succ]
  obtain ⟨Bq, eq, rfl⟩ := own_slice hoq
  obtain ⟨Ba, ea, rfl⟩ := own_slice hoa
  obtain ⟨Bs, es, rfl⟩ := own_slice hos
  obtain ⟨Bd, ed, rfl⟩ := own_slice hod
  refine wpAnyG_open _ _ _ _ (of_decide_eq_true (by kernel_rfl)) ?_
  refine wpAny_take (i := 24) (v := ?vv21) rfl (by kernel_rfl) (by kernel_rfl) (by kernel_rfl) (fun _ _ _ h => h) (Or.inl ⟨by rfl, ?hy21⟩) ?_
  case hy21 => intro w; go_simp; try with_reducible rfl
  try simp only [List.getElem_toArray, List.getElem_cons_zero, List.getElem_cons_succ, Act.put, List.setIfInBounds_toArray, List.set_cons_zero, List.set_cons_succ]
  refine wpAny_take (i := 25) (v := ?vv22) rfl (by kernel_rfl) (by kernel_rfl) (by kernel_rfl) (fun _ _ _ h => h) (Or.inl ⟨by rfl, ?hy22⟩) ?_
  case hy22 => intro w; go_simp; try with_reducible rfl
  try simp only [List.getElem_toArray, List.getElem_cons_zero, List.getElem_cons_succ, Act.put, List.setIfInBounds_toArray, List.set_cons_zero, List.set_cons_succ]
  have hz4 := Array.getElem?_eq_getElem (xs := x) (i := 12) (by rw [hsz4]; omega)
  have hce4 := (hK4.cell 12).trans hz4
  have hfr4 := hK4.frozen 12
  refine wpAny_ready (rs := [26]) (by kernel_rfl) (by simp) ?_
  refine AllReady.cons rfl (fun K hK => ?_) AllReady.nil
  simp only [List.getElem_toArray, List.getElem_cons_zero, List.getElem_cons_succ]
  go_simp
  refine hK _ _ ?_
  clear hK K hz4 hce4 hfr4
  obtain ⟨y5, hy5⟩ : ∃ y, x.setIfInBounds 12 (.slice Bq M.q.length eq) = y := ⟨_, rfl⟩
  obtain ⟨w5, hw5⟩ : ∃ w', w4.setCell ⟨b, 12, none⟩ (.slice Bq M.q.length eq) = w' := ⟨_, rfl⟩
  have hK5 : Blk w5 b 35 y5 := by rw [← hy5, ← hw5]; exact hK4.set_ 12 _
  have hO5 : Only (fun i => i = b) w4 w5 := by rw [← hw5]; exact (Only.refl (fun i => i = b) _).setCell (p := ⟨b, 12, none⟩) (Or.inl rfl) _
  have hsz5 : y5.size = 18 := by rw [← hy5, Array.size_setIfInBounds, hsz4]
  rw [hw5]
  clear hw5
  try simp only [List.getElem_toArray, List.getElem_cons_zero, List.getElem_cons_succ, Act.put, List.setIfInBounds_toArray, List.set_cons_zero, List.set_cons_succ]
  refine wpAny_take (i := 27) (v := ?vv23) rfl (by kernel_rfl) (by kernel_rfl) (by kernel_rfl) (fun _ _ _ h => h) (Or.inl ⟨by rfl, ?hy23⟩) ?_
  case hy23 => intro w; go_simp; try with_reducible rfl
  try simp only [List.getElem_toArray, List.getElem_cons_zero, List.getElem_cons_succ, Act.put, List.setIfInBounds_toArray, List.set_cons_zero, List.set_cons_succ]
  refine wpAny_take (i := 28) (v := ?vv24) rfl (by kernel_rfl) (by kernel_rfl) (by kernel_rfl) (fun _ _ _ h => h) (Or.inl ⟨by rfl, ?hy24⟩) ?_
  case hy24 => intro w; go_simp; try with_reducible rfl
  try simp only [List.getElem_toArray, List.getElem_cons_zero, List.getElem_cons_succ, Act.put, List.setIfInBounds_toArray, List.set_cons_zero, List.set_cons_succ]
  have hz5 := Array.getElem?_eq_getElem (xs := y5) (i := 13) (by rw [hsz5]; omega)
  have hce5 := (hK5.cell 13).trans hz5
  have hfr5 := hK5.frozen 13
  refine wpAny_ready (rs := [29]) (by kernel_rfl) (by simp) ?_
  refine AllReady.cons rfl (fun K hK => ?_) AllReady.nil
  simp only [List.getElem_toArray, List.getElem_cons_zero, List.getElem_cons_succ]
  go_simp
  refine hK _ _ ?_
  clear hK K hz5 hce5 hfr5
  obtain ⟨y6, hy6⟩ : ∃ y, y5.setIfInBounds 13 (.slice Ba M.a.length ea) = y := ⟨_, rfl⟩
  obtain ⟨w6, hw6⟩ : ∃ w', w5.setCell ⟨b, 13, none⟩ (.slice Ba M.a.length ea) = w' := ⟨_, rfl⟩
  have hK6 : Blk w6 b 35 y6 := by rw [← hy6, ← hw6]; exact hK5.set_ 13 _
  have hO6 : Only (fun i => i = b) w5 w6 := by rw [← hw6]; exact (Only.refl (fun i => i = b) _).setCell (p := ⟨b, 13, none⟩) (Or.inl rfl) _
  have hsz6 : y6.size = 18 := by rw [← hy6, Array.size_setIfInBounds, hsz5]
  rw [hw6]
  clear hw6
  try simp only [List.getElem_toArray, List.getElem_cons_zero, List.getElem_cons_succ, Act.put, List.setIfInBounds_toArray, List.set_cons_zero, List.set_cons_succ]
  refine wpAny_take (i := 30) (v := ?vv25) rfl (by kernel_rfl) (by kernel_rfl) (by kernel_rfl) (fun _ _ _ h => h) (Or.inl ⟨by rfl, ?hy25⟩) ?_
  case hy25 => intro w; go_simp; try with_reducible rfl
  try simp only [List.getElem_toArray, List.getElem_cons_zero, List.getElem_cons_succ, Act.put, List.setIfInBounds_toArray, List.set_cons_zero, List.set_cons_succ]
  refine wpAny_take (i := 31) (v := ?vv26) rfl (by kernel_rfl) (by kernel_rfl) (by kernel_rfl) (fun _ _ _ h => h) (Or.inl ⟨by rfl, ?hy26⟩) ?_
  case hy26 => intro w; go_simp; try with_reducible rfl
  try simp only [List.getElem_toArray, List.getElem_cons_zero, List.getElem_cons_succ, Act.put, List.setIfInBounds_toArray, List.set_cons_zero, List.set_cons_succ]
  have hz6 := Array.getElem?_eq_getElem (xs := y6) (i := 14) (by rw [hsz6]; omega)
  have hce6 := (hK6.cell 14).trans hz6
  have hfr6 := hK6.frozen 14
  refine wpAny_ready (rs := [32]) (by kernel_rfl) (by simp) ?_
  refine AllReady.cons rfl (fun K hK => ?_) AllReady.nil
  simp only [List.getElem_toArray, List.getElem_cons_zero, List.getElem_cons_succ]
  go_simp
  refine hK _ _ ?_
  clear hK K hz6 hce6 hfr6
  obtain ⟨y7, hy7⟩ : ∃ y, y6.setIfInBounds 14 (.slice Bs M.s.length es) = y := ⟨_, rfl⟩
  obtain ⟨w7, hw7⟩ : ∃ w', w6.setCell ⟨b, 14, none⟩ (.slice Bs M.s.length es) = w' := ⟨_, rfl⟩
  have hK7 : Blk w7 b 35 y7 := by rw [← hy7, ← hw7]; exact hK6.set_ 14 _
  have hO7 : Only (fun i => i = b) w6 w7 := by rw [← hw7]; exact (Only.refl (fun i => i = b) _).setCell (p := ⟨b, 14, none⟩) (Or.inl rfl) _
  have hsz7 : y7.size = 18 := by rw [← hy7, Array.size_setIfInBounds, hsz6]
  rw [hw7]
  clear hw7
  try simp only [List.getElem_toArray, List.getElem_cons_zero, List.getElem_cons_succ, Act.put, List.setIfInBounds_toArray, List.set_cons_zero, List.set_cons_succ]
  refine wpAny_take (i := 33) (v := ?vv27) rfl (by kernel_rfl) (by kernel_rfl) (by kernel_rfl) (fun _ _ _ h => h) (Or.inl ⟨by rfl, ?hy27⟩) ?_
  case hy27 => intro w; go_simp; try with_reducible rfl
  try simp only [List.getElem_toArray, List.getElem_cons_zero, List.getElem_cons_succ, Act.put, List.setIfInBounds_toArray, List.set_cons_zero, List.set_cons_succ]
  refine wpAny_take (i := 34) (v := ?vv28) rfl (by kernel_rfl) (by kernel_rfl) (by kernel_rfl) (fun _ _ _ h => h) (Or.inl ⟨by rfl, ?hy28⟩) ?_
  case hy28 => intro w; go_simp; try with_reducible rfl
  try simp only [List.getElem_toArray, List.getElem_cons_zero, List.getElem_cons_succ, Act.put, List.setIfInBounds_toArray, List.set_cons_zero, List.set_cons_succ]
  have hz7 := Array.getElem?_eq_getElem (xs := y7) (i := 15) (by rw [hsz7]; omega)
  have hce7 := (hK7.cell 15).trans hz7
  have hfr7 := hK7.frozen 15
  refine wpAny_ready (rs := [35]) (by kernel_rfl) (by simp) ?_
  refine AllReady.cons rfl (fun K hK => ?_) AllReady.nil
  simp only [List.getElem_toArray, List.getElem_cons_zero, List.getElem_cons_succ]
  go_simp
  refine hK _ _ ?_
  clear hK K hz7 hce7 hfr7
  obtain ⟨y8, hy8⟩ : ∃ y, y7.setIfInBounds 15 (.slice Bd M.d.length ed) = y := ⟨_, rfl⟩
  obtain ⟨w8, hw8⟩ : ∃ w', w7.setCell ⟨b, 15, none⟩ (.slice Bd M.d.length ed) = w' := ⟨_, rfl⟩
  have hK8 : Blk w8 b 35 y8 := by rw [← hy8, ← hw8]; exact hK7.set_ 15 _
  have hO8 : Only (fun i => i = b) w7 w8 := by rw [← hw8]; exact (Only.refl (fun i => i = b) _).setCell (p := ⟨b, 15, none⟩) (Or.inl rfl) _
  have hsz8 : y8.size = 18 := by rw [← hy8, Array.size_setIfInBounds, hsz7]
  rw [hw8]
  clear hw8
  try simp only [List.getElem_toArray, List.getElem_cons_zero, List.getElem_cons_succ, Act.put, List.setIfInBounds_toArray, List.set_cons_zero, List.set_cons_succ]
  refine wpAny_done (by kernel_rfl) ?_ _
  -- NEG
  have hR0 : Blk wA.drew (b + 1) 35 zeroA := blk2.drew
  have hR1 := hR0.below hC1 hR0.lt
  have hR2 := hR1.below hC2 hR1.lt
  have hR3 := hR2.below hC3 hR2.lt
  have hR4 := hR3.below hC4 hR3.lt
  have hne : ¬ (b + 1 = b) := by omega
  have hR8 := (((hR4.only hO5 hne).only hO6 hne).only hO7 hne).only hO8 hne
  have hOB : Only (fun i => i = b) w4 w8 := ((hO5.trans hO6 (fun _ _ h => h)).trans hO7 (fun _ _ h => h)).trans hO8 (fun _ _ h => h)
  have hlt0 := hR0.lt
  have hone5 := one_set 12 (.slice Bq M.q.length eq) hx.one rfl
  rw [hy5] at hone5
  have hone6 := one_set 13 (.slice Ba M.a.length ea) hone5 rfl
  rw [hy6] at hone6
  have hone7 := one_set 14 (.slice Bs M.s.length es) hone6 rfl
  rw [hy7] at hone7
  have hone8 := one_set 15 (.slice Bd M.d.length ed) hone7 rfl
  rw [hy8] at hone8
  have hsc8 : Scal y8 M := by
    rw [← hy8, ← hy7, ← hy6, ← hy5]
    exact scal_set (scal_set (scal_set (scal_set hs (by omega) (by omega)) (by omega) (by omega)) (by omega) (by omega)) (by omega) (by omega)
  have hG8 : AskG y8 := ⟨hsz8, hone8⟩
  have hg12 : y8[12]? = some (.slice Bq M.q.length eq) := by
    rw [← hy8, get_far (by omega), ← hy7, get_far (by omega), ← hy6, get_far (by omega), ← hy5, get_set (by omega)]
  have hg13 : y8[13]? = some (.slice Ba M.a.length ea) := by
    rw [← hy8, get_far (by omega), ← hy7, get_far (by omega), ← hy6, get_set (by omega)]
  have hg14 : y8[14]? = some (.slice Bs M.s.length es) := by
    rw [← hy8, get_far (by omega), ← hy7, get_set (by omega)]
  have hg15 : y8[15]? = some (.slice Bd M.d.length ed) := by
    rw [← hy8, get_set (by omega)]
  have hfin : ∀ {B1 : Nat} {ty : TypeId} {sz n : Nat} {v : Value} {vs : List Value}, w4.ownsRow B1 ty sz v n vs → b + 1 < B1 → (w8.setRow (b + 1) y8).ownsRow b ty sz v n vs := fun {B1 _ _ _ _ _} ho hB1 =>
    own_only (own_only (World.ownsRow.mono ho (by omega)) hOB (fun k hk hkb => by have := (ho.lt k hk).1; omega)) (only_row w8 (b + 1) y8) (fun k hk hkb => by have := (ho.lt k hk).1; omega)
  have o1 := hfin (own_stays2 (own_stays2 (own_stays2 hoq hC2) hC3) hC4) hlt0
  have o2 := hfin (own_stays2 (own_stays2 hoa hC3) hC4) (Nat.lt_of_lt_of_le hlt0 hC1.size)
  have o3 := hfin (own_stays2 hos hC4) (Nat.lt_of_lt_of_le hlt0 (Nat.le_trans hC1.size hC2.size))
  have o4 := hfin hod (Nat.lt_of_lt_of_le hlt0 (Nat.le_trans hC1.size (Nat.le_trans hC2.size hC3.size)))
  have hBel : Below b w (w8.setRow (b + 1) y8) := below_row (hB4.trans (hOB.below hZ4 (fun i hi h => by omega))) (Nat.le_succ b) y8
  clear hfin hOB hoq hoa hos hod hO5 hO6 hO7 hO8 hR0 hR1 hR2 hR3 hR4 hq ha hsr hd hC1 hC2 hC3 hC4 hB0 hB1 hB2 hB3 hB4 hK0 hK1 hK2 hK3 hK4 hK5 hK6 hK7 hy5 hy6 hy7 hy8 hone5 hone6 hone7 blk1 blk2 hb1 hi hx12 hx13 hx14 hx15 hnq hna hns hnd hsz4 hsz5 hsz6 hsz7 hZ0 hZ1 hZ2 hZ3 hZ4 hx hs m1 m2 m3 m4
  go_wp2_with (first | refine wpList_load_row rfl 35 _ rfl b rfl 35 y8 _ _ hK8 Try.underlying35 rfl hG8.info ?_ | refine wpList_store_row rfl 35 _ _ rfl (b + 1) y8 rfl rfl 35 zeroA hR8 hG8.info hG8.size.symm hG8.one ?_)
  have hR9 : Blk (w8.setRow (b + 1) y8) (b + 1) 35 y8 := hR8.setRow
  refine bodyPost_ret (results_cell_row rfl _ _ (b + 1) 35 y8 _ _ rfl hR9 Try.underlying35 rfl hG8.info) rfl ?_
  refine ⟨y8, rfl, hG8, hsc8, ?_, ?_⟩
  · rw [hb]; exact ⟨⟨_, hg12, o1⟩, ⟨_, hg13, o2⟩, ⟨_, hg14, o3⟩, ⟨_, hg15, o4⟩⟩
  · rw [hb]; exact hBel
end Go.Proofs.Ytigjipjkollohaa.G
