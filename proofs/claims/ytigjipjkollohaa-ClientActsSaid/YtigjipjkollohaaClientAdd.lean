/-
  The contract of the Table's Add.
-/
import Derived.Test.YtigjipjkollohaaClientOps
namespace Go.Proofs.Ytigjipjkollohaa
open Go.RowKit

theorem step_call {P : Program} {ops : Array Oper} {o : Oper} {a : Act} {w : World} {K : Act → World → Prop} {Q : Exit → Act → World → Prop} {E : Prop} (hgd : o.guard = none) (f : FuncId) (x : Operand) (t : TypeId)
    (ho : o.op = .call { callee := .value (.func f), args := #[x], argTypes := #[t] }) (hf : ∀ (args : Array Value) (W : World), (callFunc f args).run P W = .ok (.enter f args) W) {y : Value} (hy : a.eval x = y) {R : Ending → World → Prop} (hc : Calls P f #[y] w R)
    (h : ∀ e w', R e w' → ∃ v, e = .returned v ∧ K (a.put o.dst v) w') : if Region.wanted o (yielded ops a.tmps) = true then Oper.wp P o a w K Q else E := by
  have hw : Region.wanted o (yielded ops a.tmps) = true := by simp [Region.wanted, hgd]
  rw [if_pos hw]
  have hfv : a.eval (.func f) = .func (.func f) #[] #[] := rfl
  unfold Oper.wp execOp
  simp only [ho, resolve, Deferred.ofValue, invoke, Sem.run_bind, Sem.run_pure, Result.andThen_ok, List.map_toArray, List.map_cons, List.map_nil, hy, hfv]
  simp only [Array.append_empty, Array.empty_append, hf]
  refine hc.mono ?_
  intro e w' hr
  obtain ⟨v, rfl, hk⟩ := h e w' hr
  exact hk
theorem Try.callOwn (args : Array Value) (w : World) : (callFunc 23 args).run Try.prog w = .ok (.enter 23 args) w := run_enter Try.func23 (by kernel_rfl) rfl args w
/-- The table, an asker more. -/
theorem add_step {w w4 : World} {B g : Nat} {most : Int} {v v4 : Value} {l : List (Array Value)} {x : Array Value} (h : TAt B w g most v l) (hx : AskX x)
    (hown : w4.ownsRow B 35 18 v4 (l.length + 1) (l.flatMap Array.toList ++ x.toList)) (hgr : w.grownBy w4 v.ownBlock) (hat : v4.ownBlock = v.ownBlock ∨ v4.ownBlock = some w.heap.size) :
    Blk w4 g 59 #[.int .i64 most, v] ∧ TAt B (w4.setCell ⟨g, 1, none⟩ v4) g most v4 (l ++ [x]) ∧ TStep g v v4 w (w4.setCell ⟨g, 1, none⟩ v4) := by
  obtain ⟨hb, ho, hax⟩ := h
  have hng : v.ownBlock ≠ some g := own_blk_ne ho hb (by decide)
  have hb4 := hb.grown hgr (Ne.symm hng)
  have hng4 : v4.ownBlock ≠ some g := own_blk_ne hown hb4 (by decide)
  refine ⟨hb4, ⟨hb4.set_ 1 v4, ?_, fun y hy => ?_⟩, ((Only.refl (fpT g v) w).grown hgr (fun k hk => Or.inl (Or.inr hk))).setCell (Or.inl (Or.inl rfl)) _, ?_⟩
  · have e1 : (l ++ [x]).length = l.length + 1 := by simp
    have e2 : (l ++ [x]).flatMap Array.toList = l.flatMap Array.toList ++ x.toList := by simp
    rw [e1, e2]
    exact ownsRow_setCell_other hown (by simpa using hng4) v4
  · rcases List.mem_append.1 hy with hy | hy
    · exact hax y hy
    · rw [List.mem_singleton] at hy
      subst hy
      exact hx
  · rcases hat with hat | hat
    · exact Or.inl hat
    · exact Or.inr ⟨_, hat, Nat.le_refl _⟩
def AddPost (B g : Nat) (most : Int) (v : Value) (l : List (Array Value)) (x : Array Value) (w : World) (e : Ending) (w' : World) : Prop :=
  if most ≤ (l.length : Int) then e = .returned (.int .i64 4) ∧ Below w.heap.size w w' else ∃ v', e = .returned (.int .i64 0) ∧ TAt B w' g most v' (l ++ [x]) ∧ TStep g v v' w w'

set_option maxRecDepth 200000 in
set_option maxHeartbeats 2000000 in
theorem add_any (B g : Nat) (most : Int) (v : Value) (l : List (Array Value)) (x : Array Value) (w : World) (h : TAt B w g most v l) (hx : AskX x) (hl : l.length ≤ 1000) (hB : B ≤ w.heap.size) :
    Calls Try.prog 10 #[.pointer (some ⟨g, 0, none⟩), .agg x] w (AddPost B g most v l x w) := by
  obtain ⟨A, c, rfl⟩ := own_slice h.2.1
  obtain ⟨x0, x1, x2, x3, x4, x5, x6, x7, x8, x9, xa, xb, xc, xd, xe, xf, xg, xh, rfl⟩ := array18 hx.size
  have hBA := (Below.refl w.heap.size w).alloc (Nat.le_refl _) (.cells #[x0, x1, x2, x3, x4, x5, x6, x7, x8, x9, xa, xb, xc, xd, xe, xf, xg, xh] 35)
  have h1 := h.below hBA
  have hc0 : (w.alloc (.cells #[x0, x1, x2, x3, x4, x5, x6, x7, x8, x9, xa, xb, xc, xd, xe, xf, xg, xh] 35)).cell? ⟨g, 0, none⟩ = some (.int .i64 most) := h1.1.cell 0
  have hc1 : (w.alloc (.cells #[x0, x1, x2, x3, x4, x5, x6, x7, x8, x9, xa, xb, xc, xd, xe, xf, xg, xh] 35)).cell? ⟨g, 1, none⟩ = some (.slice A l.length c) := h1.1.cell 1
  by_cases hfull : most ≤ (l.length : Int)
  · clear h1 h
    go_enter Try.func10, Try.ntmps10
    go_wp2_with fail
    go_quiet (fail)
    go_wp2
    go_ret
    unfold AddPost
    rw [if_pos hfull]
    exact ⟨rfl, below_drewN hBA _⟩
  · obtain ⟨i0, hi, hz0, hz1, hz2⟩ := info_parts Try.infoAsk
    have H := Lib.hid h
    clear h1 h
    go_enter Try.func10, Try.ntmps10
    go_wp2_with fail
    go_quiet (fail)
    obtain ⟨w1, hw1⟩ : ∃ w1, (w.alloc (.cells #[x0, x1, x2, x3, x4, x5, x6, x7, x8, x9, xa, xb, xc, xd, xe, xf, xg, xh] 35)).drewN nq = w1 := ⟨_, rfl⟩
    have hB1 : Below w.heap.size w w1 := by rw [← hw1]; exact below_drewN hBA _
    have hxb : Blk w1 w.heap.size 35 #[x0, x1, x2, x3, x4, x5, x6, x7, x8, x9, xa, xb, xc, xd, xe, xf, xg, xh] := by rw [← hw1]; exact (Blk.new w _ #[x0, x1, x2, x3, x4, x5, x6, x7, x8, x9, xa, xb, xc, xd, xe, xf, xg, xh]).drewN _
    rw [hw1]
    have h1 := H.out.below hB1
    clear hw1 hc0 hc1 hBA
    go_wp2_with fail
    have hk0 : w1.drew.cell? ⟨g, 1, none⟩ = some (.slice A l.length c) := h1.1.cell 1
    have hcx : ∀ i, w1.drew.cell? ⟨w.heap.size, i, none⟩ = (#[x0, x1, x2, x3, x4, x5, x6, x7, x8, x9, xa, xb, xc, xd, xe, xf, xg, xh] : Array Value)[i]? := hxb.drew.cell
    go_region_law (first
      | (refine step_call rfl 23 (.tmp 24) 35 rfl Try.callOwn (y := .agg #[x0, x1, x2, x3, x4, x5, x6, x7, x8, x9, xa, xb, xc, xd, xe, xf, xg, xh]) rfl (own_nil #[x0, x1, x2, x3, x4, x5, x6, x7, x8, x9, xa, xb, xc, xd, xe, xf, xg, xh] hx _) ?_; rintro e w3 ⟨rfl, hB3⟩; refine ⟨_, rfl, ?_⟩; have hB13 : Below w1.heap.size w1 w3 := (Below.refl w1.heap.size w1).drew.trans hB3; have hT3 := h1.below hB13; have hTA := hT3.below ((Below.refl w3.heap.size w3).alloc (Nat.le_refl _) (.cells #[x0, x1, x2, x3, x4, x5, x6, x7, x8, x9, xa, xb, xc, xd, xe, xf, xg, xh] 35)); have hk3 : w3.cell? ⟨g, 1, none⟩ = some (.slice A l.length c) := hT3.1.cell 1; have hk4 : (w3.alloc (.cells #[x0, x1, x2, x3, x4, x5, x6, x7, x8, x9, xa, xb, xc, xd, xe, xf, xg, xh] 35)).cell? ⟨g, 1, none⟩ = some (.slice A l.length c) := hTA.1.cell 1; have hr3 := reads_ask hx w3)
      | (refine step_append_any _ rfl _ _ 45 rfl B 35 i0 (.agg zeroA) 18 184 Try.underlying45 hi hz0 hz1 hz2 rfl (by decide) _ _ _ rfl hTA.2.1 _ _ _ _ _ rfl hr3 (one_all hx) (by unfold maxLen; omega) (by omega) (Nat.le_trans hB (Nat.le_trans hB1.size (Nat.le_trans hB13.size (by simp)))) ?_; intro v4 w4 hown4 hgr4 hat4; obtain ⟨A4, c4, rfl⟩ := own_slice hown4; obtain ⟨hb4, hT4, hs4⟩ := add_step hTA hx hown4 hgr4 hat4; have hc4 : w4.cell? ⟨g, 1, none⟩ = some (.slice A l.length c) := hb4.cell 1; have hf4 := hb4.frozen 1))
    all_goals
      have hAS := (tstep_below (g := g) (v := .slice A l.length c) (hB1.trans (hB13.mono hB1.size))).trans ((tstep_below ((Below.refl w3.heap.size w3).alloc (Nat.le_refl _) (.cells #[x0, x1, x2, x3, x4, x5, x6, x7, x8, x9, xa, xb, xc, xd, xe, xf, xg, xh] 35))).trans hs4)
      clear hr3 hgr4 hown4 hat4 hTA hT3 hcx hi hz0 hz1 hz2 hxb
      go_wp2
      go_ret
      unfold AddPost
      rw [if_neg (by omega)]
      exact ⟨_, rfl, hT4, hAS⟩

set_option maxRecDepth 20000 in
theorem add_nil (x : Array Value) (w : World) :
    Calls Try.prog 10 #[.pointer none, .agg x] w fun e w' => e = .returned (.int .i64 4) ∧ Below w.heap.size w w' := by
  have hBA := (Below.refl w.heap.size w).alloc (Nat.le_refl _) (.cells x 35)
  go_enter Try.func10, Try.ntmps10
  go_wp2_with fail
  go_quiet (fail)
  go_wp2
  go_ret
  exact ⟨rfl, below_drewN hBA _⟩
set_option maxRecDepth 20000 in
theorem tlen_nil (w : World) :
    Calls Try.prog 20 #[.pointer none] w fun e w' => e = .returned (.int .i64 0) ∧ w = w' := by
  go_enter Try.func20, Try.ntmps20
  go_wp2
  go_ret
  exact ⟨rfl, rfl⟩
end Go.Proofs.Ytigjipjkollohaa
