/-
  The contract of the Table's Add, whatever the message holds.
-/
import Derived.Test.YtigjipjkollohaaGOps
namespace Go.Proofs.Ytigjipjkollohaa.G
open Go.RowKit

theorem add_step {w w4 : World} {B g : Nat} {most : Int} {v v4 : Value} {l : List Pr} {x : Array Value} {M : AskD} (h : TAt B w g most v l) (hx : Good B w (x, M))
    (hown : w4.ownsRow B 35 18 v4 (l.length + 1) ((rows l).flatMap Array.toList ++ x.toList)) (hgr : w.grownBy w4 v.ownBlock) (hat : v4.ownBlock = v.ownBlock ∨ v4.ownBlock = some w.heap.size) :
    Blk w4 g 59 #[.int .i64 most, v] ∧ TAt B (w4.setCell ⟨g, 1, none⟩ v4) g most v4 (l ++ [(x, M)]) ∧ TStep g v v4 w (w4.setCell ⟨g, 1, none⟩ v4) := by
  have hrow := row_grown h.2.2 hx h.2.1 hown hgr
  obtain ⟨hb, ho, hgd⟩ := h
  have hng : v.ownBlock ≠ some g := own_blk_ne ho hb (by decide)
  have hb4 := hb.grown hgr (Ne.symm hng)
  have hng4 : v4.ownBlock ≠ some g := own_blk_ne hown hb4 (by decide)
  have hO3 : Only (fun i => i = g) w4 (w4.setCell ⟨g, 1, none⟩ v4) := (Only.refl (fun i => i = g) _).setCell (p := ⟨g, 1, none⟩) (Or.inl rfl) _
  refine ⟨hb4, ⟨hb4.set_ 1 v4, hrow.only hO3 (fun k hk hkg => hng4 (by rw [hk, hkg])) (fun k _ hk => by rw [hk]; exact alien_blk hb4 (by decide) (by decide))⟩, ((Only.refl (fpT g v) w).grown hgr (fun k hk => Or.inl (Or.inr hk))).setCell (Or.inl (Or.inl rfl)) _, ?_⟩
  rcases hat with hat | hat
  · exact Or.inl hat
  · exact Or.inr ⟨_, hat, Nat.le_refl _⟩
def AddPost (B g : Nat) (most : Int) (v : Value) (l : List Pr) (M : AskD) (w : World) (e : Ending) (w' : World) : Prop :=
  if most ≤ (l.length : Int) then e = .returned (.int .i64 4) ∧ Below w.heap.size w w' else ∃ v' x', e = .returned (.int .i64 0) ∧ TAt B w' g most v' (l ++ [(x', M)]) ∧ TStep g v v' w w'
theorem Blk.range {w : World} {b : Nat} {t : TypeId} {x : Array Value} (h : Blk w b t x) : w.rangeAt b 0 x.toList := by
  intro j u hu
  rw [Nat.zero_add, h.cell j, ← Array.getElem?_toList]
  exact hu

set_option maxRecDepth 200000 in
set_option maxHeartbeats 2000000 in
theorem add_any (B g : Nat) (most : Int) (v : Value) (l : List Pr) (x : Array Value) (M : AskD) (w : World) (h : TAt B w g most v l) (hx : AskG x) (hs : Scal x M) (hin : InAt w.heap.size w x M) (hm : M.Ok) (hl : l.length ≤ 1000) (hB : B ≤ w.heap.size) :
    Calls Try.prog 10 #[.pointer (some ⟨g, 0, none⟩), .agg x] w (AddPost B g most v l M w) := by
  obtain ⟨A, c, rfl⟩ := own_slice h.2.1
  have hBA := (Below.refl w.heap.size w).alloc (Nat.le_refl _) (.cells x 35)
  have h1 := h.below hBA
  have hc0 : (w.alloc (.cells x 35)).cell? ⟨g, 0, none⟩ = some (.int .i64 most) := h1.1.cell 0
  have hc1 : (w.alloc (.cells x 35)).cell? ⟨g, 1, none⟩ = some (.slice A l.length c) := h1.1.cell 1
  by_cases hfull : most ≤ (l.length : Int)
  · clear h1 h
    go_enter Try.func10, Try.ntmps10
    go_wp2_with fail
    go_quiet (fail)
    go_wp2
    go_ret
    unfold AddPost
    rw [if_pos hfull]
    exact ⟨rfl, below_drewN hBA _⟩
  · obtain ⟨i0, hi, hz0, hz1, hz2⟩ := info_parts Try.infoAsk
    have H := Lib.hid h
    clear h1 h
    go_enter Try.func10, Try.ntmps10
    go_wp2_with fail
    go_quiet (fail)
    obtain ⟨w1, hw1⟩ : ∃ w1, (w.alloc (.cells x 35)).drewN nq = w1 := ⟨_, rfl⟩
    have hB1 : Below w.heap.size w w1 := by rw [← hw1]; exact below_drewN hBA _
    have hxb : Blk w1 w.heap.size 35 x := by rw [← hw1]; exact (Blk.new w _ x).drewN _
    rw [hw1]
    have h1 := H.out.below hB1
    clear hw1 hc0 hc1 hBA
    go_wp2_with fail
    obtain ⟨b, hb⟩ : ∃ b, w.heap.size = b := ⟨_, rfl⟩
    rw [hb] at hxb hB1 ⊢
    have hT1 : TAt B w1.drew g most (.slice A l.length c) l := h1.below (Below.refl w1.heap.size w1).drew
    have hS1 : Blk w1.drew b 35 x ∧ w1.drew.cell? ⟨g, 1, none⟩ = some (.slice A l.length c) := ⟨hxb.drew, hT1.1.cell 1⟩
    refine wp_region_gate (gate := [6, 8]) (S := fun w' => Blk w' b 35 x ∧ w'.cell? ⟨g, 1, none⟩ = some (.slice A l.length c)) (by kernel_rfl) ?_
    -- GEN
    refine wpAnyG_take (i := 0) (v := ?vv1) rfl (by decide) (by kernel_rfl) (by kernel_rfl) (by kernel_rfl) (fun _ _ _ h => h) (Or.inl ⟨by rfl, ?hy1⟩) (GateS.of hS1) (fun _ => ?_)
    case hy1 => intro w; go_simp; try with_reducible rfl
    try simp only [List.getElem_toArray, List.getElem_cons_zero, Act.put, List.setIfInBounds_toArray, List.set_cons_zero, List.set_cons_succ]
    refine wpAnyG_take (i := 1) (v := ?vv2) rfl (by decide) (by kernel_rfl) (by kernel_rfl) (by kernel_rfl) (fun _ _ _ h => h) (Or.inl ⟨by rfl, ?hy2⟩) (GateS.of hS1) (fun _ => ?_)
    case hy2 => intro w; go_simp; try with_reducible rfl
    try simp only [List.getElem_toArray, List.getElem_cons_zero, List.getElem_cons_succ, Act.put, List.setIfInBounds_toArray, List.set_cons_zero, List.set_cons_succ]
    refine wpAnyG_take (i := 2) (v := ?vv3) rfl (by decide) (by kernel_rfl) (by kernel_rfl) (by kernel_rfl) (fun _ _ _ h => h) (Or.inl ⟨by rfl, ?hy3⟩) (GateS.of hS1) (fun _ => ?_)
    case hy3 => intro w; go_simp; try with_reducible rfl
    try simp only [List.getElem_toArray, List.getElem_cons_zero, List.getElem_cons_succ, Act.put, List.setIfInBounds_toArray, List.set_cons_zero, List.set_cons_succ]
    refine wpAnyG_take (i := 3) (v := ?vv4) rfl (by decide) (by kernel_rfl) (by kernel_rfl) (by kernel_rfl) (fun _ _ _ h => h) (Or.inl ⟨by rfl, ?hy4⟩) (GateS.of hS1) (fun _ => ?_)
    case hy4 => intro w; go_simp; try with_reducible rfl
    try simp only [List.getElem_toArray, List.getElem_cons_zero, List.getElem_cons_succ, Act.put, List.setIfInBounds_toArray, List.set_cons_zero, List.set_cons_succ]
    refine wpAnyG_load (i := 4) (c := 8) (v := ?vv5) rfl (by decide) ⟨by decide, by kernel_rfl⟩ (by kernel_rfl) (by kernel_rfl) (by kernel_rfl) (by kernel_rfl) (fun _ _ _ h => h) (Or.inl ⟨by rfl, ?hy5⟩) (GateS.of hS1) (fun _ => ?_)
    case hy5 => intro w hSw; have hcell := hSw.2; clear hSw; go_simp; try with_reducible rfl
    try simp only [List.getElem_toArray, List.getElem_cons_zero, List.getElem_cons_succ, Act.put, List.setIfInBounds_toArray, List.set_cons_zero, List.set_cons_succ]
    refine wpAnyG_load (i := 5) (c := 6) (v := .agg x) rfl (by decide) ⟨by decide, by kernel_rfl⟩ (by kernel_rfl) (by kernel_rfl) (by kernel_rfl) (by kernel_rfl) (fun _ _ _ h => h) (yieldsIf_load_mid (by rfl) 35 _ rfl b 0 rfl x.toList _ (fun w hSw => Blk.range hSw.1) Try.underlying35 rfl (by rw [Array.length_toList]; exact hx.info)) (GateS.of hS1) (fun _ => ?_)
    try simp only [List.getElem_toArray, List.getElem_cons_zero, List.getElem_cons_succ, Act.put, List.setIfInBounds_toArray, List.set_cons_zero, List.set_cons_succ]
    refine wpAnyG_one (i := 6) (by kernel_rfl) rfl (fun K' hK => ?_)
    refine step_call rfl 23 (.tmp 24) 35 rfl Try.callOwn (y := .agg x) rfl (own_any x M _ hx hs ((hin.below (by rw [hb]; exact hB1.drew)).more (by rw [hb]; exact Nat.le_of_lt hxb.lt)) hm) ?_
    rintro e w3 ⟨x', rfl, hx', hsc', hoa', hB3⟩
    have hT3 := hT1.below hB3
    have hS3 : Blk w3 b 35 x ∧ w3.cell? ⟨g, 1, none⟩ = some (.slice A l.length c) := ⟨hS1.1.below hB3 hS1.1.lt, hT3.1.cell 1⟩
    refine ⟨_, rfl, hK.out _ _ (GateS.of hS3) (fun _ => ?_)⟩
    clear hK K'
    try simp only [List.getElem_toArray, List.getElem_cons_zero, List.getElem_cons_succ, Act.put, List.setIfInBounds_toArray, List.set_cons_zero, List.set_cons_succ]
    have hfold := fold_ask hx'
    have hsz := hx'.size
    rw [hsz] at hfold
    refine wpAnyG_one (i := 7) (by kernel_rfl) rfl (fun K' hK => ?_)
    simp only [List.getElem_toArray, List.getElem_cons_zero, List.getElem_cons_succ]
    go_simp
    have hBA3 : Below w3.heap.size w3 (w3.alloc (.cells x' 35)) := (Below.refl w3.heap.size w3).alloc (Nat.le_refl _) _
    have hTA := hT3.below hBA3
    have hSA : Blk (w3.alloc (.cells x' 35)) b 35 x ∧ (w3.alloc (.cells x' 35)).cell? ⟨g, 1, none⟩ = some (.slice A l.length c) := ⟨hS3.1.below hBA3 hS3.1.lt, hTA.1.cell 1⟩
    refine hK.out _ _ (GateS.of hSA) (fun _ => ?_)
    clear hK K' hfold hsz
    try simp only [List.getElem_toArray, List.getElem_cons_zero, List.getElem_cons_succ, Act.put, List.setIfInBounds_toArray, List.set_cons_zero, List.set_cons_succ]
    have hBw1 : w.heap.size ≤ w1.drew.heap.size := by rw [hb]; exact Nat.le_of_lt hxb.lt
    have hXA : Good B (w3.alloc (.cells x' 35)) (x', M) := ⟨hx', hsc', (hoa'.mono (Nat.le_trans hB hBw1)).below hBA3, hm⟩
    have hr3 := reads_ask hx' w3
    refine wpAnyG_one (i := 8) (by kernel_rfl) rfl (fun K' hK => ?_)
    refine step_append_any _ rfl _ _ 45 rfl B 35 i0 (.agg zeroA) 18 184 Try.underlying45 hi hz0 hz1 hz2 rfl (by decide) _ _ _ rfl hTA.2.1 _ _ _ _ _ rfl hr3 (one_all hx') (by unfold maxLen; omega) (by omega) (Nat.le_trans hB (Nat.le_trans hBw1 (Nat.le_trans hB3.size (by simp)))) ?_
    intro v4 w4 hown4 hgr4 hat4
    obtain ⟨A4, c4, rfl⟩ := own_slice hown4
    obtain ⟨hb4, hT4, hs4⟩ := add_step hTA hXA hown4 hgr4 hat4
    have HT4 := Lib.hid hT4
    have HS4 : Hid (TStep g (.slice A l.length c) (.slice A4 (l.length + 1) c4) w (w4.setCell ⟨g, 1, none⟩ (.slice A4 (l.length + 1) c4))) := Lib.hid ((tstep_below (by rw [hb]; exact hB1.drew)).trans ((tstep_below hB3).trans ((tstep_below hBA3).trans hs4)))
    have hc4 : w4.cell? ⟨g, 1, none⟩ = some (.slice A l.length c) := hb4.cell 1
    have hf4 := hb4.frozen 1
    refine hK.out _ _ (GateS.vac (of_decide_eq_true (by kernel_rfl))) (fun _ => ?_)
    clear hK K' hr3 hgr4 hown4 hat4 hTA hT3 hi hz0 hz1 hz2 hxb hXA hBA3 hB3 hSA hS3 hS1 hT1 h1 hT4 hs4 hb4 hsc' hoa' hx'
    try simp only [List.getElem_toArray, List.getElem_cons_zero, List.getElem_cons_succ, Act.put, List.setIfInBounds_toArray, List.set_cons_zero, List.set_cons_succ]
    refine wpAnyG_open _ _ _ _ (of_decide_eq_true (by kernel_rfl)) ?_
    refine wpAny_take (i := 9) (v := ?vv6) rfl (by kernel_rfl) (by kernel_rfl) (by kernel_rfl) (fun _ _ _ h => h) (Or.inl ⟨by rfl, ?hy6⟩) ?_
    case hy6 => intro w; go_simp; try with_reducible rfl
    try simp only [List.getElem_toArray, List.getElem_cons_zero, List.getElem_cons_succ, Act.put, List.setIfInBounds_toArray, List.set_cons_zero, List.set_cons_succ]
    refine wpAny_take (i := 10) (v := ?vv7) rfl (by kernel_rfl) (by kernel_rfl) (by kernel_rfl) (fun _ _ _ h => h) (Or.inl ⟨by rfl, ?hy7⟩) ?_
    case hy7 => intro w; go_simp; try with_reducible rfl
    try simp only [List.getElem_toArray, List.getElem_cons_zero, List.getElem_cons_succ, Act.put, List.setIfInBounds_toArray, List.set_cons_zero, List.set_cons_succ]
    refine wpAny_ready (rs := [11]) (by kernel_rfl) (by simp) ?_
    refine AllReady.cons rfl (fun K hK => ?_) AllReady.nil
    simp only [List.getElem_toArray, List.getElem_cons_zero, List.getElem_cons_succ]
    go_simp
    refine hK _ _ ?_
    clear hK K hc4 hf4
    try simp only [List.getElem_toArray, List.getElem_cons_zero, List.getElem_cons_succ, Act.put, List.setIfInBounds_toArray, List.set_cons_zero, List.set_cons_succ]
    refine wpAny_done (by kernel_rfl) ?_ _
    -- NEG
    go_wp2
    go_ret
    unfold AddPost
    rw [if_neg (by omega)]
    exact ⟨_, x', rfl, HT4.out, HS4.out⟩
end Go.Proofs.Ytigjipjkollohaa.G
