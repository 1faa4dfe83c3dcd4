/-
  The contracts of the reference's Done and Late.
-/
import Derived.Test.YtigjipjkollohaaGAdd
import Derived.Test.YtigjipjkollohaaClientRLate
namespace Go.Proofs.Ytigjipjkollohaa.G
open Go.RowKit

theorem Try.infoRef : (Try.prog.info? 42).map (fun i => (i.zero, i.size, i.bytes)) = some (some (.agg zeroA), 18, 184) := by kernel_rfl
theorem Try.sizeRef : (Try.prog.info? 42).map (·.size) = some 18 := by kernel_rfl
theorem AskG.infoR {x : Array Value} (h : AskG x) : (Try.prog.info? 42).map (·.size) = some x.size := by rw [h.size]; exact Try.sizeRef
theorem AskG.infoRL {x : Array Value} (h : AskG x) : (Try.prog.info? 42).map (·.size) = some x.toList.length := by rw [Array.length_toList]; exact h.infoR
/-- A row of eighteen cells, of whatever type. -/
theorem row_rangeT {w w' : World} {B n c rb : Nat} {e : TypeId} {l : List (Array Value)} (ho : w.ownsRow B e 18 (.slice (some ⟨rb, 0, none⟩) n c) n (l.flatMap Array.toList)) (hl : ∀ x ∈ l, AskG x) {k : Nat} (hk : k < l.length)
    (hb : ∀ p : Addr, p.block = rb → w'.cell? p = w.cell? p) : w'.rangeAt rb (k * 18) l[k].toList := by
  have hsz := (hl _ (List.getElem_mem hk)).size
  have hlen := flat_len l hl
  intro j u hu
  have hj : j < 18 := by
    have := (List.getElem?_eq_some_iff.1 hu).1
    rw [Array.length_toList] at this; omega
  have hu2 : (l.flatMap Array.toList)[k * 18 + j]? = some u := by rw [flat_at l k j hl hk hj, ← Array.getElem?_toList]; exact hu
  rw [hb _ rfl, ho.cellAt _ (by rw [← ho.1]; exact (List.getElem?_eq_some_iff.1 hu2).1)]
  exact hu2
theorem reads_blk {w : World} {g : Nat} {t : TypeId} {x : Array Value} (h : Blk w g t x) (hx : AskG x) : Reads w (g + 1) 18 (some ⟨g, 0, none⟩) 1 x.toList := by
  refine ⟨by rw [Array.length_toList, hx.size], fun _ => ⟨_, rfl, by simp, fun j u hu => ?_⟩⟩
  have : (⟨g, 0, none⟩ : Addr).add j = ⟨g, j, none⟩ := by unfold Addr.add; split <;> simp_all
  rw [this, h.cell j, ← Array.getElem?_toList]
  exact hu
/-- A row of the reference's askers. -/
def RRow (B : Nat) (w : World) (v : Value) (l : List (Array Value)) : Prop := w.ownsRow B 42 18 v l.length (l.flatMap Array.toList)
/-- The reference's table at block g. -/
def RAt (B : Nat) (w : World) (g : Nat) (most : Int) (v : Value) (l : List (Array Value)) : Prop :=
  Blk w g 29 #[.int .i64 most, v] ∧ RRow B w v l ∧ ∀ x ∈ l, AskG x
theorem RRow.below {B : Nat} {w w' : World} {v : Value} {l : List (Array Value)} (h : RRow B w v l) (hb : Below w.heap.size w w') : RRow B w' v l := own_stays2 h hb
theorem RAt.below {B g : Nat} {most : Int} {v : Value} {l : List (Array Value)} {w w' : World} (h : RAt B w g most v l) (hb : Below w.heap.size w w') : RAt B w' g most v l := ⟨h.1.below hb h.1.lt, h.2.1.below hb, h.2.2⟩
theorem row_snoc {w' : World} {B : Nat} {v' : Value} {l : List (Array Value)} {x : Array Value} (h : w'.ownsRow B 42 18 v' (l.length + 1) (l.flatMap Array.toList ++ x.toList)) : RRow B w' v' (l ++ [x]) := by
  unfold RRow
  rw [List.length_append]
  simpa using h
/-- Two values that lie in different blocks. -/
def Apart (v v' : Value) : Prop := ∀ k, v.ownBlock = some k → v'.ownBlock ≠ some k
/-- Those that are so and those that are not, of the first k. -/
def RRel (l : List (Array Value)) (so : Array Value → Bool) (w : World) (k : Nat) (vo vl : Value) (wr : World) : Prop :=
  RRow w.heap.size wr vo ((l.take k).filter so) ∧ RRow w.heap.size wr vl ((l.take k).filter fun x => !so x) ∧ Apart vo vl ∧ Below w.heap.size w wr
theorem take_le {l : List (Array Value)} (so : Array Value → Bool) (k : Nat) : ((l.take k).filter so).length ≤ k := by
  have h2 := List.length_filter_le so (l.take k)
  rw [List.length_take] at h2
  omega
/-- One of two lists, an asker more. -/
theorem two_step {w0 wr w5 : World} {x : Array Value} {va vb v' : Value} {la lb : List (Array Value)} (ha : RRow w0.heap.size wr va la) (hb : RRow w0.heap.size wr vb lb) (hap : Apart va vb) (hB : Below w0.heap.size w0 wr)
    (h : w5.ownsRow w0.heap.size 42 18 v' (la.length + 1) (la.flatMap Array.toList ++ x.toList)) (hgr : (wr.alloc (.cells x 42)).grownBy w5 va.ownBlock)
    (hat : v'.ownBlock = va.ownBlock ∨ v'.ownBlock = some (wr.heap.size + 1)) :
    RRow w0.heap.size w5 v' (la ++ [x]) ∧ RRow w0.heap.size w5 vb lb ∧ Apart v' vb ∧ Below w0.heap.size w0 w5 := by
  have hBA : Below wr.heap.size wr (wr.alloc (.cells x 42)) := (Below.refl wr.heap.size wr).alloc (Nat.le_refl _) _
  have haA := ha.below hBA
  have hbA := hb.below hBA
  have hO : Only (fun i => va.ownBlock = some i) (wr.alloc (.cells x 42)) w5 := (Only.refl _ _).grown hgr (fun i hi => Or.inl hi)
  refine ⟨row_snoc h, own_only hbA hO (fun k hk hf => hap k hf hk), fun k hk hk2 => ?_, ?_⟩
  · rcases hat with hat | hat
    · rw [hat] at hk; exact hap k hk hk2
    · rw [hat] at hk; injection hk with hk; have := (hbA.lt k hk2).2; simp at this; omega
  · exact (hB.trans (hBA.mono hB.size)).trans (hO.below (Nat.le_trans hB.size hBA.size) (fun i hi hf => by have := (haA.lt i hf).1; omega))
def RToldPost (l : List (Array Value)) (so : Array Value → Bool) (w : World) (e : Ending) (w' : World) : Prop :=
  ∃ vo, e = .returned vo ∧ RRow w.heap.size w' vo (l.filter so) ∧ Below w.heap.size w w'
def RTookPost (B g : Nat) (most : Int) (l : List (Array Value)) (so : Array Value → Bool) (w : World) (e : Ending) (w' : World) : Prop :=
  ∃ vo v', e = .returned vo ∧ RRow w.heap.size w' vo (l.filter so) ∧ RAt B w' g most v' (l.filter fun x => !so x) ∧ Only (fun i => i = g) w w'
theorem r_end {w0 wr : World} {B g : Nat} {most : Int} {v vo vl : Value} {lo ll : List (Array Value)} (h : Blk wr g 29 #[.int .i64 most, v]) (hg : g < w0.heap.size) (ho : RRow w0.heap.size wr vo lo) (hl : RRow w0.heap.size wr vl ll) (hB : Below w0.heap.size w0 wr) (hBB : B ≤ w0.heap.size)
    (hax : ∀ x ∈ ll, AskG x) : RRow w0.heap.size (wr.setCell ⟨g, 1, none⟩ vl) vo lo ∧ RAt B (wr.setCell ⟨g, 1, none⟩ vl) g most vl ll ∧ Only (fun i => i = g) w0 (wr.setCell ⟨g, 1, none⟩ vl) :=
  ⟨ownsRow_setCell_other ho (fun hk => by have := (ho.lt g hk).1; omega) _, ⟨h.set_ 1 vl, World.ownsRow.mono (ownsRow_setCell_other hl (fun hk => by have := (hl.lt g hk).1; omega) _) hBB, hax⟩,
    (Only.of_below hB (fun i => i = g)).setCell (p := ⟨g, 1, none⟩) (Or.inl rfl) _⟩

set_option maxRecDepth 200000 in
set_option maxHeartbeats 4000000 in
theorem rdone_loop (keep : Bool) (B g : Nat) (most job : Int) (v : Value) (l : List (Array Value)) (w : World) (h : RAt B w g most v l) (hnum : ∀ x ∈ l, Num x) (hl : l.length ≤ 1000) (hB0 : B ≤ w.heap.size) :
    Calls Try.prog 15 #[.pointer (some ⟨g, 0, none⟩), .int .i64 job, .bool keep] w
      (if keep then RToldPost l (fun x => decide (jobOf x = job)) w else RTookPost B g most l (fun x => decide (jobOf x = job)) w) := by
  obtain ⟨hb, ho, hax⟩ := h
  obtain ⟨A, c, rfl⟩ := own_slice ho
  unfold RRow at ho
  obtain ⟨i0, hi, hz0, hz1, hz2⟩ := info_parts Try.infoRef
  obtain ⟨so, hso0⟩ : ∃ so : Array Value → Bool, so = fun x => decide (jobOf x = job) := ⟨_, rfl⟩
  have HSO := Lib.hid hso0
  rw [← hso0]
  clear hso0
  go_enter Try.func15, Try.ntmps15
  go_wp2
  go_loopw [7, 8, 9] (fun vo vl i wr => ∃ k : Nat, k ≤ l.length ∧ i = .int .i64 (k : Int) ∧ RRel l so w k vo vl wr) (fun _ _ i _ => l.length - (intOf i).toNat)
  case atStart => exact ⟨0, by omega, rfl, World.ownsRow_nil _ _ _ _, World.ownsRow_nil _ _ _ _, (fun k hk => by cases hk), Below.refl _ _⟩
  case round =>
    obtain ⟨k, hk, rfl, hro, hrl, hap, hB⟩ := hrel
    have hbr := hb.below hB hb.lt
    have hcell : wr.cell? ⟨g, 1, none⟩ = some (.slice A l.length c) := hbr.cell 1
    have hfz := hbr.frozen 1
    have HAP := Lib.hid hap
    clear hap
    by_cases hlt : k < l.length
    · obtain ⟨rb, cap, hA, _, hrb⟩ := ho.form (by omega)
      injection hA with hA _ hcc
      subst hA hcc
      have hrange := row_rangeT (w' := wr) ho hax hlt (fun p hp => hB.cell (by rw [hp]; exact hrb))
      have hx := hax _ (List.getElem_mem hlt)
      have hnx := hnum _ (List.getElem_mem hlt)
      have HSN := Lib.hid (filter_snoc l so k hlt)
      have HSN2 := Lib.hid (filter_snoc l (fun x => !so x) k hlt)
      have ha := take_le (l := l) so k
      have hb2 := take_le (l := l) (fun x => !so x) k
      obtain ⟨x, hx'⟩ : ∃ x, l[k] = x := ⟨_, rfl⟩
      rw [hx'] at hrange hx hnx HSN HSN2
      clear hx'
      have hjc : wr.cell? ⟨rb, k * 18 + 2, none⟩ = some (.int .i64 (jobOf x)) := hrange 2 _ (by rw [Array.getElem?_toList]; exact hnx.1.1)
      have HJ : Hid (so x = decide (jobOf x = job)) := by show _ = _; rw [HSO.out]
      obtain ⟨j, hj⟩ : ∃ j, jobOf x = j := ⟨_, rfl⟩
      rw [hj] at hjc HJ
      clear hnx hj
      have bi0 : (0 : Int) ≤ (k : Int) := by omega
      have bi1 : (k : Int) < (l.length : Int) := by omega
      obtain ⟨lo, hlo⟩ : ∃ lo, (l.take k).filter so = lo := ⟨_, rfl⟩
      obtain ⟨ll, hll⟩ : ∃ ll, (l.take k).filter (fun x => !so x) = ll := ⟨_, rfl⟩
      rw [hlo] at hro HSN ha
      rw [hll] at hrl HSN2 hb2
      clear hlo hll
      obtain ⟨A5, c5, rfl⟩ := own_slice hro
      obtain ⟨A6, c6, rfl⟩ := own_slice hrl
      have hBA : Below wr.heap.size wr (wr.alloc (.cells x 42)) := (Below.refl wr.heap.size wr).alloc (Nat.le_refl _) _
      have hfold := fold_ask hx
      have hsz := hx.size
      rw [hsz] at hfold
      have hr := reads_blk (Blk.new wr 42 x) hx
      by_cases hjj : j = job
      · have hsx : so x = true := by rw [HJ.out]; exact decide_eq_true hjj
        rw [hsx] at HSN HSN2
        have hownA := own_stays2 hro hBA
        go_wp2_with (first
          | refine wpList_load_mid rfl 42 _ rfl rb (k * 18) rfl x.toList _ hrange Try.underlying42 rfl hx.infoRL ?_
          | (at_builtin; refine wpList_append_any _ rfl _ _ 27 rfl w.heap.size 42 i0 (.agg zeroA) 18 184 Try.underlying27 hi hz0 hz1 hz2 rfl (by decide) _ _ _ rfl hownA _ _ _ _ _ rfl hr (one_all hx) ?c6 ?c7 ?c8 ?_))
        case c6 => unfold maxLen; omega
        case c7 => omega
        case c8 => have := hB.size; simp; omega
        intro v' w5 hown5 hgr5 hat5
        obtain ⟨t1, t2, t3, t4⟩ := two_step hro hrl HAP.out hB hown5 hgr5 hat5
        obtain ⟨A7, c7, rfl⟩ := own_slice hown5
        clear hownA hgr5 hat5 hr hfold hsz hro hrl hown5 hcell hfz hbr hrange hjc
        go_wp2
        go_roundw
        case rel => exact ⟨k + 1, by omega, by go_num, by rw [HSN.out]; exact t1, by rw [HSN2.out]; simpa using t2, t3, t4⟩
        case measure => simp [intOf]; omega
      · have hsx : so x = false := by rw [HJ.out]; exact decide_eq_false hjj
        rw [hsx] at HSN HSN2
        have hownA := own_stays2 hrl hBA
        go_wp2_with (first
          | refine wpList_load_mid rfl 42 _ rfl rb (k * 18) rfl x.toList _ hrange Try.underlying42 rfl hx.infoRL ?_
          | (at_builtin; refine wpList_append_any _ rfl _ _ 27 rfl w.heap.size 42 i0 (.agg zeroA) 18 184 Try.underlying27 hi hz0 hz1 hz2 rfl (by decide) _ _ _ rfl hownA _ _ _ _ _ rfl hr (one_all hx) ?c6 ?c7 ?c8 ?_))
        case c6 => unfold maxLen; omega
        case c7 => omega
        case c8 => have := hB.size; simp; omega
        intro v' w5 hown5 hgr5 hat5
        obtain ⟨t1, t2, t3, t4⟩ := two_step hrl hro (fun k h1 h2 => HAP.out k h2 h1) hB hown5 hgr5 hat5
        obtain ⟨A7, c7, rfl⟩ := own_slice hown5
        clear hownA hgr5 hat5 hr hfold hsz hro hrl hown5 hcell hfz hbr hrange hjc
        go_wp2
        go_roundw
        case rel => exact ⟨k + 1, by omega, by go_num, by rw [HSN.out]; simpa using t2, by rw [HSN2.out]; exact t1, fun k h1 h2 => t3 k h2 h1, t4⟩
        case measure => simp [intOf]; omega
    · obtain rfl : k = l.length := by omega
      rw [List.take_length] at hro hrl
      obtain ⟨A5, c5, rfl⟩ := own_slice hro
      obtain ⟨A6, c6, rfl⟩ := own_slice hrl
      cases keep
      · have hend := r_end (B := B) hbr hb.lt hro hrl hB hB0 (fun x hx => hax x (List.mem_filter.1 hx).1)
        have HEND := Lib.hid hend
        clear hend hro hrl
        go_wp2
        go_ret
        exact ⟨_, _, rfl, HEND.out⟩
      · have HRO := Lib.hid hro
        clear hro hrl
        go_wp2
        go_ret
        exact ⟨_, rfl, HRO.out, hB⟩
set_option maxRecDepth 200000 in
set_option maxHeartbeats 4000000 in
theorem rlate_loop (B g : Nat) (most now dl : Int) (v : Value) (l : List (Array Value)) (w : World) (h : RAt B w g most v l) (hnum : ∀ x ∈ l, Num x) (hl : l.length ≤ 1000) (hB0 : B ≤ w.heap.size) (hnow : (Lit.int .i64 now).wf = true) (hdl : (Lit.int .i64 dl).wf = true) :
    Calls Try.prog 18 #[.pointer (some ⟨g, 0, none⟩), .int .i64 now, .int .i64 dl] w (RTookPost B g most l (fun x => decide (cameOf x + dl ≤ now)) w) := by
  obtain ⟨hb, ho, hax⟩ := h
  obtain ⟨A, c, rfl⟩ := own_slice ho
  unfold RRow at ho
  obtain ⟨i0, hi, hz0, hz1, hz2⟩ := info_parts Try.infoRef
  obtain ⟨so, hso0⟩ : ∃ so : Array Value → Bool, so = fun x => decide (cameOf x + dl ≤ now) := ⟨_, rfl⟩
  have HSO := Lib.hid hso0
  have HNOW := Lib.hid hnow
  have HDL := Lib.hid hdl
  clear hnow hdl
  rw [← hso0]
  clear hso0
  go_enter Try.func18, Try.ntmps18
  go_wp2
  go_loopw [7, 8, 9] (fun vo vl i wr => ∃ k : Nat, k ≤ l.length ∧ i = .int .i64 (k : Int) ∧ RRel l so w k vo vl wr) (fun _ _ i _ => l.length - (intOf i).toNat)
  case atStart => exact ⟨0, by omega, rfl, World.ownsRow_nil _ _ _ _, World.ownsRow_nil _ _ _ _, (fun k hk => by cases hk), Below.refl _ _⟩
  case round =>
    obtain ⟨k, hk, rfl, hro, hrl, hap, hB⟩ := hrel
    have hbr := hb.below hB hb.lt
    have hcell : wr.cell? ⟨g, 1, none⟩ = some (.slice A l.length c) := hbr.cell 1
    have hfz := hbr.frozen 1
    have HAP := Lib.hid hap
    clear hap
    by_cases hlt : k < l.length
    · obtain ⟨rb, cap, hA, _, hrb⟩ := ho.form (by omega)
      injection hA with hA _ hcc
      subst hA hcc
      have hrange := row_rangeT (w' := wr) ho hax hlt (fun p hp => hB.cell (by rw [hp]; exact hrb))
      have hx := hax _ (List.getElem_mem hlt)
      have hnx := hnum _ (List.getElem_mem hlt)
      have HSN := Lib.hid (filter_snoc l so k hlt)
      have HSN2 := Lib.hid (filter_snoc l (fun x => !so x) k hlt)
      have ha := take_le (l := l) so k
      have hb2 := take_le (l := l) (fun x => !so x) k
      obtain ⟨x, hx'⟩ : ∃ x, l[k] = x := ⟨_, rfl⟩
      rw [hx'] at hrange hx hnx HSN HSN2
      clear hx'
      have hjc : wr.cell? ⟨rb, k * 18 + 3, none⟩ = some (.int .i64 (cameOf x)) := hrange 3 _ (by rw [Array.getElem?_toList]; exact hnx.2.1)
      have HJ : Hid (so x = decide (cameOf x + dl ≤ now)) := by show _ = _; rw [HSO.out]
      have hjw := hnx.2.2
      obtain ⟨j, hj⟩ : ∃ j, cameOf x = j := ⟨_, rfl⟩
      rw [hj] at hjc HJ hjw
      clear hnx hj
      have HJW := Lib.hid hjw
      clear hjw
      have bi0 : (0 : Int) ≤ (k : Int) := by omega
      have bi1 : (k : Int) < (l.length : Int) := by omega
      obtain ⟨lo, hlo⟩ : ∃ lo, (l.take k).filter so = lo := ⟨_, rfl⟩
      obtain ⟨ll, hll⟩ : ∃ ll, (l.take k).filter (fun x => !so x) = ll := ⟨_, rfl⟩
      rw [hlo] at hro HSN ha
      rw [hll] at hrl HSN2 hb2
      clear hlo hll
      obtain ⟨A5, c5, rfl⟩ := own_slice hro
      obtain ⟨A6, c6, rfl⟩ := own_slice hrl
      have hBA : Below wr.heap.size wr (wr.alloc (.cells x 42)) := (Below.refl wr.heap.size wr).alloc (Nat.le_refl _) _
      have hfold := fold_ask hx
      have hsz := hx.size
      rw [hsz] at hfold
      have hr := reads_blk (Blk.new wr 42 x) hx
      by_cases hjj : j + dl ≤ now
      · have hsx : so x = true := by rw [HJ.out]; exact decide_eq_true hjj
        rw [hsx] at HSN HSN2
        have hownA := own_stays2 hro hBA
        go_wp2_with fail
        refine (rlate_any j dl now _ HJW.out HDL.out HNOW.out).mono ?_
        rintro e w9 ⟨rfl, rfl⟩
        rw [show decide (j + dl ≤ now) = true from decide_eq_true hjj]
        go_wp2_with (first
          | refine wpList_load_mid rfl 42 _ rfl rb (k * 18) rfl x.toList _ hrange Try.underlying42 rfl hx.infoRL ?_
          | (at_builtin; refine wpList_append_any _ rfl _ _ 27 rfl w.heap.size 42 i0 (.agg zeroA) 18 184 Try.underlying27 hi hz0 hz1 hz2 rfl (by decide) _ _ _ rfl hownA _ _ _ _ _ rfl hr (one_all hx) ?c6 ?c7 ?c8 ?_))
        case c6 => unfold maxLen; omega
        case c7 => omega
        case c8 => have := hB.size; simp; omega
        intro v' w5 hown5 hgr5 hat5
        obtain ⟨t1, t2, t3, t4⟩ := two_step hro hrl HAP.out hB hown5 hgr5 hat5
        obtain ⟨A7, c7, rfl⟩ := own_slice hown5
        clear hownA hgr5 hat5 hr hfold hsz hro hrl hown5 hcell hfz hbr hrange hjc
        go_wp2
        go_roundw
        case rel => exact ⟨k + 1, by omega, by go_num, by rw [HSN.out]; exact t1, by rw [HSN2.out]; simpa using t2, t3, t4⟩
        case measure => simp [intOf]; omega
      · have hsx : so x = false := by rw [HJ.out]; exact decide_eq_false hjj
        rw [hsx] at HSN HSN2
        have hownA := own_stays2 hrl hBA
        go_wp2_with fail
        refine (rlate_any j dl now _ HJW.out HDL.out HNOW.out).mono ?_
        rintro e w9 ⟨rfl, rfl⟩
        rw [show decide (j + dl ≤ now) = false from decide_eq_false (by omega)]
        go_wp2_with (first
          | refine wpList_load_mid rfl 42 _ rfl rb (k * 18) rfl x.toList _ hrange Try.underlying42 rfl hx.infoRL ?_
          | (at_builtin; refine wpList_append_any _ rfl _ _ 27 rfl w.heap.size 42 i0 (.agg zeroA) 18 184 Try.underlying27 hi hz0 hz1 hz2 rfl (by decide) _ _ _ rfl hownA _ _ _ _ _ rfl hr (one_all hx) ?c6 ?c7 ?c8 ?_))
        case c6 => unfold maxLen; omega
        case c7 => omega
        case c8 => have := hB.size; simp; omega
        intro v' w5 hown5 hgr5 hat5
        obtain ⟨t1, t2, t3, t4⟩ := two_step hrl hro (fun k h1 h2 => HAP.out k h2 h1) hB hown5 hgr5 hat5
        obtain ⟨A7, c7, rfl⟩ := own_slice hown5
        clear hownA hgr5 hat5 hr hfold hsz hro hrl hown5 hcell hfz hbr hrange hjc
        go_wp2
        go_roundw
        case rel => exact ⟨k + 1, by omega, by go_num, by rw [HSN.out]; simpa using t2, by rw [HSN2.out]; exact t1, fun k h1 h2 => t3 k h2 h1, t4⟩
        case measure => simp [intOf]; omega
    · obtain rfl : k = l.length := by omega
      rw [List.take_length] at hro hrl
      obtain ⟨A5, c5, rfl⟩ := own_slice hro
      obtain ⟨A6, c6, rfl⟩ := own_slice hrl
      have hend := r_end (B := B) hbr hb.lt hro hrl hB hB0 (fun x hx => hax x (List.mem_filter.1 hx).1)
      have HEND := Lib.hid hend
      clear hend hro hrl
      go_wp2
      go_ret
      exact ⟨_, _, rfl, HEND.out⟩
end Go.Proofs.Ytigjipjkollohaa.G
