/-
  The contracts of the Table's methods, whatever its askers' messages hold.
-/
import Derived.Test.YtigjipjkollohaaGDelete
namespace Go.Proofs.Ytigjipjkollohaa.G
open Go.RowKit

theorem RowAt.only {B : Nat} {w w' : World} {v : Value} {l : List Pr} {S : Nat → Prop} (h : RowAt B w v l) (ho : Only S w w') (hn : ∀ k, v.ownBlock = some k → ¬ S k) (hS : ∀ k, k < w.heap.size → S k → Alien w k) : RowAt B w' v l :=
  ⟨own_only h.1 ho hn, fun p hp => (h.2 p hp).only ho hS⟩
theorem RowAt.below {B : Nat} {w w' : World} {v : Value} {l : List Pr} (h : RowAt B w v l) (hb : Below w.heap.size w w') : RowAt B w' v l := ⟨own_stays2 h.1 hb, fun p hp => (h.2 p hp).below hb⟩
theorem RowAt.mono {B B' : Nat} {w : World} {v : Value} {l : List Pr} (h : RowAt B w v l) (hB : B' ≤ B) : RowAt B' w v l := ⟨World.ownsRow.mono h.1 hB, fun p hp => (h.2 p hp).mono hB⟩
theorem TAt.below {B g : Nat} {most : Int} {v : Value} {l : List Pr} {w w' : World} (h : TAt B w g most v l) (hb : Below w.heap.size w w') : TAt B w' g most v l := ⟨h.1.below hb h.1.lt, h.2.below hb⟩
/-- What the table's steps turn holds neither questions nor records. -/
theorem TAt.alien {B g : Nat} {most : Int} {v : Value} {l : List Pr} {w : World} (h : TAt B w g most v l) (k : Nat) (hk : fpT g v k) : Alien w k := by
  rcases hk with rfl | hk
  · exact alien_blk h.1 (by decide) (by decide)
  · exact alien_row h.2.1 (by decide) (by decide) hk
theorem filter_says {l : List Pr} {B : Nat} {w : World} (h : ∀ p ∈ l, Good B w p) {so : Array Value → Bool} {q : AskD → Bool} (hq : ∀ x M, Scal x M → so x = q M) : says (l.filter fun p => so p.1) = (says l).filter q := by
  unfold says
  rw [List.filter_map]
  congr 1
  exact List.filter_congr (fun p hp => hq _ _ (h p hp).sc)

def TakenPost (B g : Nat) (most : Int) (v : Value) (l : List Pr) (so : Array Value → Bool) (w : World) (e : Ending) (w' : World) : Prop :=
  ∃ vo v' l', e = .returned vo ∧ RowAt w.heap.size w' vo l' ∧ says l' = says (l.filter fun p => so p.1) ∧ TAt B w' g most v' (l.filter fun p => !so p.1) ∧ TStep g v v' w w' ∧ v'.ownBlock = v.ownBlock
set_option maxRecDepth 200000 in
set_option maxHeartbeats 4000000 in
theorem taken_any {f : FuncId} {caps : Array Value} {so : Array Value → Bool} {ok : Array Value → Prop} {cs : List (Nat × Int)} (hsays : Says f caps so ok cs)
    (hcall : ∀ (args : Array Value) (W : World), (callFunc f args).run Try.prog W = .ok (.enter f args) W) (B g : Nat) (most : Int) (v : Value) (l : List Pr) (w : World)
    (h : TAt B w g most v l) (hok : ∀ x ∈ rows l, ok x) (hc : Caps w cs) (hl : l.length ≤ 1000) :
    Calls Try.prog 27 #[.pointer (some ⟨g, 0, none⟩), .func (.func f) #[] caps] w (TakenPost B g most v l so w) := by
  go_enter Try.func27, Try.ntmps27
  go_wp2_with fail
  refine (those_any hsays B g most v l _ hcall h hok hc hl).mono ?_
  rintro e w1 ⟨vo, l', rfl, hvo, hsy, hB1⟩
  have h1 := h.below hB1
  have hc1 : w1.cell? ⟨g, 1, none⟩ = some v := h1.1.cell 1
  have hrow : w1.ownsRow B 35 18 v (rows l).length ((rows l).flatMap Array.toList) := by rw [rows_length]; exact h1.2.1
  go_wp2_with fail
  refine (delete_any hsays hcall B v (rows l) _ hrow (rows_g h1.2.2) hok (caps_below hc hB1) (by rw [rows_length]; exact hl)).mono ?_
  rintro e w2 ⟨v', rfl, hown, hO, hvb⟩
  rw [rows_filter, rows_length] at hown
  have hgv : v.ownBlock ≠ some g := own_blk_ne h1.2.1 h1.1 (by decide)
  have hb2 := h1.1.only hO hgv
  have hc2 : w2.cell? ⟨g, 1, none⟩ = some v := hb2.cell 1
  have hf2 : w2.frozen? ⟨g, 1, none⟩ = false := hb2.frozen 1
  have hcv : v'.oneCell' = true := by obtain ⟨A, c, rfl⟩ := own_slice hown; rfl
  have hal1 : ∀ k, k < w1.heap.size → v.ownBlock = some k → Alien w1 k := fun k _ hk => alien_row h1.2.1 (by decide) (by decide) hk
  have hvo2 := hvo.only hO (fun k hk hf => by have := (hvo.1.lt k hk).1; have := (h.2.1.lt k hf).2; omega) hal1
  have hO3 : Only (fun i => i = g) w2 (w2.setCell ⟨g, 1, none⟩ v') := (Only.refl (fun i => i = g) _).setCell (p := ⟨g, 1, none⟩) (Or.inl rfl) _
  have hal2 : ∀ k, k < w2.heap.size → k = g → Alien w2 k := fun k _ hk => by rw [hk]; exact alien_blk hb2 (by decide) (by decide)
  have hT : TAt B (w2.setCell ⟨g, 1, none⟩ v') g most v' (l.filter fun p => !so p.1) :=
    ⟨hb2.set_ 1 v', ownsRow_setCell_other hown (by rw [hvb]; exact hgv) _, fun p hp => ((h1.2.2 p (List.mem_filter.1 hp).1).only hO hal1).only hO3 hal2⟩
  have hS : TStep g v v' w (w2.setCell ⟨g, 1, none⟩ v') :=
    ⟨((Only.of_below hB1 (fpT g v)).trans (hO.more (fun i _ hi => Or.inr hi) : Only (fpT g v) w1 w2) (fun i _ hi => hi)).setCell (Or.inl (Or.inl rfl)) _, Or.inl hvb⟩
  have hvo3 := hvo2.only hO3 (fun k hk hkg => by have := (hvo.1.lt k hk).1; have := h.1.lt; omega) hal2
  clear hvo hvo2 hown hO h1 hB1 hO3 hal1 hal2 hrow
  obtain ⟨A1, c1, rfl⟩ := own_slice hvo3.1
  obtain ⟨A2, c2, rfl⟩ := own_slice hT.2.1
  have HVO := Lib.hid hvo3
  have HT := Lib.hid hT
  have HSY := Lib.hid hsy
  clear hvo3 hT hsy h
  go_wp2
  go_ret
  exact ⟨_, _, l', rfl, HVO.out, HSY.out, HT.out, hS, hvb⟩
/-- What was told, by its meaning. -/
def ToldPost (l : List Pr) (q : AskD → Bool) (w : World) (e : Ending) (w' : World) : Prop :=
  ∃ vo l', e = .returned vo ∧ RowAt w.heap.size w' vo l' ∧ says l' = (says l).filter q ∧ Below w.heap.size w w'
def TookPost (B g : Nat) (most : Int) (v : Value) (l : List Pr) (q : AskD → Bool) (w : World) (e : Ending) (w' : World) : Prop :=
  ∃ vo v' l' l2, e = .returned vo ∧ RowAt w.heap.size w' vo l' ∧ says l' = (says l).filter q ∧ TAt B w' g most v' l2 ∧ says l2 = (says l).filter (fun M => !q M) ∧ TStep g v v' w w' ∧ v'.ownBlock = v.ownBlock
set_option maxRecDepth 200000 in
set_option maxHeartbeats 4000000 in
theorem of_any (B g : Nat) (most job : Int) (v : Value) (l : List Pr) (w : World) (h : TAt B w g most v l) (hl : l.length ≤ 1000) :
    Calls Try.prog 14 #[.pointer (some ⟨g, 0, none⟩), .int .i64 job] w (ToldPost l (fun M => decide (M.job = job)) w) := by
  have hBA := (Below.refl w.heap.size w).alloc (Nat.le_refl _) (.cells #[.int .i64 job] 3)
  go_enter Try.func14, Try.ntmps14
  go_wp2_with fail
  refine (those_any (says_of w.heap.size job) B g most v l _ Try.callOf (h.below hBA) (rows_num h.2.2) (caps_one w job) hl).mono ?_
  rintro e w1 ⟨vo, l', rfl, hvo, hsy, hB1⟩
  have hsy2 := hsy.trans (filter_says (so := fun x => decide (jobOf x = job)) h.2.2 (q := fun M => decide (M.job = job)) (fun x M hs => by simp only [jobOf_of hs]))
  obtain ⟨A1, c1, rfl⟩ := own_slice hvo.1
  have HVO := Lib.hid hvo
  have HSY := Lib.hid hsy2
  clear hvo hsy hsy2 h
  go_wp2
  go_ret
  exact ⟨_, l', rfl, HVO.out.mono (by simp), HSY.out, hBA.trans (hB1.mono (by simp))⟩
set_option maxRecDepth 200000 in
set_option maxHeartbeats 4000000 in
theorem done_any (B g : Nat) (most job : Int) (v : Value) (l : List Pr) (w : World) (h : TAt B w g most v l) (hl : l.length ≤ 1000) :
    Calls Try.prog 16 #[.pointer (some ⟨g, 0, none⟩), .int .i64 job] w (TookPost B g most v l (fun M => decide (M.job = job)) w) := by
  have hBA := (Below.refl w.heap.size w).alloc (Nat.le_refl _) (.cells #[.int .i64 job] 3)
  go_enter Try.func16, Try.ntmps16
  go_wp2_with fail
  refine (taken_any (says_done w.heap.size job) Try.callDone B g most v l _ (h.below hBA) (rows_num h.2.2) (caps_one w job) hl).mono ?_
  rintro e w1 ⟨vo, v', l', rfl, hvo, hsy, hT, hS, hvb⟩
  have hsy2 := hsy.trans (filter_says (so := fun x => decide (jobOf x = job)) h.2.2 (q := fun M => decide (M.job = job)) (fun x M hs => by simp only [jobOf_of hs]))
  have hsy3 := filter_says (so := fun x => !decide (jobOf x = job)) h.2.2 (q := fun M => !decide (M.job = job)) (fun x M hs => by simp only [jobOf_of hs])
  obtain ⟨A1, c1, rfl⟩ := own_slice hvo.1
  have HVO := Lib.hid hvo
  have HT := Lib.hid hT
  have HSY := Lib.hid hsy2
  have HSY3 := Lib.hid hsy3
  clear hvo hT hsy hsy2 hsy3 h
  go_wp2
  go_ret
  exact ⟨_, v', l', _, rfl, HVO.out.mono (by simp), HSY.out, HT.out, HSY3.out, (tstep_below hBA).trans hS, hvb⟩
set_option maxRecDepth 200000 in
set_option maxHeartbeats 4000000 in
theorem tlate_any (B g : Nat) (most now dl : Int) (v : Value) (l : List Pr) (w : World) (h : TAt B w g most v l) (hl : l.length ≤ 1000) (hnow : (Lit.int .i64 now).wf = true) (hdl : (Lit.int .i64 dl).wf = true) :
    Calls Try.prog 17 #[.pointer (some ⟨g, 0, none⟩), .int .i64 now, .int .i64 dl] w (TookPost B g most v l (fun M => decide (M.came + dl ≤ now)) w) := by
  have hBA := ((Below.refl w.heap.size w).alloc (Nat.le_refl _) (.cells #[.int .i64 now] 3)).alloc (by simp) (.cells #[.int .i64 dl] 3)
  have hcaps : Caps ((w.alloc (.cells #[.int .i64 now] 3)).alloc (.cells #[.int .i64 dl] 3)) [(w.heap.size, now), (w.heap.size + 1, dl)] := by
    intro p hp
    rcases List.mem_cons.1 hp with rfl | hp
    · exact (Blk.new w 3 #[.int .i64 now]).alloc _
    · rw [List.mem_singleton] at hp
      subst hp
      have := Blk.new (w.alloc (.cells #[.int .i64 now] 3)) 3 #[.int .i64 dl]
      simpa using this
  go_enter Try.func17, Try.ntmps17
  go_wp2_with fail
  refine (taken_any (says_late w.heap.size (w.heap.size + 1) now dl hnow hdl) Try.callLate B g most v l _ (h.below hBA) (rows_num h.2.2) hcaps hl).mono ?_
  rintro e w1 ⟨vo, v', l', rfl, hvo, hsy, hT, hS, hvb⟩
  have hsy2 := hsy.trans (filter_says (so := fun x => decide (cameOf x + dl ≤ now)) h.2.2 (q := fun M => decide (M.came + dl ≤ now)) (fun x M hs => by simp only [cameOf_of hs]))
  have hsy3 := filter_says (so := fun x => !decide (cameOf x + dl ≤ now)) h.2.2 (q := fun M => !decide (M.came + dl ≤ now)) (fun x M hs => by simp only [cameOf_of hs])
  obtain ⟨A1, c1, rfl⟩ := own_slice hvo.1
  have HVO := Lib.hid hvo
  have HT := Lib.hid hT
  have HSY := Lib.hid hsy2
  have HSY3 := Lib.hid hsy3
  clear hvo hT hsy hsy2 hsy3 h
  go_wp2
  go_ret
  exact ⟨_, v', l', _, rfl, HVO.out.mono (by simp; omega), HSY.out, HT.out, HSY3.out, (tstep_below hBA).trans hS, hvb⟩
set_option maxRecDepth 20000 in
set_option maxHeartbeats 400000 in
theorem tlen_any (B g : Nat) (most : Int) (v : Value) (l : List Pr) (w : World) (h : TAt B w g most v l) :
    Calls Try.prog 20 #[.pointer (some ⟨g, 0, none⟩)] w fun e w' => e = .returned (.int .i64 (l.length : Int)) ∧ w = w' := by
  obtain ⟨A, c, rfl⟩ := own_slice h.2.1
  have hc1 : w.cell? ⟨g, 1, none⟩ = some (.slice A l.length c) := h.1.cell 1
  clear h
  go_enter Try.func20, Try.ntmps20
  go_wp2
  go_ret
  exact ⟨rfl, rfl⟩
set_option maxRecDepth 20000 in
set_option maxHeartbeats 1000000 in
theorem has_any (B g : Nat) (most job : Int) (v : Value) (l : List Pr) (w : World) (h : TAt B w g most v l) (hl : l.length ≤ 1000) :
    Calls Try.prog 19 #[.pointer (some ⟨g, 0, none⟩), .int .i64 job] w fun e w' => e = .returned (.bool (decide (0 < ((says l).filter fun M => decide (M.job = job)).length))) ∧ Below w.heap.size w w' := by
  go_enter Try.func19, Try.ntmps19
  go_wp2_with fail
  refine (of_any B g most job v l _ h hl).mono ?_
  rintro e w1 ⟨vo, l', rfl, hvo, hsy, hB1⟩
  obtain ⟨A1, c1, rfl⟩ := own_slice hvo.1
  have hln : l'.length = ((says l).filter fun M => decide (M.job = job)).length := by rw [← hsy, says_length]
  have HN := Lib.hid hln
  clear hvo hln hsy h
  go_wp2
  go_ret
  exact ⟨ret_bool (by rw [← HN.out]), hB1⟩
end Go.Proofs.Ytigjipjkollohaa.G
