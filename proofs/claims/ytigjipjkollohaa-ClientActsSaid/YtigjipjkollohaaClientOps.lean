/-
  The contracts of the Table's methods.
-/
import Derived.Test.YtigjipjkollohaaClientDelete
namespace Go.Proofs.Ytigjipjkollohaa
open Go.RowKit

theorem ret_bool {a b : Bool} (h : a = b) : Ending.returned (.bool a) = .returned (.bool b) := by rw [h]
def fpT (g : Nat) (v : Value) (i : Nat) : Prop := i = g ∨ v.ownBlock = some i
def TStep (g : Nat) (v v' : Value) (w w' : World) : Prop := Only (fpT g v) w w' ∧ (v'.ownBlock = v.ownBlock ∨ ∃ k, v'.ownBlock = some k ∧ w.heap.size ≤ k)
section
variable {w w' w2 : World} {B g : Nat} {most : Int} {v v' v2 : Value} {l : List (Array Value)}
theorem TStep.refl (g : Nat) (v : Value) (w : World) : TStep g v v w w := ⟨Only.refl _ _, Or.inl rfl⟩
theorem TStep.trans (h : TStep g v v' w w') (k : TStep g v' v2 w' w2) : TStep g v v2 w w2 := by
  obtain ⟨h1, h2⟩ := h
  obtain ⟨k1, k2⟩ := k
  refine ⟨h1.trans k1 (fun i hi hf => ?_), ?_⟩
  · rcases hf with hf | hf
    · exact Or.inl hf
    · rcases h2 with h2 | ⟨j, h2, h3⟩
      · rw [h2] at hf; exact Or.inr hf
      · rw [h2] at hf; injection hf with hf; omega
  · rcases k2 with k2 | ⟨j, k2, k3⟩
    · rw [k2]; exact h2
    · exact Or.inr ⟨j, k2, Nat.le_trans h1.size k3⟩
theorem tstep_below (h : Below w.heap.size w w') : TStep g v v w w' := ⟨Only.of_below h _, Or.inl rfl⟩
theorem TAt.below (h : TAt B w g most v l) (hb : Below w.heap.size w w') : TAt B w' g most v l := ⟨h.1.below hb h.1.lt, own_only h.2.1 (Only.of_below hb (fun _ => False)) (fun _ _ hf => hf), h.2.2⟩
/-- A step of the table leaves what is below it. -/
theorem tstep_mem {B0 : Nat} {w0 : World} (hb : Below B0 w0 w) (hB : B0 ≤ w.heap.size) (hg : B0 ≤ g) (hv : ∀ i, v.ownBlock = some i → B0 ≤ i) (h : TStep g v v' w w') : Below B0 w0 w' :=
  hb.trans (h.1.below hB (fun i hi hf => by
    rcases hf with hf | hf
    · omega
    · have := hv i hf; omega))
end
theorem run_enter {P : Program} {f : FuncId} {fn : Func} {c : Code} (hf : P.funcs[f]? = some fn) (hname : (fn.name == "runtime.NumGoroutine") = false) (hb : fn.body = some c) (args : Array Value) (w : World) :
    (callFunc f args).run P w = .ok (.enter f args) w := by
  have h1 : fn.name ≠ "runtime.NumGoroutine" := by simpa using hname
  simp [callFunc, hf, h1, hb]
theorem Try.callOf (args : Array Value) (w : World) : (callFunc 26 args).run Try.prog w = .ok (.enter 26 args) w := run_enter Try.func26 (by kernel_rfl) rfl args w
theorem Try.callDone (args : Array Value) (w : World) : (callFunc 28 args).run Try.prog w = .ok (.enter 28 args) w := run_enter Try.func28 (by kernel_rfl) rfl args w
theorem Try.callLate (args : Array Value) (w : World) : (callFunc 29 args).run Try.prog w = .ok (.enter 29 args) w := run_enter Try.func29 (by kernel_rfl) rfl args w

def TakenPost (B g : Nat) (most : Int) (v : Value) (l : List (Array Value)) (so : Array Value → Bool) (w : World) (e : Ending) (w' : World) : Prop :=
  ∃ vo v', e = .returned vo ∧ w'.ownsRow w.heap.size 35 18 vo (l.filter so).length ((l.filter so).flatMap Array.toList) ∧ TAt B w' g most v' (l.filter fun x => !so x) ∧ TStep g v v' w w' ∧ v'.ownBlock = v.ownBlock
set_option maxRecDepth 200000 in
set_option maxHeartbeats 4000000 in
theorem taken_any {f : FuncId} {caps : Array Value} {so : Array Value → Bool} {ok : Array Value → Prop} {cs : List (Nat × Int)} (hsays : Says f caps so ok cs)
    (hcall : ∀ (args : Array Value) (W : World), (callFunc f args).run Try.prog W = .ok (.enter f args) W) (B g : Nat) (most : Int) (v : Value) (l : List (Array Value)) (w : World)
    (h : TAt B w g most v l) (hok : ∀ x ∈ l, ok x) (hc : Caps w cs) (hl : l.length ≤ 1000) :
    Calls Try.prog 27 #[.pointer (some ⟨g, 0, none⟩), .func (.func f) #[] caps] w (TakenPost B g most v l so w) := by
  go_enter Try.func27, Try.ntmps27
  go_wp2_with fail
  refine (those_any hsays B g most v l _ hcall h hok hc hl).mono ?_
  rintro e w1 ⟨vo, rfl, hvo, hB1⟩
  have h1 := h.below hB1
  have hc1 : w1.cell? ⟨g, 1, none⟩ = some v := h1.1.cell 1
  go_wp2_with fail
  refine (delete_any hsays hcall B v l _ h1.2.1 h1.2.2 hok (caps_below hc hB1) hl).mono ?_
  rintro e w2 ⟨v', rfl, hown, hO, hvb⟩
  have hgv : v.ownBlock ≠ some g := own_blk_ne h1.2.1 h1.1 (by decide)
  have hb2 := h1.1.only hO hgv
  have hc2 : w2.cell? ⟨g, 1, none⟩ = some v := hb2.cell 1
  have hf2 : w2.frozen? ⟨g, 1, none⟩ = false := hb2.frozen 1
  have hcv : v'.oneCell' = true := by obtain ⟨A, c, rfl⟩ := own_slice hown; rfl
  have hvo2 := own_only hvo hO (fun k hk hf => by have := (hvo.lt k hk).1; have := (h.2.1.lt k hf).2; omega)
  have hT : TAt B (w2.setCell ⟨g, 1, none⟩ v') g most v' (l.filter fun x => !so x) :=
    ⟨hb2.set_ 1 v', ownsRow_setCell_other hown (by rw [hvb]; exact hgv) _, fun x hx => h.2.2 x (List.mem_filter.1 hx).1⟩
  have hS : TStep g v v' w (w2.setCell ⟨g, 1, none⟩ v') :=
    ⟨((Only.of_below hB1 (fpT g v)).trans (hO.more (fun i _ hi => Or.inr hi) : Only (fpT g v) w1 w2) (fun i _ hi => hi)).setCell (Or.inl (Or.inl rfl)) _, Or.inl hvb⟩
  have hvo3 := ownsRow_setCell_other (a := ⟨g, 1, none⟩) hvo2 (fun hk => by have := (hvo.lt g hk).1; have := h.1.lt; omega) v'
  clear hvo hvo2 hown hO h1 hB1
  obtain ⟨A1, c1, rfl⟩ := own_slice hvo3
  obtain ⟨A2, c2, rfl⟩ := own_slice hT.2.1
  go_wp2
  go_ret
  exact ⟨_, _, rfl, hvo3, hT, hS, hvb⟩
theorem caps_one (w : World) (n : Int) : Caps (w.alloc (.cells #[.int .i64 n] 3)) [(w.heap.size, n)] := by
  intro p hp
  rw [List.mem_singleton] at hp
  subst hp
  exact Blk.new _ _ _
def OfPost (l : List (Array Value)) (job : Int) (w : World) (e : Ending) (w' : World) : Prop :=
  ∃ vo, e = .returned vo ∧ w'.ownsRow w.heap.size 35 18 vo (l.filter fun x => decide (jobOf x = job)).length ((l.filter fun x => decide (jobOf x = job)).flatMap Array.toList) ∧ Below w.heap.size w w'
set_option maxRecDepth 200000 in
set_option maxHeartbeats 4000000 in
theorem of_any (B g : Nat) (most job : Int) (v : Value) (l : List (Array Value)) (w : World) (h : TAt B w g most v l) (hok : ∀ x ∈ l, Num x) (hl : l.length ≤ 1000) :
    Calls Try.prog 14 #[.pointer (some ⟨g, 0, none⟩), .int .i64 job] w (OfPost l job w) := by
  have hBA := (Below.refl w.heap.size w).alloc (Nat.le_refl _) (.cells #[.int .i64 job] 3)
  go_enter Try.func14, Try.ntmps14
  go_wp2_with fail
  refine (those_any (says_of w.heap.size job) B g most v l _ Try.callOf (h.below hBA) hok (caps_one w job) hl).mono ?_
  rintro e w1 ⟨vo, rfl, hvo, hB1⟩
  obtain ⟨A1, c1, rfl⟩ := own_slice hvo
  go_wp2
  go_ret
  exact ⟨_, rfl, World.ownsRow.mono hvo (by simp), hBA.trans (hB1.mono (by simp))⟩
set_option maxRecDepth 200000 in
set_option maxHeartbeats 4000000 in
theorem done_any (B g : Nat) (most job : Int) (v : Value) (l : List (Array Value)) (w : World) (h : TAt B w g most v l) (hok : ∀ x ∈ l, Num x) (hl : l.length ≤ 1000) :
    Calls Try.prog 16 #[.pointer (some ⟨g, 0, none⟩), .int .i64 job] w (TakenPost B g most v l (fun x => decide (jobOf x = job)) w) := by
  have hBA := (Below.refl w.heap.size w).alloc (Nat.le_refl _) (.cells #[.int .i64 job] 3)
  go_enter Try.func16, Try.ntmps16
  go_wp2_with fail
  refine (taken_any (says_done w.heap.size job) Try.callDone B g most v l _ (h.below hBA) hok (caps_one w job) hl).mono ?_
  rintro e w1 ⟨vo, v', rfl, hvo, hT, hS, hvb⟩
  obtain ⟨A1, c1, rfl⟩ := own_slice hvo
  go_wp2
  go_ret
  exact ⟨_, v', rfl, World.ownsRow.mono hvo (by simp), hT, (tstep_below hBA).trans hS, hvb⟩
set_option maxRecDepth 200000 in
set_option maxHeartbeats 4000000 in
theorem tlate_any (B g : Nat) (most now dl : Int) (v : Value) (l : List (Array Value)) (w : World) (h : TAt B w g most v l) (hok : ∀ x ∈ l, Num x) (hl : l.length ≤ 1000) (hnow : (Lit.int .i64 now).wf = true) (hdl : (Lit.int .i64 dl).wf = true) :
    Calls Try.prog 17 #[.pointer (some ⟨g, 0, none⟩), .int .i64 now, .int .i64 dl] w (TakenPost B g most v l (fun x => decide (cameOf x + dl ≤ now)) w) := by
  have hBA := ((Below.refl w.heap.size w).alloc (Nat.le_refl _) (.cells #[.int .i64 now] 3)).alloc (by simp) (.cells #[.int .i64 dl] 3)
  have hcaps : Caps ((w.alloc (.cells #[.int .i64 now] 3)).alloc (.cells #[.int .i64 dl] 3)) [(w.heap.size, now), (w.heap.size + 1, dl)] := by
    intro p hp
    rcases List.mem_cons.1 hp with rfl | hp
    · exact (Blk.new w 3 #[.int .i64 now]).alloc _
    · rw [List.mem_singleton] at hp
      subst hp
      have := Blk.new (w.alloc (.cells #[.int .i64 now] 3)) 3 #[.int .i64 dl]
      simpa using this
  go_enter Try.func17, Try.ntmps17
  go_wp2_with fail
  refine (taken_any (says_late w.heap.size (w.heap.size + 1) now dl hnow hdl) Try.callLate B g most v l _ (h.below hBA) hok hcaps hl).mono ?_
  rintro e w1 ⟨vo, v', rfl, hvo, hT, hS, hvb⟩
  obtain ⟨A1, c1, rfl⟩ := own_slice hvo
  go_wp2
  go_ret
  exact ⟨_, v', rfl, World.ownsRow.mono hvo (by simp; omega), hT, (tstep_below hBA).trans hS, hvb⟩
set_option maxRecDepth 20000 in
set_option maxHeartbeats 400000 in
theorem tlen_any (B g : Nat) (most : Int) (v : Value) (l : List (Array Value)) (w : World) (h : TAt B w g most v l) :
    Calls Try.prog 20 #[.pointer (some ⟨g, 0, none⟩)] w fun e w' => e = .returned (.int .i64 (l.length : Int)) ∧ w = w' := by
  obtain ⟨A, c, rfl⟩ := own_slice h.2.1
  have hc1 : w.cell? ⟨g, 1, none⟩ = some (.slice A l.length c) := h.1.cell 1
  clear h
  go_enter Try.func20, Try.ntmps20
  go_wp2
  go_ret
  exact ⟨rfl, rfl⟩
set_option maxRecDepth 20000 in
set_option maxHeartbeats 1000000 in
theorem has_any (B g : Nat) (most job : Int) (v : Value) (l : List (Array Value)) (w : World) (h : TAt B w g most v l) (hok : ∀ x ∈ l, Num x) (hl : l.length ≤ 1000) :
    Calls Try.prog 19 #[.pointer (some ⟨g, 0, none⟩), .int .i64 job] w fun e w' => e = .returned (.bool (decide (0 < (l.filter fun x => decide (jobOf x = job)).length))) ∧ Below w.heap.size w w' := by
  go_enter Try.func19, Try.ntmps19
  go_wp2_with fail
  refine (of_any B g most job v l _ h hok hl).mono ?_
  rintro e w1 ⟨vo, rfl, hvo, hB1⟩
  obtain ⟨A1, c1, rfl⟩ := own_slice hvo
  clear hvo
  obtain ⟨n, hn⟩ : ∃ n, (l.filter fun x => decide (jobOf x = job)).length = n := ⟨_, rfl⟩
  have HN := Lib.hid hn
  rw [hn]
  clear hn
  go_wp2
  go_ret
  exact ⟨ret_bool (by rw [HN.out]), hB1⟩
end Go.Proofs.Ytigjipjkollohaa
