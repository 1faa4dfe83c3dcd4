/-
  client's Table in memory; the contracts of New, late and of the functions that are handed in.
-/
import Derived.Test.YtigjipjkollohaaClientOwn
namespace Go.Proofs.Ytigjipjkollohaa
open Go.RowKit

/-- The table at block g: its row holds the askers. -/
def TAt (B : Nat) (w : World) (g : Nat) (most : Int) (v : Value) (l : List (Array Value)) : Prop :=
  Blk w g 59 #[.int .i64 most, v] ∧ w.ownsRow B 35 18 v l.length (l.flatMap Array.toList) ∧ ∀ x ∈ l, AskX x

def NewPost (most : Int) (w : World) (e : Ending) (w' : World) : Prop :=
  ∃ g, e = .returned (.pointer (some ⟨g, 0, none⟩)) ∧ TAt w.heap.size w' g (if most < 0 then 0 else most) (.slice none 0 0) [] ∧ Below w.heap.size w w' ∧ w.heap.size ≤ g
set_option maxRecDepth 20000 in
theorem new_any (most : Int) (w : World) : Calls Try.prog 8 #[.int .i64 most] w (NewPost most w) := by
  by_cases h : most < 0
  · go_enter Try.func8, Try.ntmps8
    go_wp2
    go_ret
    refine ⟨w.heap.size, rfl, ⟨?_, World.ownsRow_nil _ _ _ _, fun x hx => by cases hx⟩, (Below.refl _ _).alloc (Nat.le_refl _) _, Nat.le_refl _⟩
    rw [if_pos h]; exact Blk.new _ _ _
  · go_enter Try.func8, Try.ntmps8
    go_wp2
    go_ret
    refine ⟨w.heap.size, rfl, ⟨?_, World.ownsRow_nil _ _ _ _, fun x hx => by cases hx⟩, (Below.refl _ _).alloc (Nat.le_refl _) _, Nat.le_refl _⟩
    rw [if_neg (by omega)]; exact Blk.new _ _ _

set_option maxRecDepth 20000 in
set_option maxHeartbeats 1000000 in
theorem late_any (a b c : Int) (w : World) (ha : (Lit.int .i64 a).wf = true) (hb : (Lit.int .i64 b).wf = true) (hc : (Lit.int .i64 c).wf = true) :
    Calls Try.prog 30 #[.int .i64 a, .int .i64 b, .int .i64 c] w fun e w' => e = .returned (.bool (decide (a + b ≤ c))) ∧ w = w' := by
  have hmin : IntKind.i64.min = -9223372036854775808 := rfl
  have hmax : IntKind.i64.max = 9223372036854775807 := rfl
  simp only [Lit.wf, Bool.and_eq_true, decide_eq_true_eq, hmin, hmax] at ha hb hc
  clear hmin hmax
  by_cases h1 : a + b > 9223372036854775807
  · have hw : IntKind.i64.wrap (a + b) = a + b - 18446744073709551616 := by rw [IntKind.wrap_i64]; omega
    go_enter Try.func30, Try.ntmps30
    go_wp2
    go_ret
    exact ⟨by rw [show decide (a + b ≤ c) = false from decide_eq_false (by omega)]; rfl, rfl⟩
  · by_cases h2 : a + b < -9223372036854775808
    · have hw : IntKind.i64.wrap (a + b) = a + b + 18446744073709551616 := by rw [IntKind.wrap_i64]; omega
      go_enter Try.func30, Try.ntmps30
      go_wp2
      go_ret
      exact ⟨by rw [show decide (a + b ≤ c) = true from decide_eq_true (by omega)]; rfl, rfl⟩
    · have hw : IntKind.i64.wrap (a + b) = a + b := IntWalk.i64_in _ (by omega)
      by_cases h3 : 0 ≤ a
      · by_cases h4 : 0 ≤ b
        · have h5 : ¬ (a + b < 0) := by omega
          go_enter Try.func30, Try.ntmps30
          go_wp2
          go_ret
          exact ⟨rfl, rfl⟩
        · go_enter Try.func30, Try.ntmps30
          go_wp2
          go_ret
          exact ⟨rfl, rfl⟩
      · by_cases h4 : b < 0
        · have h5 : a + b < 0 := by omega
          go_enter Try.func30, Try.ntmps30
          go_wp2
          go_ret
          exact ⟨rfl, rfl⟩
        · go_enter Try.func30, Try.ntmps30
          go_wp2
          go_ret
          exact ⟨rfl, rfl⟩

/-- What a function that is handed in holds. -/
def Caps (w : World) (cs : List (Nat × Int)) : Prop := ∀ p ∈ cs, Blk w p.1 3 #[.int .i64 p.2]
/-- It tells of each asker whether it is so. -/
def Says (f : FuncId) (caps : Array Value) (so : Array Value → Bool) (ok : Array Value → Prop) (cs : List (Nat × Int)) : Prop :=
  ∀ (w : World) (x : Array Value), AskX x → ok x → Caps w cs → Calls Try.prog f (#[.agg x] ++ caps) w fun e w' => e = .returned (.bool (so x)) ∧ Below w.heap.size w w'
def jobOf (x : Array Value) : Int := match x[2]? with | some (Value.int _ n) => n | _ => 0
def cameOf (x : Array Value) : Int := match x[3]? with | some (Value.int _ n) => n | _ => 0
/-- An asker's job and time are numbers. -/
def Num (x : Array Value) : Prop := (x[2]? = some (.int .i64 (jobOf x)) ∧ (Lit.int .i64 (jobOf x)).wf = true) ∧ x[3]? = some (.int .i64 (cameOf x)) ∧ (Lit.int .i64 (cameOf x)).wf = true

set_option maxRecDepth 20000 in
set_option maxHeartbeats 1000000 in
theorem says_of (b : Nat) (job : Int) : Says 26 #[.pointer (some ⟨b, 0, none⟩)] (fun x => decide (jobOf x = job)) Num [(b, job)] := by
  intro w x hx hn hc
  have hb : Blk w b 3 #[.int .i64 job] := hc (b, job) (by simp)
  have hj := hn.1.1
  clear hn hc
  obtain ⟨j, hj'⟩ : ∃ j, jobOf x = j := ⟨_, rfl⟩
  rw [hj'] at hj
  have h1 := hb.alloc (.cells x 35)
  have hc2 : (w.alloc (.cells x 35)).cell? ⟨w.heap.size, 2, none⟩ = some (.int .i64 j) := ((Blk.new w 35 x).cell 2).trans hj
  have hc0 : (w.alloc (.cells x 35)).cell? ⟨b, 0, none⟩ = some (.int .i64 job) := h1.cell 0
  show Calls Try.prog 26 #[.agg x, .pointer (some ⟨b, 0, none⟩)] w _
  simp only [hj']
  clear hj' hb h1
  go_enter Try.func26, Try.ntmps26
  go_wp2
  go_ret
  exact ⟨by first | rfl | exact ret_bool (by simp), (Below.refl _ _).alloc (Nat.le_refl _) _⟩
set_option maxRecDepth 20000 in
set_option maxHeartbeats 1000000 in
theorem says_done (b : Nat) (job : Int) : Says 28 #[.pointer (some ⟨b, 0, none⟩)] (fun x => decide (jobOf x = job)) Num [(b, job)] := by
  intro w x hx hn hc
  have hb : Blk w b 3 #[.int .i64 job] := hc (b, job) (by simp)
  have hj := hn.1.1
  clear hn hc
  obtain ⟨j, hj'⟩ : ∃ j, jobOf x = j := ⟨_, rfl⟩
  rw [hj'] at hj
  have h1 := hb.alloc (.cells x 35)
  have hc2 : (w.alloc (.cells x 35)).cell? ⟨w.heap.size, 2, none⟩ = some (.int .i64 j) := ((Blk.new w 35 x).cell 2).trans hj
  have hc0 : (w.alloc (.cells x 35)).cell? ⟨b, 0, none⟩ = some (.int .i64 job) := h1.cell 0
  show Calls Try.prog 28 #[.agg x, .pointer (some ⟨b, 0, none⟩)] w _
  simp only [hj']
  clear hj' hb h1
  go_enter Try.func28, Try.ntmps28
  go_wp2
  go_ret
  exact ⟨by first | rfl | exact ret_bool (by simp), (Below.refl _ _).alloc (Nat.le_refl _) _⟩
set_option maxRecDepth 20000 in
set_option maxHeartbeats 1000000 in
theorem says_late (b c : Nat) (now dl : Int) (hnow : (Lit.int .i64 now).wf = true) (hdl : (Lit.int .i64 dl).wf = true) :
    Says 29 #[.pointer (some ⟨c, 0, none⟩), .pointer (some ⟨b, 0, none⟩)] (fun x => decide (cameOf x + dl ≤ now)) Num [(b, now), (c, dl)] := by
  intro w x hx hn hc
  have hb : Blk w b 3 #[.int .i64 now] := hc (b, now) (by simp)
  have hd : Blk w c 3 #[.int .i64 dl] := hc (c, dl) (by simp)
  obtain ⟨hj, hjw⟩ := hn.2
  clear hn hc
  obtain ⟨j, hj'⟩ : ∃ j, cameOf x = j := ⟨_, rfl⟩
  rw [hj'] at hj hjw
  have hc2 : (w.alloc (.cells x 35)).cell? ⟨w.heap.size, 3, none⟩ = some (.int .i64 j) := ((Blk.new w 35 x).cell 3).trans hj
  have hc0 : (w.alloc (.cells x 35)).cell? ⟨b, 0, none⟩ = some (.int .i64 now) := (hb.alloc _).cell 0
  have hc1 : (w.alloc (.cells x 35)).cell? ⟨c, 0, none⟩ = some (.int .i64 dl) := (hd.alloc _).cell 0
  show Calls Try.prog 29 #[.agg x, .pointer (some ⟨c, 0, none⟩), .pointer (some ⟨b, 0, none⟩)] w _
  simp only [hj']
  clear hj' hb hd
  go_enter Try.func29, Try.ntmps29
  go_wp2_with fail
  refine (late_any j dl now _ hjw hdl hnow).mono ?_
  rintro e w' ⟨rfl, rfl⟩
  go_wp2
  go_ret
  exact ⟨rfl, (Below.refl _ _).alloc (Nat.le_refl _) _⟩
end Go.Proofs.Ytigjipjkollohaa
