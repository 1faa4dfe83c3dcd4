/-
  What ClientActs keeps: the table and the reference's say the same.
-/
import Derived.Test.YtigjipjkollohaaGSame
import Derived.Test.YtigjipjkollohaaClientAwake
namespace Go.Proofs.Ytigjipjkollohaa.G
open Go.RowKit

/-- What New makes of a bound. -/
def most0 (most : Int) : Int := if most < 0 then 0 else most
/-- The two tables, in new memory. -/
structure ActsAt (w0 u : World) (g gm : Nat) (most : Int) (v vm : Value) (l r : List Pr) : Prop where
  t : TAt w0.heap.size u g (most0 most) v l
  m : RAt w0.heap.size u gm most vm (rows r)
  good : ∀ p ∈ r, RGood w0.heap.size u p
  below : Below w0.heap.size w0 u
  hg : w0.heap.size ≤ g
  hgm : w0.heap.size ≤ gm
theorem own_apart {w : World} {base base' e e' size size' n n' : Nat} {v v' : Value} {xs xs' : List Value} (h : w.ownsRow base e size v n xs) (h' : w.ownsRow base' e' size' v' n' xs') (hne : e ≠ e') {i : Nat} (hi : v.ownBlock = some i) : v'.ownBlock ≠ some i := by
  intro hi'
  rcases h.2 with ⟨rfl, _⟩ | ⟨g, cap, cur, rfl, _, hh, _⟩
  · cases hi
  · rcases h'.2 with ⟨rfl, _⟩ | ⟨g', cap', cur', rfl, _, hh', _⟩
    · cases hi'
    · injection hi with hi
      injection hi' with hi'
      have e1 : g = i := hi
      have e2 : g' = i := hi'
      subst e1 e2
      rw [hh] at hh'
      injection hh' with hh'
      injection hh' with _ hh'
      exact hne hh'
section
variable {w0 u u' : World} {g gm : Nat} {most : Int} {v vm v' vm' : Value} {l r l' r' : List Pr}
theorem ActsAt.size (h : ActsAt w0 u g gm most v vm l r) : w0.heap.size ≤ u.heap.size := h.below.size
theorem ActsAt.ne (h : ActsAt w0 u g gm most v vm l r) : g ≠ gm := Blk.ne_ h.t.1 h.m.1 (by decide)
theorem ActsAt.keep (h : ActsAt w0 u g gm most v vm l r) (hb : Below u.heap.size u u') : ActsAt w0 u' g gm most v vm l r :=
  ⟨h.t.below hb, h.m.below hb, fun p hp => (h.good p hp).below (hb.mono h.size), h.below.trans (hb.mono h.size), h.hg, h.hgm⟩
/-- A step of the table. -/
theorem ActsAt.tstep (h : ActsAt w0 u g gm most v vm l r) (hT : TAt w0.heap.size u' g (most0 most) v' l') (hs : TStep g v v' u u') : ActsAt w0 u' g gm most v' vm l' r := by
  have hB : Below w0.heap.size u u' := hs.1.below h.size (fun i hi hf => by
    rcases hf with hf | hf
    · have := h.hg; omega
    · have := (h.t.2.1.lt i hf).1; omega)
  refine ⟨hT, ⟨h.m.1.only hs.1 (fun hf => ?_), own_only h.m.2.1 hs.1 (fun k hk hf => ?_), h.m.2.2⟩, fun p hp => (h.good p hp).below hB, h.below.trans hB, h.hg, h.hgm⟩
  · rcases hf with hf | hf
    · exact h.ne hf.symm
    · exact own_blk_ne h.t.2.1 h.m.1 (by decide) hf
  · rcases hf with hf | hf
    · rw [hf] at hk; exact own_blk_ne h.m.2.1 h.t.1 (by decide) hk
    · exact own_apart h.t.2.1 h.m.2.1 (by decide) hf hk
/-- A step of the reference. -/
theorem ActsAt.mstep (h : ActsAt w0 u g gm most v vm l r) (hm : RAt w0.heap.size u' gm most vm' (rows r')) (hO : Only (fun i => i = gm) u u') (hr : ∀ p ∈ r', p ∈ r ∨ RGood w0.heap.size w0 p) : ActsAt w0 u' g gm most v vm' l r' := by
  have hB : Below w0.heap.size u u' := hO.below h.size (fun i hi hf => by have := h.hgm; omega)
  have hal : ∀ k, k < u.heap.size → k = gm → Alien u k := fun k _ hk => by rw [hk]; exact alien_blk h.m.1 (by decide) (by decide)
  refine ⟨⟨h.t.1.only hO h.ne, h.t.2.only hO (fun k hk hf => by rw [hf] at hk; exact own_blk_ne h.t.2.1 h.m.1 (by decide) hk) hal⟩, hm, fun p hp => ?_, h.below.trans hB, h.hg, h.hgm⟩
  rcases hr p hp with hp | hp
  · exact (h.good p hp).below hB
  · exact hp.below (h.below.trans hB)
/-- The act's variable stays. -/
theorem ActsAt.act_t (h : ActsAt w0 u g gm most v vm l r) {a8 : Nat} {z : Array Value} (hz : Blk u a8 37 z) (hs : TStep g v v' u u') : Blk u' a8 37 z :=
  hz.only hs.1 (fun hf => by
    rcases hf with hf | hf
    · rw [hf] at hz; exact Blk.ne_ hz h.t.1 (by decide) rfl
    · exact own_blk_ne h.t.2.1 hz (by decide) hf)
theorem ActsAt.act_m (h : ActsAt w0 u g gm most v vm l r) {a8 : Nat} {z : Array Value} (hz : Blk u a8 37 z) (hO : Only (fun i => i = gm) u u') : Blk u' a8 37 z :=
  hz.only hO (fun hf => by rw [hf] at hz; exact Blk.ne_ hz h.m.1 (by decide) rfl)
theorem ActsAt.nums (h : ActsAt w0 u g gm most v vm l r) : ∀ x ∈ rows r, Num x := by
  intro x hx
  obtain ⟨p, hp, rfl⟩ := List.mem_map.1 hx
  exact num_of (h.good p hp).sc (h.good p hp).ok
theorem ActsAt.filter (h : ActsAt w0 u g gm most v vm l r) {so : Array Value → Bool} {q : AskD → Bool} (hq : ∀ x M, Scal x M → so x = q M) : (rows r).filter so = rows (r.filter fun p => so p.1) ∧ says (r.filter fun p => so p.1) = (says r).filter q := by
  refine ⟨rows_filter r so, ?_⟩
  unfold says
  rw [List.filter_map]
  congr 1
  exact List.filter_congr (fun p hp => hq _ _ (h.good p hp).sc)
/-- What the table told stays while the reference's blocks turn. -/
theorem told_stays (h : ActsAt w0 u g gm most v vm l r) {W : World} {vo : Value} {lo : List Pr} (ht : RowAt W.heap.size u vo lo) (hW : gm < W.heap.size) (hO : Only (fun i => i = gm) u u') : RowAt W.heap.size u' vo lo :=
  ht.only hO (fun k hk hf => by have := (ht.1.lt k hk).1; omega) (fun k _ hk => by rw [hk]; exact alien_blk h.m.1 (by decide) (by decide))
end
theorem mem_snoc {r : List Pr} {q : Pr} {R : Pr → Prop} {p : Pr} (h : p ∈ r ++ [q]) (hq : R q) : p ∈ r ∨ R p := by
  rcases List.mem_append.1 h with h | h
  · exact Or.inl h
  · rw [List.mem_singleton] at h
    rw [h]
    exact Or.inr hq
theorem len_of_says {l r : List Pr} (h : says l = says r) : l.length = r.length := by rw [← says_length l, h, says_length]
theorem job_says (job : Int) : ∀ x M, Scal x M → (fun x => decide (jobOf x = job)) x = (fun M : AskD => decide (M.job = job)) M := fun x M h => by simp only [jobOf_of h]
theorem job_nsays (job : Int) : ∀ x M, Scal x M → (fun x => !decide (jobOf x = job)) x = (fun M : AskD => !decide (M.job = job)) M := fun x M h => by simp only [jobOf_of h]
theorem came_says (dl now : Int) : ∀ x M, Scal x M → (fun x => decide (cameOf x + dl ≤ now)) x = (fun M : AskD => decide (M.came + dl ≤ now)) M := fun x M h => by simp only [cameOf_of h]
theorem came_nsays (dl now : Int) : ∀ x M, Scal x M → (fun x => !decide (cameOf x + dl ≤ now)) x = (fun M : AskD => !decide (M.came + dl ≤ now)) M := fun x M h => by simp only [cameOf_of h]
theorem most0_le (most : Int) (n : Nat) : most0 most ≤ (n : Int) ↔ most ≤ (n : Int) := by unfold most0; split <;> omega

/-- An act: its kind, its asker's eighteen cells, its two numbers. -/
structure ActIn (w0 : World) (z : Array Value) (kind n d : Int) (x : Array Value) (M : AskD) : Prop where
  size : z.size = 21
  one : z.all (·.oneCell') = true
  kind : z[0]? = some (.int .i64 kind)
  ask : x = ((z.toList.drop 1).take 18).toArray
  cn : z[19]? = some (.int .i64 n)
  cd : z[20]? = some (.int .i64 d)
  wfn : (Lit.int .i64 n).wf = true
  wfd : (Lit.int .i64 d).wf = true
  g : AskG x
  sc : Scal x M
  in_ : InAt w0.heap.size w0 x M
  wfj : (Lit.int .i64 M.job).wf = true
  wfc : (Lit.int .i64 M.came).wf = true
  qok : ∀ y ∈ M.q, y.name.length ≤ maxLen
  aok : ∀ y ∈ M.a, y.ok
  sok : ∀ y ∈ M.s, y.ok
  dok : ∀ y ∈ M.d, y.ok
  len : M.a.length ≤ maxLen ∧ M.s.length ≤ maxLen ∧ M.d.length ≤ maxLen
theorem msgIn_of {w0 u : World} {z x : Array Value} {kind n d : Int} {M : AskD} (h : ActIn w0 z kind n d x M) (hB : Below w0.heap.size w0 u) : MsgIn u (askOf x) M.q M.a M.s M.d := by
  have hi := (h.in_.below hB).more hB.size
  obtain ⟨A1, c1, v1, _, r1⟩ := hi.q
  obtain ⟨A2, c2, v2, _, r2⟩ := hi.a
  obtain ⟨A3, c3, v3, _, r3⟩ := hi.s
  obtain ⟨A4, c4, v4, _, r4⟩ := hi.d
  exact ⟨askOf_size h.g, ⟨A1, c1, by rw [askOf_at]; exact v1, r1⟩, ⟨A2, c2, by rw [askOf_at]; exact v2, r2⟩, ⟨A3, c3, by rw [askOf_at]; exact v3, r3⟩, ⟨A4, c4, by rw [askOf_at]; exact v4, r4⟩, h.qok, h.aok, h.sok, h.dok, h.len⟩
theorem act_range {w0 w : World} {b o : Nat} {z x : Array Value} {kind n d : Int} {M : AskD} (h : ActIn w0 z kind n d x M) (hr : w.rangeAt b o z.toList) : w.rangeAt b (o + 1) x.toList := by
  intro j u hu
  rw [h.ask, List.toList_toArray] at hu
  have hj : j < 18 := by
    have := (List.getElem?_eq_some_iff.1 hu).1
    rw [List.length_take] at this; omega
  rw [List.getElem?_take, if_pos hj, List.getElem?_drop] at hu
  rw [Nat.add_assoc]
  exact hr _ _ hu
/-- The cells of no act. -/
def zeroAct : Array Value := #[.int .i64 0, .int .i64 0, .int .i64 0, .int .i64 0, .int .i64 0, .int .i64 0, .bool false, .int .i64 0, .bool false, .bool false, .bool false, .bool false, .int .i64 0, .slice none 0 0, .slice none 0 0, .slice none 0 0, .slice none 0 0, .bool false, .int .i64 0, .int .i64 0, .int .i64 0]
theorem Try.infoAct : (Try.prog.info? 37).map (·.size) = some 21 := by kernel_rfl
theorem act_info {z : Array Value} (h : z.size = 21) : (Try.prog.info? 37).map (·.size) = some z.size := by rw [h]; exact Try.infoAct
theorem act_infoL {z : Array Value} (h : z.size = 21) : (Try.prog.info? 37).map (·.size) = some z.toList.length := by rw [Array.length_toList]; exact act_info h
theorem flat21_at : ∀ (l : List (Array Value)) (k j : Nat), (∀ x ∈ l, x.size = 21) → (hk : k < l.length) → j < 21 → (l.flatMap Array.toList)[k * 21 + j]? = l[k][j]?
  | x :: r, 0, j, h, _, hj => by
    have h1 := h x (by simp)
    rw [List.flatMap_cons, Nat.zero_mul, Nat.zero_add, List.getElem?_append_left (by rw [Array.length_toList]; omega), Array.getElem?_toList]
    rfl
  | x :: r, k + 1, j, h, hk, hj => by
    have h1 := h x (by simp)
    rw [List.flatMap_cons, List.getElem?_append_right (by rw [Array.length_toList]; omega), Array.length_toList, h1, show (k + 1) * 21 + j - 21 = k * 21 + j by omega,
      flat21_at r k j (fun y hy => h y (by simp [hy])) (by simpa using hk) hj]
    rfl
/-- An act in the list that came in. -/
theorem act_at {w0 w : World} {A : Option Addr} {n k : Nat} {zs : List (Array Value)} (hr : Reads w0 w0.heap.size 21 A n (zs.flatMap Array.toList)) (hn : n = zs.length) (hz : ∀ z ∈ zs, z.size = 21) (hk : k < zs.length) (hb : Below w0.heap.size w0 w) :
    ∃ ad, A = some ad ∧ ∀ j v, zs[k].toList[j]? = some v → w.cell? ((ad.add (k * 21)).add j) = some v := by
  subst hn
  obtain ⟨ad, rfl, _, hc⟩ := (hr.below hb).2 (by omega)
  have hs := hz _ (List.getElem_mem hk)
  refine ⟨ad, rfl, fun j v hv => ?_⟩
  rw [Array.getElem?_toList] at hv
  have hj : j < 21 := by have := (Array.getElem?_eq_some_iff.1 hv).1; omega
  have h := flat21_at zs k j hz hk hj
  rw [add_of_add]
  exact hc _ v (h.trans hv)
theorem step_call2 {P : Program} {ops : Array Oper} {o : Oper} {a : Act} {w : World} {K : Act → World → Prop} {Q : Exit → Act → World → Prop} {E : Prop} (hgd : o.guard = none) (f : FuncId) (x1 x2 : Operand) (t1 t2 : TypeId)
    (ho : o.op = .call { callee := .value (.func f), args := #[x1, x2], argTypes := #[t1, t2] }) (hf : ∀ (args : Array Value) (W : World), (callFunc f args).run P W = .ok (.enter f args) W) {y1 y2 : Value} (h1 : a.eval x1 = y1) (h2 : a.eval x2 = y2) {R : Ending → World → Prop} (hc : Calls P f #[y1, y2] w R)
    (h : ∀ e w', R e w' → ∃ v, e = .returned v ∧ K (a.put o.dst v) w') : if Region.wanted o (yielded ops a.tmps) = true then Oper.wp P o a w K Q else E := by
  have hw : Region.wanted o (yielded ops a.tmps) = true := by simp [Region.wanted, hgd]
  rw [if_pos hw]
  have hfv : a.eval (.func f) = .func (.func f) #[] #[] := rfl
  unfold Oper.wp execOp
  simp only [ho, resolve, Deferred.ofValue, invoke, Sem.run_bind, Sem.run_pure, Result.andThen_ok, List.map_toArray, List.map_cons, List.map_nil, h1, h2, hfv]
  simp only [Array.append_empty, Array.empty_append, hf]
  refine hc.mono ?_
  intro e w' hr
  obtain ⟨v, rfl, hk⟩ := h e w' hr
  exact hk
theorem step_call3 {P : Program} {ops : Array Oper} {o : Oper} {a : Act} {w : World} {K : Act → World → Prop} {Q : Exit → Act → World → Prop} {E : Prop} (hgd : o.guard = none) (f : FuncId) (x1 x2 x3 : Operand) (t1 t2 t3 : TypeId)
    (ho : o.op = .call { callee := .value (.func f), args := #[x1, x2, x3], argTypes := #[t1, t2, t3] }) (hf : ∀ (args : Array Value) (W : World), (callFunc f args).run P W = .ok (.enter f args) W) {y1 y2 y3 : Value} (h1 : a.eval x1 = y1) (h2 : a.eval x2 = y2) (h3 : a.eval x3 = y3) {R : Ending → World → Prop} (hc : Calls P f #[y1, y2, y3] w R)
    (h : ∀ e w', R e w' → ∃ v, e = .returned v ∧ K (a.put o.dst v) w') : if Region.wanted o (yielded ops a.tmps) = true then Oper.wp P o a w K Q else E := by
  have hw : Region.wanted o (yielded ops a.tmps) = true := by simp [Region.wanted, hgd]
  rw [if_pos hw]
  have hfv : a.eval (.func f) = .func (.func f) #[] #[] := rfl
  unfold Oper.wp execOp
  simp only [ho, resolve, Deferred.ofValue, invoke, Sem.run_bind, Sem.run_pure, Result.andThen_ok, List.map_toArray, List.map_cons, List.map_nil, h1, h2, h3, hfv]
  simp only [Array.append_empty, Array.empty_append, hf]
  refine hc.mono ?_
  intro e w' hr
  obtain ⟨v, rfl, hk⟩ := h e w' hr
  exact hk
/-- A whole struct out of a row that came in. -/
theorem run_loadVar_any {P : Program} (w : World) (ad : Addr) (ty : TypeId) (cs : List Value) (d : TypeDesc) (hc : ∀ j v, cs[j]? = some v → w.cell? (ad.add j) = some v)
    (hu : P.underlying ty = some d) (hd : d.isRow = true) (hi : (P.info? ty).map (·.size) = some cs.length) :
    (loadVar ty ad).run P w = .ok (.agg cs.toArray) w := by
  obtain ⟨i, hq⟩ : ∃ i, P.info? ty = some i := by
    cases h : P.info? ty with
    | none => rw [h] at hi; cases hi
    | some i => exact ⟨i, rfl⟩
  have hs : i.size = cs.length := by rw [hq] at hi; exact Option.some.inj hi
  have hrow : (isAgg ty).run P w = .ok true w := by
    have h := run_underlying hu w
    cases d <;> simp_all [isAgg, Sem.run_bind]
  simp [loadVar, Sem.run_bind, hrow, sizeOf, typeInfo, hq, hs, run_loadCells_list (P := P) w ad cs hc]
theorem wpList_load_any {P : Program} {ops : Array Oper} {rest : List Oper} {op : Oper} {a : Act} {w : World} {Q : Exit → Act → World → Prop} (hgd : op.guard = none) (ty : TypeId) (x : Operand) (ho : op.op = .load ty x)
    (ad : Addr) (hx : a.eval x = .pointer (some ad)) (cs : List Value) (d : TypeDesc) (hc : ∀ j v, cs[j]? = some v → w.cell? (ad.add j) = some v)
    (hu : P.underlying ty = some d) (hd : d.isRow = true) (hi : (P.info? ty).map (·.size) = some cs.length)
    (h : wpList P ops Q rest (a.put op.dst (.agg cs.toArray)) w) : wpList P ops Q (op :: rest) a w :=
  wpList_plain hgd fun _ hK => by
    unfold Oper.wp execOp
    simp only [ho, hx, Instr.loadAt, Instr.sureAddr, Sem.run_bind, Sem.run_pure, Result.andThen_ok, run_loadVar_any w ad ty cs d hc hu hd hi]
    exact hK _ _ h
end Go.Proofs.Ytigjipjkollohaa.G
