/- A part of the proof of the card of licitlaw37.ConclusionDiffers. -/
import Derived.Test.YtnpfemnclccbnaaGreatDoorQE
import Derived.Orders
set_option linter.unusedSectionVars false
set_option linter.unusedSimpArgs false
set_option linter.unusedVariables false
namespace Go.Proofs.Qas

def DrawnOk (P : Program) (E : Env) (rec : Rec) : Prop :=
  ∀ (ops : Array Oper) (a a' : AAct) (σ σ' : AW), drawn E ops rec a σ = some (a', σ') → ∀ (fn : FuncId) (ro : Option Nat) (k : List Item) (cs : List Frame) φ w t ds (s : Nat), Rel P φ σ w → AR φ a t ds →
    ∃ φ' t' w', Post P φ σ w φ' σ' w' ∧ AR φ' a' t' ds ∧ Steps P (lone (fr fn ro t ds (.inRegion ops (Region.linearise .any ops s) :: k)) cs w) (lone (fr fn ro t' ds k) cs w')
def SoundC (P : Program) (E : Env) (rec : Rec) (c : Code) : Prop :=
  ∀ fn ar a σ e a' σ', runFC (den E c) rec fn ar a σ = some (.act e a' σ') → ∀ φ w t ds ro k cs, Rel P φ σ w → AR φ a t ds → Around φ ar ro →
    ∃ φ' t' ds' w', Post P φ σ w φ' σ' w' ∧ AR φ' a' t' ds' ∧ Arr P e fn ro k cs (lone (fr fn ro t ds (.code c :: k)) cs w) t' ds' w'
theorem andThen_some {r : M Res} {f : AAct → AW → M Res} {e : AExit} {a : AAct} {σ : AW} (h : andThen r f = some (.act e a σ)) :
    (∃ a1 σ1, r = some (.act .normal a1 σ1) ∧ f a1 σ1 = some (.act e a σ)) ∨ (r = some (.act e a σ) ∧ e ≠ .normal) := by
  replace h := bnd_some h
  obtain ⟨r1, h1, h⟩ := h
  subst h1
  split at h
  · exact .inl ⟨_, _, rfl, h⟩
  · rename_i e1 a1 σ1 hn
    injection h with h; injection h with h1 h2 h3; subst h1; subst h2; subst h3
    refine .inr ⟨rfl, fun he => ?_⟩
    subst he
    exact hn rfl
  · exact (fail_some h).elim
theorem toAct_some {e e' : AExit} {r : M (AAct × AW)} {a : AAct} {σ : AW} (h : toAct e r = some (.act e' a σ)) : e' = e ∧ r = some (a, σ) := by
  replace h := bnd_some h
  obtain ⟨⟨a1, σ1⟩, h1, h⟩ := h
  injection h with h; injection h with h2 h3 h4
  subst h2; subst h3; subst h4
  exact ⟨rfl, h1⟩

section
variable {P : Program} {E : Env} (hE : Env.Ok P E) {rec : Rec} (hs : Sound P E rec) (hD : DrawnOk P E rec)
include hE hs hD
theorem range_ok {f : Operand} {params : List Tmp} {assign body : Code} : SoundC P E rec (.rangeFunc f params.toArray assign body) := by
  intro fn ar a σ e a' σ' h φ w t ds ro k cs hr hA hro
  replace h := bnd_some h
  obtain ⟨fv, hfv, h⟩ := h
  replace h := bnd_some h
  obtain ⟨⟨d, ds1, σ1⟩, hard, h⟩ := h
  replace h := bnd_some h
  obtain ⟨⟨v, σ3⟩, hcall, h⟩ := h

  obtain ⟨φ1, w1, q, mark, p1, hq, hmark, hrun1⟩ : ∃ φ1 w1 q mark, Post P φ σ w φ1 σ1 w1 ∧ φ1 d = some q ∧ DR φ1 ds1 (mark ++ ds) ∧
      ∀ b, (Instr.enterLoop fn t params.toArray assign b ro).run P w = .ok (w1.heap.size, mark) { w1 with heap := w1.heap.push (.loop { state := .ready, pending := none, fn, tmps := t, params := params.toArray, assign, body := b, defers := q.blk }) } := by
    unfold sAround at hard
    cases hro with
    | none =>
      injection hard with hard; injection hard with h1 h2; injection h2 with h2 h3; subst h1; subst h2; subst h3
      refine ⟨_, { w with heap := w.heap.push (.deferred (some [])) }, ⟨w.heap.size, 0, 0⟩, [{ target := .collected w.heap.size, args := #[] }], hr.alloc (w' := { w with heap := w.heap.push (.deferred (some [])) }) ⟨rfl, rfl, rfl, rfl⟩ rfl ⟨w.heap.size, 0, 0⟩ rfl (by simp [OR]), Phi.upd_same _ _ _, DR.cons (q := ⟨w.heap.size, 0, 0⟩) (Phi.upd_same _ _ _) (hA.2.ext (Phi.upd_ext _ (hr.none_next (Nat.le_refl _)))), fun b => ?_⟩
      simp [Instr.enterLoop]
      rfl
    | some hl =>
      rename_i l ql
      simp only at hard
      split at hard
      · rename_i ho
        injection hard with hard; injection hard with h1 h2; injection h2 with h2 h3; subst h1; subst h2; subst h3
        obtain ⟨tm, q, g1, g2, g3⟩ := hr.obj _ _ _ hl ho
        refine ⟨φ, w, q, [], Post.refl hr, g1, hA.2, fun b => ?_⟩
        simp [Instr.enterLoop, Instr.getLoop, run_getObj_loop g3]
      · exact (fail_some hard).elim
  have hA1 := hA.ext p1.ext
  let L : Loop := { state := .ready, pending := none, fn, tmps := t, params := params.toArray, assign, body, defers := q.blk }
  let w2 : World := { w1 with heap := w1.heap.push (.loop L) }
  have p2 := p1.rel.alloc (w' := w2) (o := .loop .ready none fn a.nt a.tmps params assign body d) ⟨rfl, rfl, rfl, rfl⟩ rfl ⟨w1.heap.size, 0, 0⟩ rfl
    ⟨t, q, Phi.upd_ext _ (p1.rel.none_next (Nat.le_refl _)) _ _ hq, hA1.1.ext (Phi.upd_ext _ (p1.rel.none_next (Nat.le_refl _))), by simp [w2, L]⟩
  generalize hφ2 : φ1.upd σ1.next ⟨w1.heap.size, 0, 0⟩ = φ2 at p2
  have hl2 : φ2 σ1.next = some ⟨w1.heap.size, 0, 0⟩ := by rw [← hφ2]; exact Phi.upd_same _ _ _
  have e12 : Ext φ φ2 := p1.ext.trans p2.ext
  let F : Frame := fr fn ro t (mark ++ ds) (.inRangeFunc w1.heap.size :: k)
  obtain ⟨φ3, v', w3, p3, p4, p5⟩ := aCallee_ok hE hs p2.rel hcall ((hA.eval f fv hfv).ext e12) (args' := [.func (.yield w1.heap.size) #[] #[]]) (LR.cons (VR.yield hl2) (LR.nil _)) F cs
  have st1 : Steps P (lone (fr fn ro t ds (.code (.rangeFunc f params.toArray assign body) :: k)) cs w) (lone (F.finish v') cs w3) := by
    refine run_steps p5 ?_ (.inr ⟨_, k, rfl⟩)
    have hev := eval_fr fn ro t (mark ++ ds) (.inRangeFunc w1.heap.size :: k)
    simp only [fr] at hev
    simp [stepG, stepG.exec, fr, hrun1, F, w2, L, resolve, hev, evalT]

  have e13 : Ext φ φ3 := e12.trans p3.ext
  have hl3 := p3.ext _ _ hl2
  have hr3 := p3.rel
  have hlt := (hr3.lt _ _ hl3).2
  replace h : endRange σ1.next a ds1 σ3 = some (.act e a' σ') := h
  unfold endRange at h
  split at h
  · exact (fail_some h).elim
  · rename_i st p fn3 nt3 tm3 pa3 as3 bo3 d3 hst ho
    obtain ⟨tmq, qq, g1, g2, g3⟩ := hr3.obj _ _ _ hl3 ho
    replace h := bnd_some h
    obtain ⟨e1, he1, h⟩ := h
    injection h with h; injection h with h1 h2 h3; subst h1; subst h2; subst h3
    let L3 : Loop := { state := st, pending := p, fn := fn3, tmps := tmq, params := pa3.toArray, assign := as3, body := bo3, defers := qq.blk }
    let w4 : World := { w3 with heap := w3.heap.setIfInBounds w1.heap.size (.loop { L3 with state := .exhausted }) }
    have p6 := hr3.turn (w' := w4) hl3 (by rw [ho]; simp) (set_turned _) (o := .loop .exhausted p fn3 nt3 tm3 pa3 as3 bo3 d3) ⟨tmq, qq, g1, g2, Array.getElem?_setIfInBounds_self_of_lt hlt⟩
    have g3' : w3.heap[w1.heap.size]? = some (.loop L3) := g3
    have hrun3 : (Instr.endLoop w1.heap.size).run P w3 = .ok p w4 := by
      have hb2 : ¬ L3.state = LoopState.busy := fun e => hst e
      simp [Instr.endLoop, Instr.getLoop, run_getObj_loop g3', run_setObj_loop _ g3', hb2]
      exact ⟨rfl, rfl⟩
    have st2 : Go.step P (lone (F.finish v') cs w3) = Stepped.next (lone (fr fn ro t (mark ++ ds) ((p.map Item.code).toList ++ k)) cs w4) :=
      step_lone_go (by simp [stepG, stepG.exec, Frame.finish, F, fr, hrun3])
    refine ⟨φ3, t, mark ++ ds, w4, ((p1.trans p2).trans (hφ2 ▸ p3)).trans p6, ⟨hA.1.ext e13, hmark.ext (p2.ext.trans p3.ext)⟩, ?_⟩
    refine .of_steps (st1.trans (.one st2)) ?_
    unfold exitOf at he1
    split at he1
    · injection he1 with he1; subst he1; exact Steps.refl (P := P) _
    · injection he1 with he1; subst he1; exact ⟨k, Steps.refl (P := P) _⟩
    · injection he1 with he1; subst he1; exact ⟨k, rfl, Steps.refl (P := P) _⟩
    · exact (fail_some he1).elim
  · exact (fail_some h).elim
theorem den_ok : ∀ c : Code, SoundC P E rec c := by
  intro c
  induction c with
  | skip =>
    intro fn ar a σ e a' σ' h φ w t ds ro k cs hr hA _
    injection h with h; injection h with h1 h2 h3; subst h1; subst h2; subst h3
    exact ⟨φ, t, ds, w, Post.refl hr, hA, .one step_skip'⟩
  | label l =>
    intro fn ar a σ e a' σ' h φ w t ds ro k cs hr hA _
    injection h with h; injection h with h1 h2 h3; subst h1; subst h2; subst h3
    exact ⟨φ, t, ds, w, Post.refl hr, hA, .one step_label'⟩
  | region id ops draw =>
    intro fn ar a σ e a' σ' h φ w t ds ro k cs hr hA _
    cases draw with
    | false =>
      obtain ⟨rfl, h1⟩ := toAct_some h
      obtain ⟨φ', t', w', p1, p2, p3⟩ := ops_ok hE hs (fn := fn) (ro := ro) (k := k) (cs := cs) ops.size 0 (by omega) a a' σ σ' h1 φ w t ds hr hA
      rw [← List.range_eq_range'] at p3
      exact ⟨φ', t', ds, w', p1, p2, .head step_region' (p3.trans (.one step_region_end'))⟩
    | true =>
      obtain ⟨rfl, h1⟩ := toAct_some h
      obtain ⟨s, st⟩ := step_region_draw' (P := P) (fn := fn) (ro := ro) (t := t) (ds := ds) (k := k) (cs := cs) (w := w) (ops := ops) (id := id) hE.mixed
      have hsb : SameBut w { w with drawn := w.drawn + 1 } := ⟨rfl, rfl, rfl, rfl⟩
      obtain ⟨φ', t', w', p1, p2, p3⟩ := hD ops a a' σ σ' h1 fn ro k cs φ { w with drawn := w.drawn + 1 } t ds s (hr.same hsb) hA
      exact ⟨φ', t', ds, w', (Post.same hr hsb).trans p1, p2, .head st p3⟩
  | seq x y ihx ihy =>
    intro fn ar a σ e a' σ' h φ w t ds ro k cs hr hA hro
    rcases andThen_some h with ⟨a1, σ1, h1, h2⟩ | ⟨h1, h2⟩
    · obtain ⟨φ1, t1, ds1, w1, p1, p2, p3⟩ := ihx _ _ _ _ _ _ _ h1 φ w t ds ro (.code y :: k) cs hr hA hro
      obtain ⟨φ2, t2, ds2, w2, q1, q2, q3⟩ := ihy _ _ _ _ _ _ _ h2 φ1 w1 t1 ds1 ro k cs p1.rel p2 (hro.ext p1.ext)
      exact ⟨φ2, t2, ds2, w2, p1.trans q1, q2, .of_steps (.head step_seq' p3) q3⟩
    · obtain ⟨φ1, t1, ds1, w1, p1, p2, p3⟩ := ihx _ _ _ _ _ _ _ h1 φ w t ds ro (.code y :: k) cs hr hA hro
      exact ⟨φ1, t1, ds1, w1, p1, p2, .of_steps (.one step_seq') (Arr.weaken (k1 := .code y :: k) (fun b hb => hb ▸ h2) (fun _ _ => rfl) p3)⟩
  | cond c x y ihx ihy =>
    intro fn ar a σ e a' σ' h φ w t ds ro k cs hr hA hro
    replace h := bnd_some h
    obtain ⟨v, hv, h⟩ := h
    have hc := hA.eval c v hv
    split at h
    · have hb : evalT t c = .bool true := by
        generalize evalT t c = u at hc
        cases hc; rfl
      obtain ⟨φ1, t1, ds1, w1, p1, p2, p3⟩ := ihx _ _ _ _ _ _ _ h φ w t ds ro k cs hr hA hro
      exact ⟨φ1, t1, ds1, w1, p1, p2, .of_steps (.one (step_cond' hb)) p3⟩
    · have hb : evalT t c = .bool false := by
        generalize evalT t c = u at hc
        cases hc; rfl
      obtain ⟨φ1, t1, ds1, w1, p1, p2, p3⟩ := ihy _ _ _ _ _ _ _ h φ w t ds ro k cs hr hA hro
      exact ⟨φ1, t1, ds1, w1, p1, p2, .of_steps (.one (step_cond' hb)) p3⟩
    · exact (fail_some h).elim
  | block id b ih =>
    intro fn ar a σ e a' σ' h φ w t ds ro k cs hr hA hro
    replace h := bnd_some h
    obtain ⟨r, h1, h⟩ := h
    unfold inBlock at h
    split at h
    · rename_i i a1 σ1
      obtain ⟨φ1, t1, ds1, w1, p1, p2, p3⟩ := ih _ _ _ _ _ _ _ h1 φ w t ds ro (.inBlock id :: k) cs hr hA hro
      obtain ⟨k', hk, p3⟩ := p3
      split at h
      · rename_i hid
        injection h with h; injection h with h2 h3 h4; subst h2; subst h3; subst h4
        have hid' := Nat.eq_of_beq_eq_true hid
        subst hid'
        rw [show exitTo i (.inBlock i :: k) = some k from by simp [exitTo]] at hk
        exact ⟨φ1, t1, ds1, w1, p1, p2, .head step_block' (p3.trans (.one (step_exit' hk)))⟩
      · rename_i hid
        injection h with h; injection h with h2 h3 h4; subst h2; subst h3; subst h4
        rw [show exitTo i (.inBlock id :: k) = exitTo i k from by
          have : ¬ id = i := fun e => by subst e; simp at hid
          simp [exitTo, this]] at hk
        exact ⟨φ1, t1, ds1, w1, p1, p2, k', hk, .head step_block' p3⟩
    · rename_i hne
      injection h with h; subst h
      obtain ⟨φ1, t1, ds1, w1, p1, p2, p3⟩ := ih _ _ _ _ _ _ _ h1 φ w t ds ro (.inBlock id :: k) cs hr hA hro
      refine ⟨φ1, t1, ds1, w1, p1, p2, ?_⟩
      cases e with
      | normal => exact .head step_block' (Steps.trans p3 (.one step_inBlock'))
      | ret => obtain ⟨k', p3⟩ := p3; exact ⟨k', .head step_block' p3⟩
      | exit i => exact (hne _ _ _ rfl).elim
  | loop b ih =>
    intro fn ar a σ e a' σ' h φ w t ds ro k cs hr hA hro
    obtain ⟨φ1, t1, ds1, w1, p1, p2, p3⟩ := hs.loop _ _ _ _ _ _ _ _ h φ w t ds ro k cs hr hA hro
    exact ⟨φ1, t1, ds1, w1, p1, p2, .of_steps (.one step_loop') p3⟩
  | scope b ih =>
    intro fn ar a σ e a' σ' h φ w t ds ro k cs hr hA hro
    obtain ⟨φ1, t1, ds1, w1, p1, p2, p3⟩ := ih _ _ _ _ _ _ _ h φ w t ds ro (.inScope b :: k) cs hr hA hro
    refine ⟨φ1, t1, ds1, w1, p1, p2, ?_⟩
    cases e with
    | normal => exact .head step_scope' (Steps.trans p3 (.one step_inScope'))
    | ret => obtain ⟨k', p3⟩ := p3; exact ⟨k', .head step_scope' p3⟩
    | exit i => obtain ⟨k', hk, p3⟩ := p3; exact ⟨k', hk, .head step_scope' p3⟩
  | exit id =>
    intro fn ar a σ e a' σ' h φ w t ds ro k cs hr hA _
    injection h with h; injection h with h1 h2 h3; subst h1; subst h2; subst h3
    exact ⟨φ, t, ds, w, Post.refl hr, hA, k, rfl, Steps.refl (P := P) _⟩
  | ret =>
    intro fn ar a σ e a' σ' h φ w t ds ro k cs hr hA _
    injection h with h; injection h with h1 h2 h3; subst h1; subst h2; subst h3
    exact ⟨φ, t, ds, w, Post.refl hr, hA, k, Steps.refl (P := P) _⟩
  | rangeFunc f params assign body _ _ =>
    have := range_ok hE hs hD (f := f) (params := params.toList) (assign := assign) (body := body)
    simpa using this
  | goto l =>
    intro fn ar a σ e a' σ' h
    exact (fail_some (s := "goto") h).elim
  | refuse why =>
    intro fn ar a σ e a' σ' h
    exact (fail_some (s := "refuse") h).elim
end
end Go.Proofs.Qas
namespace Go.Proofs.Qas

theorem tr_args {φ : Phi} {args args' : List Value} (hl : LR φ args args') {n : Nat} (hn : args.length ≤ n) : TR φ n (Tr.from_ .nil 0 args) (args'.toArray ++ Array.replicate (n - args'.toArray.size) undef) := by
  refine ⟨by have := hl.1; simp; omega, fun i v hv => ?_⟩
  rw [Tr.get_from] at hv
  split at hv
  · rename_i hi
    rw [Nat.sub_zero] at hv
    obtain ⟨v', h1, h2⟩ := hl.at_ hv
    have : i < args'.length := (List.getElem?_eq_some_iff.1 h1).1
    exact ⟨v', by rw [Array.getElem?_append_left (by simpa using this)]; simpa using h1, h2⟩
  · rw [Tr.get_nil] at hv; cases hv
theorem enter_fr {P : Program} {f : FuncId} {fn : Func} {c : Code} (hf : P.funcs[f]? = some fn) (hc : fn.body = some c) (args : Array Value) :
    Frame.enter P f args .normal = fr f none (args ++ Array.replicate (fn.ntmps - args.size) undef) [] [.code c] := by
  simp [Frame.enter, fr, hf, hc]

theorem mapM_results {P : Program} {φ : Phi} {w : World} {f : ResultVar → Sem Value} {g : ResultVar → M Value} (hfg : ∀ r v, g r = some v → ∃ v', VR φ v v' ∧ (f r).run P w = .ok v' w) :
    ∀ (rs : List ResultVar) (vs : List Value), mapM' g rs = some vs → ∃ vs', LR φ vs vs' ∧ (rs.mapM f).run P w = .ok vs' w
  | [], vs, h => by
    rw [mapM'_nil] at h; injection h with h; subst h
    exact ⟨[], LR.nil _, by simp⟩
  | r :: rs, vs, h => by
    rw [mapM'_cons] at h
    replace h := bnd_some h
    obtain ⟨v, hv, h⟩ := h
    replace h := bnd_some h
    obtain ⟨us, hus, h⟩ := h
    injection h with h; subst h
    obtain ⟨v', h1, h2⟩ := hfg r v hv
    obtain ⟨us', h3, h4⟩ := mapM_results hfg rs us hus
    exact ⟨v' :: us', LR.cons h1 h3, by simp [List.mapM_cons, h2, h4]⟩
theorem results_ok {P : Program} {E : Env} (hE : Env.Ok P E) {φ : Phi} {σ : AW} {w : World} (hr : Rel P φ σ w) {a : AAct} {t : Array Value} {ds : List Deferred} (hA : AR φ a t ds) {fn : Func} {v : Value} (h : aResults E fn a σ = some v) :
    ∃ v', VR φ v v' ∧ (results fn t).run P w = .ok v' w := by
  replace h := bnd_some h
  obtain ⟨vs, hvs, h⟩ := h
  have htmp : ∀ i u, a.tmps.get i = some u → VR φ u (t.getD i undef) := fun i u hu => hA.eval (.tmp i) u hu
  obtain ⟨vs', h1, h2⟩ := mapM_results (P := P) (w := w) (φ := φ) (f := fun
    | .tmp i => pure (t.getD i undef)
    | .cell p ty => do loadVar ty (← asAddr (t.getD p undef))) (fun r u hu => by
      cases r with
      | tmp i => exact ⟨_, htmp i u (ofOpt_some hu), rfl⟩
      | cell p ty =>
        replace hu := bnd_some hu
        obtain ⟨x, hx, hu⟩ := hu
        obtain ⟨v', g1, _, g3⟩ := aLoad_ok hE hu hr (htmp p x (ofOpt_some hx))
        exact ⟨v', g1, g3⟩) _ _ hvs
  have h3 : (results fn t).run P w = .ok (if h : vs'.toArray.size = 1 then vs'.toArray[0] else .tuple vs'.toArray) w := by
    unfold results
    rw [Array.mapM_eq_mapM_toList]
    simp only [Sem.run_bind, Sem.run_map]
    exact congrArg (fun z : Result (List Value) => (z.andThen (fun a w' => Result.ok a.toArray w')).andThen fun a w' => Sem.run P (pure (if h : a.size = 1 then a[0] else Value.tuple a)) w') h2
  split at h
  · injection h with h; subst h
    match vs', h1, h3 with
    | [u'], h1, h3 => exact ⟨u', h1.uncons.1, h3⟩
    | [], h1, _ => have := h1.1; simp at this
    | _ :: _ :: _, h1, _ => have := h1.1; simp at this
  · rename_i hne
    injection h with h; subst h
    refine ⟨_, h1.tuple, ?_⟩
    rw [h3, dif_neg]
    intro hl
    have : vs.length = 1 := by rw [h1.1]; simpa using hl
    match vs, this with
    | [x], _ => exact hne x rfl

theorem unwind_ok {P : Program} {fn : FuncId} {ro : Option Nat} {t : Array Value} {cs : List Frame} : ∀ (ds : List Nat) (ds' : List Deferred) (φ : Phi) (σ σ' : AW) (w : World), aUnwind σ ds = some σ' → Rel P φ σ w → DR φ ds ds' →
    ∃ w', Post P φ σ w φ σ' w' ∧ ∀ todo, Steps P (lone { fr fn ro t ds' todo with mode := .returning } cs w) (lone { fr fn ro t [] todo with mode := .returning } cs w')
  | [], ds', φ, σ, σ', w, h, hr, hd => by
    cases hd
    injection h with h; subst h
    exact ⟨w, Post.refl hr, fun todo => Steps.refl (P := P) _⟩
  | d :: ds, ds', φ, σ, σ', w, h, hr, hd => by
    cases hd with
    | cons hq hd =>
    rename_i q ds'
    unfold aUnwind at h
    split at h
    · rename_i ho
      have hb : w.heap[q.blk]? = some (.deferred (some [])) := hr.obj _ _ _ hq ho
      have hlt := (hr.lt _ _ hq).2
      have p1 := hr.turn (w' := { w with heap := w.heap.setIfInBounds q.blk (.deferred none) }) hq (by rw [ho]; simp) (set_turned _) (o := .deferred false) (by
        show _ = some (Obj.deferred _)
        exact Array.getElem?_setIfInBounds_self_of_lt hlt)
      obtain ⟨w', p2, st⟩ := unwind_ok ds ds' φ _ σ' _ h p1.rel hd
      refine ⟨w', p1.trans p2, fun todo => .head ?_ (st todo)⟩
      have hrun : (Instr.takeDeferred q.blk).run P w = .ok [] { w with heap := w.heap.setIfInBounds q.blk (.deferred none) } := by
        simp [Instr.takeDeferred, getObj, setObj, Sem.run, hb]
      exact step_lone_go (by simp [stepG, unwind, fr, hrun])
    · exact (fail_some h).elim
end Go.Proofs.Qas
namespace Go.Proofs.Qas

theorem foldl_params {φ : Phi} : ∀ (ps : List Tmp) (args args' : List Value) (nt : Nat) (tm : Tr Value) (t : Array Value), TR φ nt tm t → allLt nt ps = true → LR φ args args' → args.length = ps.length →
    TR φ nt (setParams tm ps args) ((ps.zip args').foldl (fun t (p, a) => t.setIfInBounds p a) t)
  | [], args, args', nt, tm, t, ht, _, _, _ => by cases args <;> exact ht
  | p :: ps, [], args', nt, tm, t, ht, _, _, hl => by simp at hl
  | p :: ps, a :: args, [], nt, tm, t, ht, _, hl, _ => by have := hl.1; simp at this
  | p :: ps, a :: args, a' :: args', nt, tm, t, ht, hlt, hl, hn => by
    simp only [allLt] at hlt
    split at hlt
    · rename_i hp
      simp only [setParams, List.zip_cons_cons, List.foldl_cons]
      exact foldl_params ps args args' nt _ _ (ht.set (blt_iff.1 hp) hl.uncons.1) hlt hl.uncons.2 (by simpa using hn)
    · cases hlt
section
variable {P : Program} {E : Env} (hE : Env.Ok P E) {rec : Rec} (hs : Sound P E rec) (hD : DrawnOk P E rec)
include hE hs hD
theorem call_step {f : FuncId} {args : List Value} {σ σ' : AW} {v : Value} (h : step E rec (.call f args) σ = some (.val v σ')) {φ : Phi} {w : World} {args' : List Value} (hr : Rel P φ σ w) (hl : LR φ args args') :
    (callFunc f args'.toArray).run P w = .ok (.enter f args'.toArray) w ∧ Calls P f args'.toArray w fun e w' => ∃ φ' v', e = .returned v' ∧ VR φ' v v' ∧ Post P φ σ w φ' σ' w' := by
  replace h : sCall E rec f args σ = some (.val v σ') := h
  unfold sCall at h
  split at h
  · rename_i s hst
    replace h := bnd_some h
    obtain ⟨⟨v1, σ1⟩, h1, h⟩ := h
    injection h with h; injection h with h2 h3; subst h2; subst h3
    obtain ⟨g1, g2⟩ := hE.stubs f s hst
    exact ⟨g1 _ _, g2 φ σ w args args' _ _ hr hl h1⟩
  · replace h := bnd_some h
    obtain ⟨fn, hfn, h⟩ := h
    replace h := bnd_some h
    obtain ⟨c, hc, h⟩ := h
    replace h := bnd_some h
    obtain ⟨_, hg, h⟩ := h
    replace h := bnd_some h
    obtain ⟨r, h1, h⟩ := h
    obtain ⟨g1, g2⟩ := hE.funcs f fn (ofOpt_some hfn)
    have hlen := Nat.le_of_ble_eq_true (guardM_some hg)
    refine ⟨g2 _ _, fun cs => ?_⟩
    have hA : AR φ { nt := fn.ntmps, tmps := Tr.from_ .nil 0 args, defers := [] } (args'.toArray ++ Array.replicate (fn.ntmps - args'.toArray.size) undef) [] := ⟨tr_args hl hlen, .nil⟩
    rw [enter_fr g1 (ofOpt_some hc)]

    have fin : ∀ e a1 σ1, r = .act e a1 σ1 → (e = .normal ∨ e = .ret) → (bnd (aUnwind σ1 a1.defers) fun σ2 => bnd (aResults E fn a1 σ2) fun v => some (Res.val v σ2)) = some (.val v σ') →
        ∃ e w' F, (∃ φ' v', e = Ending.returned v' ∧ VR φ' v v' ∧ Post P φ σ w φ' σ' w') ∧ Comes P (lone (fr f none (args'.toArray ++ Array.replicate (fn.ntmps - args'.toArray.size) undef) [] [.code c]) cs w) (lone F cs w') e ∧ F.fn = f ∧ F.leaving P w' e := by
      intro e a1 σ1 hre hee hh
      subst hre
      replace hh := bnd_some hh
      obtain ⟨σ2, hu, hh⟩ := hh
      replace hh := bnd_some hh
      obtain ⟨v1, hv, hh⟩ := hh
      injection hh with hh; injection hh with h2 h3; subst h2; subst h3
      obtain ⟨φ1, t1, ds1, w1, p1, p2, p3⟩ := den_ok hE hs hD c f none _ _ _ _ _ h1 φ w _ [] none [] cs hr hA .none
      obtain ⟨w2, q1, q2⟩ := unwind_ok (P := P) (fn := f) (ro := none) (t := t1) (cs := cs) _ ds1 φ1 σ1 _ w1 hu p1.rel p2.2
      obtain ⟨v', r1, r2⟩ := results_ok hE q1.rel p2 hv
      have st : ∃ todo, Steps P (lone (fr f none (args'.toArray ++ Array.replicate (fn.ntmps - args'.toArray.size) undef) [] [.code c]) cs w) (lone { fr f none t1 ds1 todo with mode := .returning } cs w1) := by
        rcases hee with rfl | rfl
        · exact ⟨[], Steps.trans p3 (.one (step_lone_go (by simp [stepG, stepG.exec, fr])))⟩
        · obtain ⟨k', p3⟩ := p3
          exact ⟨.code .ret :: k', Steps.trans p3 (.one (step_lone_go (by simp [stepG, stepG.exec, fr])))⟩
      obtain ⟨todo, st⟩ := st
      refine ⟨.returned v', w2, { fr f none t1 [] todo with mode := .returning }, ⟨φ1, v', rfl, r1, p1.trans q1⟩, Steps.trans st (q2 todo), rfl, rfl, rfl, rfl, fn, g1, r2⟩
    unfold endCall at h
    split at h
    · exact fin _ _ _ rfl (.inl rfl) h
    · exact fin _ _ _ rfl (.inr rfl) h
    · exact (fail_some h).elim
theorem loop_step {fn : FuncId} {ar : Option Nat} {c : Code} {a a' : AAct} {σ σ' : AW} {e : AExit} (h : step E rec (.loop fn ar c a) σ = some (.act e a' σ')) {φ : Phi} {w : World} {t : Array Value} {ds : List Deferred} {ro : Option Nat} {k : List Item} {cs : List Frame}
    (hr : Rel P φ σ w) (hA : AR φ a t ds) (hro : Around φ ar ro) :
    ∃ φ' t' ds' w', Post P φ σ w φ' σ' w' ∧ AR φ' a' t' ds' ∧ Arr P e fn ro k cs (lone (fr fn ro t ds (.code c :: .inLoop c :: k)) cs w) t' ds' w' := by
  replace h : andThen (runFC (den E c) rec fn ar a σ) (fun a σ => rec (.loop fn ar c a) σ) = some (.act e a' σ') := h
  rcases andThen_some h with ⟨a1, σ1, h1, h2⟩ | ⟨h1, h2⟩
  · obtain ⟨φ1, t1, ds1, w1, p1, p2, p3⟩ := den_ok hE hs hD c _ _ _ _ _ _ _ h1 φ w t ds ro (.inLoop c :: k) cs hr hA hro
    obtain ⟨φ2, t2, ds2, w2, q1, q2, q3⟩ := hs.loop _ _ _ _ _ _ _ _ h2 φ1 w1 t1 ds1 ro k cs p1.rel p2 (hro.ext p1.ext)
    exact ⟨φ2, t2, ds2, w2, p1.trans q1, q2, .of_steps (Steps.trans p3 (.one step_inLoop')) q3⟩
  · obtain ⟨φ1, t1, ds1, w1, p1, p2, p3⟩ := den_ok hE hs hD c _ _ _ _ _ _ _ h1 φ w t ds ro (.inLoop c :: k) cs hr hA hro
    exact ⟨φ1, t1, ds1, w1, p1, p2, Arr.weaken (k1 := .inLoop c :: k) (fun b hb => hb ▸ h2) (fun _ _ => rfl) p3⟩
theorem round_step {l : Nat} {args : List Value} {σ σ' : AW} {v : Value} (h : step E rec (.round l args) σ = some (.val v σ')) {φ : Phi} {w : World} {args' : List Value} {q : PB} (hr : Rel P φ σ w) (hl : LR φ args args') (hq : φ l = some q) :
    ∃ f t as b, (Instr.yield q.blk args'.toArray).run P w = .ok (.round q.blk f t as b) w ∧
      ∀ c cs, ∃ φ' v' w', Post P φ σ w φ' σ' w' ∧ VR φ' v v' ∧ Steps P (lone (Frame.round q.blk f t as b .normal) (c :: cs) w) (lone (c.finish v') cs w') := by
  replace h : sRound E rec l args σ = some (.val v σ') := h
  unfold sRound at h
  split at h
  · rename_i pend fn nt tm params assign body defers ho
    obtain ⟨t, qd, g1, g2, g3⟩ := hr.obj _ _ _ hq ho
    replace h := bnd_some h
    obtain ⟨_, hg, h⟩ := h
    replace h := bnd_some h
    obtain ⟨r, h1, h⟩ := h
    have hg' := guardM_some hg
    rw [Bool.and_eq_true] at hg'
    have hlen := Nat.eq_of_beq_eq_true hg'.1
    have hT := foldl_params params args args' nt tm t g2 hg'.2 hl hlen
    have hsz : args'.length = params.length := by rw [← hl.1, hlen]
    refine ⟨fn, (params.zip args').foldl (fun t (p, a) => t.setIfInBounds p a) t, assign, body, ?_, fun c cs => ?_⟩
    · have hz : (params.toArray.zip args'.toArray).foldl (fun (t : Array Value) (p : Tmp × Value) => t.setIfInBounds p.1 p.2) t = (params.zip args').foldl (fun (t : Array Value) (p : Tmp × Value) => t.setIfInBounds p.1 p.2) t := by
        rw [← Array.foldl_toList]; simp
      simp [Instr.yield, Instr.getLoop, run_getObj_loop g3, hsz]
    · have hF : Frame.round q.blk fn ((params.zip args').foldl (fun t (p, a) => t.setIfInBounds p a) t) assign body .normal = fr fn (some q.blk) ((params.zip args').foldl (fun t (p, a) => t.setIfInBounds p a) t) [] [.code assign, .beginRound, .code body] := rfl
      rw [hF]
      unfold midRound at h
      split at h
      · rename_i a1 σ1
        obtain ⟨φ1, t1, ds1, w1, p1, p2, p3⟩ := den_ok hE hs hD assign fn (some l) _ _ _ _ _ h1 φ w _ [] (some q.blk) [.beginRound, .code body] (c :: cs) hr ⟨hT, .nil⟩ (.some hq)
        have hq1 := p1.ext _ _ hq
        split at h
        · rename_i pd fn1 nt1 tm1 pa1 as1 bo1 de1 ho1
          obtain ⟨tq, q1, k1, k2, k3⟩ := p1.rel.obj _ _ _ hq1 ho1
          have hlt1 := (p1.rel.lt _ _ hq1).2
          replace h := bnd_some h
          obtain ⟨r2, h2, h⟩ := h
          let L1 : Loop := { state := .ready, pending := pd, fn := fn1, tmps := tq, params := pa1.toArray, assign := as1, body := bo1, defers := q1.blk }
          let w2 : World := { w1 with heap := w1.heap.setIfInBounds q.blk (.loop { L1 with state := .busy }) }
          have k3' : w1.heap[q.blk]? = some (.loop L1) := k3
          have p4 := p1.rel.turn (w' := w2) hq1 (by rw [ho1]; simp) (set_turned _) (o := .loop .busy pd fn1 nt1 tm1 pa1 as1 bo1 de1) ⟨tq, q1, k1, k2, Array.getElem?_setIfInBounds_self_of_lt hlt1⟩
          have hbegin : (Instr.beginRound q.blk).run P w1 = .ok () w2 := by
            simp [Instr.beginRound, Instr.getLoop, run_getObj_loop k3', run_setObj_loop _ k3', L1, w2, World.putObj]
          have st1 : Go.step P (lone (fr fn (some q.blk) t1 ds1 [.beginRound, .code body]) (c :: cs) w1) = Stepped.next (lone (fr fn (some q.blk) t1 ds1 [.code body]) (c :: cs) w2) :=
            step_lone_go (by simp [stepG, stepG.exec, stepG.apply, fr, hbegin, Frame.finish])
          cases r2 with
          | val v2 σ2 => exact (fail_some (s := "round") h).elim
          | act e a2 σ2 =>
            obtain ⟨φ3, t3, ds3, w3, p5, p6, p7⟩ := den_ok hE hs hD body fn (some l) _ _ _ _ _ h2 φ1 w2 t1 ds1 (some q.blk) [] (c :: cs) p4.rel p2 (.some hq1)
            have hq3 := p5.ext _ _ hq1
            unfold endRound at h
            simp only at h
            split at h
            · rename_i st4 pd4 fn4 nt4 tm4 pa4 as4 bo4 de4 hd0 ho4
              obtain ⟨tq4, q4, m1, m2, m3⟩ := p5.rel.obj _ _ _ hq3 ho4
              have hlt4 := (p5.rel.lt _ _ hq3).2
              let L4 : Loop := { state := st4, pending := pd4, fn := fn4, tmps := tq4, params := pa4.toArray, assign := as4, body := bo4, defers := q4.blk }
              have m3' : w3.heap[q.blk]? = some (.loop L4) := m3
              have pall := (p1.trans p4).trans p5
              have fin : ∀ (st5 : LoopState) (pd5 : Option Code) (b : Bool), (Instr.endRound q.blk pd5).run P w3 = .ok (.bool b) { w3 with heap := w3.heap.setIfInBounds q.blk (.loop { L4 with state := st5, pending := pd5 }) } →
                  (∀ todo, (todo = [] ∧ pd5 = none) ∨ (∃ k', todo = .code .ret :: k' ∧ pd5 = some .ret) ∨ (∃ id k', todo = .code (.exit id) :: k' ∧ exitTo id k' = none ∧ pd5 = some (.exit id)) →
                    Go.step P (lone (fr fn (some q.blk) t3 ds3 todo) (c :: cs) w3) = Stepped.next (lone (c.finish (.bool b)) cs { w3 with heap := w3.heap.setIfInBounds q.blk (.loop { L4 with state := st5, pending := pd5 }) })) ∧
                  Post P φ σ w φ3 (σ2.put l (some (.loop st5 pd5 fn4 nt4 tm4 pa4 as4 bo4 de4))) { w3 with heap := w3.heap.setIfInBounds q.blk (.loop { L4 with state := st5, pending := pd5 }) } := by
                intro st5 pd5 b hrun
                refine ⟨fun todo htodo => ?_, pall.trans (p5.rel.turn hq3 (by rw [ho4]; simp) (set_turned _) ⟨tq4, q4, m1, m2, Array.getElem?_setIfInBounds_self_of_lt hlt4⟩)⟩
                rcases htodo with ⟨rfl, rfl⟩ | ⟨k', rfl, rfl⟩ | ⟨id, k', rfl, hk, rfl⟩
                · exact step_lone_go (by simp [stepG, stepG.exec, fr, hrun, doReturn])
                · exact step_lone_go (by simp [stepG, stepG.exec, fr, hrun, doReturn])
                · exact step_lone_go (by simp [stepG, stepG.exec, fr, hrun, doReturn, hk])
              have hend : ∀ pd5 : Option Code, (Instr.endRound q.blk pd5).run P w3 = .ok (.bool pd5.isNone) { w3 with heap := w3.heap.setIfInBounds q.blk (.loop { L4 with state := if pd5.isNone then .ready else .done, pending := pd5 }) } := by
                intro pd5
                simp [Instr.endRound, Instr.getLoop, run_getObj_loop m3', run_setObj_loop _ m3', World.putObj]
              have front : Steps P (lone (fr fn (some q.blk) ((params.zip args').foldl (fun t (p, a) => t.setIfInBounds p a) t) [] [.code assign, .beginRound, .code body]) (c :: cs) w) (lone (fr fn (some q.blk) t1 ds1 [.code body]) (c :: cs) w2) := Steps.trans p3 (.one st1)
              cases e with
              | normal =>
                injection h with h; injection h with h3 h4; subst h3; subst h4
                obtain ⟨s1, s2⟩ := fin .ready none true (hend none)
                exact ⟨φ3, _, _, s2, .bool _, front.trans (Steps.trans p7 (.one (s1 [] (.inl ⟨rfl, rfl⟩))))⟩
              | ret =>
                injection h with h; injection h with h3 h4; subst h3; subst h4
                obtain ⟨k', p7⟩ := p7
                obtain ⟨s1, s2⟩ := fin .done (some .ret) false (hend _)
                exact ⟨φ3, _, _, s2, .bool _, front.trans (Steps.trans p7 (.one (s1 _ (.inr (.inl ⟨k', rfl, rfl⟩)))))⟩
              | exit id =>
                injection h with h; injection h with h3 h4; subst h3; subst h4
                obtain ⟨k', hk, p7⟩ := p7
                obtain ⟨s1, s2⟩ := fin .done (some (.exit id)) false (hend _)
                exact ⟨φ3, _, _, s2, .bool _, front.trans (Steps.trans p7 (.one (s1 _ (.inr (.inr ⟨id, k', rfl, hk, rfl⟩)))))⟩
            · exact (fail_some h).elim
        · exact (fail_some h).elim
      · exact (fail_some h).elim
  · exact (fail_some h).elim
theorem step_sound : Sound P E (step E rec) := {
  call := fun f args σ v σ' h φ w args' hr hl => call_step hE hs hD h hr hl
  round := fun l args σ v σ' h φ w args' q hr hl hq => round_step hE hs hD h hr hl hq
  loop := fun fn ar c a σ e a' σ' h φ w t ds ro k cs hr hA hro => loop_step hE hs hD h hr hA hro }
end
theorem run_sound {P : Program} {E : Env} (hE : Env.Ok P E) (hD : ∀ rec, Sound P E rec → DrawnOk P E rec) : ∀ n, Sound P E (run E n)
  | 0 => ⟨fun _ _ _ _ _ h => (fail_some (s := "fuel") h).elim, fun _ _ _ _ _ h => (fail_some (s := "fuel") h).elim, fun _ _ _ _ _ _ _ _ h => (fail_some (s := "fuel") h).elim⟩
  | n + 1 => by
    have ih := run_sound hE hD n
    rw [run_succ]
    exact step_sound hE ih (hD _ ih)
end Go.Proofs.Qas
noncomputable section
namespace Go.Proofs.Qas

theorem isBound_eq (e : Edge) : isBound e = Region.binds .any e := by
  unfold isBound Region.binds
  cases e.ground <;> rfl
theorem edgeMask_bit (acc : List Nat) (i : Nat) : ∀ es : List Edge, (edgeMask acc es).testBit i = true → ∃ e ∈ es, Region.binds .any e = true ∧ (e.on = i ∨ ∃ m, acc[e.on]? = some m ∧ m.testBit i = true)
  | [], h => by simp [edgeMask] at h
  | e :: r, h => by
    unfold edgeMask at h
    split at h
    · rename_i hb
      rw [isBound_eq] at hb
      have h' : ((1 <<< e.on ||| (nth acc e.on).getD 0) ||| edgeMask acc r).testBit i = true := h
      rw [Nat.testBit_or, Nat.testBit_or, Bool.or_eq_true, Bool.or_eq_true] at h'
      rcases h' with (h' | h') | h'
      · refine ⟨e, by simp, hb, .inl ?_⟩
        rw [Nat.one_shiftLeft, Nat.testBit_two_pow] at h'
        simpa using h'
      · rw [nth_eq] at h'
        cases hm : acc[e.on]? with
        | none => rw [hm] at h'; simp at h'
        | some m => rw [hm] at h'; exact ⟨e, by simp, hb, .inr ⟨m, hm, h'⟩⟩
      · obtain ⟨e', h1, h2⟩ := edgeMask_bit acc i r h'
        exact ⟨e', by simp [h1], h2⟩
    · obtain ⟨e', h1, h2⟩ := edgeMask_bit acc i r h
      exact ⟨e', by simp [h1], h2⟩
theorem masks_get : ∀ (l : List Oper) (acc : List Nat) (j : Nat) (m : Nat), (masks l acc)[j]? = some m →
    (j < acc.length ∧ acc[j]? = some m) ∨ ∃ o, l[j - acc.length]? = some o ∧ acc.length ≤ j ∧ m = edgeMask ((masks l acc).take j) o.after.toList
  | [], acc, j, m, h => by
    have : j < acc.length := (List.getElem?_eq_some_iff.1 h).1
    exact .inl ⟨this, h⟩
  | o :: l, acc, j, m, h => by
    have ih := masks_get l (acc ++ [edgeMask acc o.after.toList]) j m h
    have hpre : ∀ (l : List Oper) (acc : List Nat), acc <+: masks l acc := by
      intro l
      induction l with
      | nil => intro acc; exact List.prefix_refl _
      | cons o l ih => intro acc; exact (List.prefix_append acc _).trans (ih _)
    rcases ih with ⟨h1, h2⟩ | ⟨o', h1, h2, h3⟩
    · simp only [List.length_append, List.length_cons, List.length_nil] at h1
      rcases Nat.lt_or_ge j acc.length with hj | hj
      · rw [List.getElem?_append_left hj] at h2; exact .inl ⟨hj, h2⟩
      · have hj' : j = acc.length := by omega
        subst hj'
        rw [List.getElem?_append_right (Nat.le_refl _)] at h2
        simp at h2
        refine .inr ⟨o, by simp, Nat.le_refl _, ?_⟩
        have : (masks (o :: l) acc).take acc.length = acc := by
          obtain ⟨t, ht⟩ := hpre (o :: l) acc
          rw [← ht]; simp
        rw [this]; exact h2.symm
    · simp only [List.length_append, List.length_cons, List.length_nil] at h1 h2
      refine .inr ⟨o', ?_, by omega, h3⟩
      rw [show j - acc.length = (j - (acc.length + 1)) + 1 from by omega]
      simpa using h1

def Down (ops : Array Oper) (D : Nat → Prop) : Prop := ∀ j o, D j → ops[j]? = some o → ∀ e ∈ o.after, Region.binds .any e = true → D e.on
def ahead (ops : Array Oper) (i j : Nat) : Bool := match nth (masks ops.toList []) j with | some m => Nat.testBit m i | none => false
theorem ahead_down {ops : Array Oper} {D : Nat → Prop} (hD : Down ops D) : ∀ (j i : Nat), ahead ops i j = true → D j → D i := by
  intro j
  induction j using Nat.strongRecOn with
  | _ j ih =>
    intro i h hj
    unfold ahead at h
    rw [nth_eq] at h
    cases hm : (masks ops.toList [])[j]? with
    | none => rw [hm] at h; simp at h
    | some m =>
      rw [hm] at h
      simp only at h
      rcases masks_get _ _ _ _ hm with ⟨h1, _⟩ | ⟨o, h1, _, h3⟩
      · simp at h1
      · simp at h1
        rw [h3] at h
        obtain ⟨e, e1, e2, e3⟩ := edgeMask_bit _ _ _ h
        have he : D e.on := hD j o hj h1 e (by simpa using e1) e2
        rcases e3 with e3 | ⟨m', e3, e4⟩
        · rw [← e3]; exact he
        · rw [List.getElem?_take] at e3
          split at e3
          · rename_i hlt
            refine ih e.on hlt i ?_ he
            unfold ahead
            rw [nth_eq, e3]; exact e4
          · cases e3

def Listed (listed : Array Bool) (i : Nat) : Prop := listed[i]? = some true
theorem go_step {ops : Array Oper} {fuel s : Nat} {listed : Array Bool} (hn : Region.ready .any ops listed ≠ []) :
    ∃ i s', i ∈ Region.ready .any ops listed ∧ Region.linearise.go .any ops (fuel + 1) s listed [] = i :: Region.linearise.go .any ops fuel s' (listed.setIfInBounds i true) [] := by
  have hlen : 0 < (Region.ready .any ops listed).length := List.length_pos_iff.2 hn
  have hlt : s % (Region.ready .any ops listed).length < (Region.ready .any ops listed).length := Nat.mod_lt _ hlen
  refine ⟨(Region.ready .any ops listed)[s % (Region.ready .any ops listed).length], s / (Region.ready .any ops listed).length, List.getElem_mem _, ?_⟩
  have hget : (Region.ready .any ops listed)[s % (Region.ready .any ops listed).length]? = some (Region.ready .any ops listed)[s % (Region.ready .any ops listed).length] := List.getElem?_eq_getElem hlt
  simp only [Region.linearise.go]
  change (match (Region.ready .any ops listed)[s % (Region.ready .any ops listed).length]? with
      | some i => Region.linearise.go .any ops fuel (s / (Region.ready .any ops listed).length) (listed.setIfInBounds i true) [i]
      | none => [].reverse) = _
  rw [hget]
  simp only []
  rw [linearise_go_acc]
  rfl
end Go.Proofs.Qas
noncomputable section
namespace Go.Proofs.Qas

theorem mapM'_congr {α β : Type} {f g : α → M β} : ∀ (l : List α), (∀ x ∈ l, f x = g x) → mapM' f l = mapM' g l
  | [], _ => rfl
  | x :: l, h => by
    rw [mapM'_cons, mapM'_cons, h x (by simp), mapM'_congr l (fun y hy => h y (by simp [hy]))]
theorem aParts_congr {ρ ρ' : Ev} : ∀ (ps : List (Nat × Operand)), (∀ x ∈ sndL ps, ρ x = ρ' x) → aParts ρ ps = aParts ρ' ps
  | [], _ => rfl
  | (i, x) :: ps, h => by
    have ih := aParts_congr ps (fun y hy => h y (by simp [sndL, hy]))
    unfold aParts at ih ⊢
    rw [mapM'_cons, mapM'_cons, ih]
    simp only [h x (by simp [sndL])]
theorem optM_congr {ρ ρ' : Ev} (o : Option Operand) (h : ∀ x ∈ optL o, ρ x = ρ' x) : optM ρ o = optM ρ' o := by
  cases o with
  | none => rfl
  | some x => simp only [optM, h x (by simp [optL])]
theorem aOper_congr {E : Env} {rec : Rec} {ρ ρ' : Ev} {o : Op} {σ : AW} (h : ∀ x ∈ opnds o, ρ x = ρ' x) : aOper E rec ρ o σ = aOper E rec ρ' o σ := by
  unfold aOper
  split
  · rename_i f args hc
    unfold callOf at hc
    split at hc
    · rename_i c
      split at hc
      · rename_i g hg
        injection hc with hc; injection hc with h1 h2; subst h1; subst h2
        simp only [opnds, hg, List.mem_cons] at h
        unfold aCall
        rw [h _ (.inl rfl), mapM'_congr c.args.toList (fun x hx => h x (.inr hx))]
      · cases hc
    · cases hc
  · rename_i hnone
    clear hnone
    unfold aExec opF
    cases o <;> simp only [opnds, List.mem_cons, List.not_mem_nil, or_false, forall_eq_or_imp, forall_eq, List.mem_append] at h <;> simp only [runFX]
    case move => simp only [xMove, h]
    case assign => simp only [xMove, h]
    case pick => simp only [xPick, h.1, h.2.1, h.2.2]
    case box => simp only [xBox, h]
    case build => simp only [xBuild, aParts_congr _ h]
    case buildSlice => simp only [xBuildSlice, aParts_congr _ h]
    case load => simp only [xLoad, h]
    case store => simp only [xStore, h.1, h.2]
    case nilCheck => simp only [xNilCheck, h]
    case binOp => simp only [xBin, h.1, h.2]
    case unOp => simp only [xUn, h]
    case convert => simp only [xConvert, h]
    case makeFunc f first cap =>
      unfold xMakeFunc
      cases f <;> first
        | rfl
        | simp only [mapM'_congr first.toList (fun x hx => h x (.inl hx)), mapM'_congr cap.toList (fun x hx => h x (.inr hx))]
    case makeSlice => simp only [xMakeSlice, h.1, h.2]
    case slice t x lo hi mx => simp only [xSlice, h.1, optM_congr lo (fun x hx => h.2 x (.inl hx)), optM_congr hi (fun x hx => h.2 x (.inr (.inl hx))), optM_congr mx (fun x hx => h.2 x (.inr (.inr hx)))]
    case fieldAddr => simp only [xFieldAddr, h]
    case field => simp only [xField, h]
    case indexAddr => simp only [xIndexAddr, h.1, h.2]
    case index => simp only [xIndex, h.1, h.2]
    case lookup => simp only [xLookup, h.1, h.2]
    case mapUpdate => simp only [xMapUpdate, h.1, h.2.1, h.2.2]
    case insert => simp only [xMapUpdate, h.1, h.2.1, h.2.2]
    case range => simp only [xRange, h]
    case next => simp only [xNext, h]
    case entry => simp only [xEntry, h]
    case extract => simp only [xExtract, h]
    case call c =>
      cases hc : c.callee with
      | builtin b =>
        simp only [hc] at h
        simp only [xBuiltin, mapM'_congr c.args.toList h]
      | value f => rfl
      | invoke r m => rfl
end Go.Proofs.Qas
noncomputable section
namespace Go.Proofs.Qas

theorem aExec_call {E : Env} {ρ : Ev} {c : Call} {b : Builtin} (hb : c.callee = .builtin b) (σ : AW) : aExec E ρ (.call c) σ = xBuiltin E ρ b c σ := by
  unfold aExec opF
  simp only [hb, runFX]
theorem aOper_exec {E : Env} {rec : Rec} {ρ : Ev} {o : Op} (h : callOf o = none) (σ : AW) : aOper E rec ρ o σ = aExec E ρ o σ := by
  unfold aOper; rw [h]
theorem aOper_bi {E : Env} {rec : Rec} {ρ : Ev} {c : Call} {b : Builtin} (hb : c.callee = .builtin b) (σ : AW) : aOper E rec ρ (.call c) σ = xBuiltin E ρ b c σ := by
  rw [aOper_exec (by simp [callOf, hb]), aExec_call hb]
theorem pure_any {E : Env} {rec : Rec} {ρ : Ev} (hρ : ∀ f, ρ (.func f) = some (.func (.func f) #[] #[])) {o : Op} (hp : pureO E o = true) {σ σ' : AW} {v : Value} (h : aOper E rec ρ o σ = some (v, σ')) : σ' = σ ∧ ∀ σ2, aOper E rec ρ o σ2 = some (v, σ2) := by
  have key : ∀ (g : M Value), (∀ σ, aOper E rec ρ o σ = bnd g fun v => some (v, σ)) → σ' = σ ∧ ∀ σ2, aOper E rec ρ o σ2 = some (v, σ2) := by
    intro g hg
    rw [hg] at h
    obtain ⟨u, h1, h2⟩ := bnd_some h
    injection h2 with h2; injection h2 with h2 h3; subst h2
    exact ⟨h3.symm, fun σ2 => by rw [hg, h1]; rfl⟩
  have bb : ∀ {α : Type} (x : M α) (f : α → M Value) (σ : AW), (bnd x fun a => bnd (f a) fun v => some (v, σ)) = bnd (bnd x f) fun v => some (v, σ) := by
    intro α x f σ; cases x <;> rfl
  cases o <;> try (simp [pureO] at hp; done)
  case move x => exact key (ρ x) (fun σ => rfl)
  case assign x => exact key (ρ x) (fun σ => rfl)
  case pick c a b =>
    replace h : xPick ρ c a b σ = some (v, σ') := h
    replace h := bnd_some h
    obtain ⟨t, ht, h⟩ := h
    split at h
    · replace h := bnd_some h
      obtain ⟨u, hu, h⟩ := h
      injection h with h; injection h with h1 h2; subst h1
      exact ⟨h2.symm, fun σ2 => by show xPick ρ c a b σ2 = _; simp [xPick, ht, hu, bnd]⟩
    · replace h := bnd_some h
      obtain ⟨u, hu, h⟩ := h
      injection h with h; injection h with h1 h2; subst h1
      exact ⟨h2.symm, fun σ2 => by show xPick ρ c a b σ2 = _; simp [xPick, ht, hu, bnd]⟩
    · exact (fail_some h).elim
  case build t ps => exact key _ (fun σ => bb (aParts ρ ps.toList) (fun l => aBuild E t l) σ)
  case nilCheck x => exact key _ (fun σ => bb (ρ x) aNilCheck σ)
  case binOp op t x y _ =>
    refine key (bnd (ρ x) fun a => bnd (ρ y) fun b => runF2 (binF E (isLit x || isLit y) op t) a b) (fun σ => ?_)
    show xBin E ρ op t x y σ = _
    unfold xBin
    rw [← bb]
    congr 1
    funext a
    exact bb _ _ _
  case unOp op t x => exact key _ (fun σ => bb (ρ x) (fun a => aUn op a) σ)
  case makeFunc f first cap =>
    replace h : xMakeFunc ρ f first cap σ = some (v, σ') := h
    unfold xMakeFunc at h
    split at h
    · rename_i g
      replace h := bnd_some h
      obtain ⟨u, hu, h⟩ := h
      replace h := bnd_some h
      obtain ⟨u2, hu2, h⟩ := h
      injection h with h; injection h with h1 h2; subst h1
      exact ⟨h2.symm, fun σ2 => by show xMakeFunc ρ (.func g) first cap σ2 = _; simp [xMakeFunc, hu, hu2, bnd]⟩
    · exact (fail_some h).elim
  case fieldAddr s x f => exact key _ (fun σ => bb (ρ x) (fun v => aFieldAddr E s v f) σ)
  case field s x f => exact key _ (fun σ => bb (ρ x) (fun v => aField E s v f) σ)
  case indexAddr t x i =>
    refine key (bnd (ρ x) fun a => bnd (ρ i) fun b => aIndexAddr E t a b) (fun σ => ?_)
    show xIndexAddr E ρ t x i σ = _
    unfold xIndexAddr
    rw [← bb]
    congr 1
    funext a
    exact bb _ _ _
  case index t x i =>
    refine key (bnd (ρ x) fun a => bnd (ρ i) fun b => aIndex E t a b) (fun σ => ?_)
    show xIndex E ρ t x i σ = _
    unfold xIndex
    rw [← bb]
    congr 1
    funext a
    exact bb _ _ _
  case extract x i =>
    replace h : xExtract ρ x i σ = some (v, σ') := h
    replace h := bnd_some h
    obtain ⟨t, ht, h⟩ := h
    split at h
    · replace h := bnd_some h
      obtain ⟨u, hu, h⟩ := h
      injection h with h; injection h with h1 h2; subst h1
      exact ⟨h2.symm, fun σ2 => by show xExtract ρ x i σ2 = _; simp only [xExtract, ht, bnd, hu]⟩
    · exact (fail_some h).elim
  case call c =>
    cases hc : c.callee with
    | value f =>
      simp only [pureO, hc] at hp
      unfold isPure at hp
      split at hp
      · rename_i fid
        split at hp
        · rename_i g hg
          have hx : ∀ σ, aOper E rec ρ (.call c) σ = bnd (mapM' ρ c.args.toList) fun args => bnd (g args) fun v => some (v, σ) := by
            intro σ
            unfold aOper
            simp only [callOf, hc]
            unfold aCall
            rw [hρ fid]
            show (bnd (mapM' ρ c.args.toList) fun args => aCallee E rec (.func (.func fid) #[] #[]) args σ) = _
            congr 1
            funext args
            show callFn E rec fid (([] : List Value) ++ args ++ ([] : List Value)) σ = _
            rw [List.nil_append, List.append_nil]
            unfold callFn
            rw [hg]
          exact key _ (fun σ => by rw [hx]; exact bb _ _ _)
        · cases hp
      · cases hp
    | invoke r m => simp [pureO, hc] at hp
    | builtin b =>
      have hx := fun σ => aOper_bi (E := E) (rec := rec) (ρ := ρ) hc σ
      rw [hx] at h
      replace h := bnd_some h
      obtain ⟨args, ha, h⟩ := h
      suffices hs : σ' = σ ∧ ∀ σ2, aBuiltin E σ2 b c.argTypes.toList args = some (v, σ2) by
        refine ⟨hs.1, fun σ2 => ?_⟩
        rw [hx]
        show bnd (mapM' ρ c.args.toList) _ = _
        rw [ha]; exact hs.2 σ2
      simp only [pureO, hc] at hp
      unfold aBuiltin at h
      split at h <;> try (simp at hp; done)
      · replace h := bnd_some h
        obtain ⟨t, ht, h⟩ := h
        replace h := bnd_some h
        obtain ⟨u, hu, h⟩ := h
        injection h with h; injection h with h1 h2; subst h1
        exact ⟨h2.symm, fun σ2 => by simp only [aBuiltin, ht, hu, bnd]⟩
      · replace h := bnd_some h
        obtain ⟨u, hu, h⟩ := h
        injection h with h; injection h with h1 h2; subst h1
        exact ⟨h2.symm, fun σ2 => by simp only [aBuiltin, hu, bnd]⟩
      · replace h := bnd_some h
        obtain ⟨u, hu, h⟩ := h
        injection h with h; injection h with h1 h2; subst h1
        exact ⟨h2.symm, fun σ2 => by simp only [aBuiltin, hu, bnd]⟩
      · injection h with h; injection h with h1 h2; subst h1
        exact ⟨h2.symm, fun σ2 => rfl⟩
      · injection h with h; injection h with h1 h2; subst h1
        exact ⟨h2.symm, fun σ2 => rfl⟩
      · exact (fail_some h).elim

theorem quiet_same {E : Env} {rec : Rec} {ρ : Ev} (hρ : ∀ f, ρ (.func f) = some (.func (.func f) #[] #[])) {o : Op} (hq : quietO E o = true) {σ σ' : AW} {v : Value} (h : aOper E rec ρ o σ = some (v, σ')) : σ' = σ := by
  have pu : pureO E o = true → σ' = σ := fun hp => (pure_any hρ hp h).1
  cases o <;> first
    | (exact pu hq)
    | skip
  case load t a =>
    replace h : xLoad E ρ t a σ = some (v, σ') := h
    replace h := bnd_some h
    obtain ⟨x, hx, h⟩ := h
    replace h := bnd_some h
    obtain ⟨u, hu, h⟩ := h
    injection h with h; injection h with h1 h2; exact h2.symm
  case lookup t x k ok =>
    replace h : xLookup E ρ t x k ok σ = some (v, σ') := h
    replace h := bnd_some h
    obtain ⟨_, _, h⟩ := h
    replace h := bnd_some h
    obtain ⟨_, _, h⟩ := h
    replace h := bnd_some h
    obtain ⟨u, hu, h⟩ := h
    injection h with h; injection h with h1 h2; exact h2.symm
  case slice t x lo hi mx =>
    replace h : xSlice E ρ t x lo hi mx σ = some (v, σ') := h
    replace h := bnd_some h
    obtain ⟨_, _, h⟩ := h
    replace h := bnd_some h
    obtain ⟨_, _, h⟩ := h
    replace h := bnd_some h
    obtain ⟨_, _, h⟩ := h
    replace h := bnd_some h
    obtain ⟨_, _, h⟩ := h
    replace h := bnd_some h
    obtain ⟨_, _, h⟩ := h
    replace h := bnd_some h
    obtain ⟨u, hu, h⟩ := h
    injection h with h; injection h with h1 h2; exact h2.symm
  case entry it =>
    replace h : xEntry ρ it σ = some (v, σ') := h
    replace h := bnd_some h
    obtain ⟨x, hx, h⟩ := h
    unfold aEntry at h
    repeat' split at h
    all_goals first
      | (exact (fail_some h).elim)
      | (injection h with h; injection h with h1 h2; exact h2.symm)
  case convert s d x =>
    replace h : xConvert E ρ s d x σ = some (v, σ') := h
    replace h := bnd_some h
    obtain ⟨y, hy, h⟩ := h
    replace h := bnd_some h
    obtain ⟨sty, hs, h⟩ := h
    replace h := bnd_some h
    obtain ⟨dty, hd, h⟩ := h
    simp only [quietO, toSlice, hd] at hq
    split at h
    · injection h with h; injection h with h1 h2; exact h2.symm
    · injection h with h; injection h with h1 h2; exact h2.symm
    · rename_i e1 e2; rw [e2] at hq; simp at hq
    · replace h := bnd_some h
      obtain ⟨_, _, h⟩ := h
      split at h
      · injection h with h; injection h with h1 h2; exact h2.symm
      · exact (fail_some h).elim
    · replace h := bnd_some h
      obtain ⟨_, _, h⟩ := h
      split at h
      · replace h := bnd_some h
        obtain ⟨_, _, h⟩ := h
        replace h := bnd_some h
        obtain ⟨_, _, h⟩ := h
        replace h := bnd_some h
        obtain ⟨_, _, h⟩ := h
        injection h with h; injection h with h1 h2; exact h2.symm
      · replace h := bnd_some h
        obtain ⟨_, _, h⟩ := h
        replace h := bnd_some h
        obtain ⟨_, _, h⟩ := h
        replace h := bnd_some h
        obtain ⟨_, _, h⟩ := h
        injection h with h; injection h with h1 h2; exact h2.symm
      · exact (fail_some h).elim
    · exact (fail_some h).elim
  case call c =>
    cases hc : c.callee with
    | value f => exact pu (by simpa [quietO, hc] using hq)
    | invoke r m => simp [quietO, pureO, hc] at hq
    | builtin b =>
      by_cases hb : b = .len
      · subst hb
        rw [aOper_bi hc] at h
        replace h := bnd_some h
        obtain ⟨args, ha, h⟩ := h
        unfold aBuiltin at h
        split at h
        case h_1 =>
          replace h := bnd_some h
          obtain ⟨_, _, h⟩ := h
          replace h := bnd_some h
          obtain ⟨_, _, h⟩ := h
          injection h with h; injection h with h1 h2; exact h2.symm
        all_goals first
          | (exact (fail_some h).elim)
          | (rename_i h1; cases h1; done)
          | (rename_i h1 _; cases h1; done)
          | (rename_i h1 _ _; cases h1; done)
      · refine pu ?_
        cases b <;> first
          | (exact (hb rfl).elim)
          | (simpa [quietO, hc] using hq)
end Go.Proofs.Qas
