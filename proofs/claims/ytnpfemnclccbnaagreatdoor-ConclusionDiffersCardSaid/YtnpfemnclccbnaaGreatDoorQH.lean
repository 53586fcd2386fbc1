/- A part of the proof of the card of licitlaw37.ConclusionDiffers. -/
import Derived.Test.YtnpfemnclccbnaaGreatDoorQG
set_option linter.unusedSectionVars false
set_option linter.unusedSimpArgs false
set_option linter.unusedVariables false
noncomputable section
namespace Go.Proofs.Qas

def allOf (E : Env) (ops : Array Oper) : List St := stsOf E ops ops.toList (masks ops.toList [])
def slOf (E : Env) (ops : Array Oper) : List Slot := slotsOf ops (allOf E ops) 0 ops.toList (allOf E ops)
theorem allOf_len (E : Env) (ops : Array Oper) : (allOf E ops).length = ops.size := by
  rw [allOf, stsOf_len _ _ (by rw [masks_len]; simp)]; simp
theorem slOf_len (E : Env) (ops : Array Oper) : (slOf E ops).length = ops.size := by
  rw [slOf, slotsOf_len _ _ _ (by rw [allOf_len]; simp)]; simp
theorem plan_get {E : Env} {ops : Array Oper} {i : Nat} {o : Oper} (ho : ops[i]? = some o) : ∃ m, (∀ j, ahead ops j i = m.testBit j) ∧ (allOf E ops)[i]? = some (stOf E ops o m) ∧
    (slOf E ops)[i]? = some { guard := (ofOper ops o).guard, dst := o.dst, op := o.op, kd := kindOf E o, lo := actorsAhead m 0 (allOf E ops), hi := actorsFree i (allOf E ops) } := by
  have hi := (Array.getElem?_eq_some_iff.1 ho).1
  have hl : (masks ops.toList []).length = ops.toList.length := by rw [masks_len]; simp
  have ho' : ops.toList[i]? = some o := by simpa using ho
  have hil : i < (masks ops.toList []).length := by rw [hl]; simpa using hi
  have hm : (masks ops.toList [])[i]? = some (masks ops.toList [])[i] := List.getElem?_eq_getElem hil
  have h1 := stsOf_get (E := E) (ops := ops) ops.toList (masks ops.toList []) hl i o _ ho' hm
  refine ⟨_, fun j => ?_, h1, ?_⟩
  · unfold ahead
    rw [nth_eq, hm]
  · have := slotsOf_get (ops := ops) (all := allOf E ops) ops.toList (allOf E ops) 0 (by rw [allOf_len]; simp) i o _ ho' h1
    rw [Nat.zero_add] at this
    exact this
theorem all_get {E : Env} {ops : Array Oper} {i : Nat} {x : St} (h : (allOf E ops)[i]? = some x) : ∃ o m, ops[i]? = some o ∧ (∀ j, ahead ops j i = m.testBit j) ∧ x = stOf E ops o m := by
  have hi : i < ops.size := by rw [← allOf_len E ops]; exact (List.getElem?_eq_some_iff.1 h).1
  have ho := Array.getElem?_eq_getElem hi
  obtain ⟨m, h1, h2, _⟩ := plan_get (E := E) ho
  rw [h] at h2; injection h2 with h2
  exact ⟨_, m, ho, h1, h2⟩
theorem sl_get {E : Env} {ops : Array Oper} {i : Nat} {s : Slot} (h : (slOf E ops)[i]? = some s) : ∃ o m, ops[i]? = some o ∧ (∀ j, ahead ops j i = m.testBit j) ∧ (allOf E ops)[i]? = some (stOf E ops o m) ∧
    s = { guard := (ofOper ops o).guard, dst := o.dst, op := o.op, kd := kindOf E o, lo := actorsAhead m 0 (allOf E ops), hi := actorsFree i (allOf E ops) } := by
  have hi : i < ops.size := by rw [← slOf_len E ops]; exact (List.getElem?_eq_some_iff.1 h).1
  have ho := Array.getElem?_eq_getElem hi
  obtain ⟨m, h1, h2, h3⟩ := plan_get (E := E) ho
  rw [h] at h3; injection h3 with h3
  exact ⟨_, m, ho, h1, h2, h3⟩
theorem kds_eq (E : Env) (ops : Array Oper) : (slOf E ops).map (·.kd) = (allOf E ops).map (·.kd) := by
  apply List.ext_getElem?
  intro i
  rw [List.getElem?_map, List.getElem?_map]
  cases h : (slOf E ops)[i]? with
  | none =>
    have : (allOf E ops)[i]? = none := by
      rw [List.getElem?_eq_none_iff] at h ⊢
      rw [allOf_len]; rw [slOf_len] at h; exact h
    rw [this]; rfl
  | some s =>
    obtain ⟨o, m, _, _, h2, h3⟩ := sl_get h
    rw [h2, h3]; rfl

structure Ctx (E : Env) (rec : Rec) (ops : Array Oper) (n0 : Nat) (a : AAct) (σ1 : AW) (A : Nat → AAct) (S : Nat → AW) (V : Nat → Value) (N : Nat → Nat) : Prop where
  lt : allLtEdges 0 ops.toList = true
  T : DTrace E rec (slOf E ops) n0 a σ1 A S V N
  ask : ∀ i s, (slOf E ops)[i]? = some s → isQuietOpen s.kd = true → s.lo < s.hi → aWanted (A i) s.guard = some true → ∀ k τ, (S 0 :: statesOf (slOf E ops) 0 S)[k]? = some τ → s.lo ≤ k → k ≤ s.hi →
    ∃ τ', aOper E rec (A i).eval s.op τ = some (V i, τ')

structure Fits (E : Env) (ops : Array Oper) (D : Nat → Bool) (i : Nat) : Prop where
  before : ∀ j x y, j < i → (allOf E ops)[j]? = some x → (allOf E ops)[i]? = some y → clash x y = true → D j = true
  behind : ∀ j x y, i < j → (allOf E ops)[i]? = some x → (allOf E ops)[j]? = some y → clash x y = true → D j = false
def clashT (x y : St) : Bool := match meets x.sets (Nat.lor y.looks y.sets) with
  | true => true
  | false => meets x.looks y.sets
theorem clash_of_T {x y : St} (h : clashT x y = true) : clash x y = true := by
  unfold clashT at h
  unfold clash
  split at h
  · rename_i h1; rw [h1]
  · rename_i h1; rw [h1, h]

structure FitsT (E : Env) (ops : Array Oper) (D : Nat → Bool) (i : Nat) : Prop where
  before : ∀ j x y, j < i → (allOf E ops)[j]? = some x → (allOf E ops)[i]? = some y → clashT x y = true → D j = true
  behind : ∀ j x y, i < j → (allOf E ops)[i]? = some x → (allOf E ops)[j]? = some y → clashT x y = true → D j = false
theorem Fits.toT {E : Env} {ops : Array Oper} {D : Nat → Bool} {i : Nat} (h : Fits E ops D i) : FitsT E ops D i :=
  ⟨fun j x y h1 h2 h3 h4 => h.before j x y h1 h2 h3 (clash_of_T h4), fun j x y h1 h2 h3 h4 => h.behind j x y h1 h2 h3 (clash_of_T h4)⟩
def dstOf (ops : Array Oper) (j : Nat) : Option Tmp := (ops[j]?).bind (·.dst)
structure InvV (ops : Array Oper) (V : Nat → Value) (a : AAct) (D : Nat → Bool) (B : AAct) : Prop where
  nt : B.nt = a.nt
  defers : B.defers = a.defers
  get : ∀ x, B.tmps.get x = valD (dstOf ops) V a.tmps.get D ops.size x

theorem DStep.same {E : Env} {rec : Rec} {s : Slot} {n : Nat} {a a' : AAct} {σ σ' : AW} {v : Value} (h : DStep E rec s n a σ v a' σ') (ha : isActor s.kd = false) : σ' = σ := by
  cases h with
  | alloc => rfl
  | skip => rfl
  | quiet => rfl
  | actor hk => rw [hk] at ha; cases ha
section
variable {E : Env} {rec : Rec} {ops : Array Oper} {n0 : Nat} {a : AAct} {σ1 : AW} {A : Nat → AAct} {S : Nat → AW} {V : Nat → Value} {N : Nat → Nat} (C : Ctx E rec ops n0 a σ1 A S V N)
include C
theorem Ctx.put {i : Nat} (hi : i < ops.size) : (A i).put (dstOf ops i) (V i) = some (A (i + 1)) := by
  have hil : i < (slOf E ops).length := by rw [slOf_len]; exact hi
  have hs : (slOf E ops)[i]? = some (slOf E ops)[i] := List.getElem?_eq_getElem hil
  have h := (C.T.step i _ hs).1.put
  obtain ⟨o, m, h1, _, _, h3⟩ := sl_get hs
  rw [h3] at h
  have : dstOf ops i = o.dst := by unfold dstOf; rw [h1]; rfl
  rw [this]; exact h
theorem Ctx.acts (i : Nat) : i ≤ ops.size → (A i).nt = a.nt ∧ (A i).defers = a.defers ∧ ∀ x, (A i).tmps.get x = valD (dstOf ops) V a.tmps.get (fun _ => true) i x := by
  induction i with
  | zero => intro _; rw [C.T.a0]; exact ⟨rfl, rfl, fun _ => rfl⟩
  | succ i ih =>
    intro hi
    obtain ⟨h1, h2, h3⟩ := ih (by omega)
    obtain ⟨g1, g2, g3⟩ := put_get (C.put (i := i) (by omega))
    refine ⟨g1.trans h1, g2.trans h2, fun x => ?_⟩
    rw [g3, h3]
    simp only [valD, true_and]
theorem Ctx.agree {D : Nat → Bool} {i : Nat} {o : Oper} {m : Nat} (ho : ops[i]? = some o) (hall : (allOf E ops)[i]? = some (stOf E ops o m)) (hD : D i = false) (hf : FitsT E ops D i) {B : AAct} (hB : InvV ops V a D B) {x : Tmp}
    (hx : (stOf E ops o m).looks.testBit x = true) : B.tmps.get x = (A i).tmps.get x := by
  have hi := (Array.getElem?_eq_some_iff.1 ho).1
  rw [hB.get, (C.acts i (by omega)).2.2, valD_cut (i := i) (by omega)]
  · refine valD_congr (fun j hj hd => ?_)
    have hj' : j < (allOf E ops).length := by rw [allOf_len]; omega
    obtain ⟨o', m', e1, _, e3⟩ := all_get (List.getElem?_eq_getElem hj')
    refine hf.before j _ _ hj (List.getElem?_eq_getElem hj') hall ?_
    rw [e3]
    have hd' : o'.dst = some x := by unfold dstOf at hd; rw [e1] at hd; exact hd
    have hs : (stOf E ops o' m').sets.testBit x = true := by
      show (dstMask o'.dst).testBit x = true
      rw [hd']; exact dstMask_bit x
    unfold clashT
    rw [meets_of_bit hs (b := Nat.lor (stOf E ops o m).looks (stOf E ops o m).sets) (by
      show ((stOf E ops o m).looks ||| (stOf E ops o m).sets).testBit x = true
      rw [Nat.testBit_or, hx]; rfl)]
  · intro j h1 h2 hd
    by_cases e : j = i
    · subst e; exact hD
    · have hj' : j < (allOf E ops).length := by rw [allOf_len]; omega
      obtain ⟨o', m', e1, _, e3⟩ := all_get (List.getElem?_eq_getElem hj')
      refine hf.behind j _ _ (by omega) hall (List.getElem?_eq_getElem hj') ?_
      rw [e3]
      have hd' : o'.dst = some x := by unfold dstOf at hd; rw [e1] at hd; exact hd
      have hs : (stOf E ops o' m').sets.testBit x = true := by
        show (dstMask o'.dst).testBit x = true
        rw [hd']; exact dstMask_bit x
      unfold clashT
      rw [meets_of_bit hx hs]
      split <;> rfl
theorem Ctx.eval {D : Nat → Bool} {i : Nat} {o : Oper} {m : Nat} (ho : ops[i]? = some o) (hall : (allOf E ops)[i]? = some (stOf E ops o m)) (hD : D i = false) (hf : FitsT E ops D i) {B : AAct} (hB : InvV ops V a D B) (τ : AW) :
    aOper E rec B.eval o.op τ = aOper E rec (A i).eval o.op τ := by
  refine aOper_congr (fun x hx => ?_)
  cases x with
  | tmp t =>
    refine C.agree ho hall hD hf hB ?_
    show (tmpMask (opnds o.op) ||| guardMask ops o.guard).testBit t = true
    rw [Nat.testBit_or, tmpMask_bit hx]; rfl
  | const v => rfl
  | global g => rfl
  | func f => rfl
theorem Ctx.wanted {D : Nat → Bool} {i : Nat} {o : Oper} {m : Nat} (ho : ops[i]? = some o) (hall : (allOf E ops)[i]? = some (stOf E ops o m)) (hD : D i = false) (hf : FitsT E ops D i) {B : AAct} (hB : InvV ops V a D B) :
    aWanted B (ofOper ops o).guard = aWanted (A i) (ofOper ops o).guard := by
  have key : ∀ j want d, o.guard = some (j, want) → (ops[j]?).bind (·.dst) = some d → B.tmps.get d = (A i).tmps.get d := by
    intro j want d h1 h2
    refine C.agree ho hall hD hf hB ?_
    show (tmpMask (opnds o.op) ||| guardMask ops o.guard).testBit d = true
    rw [Nat.testBit_or, Bool.or_eq_true]
    refine .inr ?_
    unfold guardMask
    rw [h1]
    simp only [h2]
    show (1 <<< d).testBit d = true
    rw [Nat.one_shiftLeft, Nat.testBit_two_pow]; simp
  unfold ofOper
  cases hg : o.guard with
  | none => rfl
  | some jw =>
    obtain ⟨j, want⟩ := jw
    simp only
    unfold aWanted
    simp only
    cases hd : (ops[j]?).bind (·.dst) with
    | none => rfl
    | some d => simp only [key j want d hg hd]
theorem Ctx.putB {D : Nat → Bool} {i : Nat} {o : Oper} {m : Nat} (ho : ops[i]? = some o) (hall : (allOf E ops)[i]? = some (stOf E ops o m)) (hf : FitsT E ops D i) {B : AAct} (hB : InvV ops V a D B) :
    ∃ B', B.put o.dst (V i) = some B' ∧ InvV ops V a (updB D i) B' := by
  have hi := (Array.getElem?_eq_some_iff.1 ho).1
  have hdst : dstOf ops i = o.dst := by unfold dstOf; rw [ho]; rfl
  have hp := C.put hi
  rw [hdst] at hp
  obtain ⟨B', hB'⟩ := put_also hp (B := B) (by rw [hB.nt, (C.acts i (by omega)).1]) (V i)
  obtain ⟨g1, g2, g3⟩ := put_get hB'
  refine ⟨B', hB', g1.trans hB.nt, g2.trans hB.defers, fun x => ?_⟩
  rw [g3]
  by_cases e : o.dst = some x
  · rw [if_pos e, valD_hit (i := i) hi (by rw [hdst]; exact e) (updB_same _ _)]
    intro j h1 h2 hd
    rw [updB_other _ (by omega)]
    have hj' : j < (allOf E ops).length := by rw [allOf_len]; omega
    obtain ⟨o', m', e1, _, e3⟩ := all_get (List.getElem?_eq_getElem hj')
    refine hf.behind j _ _ h1 hall (List.getElem?_eq_getElem hj') ?_
    rw [e3]
    have hd' : o'.dst = some x := by unfold dstOf at hd; rw [e1] at hd; exact hd
    have hs' : (stOf E ops o' m').sets.testBit x = true := by
      show (dstMask o'.dst).testBit x = true
      rw [hd']; exact dstMask_bit x
    have hs : (stOf E ops o m).sets.testBit x = true := by
      show (dstMask o.dst).testBit x = true
      rw [e]; exact dstMask_bit x
    unfold clashT
    rw [meets_of_bit hs (b := Nat.lor (stOf E ops o' m').looks (stOf E ops o' m').sets) (by
      show ((stOf E ops o' m').looks ||| (stOf E ops o' m').sets).testBit x = true
      rw [Nat.testBit_or, hs']; simp)]
  · rw [if_neg e, hB.get]
    refine valD_congr (fun j _ hd => ?_)
    rw [updB_other]
    rintro rfl
    rw [hdst] at hd
    exact e hd
omit C in
theorem kindOf_quiet {o : Oper} {b : Bool} (h : kindOf E o = .quiet b) : quietO E o.op = true ∧ b = pureO E o.op := by
  unfold kindOf at h
  split at h
  · split at h <;> cases h
  · split at h
    · rename_i hq
      injection h with h
      exact ⟨hq, h.symm⟩
    · cases h
omit C in
theorem kindOf_alloc {o : Oper} {e : TypeId} (h : kindOf E o = .alloc e) : o.op = .alloc e ∧ o.guard = none := by
  unfold kindOf at h
  split at h
  · rename_i e' ho
    split at h
    · rename_i hg
      injection h with h; subst h
      exact ⟨ho, hg⟩
    · cases h
  · split at h <;> cases h

theorem Ctx.stateAt {i : Nat} (hi : i ≤ ops.size) : (S 0 :: statesOf (slOf E ops) 0 S)[cA ((allOf E ops).map (·.kd)) 0 (fun j => decide (j < i))]? = some (S i) := by
  have := states_at (slOf E ops) 0 S (fun k s hk ha => by
    have := (C.T.step k s hk).1
    rw [Nat.zero_add]
    exact this.same ha) i (by rw [slOf_len]; exact hi)
  rw [kds_eq] at this
  simpa using this
def InvM (E : Env) (ops : Array Oper) (S : Nat → AW) (D : Nat → Bool) (τ : AW) : Prop := (S 0 :: statesOf (slOf E ops) 0 S)[cA ((allOf E ops).map (·.kd)) 0 D]? = some τ
omit C in
theorem InvM.upd_not {D : Nat → Bool} {τ : AW} (h : InvM E ops S D τ) {i : Nat} {x : St} (hx : (allOf E ops)[i]? = some x) (ha : isActor x.kd = false) : InvM E ops S (updB D i) τ := by
  unfold InvM at *
  rw [cA_upd_not]
  · exact h
  · intro k s hk e
    rw [Nat.zero_add] at e; subst e
    rw [List.getElem?_map, hx] at hk
    injection hk with hk; subst hk
    exact ha

theorem Ctx.actorAt {D : Nat → Bool} {i : Nat} {x : St} (hx : (allOf E ops)[i]? = some x) (ha : isActor x.kd = true) (hD : D i = false) (hf : Fits E ops D i) : cA ((allOf E ops).map (·.kd)) 0 D = cA ((allOf E ops).map (·.kd)) 0 (fun j => decide (j < i)) := by
  refine cA_congr _ _ (fun k s hk hs => ?_)
  rw [Nat.zero_add]
  rw [List.getElem?_map] at hk
  cases hy : (allOf E ops)[k]? with
  | none => rw [hy] at hk; cases hk
  | some y =>
    rw [hy] at hk
    injection hk with hk
    replace hk : y.kd = s := hk
    have hcl : ∀ u v : St, isActor u.kd = true → isActor v.kd = true → clash u v = true := by
      intro u v hu hv
      unfold clash
      rw [hu, hv]
      split
      · rfl
      · split <;> rfl
    rcases Nat.lt_trichotomy k i with h | h | h
    · rw [hf.before k _ _ h hy hx (hcl _ _ (by rw [hk]; exact hs) ha)]; simp [h]
    · subst h; rw [hD]; simp
    · rw [hf.behind k _ _ h hx hy (hcl _ _ ha (by rw [hk]; exact hs))]; simp; omega
theorem Ctx.step_norm {D : Nat → Bool} {i : Nat} (hM : MayGo ops D i) (hdown : Down ops (fun j => D j = true)) (hf : Fits E ops D i) {B : AAct} {τ : AW} (hB : InvV ops V a D B) (hτ : InvM E ops S D τ) :
    ∃ s B' τ', (slOf E ops)[i]? = some s ∧ AStep E rec s (N i) B τ B' τ' ∧ InvV ops V a (updB D i) B' ∧ InvM E ops S (updB D i) τ' := by
  obtain ⟨o, ho, hD, _⟩ := id hM
  have hi := (Array.getElem?_eq_some_iff.1 ho).1
  obtain ⟨m, hm, hall, hsl⟩ := plan_get (E := E) ho
  obtain ⟨B', hput, hB'⟩ := C.putB ho hall hf.toT hB
  have hw := C.wanted ho hall hD hf.toT hB
  have hev := C.eval ho hall hD hf.toT hB
  have hst := (C.T.step i _ hsl).1
  have hkd : (stOf E ops o m).kd = kindOf E o := rfl

  have hact : isActor (kindOf E o) = true → τ = S i ∧ InvM E ops S (updB D i) (S (i + 1)) := by
    intro ha
    have e1 := C.actorAt hall (by rw [hkd]; exact ha) hD hf
    have e2 := C.stateAt (i := i) (by omega)
    refine ⟨?_, ?_⟩
    · unfold InvM at hτ
      rw [e1, e2] at hτ
      injection hτ with hτ; exact hτ.symm
    · unfold InvM
      have e3 := C.stateAt (i := i + 1) (by omega)
      have e4 := cA_upd ((allOf E ops).map (·.kd)) 0 i (D := D) (s := kindOf E o) (by rw [List.getElem?_map, hall]; rfl) ha (by rw [Nat.zero_add]; exact hD)
      have e5 := cA_upd ((allOf E ops).map (·.kd)) 0 i (D := fun j => decide (j < i)) (s := kindOf E o) (by rw [List.getElem?_map, hall]; rfl) ha (by simp)
      rw [Nat.zero_add] at e4 e5
      have e6 : updB (fun j => decide (j < i)) i = fun j => decide (j < i + 1) := by
        funext j
        by_cases e : j = i
        · subst e; rw [updB_same]; simp
        · rw [updB_other _ e]
          have : (j < i) ↔ (j < i + 1) := by omega
          simp [this]
      rw [e6] at e5
      rw [e4, e1, ← e5]; exact e3
  generalize hv : V i = v at hst hput
  generalize hA1 : A (i + 1) = a1 at hst
  generalize hS1 : S (i + 1) = s1 at hst
  cases hst with
  | alloc hk hp => exact ⟨_, B', τ, hsl, .alloc hk hput, hB', hτ.upd_not hall (by rw [hkd]; rw [show kindOf E o = _ from hk]; rfl)⟩
  | skip hk hw1 hp =>
    refine ⟨_, B', τ, hsl, .skip hk (by rw [← hw1]; exact hw) hput, hB', ?_⟩
    cases ha : isActor (kindOf E o) with
    | false => exact hτ.upd_not hall (by rw [hkd]; exact ha)
    | true =>
      obtain ⟨h1, h2⟩ := hact ha
      rw [hS1] at h2
      rw [h1]; exact h2
  | actor hk hw1 hop hp =>
    obtain ⟨h1, h2⟩ := hact (by rw [show kindOf E o = _ from hk]; rfl)
    rw [hS1] at h2
    exact ⟨_, B', s1, hsl, .run (fun e he => by rw [show kindOf E o = _ from hk] at he; cases he) (by rw [← hw1]; exact hw) (by rw [h1]; rw [hev]; exact hop) hput, hB', h2⟩
  | quiet hk hw1 hop hp =>
    rename_i σ' b
    obtain ⟨hq, hb⟩ := kindOf_quiet (show kindOf E o = _ from hk)
    have hna : isActor (stOf E ops o m).kd = false := by rw [hkd, show kindOf E o = _ from hk]; rfl

    have hsame : ∃ τ', aOper E rec (A i).eval o.op τ = some (v, τ') := by
      cases b with
      | true => exact ⟨_, (pure_any (fun _ => rfl) hb.symm hop).2 τ⟩
      | false =>
        have hmap : ∀ k x, (allOf E ops)[k]? = some x → ∃ o' m', ops[k]? = some o' ∧ (∀ j, ahead ops j k = m'.testBit j) ∧ x.mask = m' := fun k x hx => by
          obtain ⟨o', m', e1, e2, e3⟩ := all_get hx
          exact ⟨o', m', e1, e2, by rw [e3]; rfl⟩
        have hup := hdown.upd hM
        have lo1 : actorsAhead m 0 (allOf E ops) ≤ cA ((allOf E ops).map (·.kd)) 0 D := ahead_le _ _ (fun k x hk _ hbit => by
          rw [Nat.zero_add] at hbit ⊢
          rw [← hm] at hbit
          have h1 := ahead_down hup i k hbit (updB_same _ _)
          have hki : k ≠ i := by have := ahead_lt C.lt i k hbit; omega
          rwa [show updB D i k = D k from updB_other _ hki] at h1)
        have hi1 : cA ((allOf E ops).map (·.kd)) 0 D ≤ actorsFree i (allOf E ops) := le_free _ _ (fun k x hk _ hDk => by
          rw [Nat.zero_add] at hDk
          obtain ⟨o', m', e1, e2, e3⟩ := hmap k x hk
          rw [e3, ← e2]
          cases hah : ahead ops i k with
          | false => rfl
          | true =>
            have := ahead_down hdown k i hah hDk
            rw [hD] at this; cases this)
        have lo2 : actorsAhead m 0 (allOf E ops) ≤ cA ((allOf E ops).map (·.kd)) 0 (fun j => decide (j < i)) := ahead_le _ _ (fun k x hk _ hbit => by
          rw [Nat.zero_add] at hbit ⊢
          rw [← hm] at hbit
          simpa using ahead_lt C.lt i k hbit)
        have hi2 : cA ((allOf E ops).map (·.kd)) 0 (fun j => decide (j < i)) ≤ actorsFree i (allOf E ops) := le_free _ _ (fun k x hk _ hDk => by
          rw [Nat.zero_add] at hDk
          obtain ⟨o', m', e1, e2, e3⟩ := hmap k x hk
          rw [e3, ← e2]
          cases hah : ahead ops i k with
          | false => rfl
          | true =>
            have h1 := ahead_lt C.lt k i hah
            have h2 := of_decide_eq_true hDk
            omega)
        rcases Nat.lt_or_ge (actorsAhead m 0 (allOf E ops)) (actorsFree i (allOf E ops)) with hlt | hge
        · have := C.ask i _ hsl (by show isQuietOpen (kindOf E o) = true; rw [show kindOf E o = _ from hk]; rfl) hlt hw1 _ τ hτ lo1 hi1
          rw [hv] at this
          exact this
        · have e : cA ((allOf E ops).map (·.kd)) 0 D = cA ((allOf E ops).map (·.kd)) 0 (fun j => decide (j < i)) := by omega
          have e2 := C.stateAt (i := i) (by omega)
          unfold InvM at hτ
          rw [e, e2] at hτ
          injection hτ with hτ
          rw [← hτ]
          exact ⟨_, hop⟩
    obtain ⟨τ', hτ'⟩ := hsame
    have := quiet_same (fun _ => rfl) hq hτ'
    subst this
    refine ⟨_, B', τ', hsl, .run (fun e he => by rw [show kindOf E o = _ from hk] at he; cases he) (by rw [← hw1]; exact hw) (by rw [hev]; exact hτ') hput, hB', hτ.upd_not hall hna⟩
end
end Go.Proofs.Qas
noncomputable section
namespace Go.Proofs.Qas

theorem putCells_can : ∀ (cs : List Value) (o : Nat) (vs : List Value), o + vs.length ≤ cs.length → ∃ r, putCells cs o vs = some r
  | [], o, [], _ => ⟨[], putCells_nn o⟩
  | [], o, v :: vs, h => by simp at h
  | c :: cs, o, [], _ => ⟨_, putCells_cn c cs o⟩
  | c :: cs, 0, v :: vs, h => by
    obtain ⟨r, hr⟩ := putCells_can cs 0 vs (by simp at h ⊢; omega)
    exact ⟨v :: r, by rw [putCells_c0, hr]; rfl⟩
  | c :: cs, o + 1, v :: vs, h => by
    obtain ⟨r, hr⟩ := putCells_can cs o (v :: vs) (by simp at h ⊢; omega)
    exact ⟨c :: r, by rw [putCells_cs, hr]; rfl⟩
theorem putCells_comm {cs c1 c12 c2 : List Value} {o1 o2 : Nat} {v1 v2 : List Value} (h1 : putCells cs o1 v1 = some c1) (h12 : putCells c1 o2 v2 = some c12) (h2 : putCells cs o2 v2 = some c2) (hn : v1 ≠ []) (hap : o1 + v1.length ≤ o2 ∨ o2 + v2.length ≤ o1) :
    putCells c2 o1 v1 = some c12 := by
  obtain ⟨_, a2, a3, a4⟩ := putCells_ok _ _ _ _ h1
  obtain ⟨_, b2, b3, b4⟩ := putCells_ok _ _ _ _ h12
  obtain ⟨_, d2, d3, d4⟩ := putCells_ok _ _ _ _ h2
  have a3' := a3 hn
  obtain ⟨r, hr⟩ := putCells_can c2 o1 v1 (by omega)
  obtain ⟨_, e2, e3, e4⟩ := putCells_ok _ _ _ _ hr
  rw [hr]
  congr 1
  apply List.ext_getElem?
  intro i
  rw [e4, b4, d4, a4]
  by_cases u1 : o1 ≤ i ∧ i < o1 + v1.length
  · rw [if_pos u1, if_neg (by omega), if_pos u1]
  · rw [if_neg u1, if_neg u1]
theorem setCells_cells (B : Blk) (cs : List Value) : (B.setCells cs).cells = cs ∧ (B.setCells cs).frz = B.frz ∧ ∀ ds, (B.setCells cs).setCells ds = B.setCells ds := by
  obtain ⟨c, e, f⟩ := B
  exact ⟨rfl, rfl, fun _ => rfl⟩
theorem aCells_put {σ : AW} {b b' : Nat} {B : Blk} : aCells (σ.put b (some (.cells B))) b' = if b' = b then some B else aCells σ b' := by
  unfold aCells
  rw [AW.obj_put]
  by_cases e : b' = b
  · rw [if_pos e, if_pos e]
  · rw [if_neg e, if_neg e]
theorem put_next (σ : AW) (b : Nat) (o : Option AObj) : (σ.put b o).next = σ.next := by cases σ; rfl
theorem storeCells_comm {σ σ1 σ12 σ2 : AW} {b1 o1 b2 o2 : Nat} {v1 v2 : List Value} (h1 : aStoreCells σ b1 o1 v1 = some σ1) (h12 : aStoreCells σ1 b2 o2 v2 = some σ12) (h2 : aStoreCells σ b2 o2 v2 = some σ2)
    (hap : b1 ≠ b2 ∨ o1 + v1.length ≤ o2 ∨ o2 + v2.length ≤ o1) : ∃ σ21, aStoreCells σ2 b1 o1 v1 = some σ21 ∧ SameS σ21 σ12 := by
  cases v1 with
  | nil =>
    injection h1 with h1; subst h1
    rw [h2] at h12; injection h12 with h12; subst h12
    exact ⟨σ2, rfl, rfl, fun _ => rfl⟩
  | cons u1 v1 =>
  cases v2 with
  | nil =>
    injection h2 with h2; subst h2
    injection h12 with h12; subst h12
    exact ⟨σ1, h1, rfl, fun _ => rfl⟩
  | cons u2 v2 =>
  have cs : ∀ (σ : AW) (b o : Nat) (u : Value) (v : List Value), aStoreCells σ b o (u :: v) = bnd (aCells σ b) fun B => bnd (guardM (!B.frz) "frozen") fun _ => bnd (guardM (oneCells (u :: v)) "cells") fun _ =>
    bnd (putCells B.cells o (u :: v)) fun cs => some (σ.put b (some (.cells (B.setCells cs)))) := fun _ _ _ _ _ => rfl
  rw [cs] at h1 h12 h2
  obtain ⟨B1, p1, h1⟩ := bnd_some h1
  obtain ⟨_, p2, h1⟩ := bnd_some h1
  obtain ⟨_, p3, h1⟩ := bnd_some h1
  obtain ⟨c1, p4, h1⟩ := bnd_some h1
  injection h1 with h1; subst h1
  obtain ⟨B2, q1, h2⟩ := bnd_some h2
  obtain ⟨_, q2, h2⟩ := bnd_some h2
  obtain ⟨_, q3, h2⟩ := bnd_some h2
  obtain ⟨c2, q4, h2⟩ := bnd_some h2
  injection h2 with h2; subst h2
  obtain ⟨B3, r1, h12⟩ := bnd_some h12
  obtain ⟨_, r2, h12⟩ := bnd_some h12
  obtain ⟨_, r3, h12⟩ := bnd_some h12
  obtain ⟨c12, r4, h12⟩ := bnd_some h12
  injection h12 with h12; subst h12
  rw [cs]
  rw [aCells_put] at r1
  by_cases e : b2 = b1
  · subst e
    rw [if_pos rfl] at r1; injection r1 with r1; subst r1
    rw [p1] at q1; injection q1 with q1; subst q1
    rw [(setCells_cells B1 c1).1] at r4
    have hap' : o1 + (u1 :: v1).length ≤ o2 ∨ o2 + (u2 :: v2).length ≤ o1 := by
      rcases hap with h | h
      · exact (h rfl).elim
      · exact h
    have := putCells_comm p4 r4 q4 (by simp) hap'
    refine ⟨(σ.put b2 (some (.cells (B1.setCells c2)))).put b2 (some (.cells ((B1.setCells c2).setCells c12))), ?_, ?_, fun b => ?_⟩
    · rw [aCells_put, if_pos rfl]
      show bnd (guardM (!(B1.setCells c2).frz) "frozen") _ = _
      rw [(setCells_cells B1 c2).2.1, p2]
      show bnd (guardM (oneCells (u1 :: v1)) "cells") _ = _
      rw [p3]
      show bnd (putCells (B1.setCells c2).cells o1 (u1 :: v1)) _ = _
      rw [(setCells_cells B1 c2).1, this]
      rfl
    · rw [put_next, put_next, put_next, put_next]
    · rw [AW.obj_put, AW.obj_put, AW.obj_put, AW.obj_put, (setCells_cells B1 c2).2.2, (setCells_cells B1 c1).2.2]
      by_cases eb : b = b2
      · rw [if_pos eb, if_pos eb]
      · rw [if_neg eb, if_neg eb, if_neg eb, if_neg eb]
  · rw [if_neg e] at r1
    rw [q1] at r1; injection r1 with r1; subst r1
    rw [q4] at r4; injection r4 with r4; subst r4
    refine ⟨(σ.put b2 (some (.cells (B2.setCells c2)))).put b1 (some (.cells (B1.setCells c1))), ?_, ?_, fun b => ?_⟩
    · rw [aCells_put, if_neg (fun e' => e e'.symm), p1]
      show bnd (guardM (!B1.frz) "frozen") _ = _
      rw [p2]
      show bnd (guardM (oneCells (u1 :: v1)) "cells") _ = _
      rw [p3]
      show bnd (putCells B1.cells o1 (u1 :: v1)) _ = _
      rw [p4]
      rfl
    · rw [put_next, put_next, put_next, put_next]
    · rw [AW.obj_put, AW.obj_put, AW.obj_put, AW.obj_put]
      by_cases eb : b = b1
      · rw [if_pos eb, if_pos eb, if_neg (by omega)]
      · rw [if_neg eb, if_neg eb]
theorem store_comm {E : Env} {σ σ1 σ12 σ2 : AW} {t1 t2 : TypeId} {b1 o1 b2 o2 : Nat} {v1 v2 : Value} {ty1 ty2 : Ty} (e1 : E.ty t1 = some ty1) (e2 : E.ty t2 = some ty2)
    (h1 : aStore E σ t1 (.pointer (some ⟨b1, o1, none⟩)) v1 = some σ1) (h12 : aStore E σ1 t2 (.pointer (some ⟨b2, o2, none⟩)) v2 = some σ12) (h2 : aStore E σ t2 (.pointer (some ⟨b2, o2, none⟩)) v2 = some σ2)
    (hap : b1 ≠ b2 ∨ o1 + ty1.size ≤ o2 ∨ o2 + ty2.size ≤ o1) : ∃ σ21, aStore E σ2 t1 (.pointer (some ⟨b1, o1, none⟩)) v1 = some σ21 ∧ SameS σ21 σ12 := by
  have cs : ∀ (σ : AW) (t : TypeId) (b o : Nat) (v : Value), aStore E σ t (.pointer (some ⟨b, o, none⟩)) v = bnd (E.ty t) fun ty => bnd (guardM (Nat.beq v.cells.toList.length ty.size) "store size") fun _ => aStoreCells σ b o v.cells.toList := fun _ _ _ _ _ => rfl
  rw [cs] at h1 h12 h2
  rw [e1] at h1; rw [e2] at h12 h2
  replace h1 : (bnd (guardM (Nat.beq v1.cells.toList.length ty1.size) "store size") fun _ => aStoreCells σ b1 o1 v1.cells.toList) = some σ1 := h1
  replace h12 : (bnd (guardM (Nat.beq v2.cells.toList.length ty2.size) "store size") fun _ => aStoreCells σ1 b2 o2 v2.cells.toList) = some σ12 := h12
  replace h2 : (bnd (guardM (Nat.beq v2.cells.toList.length ty2.size) "store size") fun _ => aStoreCells σ b2 o2 v2.cells.toList) = some σ2 := h2
  obtain ⟨_, g1, h1⟩ := bnd_some h1
  obtain ⟨_, g2, h12⟩ := bnd_some h12
  obtain ⟨_, g3, h2⟩ := bnd_some h2
  have l1 := Nat.eq_of_beq_eq_true (guardM_some g1)
  have l2 := Nat.eq_of_beq_eq_true (guardM_some g2)
  obtain ⟨σ21, k1, k2⟩ := storeCells_comm h1 h12 h2 (by rw [l1, l2]; exact hap)
  refine ⟨σ21, ?_, k2⟩
  rw [cs, e1]
  show (bnd (guardM (Nat.beq v1.cells.toList.length ty1.size) "store size") fun _ => aStoreCells σ2 b1 o1 v1.cells.toList) = _
  rw [g1]
  exact k1
theorem splitLast2_spec {α : Type} : ∀ (l r : List α) (u v : α), splitLast2 l = some (r, u, v) → l = r ++ [u, v]
  | [], r, u, v, h => by cases h
  | [x], r, u, v, h => by cases h
  | [x, y], r, u, v, h => by
    injection h with h; injection h with h1 h2; injection h2 with h2 h3
    subst h1; subst h2; subst h3; rfl
  | x :: y :: z :: l, r, u, v, h => by
    unfold splitLast2 at h
    simp only at h
    split at h
    · rename_i l' u' v' he
      injection h with h; injection h with h1 h2; injection h2 with h2 h3
      subst h1; subst h2; subst h3
      have := splitLast2_spec (y :: z :: l) _ _ _ he
      rw [this]; rfl
    · cases h
theorem before2_spec {α : Type} : ∀ (l : List α) (x : α), before2 l = some x → 3 ≤ l.length ∧ l[l.length - 3]? = some x
  | [], x, h => by cases h
  | [_], x, h => by cases h
  | [_, _], x, h => by cases h
  | [a, b, c], x, h => by injection h with h; subst h; exact ⟨by simp, rfl⟩
  | a :: b :: c :: d :: l, x, h => by
    have h' : before2 (b :: c :: d :: l) = some x := h
    obtain ⟨h1, h2⟩ := before2_spec (b :: c :: d :: l) x h'
    refine ⟨by simp, ?_⟩
    rw [← h2]
    simp only [List.length_cons]
    rw [show l.length + 1 + 1 + 1 + 1 - 3 = (l.length + 1 + 1 + 1 - 3) + 1 from by omega, List.getElem?_cons_succ]
theorem aheadOfBoth_spec {x y : St} : ∀ (l : List St) (i : Nat), aheadOfBoth x y i l = true → ∀ k z, l[k]? = some z → sure z.kd = false → x.mask.testBit (i + k) = true ∧ y.mask.testBit (i + k) = true
  | [], i, _, k, z, hz, _ => by simp at hz
  | w :: l, i, h, k, z, hz, hs => by
    unfold aheadOfBoth at h
    cases k with
    | zero =>
      simp at hz; subst hz
      rw [hs] at h
      simp only at h
      split at h
      · rename_i h1
        split at h
        · rename_i h2; exact ⟨by simpa using h1, by simpa using h2⟩
        · cases h
      · cases h
    | succ k =>
      have : aheadOfBoth x y (Nat.succ i) l = true := by
        split at h
        · exact h
        · split at h
          · split at h
            · exact h
            · cases h
          · cases h
      have := aheadOfBoth_spec l (Nat.succ i) this k z (by simpa using hz) hs
      rw [show i + (k + 1) = Nat.succ i + k from by omega]
      exact this
theorem askAgain_spec {E : Env} {rec : Rec} {c : Chk} : ∀ (l : List AW) (k0 : Nat), askAgain E rec c k0 l = true → ∀ k τ, l[k]? = some τ → c.lo ≤ k0 + k → k0 + k ≤ c.hi → ∃ τ', aOper E rec c.act.eval c.op τ = some (c.v, τ')
  | [], _, _, k, τ, h, _, _ => by simp at h
  | x :: l, k0, h, k, τ, hk, h1, h2 => by
    unfold askAgain at h
    cases k with
    | zero =>
      simp at hk; subst hk
      split at h
      · split at h
        · split at h
          · rename_i v' τ' he
            split at h
            · rename_i hs
              exact ⟨τ', by rw [he, sameV_eq hs]⟩
            · cases h
          · cases h
        · rename_i hb; rw [← Bool.not_eq_true] at hb; exact (hb (Nat.ble_eq_true_of_le (by simpa using h2))).elim
      · rename_i hb; rw [← Bool.not_eq_true] at hb; exact (hb (Nat.ble_eq_true_of_le (by simpa using h1))).elim
    | succ k =>
      have rest : askAgain E rec c (Nat.succ k0) l = true := by
        split at h
        · split at h
          · split at h
            · split at h
              · exact h
              · cases h
            · cases h
          · rename_i hb; rw [← Bool.not_eq_true] at hb; exact (hb (Nat.ble_eq_true_of_le (by omega))).elim
        · exact h
      exact askAgain_spec l (Nat.succ k0) rest k τ (by simpa using hk) (by omega) (by omega)
theorem askAll_spec {E : Env} {rec : Rec} {ts : List AW} : ∀ (cs : List Chk), askAll E rec ts cs = true → ∀ c ∈ cs, askAgain E rec c 0 ts = true
  | [], _, c, h => by cases h
  | x :: cs, h, c, hc => by
    unfold askAll at h
    split at h
    · rename_i hx
      rcases List.mem_cons.1 hc with rfl | hc
      · exact hx
      · exact askAll_spec cs h c hc
    · cases h
end Go.Proofs.Qas
noncomputable section
namespace Go.Proofs.Qas

theorem statesOf_len : ∀ (l : List Slot) (i : Nat) (S : Nat → AW), (statesOf l i S).length = cA (l.map (·.kd)) i (fun _ => true)
  | [], _, _ => rfl
  | s :: r, i, S => by
    unfold statesOf
    simp only [List.map_cons, cA]
    have ih := statesOf_len r (i + 1) S
    cases isActor s.kd with
    | true => simp only [List.length_cons, ih, one, Bool.and_true]; omega
    | false => simp only [ih, one, Bool.and_true]; omega
theorem cA_le : ∀ (l : List Kd) (i m : Nat), (∀ k, l.length ≤ k → True) → i + l.length ≤ m → cA l i (fun j => decide (j < m)) = cA l i (fun _ => true) := by
  intro l i m _ h
  refine cA_congr l i (fun k s hk _ => ?_)
  have := (List.getElem?_eq_some_iff.1 hk).1
  simp; omega

section
variable {E : Env} {rec : Rec} {ops : Array Oper} {n0 : Nat} {a : AAct} {σ1 : AW} {A : Nat → AAct} {S : Nat → AW} {V : Nat → Value} {N : Nat → Nat} (C : Ctx E rec ops n0 a σ1 A S V N)
include C

def Fine (E : Env) (rec : Rec) (ops : Array Oper) (N : Nat → Nat) (A : Nat → AAct) (S : Nat → AW) (L : List Nat) (B : AAct) (τ : AW) : Prop :=
  ∃ B' τ', LRun E rec (slOf E ops) N L B τ B' τ' ∧ (B'.nt = (A ops.size).nt ∧ B'.defers = (A ops.size).defers ∧ ∀ x, B'.tmps.get x = (A ops.size).tmps.get x) ∧ SameS τ' (S ops.size)
theorem Ctx.acts_end {D : Nat → Bool} (hall : ∀ i, i < ops.size → D i = true) {B : AAct} (hB : InvV ops V a D B) : B.nt = (A ops.size).nt ∧ B.defers = (A ops.size).defers ∧ ∀ x, B.tmps.get x = (A ops.size).tmps.get x := by
  obtain ⟨h1, h2, h3⟩ := C.acts ops.size (Nat.le_refl _)
  refine ⟨hB.nt.trans h1.symm, hB.defers.trans h2.symm, fun x => ?_⟩
  rw [hB.get, h3]
  exact valD_congr (fun j hj _ => hall j hj)
theorem Ctx.fine_nil {D : Nat → Bool} (hall : ∀ i, i < ops.size → D i = true) {B : AAct} {τ : AW} (hB : InvV ops V a D B) (hτ : InvM E ops S D τ) : Fine E rec ops N A S [] B τ := by
  refine ⟨B, τ, .nil, C.acts_end hall hB, ?_⟩
  have h := C.stateAt (i := ops.size) (Nat.le_refl _)
  unfold InvM at hτ
  rw [cA_congr _ 0 (D := D) (D' := fun j => decide (j < ops.size)) (fun k s hk _ => by
    have := (List.getElem?_eq_some_iff.1 hk).1
    rw [List.length_map, allOf_len] at this
    rw [Nat.zero_add, hall k this]; simp [this]), h] at hτ
  injection hτ with hτ
  rw [hτ]
  exact ⟨rfl, fun _ => rfl⟩
omit C in
theorem Fine.cons {L : List Nat} {i : Nat} {s : Slot} {B B1 : AAct} {τ τ1 : AW} (hs : (slOf E ops)[i]? = some s) (h : AStep E rec s (N i) B τ B1 τ1) (r : Fine E rec ops N A S L B1 τ1) : Fine E rec ops N A S (i :: L) B τ := by
  obtain ⟨B', τ', h1, h2⟩ := r
  exact ⟨B', τ', .cons hs h h1, h2⟩

theorem Ctx.fine_norm (hfit : ∀ D i, MayGo ops D i → Down ops (fun j => D j = true) → Fits E ops D i) : ∀ (L : List Nat) (D : Nat → Bool) (B : AAct) (τ : AW), Ord ops D L → Down ops (fun j => D j = true) → InvV ops V a D B → InvM E ops S D τ → Fine E rec ops N A S L B τ
  | [], D, B, τ, hO, _, hB, hτ => by
    cases hO with
    | nil hall => exact C.fine_nil hall hB hτ
  | i :: L, D, B, τ, hO, hd, hB, hτ => by
    cases hO with
    | cons hM hr =>
      obtain ⟨s, B', τ', h1, h2, h3, h4⟩ := C.step_norm hM hd (hfit D i hM hd) hB hτ
      exact .cons h1 h2 (fine_norm hfit L _ B' τ' hr (hd.upd hM) h3 h4)
omit C in
theorem fits_of {all : List St} (hall : all = allOf E ops) {D : Nat → Bool} {i : Nat} (hM : MayGo ops D i) (hd : Down ops (fun j => D j = true))
    (h1 : ∀ j x y, j < i → all[j]? = some x → all[i]? = some y → clash x y = true → ahead ops j i = true) (h2 : ∀ j x y, i < j → all[i]? = some x → all[j]? = some y → clash x y = true → ahead ops i j = true) : Fits E ops D i := by
  subst hall
  have hup := hd.upd hM
  refine ⟨fun j x y hj hx hy hc => ?_, fun j x y hj hx hy hc => ?_⟩
  · have := ahead_down hup i j (h1 j x y hj hx hy hc) (updB_same _ _)
    rwa [show updB D i j = D j from updB_other _ (by omega)] at this
  · cases hDj : D j with
    | false => rfl
    | true =>
      have := ahead_down hd j i (h2 j x y hj hx hy hc) hDj
      obtain ⟨_, _, hD, _⟩ := hM
      rw [hD] at this; cases this
omit C in
theorem apart_ahead {i : Nat} {y : St} (hy : (allOf E ops)[i]? = some y) {pre : List St} (h : apart y 0 pre = true) {j : Nat} {x : St} (hx : pre[j]? = some x) (hc : clash x y = true) : ahead ops j i = true := by
  have := apart_spec pre 0 h j x hx hc
  rw [Nat.zero_add] at this
  obtain ⟨o, m, _, e2, e3⟩ := all_get hy
  rw [e2]
  rw [e3] at this
  exact this
theorem Ctx.fine_apart (hap : allApart [] (allOf E ops) = true) {L : List Nat} (hO : Ord ops (fun _ => false) L) : Fine E rec ops N A S L a σ1 := by
  have hh : ∀ j i x y, j < i → (allOf E ops)[j]? = some x → (allOf E ops)[i]? = some y → clash x y = true → ahead ops j i = true := by
    intro j i x y hj hx hy hc
    have := allApart_spec (allOf E ops) [] hap i y hy
    refine apart_ahead hy this (x := x) ?_ hc
    rw [List.nil_append, List.getElem?_take, if_pos hj]; exact hx
  refine C.fine_norm (fun D i hM hd => fits_of rfl hM hd (fun j x y hj hx hy hc => hh j i x y hj hx hy hc) (fun j x y hj hx hy hc => hh i j x y hj hx hy hc)) L _ a σ1 hO (fun j o h => by cases h) ⟨rfl, rfl, fun x => ?_⟩ ?_
  · have : ∀ n, valD (dstOf ops) V a.tmps.get (fun _ => false) n x = a.tmps.get x := by
      intro n
      induction n with
      | zero => rfl
      | succ n ih => simp only [valD]; rw [if_neg (by simp)]; exact ih
    rw [this]
  · have : ∀ l i, cA l i (fun _ => false) = 0 := by
      intro l
      induction l with
      | nil => intro _; rfl
      | cons s l ih => intro i; simp only [cA, ih, Bool.and_false, one]
    unfold InvM
    rw [this, ← C.T.s0]; rfl
end
end Go.Proofs.Qas
noncomputable section
namespace Go.Proofs.Qas

theorem storeOf_some {o : Oper} {t : TypeId} {a v : Operand} (h : storeOf o = some (t, a, v)) : o.guard = none ∧ o.dst = none ∧ o.op = .store t a v := by
  unfold storeOf at h
  split at h
  · cases h
  · rename_i hg
    split at h
    · cases h
    · rename_i hd
      split at h
      · rename_i ho
        injection h with h; injection h with h1 h2; injection h2 with h2 h3
        subst h1; subst h2; subst h3
        exact ⟨hg, hd, ho⟩
      · cases h
theorem xStore_some {E : Env} {rec : Rec} {ρ : Ev} {t : TypeId} {a x : Operand} {σ σ' : AW} {v : Value} (h : aOper E rec ρ (.store t a x) σ = some (v, σ')) : ∃ pa u, ρ a = some pa ∧ ρ x = some u ∧ aStore E σ t pa u = some σ' := by
  rw [aOper_exec rfl] at h
  replace h : xStore E ρ t a x σ = some (v, σ') := h
  obtain ⟨pa, h1, h⟩ := bnd_some h
  obtain ⟨u, h2, h⟩ := bnd_some h
  obtain ⟨σ1, h3, h⟩ := bnd_some h
  injection h with h; injection h with _ h; subst h
  exact ⟨pa, u, h1, h2, h3⟩
theorem xStore_can {E : Env} {rec : Rec} {ρ : Ev} {t : TypeId} {a x : Operand} {σ σ' : AW} {pa u : Value} (h1 : ρ a = some pa) (h2 : ρ x = some u) (h3 : aStore E σ t pa u = some σ') : aOper E rec ρ (.store t a x) σ = some (undef, σ') := by
  rw [aOper_exec rfl]
  show xStore E ρ t a x σ = _
  simp only [xStore, h1, h2, h3, bnd]
theorem kindOf_store {E : Env} {o : Oper} {t : TypeId} {a v : Operand} (h : o.op = .store t a v) : kindOf E o = .actor := by
  unfold kindOf
  split
  · rename_i e he; rw [h] at he; cases he
  · rw [h]; rfl

structure PairC (E : Env) (ops : Array Oper) (S : Nat → AW) (A : Nat → AAct) (m : Nat) (ox oy : Oper) (t1 t2 : TypeId) (a1 v1 a2 v2 : Operand) (τy τyx : AW) (p1 u1 p2 u2 : Value) : Prop where
  size : ops.size = m + 2
  gx : ops[m]? = some ox
  gy : ops[m + 1]? = some oy
  sx : storeOf ox = some (t1, a1, v1)
  sy : storeOf oy = some (t2, a2, v2)
  low : ∀ j i x y, j < i → i < m → (allOf E ops)[j]? = some x → (allOf E ops)[i]? = some y → clash x y = true → ahead ops j i = true
  high : ∀ j i x y, j < m → m ≤ i → (allOf E ops)[j]? = some x → (allOf E ops)[i]? = some y → clash x y = true → ahead ops j i = true
  both : ∀ j x, j < m → (allOf E ops)[j]? = some x → sure x.kd = false → ahead ops j m = true ∧ ahead ops j (m + 1) = true
  ea1 : (A m).eval a1 = some p1
  ev1 : (A m).eval v1 = some u1
  ea2 : (A (m + 1)).eval a2 = some p2
  ev2 : (A (m + 1)).eval v2 = some u2
  st2 : aStore E (S m) t2 p2 u2 = some τy
  st1 : aStore E τy t1 p1 u1 = some τyx
  same : SameS τyx (S ops.size)

section
variable {E : Env} {rec : Rec} {ops : Array Oper} {n0 : Nat} {a : AAct} {σ1 : AW} {A : Nat → AAct} {S : Nat → AW} {V : Nat → Value} {N : Nat → Nat} (C : Ctx E rec ops n0 a σ1 A S V N)
  {m : Nat} {ox oy : Oper} {t1 t2 : TypeId} {a1 v1 a2 v2 : Operand} {τy τyx : AW} {p1 u1 p2 u2 : Value} (Q : PairC E ops S A m ox oy t1 t2 a1 v1 a2 v2 τy τyx p1 u1 p2 u2)
include C Q
omit C in
theorem PairC.sets {i : Nat} {x : St} (hi : m ≤ i) (hx : (allOf E ops)[i]? = some x) : x.sets = 0 ∧ isActor x.kd = true := by
  obtain ⟨o, mm, e1, _, e3⟩ := all_get hx
  have hlt : i < m + 2 := by rw [← Q.size]; exact (Array.getElem?_eq_some_iff.1 e1).1
  have hoo : (o = ox ∨ o = oy) := by
    rcases Nat.lt_or_ge m i with h | h
    · have : i = m + 1 := by omega
      subst this; rw [Q.gy] at e1; injection e1 with e1; exact .inr e1.symm
    · have : i = m := by omega
      subst this; rw [Q.gx] at e1; injection e1 with e1; exact .inl e1.symm
  rw [e3]
  rcases hoo with rfl | rfl
  · obtain ⟨_, h2, h3⟩ := storeOf_some Q.sx
    exact ⟨by show dstMask o.dst = 0; rw [h2]; rfl, by show isActor (kindOf E o) = true; rw [kindOf_store h3]; rfl⟩
  · obtain ⟨_, h2, h3⟩ := storeOf_some Q.sy
    exact ⟨by show dstMask o.dst = 0; rw [h2]; rfl, by show isActor (kindOf E o) = true; rw [kindOf_store h3]; rfl⟩
omit C Q in
theorem meets_zero_left (b : Nat) : meets 0 b = false := by
  have : Nat.land 0 b = 0 := Nat.zero_and b
  unfold meets; rw [this]
omit C Q in
theorem meets_zero_right (b : Nat) : meets b 0 = false := by
  have : Nat.land b 0 = 0 := Nat.and_zero b
  unfold meets; rw [this]
omit C in
theorem PairC.fits {D : Nat → Bool} {i : Nat} (hM : MayGo ops D i) (hd : Down ops (fun j => D j = true)) (h1 : i = m → D (m + 1) = false) (h2 : i = m + 1 → D m = true) : Fits E ops D i := by
  have hup := hd.upd hM
  have hlt : i < m + 2 := by obtain ⟨o, ho, _⟩ := hM; rw [← Q.size]; exact (Array.getElem?_eq_some_iff.1 ho).1
  have hah : ∀ j, ahead ops j i = true → j < i → D j = true := by
    intro j h hj
    have := ahead_down hup i j h (updB_same _ _)
    rwa [show updB D i j = D j from updB_other _ (by omega)] at this
  have hno : ∀ j, ahead ops i j = true → D j = false := by
    intro j h
    cases hDj : D j with
    | false => rfl
    | true =>
      have := ahead_down hd j i h hDj
      obtain ⟨_, _, hD, _⟩ := hM
      rw [hD] at this; cases this
  refine ⟨fun j x y hj hx hy hc => ?_, fun j x y hj hx hy hc => ?_⟩
  · rcases Nat.lt_or_ge i m with hi | hi
    · exact hah j (Q.low j i x y hj hi hx hy hc) hj
    · rcases Nat.lt_or_ge j m with hjm | hjm
      · exact hah j (Q.high j i x y hjm hi hx hy hc) hj
      · have : j = m := by omega
        subst this
        exact h2 (by omega)
  · have hjl : j < m + 2 := by rw [← Q.size, ← allOf_len E ops]; exact (List.getElem?_eq_some_iff.1 hy).1
    rcases Nat.lt_or_ge i m with hi | hi
    · rcases Nat.lt_or_ge j m with hjm | hjm
      · exact hno j (Q.low i j x y hj hjm hx hy hc)
      · exact hno j (Q.high i j x y hi hjm hx hy hc)
    · have e1 : i = m := by omega
      have e2 : j = m + 1 := by omega
      rw [e2]; exact h1 e1
omit C in
theorem PairC.fitsT {D : Nat → Bool} {i : Nat} (hM : MayGo ops D i) (hd : Down ops (fun j => D j = true)) (hi : m ≤ i) : FitsT E ops D i := by
  have hup := hd.upd hM
  have hlt : i < m + 2 := by obtain ⟨o, ho, _⟩ := hM; rw [← Q.size]; exact (Array.getElem?_eq_some_iff.1 ho).1
  refine ⟨fun j x y hj hx hy hc => ?_, fun j x y hj hx hy hc => ?_⟩
  · rcases Nat.lt_or_ge j m with hjm | hjm
    · have := ahead_down hup i j (Q.high j i x y hjm hi hx hy (clash_of_T hc)) (updB_same _ _)
      rwa [show updB D i j = D j from updB_other _ (by omega)] at this
    · have e1 := (Q.sets hjm hx).1
      have e2 := (Q.sets hi hy).1
      unfold clashT at hc
      rw [e1, e2, meets_zero_left] at hc
      simp only at hc
      rw [meets_zero_right] at hc; cases hc
  · have e1 := (Q.sets hi hx).1
    have e2 := (Q.sets (by omega) hy).1
    unfold clashT at hc
    rw [e1, e2, meets_zero_left] at hc
    simp only at hc
    rw [meets_zero_right] at hc; cases hc
omit Q in
theorem Ctx.pure_step {D : Nat → Bool} {i : Nat} (hM : MayGo ops D i) (hf : FitsT E ops D i) {x : St} (hx : (allOf E ops)[i]? = some x) (hsu : sure x.kd = true) {B : AAct} (hB : InvV ops V a D B) (τ : AW) :
    ∃ s B', (slOf E ops)[i]? = some s ∧ AStep E rec s (N i) B τ B' τ ∧ InvV ops V a (updB D i) B' := by
  obtain ⟨o, ho, hD, _⟩ := id hM
  obtain ⟨mm, hm, hall, hsl⟩ := plan_get (E := E) ho
  rw [hx] at hall
  injection hall with hall
  obtain ⟨B', hput, hB'⟩ := C.putB ho (hall ▸ hx) hf hB
  have hw := C.wanted ho (hall ▸ hx) hD hf hB
  have hev := C.eval ho (hall ▸ hx) hD hf hB
  have hst := (C.T.step i _ hsl).1
  have hkd : x.kd = kindOf E o := by rw [hall]; rfl
  rw [hkd] at hsu
  generalize hv : V i = v at hst hput
  generalize hA1 : A (i + 1) = a1 at hst
  generalize hS1 : S (i + 1) = s1 at hst
  cases hst with
  | alloc hk hp => rw [show kindOf E o = _ from hk] at hsu; cases hsu
  | actor hk _ _ _ => rw [show kindOf E o = _ from hk] at hsu; cases hsu
  | skip hk hw1 hp => exact ⟨_, B', hsl, .skip hk (by rw [← hw1]; exact hw) hput, hB'⟩
  | quiet hk hw1 hop hp =>
    rename_i σ' b
    obtain ⟨hq, hb⟩ := kindOf_quiet (show kindOf E o = _ from hk)
    have hbt : b = true := by
      rw [show kindOf E o = _ from hk] at hsu
      cases b
      · cases hsu
      · rfl
    subst hbt
    have := (pure_any (fun _ => rfl) hb.symm hop).2 τ
    exact ⟨_, B', hsl, .run (fun e he => by rw [show kindOf E o = _ from hk] at he; cases he) (by rw [← hw1]; exact hw) (by rw [hev]; exact this) hput, hB'⟩
def Unsure (E : Env) (ops : Array Oper) (m : Nat) (D : Nat → Bool) : Prop := ∀ j x, j < m → (allOf E ops)[j]? = some x → sure x.kd = false → D j = true
omit C Q in
theorem Unsure.upd {D : Nat → Bool} (h : Unsure E ops m D) (i : Nat) : Unsure E ops m (updB D i) := fun j x hj hx hs => updB_mono (h j x hj hx hs)
theorem fine3 : ∀ (L : List Nat) (D : Nat → Bool) (B : AAct) (τ : AW), Ord ops D L → Down ops (fun j => D j = true) → D m = true → D (m + 1) = true → Unsure E ops m D → InvV ops V a D B → SameS τ (S ops.size) → Fine E rec ops N A S L B τ
  | [], D, B, τ, hO, hd, _, _, _, hB, hτ => by
    cases hO with
    | nil hall => exact ⟨B, τ, .nil, C.acts_end hall hB, hτ⟩
  | i :: L, D, B, τ, hO, hd, hm0, hm1, hU, hB, hτ => by
    cases hO with
    | cons hM hr =>
      obtain ⟨o, ho, hD, _⟩ := id hM
      have hlt : i < m + 2 := by rw [← Q.size]; exact (Array.getElem?_eq_some_iff.1 ho).1
      have hi : i < m := by
        rcases Nat.lt_or_ge i m with h | h
        · exact h
        · have : i = m ∨ i = m + 1 := by omega
          rcases this with rfl | rfl
          · rw [hD] at hm0; cases hm0
          · rw [hD] at hm1; cases hm1
      have hil : i < (allOf E ops).length := by rw [allOf_len, Q.size]; omega
      have hx : (allOf E ops)[i]? = some (allOf E ops)[i] := List.getElem?_eq_getElem hil
      have hsu : sure (allOf E ops)[i].kd = true := by
        cases h : sure (allOf E ops)[i].kd with
        | true => rfl
        | false => have := hU i _ hi hx h
                   rw [hD] at this; cases this
      obtain ⟨s, B', h1, h2, h3⟩ := C.pure_step hM (Q.fits hM hd (fun e => by omega) (fun e => by omega)).toT hx hsu hB τ
      exact .cons h1 h2 (fine3 L _ B' τ hr (hd.upd hM) (updB_mono hm0) (updB_mono hm1) (hU.upd i) h3 hτ)
theorem fine2 : ∀ (L : List Nat) (D : Nat → Bool) (B : AAct), Ord ops D L → Down ops (fun j => D j = true) → D m = false → D (m + 1) = true → Unsure E ops m D → InvV ops V a D B → Fine E rec ops N A S L B τy
  | [], D, B, hO, hd, hm0, _, _, hB => by
    cases hO with
    | nil hall => rw [hall m (by rw [Q.size]; omega)] at hm0; cases hm0
  | i :: L, D, B, hO, hd, hm0, hm1, hU, hB => by
    cases hO with
    | cons hM hr =>
      obtain ⟨o, ho, hD, _⟩ := id hM
      have hlt : i < m + 2 := by rw [← Q.size]; exact (Array.getElem?_eq_some_iff.1 ho).1
      by_cases him : i = m
      · subst him
        rw [Q.gx] at ho; injection ho with ho; subst ho
        obtain ⟨hg, hdst, hop⟩ := storeOf_some Q.sx
        obtain ⟨mm, hm, hall, hsl⟩ := plan_get (E := E) Q.gx
        have hf := Q.fitsT hM hd (Nat.le_refl _)
        obtain ⟨B', hput, hB'⟩ := C.putB Q.gx hall hf hB
        have hev := C.eval Q.gx hall hD hf hB τy
        rw [hop] at hev
        have hx1 := xStore_can (rec := rec) Q.ea1 Q.ev1 Q.st1
        rw [← hev] at hx1
        rw [hdst] at hput
        injection hput with hput; subst hput
        refine .cons hsl (.run (B' := B) (τ' := τyx) (v := undef) (fun e he => ?_) ?_ (by simp only [hop]; exact hx1) (by simp only [hdst]; rfl)) (fine3 C Q L _ B τyx hr (hd.upd hM) (updB_same _ _) (updB_mono hm1) (hU.upd _) hB' Q.same)
        · have he' : kindOf E ox = .alloc e := he
          rw [kindOf_store hop] at he'; cases he'
        · have : (ofOper ops ox).guard = none := by unfold ofOper; rw [hg]
          simp only [this]; rfl
      · have hi : i < m := by
          rcases Nat.lt_or_ge i m with h | h
          · exact h
          · have : i = m + 1 := by omega
            subst this
            rw [hD] at hm1; cases hm1
        have hil : i < (allOf E ops).length := by rw [allOf_len, Q.size]; omega
        have hx : (allOf E ops)[i]? = some (allOf E ops)[i] := List.getElem?_eq_getElem hil
        have hsu : sure (allOf E ops)[i].kd = true := by
          cases h : sure (allOf E ops)[i].kd with
          | true => rfl
          | false => have := hU i _ hi hx h
                     rw [hD] at this; cases this
        obtain ⟨s, B', h1, h2, h3⟩ := C.pure_step hM (Q.fits hM hd (fun e => by omega) (fun e => by omega)).toT hx hsu hB τy
        exact .cons h1 h2 (fine2 L _ B' hr (hd.upd hM) (by rw [updB_other _ (by omega)]; exact hm0) (updB_mono hm1) (hU.upd i) h3)
theorem fine1 : ∀ (L : List Nat) (D : Nat → Bool) (B : AAct) (τ : AW), Ord ops D L → Down ops (fun j => D j = true) → (D (m + 1) = true → D m = true) → InvV ops V a D B → InvM E ops S D τ → Fine E rec ops N A S L B τ
  | [], D, B, τ, hO, hd, _, hB, hτ => by
    cases hO with
    | nil hall => exact C.fine_nil hall hB hτ
  | i :: L, D, B, τ, hO, hd, hord, hB, hτ => by
    cases hO with
    | cons hM hr =>
      obtain ⟨o, ho, hD, _⟩ := id hM
      have hlt : i < m + 2 := by rw [← Q.size]; exact (Array.getElem?_eq_some_iff.1 ho).1
      by_cases hab : i = m + 1 ∧ D m = false
      · obtain ⟨him, hm0⟩ := hab
        subst him
        have hup := hd.upd hM
        have hU : Unsure E ops m D := by
          intro j x hj hx hs
          have := ahead_down hup (m + 1) j (Q.both j x hj hx hs).2 (updB_same _ _)
          rwa [show updB D (m + 1) j = D j from updB_other _ (by omega)] at this
        have hS : τ = S m := by
          have e2 := C.stateAt (i := m) (by rw [Q.size]; omega)
          have e : cA ((allOf E ops).map (·.kd)) 0 D = cA ((allOf E ops).map (·.kd)) 0 (fun j => decide (j < m)) := by
            refine cA_congr _ _ (fun k s hk hs => ?_)
            rw [Nat.zero_add]
            rw [List.getElem?_map] at hk
            cases hy : (allOf E ops)[k]? with
            | none => rw [hy] at hk; cases hk
            | some y =>
              rw [hy] at hk
              injection hk with hk
              replace hk : y.kd = s := hk
              have hkl : k < m + 2 := by rw [← Q.size, ← allOf_len E ops]; exact (List.getElem?_eq_some_iff.1 hy).1
              rcases Nat.lt_or_ge k m with h | h
              · rw [hU k y h hy (by
                  rw [hk]
                  cases s <;> first | rfl | cases hs)]
                simp [h]
              · have : k = m ∨ k = m + 1 := by omega
                rcases this with rfl | rfl
                · rw [hm0]; simp
                · rw [hD]; simp
          unfold InvM at hτ
          rw [e, e2] at hτ
          injection hτ with hτ; exact hτ.symm
        subst hS
        rw [Q.gy] at ho; injection ho with ho; subst ho
        obtain ⟨hg, hdst, hop⟩ := storeOf_some Q.sy
        obtain ⟨mm, hm, hall, hsl⟩ := plan_get (E := E) Q.gy
        have hf := Q.fitsT hM hd (by omega)
        obtain ⟨B', hput, hB'⟩ := C.putB Q.gy hall hf hB
        have hev := C.eval Q.gy hall hD hf hB (S m)
        rw [hop] at hev
        have hx1 := xStore_can (rec := rec) Q.ea2 Q.ev2 Q.st2
        rw [← hev] at hx1
        rw [hdst] at hput
        injection hput with hput; subst hput
        refine .cons hsl (.run (B' := B) (τ' := τy) (v := undef) (fun e he => ?_) ?_ (by simp only [hop]; exact hx1) (by simp only [hdst]; rfl)) (fine2 C Q L _ B hr hup (by rw [updB_other _ (by omega)]; exact hm0) (updB_same _ _) (hU.upd _) hB')
        · have he' : kindOf E oy = .alloc e := he
          rw [kindOf_store hop] at he'; cases he'
        · have : (ofOper ops oy).guard = none := by unfold ofOper; rw [hg]
          simp only [this]; rfl
      · have hf : Fits E ops D i := Q.fits hM hd (fun e => by
          subst e
          cases h : D (i + 1) with
          | false => rfl
          | true => have := hord h
                    rw [hD] at this; cases this) (fun e => by
          cases h : D m with
          | true => rfl
          | false => exact (hab ⟨e, h⟩).elim)
        obtain ⟨s, B', τ', h1, h2, h3, h4⟩ := C.step_norm hM hd hf hB hτ
        refine .cons h1 h2 (fine1 L _ B' τ' hr (hd.upd hM) (fun h => ?_) h3 h4)
        by_cases e : i = m + 1
        · subst e
          refine updB_mono ?_
          cases h : D m with
          | true => rfl
          | false => exact (hab ⟨rfl, h⟩).elim
        · rw [updB_other _ (fun e' => e e'.symm)] at h
          exact updB_mono (hord h)
end
end Go.Proofs.Qas
