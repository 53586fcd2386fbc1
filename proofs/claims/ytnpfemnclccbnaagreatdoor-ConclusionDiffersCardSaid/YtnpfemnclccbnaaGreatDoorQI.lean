/- A part of the proof of the card of licitlaw37.ConclusionDiffers. -/
import Derived.Test.YtnpfemnclccbnaaGreatDoorQH
set_option linter.unusedSectionVars false
set_option linter.unusedSimpArgs false
set_option linter.unusedVariables false
noncomputable section
namespace Go.Proofs.Qas

theorem planOf_some {E : Env} {ops : Array Oper} {pl : Plan} (h : planOf E ops = some pl) : allLtEdges 0 ops.toList = true ∧ pl.slots = slOf E ops ∧
    ((allApart [] (allOf E ops) = true ∧ pl.pair = none) ∨ ∃ p, pairPlan ops.toList (allOf E ops) = some p ∧ pl.pair = some p) := by
  unfold planOf at h
  split at h
  · exact (fail_some h).elim
  · rename_i hlt
    refine ⟨hlt, ?_⟩
    simp only at h
    split at h
    · rename_i hap
      injection h with h; subst h
      exact ⟨rfl, .inl ⟨hap, rfl⟩⟩
    · split at h
      · rename_i p hp
        injection h with h; subst h
        exact ⟨rfl, .inr ⟨p, hp, rfl⟩⟩
      · exact (fail_some h).elim
theorem pairPlan_some {ops : List Oper} {all : List St} {p : Pair} (h : pairPlan ops all = some p) : ∃ pre x y opre ox oy, all = pre ++ [x, y] ∧ ops = opre ++ [ox, oy] ∧
    storeOf ox = some (p.t1, p.a1, p.v1) ∧ storeOf oy = some (p.t2, p.a2, p.v2) ∧ allApart [] pre = true ∧ apart x 0 pre = true ∧ apart y 0 pre = true ∧ aheadOfBoth x y 0 pre = true := by
  unfold pairPlan at h
  split at h
  · rename_i pre x y opre ox oy h1 h2
    split at h
    · rename_i p' hp
      split at h
      · cases h
      · rename_i g1
        split at h
        · cases h
        · rename_i g2
          split at h
          · cases h
          · rename_i g3
            split at h
            · rename_i g4
              injection h with h; subst h
              unfold pairOf at hp
              split at hp
              · rename_i _ _ t1 a1 v1 t2 a2 v2 k1 k2
                injection hp with hp; subst hp
                exact ⟨pre, x, y, opre, ox, oy, splitLast2_spec _ _ _ _ h1, splitLast2_spec _ _ _ _ h2, k1, k2, g1, g2, g3, g4⟩
              · cases hp
            · cases h
    · cases h
  · cases h
theorem askPair_some {E : Env} {a : AAct} {ts : List AW} {p : Pair} (h : askPair E a ts (some p) = true) : ∃ τ b1 o1 b2 o2 v ty1 ty2 τy, before2 ts = some τ ∧ a.eval p.a1 = some (.pointer (some ⟨b1, o1, none⟩)) ∧ a.eval p.a2 = some (.pointer (some ⟨b2, o2, none⟩)) ∧
    a.eval p.v2 = some v ∧ E.ty p.t1 = some ty1 ∧ E.ty p.t2 = some ty2 ∧ aStore E τ p.t2 (.pointer (some ⟨b2, o2, none⟩)) v = some τy ∧ (b1 ≠ b2 ∨ o1 + ty1.size ≤ o2 ∨ o2 + ty2.size ≤ o1) := by
  unfold askPair at h
  simp only at h
  split at h
  · rename_i τ b1 o1 b2 o2 v ty1 ty2 h1 h2 h3 h4 h5 h6
    split at h
    · cases h
    · rename_i τy hs
      refine ⟨τ, b1, o1, b2, o2, v, ty1, ty2, τy, h1, h2, h3, h4, h5, h6, hs, ?_⟩
      split at h
      · rename_i hb
        refine .inl fun e => ?_
        subst e
        rw [Nat.beq_refl] at hb; cases hb
      · split at h
        · rename_i hl; exact .inr (.inl (Nat.le_of_ble_eq_true hl))
        · exact .inr (.inr (Nat.le_of_ble_eq_true h))
  · cases h
theorem allocs_spec {E : Env} : ∀ (sl : List Slot) (σ σ1 : AW) (N : Nat → Nat), allocs E sl σ = some σ1 → N 0 = σ.next → (∀ i s, sl[i]? = some s → N (i + 1) = if isAllocK s.kd then N i + 1 else N i) →
    σ.next ≤ σ1.next ∧ (∀ b, b < σ.next → σ1.obj b = σ.obj b) ∧ ∀ i s e, sl[i]? = some s → s.kd = .alloc e → σ.next ≤ N i ∧ N i < σ1.next ∧ ∃ z, aZero E e = some z ∧ σ1.obj (N i) = some (.cells { cells := z.cells.toList, elem := e, frz := false, ex := true })
  | [], σ, σ1, N, h, _, _ => by
    injection h with h; subst h
    exact ⟨Nat.le_refl _, fun _ _ => rfl, fun i s e hs => by simp at hs⟩
  | s :: r, σ, σ1, N, h, h0, hN => by
    have hN0 := hN 0 s (by simp)
    unfold allocs at h
    split at h
    · rename_i e hk
      obtain ⟨z, hz, h⟩ := bnd_some h
      have h' : allocs E r (σ.new (.cells { cells := z.cells.toList, elem := e, frz := false, ex := true })) = some σ1 := h
      rw [hk, show isAllocK (.alloc e) = true from rfl, if_pos rfl] at hN0
      have hnext : ∀ o, (σ.new o).next = σ.next + 1 := fun o => by cases σ; rfl
      obtain ⟨g1, g2, g3⟩ := allocs_spec r _ σ1 (fun i => N (i + 1)) h' (by show N (0 + 1) = _; rw [hN0, h0, hnext]) (fun i s hs => hN (i + 1) s (by simpa using hs))
      rw [hnext] at g1 g2 g3
      refine ⟨by omega, fun b hb => ?_, fun i s' e' hs' hk' => ?_⟩
      · rw [g2 b (by omega), AW.obj_new, if_neg (by omega)]
      · cases i with
        | zero =>
          simp at hs'; subst hs'
          rw [hk] at hk'; injection hk' with hk'; subst hk'
          refine ⟨by omega, by omega, z, hz, ?_⟩
          rw [g2 _ (by omega), AW.obj_new, if_pos h0]
        | succ i =>
          obtain ⟨k1, k2, k3⟩ := g3 i s' e' (by simpa using hs') hk'
          exact ⟨by show σ.next ≤ N (i + 1); omega, k2, k3⟩
    · rename_i hk
      rw [show isAllocK s.kd = false from by cases hks : s.kd with
        | alloc e => exact (hk e hks).elim
        | quiet b => rfl
        | actor => rfl] at hN0
      rw [if_neg (by simp)] at hN0
      obtain ⟨g1, g2, g3⟩ := allocs_spec r _ σ1 (fun i => N (i + 1)) h (by show N (0 + 1) = _; rw [hN0, h0]) (fun i s hs => hN (i + 1) s (by simpa using hs))
      refine ⟨g1, g2, fun i s' e' hs' hk' => ?_⟩
      cases i with
      | zero =>
        simp at hs'; subst hs'
        exact (hk e' hk').elim
      | succ i => exact g3 i s' e' (by simpa using hs') hk'
theorem N_mono {sl : List Slot} {N : Nat → Nat} (hN : ∀ (i : Nat) (s : Slot), sl[i]? = some s → N (i + 1) = if isAllocK s.kd then N i + 1 else N i) : ∀ d i, i + d ≤ sl.length → N i ≤ N (i + d)
  | 0, i, _ => Nat.le_refl _
  | d + 1, i, h => by
    have ih := N_mono hN d i (by omega)
    have hl : i + d < sl.length := by omega
    have := hN (i + d) _ (List.getElem?_eq_getElem hl)
    rw [show i + (d + 1) = i + d + 1 from by omega, this]
    split <;> omega
theorem ord_nodup {ops : Array Oper} : ∀ (L : List Nat) (D : Nat → Bool), Ord ops D L → (∀ i ∈ L, D i = false) ∧ L.Nodup
  | [], D, _ => ⟨fun i h => (by cases h), List.nodup_nil⟩
  | i :: L, D, h => by
    cases h with
    | cons hM hr =>
      obtain ⟨h1, h2⟩ := ord_nodup L _ hr
      obtain ⟨_, _, hD, _⟩ := hM
      refine ⟨fun j hj => ?_, List.nodup_cons.2 ⟨fun hi => ?_, h2⟩⟩
      · rcases List.mem_cons.1 hj with rfl | hj
        · exact hD
        · have := h1 j hj
          by_cases e : j = i
          · subst e; exact hD
          · rwa [updB_other _ e] at this
      · have := h1 i hi
        rw [updB_same] at this; cases this
theorem before2_state {E : Env} {rec : Rec} {ops : Array Oper} {n0 : Nat} {a : AAct} {σ1 : AW} {A : Nat → AAct} {S : Nat → AW} {V : Nat → Value} {N : Nat → Nat} (C : Ctx E rec ops n0 a σ1 A S V N) {m : Nat} (hsz : ops.size = m + 2)
    {x y : St} (hx : (allOf E ops)[m]? = some x) (hy : (allOf E ops)[m + 1]? = some y) (ax : isActor x.kd = true) (ay : isActor y.kd = true) {τ : AW} (h : before2 (S 0 :: statesOf (slOf E ops) 0 S) = some τ) : τ = S m := by
  have hb2 := before2_spec _ _ h
  have h1 := hb2.1
  have h2 := hb2.2
  clear hb2
  have hs := C.stateAt (i := m) (by omega)
  have hlen : (S 0 :: statesOf (slOf E ops) 0 S).length = cA ((allOf E ops).map (·.kd)) 0 (fun j => decide (j < m)) + 3 := by
    rw [List.length_cons, statesOf_len, kds_eq]
    have u : ∀ i, updB (fun j => decide (j < i)) i = fun j => decide (j < i + 1) := by
      intro i
      funext j
      by_cases e : j = i
      · subst e; rw [updB_same]; simp
      · rw [updB_other _ e]
        have : (j < i) ↔ (j < i + 1) := by omega
        simp [this]
    have e1 := cA_upd ((allOf E ops).map (·.kd)) 0 m (D := fun j => decide (j < m)) (s := x.kd) (by rw [List.getElem?_map, hx]; rfl) ax (by simp)
    have e2 := cA_upd ((allOf E ops).map (·.kd)) 0 (m + 1) (D := fun j => decide (j < m + 1)) (s := y.kd) (by rw [List.getElem?_map, hy]; rfl) ay (by simp)
    rw [Nat.zero_add, u] at e1 e2
    have e3 := cA_le ((allOf E ops).map (·.kd)) 0 (m + 1 + 1) (fun _ _ => trivial) (by rw [List.length_map, allOf_len]; omega)
    omega
  rw [hlen] at h2
  rw [show cA ((allOf E ops).map (·.kd)) 0 (fun j => decide (j < m)) + 3 - 3 = cA ((allOf E ops).map (·.kd)) 0 (fun j => decide (j < m)) from by omega, hs] at h2
  injection h2 with h2; exact h2.symm

theorem pair_ctx {E : Env} {rec : Rec} {ops : Array Oper} {n0 : Nat} {a : AAct} {σ1 : AW} {A : Nat → AAct} {S : Nat → AW} {V : Nat → Value} {N : Nat → Nat} (C : Ctx E rec ops n0 a σ1 A S V N) {p : Pair} (hp : pairPlan ops.toList (allOf E ops) = some p)
    (hq : askPair E (A ops.size) (S 0 :: statesOf (slOf E ops) 0 S) (some p) = true) : ∃ m ox oy t1 t2 a1 v1 a2 v2 τy τyx p1 u1 p2 u2, PairC E ops S A m ox oy t1 t2 a1 v1 a2 v2 τy τyx p1 u1 p2 u2 := by
  obtain ⟨pre, x, y, opre, ox, oy, g1, g2, g3, g4, g5, g6, g7, g8⟩ := pairPlan_some hp
  obtain ⟨τ, b1, o1, b2, o2, v, ty1, ty2, τy, k1, k2, k3, k4, k5, k6, k7, k8⟩ := askPair_some hq
  have hsz : ops.size = opre.length + 2 := by
    have := congrArg List.length g2
    simpa using this
  have hpl : pre.length = opre.length := by
    have := congrArg List.length g1
    rw [allOf_len] at this
    simp at this
    omega
  have gx : ops[opre.length]? = some ox := by
    have : ops.toList[opre.length]? = some ox := by rw [g2]; simp
    simpa using this
  have gy : ops[opre.length + 1]? = some oy := by
    have : ops.toList[opre.length + 1]? = some oy := by rw [g2]; simp
    simpa using this
  have hx : (allOf E ops)[opre.length]? = some x := by rw [g1, ← hpl]; simp
  have hy : (allOf E ops)[opre.length + 1]? = some y := by rw [g1, ← hpl]; simp
  have hpre : ∀ j z, j < opre.length → (allOf E ops)[j]? = some z → pre[j]? = some z := by
    intro j z hj hz
    rw [g1, List.getElem?_append_left (by omega)] at hz; exact hz
  obtain ⟨_, dx, opx⟩ := storeOf_some g3
  obtain ⟨_, dy, opy⟩ := storeOf_some g4
  have ax : isActor x.kd = true := by
    obtain ⟨o, mm, e1, _, e3⟩ := all_get hx
    rw [gx] at e1; injection e1 with e1; subst e1
    rw [e3]; show isActor (kindOf E ox) = true
    rw [kindOf_store opx]; rfl
  have ay : isActor y.kd = true := by
    obtain ⟨o, mm, e1, _, e3⟩ := all_get hy
    rw [gy] at e1; injection e1 with e1; subst e1
    rw [e3]; show isActor (kindOf E oy) = true
    rw [kindOf_store opy]; rfl
  have hτ := before2_state C hsz hx hy ax ay k1

  have hA1 : A (opre.length + 1) = A opre.length := by
    have := C.put (i := opre.length) (by omega)
    have hd : dstOf ops opre.length = none := by unfold dstOf; rw [gx]; exact dx
    rw [hd] at this
    injection this with this; exact this.symm
  have hA2 : A ops.size = A (opre.length + 1) := by
    have := C.put (i := opre.length + 1) (by omega)
    have hd : dstOf ops (opre.length + 1) = none := by unfold dstOf; rw [gy]; exact dy
    rw [hd] at this
    injection this with this
    rw [hsz]; exact this.symm
  have store : ∀ (i : Nat) (o : Oper) (t : TypeId) (a' v' : Operand), ops[i]? = some o → storeOf o = some (t, a', v') → ∃ pa u, (A i).eval a' = some pa ∧ (A i).eval v' = some u ∧ aStore E (S i) t pa u = some (S (i + 1)) := by
    intro i o t a' v' ho hs
    obtain ⟨hg, _, hop⟩ := storeOf_some hs
    obtain ⟨mm, _, hall, hsl⟩ := plan_get (E := E) ho
    have hst := (C.T.step i _ hsl).1
    generalize V i = vv at hst
    generalize A (i + 1) = aa at hst
    generalize hS1 : S (i + 1) = ss at hst ⊢
    cases hst with
    | alloc hk _ => have := kindOf_store (E := E) hop; rw [show kindOf E o = _ from hk] at this; cases this
    | quiet hk _ _ _ => have := kindOf_store (E := E) hop; rw [show kindOf E o = _ from hk] at this; cases this
    | skip hk hw _ =>
      have : (ofOper ops o).guard = none := by unfold ofOper; rw [hg]
      simp only [this] at hw
      cases hw
    | actor hk hw hop1 hput =>
      simp only [hop] at hop1
      obtain ⟨pa, u, e1, e2, e3⟩ := xStore_some hop1
      exact ⟨pa, u, e1, e2, e3⟩
  obtain ⟨p1, u1, e1, e2, e3⟩ := store _ _ _ _ _ gx g3
  obtain ⟨p2, u2, f1, f2, f3⟩ := store _ _ _ _ _ gy g4
  rw [hA2] at k2 k3 k4
  rw [hA1] at k2
  rw [e1] at k2; injection k2 with k2; subst k2
  rw [f1] at k3; injection k3 with k3; subst k3
  rw [f2] at k4; injection k4 with k4; subst k4
  rw [hτ] at k7
  obtain ⟨τyx, m1, m2⟩ := store_comm k5 k6 e3 f3 k7 k8
  refine ⟨opre.length, ox, oy, p.t1, p.t2, p.a1, p.v1, p.a2, p.v2, τy, τyx, _, u1, _, u2, ⟨hsz, gx, gy, g3, g4, fun j i z1 z2 hj hi h1 h2 hc => ?_, fun j i z1 z2 hj hi h1 h2 hc => ?_, fun j z hj hz hs => ?_, e1, e2, f1, f2, k7, m1, ?_⟩⟩
  · have := allApart_spec pre [] g5 i z2 (hpre i z2 hi h2)
    refine apart_ahead h2 this (x := z1) ?_ hc
    rw [List.nil_append, List.getElem?_take, if_pos hj]; exact hpre j z1 (by omega) h1
  · have hil : i < opre.length + 2 := by rw [← hsz, ← allOf_len E ops]; exact (List.getElem?_eq_some_iff.1 h2).1
    have : i = opre.length ∨ i = opre.length + 1 := by omega
    rcases this with rfl | rfl
    · rw [hx] at h2; injection h2 with h2; subst h2
      exact apart_ahead hx g6 (hpre j z1 hj h1) hc
    · rw [hy] at h2; injection h2 with h2; subst h2
      exact apart_ahead hy g7 (hpre j z1 hj h1) hc
  · have := aheadOfBoth_spec pre 0 g8 j z (hpre j z hj hz) hs
    rw [Nat.zero_add] at this
    obtain ⟨_, _, _, r1, r2⟩ := all_get hx
    obtain ⟨_, _, _, s1, s2⟩ := all_get hy
    refine ⟨?_, ?_⟩
    · rw [r1]
      have := this.1
      rw [r2] at this; exact this
    · rw [s1]
      have := this.2
      rw [s2] at this; exact this
  · rw [hsz]; exact m2

theorem drawn_ok {P : Program} {E : Env} (hE : Env.Ok P E) (rec : Rec) (hs : Sound P E rec) : DrawnOk P E rec := by
  intro ops a a' σ σ' h fn ro k cs φ w t ds s hr hA
  unfold drawn at h
  obtain ⟨pl, hpl, h⟩ := bnd_some h
  obtain ⟨σ1, hal, h⟩ := bnd_some h
  obtain ⟨⟨aa, σσ, ts, cc⟩, hrun, h⟩ := bnd_some h
  simp only at h
  obtain ⟨_, hask, h⟩ := bnd_some h
  obtain ⟨_, hpair, h⟩ := bnd_some h
  injection h with h; injection h with h1 h2; subst h1; subst h2
  replace hask := guardM_some hask
  replace hpair := guardM_some hpair
  obtain ⟨hlt, hsl, hcase⟩ := planOf_some hpl
  rw [hsl] at hal hrun
  obtain ⟨A, S, V, N, hT, r1, r2, r3, _, r5⟩ := runD_trace _ _ _ _ _ _ _ _ _ _ hrun
  rw [slOf_len] at r1 r2
  have hts : ts = S 0 :: statesOf (slOf E ops) 0 S := by rw [r3, hT.s0]; rfl
  have C : Ctx E rec ops σ.next a σ1 A S V N := ⟨hlt, hT, fun i sl hi hq hl hw kk τ hk hk1 hk2 => by
    have hc := r5 i sl hi hq hl hw
    have := askAgain_spec ts 0 (askAll_spec _ hask _ hc) kk τ (by rw [hts]; exact hk) (by rw [Nat.zero_add]; exact hk1) (by rw [Nat.zero_add]; exact hk2)
    exact this⟩
  have hN : ∀ (i : Nat) (s : Slot), (slOf E ops)[i]? = some s → N (i + 1) = if isAllocK s.kd then N i + 1 else N i := fun i s hi => (hT.step i s hi).2
  obtain ⟨al1, al2, al3⟩ := allocs_spec _ _ _ N hal hT.n0 hN
  have hord := lin_ord hlt s
  have hnd := ord_nodup _ _ hord
  have hfine : Fine E rec ops N A S (Region.linearise .any ops s) a σ1 := by
    rcases hcase with ⟨hap, _⟩ | ⟨p, hp1, hp2⟩
    · exact C.fine_apart hap hord
    · rw [hp2, hts, r1] at hpair
      obtain ⟨m, ox, oy, t1, t2, a1, v1, a2, v2, τy, τyx, p1, u1, p2, u2, Q⟩ := pair_ctx C hp1 hpair
      refine fine1 C Q _ _ a σ1 hord (fun j o h => by cases h) (fun h => by cases h) ⟨rfl, rfl, fun x => ?_⟩ ?_
      · have : ∀ n, valD (dstOf ops) V a.tmps.get (fun _ => false) n x = a.tmps.get x := by
          intro n
          induction n with
          | zero => rfl
          | succ n ih => simp only [valD]; rw [if_neg (by simp)]; exact ih
        rw [this]
      · have : ∀ l i, cA l i (fun _ => false) = 0 := by
          intro l
          induction l with
          | nil => intro _; rfl
          | cons s l ih => intro i; simp only [cA, ih, Bool.and_false, one]
        unfold InvM
        rw [this, ← C.T.s0]; rfl
  obtain ⟨B', τ', f1, ⟨f2, f3, f4⟩, f5⟩ := hfine
  have hp0 : Post P φ σ w φ σ1 w := {
    rel := {
      lt := fun b p hb => ⟨Nat.lt_of_lt_of_le (hr.lt b p hb).1 al1, (hr.lt b p hb).2⟩
      inj := fun b1 b2 p1 p2 e1 e2 l1 l2 e => hr.inj b1 b2 p1 p2 e1 e2 (by rw [← al2 b1 (hr.lt _ _ e1).1]; exact l1) (by rw [← al2 b2 (hr.lt _ _ e2).1]; exact l2) e
      obj := fun b p o hb ho => hr.obj b p o hb (by rw [← al2 b (hr.lt _ _ hb).1]; exact ho) }
    ext := Ext.refl _
    grow := fun _ _ h => .inl h
    keep := Keep.refl _ _
    next := al1
    aframe := fun b hb _ => al2 b hb }
  have hNlt : ∀ (i j : Nat) (si : Slot) (ei : TypeId), (slOf E ops)[i]? = some si → si.kd = .alloc ei → i < j → j ≤ (slOf E ops).length → N i < N j := by
    intro i j si ei hi hk hij hj
    have e1 := hN i si hi
    rw [hk, show isAllocK (.alloc ei) = true from rfl, if_pos rfl] at e1
    have e2 := N_mono hN (j - (i + 1)) (i + 1) (by omega)
    rw [show i + 1 + (j - (i + 1)) = j from by omega] at e2
    omega
  obtain ⟨φ', t', w', q1, q2, q3⟩ := lrun_ok hE hs (ops := ops) (sl := slOf E ops) (N := N) (fun i s hi => by
      obtain ⟨o, m, e1, _, _, e3⟩ := sl_get hi
      rw [e3]
      exact ⟨o, e1, rfl, rfl, rfl, fun e he => kindOf_alloc he⟩) (fun i j si sj ei ej hi hj hki hkj hij => by
      rcases Nat.lt_trichotomy i j with h | h | h
      · have := hNlt i j si ei hi hki h (Nat.le_of_lt (List.getElem?_eq_some_iff.1 hj).1)
        omega
      · exact h
      · have := hNlt j i sj ej hj hkj h (Nat.le_of_lt (List.getElem?_eq_some_iff.1 hi).1)
        omega) (fn := fn) (ro := ro) (k := k) (cs := cs) _ _ _ _ _ f1 hnd.2 φ w t ds hp0 hA (fun j _ s e hj hk => by
      obtain ⟨k1, k2, k3⟩ := al3 j s e hj hk
      refine ⟨hr.none_next k1, k1, k2, k3⟩)
  rw [r1, r2]
  refine ⟨φ', t', w', q1.same_obj f5, ?_, q3.trans (.one step_region_end')⟩
  refine ⟨⟨?_, fun i v hi => ?_⟩, ?_⟩
  · rw [← f2]; exact q2.1.1
  · exact q2.1.2 i v (by rw [f4]; exact hi)
  · rw [← f3]; exact q2.2
theorem run_ok {P : Program} {E : Env} (hE : Env.Ok P E) (n : Nat) : Sound P E (run E n) := run_sound hE (drawn_ok hE) n
end Go.Proofs.Qas
