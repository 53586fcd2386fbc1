/- A part of the proof of the card of licitlaw37.ConclusionDiffers. -/
import Derived.Test.YtnpfemnclccbnaaGreatDoorQF
set_option linter.unusedSectionVars false
set_option linter.unusedSimpArgs false
set_option linter.unusedVariables false
noncomputable section
namespace Go.Proofs.Qas

theorem sameFlat_eq {x y : Value} (h : sameFlat x y = true) : x = y := by
  unfold sameFlat at h
  split at h
  · split at h <;> first | rfl | cases h
  · split at h
    · rename_i hk
      rw [kindEq_eq hk]
      rw [ieq_eq] at h
      rw [eq_of_beq h]
    · cases h
  · rw [beqs_eq] at h
    have := eq_of_beq h
    congr 1
    exact ByteArray.ext (Array.ext' this)
  · rfl
  · split at h
    · rename_i hb; rw [Nat.eq_of_beq_eq_true hb, Nat.eq_of_beq_eq_true h]
    · cases h
  · rfl
  · split at h
    · rename_i hb
      split at h
      · rename_i ho
        split at h
        · rename_i hn
          rw [Nat.eq_of_beq_eq_true hb, Nat.eq_of_beq_eq_true ho, Nat.eq_of_beq_eq_true hn, Nat.eq_of_beq_eq_true h]
        · cases h
      · cases h
    · cases h
  · rfl
  · rw [Nat.eq_of_beq_eq_true h]
  · rfl
  · rfl
  · cases h
theorem sameFlats_eq : ∀ (x y : List Value), sameFlats x y = true → x = y
  | [], [], _ => rfl
  | [], _ :: _, h => by cases h
  | _ :: _, [], h => by cases h
  | a :: x, b :: y, h => by
    simp only [sameFlats] at h
    split at h
    · rename_i hab; rw [sameFlat_eq hab, sameFlats_eq x y h]
    · cases h
theorem sameV_eq {x y : Value} (h : sameV x y = true) : x = y := by
  unfold sameV at h
  split at h
  · rw [Array.ext' (sameFlats_eq _ _ h)]
  · rw [Array.ext' (sameFlats_eq _ _ h)]
  · exact sameFlat_eq h
end Go.Proofs.Qas
noncomputable section
namespace Go.Proofs.Qas

theorem apart_spec {y : St} : ∀ (l : List St) (i : Nat), apart y i l = true → ∀ k x, l[k]? = some x → clash x y = true → y.mask.testBit (i + k) = true
  | [], i, _, k, x, hx, _ => by simp at hx
  | z :: l, i, h, k, x, hx, hc => by
    unfold apart at h
    cases k with
    | zero =>
      simp at hx; subst hx
      rw [hc] at h
      simp only at h
      split at h
      · rename_i hb; simpa using hb
      · cases h
    | succ k =>
      have : apart y (Nat.succ i) l = true := by
        split at h
        · split at h
          · exact h
          · cases h
        · exact h
      have := apart_spec l (Nat.succ i) this k x (by simpa using hx) hc
      rw [show i + (k + 1) = Nat.succ i + k from by omega]
      exact this
theorem allApart_spec : ∀ (l pre : List St), allApart pre l = true → ∀ j y, l[j]? = some y → apart y 0 (pre ++ l.take j) = true
  | [], pre, _, j, y, hy => by simp at hy
  | z :: l, pre, h, j, y, hy => by
    unfold allApart at h
    split at h
    · rename_i hz
      cases j with
      | zero => simp at hy; subst hy; simpa using hz
      | succ j =>
        have := allApart_spec l (pre ++ [z]) h j y (by simpa using hy)
        simpa using this
    · cases h
theorem edgesLt_spec {j : Nat} : ∀ (l : List Edge), edgesLt j l = true → ∀ e ∈ l, Region.binds .any e = true → e.on < j
  | [], _, e, he, _ => by cases he
  | x :: l, h, e, he, hb => by
    unfold edgesLt at h
    have rest : edgesLt j l = true := by
      split at h
      · split at h
        · exact h
        · cases h
      · exact h
    rcases List.mem_cons.1 he with rfl | he
    · rw [← isBound_eq] at hb
      rw [hb] at h
      simp only at h
      split at h
      · rename_i hl; exact blt_iff.1 hl
      · cases h
    · exact edgesLt_spec l rest e he hb
theorem allLtEdges_spec : ∀ (l : List Oper) (j : Nat), allLtEdges j l = true → ∀ k o, l[k]? = some o → ∀ e ∈ o.after.toList, Region.binds .any e = true → e.on < j + k
  | [], j, _, k, o, ho => by simp at ho
  | x :: l, j, h, k, o, ho => by
    unfold allLtEdges at h
    split at h
    · rename_i hx
      cases k with
      | zero => simp at ho; subst ho; intro e he hb; exact edgesLt_spec _ hx e he hb
      | succ k =>
        intro e he hb
        have := allLtEdges_spec l (Nat.succ j) h k o (by simpa using ho) e he hb
        omega
    · cases h
end Go.Proofs.Qas
noncomputable section
namespace Go.Proofs.Qas

theorem masks_len : ∀ (l : List Oper) (acc : List Nat), (masks l acc).length = acc.length + l.length
  | [], acc => by simp [masks]
  | o :: l, acc => by simp only [masks, masks_len l, List.length_append, List.length_cons, List.length_nil]; omega
theorem stsOf_get {E : Env} {ops : Array Oper} : ∀ (l : List Oper) (ms : List Nat), ms.length = l.length → ∀ (i : Nat) (o : Oper) (m : Nat), l[i]? = some o → ms[i]? = some m → (stsOf E ops l ms)[i]? = some (stOf E ops o m)
  | [], _, _, i, o, m, ho, _ => by simp at ho
  | x :: l, [], h, _, _, _, _, _ => by simp at h
  | x :: l, y :: ms, h, i, o, m, ho, hm => by
    cases i with
    | zero => simp at ho hm; subst ho; subst hm; rfl
    | succ i => exact stsOf_get l ms (by simpa using h) i o m (by simpa using ho) (by simpa using hm)
theorem stsOf_len {E : Env} {ops : Array Oper} : ∀ (l : List Oper) (ms : List Nat), ms.length = l.length → (stsOf E ops l ms).length = l.length
  | [], [], _ => rfl
  | [], _ :: _, h => by simp at h
  | x :: l, [], h => by simp at h
  | x :: l, y :: ms, h => by simp only [stsOf, List.length_cons, stsOf_len l ms (by simpa using h)]
theorem slotsOf_get {ops : Array Oper} {all : List St} : ∀ (l : List Oper) (ss : List St) (i0 : Nat), ss.length = l.length → ∀ (i : Nat) (o : Oper) (s : St), l[i]? = some o → ss[i]? = some s →
    (slotsOf ops all i0 l ss)[i]? = some ({ guard := (ofOper ops o).guard, dst := o.dst, op := o.op, kd := s.kd, lo := actorsAhead s.mask 0 all, hi := actorsFree (i0 + i) all } : Slot)
  | [], _, _, _, i, o, m, ho, _ => by simp at ho
  | x :: l, [], _, h, _, _, _, _, _ => by simp at h
  | x :: l, y :: ms, i0, h, i, o, m, ho, hm => by
    cases i with
    | zero => simp at ho hm; subst ho; subst hm; rfl
    | succ i =>
      have := slotsOf_get (ops := ops) (all := all) l ms (Nat.succ i0) (by simpa using h) i o m (by simpa using ho) (by simpa using hm)
      rw [show i0 + (i + 1) = Nat.succ i0 + i from by omega]
      exact this
theorem slotsOf_len {ops : Array Oper} {all : List St} : ∀ (l : List Oper) (ss : List St) (i0 : Nat), ss.length = l.length → (slotsOf ops all i0 l ss).length = l.length
  | [], [], _, _ => rfl
  | [], _ :: _, _, h => by simp at h
  | x :: l, [], _, h => by simp at h
  | x :: l, y :: ms, i0, h => by simp only [slotsOf, List.length_cons, slotsOf_len l ms _ (by simpa using h)]

inductive DStep (E : Env) (rec : Rec) (s : Slot) : Nat → AAct → AW → Value → AAct → AW → Prop
  | alloc {e : TypeId} {n : Nat} {a a' : AAct} {σ : AW} (hk : s.kd = .alloc e) (hp : a.put s.dst (.pointer (some ⟨n, 0, none⟩)) = some a') : DStep E rec s n a σ (.pointer (some ⟨n, 0, none⟩)) a' σ
  | skip {n : Nat} {a a' : AAct} {σ : AW} (hk : ∀ e, s.kd ≠ .alloc e) (hw : aWanted a s.guard = some false) (hp : a.put s.dst undef = some a') : DStep E rec s n a σ undef a' σ
  | quiet {n : Nat} {a a' : AAct} {σ σ' : AW} {v : Value} {b : Bool} (hk : s.kd = .quiet b) (hw : aWanted a s.guard = some true) (ho : aOper E rec a.eval s.op σ = some (v, σ')) (hp : a.put s.dst v = some a') : DStep E rec s n a σ v a' σ
  | actor {n : Nat} {a a' : AAct} {σ σ' : AW} {v : Value} (hk : s.kd = .actor) (hw : aWanted a s.guard = some true) (ho : aOper E rec a.eval s.op σ = some (v, σ')) (hp : a.put s.dst v = some a') : DStep E rec s n a σ v a' σ'
def isAllocK : Kd → Bool
  | .alloc _ => true
  | _ => false
def isQuietOpen : Kd → Bool
  | .quiet false => true
  | _ => false

structure DTrace (E : Env) (rec : Rec) (sl : List Slot) (n : Nat) (a : AAct) (σ : AW) (A : Nat → AAct) (S : Nat → AW) (V : Nat → Value) (N : Nat → Nat) : Prop where
  a0 : A 0 = a
  s0 : S 0 = σ
  n0 : N 0 = n
  step : ∀ i s, sl[i]? = some s → DStep E rec s (N i) (A i) (S i) (V i) (A (i + 1)) (S (i + 1)) ∧ N (i + 1) = if isAllocK s.kd then N i + 1 else N i

def statesOf : List Slot → Nat → (Nat → AW) → List AW
  | [], _, _ => []
  | s :: r, i, S => match isActor s.kd with
    | true => S (i + 1) :: statesOf r (i + 1) S
    | false => statesOf r (i + 1) S
theorem statesOf_congr : ∀ (l : List Slot) (i j : Nat) (S S' : Nat → AW), (∀ k, S (i + k) = S' (j + k)) → statesOf l i S = statesOf l j S'
  | [], _, _, _, _, _ => rfl
  | s :: r, i, j, S, S', h => by
    have ih := statesOf_congr r (i + 1) (j + 1) S S' (fun k => by have := h (k + 1); rwa [show i + (k + 1) = i + 1 + k from by omega, show j + (k + 1) = j + 1 + k from by omega] at this)
    unfold statesOf
    rw [ih, show S (i + 1) = S' (j + 1) from h 1]
theorem runD_trace {E : Env} {rec : Rec} : ∀ (sl : List Slot) (n : Nat) (a a' : AAct) (σ σ' : AW) (ts ts' : List AW) (cs cs' : List Chk), runD E rec sl n a σ ts cs = some (a', σ', ts', cs') →
    ∃ A S V N, DTrace E rec sl n a σ A S V N ∧ a' = A sl.length ∧ σ' = S sl.length ∧ ts' = ts ++ statesOf sl 0 S ∧ (∀ c ∈ cs, c ∈ cs') ∧
      ∀ i s, sl[i]? = some s → isQuietOpen s.kd = true → s.lo < s.hi → aWanted (A i) s.guard = some true → ({ op := s.op, act := A i, v := V i, lo := s.lo, hi := s.hi } : Chk) ∈ cs'
  | [], n, a, a', σ, σ', ts, ts', cs, cs', h => by
    injection h with h; injection h with h1 h; injection h with h2 h; injection h with h3 h4
    subst h1; subst h2; subst h3; subst h4
    exact ⟨fun _ => a, fun _ => σ, fun _ => undef, fun _ => n, ⟨rfl, rfl, rfl, fun i s hs => by simp at hs⟩, rfl, rfl, by simp [statesOf], fun c hc => hc, fun i s hs => by simp at hs⟩
  | s :: r, n, a, a', σ, σ', ts, ts', cs, cs', h => by

    have glue : ∀ (v : Value) (n1 : Nat) (a1 : AAct) (σ1 : AW) (ts1 : List AW) (cs1 : List Chk), DStep E rec s n a σ v a1 σ1 → n1 = (if isAllocK s.kd then n + 1 else n) → ts1 = (if isActor s.kd then ts ++ [σ1] else ts) →
        (∀ c ∈ cs, c ∈ cs1) → (isQuietOpen s.kd = true → s.lo < s.hi → aWanted a s.guard = some true → ({ op := s.op, act := a, v := v, lo := s.lo, hi := s.hi } : Chk) ∈ cs1) → runD E rec r n1 a1 σ1 ts1 cs1 = some (a', σ', ts', cs') →
        ∃ A S V N, DTrace E rec (s :: r) n a σ A S V N ∧ a' = A (s :: r).length ∧ σ' = S (s :: r).length ∧ ts' = ts ++ statesOf (s :: r) 0 S ∧ (∀ c ∈ cs, c ∈ cs') ∧
          ∀ i s', (s :: r)[i]? = some s' → isQuietOpen s'.kd = true → s'.lo < s'.hi → aWanted (A i) s'.guard = some true → ({ op := s'.op, act := A i, v := V i, lo := s'.lo, hi := s'.hi } : Chk) ∈ cs' := by
      intro v n1 a1 σ1 ts1 cs1 hst hn1 hts hcs hck hrun
      obtain ⟨A, S, V, N, hT, h1, h2, h3, h4, h5⟩ := runD_trace r n1 a1 a' σ1 σ' ts1 ts' cs1 cs' hrun
      refine ⟨fun i => match i with | 0 => a | i + 1 => A i, fun i => match i with | 0 => σ | i + 1 => S i, fun i => match i with | 0 => v | i + 1 => V i, fun i => match i with | 0 => n | i + 1 => N i, ⟨rfl, rfl, rfl, fun i s' hs' => ?_⟩, h1, h2, ?_, fun c hc => h4 c (hcs c hc), fun i s' hs' hq hlt hw => ?_⟩
      · cases i with
        | zero =>
          simp at hs'; subst hs'
          refine ⟨?_, ?_⟩
          · simp only [hT.a0, hT.s0]; exact hst
          · simp only [hT.n0]; exact hn1
        | succ i => exact hT.step i s' (by simpa using hs')
      · rw [h3, hts]
        have e : statesOf r 0 S = statesOf r 1 (fun i => match i with | 0 => σ | i + 1 => S i) := statesOf_congr r 0 1 _ _ (fun k => by rw [Nat.zero_add, Nat.add_comm 1 k])
        have e2 : ∀ S' : Nat → AW, statesOf (s :: r) 0 S' = match isActor s.kd with | true => S' 1 :: statesOf r 1 S' | false => statesOf r 1 S' := fun _ => rfl
        rw [e2, e]
        cases hk : isActor s.kd
        · simp
        · simp [hT.s0]
      · cases i with
        | zero => simp at hs'; subst hs'; exact h4 _ (hck hq hlt hw)
        | succ i => exact h5 i s' (by simpa using hs') hq hlt hw
    unfold runD at h
    split at h
    · rename_i e hk
      replace h := bnd_some h
      obtain ⟨a1, ha1, h⟩ := h
      exact glue _ _ _ _ _ _ (.alloc hk ha1) (by simp [hk, isAllocK]) (by simp [hk, isActor]) (fun c hc => hc) (fun hq => by simp [hk, isQuietOpen] at hq) h
    · rename_i b hk
      replace h := bnd_some h
      obtain ⟨w, hw, h⟩ := h
      split at h
      · replace h := bnd_some h
        obtain ⟨a1, ha1, h⟩ := h
        exact glue _ _ _ _ _ _ (.skip (fun e he => by rw [hk] at he; cases he) hw ha1) (by simp [hk, isAllocK]) (by simp [hk, isActor]) (fun c hc => hc) (fun _ _ hw' => by rw [hw] at hw'; cases hw') h
      · replace h := bnd_some h
        obtain ⟨⟨v, σ1⟩, ho, h⟩ := h
        replace h := bnd_some h
        obtain ⟨a1, ha1, h⟩ := h
        refine glue _ _ _ _ _ _ (.quiet hk hw ho ha1) (by simp [hk, isAllocK]) (by simp [hk, isActor]) (fun c hc => ?_) (fun hq hlt _ => ?_) h
        · unfold chkOf
          split
          · split
            · exact List.mem_cons_of_mem _ hc
            · exact hc
          · exact hc
        · unfold chkOf
          rw [hk] at hq ⊢
          cases b with
          | true => simp [isQuietOpen] at hq
          | false => simp only [blt_iff.2 hlt]; exact List.mem_cons_self
    · rename_i hk
      replace h := bnd_some h
      obtain ⟨w, hw, h⟩ := h
      split at h
      · replace h := bnd_some h
        obtain ⟨a1, ha1, h⟩ := h
        exact glue _ _ _ _ _ _ (.skip (fun e he => by rw [hk] at he; cases he) hw ha1) (by simp [hk, isAllocK]) (by simp [hk, isActor]) (fun c hc => hc) (fun hq => by simp [hk, isQuietOpen] at hq) h
      · replace h := bnd_some h
        obtain ⟨⟨v, σ1⟩, ho, h⟩ := h
        replace h := bnd_some h
        obtain ⟨a1, ha1, h⟩ := h
        exact glue _ _ _ _ _ _ (.actor hk hw ho ha1) (by simp [hk, isAllocK]) (by simp [hk, isActor]) (fun c hc => hc) (fun hq => by simp [hk, isQuietOpen] at hq) h
end Go.Proofs.Qas
noncomputable section
namespace Go.Proofs.Qas

def updB (D : Nat → Bool) (i : Nat) : Nat → Bool := fun j => if j = i then true else D j
theorem updB_same (D : Nat → Bool) (i : Nat) : updB D i i = true := by simp [updB]
theorem updB_other (D : Nat → Bool) {i j : Nat} (h : j ≠ i) : updB D i j = D j := by simp [updB, h]
theorem updB_mono {D : Nat → Bool} {i j : Nat} (h : D j = true) : updB D i j = true := by
  by_cases e : j = i
  · subst e; exact updB_same _ _
  · rw [updB_other _ e]; exact h

def MayGo (ops : Array Oper) (D : Nat → Bool) (i : Nat) : Prop := ∃ o, ops[i]? = some o ∧ D i = false ∧ ∀ e ∈ o.after, Region.binds .any e = true → D e.on = true
inductive Ord (ops : Array Oper) : (Nat → Bool) → List Nat → Prop
  | nil {D : Nat → Bool} (h : ∀ i, i < ops.size → D i = true) : Ord ops D []
  | cons {D : Nat → Bool} {i : Nat} {L : List Nat} (h : MayGo ops D i) (r : Ord ops (updB D i) L) : Ord ops D (i :: L)
def cntF (D : Nat → Bool) : Nat → Nat
  | 0 => 0
  | n + 1 => cntF D n + (if D n = true then 0 else 1)
theorem cntF_zero {D : Nat → Bool} : ∀ {n : Nat}, cntF D n = 0 → ∀ j, j < n → D j = true
  | 0, _, j, hj => by omega
  | n + 1, h, j, hj => by
    simp only [cntF] at h
    by_cases e : D n = true
    · rw [if_pos e] at h
      rcases Nat.lt_or_ge j n with h1 | h1
      · exact cntF_zero (n := n) (by omega) j h1
      · have : j = n := by omega
        subst this; exact e
    · rw [if_neg e] at h; omega
theorem cntF_pos {D : Nat → Bool} : ∀ {n : Nat}, cntF D n ≠ 0 → ∃ i, i < n ∧ D i = false ∧ ∀ j, j < i → D j = true
  | 0, h => (h rfl).elim
  | n + 1, h => by
    by_cases e : cntF D n = 0
    · simp only [cntF, e] at h
      by_cases e1 : D n = true
      · rw [if_pos e1] at h; exact (h rfl).elim
      · exact ⟨n, by omega, by simpa using e1, fun j hj => cntF_zero e j hj⟩
    · obtain ⟨i, h1, h2, h3⟩ := cntF_pos e
      exact ⟨i, by omega, h2, h3⟩
theorem cntF_congr {D D' : Nat → Bool} : ∀ {n : Nat}, (∀ j, j < n → D j = D' j) → cntF D n = cntF D' n
  | 0, _ => rfl
  | n + 1, h => by simp only [cntF]; rw [cntF_congr (n := n) (fun j hj => h j (by omega)), h n (by omega)]
theorem cntF_upd {D : Nat → Bool} {i : Nat} (hi : D i = false) : ∀ {n : Nat}, i < n → cntF (updB D i) n + 1 = cntF D n
  | 0, h => by omega
  | n + 1, h => by
    simp only [cntF]
    by_cases e : i = n
    · subst e
      rw [updB_same, hi, cntF_congr (n := i) (D' := D) (fun j hj => updB_other _ (by omega))]
      simp
    · rw [updB_other _ (fun e' => e e'.symm)]
      have := cntF_upd (D := D) hi (n := n) (by omega)
      omega
theorem go_ord {ops : Array Oper} (hlt : ∀ i o, ops[i]? = some o → ∀ e ∈ o.after, Region.binds .any e = true → e.on < i) :
    ∀ (fuel s : Nat) (listed : Array Bool), listed.size = ops.size → cntF (fun j => listed.getD j false) ops.size ≤ fuel → Ord ops (fun j => listed.getD j false) (Region.linearise.go .any ops fuel s listed []) := by
  intro fuel
  induction fuel with
  | zero =>
    intro s listed _ hc
    exact .nil (cntF_zero (by omega))
  | succ fuel ih =>
    intro s listed hsz hc
    by_cases h0 : cntF (fun j => listed.getD j false) ops.size = 0
    · have hall := cntF_zero h0
      have hr : Region.ready .any ops listed = [] := by
        rw [List.eq_nil_iff_forall_not_mem]
        intro j hj
        obtain ⟨h1, o, ho, _⟩ := mem_ready.1 hj
        have hj' := (Array.getElem?_eq_some_iff.1 ho).1
        have h2 := hall j hj'
        have h3 : j < listed.size := by omega
        simp [Array.getD, h3] at h1 h2
        rw [h1] at h2; cases h2
      have : Region.linearise.go .any ops (fuel + 1) s listed [] = [] := by
        simp only [Region.linearise.go]
        change (match (Region.ready .any ops listed)[s % (Region.ready .any ops listed).length]? with
          | some i => Region.linearise.go .any ops fuel (s / (Region.ready .any ops listed).length) (listed.setIfInBounds i true) [i]
          | none => [].reverse) = _
        rw [hr]
        rfl
      rw [this]
      exact .nil hall
    · have hne : Region.ready .any ops listed ≠ [] := by
        obtain ⟨i, h1, h2, h3⟩ := cntF_pos h0
        intro he
        have hi : i < listed.size := by omega
        have : i ∈ Region.ready .any ops listed := by
          rw [mem_ready]
          refine ⟨?_, ops[i], Array.getElem?_eq_getElem h1, fun e he hb => h3 _ (hlt i _ (Array.getElem?_eq_getElem h1) e he hb)⟩
          simp [Array.getD, hi] at h2 ⊢
          exact h2
        rw [he] at this; cases this
      obtain ⟨i, s', hi, hgo⟩ := go_step (fuel := fuel) (s := s) hne
      rw [hgo]
      obtain ⟨h1, o, ho, h2⟩ := mem_ready.1 hi
      have hio := (Array.getElem?_eq_some_iff.1 ho).1
      have hil : i < listed.size := by omega
      have hD : (fun j => (listed.setIfInBounds i true).getD j false) = updB (fun j => listed.getD j false) i := by
        funext j
        by_cases e : j = i
        · subst e; rw [updB_same]; simp [Array.getD, hil]
        · rw [updB_other _ e, getD_set_ne false (fun e' => e e'.symm)]
      have hf : (fun j => listed.getD j false) i = false := by simpa [Array.getD, hil] using h1
      refine .cons ⟨o, ho, hf, fun e he hb => h2 e he hb⟩ ?_
      rw [← hD]
      refine ih s' _ (by simpa using hsz) ?_
      rw [hD]
      have := cntF_upd (D := fun j => listed.getD j false) hf hio
      omega
theorem lin_ord {ops : Array Oper} (h : allLtEdges 0 ops.toList = true) (s : Nat) : Ord ops (fun _ => false) (Region.linearise .any ops s) := by
  have hlt : ∀ i o, ops[i]? = some o → ∀ e ∈ o.after, Region.binds .any e = true → e.on < i := fun i o ho e he hb => by
    have := allLtEdges_spec ops.toList 0 h i o (by simpa using ho) e (by simpa using he) hb
    omega
  have hb : ∀ n, cntF (fun _ => false) n = n := by
    intro n
    induction n with
    | zero => rfl
    | succ n ih => simp only [cntF, ih]; rfl
  have e : (fun j => (Array.replicate ops.size false).getD j false) = fun _ => false := by
    funext j
    simp [Array.getD]
  have := go_ord hlt ops.size s (Array.replicate ops.size false) (by simp) (by rw [e, hb]; exact Nat.le_refl _)
  rw [e] at this
  exact this

theorem Down.upd {ops : Array Oper} {D : Nat → Bool} (h : Down ops (fun j => D j = true)) {i : Nat} (hi : MayGo ops D i) : Down ops (fun j => updB D i j = true) := by
  intro j o hj ho e he hb
  by_cases e1 : j = i
  · subst e1
    obtain ⟨o', h1, _, h3⟩ := hi
    rw [ho] at h1; injection h1 with h1; subst h1
    exact updB_mono (h3 e he hb)
  · have hj' : updB D i j = true := hj
    rw [updB_other _ e1] at hj'
    exact updB_mono (h j o hj' ho e he hb)
theorem ahead_lt {ops : Array Oper} (h : allLtEdges 0 ops.toList = true) : ∀ (j i : Nat), ahead ops i j = true → i < j := by
  intro j
  induction j using Nat.strongRecOn with
  | _ j ih =>
    intro i h1
    unfold ahead at h1
    rw [nth_eq] at h1
    cases hm : (masks ops.toList [])[j]? with
    | none => rw [hm] at h1; simp at h1
    | some m =>
      rw [hm] at h1
      simp only at h1
      rcases masks_get _ _ _ _ hm with ⟨h2, _⟩ | ⟨o, h2, _, h3⟩
      · simp at h2
      · simp at h2
        rw [h3] at h1
        obtain ⟨e, e1, e2, e3⟩ := edgeMask_bit _ _ _ h1
        have hlt : e.on < j := by
          have := allLtEdges_spec ops.toList 0 h j o (by simpa using h2) e e1 e2
          omega
        rcases e3 with e3 | ⟨m', e3, e4⟩
        · omega
        · rw [List.getElem?_take, if_pos hlt] at e3
          have := ih e.on hlt i (by unfold ahead; rw [nth_eq, e3]; exact e4)
          omega

def valD (dst : Nat → Option Tmp) (V : Nat → Value) (g : Tmp → Option Value) (D : Nat → Bool) : Nat → Tmp → Option Value
  | 0, x => g x
  | n + 1, x => if D n = true ∧ dst n = some x then some (V n) else valD dst V g D n x
section
variable {dst : Nat → Option Tmp} {V : Nat → Value} {g : Tmp → Option Value} {D D' : Nat → Bool} {x : Tmp}
theorem valD_congr : ∀ {n : Nat}, (∀ j, j < n → dst j = some x → D j = D' j) → valD dst V g D n x = valD dst V g D' n x
  | 0, _ => rfl
  | n + 1, h => by
    simp only [valD]
    rw [valD_congr (n := n) (fun j hj => h j (by omega))]
    by_cases e : dst n = some x
    · rw [h n (by omega) e]
    · simp [e]
theorem valD_cut {i : Nat} : ∀ {n : Nat}, i ≤ n → (∀ j, i ≤ j → j < n → dst j = some x → D j = false) → valD dst V g D n x = valD dst V g D i x
  | 0, h, _ => by have : i = 0 := by omega
                  subst this; rfl
  | n + 1, h, h1 => by
    by_cases e : i = n + 1
    · subst e; rfl
    · simp only [valD]
      rw [if_neg, valD_cut (n := n) (by omega) (fun j a b => h1 j a (by omega))]
      rintro ⟨h2, h3⟩
      rw [h1 n (by omega) (by omega) h3] at h2; cases h2
theorem valD_hit {i : Nat} : ∀ {n : Nat}, i < n → dst i = some x → D i = true → (∀ j, i < j → j < n → dst j = some x → D j = false) → valD dst V g D n x = some (V i)
  | 0, h, _, _, _ => by omega
  | n + 1, h, h1, h2, h3 => by
    have := valD_cut (V := V) (g := g) (D := D) (x := x) (dst := dst) (i := i + 1) (n := n + 1) (by omega) (fun j a b => h3 j (by omega) b)
    rw [this]
    simp only [valD]
    rw [if_pos ⟨h2, h1⟩]
end
theorem put_get {a a' : AAct} {d : Option Tmp} {v : Value} (h : a.put d v = some a') : a'.nt = a.nt ∧ a'.defers = a.defers ∧ ∀ x, a'.tmps.get x = if d = some x then some v else a.tmps.get x := by
  cases d with
  | none => injection h with h; subst h; exact ⟨rfl, rfl, fun x => by simp⟩
  | some d =>
    obtain ⟨nt, tm, de⟩ := a
    unfold AAct.put at h
    simp only at h
    split at h
    · injection h with h; subst h
      refine ⟨rfl, rfl, fun x => ?_⟩
      show (tm.set d (some v)).get x = _
      rw [Tr.get_set]
      by_cases e : x = d
      · subst e; simp
      · rw [if_neg e, if_neg (by simpa using fun e' => e e'.symm)]
    · exact (fail_some h).elim
theorem put_also {a a' B : AAct} {d : Option Tmp} {v : Value} (h : a.put d v = some a') (hn : B.nt = a.nt) (u : Value) : ∃ B', B.put d u = some B' := by
  cases d with
  | none => exact ⟨B, rfl⟩
  | some d =>
    obtain ⟨nt, tm, de⟩ := a
    obtain ⟨nt', tm', de'⟩ := B
    simp only at hn
    subst hn
    unfold AAct.put at h ⊢
    simp only at h ⊢
    split at h
    · exact ⟨_, rfl⟩
    · exact (fail_some h).elim
theorem DStep.put {E : Env} {rec : Rec} {s : Slot} {n : Nat} {a a' : AAct} {σ σ' : AW} {v : Value} (h : DStep E rec s n a σ v a' σ') : a.put s.dst v = some a' := by
  cases h <;> assumption
theorem meets_of_bit {a b : Nat} {t : Nat} (ha : a.testBit t = true) (hb : b.testBit t = true) : meets a b = true := by
  unfold meets
  have h : (Nat.land a b).testBit t = true := by
    show (a &&& b).testBit t = true
    rw [Nat.testBit_and, ha, hb]; rfl
  split
  · rename_i h0; rw [h0] at h; simp at h
  · rfl
theorem dstMask_bit (d : Tmp) : (dstMask (some d)).testBit d = true := by
  show (1 <<< d).testBit d = true
  rw [Nat.one_shiftLeft, Nat.testBit_two_pow]; simp
theorem tmpMask_bit {t : Tmp} : ∀ {l : List Operand}, Operand.tmp t ∈ l → (tmpMask l).testBit t = true
  | [], h => by cases h
  | x :: l, h => by
    unfold tmpMask
    rcases List.mem_cons.1 h with h | h
    · subst h
      show ((1 <<< t) ||| tmpMask l).testBit t = true
      rw [Nat.testBit_or, Nat.one_shiftLeft, Nat.testBit_two_pow]; simp
    · have ih := tmpMask_bit h
      split
      · rename_i u
        show ((1 <<< u) ||| tmpMask l).testBit t = true
        rw [Nat.testBit_or, ih]; simp
      · exact ih
end Go.Proofs.Qas
noncomputable section
namespace Go.Proofs.Qas

inductive AStep (E : Env) (rec : Rec) (s : Slot) (n : Nat) : AAct → AW → AAct → AW → Prop
  | alloc {e : TypeId} {B B' : AAct} {τ : AW} (hk : s.kd = .alloc e) (hp : B.put s.dst (.pointer (some ⟨n, 0, none⟩)) = some B') : AStep E rec s n B τ B' τ
  | skip {B B' : AAct} {τ : AW} (hk : ∀ e, s.kd ≠ .alloc e) (hw : aWanted B s.guard = some false) (hp : B.put s.dst undef = some B') : AStep E rec s n B τ B' τ
  | run {B B' : AAct} {τ τ' : AW} {v : Value} (hk : ∀ e, s.kd ≠ .alloc e) (hw : aWanted B s.guard = some true) (ho : aOper E rec B.eval s.op τ = some (v, τ')) (hp : B.put s.dst v = some B') : AStep E rec s n B τ B' τ'
inductive LRun (E : Env) (rec : Rec) (sl : List Slot) (N : Nat → Nat) : List Nat → AAct → AW → AAct → AW → Prop
  | nil {B : AAct} {τ : AW} : LRun E rec sl N [] B τ B τ
  | cons {i : Nat} {L : List Nat} {s : Slot} {B B1 B' : AAct} {τ τ1 τ' : AW} (hs : sl[i]? = some s) (h : AStep E rec s (N i) B τ B1 τ1) (r : LRun E rec sl N L B1 τ1 B' τ') : LRun E rec sl N (i :: L) B τ B' τ'

theorem Post.realise {P : Program} {φ0 φ : Phi} {σ0 τ : AW} {w0 w w' : World} (h : Post P φ0 σ0 w0 φ τ w) {b : Nat} {o : AObj} {O : Obj} (hb : φ b = none) (h0 : σ0.next ≤ b) (h1 : b < τ.next) (ho : τ.obj b = some o)
    (e : SameBut w { w' with heap := w.heap }) (hw : w'.heap = w.heap.push O) (p : PB) (hp : p.blk = w.heap.size) (hO : OR P (φ.upd b p) w' p o) : Post P φ0 σ0 w0 (φ.upd b p) τ w' := {
  rel := {
    lt := fun c q hc => by
      by_cases hn : c = b
      · subst hn
        rw [Phi.upd_same] at hc; injection hc with hc; subst hc
        rw [hw, hp, Array.size_push]
        exact ⟨h1, Nat.lt_succ_self _⟩
      · rw [Phi.upd_other _ _ hn] at hc
        have := h.rel.lt c q hc
        rw [hw, Array.size_push]
        exact ⟨this.1, by omega⟩
    inj := fun b1 b2 p1 p2 e1 e2 l1 l2 e => by
      by_cases h1 : b1 = b
      · by_cases h2 : b2 = b
        · rw [h1, h2]
        · subst h1
          rw [Phi.upd_same] at e1; injection e1 with e1; subst e1
          rw [Phi.upd_other _ _ h2] at e2
          have := (h.rel.lt b2 p2 e2).2; omega
      · by_cases h2 : b2 = b
        · subst h2
          rw [Phi.upd_same] at e2; injection e2 with e2; subst e2
          rw [Phi.upd_other _ _ h1] at e1
          have := (h.rel.lt b1 p1 e1).2; omega
        · rw [Phi.upd_other _ _ h1] at e1
          rw [Phi.upd_other _ _ h2] at e2
          exact h.rel.inj b1 b2 p1 p2 e1 e2 l1 l2 e
    obj := fun c q o' hc ho' => by
      by_cases hn : c = b
      · subst hn
        rw [Phi.upd_same] at hc; injection hc with hc; subst hc
        rw [ho] at ho'; injection ho' with ho'; subst ho'
        exact hO
      · rw [Phi.upd_other _ _ hn] at hc
        refine ((h.rel.obj c q o' hc ho').ext (Phi.upd_ext p hb)).congr ?_
        rw [hw, Array.getElem?_push, if_neg]
        have := (h.rel.lt c q hc).2; omega }
  ext := h.ext.trans (Phi.upd_ext p hb)
  grow := fun c q hc => by
    by_cases hn : c = b
    · subst hn
      rw [Phi.upd_same] at hc; injection hc with hc; subst hc
      exact .inr ⟨h0, .inl (by rw [hp]; exact h.keep.size)⟩
    · rw [Phi.upd_other _ _ hn] at hc; exact h.grow c q hc
  keep := ⟨e.os.trans h.keep.os, e.tape.trans h.keep.tape, e.output.trans h.keep.output, by rw [hw, Array.size_push]; have := h.keep.size; omega, fun c hc hn => by
    rw [hw, Array.getElem?_push, if_neg (by have := h.keep.size; omega)]; exact h.keep.block c hc hn⟩
  next := h.next
  aframe := h.aframe }

def SameS (τ τ' : AW) : Prop := τ.next = τ'.next ∧ ∀ b, τ.obj b = τ'.obj b
theorem Post.same_obj {P : Program} {φ0 φ : Phi} {σ0 τ τ' : AW} {w0 w : World} (h : Post P φ0 σ0 w0 φ τ w) (e : SameS τ τ') : Post P φ0 σ0 w0 φ τ' w := {
  rel := {
    lt := fun b p hb => by rw [← e.1]; exact h.rel.lt b p hb
    inj := fun b1 b2 p1 p2 e1 e2 l1 l2 e' => h.rel.inj b1 b2 p1 p2 e1 e2 (by rw [e.2]; exact l1) (by rw [e.2]; exact l2) e'
    obj := fun b p o hb ho => h.rel.obj b p o hb (by rw [e.2]; exact ho) }
  ext := h.ext
  grow := h.grow
  keep := h.keep
  next := by rw [← e.1]; exact h.next
  aframe := fun b hb hn => by rw [← e.2]; exact h.aframe b hb hn }

section
variable {P : Program} {E : Env} (hE : Env.Ok P E) {rec : Rec} (hs : Sound P E rec)
include hE hs
theorem lrun_ok {ops : Array Oper} {sl : List Slot} {N : Nat → Nat} (hsl : ∀ (i : Nat) (s : Slot), sl[i]? = some s → ∃ o, ops[i]? = some o ∧ s.guard = (ofOper ops o).guard ∧ s.dst = o.dst ∧ s.op = o.op ∧ (∀ e, s.kd = .alloc e → o.op = .alloc e ∧ o.guard = none))
    (hN : ∀ (i j : Nat) (si sj : Slot) (ei ej : TypeId), sl[i]? = some si → sl[j]? = some sj → si.kd = .alloc ei → sj.kd = .alloc ej → N i = N j → i = j)
    {φ0 : Phi} {σ0 : AW} {w0 : World} {fn : FuncId} {ro : Option Nat} {k : List Item} {cs : List Frame} :
    ∀ (L : List Nat) (B B' : AAct) (τ τ' : AW), LRun E rec sl N L B τ B' τ' → L.Nodup → ∀ φ w t ds, Post P φ0 σ0 w0 φ τ w → AR φ B t ds →
      (∀ j ∈ L, ∀ s e, sl[j]? = some s → s.kd = .alloc e → φ (N j) = none ∧ σ0.next ≤ N j ∧ N j < τ.next ∧ ∃ z, aZero E e = some z ∧ τ.obj (N j) = some (.cells { cells := z.cells.toList, elem := e, frz := false, ex := true })) →
      ∃ φ' t' w', Post P φ0 σ0 w0 φ' τ' w' ∧ AR φ' B' t' ds ∧ Steps P (lone (fr fn ro t ds (.inRegion ops L :: k)) cs w) (lone (fr fn ro t' ds (.inRegion ops [] :: k)) cs w')
  | [], B, B', τ, τ', h, _, φ, w, t, ds, hp, hA, _ => by
    cases h
    exact ⟨φ, t, w, hp, hA, Steps.refl (P := P) _⟩
  | i :: L, B, B', τ, τ', h, hnd, φ, w, t, ds, hp, hA, hW => by
    cases h with
    | cons hsi hst hr =>
    rename_i s B1 τ1
    obtain ⟨o, ho, hg, hd, hop, hal⟩ := hsl i s hsi
    have hnd' := (List.nodup_cons.1 hnd)
    cases hst with
    | alloc hk hput =>
      rename_i e
      obtain ⟨g1, g2⟩ := hal e hk
      obtain ⟨q1, q2, q3, z, q4, q5⟩ := hW i (by simp) s e hsi hk
      obtain ⟨ty, hty, _, hz, hv⟩ := aZero_ok hE q4
      have hrow : ∀ φ', OR P φ' { w with heap := w.heap.push (.cells z.cells e) } ⟨w.heap.size, z.cells.size, ty.size⟩ (.cells { cells := z.cells.toList, elem := e, frz := false, ex := true }) := fun φ' => by
        refine ⟨z.cells, (0, 0), by simp, rfl, (ty_ok hE hty).size_, fun j v hj => ?_, fun _ j _ => by omega, fun _ => by simp⟩
        have := LR.row (hv φ').cells j v hj
        simpa using this
      have hp1 := hp.realise (w' := { w with heap := w.heap.push (.cells z.cells e) }) q1 q2 q3 q5 ⟨rfl, rfl, rfl, rfl⟩ rfl ⟨w.heap.size, z.cells.size, ty.size⟩ rfl (hrow _)
      have hx := Phi.upd_ext (φ := φ) (b := N i) ⟨w.heap.size, z.cells.size, ty.size⟩ q1
      have hA1 := (hA.ext hx).put hput (VR.ptr (φ := φ.upd (N i) ⟨w.heap.size, z.cells.size, ty.size⟩) (o := 0) (Phi.upd_same _ _ _))
      have hrun : Runs P (fr fn ro t ds (.inRegion ops (i :: L) :: k)) cs (execOp (evalT t) o) w { w with heap := w.heap.push (.cells z.cells e) } (.pointer (some ⟨w.heap.size, 0, none⟩)) := by
        refine .inl ?_
        simp [execOp, g1, Instr.alloc, hz, newVar, newRow]
      have st := steps_op ho (by simp [Region.wanted, g2]) (fun c e' => by rw [g1] at e'; cases e') hrun
      rw [← hd] at st
      obtain ⟨φ', t', w', r1, r2, r3⟩ := lrun_ok hsl hN L B1 B' τ τ' hr hnd'.2 _ _ _ ds hp1 hA1 (fun j hj sj ej hsj hkj => by
        obtain ⟨u1, u2, u3, u4⟩ := hW j (by simp [hj]) sj ej hsj hkj
        refine ⟨?_, u2, u3, u4⟩
        rw [Phi.upd_other]
        · exact u1
        · intro e'
          have := hN i j s sj e ej hsi hsj hk hkj e'.symm
          subst this
          exact hnd'.1 hj)
      exact ⟨φ', t', w', r1, r2, st.trans r3⟩
    | skip hk hw hput =>
      have hw' := aWanted_ok hA (hg ▸ hw)
      have hA1 := hA.put hput (undef_VR φ)
      obtain ⟨φ', t', w', r1, r2, r3⟩ := lrun_ok hsl hN L B1 B' τ τ' hr hnd'.2 _ _ _ ds hp hA1 (fun j hj => hW j (by simp [hj]))
      refine ⟨φ', t', w', r1, r2, .head ?_ r3⟩
      have := step_op_skip' (P := P) (fn := fn) (ro := ro) (t := t) (ds := ds) (k := k) (cs := cs) (w := w) (ops := ops) (i := i) (rest := L) (by simp [ho, hw'])
      rw [ho] at this
      rw [hd]
      exact this
    | run hk hw hop1 hput =>
      rename_i v
      have hw' := aWanted_ok hA (hg ▸ hw)
      rw [hop] at hop1
      obtain ⟨⟨φ1, v', w1, p1, p2, p3⟩, p4⟩ := aOper_ok hE hs hp.rel hA.eval hop1 (fr fn ro t ds (.inRegion ops (i :: L) :: k)) cs
      have st := steps_op ho hw' p4 p3
      rw [← hd] at st
      have hA1 := (hA.ext p1.ext).put hput p2
      obtain ⟨φ', t', w', r1, r2, r3⟩ := lrun_ok hsl hN L B1 B' τ1 τ' hr hnd'.2 _ _ _ ds (hp.trans p1) hA1 (fun j hj sj ej hsj hkj => by
        obtain ⟨u1, u2, u3, z, u4, u5⟩ := hW j (by simp [hj]) sj ej hsj hkj
        refine ⟨?_, u2, Nat.lt_of_lt_of_le u3 p1.next, z, u4, ?_⟩
        · cases e1 : φ1 (N j) with
          | none => rfl
          | some p =>
            rcases p1.grow _ _ e1 with e2 | ⟨e2, _⟩
            · rw [u1] at e2; cases e2
            · omega
        · rw [p1.aframe _ u3 u1]; exact u5)
      exact ⟨φ', t', w', r1, r2, st.trans r3⟩
end
end Go.Proofs.Qas
noncomputable section
namespace Go.Proofs.Qas

def one (b : Bool) : Nat := match b with | true => 1 | false => 0
def cA : List Kd → Nat → (Nat → Bool) → Nat
  | [], _, _ => 0
  | s :: r, i, D => one (isActor s && D i) + cA r (i + 1) D
theorem cA_congr : ∀ (l : List Kd) (i : Nat) {D D' : Nat → Bool}, (∀ k s, l[k]? = some s → isActor s = true → D (i + k) = D' (i + k)) → cA l i D = cA l i D'
  | [], _, _, _, _ => rfl
  | s :: r, i, D, D', h => by
    simp only [cA]
    rw [cA_congr r (i + 1) (D := D) (D' := D') (fun k s' hk ha => by have := h (k + 1) s' (by simpa using hk) ha; rwa [show i + (k + 1) = i + 1 + k from by omega] at this)]
    cases e : isActor s with
    | true => rw [show D i = D' i from h 0 s (by simp) e]
    | false => rfl
theorem cA_upd_not : ∀ (l : List Kd) (i m : Nat) {D : Nat → Bool}, (∀ k s, l[k]? = some s → i + k = m → isActor s = false) → cA l i (updB D m) = cA l i D := by
  intro l i m D h
  refine cA_congr l i (fun k s hk ha => ?_)
  rw [updB_other]
  intro e
  rw [h k s hk e] at ha; cases ha
theorem cA_upd : ∀ (l : List Kd) (i m : Nat) {D : Nat → Bool} {s : Kd}, l[m]? = some s → isActor s = true → D (i + m) = false → cA l i (updB D (i + m)) = cA l i D + 1
  | [], _, _, _, _, h, _, _ => by simp at h
  | s :: r, i, 0, D, s', h, ha, hD => by
    simp at h; subst h
    replace hD : D i = false := hD
    simp only [cA, Nat.add_zero]
    rw [cA_congr r (i + 1) (D := updB D i) (D' := D) (fun k s hk _ => updB_other _ (by omega))]
    rw [updB_same, hD, ha]
    simp only [one, Bool.and_true, Bool.and_false]; omega
  | s :: r, i, m + 1, D, s', h, ha, hD => by
    simp only [cA]
    have := cA_upd r (i + 1) m (D := D) (s := s') (by simpa using h) ha (by rw [show i + 1 + m = i + (m + 1) from by omega]; exact hD)
    rw [show i + 1 + m = i + (m + 1) from by omega] at this
    rw [this, updB_other _ (show i ≠ i + (m + 1) from by omega)]
    omega
theorem ahead_le {m : Nat} : ∀ (all : List St) (i : Nat) {D : Nat → Bool}, (∀ k x, all[k]? = some x → isActor x.kd = true → m.testBit (i + k) = true → D (i + k) = true) → actorsAhead m i all ≤ cA (all.map (·.kd)) i D
  | [], _, _, _ => by simp [actorsAhead]
  | x :: r, i, D, h => by
    have ih := ahead_le (m := m) r (i + 1) (D := D) (fun k y hk ha hb => by
      have := h (k + 1) y (by simpa using hk) ha (by rw [show i + (k + 1) = i + 1 + k from by omega]; exact hb)
      rwa [show i + (k + 1) = i + 1 + k from by omega] at this)
    unfold actorsAhead
    simp only [List.map_cons, cA]
    cases ha : isActor x.kd with
    | true =>
      cases hb : m.testBit i with
      | true =>
        have hd : D i = true := h 0 x (by simp) ha hb
        simp only [hd, one, Bool.and_true, Nat.succ_eq_add_one] at ih ⊢; omega
      | false => simp only [Nat.succ_eq_add_one] at ih ⊢; omega
    | false => simp only [Nat.succ_eq_add_one] at ih ⊢; omega
theorem le_free {m : Nat} : ∀ (all : List St) (i : Nat) {D : Nat → Bool}, (∀ k x, all[k]? = some x → isActor x.kd = true → D (i + k) = true → x.mask.testBit m = false) → cA (all.map (·.kd)) i D ≤ actorsFree m all
  | [], _, _, _ => by simp [cA]
  | x :: r, i, D, h => by
    have ih := le_free (m := m) r (i + 1) (D := D) (fun k y hk ha hb => h (k + 1) y (by simpa using hk) ha (by rw [show i + (k + 1) = i + 1 + k from by omega]; exact hb))
    unfold actorsFree
    simp only [List.map_cons, cA]
    cases ha : isActor x.kd with
    | true =>
      cases hb : x.mask.testBit m with
      | true =>
        have hd : D i = false := by
          cases hd : D i with
          | false => rfl
          | true => have := h 0 x (by simp) ha hd
                    rw [this] at hb; cases hb
        simp only [hd, one, Bool.and_false] at ih ⊢; omega
      | false =>
        cases hd : D i <;> simp only [one, Bool.and_false, Bool.and_true, Nat.succ_eq_add_one] <;> omega
    | false => simp only [one, Bool.false_and]; omega

theorem states_at : ∀ (l : List Slot) (i : Nat) (S : Nat → AW), (∀ k s, l[k]? = some s → isActor s.kd = false → S (i + k + 1) = S (i + k)) → ∀ m, m ≤ l.length →
    (S i :: statesOf l i S)[cA (l.map (·.kd)) i (fun j => decide (j < i + m))]? = some (S (i + m))
  | [], i, S, _, m, hm => by
    have : m = 0 := by simpa using hm
    subst this
    simp [cA]
  | s :: r, i, S, h, 0, _ => by
    have : cA ((s :: r).map (·.kd)) i (fun j => decide (j < i + 0)) = 0 := by
      have h0 : ∀ (l : List Kd) (i' : Nat), i ≤ i' → cA l i' (fun j => decide (j < i + 0)) = 0 := by
        intro l
        induction l with
        | nil => intro _ _; rfl
        | cons x l ih =>
          intro i' hi
          simp only [cA]
          rw [ih (i' + 1) (by omega), show decide (i' < i + 0) = false from by simp; omega]
          simp [one]
      exact h0 _ _ (Nat.le_refl _)
    rw [this]; rfl
  | s :: r, i, S, h, m + 1, hm => by
    have ih := states_at r (i + 1) S (fun k s' hk ha => by have := h (k + 1) s' (by simpa using hk) ha; rwa [show i + (k + 1) = i + 1 + k from by omega] at this) m (by simpa using hm)
    rw [show i + 1 + m = i + (m + 1) from by omega] at ih
    simp only [List.map_cons, cA]
    unfold statesOf
    cases ha : isActor s.kd with
    | true =>
      rw [show decide (i < i + (m + 1)) = true from by simp]
      simp only [one, Bool.and_true, Nat.add_comm 1]
      rw [List.getElem?_cons_succ]
      exact ih
    | false =>
      simp only [one, Bool.false_and, Nat.zero_add]
      have := h 0 s (by simp) ha
      simp only [Nat.add_zero] at this
      rw [← this]
      exact ih
end Go.Proofs.Qas
