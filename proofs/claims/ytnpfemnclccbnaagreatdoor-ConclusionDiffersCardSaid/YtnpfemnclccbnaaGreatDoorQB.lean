/- A part of the proof of the card of licitlaw37.ConclusionDiffers. -/
import Derived.Test.YtnpfemnclccbnaaGreatDoorQA
import Derived.Laws.Strings
import Derived.Laws.StructEq
import Derived.Laws.Cells
import Derived.Laws.IdiomCopy
import Derived.Laws.Append
import Derived.Laws.Tables
import Derived.Lib.UnsafeStr
import Derived.Lib.AppendStr
set_option linter.unusedSectionVars false
set_option linter.unusedSimpArgs false
set_option linter.unusedVariables false
namespace Go.Proofs.Qas

theorem bnd_some {α β : Type} {x : M α} {f : α → M β} {b : β} (h : bnd x f = some b) : ∃ a, x = some a ∧ f a = some b := by
  cases x with
  | none => simp [bnd] at h
  | some a => exact ⟨a, rfl, h⟩
theorem guardM_some {b : Bool} {s : String} {u : Unit} (h : guardM b s = some u) : b = true := by
  cases b with
  | true => rfl
  | false => simp [guardM, fail] at h
theorem ofOpt_some {α : Type} {s : String} {x : Option α} {a : α} (h : ofOpt s x = some a) : x = some a := by
  cases x with
  | none => simp [ofOpt, fail] at h
  | some b => simpa [ofOpt] using h
theorem fail_some {α : Type} {s : String} {a : α} (h : (fail s : M α) = some a) : False := by simp [fail] at h

structure TyOk (P : Program) (t : TypeId) (d : Ty) : Prop where
  und : P.underlying t = some d.desc
  info : ∃ i, P.info? t = some i ∧ i.size = d.size ∧ i.bytes = d.bytes ∧ i.zero = d.zero
  eqg : d.eqg = P.eqGuardType P.depth t
  stood : d.stood = P.stoodInHeld t
def ExtOk (P : Program) (f : FuncId) (s : Stub) : Prop :=
  ∀ φ σ w args args' v σ', Rel P φ σ w → LR φ args args' → s args σ = some (v, σ') →
    ∃ φ' v' w', Post P φ σ w φ' σ' w' ∧ VR φ' v v' ∧ (callFunc f args'.toArray).run P w = .ok (.value v') w'
def StubOk (P : Program) (f : FuncId) (s : Stub) : Prop :=
  (∀ args w, (callFunc f args).run P w = .ok (.enter f args) w) ∧
  ∀ φ σ w args args' v σ', Rel P φ σ w → LR φ args args' → s args σ = some (v, σ') →
    Calls P f args'.toArray w fun e w' => ∃ φ' v', e = .returned v' ∧ VR φ' v v' ∧ Post P φ σ w φ' σ' w'
def pureStub (g : Pur) : Stub := fun args σ => bnd (g args) fun v => some (v, σ)
def PureOk (P : Program) (f : FuncId) (g : Pur) : Prop := ExtOk P f (pureStub g) ∨ StubOk P f (pureStub g)
structure Env.Ok (P : Program) (E : Env) : Prop where
  types : ∀ t d, E.types.get t = some d → TyOk P t d
  funcs : ∀ f fn, E.funcs.get f = some fn → P.funcs[f]? = some fn ∧ ∀ args w, (callFunc f args).run P w = .ok (.enter f args) w
  exts : ∀ f s, E.exts.get f = some s → ExtOk P f s
  stubs : ∀ f s, E.stubs.get f = some s → StubOk P f s
  pures : ∀ f g, E.pures.get f = some g → PureOk P f g
  mixed : P.follows .mixedOrders = true

section
variable {P : Program} {E : Env} (hE : Env.Ok P E)
include hE
theorem ty_ok {t : TypeId} {d : Ty} (h : E.ty t = some d) : TyOk P t d := hE.types t d (ofOpt_some h)
end
section
variable {P : Program} {t : TypeId} {d : Ty} (h : TyOk P t d) (w : World)
include h
theorem TyOk.run_und : (underlying t).run P w = .ok d.desc w := by simp [underlying, h.und]
theorem TyOk.run_size : (sizeOf t).run P w = .ok d.size w := by
  obtain ⟨i, hi, hs, _⟩ := h.info
  simp [sizeOf, typeInfo, hi, hs]
theorem TyOk.run_bytes : ∃ i, (typeInfo t).run P w = .ok i w ∧ i.bytes = d.bytes ∧ i.size = d.size := by
  obtain ⟨i, hi, hs, hb, _⟩ := h.info
  exact ⟨i, by simp [typeInfo, hi], hb, hs⟩
theorem TyOk.run_zero {z : Value} (hz : d.zero = some z) : (zeroValue t).run P w = .ok z w := by
  obtain ⟨i, hi, _, _, h0⟩ := h.info
  simp [zeroValue, typeInfo, hi, h0, hz]
theorem TyOk.run_agg : (isAgg t).run P w = .ok (isAggD d.desc) w := by
  simp only [isAgg, Sem.run_bind, h.run_und, Result.andThen_ok]
  cases d.desc <;> simp [isAggD]
theorem TyOk.size_ : (P.info? t).map (·.size) = some d.size := by
  obtain ⟨i, hi, hs, _⟩ := h.info
  simp [hi, hs]
end

theorem blt_iff {a b : Nat} : Nat.blt a b = true ↔ a < b := by rw [Nat.blt_eq]
theorem blt_false {a b : Nat} (h : Nat.blt a b = false) : ¬ a < b := fun e => by rw [blt_iff.2 e] at h; cases h
theorem blt_no {a b : Nat} (h : ¬ a < b) : Nat.blt a b = false := Bool.eq_false_iff.2 (fun e => h (blt_iff.1 e))
theorem halfOf_eq (k : IntKind) : halfOf k = 2 ^ (k.bits - 1) := by cases k <;> rfl
theorem iadd_eq (a b : Int) : iadd a b = a + b := by cases a <;> cases b <;> rfl
theorem imul_eq (a b : Int) : imul a b = a * b := by cases a <;> cases b <;> rfl
theorem isub_eq (a b : Int) : isub a b = a - b := by
  cases a <;> cases b <;> try rfl
  rename_i a b
  simp only [isub]
  split
  · rename_i h
    have := Nat.le_of_ble_eq_true h
    show ((a - b : Nat) : Int) = (a : Int) - (b : Int)
    omega
  · rfl
theorem fwrap_eq (k : IntKind) (n : Int) : fwrap k n = k.wrap n := by
  unfold fwrap
  cases n with
  | negSucc m => rfl
  | ofNat m =>
    dsimp only
    split
    · rename_i h
      have h' : m < 2 ^ (k.bits - 1) := by rw [← halfOf_eq]; exact blt_iff.1 h
      unfold IntKind.wrap
      have hb : 1 ≤ k.bits := by cases k <;> decide
      have h2 : (2 : Nat) ^ k.bits = 2 * 2 ^ (k.bits - 1) := by
        rw [← Nat.pow_succ']; congr 1; omega
      have h3 : (Int.ofNat m) % (2 ^ k.bits : Int) = Int.ofNat m := by
        apply Int.emod_eq_of_lt
        · exact Int.natCast_nonneg m
        · have : (m : Int) < ((2 ^ k.bits : Nat) : Int) := by exact_mod_cast (by omega)
          simpa using this
      simp only [h3]
      have h4 : ¬ (Int.ofNat m ≥ (2 ^ (k.bits - 1) : Int)) := by
        have : (m : Int) < ((2 ^ (k.bits - 1) : Nat) : Int) := by exact_mod_cast h'
        have e : ((2 ^ (k.bits - 1) : Nat) : Int) = (2 ^ (k.bits - 1) : Int) := by simp
        rw [e] at this
        exact Int.not_le.2 this
      rw [if_neg]
      intro h5
      rw [Bool.and_eq_true, decide_eq_true_eq] at h5
      exact h4 h5.2
    · rfl
theorem ilt_eq (a b : Int) : ilt a b = decide (a < b) := by
  cases a <;> cases b <;> simp only [ilt]
  · rename_i a b
    by_cases h : a < b
    · rw [blt_iff.2 h]; exact (decide_eq_true (by simpa using h)).symm
    · rw [blt_no h]; exact (decide_eq_false (by simpa using h)).symm
  · rename_i a b
    exact (decide_eq_false (by have := Int.natCast_nonneg a; show ¬ ((a : Int) < Int.negSucc b); omega)).symm
  · rename_i a b
    exact (decide_eq_true (by have := Int.natCast_nonneg b; show Int.negSucc a < (b : Int); omega)).symm
  · rename_i a b
    by_cases h : b < a
    · rw [blt_iff.2 h]; exact (decide_eq_true (by omega)).symm
    · rw [blt_no h]; exact (decide_eq_false (by omega)).symm
theorem ieq_eq (a b : Int) : ieq a b = (a == b) := by
  rw [Bool.eq_iff_iff, beq_iff_eq]
  cases a <;> cases b <;> simp [ieq] <;> omega
theorem toN_some {n : Int} {k : Nat} (h : toN n = some k) : n = (k : Int) := by
  cases n with
  | ofNat m => simp [toN] at h; subst h; rfl
  | negSucc m => simp [toN, fail] at h
theorem nth_eq {α : Type} : ∀ (l : List α) (n : Nat), nth l n = l[n]?
  | [], n => rfl
  | _ :: _, 0 => rfl
  | _ :: l, n + 1 => by rw [List.getElem?_cons_succ]; exact nth_eq l n
theorem beqs_eq : ∀ (x y : List UInt8), beqs x y = (x == y) := by
  intro x
  induction x with
  | nil => intro y; cases y <;> rfl
  | cons a x ih =>
    intro y
    cases y with
    | nil => rfl
    | cons b y =>
      rw [beqs_cc]
      by_cases h : a = b
      · subst h; simp [ih]
      · have hn : Nat.beq a.toNat b.toNat = false := by
          rw [Bool.eq_false_iff]; intro e; exact h (UInt8.toNat_inj.1 (Nat.eq_of_beq_eq_true e))
        rw [hn]; simp [h]
theorem blts_eq : ∀ (x y : List UInt8), blts x y = Op.bytesLess x y := by
  intro x
  induction x with
  | nil => intro y; cases y <;> rfl
  | cons a x ih =>
    intro y
    cases y with
    | nil => rfl
    | cons b y =>
      simp only [blts, Op.bytesLess]
      by_cases h : a.toNat < b.toNat
      · rw [blt_iff.2 h]; simp [UInt8.lt_iff_toNat_lt, h]
      · rw [blt_no h]
        have h' : ¬ a < b := by rw [UInt8.lt_iff_toNat_lt]; exact h
        by_cases e : a = b
        · subst e; simp [ih]
        · have hn : Nat.beq a.toNat b.toNat = false := by
            rw [Bool.eq_false_iff]; intro e'; exact e (UInt8.toNat_inj.1 (Nat.eq_of_beq_eq_true e'))
          rw [hn]; simp [e, h']
theorem kindEq_eq {a b : IntKind} (h : kindEq a b = true) : a = b := by cases a <;> cases b <;> simp_all [kindEq]
theorem toList_data (s : ByteArray) : s.toList = s.data.toList := by
  exact ByteArray.toList_eq s

theorem aInt_ok {op : BinOp} {k : IntKind} {a b : Int} {v : Value} (h : aInt op k a b = some v) (P : Program) (w : World) (t : TypeId) :
    (binOp op t (.int k a) (.int k b)).run P w = .ok v w ∧ (∀ φ, VR φ v v) := by
  cases op <;> simp only [aInt] at h <;> first
    | (exact (fail_some h).elim)
    | (injection h with h; subst h
       refine ⟨?_, fun φ => by constructor⟩
       first
         | (simp [binOp, Op.intArith, fwrap_eq, iadd_eq, isub_eq, imul_eq]; done)
         | (simp [binOp, Op.intBits]; done)
         | (simp [binOp, Op.intCmp, ieq_eq, ilt_eq, bne]; done)
         | (simp [binOp, Op.intCmp, ieq_eq, ilt_eq, ← Int.not_lt]; done))
    | (split at h
       · exact (fail_some h).elim
       · rename_i hb
         injection h with h; subst h
         rw [ieq_eq, beq_eq_false_iff_ne] at hb
         refine ⟨?_, fun φ => by constructor⟩
         simp [binOp, Op.intDiv, hb, fwrap_eq])
theorem aShift_ok {op : BinOp} (hop : op = .shl ∨ op = .shr) {k k' : IntKind} {a b : Int} {v : Value} (h : aShift op k a b = some v) (P : Program) (w : World) (t : TypeId) :
    (binOp op t (.int k a) (.int k' b)).run P w = .ok v w ∧ (∀ φ, VR φ v v) := by
  cases b with
  | negSucc m => simp [aShift, fail] at h
  | ofNat m =>
    rcases hop with rfl | rfl <;> simp only [aShift] at h <;> (injection h with h; subst h; refine ⟨?_, fun φ => by constructor⟩)
    · have h0 : ¬ ((m : Int) < 0) := by omega
      simp [binOp, Op.shift, fwrap_eq, h0]
    · have h0 : ¬ ((m : Int) < 0) := by omega
      simp [binOp, Op.shift, h0]
theorem aStr_ok {op : BinOp} {a b : ByteArray} {v : Value} (h : aStr op a b = some v) (P : Program) (w : World) (t : TypeId) :
    (binOp op t (.string a) (.string b)).run P w = .ok v w ∧ (∀ φ, VR φ v v) := by
  cases op <;> simp only [aStr] at h <;> first
    | (exact (fail_some h).elim)
    | (injection h with h; subst h
       refine ⟨?_, fun φ => by constructor⟩
       simp [binOp, Op.stringOp, beqs_eq, blts_eq, toList_data])
    | (split at h
       · rename_i hb
         injection h with h; subst h
         have hb' := Nat.le_of_ble_eq_true hb
         refine ⟨?_, fun φ => by constructor⟩
         have h1 : ¬ (((a.size + b.size : Nat) : Int) > IntKind.i64.max) := by
           have e1 : a.size = a.data.toList.length := rfl
           have e2 : b.size = b.data.toList.length := rfl
           have e3 : IntKind.i64.max = 9223372036854775807 := by decide
           rw [e3]; omega
         have h2 : (⟨(a.data.toList ++ b.data.toList).toArray⟩ : ByteArray) = a ++ b := by
           apply ByteArray.ext
           simp
         rw [h2]
         simp only [binOp, Op.stringOp]
         rw [if_neg h1]
         rfl
       · exact (fail_some h).elim)

section
variable {P : Program} {E : Env} (hE : Env.Ok P E)
include hE
theorem aPart_ok {φ : Phi} {t : TypeId} {cs cs' : List Value} {off : Nat} {v : Value} (h : aPart E t cs off = some v) (hl : LR φ cs cs') (w : World) :
    ∃ v', VR φ v v' ∧ (part t cs'.toArray off).run P w = .ok v' w := by
  obtain ⟨ty, hty, h⟩ := bnd_some h
  have ht := ty_ok hE hty
  split at h
  · rename_i ha
    split at h
    · rename_i hb
      injection h with h; subst h
      refine ⟨_, LR.agg ((hl.drop off).take ty.size), ?_⟩
      simp only [part, Sem.run_bind, ht.run_agg, Result.andThen_ok, ha, if_true, ht.run_size, Sem.run_pure]
      congr 2
      apply Array.ext'
      rw [Array.toList_extract]
      simp [List.extract]
    · exact (fail_some h).elim
  · rename_i ha
    have hv := ofOpt_some h
    rw [nth_eq] at hv
    obtain ⟨v', h1, h2⟩ := hl.at_ hv
    refine ⟨v', h2, ?_⟩
    simp [part, ht.run_agg, ha, h1]
end

theorem aEq_ok {P : Program} {E : Env} (hE : Env.Ok P E) : ∀ (d D : Nat), d ≤ D → ∀ (t : TypeId) (x y : Value) (b : Bool) (φ : Phi) (x' y' : Value) (w : World),
    aEq E d t x y = some b → VR φ x x' → VR φ y y' → (Op.equalIn D t x' y').run P w = .ok b w := by
  intro d
  induction d with
  | zero => intro D _ t x y b φ x' y' w h; simp [aEq, fail] at h
  | succ d ih =>
    intro D hD t x y b φ x' y' w h hx hy
    obtain ⟨D, rfl⟩ : ∃ n, D = n + 1 := ⟨D - 1, by omega⟩
    unfold aEq at h
    split at h
    · cases hx; cases hy
      obtain ⟨ty, hty, h⟩ := bnd_some h
      have ht := ty_ok hE hty
      split at h
      · rename_i hd
        injection h with h; subst h
        exact run_equalIn_bool' w D t _ _ (by rw [ht.und, hd])
      · exact (fail_some h).elim
    · cases hx; cases hy
      obtain ⟨ty, hty, h⟩ := bnd_some h
      have ht := ty_ok hE hty
      split at h
      · rename_i hd
        split at h
        · rename_i hk
          injection h with h; subst h
          have := kindEq_eq hk
          subst this
          rw [run_equalIn_int w D t _ _ _ _ (by rw [ht.und, hd]), ieq_eq]
        · exact (fail_some h).elim
      · exact (fail_some h).elim
    · cases hx; cases hy
      obtain ⟨ty, hty, h⟩ := bnd_some h
      have ht := ty_ok hE hty
      split at h
      · rename_i hd
        injection h with h; subst h
        rw [run_equalIn_string w D t _ _ (by rw [ht.und, hd]), beqs_eq, toList_data, toList_data]
      · exact (fail_some h).elim
    · rename_i xs ys
      cases hx with
      | agg hc1 hx1 =>
      cases hy with
      | agg hc2 hy1 =>
      rename_i xs' ys'
      obtain ⟨ty, hty, h⟩ := bnd_some h
      have ht := ty_ok hE hty
      split at h
      · exact (fail_some h).elim
      · rename_i hst
        split at h
        · rename_i fields hd
          have hst' : P.stoodInHeld t = false := by rw [← ht.stood]; exact hst
          have hf : P.fieldsOf t = fields := by simp [Program.fieldsOf, ht.und, hd]
          rw [run_equalIn_struct w D t xs' ys' (by rw [hf, ht.und, hd]) hst', hf]
          have hX := LR.of_array hc1 hx1
          have hY := LR.of_array hc2 hy1
          revert h
          generalize fields.toList = fs
          intro h
          induction fs with
          | nil => simp [fieldsEq] at h; subst h; rfl
          | cons f fs ihf =>
            unfold fieldsEq at h
            split at h
            · exact (fail_some h).elim
            · rename_i hname
              obtain ⟨a, ha, h⟩ := bnd_some h
              obtain ⟨a2, ha2, h⟩ := bnd_some h
              obtain ⟨r, hr, h⟩ := bnd_some h
              obtain ⟨a', hva, hpa⟩ := aPart_ok hE ha hX w
              obtain ⟨a2', hva2, hpa2⟩ := aPart_ok hE ha2 hY w
              simp only [Array.toArray_toList] at hpa hpa2
              have heq := ih D (by omega) f.type a a2 r φ a' a2' w hr hva hva2
              have hn : f.name ≠ "_" := by simpa using hname
              simp only [Op.eqFields, if_pos hn, Sem.run_bind, hpa, hpa2, heq, Result.andThen_ok, Sem.run_ite, Sem.run_pure]
              split at h
              · rw [if_neg (by simp)]
                exact ihf h
              · injection h with h; subst h
                simp
        · exact (fail_some h).elim
    · exact (fail_some h).elim

def opLit (x y : Operand) : Bool := isLit x || isLit y
theorem eqD_ok {P : Program} {d : TypeDesc} {t : TypeId} {x y x' y' : Value} {b : Bool} {φ : Phi} (h : eqD d x y = some b) (ht : P.underlying t = some d)
    (hx : VR φ x x') (hy : VR φ y y') (w : World) (n : Nat) : (Op.equalIn (n + 1) t x' y').run P w = .ok b w := by
  have hu : ∀ w, (underlying t).run P w = .ok d w := fun w => by simp [underlying, ht]
  unfold eqD at h
  split at h <;> first
    | (exact (fail_some h).elim)
    | (injection h with h; subst h
       cases hx <;> cases hy <;> (rw [Op.equalIn]; simp only [Sem.run_bind, hu, Result.andThen_ok]; rfl))
theorem aEqTop_ok {P : Program} {E : Env} (hE : Env.Ok P E) {o1 o2 : Operand} {t : TypeId} {x y x' y' : Value} {b : Bool} {φ : Phi} {op : BinOp}
    (h : aEqTop E (isLit o1 || isLit o2) t x y = some b) (hx : VR φ x x') (hy : VR φ y y') (w : World) :
    (eqGuard op t o1 o2 x' y').run P w = .ok () w ∧ (Op.equal t x' y').run P w = .ok b w := by
  unfold aEqTop at h
  split at h
  · obtain ⟨u, hl, h⟩ := bnd_some h
    obtain ⟨ty, hty, h⟩ := bnd_some h
    have ht := ty_ok hE hty
    cases hx; cases hy
    have hlit := guardM_some hl
    split at h
    · rename_i hd
      injection h with h; subst h
      refine ⟨?_, by show (Op.equalIn (9999 + 1) t _ _).run P w = _; rw [Op.equalIn]; simp only [Sem.run_bind, ht.run_und, hd, Result.andThen_ok]; rfl⟩
      cases op <;> (try rfl) <;> (cases o1 <;> cases o2 <;> first | rfl | (simp [isLit] at hlit; done))
    · exact (fail_some h).elim
  · obtain ⟨ty, hty, h⟩ := bnd_some h
    have ht := ty_ok hE hty
    split at h
    · exact (fail_some h).elim
    · rename_i hg
      cases hx with
      | agg hc1 hx1 =>
      cases hy with
      | agg hc2 hy1 =>
      refine ⟨run_eqGuard_agg w op t o1 o2 _ _ (by rw [← ht.eqg]; exact hg), ?_⟩
      exact aEq_ok hE 100 10000 (by omega) t _ _ b φ _ _ w h (.agg hc1 hx1) (.agg hc2 hy1)
  · rename_i hn ha
    obtain ⟨ty, hty, h⟩ := bnd_some h
    have ht := ty_ok hE hty
    refine ⟨?_, eqD_ok h ht.und hx hy w 9999⟩
    cases op <;> (try rfl) <;> (cases hx <;> cases hy <;> first | rfl | (exact (hn rfl rfl).elim) | (exact (ha _ _ rfl rfl).elim))

theorem aEqTop_form {P : Program} {E : Env} {l : Bool} {t : TypeId} {x y x' y' : Value} {b : Bool} {φ : Phi} (op : BinOp) (hop : op = .eql ∨ op = .neq)
    (h : aEqTop E l t x y = some b) (hx : VR φ x x') (hy : VR φ y y') (w : World) (hr : (Op.equal t x' y').run P w = .ok b w) :
    (binOp op t x' y').run P w = .ok (.bool (if op = .eql then b else !b)) w := by
  have e1 : (binOp .eql t x' y') = (do pure (.bool (← Op.equal t x' y'))) ∧ (binOp .neq t x' y') = (do pure (.bool (!(← Op.equal t x' y')))) := by
    unfold aEqTop at h
    split at h
    · cases hx; cases hy; exact ⟨rfl, rfl⟩
    · cases hx; cases hy; exact ⟨rfl, rfl⟩
    · obtain ⟨ty, _, h⟩ := bnd_some h
      unfold eqD at h
      split at h <;> first
        | (exact (fail_some h).elim)
        | (cases hx <;> cases hy <;> exact ⟨rfl, rfl⟩)
  rcases hop with rfl | rfl
  · rw [e1.1]; simp only [Sem.run_bind, hr, Result.andThen_ok, Sem.run_pure, if_true]
  · rw [e1.2]; simp only [Sem.run_bind, hr, Result.andThen_ok, Sem.run_pure]; rfl

theorem aBin_ok {P : Program} {E : Env} (hE : Env.Ok P E) {o1 o2 : Operand} {op : BinOp} {t : TypeId} {x y x' y' v : Value} {φ : Phi}
    (h : aBin E (isLit o1 || isLit o2) op t x y = some v) (hx : VR φ x x') (hy : VR φ y y') (w : World) :
    VR φ v v ∧ (do eqGuard op t o1 o2 x' y'; binOp op t x' y').run P w = .ok v w := by
  have hgi : ∀ k a k' b, (eqGuard op t o1 o2 (.int k a) (.int k' b)).run P w = .ok () w := fun k a k' b => by cases op <;> rfl
  have hgs : ∀ a b, (eqGuard op t o1 o2 (.string a) (.string b)).run P w = .ok () w := fun a b => by cases op <;> rfl
  unfold aBin at h
  split at h
  · cases hx; cases hy
    rw [Sem.run_bind, hgi, Result.andThen_ok]
    split at h
    · obtain ⟨h1, h2⟩ := aShift_ok (.inl rfl) h P w t; exact ⟨h2 φ, h1⟩
    · obtain ⟨h1, h2⟩ := aShift_ok (.inr rfl) h P w t; exact ⟨h2 φ, h1⟩
    · split at h
      · rename_i hk
        have := kindEq_eq hk
        subst this
        obtain ⟨h1, h2⟩ := aInt_ok h P w t; exact ⟨h2 φ, h1⟩
      · exact (fail_some h).elim
  · cases hx; cases hy
    rw [Sem.run_bind, hgs, Result.andThen_ok]
    obtain ⟨h1, h2⟩ := aStr_ok h P w t; exact ⟨h2 φ, h1⟩
  · rename_i hi hs
    split at h
    · obtain ⟨r, hr, h⟩ := bnd_some h
      injection h with h; subst h
      obtain ⟨g1, g2⟩ := aEqTop_ok hE (op := .eql) hr hx hy w
      refine ⟨.bool _, ?_⟩
      rw [Sem.run_bind, g1, Result.andThen_ok]
      exact aEqTop_form .eql (.inl rfl) hr hx hy w g2
    · obtain ⟨r, hr, h⟩ := bnd_some h
      injection h with h; subst h
      obtain ⟨g1, g2⟩ := aEqTop_ok hE (op := .neq) hr hx hy w
      refine ⟨.bool _, ?_⟩
      rw [Sem.run_bind, g1, Result.andThen_ok]
      exact aEqTop_form .neq (.inr rfl) hr hx hy w g2
    · exact (fail_some h).elim
theorem aUn_ok {P : Program} {op : UnOp} {x x' v : Value} {φ : Phi} (h : aUn op x = some v) (hx : VR φ x x') (w : World) : VR φ v v ∧ (Op.unary op x').run P w = .ok v w := by
  unfold aUn at h
  split at h
  · cases hx
    injection h with h; subst h
    exact ⟨.int _ _, by simp [Op.unary, Op.intArith, fwrap_eq]⟩
  · cases hx
    injection h with h; subst h
    exact ⟨.bool _, by simp [Op.unary]⟩
  · cases hx
    simp only [aInt] at h
    injection h with h; subst h
    exact ⟨.int _ _, by simp [Op.unary, Op.intBits]⟩
  · exact (fail_some h).elim
theorem binF_eq (E : Env) (lit : Bool) (op : BinOp) (t : TypeId) (x y v : Value) (h : runF2 (binF E lit op t) x y = some v) : aBin E lit op t x y = some v := by
  unfold binF at h
  unfold aBin
  cases op <;> simp only [runF2] at h <;> first
    | exact h
    | (split at h <;> first
        | (exact (fail_some h).elim)
        | (split at h
           · rename_i hk; simp only [hk, aInt, aStr]; exact h
           · exact (fail_some h).elim)
        | exact h
        | (simp only [aStr]; exact h))
    | (split at h
       · split at h
         · rename_i hk; simp only [hk, aInt]; exact h
         · exact (fail_some h).elim
       · simp only [aStr]; exact h
       · rename_i h1 h2
         split
         · exact (h1 _ _ _ _ rfl rfl).elim
         · exact (h2 _ _ rfl rfl).elim
         · exact h)
end Go.Proofs.Qas
namespace Go.Proofs.Qas

theorem OR.congr {P : Program} {φ : Phi} {w w' : World} {p : PB} {o : AObj} (h : OR P φ w p o) (e : w'.heap[p.blk]? = w.heap[p.blk]?) : OR P φ w' p o := by
  cases o with
  | cells B => obtain ⟨cur, fr, h1, h2⟩ := h; exact ⟨cur, fr, e.trans h1, h2⟩
  | map es clock => obtain ⟨es', h1, h2⟩ := h; exact ⟨es', e.trans h1, h2⟩
  | miter m since seen stepped =>
    cases m with
    | none => exact e.trans h
    | some m => obtain ⟨q, h1, h2⟩ := h; exact ⟨q, h1, e.trans h2⟩
  | iter s pos => exact e.trans h
  | loop => obtain ⟨t, q, h1, h2, h3⟩ := h; exact ⟨t, q, h1, h2, e.trans h3⟩
  | deferred on => exact e.trans h
theorem ER.ext {φ φ' : Phi} (e : Ext φ φ') {es : List AEnt} {es' : Array MapEntry} (h : ER φ es es') : ER φ' es es' := ⟨h.1.ext e, h.2.1.ext e, h.2.2⟩
theorem OR.ext {P : Program} {φ φ' : Phi} (x : Ext φ φ') {w : World} {p : PB} {o : AObj} (h : OR P φ w p o) : OR P φ' w p o := by
  cases o with
  | cells B =>
    obtain ⟨cur, fr, h1, h2, h3, h4, h5⟩ := h
    exact ⟨cur, fr, h1, h2, h3, fun i v hv => let ⟨v', a, b⟩ := h4 i v hv; ⟨v', a, b.ext x⟩, h5⟩
  | map es clock => obtain ⟨es', h1, h2⟩ := h; exact ⟨es', h1, h2.ext x⟩
  | miter m since seen stepped =>
    cases m with
    | none => exact h
    | some m => obtain ⟨q, h1, h2⟩ := h; exact ⟨q, x _ _ h1, h2⟩
  | iter s pos => exact h
  | loop => obtain ⟨t, q, h1, h2, h3⟩ := h; exact ⟨t, q, x _ _ h1, h2.ext x, h3⟩
  | deferred on => exact h

structure Turned (c : Nat) (w w' : World) : Prop where
  os : w'.os = w.os
  tape : w'.tape = w.tape
  output : w'.output = w.output
  size : w'.heap.size = w.heap.size
  other : ∀ i, i ≠ c → w'.heap[i]? = w.heap[i]?
theorem Turned.refl (c : Nat) (w : World) : Turned c w w := ⟨rfl, rfl, rfl, rfl, fun _ _ => rfl⟩
theorem Turned.trans {c : Nat} {a b d : World} (h : Turned c a b) (k : Turned c b d) : Turned c a d :=
  ⟨k.os.trans h.os, k.tape.trans h.tape, k.output.trans h.output, k.size.trans h.size, fun i hi => (k.other i hi).trans (h.other i hi)⟩

theorem Rel.turn {P : Program} {φ : Phi} {σ : AW} {w w' : World} {b : Nat} {p : PB} {o : AObj} (h : Rel P φ σ w) (hp : φ b = some p) (hl : σ.obj b ≠ none) (ht : Turned p.blk w w')
    (ho : OR P φ w' p o) : Post P φ σ w φ (σ.put b (some o)) w' := {
  rel := {
    lt := fun b' p' e => ⟨(h.lt b' p' e).1, by rw [ht.size]; exact (h.lt b' p' e).2⟩
    inj := fun b1 b2 p1 p2 e1 e2 l1 l2 e => by
      refine h.inj b1 b2 p1 p2 e1 e2 ?_ ?_ e
      · rw [AW.obj_put] at l1; split at l1
        · rename_i hb; subst hb; exact hl
        · exact l1
      · rw [AW.obj_put] at l2; split at l2
        · rename_i hb; subst hb; exact hl
        · exact l2
    obj := fun b' p' o' e e' => by
      rw [AW.obj_put] at e'
      split at e'
      · rename_i hb; subst hb
        injection e' with e'; subst e'
        rw [hp] at e; injection e with e; subst e
        exact ho
      · rename_i hb
        refine (h.obj b' p' o' e e').congr (ht.other _ fun hc => ?_)
        exact hb (h.inj b' b p' p e hp (by rw [e']; simp) hl hc) }
  ext := Ext.refl _
  grow := fun _ _ e => .inl e
  keep := ⟨ht.os, ht.tape, ht.output, by rw [ht.size]; exact Nat.le_refl _, fun c _ hn => ht.other c (fun e => hn b p hp e.symm)⟩
  next := Nat.le_refl _
  aframe := fun b' _ e => by
    rw [AW.obj_put]
    rw [if_neg]
    rintro rfl
    rw [hp] at e; cases e }

noncomputable def Phi.upd (φ : Phi) (b : Nat) (p : PB) : Phi := fun x => if x = b then some p else φ x
theorem Phi.upd_same (φ : Phi) (b : Nat) (p : PB) : φ.upd b p b = some p := by simp [Phi.upd]
theorem Phi.upd_other (φ : Phi) {b x : Nat} (p : PB) (h : x ≠ b) : φ.upd b p x = φ x := by simp [Phi.upd, h]
theorem Phi.upd_ext {φ : Phi} {b : Nat} (p : PB) (h : φ b = none) : Ext φ (φ.upd b p) := fun x q e => by
  rw [Phi.upd_other]
  · exact e
  · rintro rfl; rw [h] at e; cases e
theorem Rel.none_next {P : Program} {φ : Phi} {σ : AW} {w : World} (h : Rel P φ σ w) {b : Nat} (hb : σ.next ≤ b) : φ b = none := by
  cases e : φ b with
  | none => rfl
  | some p => have := (h.lt b p e).1; omega

structure SameBut (w w' : World) : Prop where
  os : w'.os = w.os
  tape : w'.tape = w.tape
  output : w'.output = w.output
  heap : w'.heap = w.heap
theorem SameBut.refl (w : World) : SameBut w w := ⟨rfl, rfl, rfl, rfl⟩
theorem SameBut.trans {a b c : World} (h : SameBut a b) (k : SameBut b c) : SameBut a c := ⟨k.os.trans h.os, k.tape.trans h.tape, k.output.trans h.output, k.heap.trans h.heap⟩
theorem Rel.same {P : Program} {φ : Phi} {σ : AW} {w w' : World} (h : Rel P φ σ w) (e : SameBut w w') : Rel P φ σ w' := {
  lt := fun b p hb => ⟨(h.lt b p hb).1, by rw [e.heap]; exact (h.lt b p hb).2⟩
  inj := h.inj
  obj := fun b p o hb ho => (h.obj b p o hb ho).congr (by rw [e.heap]) }
theorem Post.same {P : Program} {φ : Phi} {σ : AW} {w w' : World} (h : Rel P φ σ w) (e : SameBut w w') : Post P φ σ w φ σ w' :=
  ⟨h.same e, Ext.refl _, fun _ _ h => .inl h, ⟨e.os, e.tape, e.output, by rw [e.heap]; exact Nat.le_refl _, fun c _ _ => by rw [e.heap]⟩, Nat.le_refl _, fun _ _ _ => rfl⟩

theorem Rel.alloc {P : Program} {φ : Phi} {σ : AW} {w w' : World} {o : AObj} {O : Obj} (h : Rel P φ σ w) (e : SameBut w { w' with heap := w.heap }) (hw : w'.heap = w.heap.push O) (p : PB) (hp : p.blk = w.heap.size)
    (ho : OR P (φ.upd σ.next p) w' p o) : Post P φ σ w (φ.upd σ.next p) (σ.new o) w' := {
  rel := {
    lt := fun b q hb => by
      by_cases hn : b = σ.next
      · subst hn
        rw [Phi.upd_same] at hb; injection hb with hb; subst hb
        rw [hw, hp, Array.size_push]
        exact ⟨Nat.lt_succ_self _, Nat.lt_succ_self _⟩
      · rw [Phi.upd_other _ _ hn] at hb
        have := h.lt b q hb
        rw [hw, Array.size_push]
        exact ⟨Nat.lt_succ_of_lt this.1, by omega⟩
    inj := fun b1 b2 p1 p2 e1 e2 l1 l2 e => by
      by_cases h1 : b1 = σ.next
      · by_cases h2 : b2 = σ.next
        · rw [h1, h2]
        · subst h1
          rw [Phi.upd_same] at e1; injection e1 with e1; subst e1
          rw [Phi.upd_other _ _ h2] at e2
          have := (h.lt b2 p2 e2).2; omega
      · by_cases h2 : b2 = σ.next
        · subst h2
          rw [Phi.upd_same] at e2; injection e2 with e2; subst e2
          rw [Phi.upd_other _ _ h1] at e1
          have := (h.lt b1 p1 e1).2; omega
        · rw [Phi.upd_other _ _ h1] at e1
          rw [Phi.upd_other _ _ h2] at e2
          rw [AW.obj_new, if_neg h1] at l1
          rw [AW.obj_new, if_neg h2] at l2
          exact h.inj b1 b2 p1 p2 e1 e2 l1 l2 e
    obj := fun b q o' hb ho' => by
      by_cases hn : b = σ.next
      · subst hn
        rw [Phi.upd_same] at hb; injection hb with hb; subst hb
        rw [AW.obj_new, if_pos rfl] at ho'; injection ho' with ho'; subst ho'
        exact ho
      · rw [Phi.upd_other _ _ hn] at hb
        rw [AW.obj_new, if_neg hn] at ho'
        refine ((h.obj b q o' hb ho').ext (Phi.upd_ext p (h.none_next (Nat.le_refl _)))).congr ?_
        rw [hw, Array.getElem?_push, if_neg]
        have := (h.lt b q hb).2; omega }
  ext := Phi.upd_ext p (h.none_next (Nat.le_refl _))
  grow := fun b q hb => by
    by_cases hn : b = σ.next
    · subst hn
      rw [Phi.upd_same] at hb; injection hb with hb; subst hb
      exact .inr ⟨Nat.le_refl _, .inl (by omega)⟩
    · rw [Phi.upd_other _ _ hn] at hb; exact .inl hb
  keep := ⟨e.os, e.tape, e.output, by rw [hw, Array.size_push]; omega, fun c hc _ => by rw [hw, Array.getElem?_push, if_neg (by omega)]⟩
  next := Nat.le_succ _
  aframe := fun b hb _ => by rw [AW.obj_new, if_neg (by omega)] }

theorem Rel.drop {P : Program} {φ : Phi} {σ : AW} {w : World} (h : Rel P φ σ w) {b : Nat} {p : PB} (hp : φ b = some p) : Post P φ σ w φ (σ.put b none) w := {
  rel := {
    lt := h.lt
    inj := fun b1 b2 p1 p2 e1 e2 l1 l2 e => by
      rw [AW.obj_put] at l1 l2
      split at l1
      · exact (l1 rfl).elim
      · split at l2
        · exact (l2 rfl).elim
        · exact h.inj b1 b2 p1 p2 e1 e2 l1 l2 e
    obj := fun b' p' o e e' => by
      rw [AW.obj_put] at e'
      split at e'
      · cases e'
      · exact h.obj b' p' o e e' }
  ext := Ext.refl _
  grow := fun _ _ e => .inl e
  keep := Keep.refl _ _
  next := Nat.le_refl _
  aframe := fun b' _ e => by
    rw [AW.obj_put, if_neg]
    rintro rfl
    rw [hp] at e; cases e }

theorem aCells_some {σ : AW} {b : Nat} {B : Blk} (h : aCells σ b = some B) : σ.obj b = some (.cells B) := by
  unfold aCells at h
  split at h
  · rename_i e; injection h with h; subst h; exact e
  · exact (fail_some h).elim
theorem cell_of {w : World} {c : Nat} {cur : Array Value} {e : TypeId} {fr : Nat × Nat} (h : w.heap[c]? = some (.cells cur e fr)) (i : Nat) : w.cell? ⟨c, i, none⟩ = cur[i]? := by
  simp [World.cell?, h]
theorem frozen_of {w : World} {c : Nat} {cur : Array Value} {e : TypeId} {fr : Nat × Nat} (h : w.heap[c]? = some (.cells cur e fr)) (i : Nat) : w.frozen? ⟨c, i, none⟩ = (decide (fr.1 ≤ i) && decide (i < fr.2)) := by
  simp [World.frozen?, h]
theorem addr_add (c o j : Nat) : (⟨c, o, none⟩ : Addr).add j = ⟨c, o + j, none⟩ := by unfold Addr.add; split <;> simp_all

section
variable {P : Program} {E : Env} (hE : Env.Ok P E)
include hE
theorem aLoad_ok {φ : Phi} {σ : AW} {w : World} {t : TypeId} {x x' v : Value} (h : aLoad E σ t x = some v) (hr : Rel P φ σ w) (hx : VR φ x x') :
    ∃ v', VR φ v v' ∧ (Instr.loadAt t x').run P w = .ok v' w ∧ (asAddr x' >>= fun a => loadVar t a).run P w = .ok v' w := by
  unfold aLoad at h
  split at h
  · cases hx with
    | ptr hp =>
    rename_i b o p
    obtain ⟨B, hB, h⟩ := bnd_some h
    obtain ⟨cur, fr, h1, h2, h3, h4, h5⟩ := hr.obj b p _ hp (aCells_some hB)
    suffices hs : ∃ v', VR φ v v' ∧ (loadVar t ⟨p.blk, o, none⟩).run P w = .ok v' w by
      obtain ⟨v', hv, hl⟩ := hs
      exact ⟨v', hv, by simp [Instr.loadAt, Instr.sureAddr, hl], by simp [asAddr, hl]⟩
    obtain ⟨ty, hty, h⟩ := bnd_some h
    have ht := ty_ok hE hty
    split at h
    · rename_i ha
      split at h
      · rename_i hb
        have hb' := Nat.le_of_ble_eq_true hb
        injection h with h; subst h

        have hc : ∀ j, j < ty.size → ∃ v', cur[o + j]? = some v' ∧ ∀ u, ((B.cells.drop o).take ty.size)[j]? = some u → VR φ u v' := by
          intro j hj
          have hlt : o + j < B.cells.length := by omega
          obtain ⟨v', e1, e2⟩ := h4 (o + j) _ (List.getElem?_eq_getElem hlt)
          refine ⟨v', e1, fun u hu => ?_⟩
          rw [List.getElem?_take, if_pos hj, List.getElem?_drop, List.getElem?_eq_getElem hlt] at hu
          injection hu with hu; subst hu; exact e2
        refine ⟨.agg ((List.range ty.size).map fun j => (cur[o + j]?).getD undef).toArray, ?_, ?_⟩
        · refine LR.agg ⟨by simp; omega, fun j u u' hu hu' => ?_⟩
          have hj : j < ty.size := by
            have := (List.getElem?_eq_some_iff.1 hu').1
            simpa using this
          obtain ⟨v', e1, e2⟩ := hc j hj
          rw [List.getElem?_map, List.getElem?_range hj] at hu'
          simp [e1] at hu'
          subst hu'
          exact e2 u hu
        · simp only [loadVar, Sem.run_bind, ht.run_agg, Result.andThen_ok, ha, if_true, ht.run_size]
          rw [run_loadCells w ⟨p.blk, o, none⟩ ty.size (fun j => (cur[o + j]?).getD undef) (fun j hj => by
            rw [addr_add, cell_of h1]
            obtain ⟨v', e1, _⟩ := hc j hj
            rw [e1]; rfl)]
          rfl
      · exact (fail_some h).elim
    · rename_i ha
      have hv := ofOpt_some h
      rw [nth_eq] at hv
      obtain ⟨v', e1, e2⟩ := h4 o v hv
      refine ⟨v', e2, ?_⟩
      simp [loadVar, ht.run_agg, ha, cell_of h1, e1]
  · exact (fail_some h).elim
end

theorem putCells_ok : ∀ (cs : List Value) (o : Nat) (vs r : List Value), putCells cs o vs = some r →
    o + vs.length ≤ max cs.length o ∧ r.length = cs.length ∧ (vs ≠ [] → o + vs.length ≤ cs.length) ∧ ∀ i, r[i]? = if o ≤ i ∧ i < o + vs.length then vs[i - o]? else cs[i]? := by
  intro cs
  induction cs with
  | nil =>
    intro o vs r h
    cases vs with
    | nil => rw [putCells_nn] at h; injection h with h; subst h; exact ⟨by simp, rfl, by simp, fun i => by rw [if_neg (by intro e; simp at e; omega)]⟩
    | cons v vs => rw [putCells_nc] at h; cases h
  | cons c cs ih =>
    intro o vs r h
    cases vs with
    | nil => rw [putCells_cn] at h; injection h with h; subst h; exact ⟨by simp only [List.length_nil]; omega, rfl, by simp, fun i => by rw [if_neg (by intro e; simp at e; omega)]⟩
    | cons v vs =>
      cases o with
      | zero =>
        rw [putCells_c0] at h
        obtain ⟨r', h1, h2⟩ := bnd_some h
        injection h2 with h2; subst h2
        obtain ⟨a1, a2, a3, a4⟩ := ih 0 vs r' h1
        refine ⟨by simp at a1 ⊢; omega, by simp [a2], fun _ => by simp at a1 ⊢; omega, fun i => ?_⟩
        cases i with
        | zero => simp
        | succ i =>
          have := a4 i
          simp only [List.getElem?_cons_succ, this, List.length_cons]
          by_cases hi : i < vs.length
          · rw [if_pos (by omega), if_pos (by omega)]; simp
          · rw [if_neg (by omega), if_neg (by omega)]
      | succ o =>
        rw [putCells_cs] at h
        obtain ⟨r', h1, h2⟩ := bnd_some h
        injection h2 with h2; subst h2
        obtain ⟨a1, a2, a3, a4⟩ := ih o (v :: vs) r' h1
        have a3' := a3 (by simp)
        refine ⟨by simp at a3' ⊢; omega, by simp [a2], fun _ => by simp at a3' ⊢; omega, fun i => ?_⟩
        cases i with
        | zero => rw [if_neg (by omega)]; simp
        | succ i =>
          have := a4 i
          simp only [List.getElem?_cons_succ, this]
          by_cases hi : o ≤ i ∧ i < o + (v :: vs).length
          · rw [if_pos hi, if_pos (by omega), show i + 1 - (o + 1) = i - o from by omega]
          · rw [if_neg hi, if_neg (by omega)]
theorem oneCells_ok : ∀ (l : List Value), oneCells l = true → ∀ v ∈ l, v.oneCell' = true
  | [], _, v, hv => by simp at hv
  | x :: l, h, v, hv => by
    cases x <;> first
      | (cases h; done)
      | (rcases List.mem_cons.1 hv with rfl | hv
         · rfl
         · exact oneCells_ok l h v hv)
theorem VR.one {φ : Phi} {v v' : Value} (h : VR φ v v') (h1 : v.oneCell' = true) : v'.oneCell' = true := by
  cases h <;> first | rfl | (simp [Value.oneCell'] at h1)
theorem LR.one {φ : Phi} {l l' : List Value} (h : LR φ l l') (h1 : oneCells l = true) : ∀ v ∈ l', v.oneCell' = true := by
  intro v hv
  obtain ⟨i, hi, rfl⟩ := List.getElem_of_mem hv
  have hi' : i < l.length := h.1 ▸ hi
  exact (h.2 i l[i] l'[i] (List.getElem?_eq_getElem hi') (List.getElem?_eq_getElem hi)).one (oneCells_ok l h1 _ (List.getElem_mem hi'))

theorem setCells_turned (c : Nat) : ∀ (vs : List Value) (o : Nat) (w : World) (cur : Array Value) (e : TypeId) (fr : Nat × Nat), w.heap[c]? = some (.cells cur e fr) → o + vs.length ≤ cur.size →
    Turned c w (w.setCells c o vs) ∧ ∃ cur' : Array Value, (w.setCells c o vs).heap[c]? = some (.cells cur' e fr) ∧ cur'.size = cur.size ∧ ∀ i, cur'[i]? = if o ≤ i ∧ i < o + vs.length then vs[i - o]? else cur[i]? := by
  intro vs
  induction vs with
  | nil => intro o w cur e fr h _; exact ⟨Turned.refl _ _, cur, h, rfl, fun i => by rw [if_neg (by intro e; simp at e; omega)]⟩
  | cons v vs ih =>
    intro o w cur e fr h hl
    have hc : c < w.heap.size := (Array.getElem?_eq_some_iff.1 h).1
    have h1 : (w.setCell ⟨c, o, none⟩ v).heap[c]? = some (.cells (cur.setIfInBounds o v) e fr) := by
      simp [World.setCell, Array.getElem?_modify, h]
    have t1 : Turned c w (w.setCell ⟨c, o, none⟩ v) := ⟨rfl, rfl, rfl, by simp [World.setCell], fun i hi => by simp [World.setCell, Array.getElem?_modify, Ne.symm hi]⟩
    obtain ⟨t2, cur', a1, a2, a3⟩ := ih (o + 1) _ _ e fr h1 (by simp at hl ⊢; omega)
    refine ⟨t1.trans t2, cur', a1, by simpa using a2, fun i => ?_⟩
    rw [a3 i]
    simp only [List.length_cons]
    by_cases h2 : o + 1 ≤ i ∧ i < o + 1 + vs.length
    · rw [if_pos h2, if_pos (by omega), show i - o = (i - (o + 1)) + 1 from by omega, List.getElem?_cons_succ]
    · rw [if_neg h2]
      by_cases h3 : i = o
      · subst h3
        rw [if_pos (by omega), Nat.sub_self, Array.getElem?_setIfInBounds_self_of_lt (by simp at hl; omega)]
        rfl
      · rw [if_neg (by omega), Array.getElem?_setIfInBounds_ne (fun e => h3 e.symm)]

theorem aStoreCells_ok {P : Program} {φ : Phi} {σ σ' : AW} {w : World} {b o : Nat} {p : PB} {vs vs' : List Value} (h : aStoreCells σ b o vs = some σ') (hr : Rel P φ σ w) (hp : φ b = some p) (hv : LR φ vs vs') :
    ∃ w', (storeCells ⟨p.blk, o, none⟩ vs').run P w = .ok () w' ∧ Post P φ σ w φ σ' w' := by
  unfold aStoreCells at h
  split at h
  · injection h with h; subst h
    have : vs' = [] := List.eq_nil_of_length_eq_zero hv.1.symm
    subst this
    exact ⟨w, rfl, Post.refl hr⟩
  · rename_i hne
    obtain ⟨B, hB, h⟩ := bnd_some h
    obtain ⟨_, hf, h⟩ := bnd_some h
    obtain ⟨_, h1, h⟩ := bnd_some h
    obtain ⟨cs, hcs, h⟩ := bnd_some h
    injection h with h; subst h
    have hf' : B.frz = false := by simpa using guardM_some hf
    have h1' := guardM_some h1
    obtain ⟨cur, fr, g1, g2, g3, g4, g5⟩ := hr.obj b p _ hp (aCells_some hB)
    obtain ⟨_, c2, c3, c4⟩ := putCells_ok _ _ _ _ hcs
    have c3' := c3 (by intro e; exact hne e)
    have hlen : B.cells.length ≤ cur.size := by
      rcases Nat.eq_zero_or_pos B.cells.length with h0 | h0
      · omega
      · obtain ⟨v', e1, _⟩ := g4 (B.cells.length - 1) _ (List.getElem?_eq_getElem (by omega))
        have := (Array.getElem?_eq_some_iff.1 e1).1
        omega
    have hsz : o + vs'.length ≤ cur.size := by rw [← hv.1]; omega
    obtain ⟨t, cur', d1, d2, d3⟩ := setCells_turned p.blk vs' o w cur B.elem fr g1 hsz
    refine ⟨w.setCells p.blk o vs', ?_, ?_⟩
    · have := run_storeCells_cells (P := P) p.blk o vs' 0 w (fun j hj => by
        rw [Nat.add_zero, cell_of g1]
        rw [Array.getElem?_eq_getElem (by omega)]; rfl) (fun j hj => by
        rw [Nat.add_zero, frozen_of g1]
        have := g5.1 hf' (o + j) (by omega)
        rw [Bool.and_eq_false_iff, decide_eq_false_iff_not, decide_eq_false_iff_not]
        omega) (hv.one h1')
      simpa using this
    · refine hr.turn hp (by rw [aCells_some hB]; simp) t ⟨cur', fr, d1, by omega, g3, fun i v hi => ?_, fun e i hi => g5.1 e i (by omega), fun e => by
        have := g5.2 e
        show cur'.size = cs.length
        omega⟩
      replace hi : cs[i]? = some v := hi
      rw [c4 i] at hi
      rw [d3 i, ← hv.1]
      split at hi
      · rename_i hc
        rw [if_pos hc]
        exact hv.at_ hi
      · rename_i hc
        rw [if_neg hc]
        exact g4 i v hi
end Go.Proofs.Qas
namespace Go.Proofs.Qas

def Ran (P : Program) (φ : Phi) (σ : AW) (w : World) (v : Value) (σ' : AW) (s : Sem Value) : Prop :=
  ∃ φ' v' w', Post P φ σ w φ' σ' w' ∧ VR φ' v v' ∧ s.run P w = .ok v' w'
theorem Ran.quiet {P : Program} {φ : Phi} {σ : AW} {w : World} {v v' : Value} {s : Sem Value} (hr : Rel P φ σ w) (hv : VR φ v v') (h : s.run P w = .ok v' w) : Ran P φ σ w v σ s :=
  ⟨φ, v', w, Post.refl hr, hv, h⟩

theorem mapM'_LR {φ : Phi} {ρ : Operand → M Value} {ρ' : Operand → Value} (hρ : ∀ x v, ρ x = some v → VR φ v (ρ' x)) : ∀ (xs : List Operand) (vs : List Value), mapM' ρ xs = some vs → LR φ vs (xs.map ρ')
  | [], vs, h => by rw [mapM'_nil] at h; injection h with h; subst h; exact LR.nil _
  | x :: xs, vs, h => by
    rw [mapM'_cons] at h
    obtain ⟨v, h1, h⟩ := bnd_some h
    obtain ⟨r, h2, h⟩ := bnd_some h
    injection h with h; subst h
    exact LR.cons (hρ x v h1) (mapM'_LR hρ xs r h2)

theorem plainV_ok {φ : Phi} {v : Value} (h : plainV v = true) : VR φ v v := by
  unfold plainV at h
  split at h <;> first | constructor | (simp at h)
theorem plainVs_ok {φ : Phi} : ∀ (l : List Value), plainVs l = true → LR φ l l
  | [], _ => LR.nil _
  | v :: l, h => by
    simp only [plainVs] at h
    split at h
    · rename_i hv
      exact LR.cons (plainV_ok hv) (plainVs_ok l h)
    · cases h
theorem plainC_ok {φ : Phi} {v : Value} (h : plainC v = true) : VR φ v v := by
  unfold plainC at h
  split at h
  · rename_i cs
    have := LR.agg (plainVs_ok (φ := φ) cs.toList h)
    simpa using this
  · exact plainV_ok h

section
variable {P : Program} {E : Env} (hE : Env.Ok P E)
include hE
theorem aZero_ok {t : TypeId} {z : Value} (h : aZero E t = some z) : ∃ ty, E.ty t = some ty ∧ ty.zero = some z ∧ (∀ w, (zeroValue t).run P w = .ok z w) ∧ (∀ φ, VR φ z z) := by
  obtain ⟨ty, hty, h⟩ := bnd_some h
  obtain ⟨z', hz, h⟩ := bnd_some h
  split at h
  · rename_i hp
    injection h with h; subst h
    exact ⟨ty, hty, ofOpt_some hz, fun w => (ty_ok hE hty).run_zero w (ofOpt_some hz), fun φ => plainC_ok hp⟩
  · exact (fail_some h).elim

theorem newRow_gen {φ : Phi} {σ : AW} {w : World} (hr : Rel P φ σ w) {e : TypeId} {ty : Ty} (hty : E.ty e = some ty) (cs : List Value) (cur : Array Value) (frz ex : Bool) (fr : Nat × Nat)
    (hc : ∀ (i : Nat) v, cs[i]? = some v → ∃ v', cur[i]? = some v' ∧ VR φ v v') (hf : frz = false → ∀ i, i < cur.size → ¬ (fr.1 ≤ i ∧ i < fr.2)) (hx : ex = true → cur.size = cs.length) {w' : World} (hs : SameBut w { w' with heap := w.heap }) (hw : w'.heap = w.heap.push (.cells cur e fr)) :
    Post P φ σ w (φ.upd σ.next ⟨w.heap.size, cur.size, ty.size⟩) (σ.new (.cells { cells := cs, elem := e, frz, ex })) w' := by
  refine hr.alloc hs hw _ rfl ⟨cur, fr, ?_, rfl, (ty_ok hE hty).size_, fun i v hi => ?_, hf, hx⟩
  · rw [hw]; simp
  · obtain ⟨v', h1, h2⟩ := hc i v hi
    exact ⟨v', h1, h2.ext (Phi.upd_ext _ (hr.none_next (Nat.le_refl _)))⟩
theorem newRow_post {φ : Phi} {σ : AW} {w : World} (hr : Rel P φ σ w) {e : TypeId} {ty : Ty} (hty : E.ty e = some ty) (cs : List Value) (cur : Array Value) (frz : Bool) (fr : Nat × Nat)
    (hc : ∀ (i : Nat) v, cs[i]? = some v → ∃ v', cur[i]? = some v' ∧ VR φ v v') (hf : frz = false → ∀ i, i < cur.size → ¬ (fr.1 ≤ i ∧ i < fr.2)) {w' : World} (hs : SameBut w { w' with heap := w.heap }) (hw : w'.heap = w.heap.push (.cells cur e fr)) :
    Post P φ σ w (φ.upd σ.next ⟨w.heap.size, cur.size, ty.size⟩) (σ.new (.cells { cells := cs, elem := e, frz })) w' := newRow_gen hE hr hty cs cur frz false fr hc hf (fun e => by cases e) hs hw
omit hE in
theorem LR.row {φ : Phi} {cs cs' : List Value} (h : LR φ cs cs') : ∀ (i : Nat) v, cs[i]? = some v → ∃ v', cs'.toArray[i]? = some v' ∧ VR φ v v' := fun i v hi => by
  obtain ⟨v', h1, h2⟩ := h.at_ hi
  exact ⟨v', by simpa using h1, h2⟩

theorem ex_alloc {φ : Phi} {σ : AW} {w : World} (hr : Rel P φ σ w) {e : TypeId} {z : Value} (h : aZero E e = some z) :
    Ran P φ σ w (aRow σ e z.cells.toList).1 (aRow σ e z.cells.toList).2 (Instr.alloc e true (.tuple #[])) := by
  obtain ⟨ty, hty, _, hz, hv⟩ := aZero_ok hE h
  refine ⟨_, .pointer (some ⟨w.heap.size, 0, none⟩), { w with heap := w.heap.push (.cells z.cells e) }, newRow_gen hE hr hty z.cells.toList z.cells false true (0, 0) (fun i v hi => ?_) (fun _ i _ => by omega) (fun _ => by simp) ⟨rfl, rfl, rfl, rfl⟩ rfl, ?_, ?_⟩
  · have := LR.row (hv φ).cells i v hi
    simpa using this
  · exact .ptr (Phi.upd_same _ _ _)
  · simp [Instr.alloc, hz, newVar, newRow]
theorem ex_box {φ : Phi} {σ : AW} {w : World} (hr : Rel P φ σ w) {e : TypeId} {ty : Ty} (hty : E.ty e = some ty) {v v' : Value} (hv : VR φ v v') :
    Ran P φ σ w (aRow σ e v.cells.toList).1 (aRow σ e v.cells.toList).2 (Instr.box e v') := by
  refine ⟨_, .pointer (some ⟨w.heap.size, 0, none⟩), { w with heap := w.heap.push (.cells v'.cells e) }, newRow_gen hE hr hty v.cells.toList v'.cells false true (0, 0) (fun i u hi => ?_) (fun _ i _ => by omega) (fun _ => by have := hv.cells.1; simpa using this.symm) ⟨rfl, rfl, rfl, rfl⟩ rfl, ?_, ?_⟩
  · have := LR.row hv.cells i u hi
    simpa using this
  · exact .ptr (Phi.upd_same _ _ _)
  · simp [Instr.box, newVar, newRow]
end

theorem foldl_set (vs : List Value) : ∀ (k off : Nat) (cs : Array Value), let r := (vs.zipIdx k).foldl (fun (cs : Array Value) (x : Value × Nat) => cs.setIfInBounds (off + x.2) x.1) cs
    r.size = cs.size ∧ (off + k + vs.length ≤ cs.size → ∀ i, r[i]? = if off + k ≤ i ∧ i < off + k + vs.length then vs[i - (off + k)]? else cs[i]?) := by
  induction vs with
  | nil => intro k off cs; exact ⟨rfl, fun _ i => by rw [if_neg (by intro e; simp at e; omega)]; rfl⟩
  | cons v vs ih =>
    intro k off cs
    obtain ⟨h1, h2⟩ := ih (k + 1) off (cs.setIfInBounds (off + k) v)
    simp only [List.zipIdx_cons, List.foldl_cons]
    refine ⟨by simpa using h1, fun hl i => ?_⟩
    simp only [List.length_cons] at hl
    rw [h2 (by simp; omega) i]
    simp only [List.length_cons]
    by_cases h3 : off + (k + 1) ≤ i ∧ i < off + (k + 1) + vs.length
    · rw [if_pos h3, if_pos (by omega), show i - (off + k) = (i - (off + (k + 1))) + 1 from by omega, List.getElem?_cons_succ]
    · rw [if_neg h3]
      by_cases h4 : i = off + k
      · subst h4
        rw [if_pos (by omega), Nat.sub_self, Array.getElem?_setIfInBounds_self_of_lt (by omega)]; rfl
      · rw [if_neg (by omega), Array.getElem?_setIfInBounds_ne (fun e => h4 e.symm)]
def PLR (φ : Phi) (l : List (Nat × Value)) (l' : List (Nat × Value)) : Prop := l.map (·.1) = l'.map (·.1) ∧ LR φ (l.map (·.2)) (l'.map (·.2))
theorem aFill_ok {φ : Phi} {place : Nat → M (Nat × Nat)} {place' : Nat → Option (Nat × Nat)} (hp : ∀ i r, place i = some r → place' i = some r) : ∀ (parts parts' : List (Nat × Value)) (cs cs' r : List Value),
    aFill place cs parts = some r → LR φ cs cs' → PLR φ parts parts' → ∃ r' : List Value, Instr.fill place' cs'.toArray parts' = some r'.toArray ∧ LR φ r r'
  | [], parts', cs, cs', r, h, hc, hpl => by
    have : parts' = [] := by have := hpl.1; simpa using this.symm
    subst this
    simp [aFill] at h; subst h
    exact ⟨cs', rfl, hc⟩
  | (i, v) :: parts, parts', cs, cs', r, h, hc, hpl => by
    cases parts' with
    | nil => have := hpl.1; simp at this
    | cons x parts' =>
      obtain ⟨i', v'⟩ := x
      obtain ⟨e1, e2⟩ := hpl
      simp only [List.map_cons, List.cons.injEq] at e1
      obtain ⟨rfl, e1⟩ := e1
      have hv : VR φ v v' := e2.2 0 v v' rfl rfl
      have hrest : PLR φ parts parts' := ⟨e1, by have := e2.1; simpa using this, fun j a b ha hb => e2.2 (j + 1) a b (by simpa using ha) (by simpa using hb)⟩
      simp only [aFill] at h
      obtain ⟨⟨off, size⟩, h1, h⟩ := bnd_some h
      obtain ⟨_, h2, h⟩ := bnd_some h
      obtain ⟨cs2, h3, h⟩ := bnd_some h
      have h2' := guardM_some h2
      rw [Bool.and_eq_true] at h2'
      have hsz := Nat.eq_of_beq_eq_true h2'.1
      have hle0 := Nat.le_of_ble_eq_true h2'.2
      obtain ⟨p1, p2, p3, p4⟩ := putCells_ok _ _ _ _ h3
      have hvc := hv.cells
      have hszv : v'.cells.size = size := by have := hvc.1; simp at this; simp at hsz; omega
      obtain ⟨f1, f2⟩ := foldl_set v'.cells.toList 0 off cs'.toArray
      simp only [Instr.fill, hp i _ h1]
      have hle : off + v'.cells.size ≤ cs'.length := by have := hc.1; omega
      · have hcond : ¬ (v'.cells.size ≠ size ∨ off + v'.cells.size > cs'.toArray.size) := by simp; omega
        have hcond2 : (decide (v'.cells.size ≠ size) || decide (off + v'.cells.size > cs'.toArray.size)) = false := by
          rw [Bool.or_eq_false_iff, decide_eq_false_iff_not, decide_eq_false_iff_not]; exact ⟨fun e => hcond (.inl e), fun e => hcond (.inr e)⟩
        have hLR : LR φ cs2 ((v'.cells.toList.zipIdx 0).foldl (fun (cs : Array Value) (x : Value × Nat) => cs.setIfInBounds (off + x.2) x.1) cs'.toArray).toList := by
          refine ⟨by rw [p2, hc.1]; simpa using f1.symm, fun j a b ha hb => ?_⟩
          rw [p4 j] at ha
          have hb' := f2 (by simp; omega) j
          rw [Array.getElem?_toList] at hb
          rw [hb'] at hb
          simp only [Nat.add_zero, Array.length_toList] at hb ha
          have hvl : v.cells.size = v'.cells.size := by have := hvc.1; simpa using this
          split at ha
          · rename_i hj
            rw [if_pos (by omega)] at hb
            exact hvc.2 _ a b ha hb
          · rename_i hj
            rw [if_neg (by omega)] at hb
            exact hc.2 j a b ha (by simpa using hb)
        obtain ⟨r', g1, g2⟩ := aFill_ok hp parts parts' cs2 _ r h hLR hrest
        refine ⟨r', ?_, g2⟩
        simp only [hcond2]
        have hfold : v'.cells.zipIdx.foldl (fun cs (x : Value × Nat) => cs.setIfInBounds (off + x.2) x.1) cs'.toArray = ((v'.cells.toList.zipIdx 0).foldl (fun (cs : Array Value) (x : Value × Nat) => cs.setIfInBounds (off + x.2) x.1) cs'.toArray) := by
          rw [← Array.foldl_toList, Array.toList_zipIdx]
        simp only [Array.toArray_toList] at g1
        rw [← hfold] at g1
        exact g1
end Go.Proofs.Qas
