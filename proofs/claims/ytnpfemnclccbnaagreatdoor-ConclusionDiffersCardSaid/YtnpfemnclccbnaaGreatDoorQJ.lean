/- A part of the proof of the card of licitlaw37.ConclusionDiffers. -/
import Derived.Test.YtnpfemnclccbnaaGreatDoorQI
import Derived.Below
import Derived.Lib.Bytealg
import Derived.Lib.SlTrimSet
import Derived.Lib.Join
import Derived.Shelf.Abstract
set_option linter.unusedSectionVars false
set_option linter.unusedSimpArgs false
set_option linter.unusedVariables false
noncomputable section
namespace Go.Proofs.Qas
open Go.Shelf Go.RowKit

def tyOf (p : Program) (t : Nat) : Option Ty :=
  match p.underlying t, p.info? t with
  | some d, some i => some { desc := d, size := i.size, bytes := i.bytes, zero := i.zero, eqg := p.eqGuardType p.depth t, stood := p.stoodInHeld t }
  | _, _ => none
def fnOf (p : Program) (f : Nat) : Option Func := match p.funcs[f]? with
  | some fn => match fn.body with
    | some _ => some fn
    | none => none
  | none => none
theorem tyOf_ok {P : Program} {t : Nat} {d : Ty} (h : tyOf P t = some d) : TyOk P t d := by
  unfold tyOf at h
  split at h
  · rename_i dd i h1 h2
    injection h with h; subst h
    exact ⟨h1, ⟨i, h2, rfl, rfl, rfl⟩, rfl, rfl⟩
  · cases h
def noneNamed (p : Program) : Bool := p.funcs.toList.all fun fn => !(fn.name == "runtime.NumGoroutine")
theorem noneNamed_get {P : Program} (h : noneNamed P = true) {f : Nat} {fn : Func} (hf : P.funcs[f]? = some fn) : (fn.name == "runtime.NumGoroutine") = false := by
  unfold noneNamed at h
  rw [List.all_eq_true] at h
  have := h fn (by rw [Array.mem_toList_iff]; exact Array.mem_of_getElem? hf)
  simpa using this
theorem fnOf_ok {P : Program} (hn : noneNamed P = true) {f : Nat} {fn : Func} (h : fnOf P f = some fn) : P.funcs[f]? = some fn ∧ ∀ args w, (callFunc f args).run P w = .ok (.enter f args) w := by
  unfold fnOf at h
  split at h
  · rename_i g hg
    split at h
    · rename_i c hc
      injection h with h; subst h
      exact ⟨hg, enters_of hg (noneNamed_get hn hg) hc⟩
    · cases h
  · cases h

theorem Post.below {P : Program} {φ : Phi} {σ : AW} {w w' : World} (hr : Rel P φ σ w) (h : Below w.heap.size w w') : Post P φ σ w φ σ w' := {
  rel := {
    lt := fun b p hb => ⟨(hr.lt b p hb).1, Nat.lt_of_lt_of_le (hr.lt b p hb).2 h.size⟩
    inj := hr.inj
    obj := fun b p o hb ho => (hr.obj b p o hb ho).congr (h.block _ (hr.lt b p hb).2) }
  ext := Ext.refl _
  grow := fun _ _ e => .inl e
  keep := ⟨h.os, h.tape, h.output, h.size, fun c hc _ => h.block c hc⟩
  next := Nat.le_refl _
  aframe := fun _ _ _ => rfl }
def noPhi : Phi := fun _ => none
def noAW : AW := { next := 0, heap := .nil }
theorem noRel (P : Program) (w : World) : Rel P noPhi noAW w := ⟨fun _ _ h => (by cases h), fun _ _ _ _ h => (by cases h), fun _ _ _ h => (by cases h)⟩
theorem Keep.below {w w' : World} (h : Keep noPhi w w') : Below w.heap.size w w' :=
  ⟨h.os, h.tape, h.output, h.size, fun k hk => h.block k hk (fun _ _ e => (by cases e))⟩

theorem plainV_eq {φ : Phi} {v v' : Value} (h : VR φ v v') (hp : plainV v = true) : v' = v := by
  cases h <;> first
    | rfl
    | (simp [plainV] at hp; done)
    | (rename_i o n c c' p h hn h0 h1; unfold plainV at hp; split at hp <;> simp_all)
theorem plainVs_eq {φ : Phi} : ∀ (l l' : List Value), plainVs l = true → LR φ l l' → l' = l
  | [], [], _, _ => rfl
  | [], _ :: _, _, h => by have := h.1; simp at this
  | _ :: _, [], _, h => by have := h.1; simp at this
  | v :: l, v' :: l', hp, h => by
    simp only [plainVs] at hp
    split at hp
    · rename_i hv
      have h1 := h.2 0 v v' rfl rfl
      have h2 : LR φ l l' := ⟨by have := h.1; simpa using this, fun i x y hx hy => h.2 (i + 1) x y (by simpa using hx) (by simpa using hy)⟩
      rw [plainV_eq h1 hv, plainVs_eq l l' hp h2]
    · cases hp
theorem plainC_eq {φ : Phi} {v v' : Value} (h : VR φ v v') (hp : plainC v = true) : v' = v := by
  unfold plainC at hp
  split at hp
  · rename_i cs
    cases h with
    | agg hc hh =>
      rename_i cs'
      have := plainVs_eq cs.toList cs'.toList hp (LR.of_array hc hh)
      rw [Array.ext' this]
  · exact plainV_eq h hp
def plainArgs : List Value → Bool
  | [] => true
  | v :: l => match plainC v with | true => plainArgs l | false => false
theorem plainArgs_eq {φ : Phi} : ∀ (l l' : List Value), plainArgs l = true → LR φ l l' → l' = l
  | [], [], _, _ => rfl
  | [], _ :: _, _, h => by have := h.1; simp at this
  | _ :: _, [], _, h => by have := h.1; simp at this
  | v :: l, v' :: l', hp, h => by
    simp only [plainArgs] at hp
    split at hp
    · rename_i hv
      have h1 := h.2 0 v v' rfl rfl
      have h2 : LR φ l l' := ⟨by have := h.1; simpa using this, fun i x y hx hy => h.2 (i + 1) x y (by simpa using hx) (by simpa using hy)⟩
      rw [plainC_eq h1 hv, plainArgs_eq l l' hp h2]
    · cases hp
theorem plainArgs_LR {φ : Phi} : ∀ (l : List Value), plainArgs l = true → LR φ l l
  | [], _ => LR.nil _
  | v :: l, h => by
    simp only [plainArgs] at h
    split at h
    · rename_i hv; exact LR.cons (plainC_ok hv) (plainArgs_LR l h)
    · cases h
def valOf : M Res → Option Value
  | some (.val v _) => some v
  | _ => none
theorem valOf_some {r : M Res} {v : Value} (h : valOf r = some v) : ∃ σ, r = some (.val v σ) := by
  unfold valOf at h
  split at h
  · injection h with h; subst h; exact ⟨_, rfl⟩
  · cases h

theorem calls_of_run {P : Program} {E : Env} (hE : Env.Ok P E) (n : Nat) {f : FuncId} {args : List Value} {v : Value} (h : valOf (run E n (.call f args) noAW) = some v) (ha : plainArgs args = true) (hv : plainC v = true) (w : World) :
    Calls P f args.toArray w fun e w' => e = .returned v ∧ Below w.heap.size w w' := by
  obtain ⟨σ1, h1⟩ := valOf_some h
  refine ((run_ok hE n).call f args noAW v σ1 h1 noPhi w args (noRel P w) (plainArgs_LR args ha)).2.mono ?_
  rintro e w' ⟨φ', v', rfl, h2, h3⟩
  rw [plainC_eq h2 hv]
  exact ⟨rfl, h3.keep.below⟩
theorem pure_of_calls {P : Program} {f : FuncId} {g : Pur} (hf : ∀ args w, (callFunc f args).run P w = .ok (.enter f args) w)
    (hg : ∀ args v, g args = some v → plainArgs args = true ∧ plainC v = true ∧ ∀ w, Calls P f args.toArray w fun e w' => e = .returned v ∧ Below w.heap.size w w') : PureOk P f g := by
  refine .inr ⟨hf, fun φ σ w args args' v σ' hr hl h => ?_⟩
  obtain ⟨v1, h1, h2⟩ := bnd_some h
  injection h2 with h2; injection h2 with h2 h3; subst h2; subst h3
  obtain ⟨g1, g2, g3⟩ := hg args v1 h1
  rw [plainArgs_eq args args' g1 hl]
  refine (g3 w).mono ?_
  rintro e w' ⟨rfl, hb⟩
  exact ⟨φ, v1, rfl, plainC_ok g2, Post.below hr hb⟩

def idxByte (c : UInt8) : List UInt8 → Int
  | [] => -1
  | b :: r => match Nat.beq b.toNat c.toNat with
    | true => 0
    | false => match idxByte c r with
      | .ofNat n => .ofNat (Nat.succ n)
      | .negSucc n => .negSucc n
theorem beq_u8 (a b : UInt8) : Nat.beq a.toNat b.toNat = (a == b) := by
  rw [Bool.eq_iff_iff, Nat.beq_eq, beq_iff_eq]
  exact UInt8.toNat_inj
theorem idxByte_eq (c : UInt8) : ∀ l : List UInt8, idxByte c l = Lib.indexByte l c
  | [] => rfl
  | b :: r => by
    have ih := idxByte_eq c r
    have hge := Lib.indexByte_ge r c
    unfold idxByte Lib.indexByte
    rw [beq_u8]
    cases hb : b == c with
    | true => simp
    | false =>
      simp only [Bool.false_eq_true, if_false, ih]
      cases hi : Lib.indexByte r c with
      | ofNat n =>
        simp only
        rw [if_neg (by simp)]
        rfl
      | negSucc n =>
        rw [hi] at hge
        have : n = 0 := by omega
        subst this
        simp
def cntByte (c : UInt8) : List UInt8 → Nat
  | [] => 0
  | b :: r => match Nat.beq b.toNat c.toNat with
    | true => Nat.succ (cntByte c r)
    | false => cntByte c r
theorem cntByte_eq (c : UInt8) : ∀ l : List UInt8, cntByte c l = Lib.countByte l c
  | [] => rfl
  | b :: r => by
    have ih := cntByte_eq c r
    unfold cntByte
    unfold Lib.countByte at ih ⊢
    rw [beq_u8, List.count_cons, ih]
    cases hb : b == c <;> simp
def gIdx : Pur := fun args => match args with
  | [.string s, .int .u8 c] => some (.int .i64 (idxByte c.toNat.toUInt8 s.data.toList))
  | _ => none
def gCnt : Pur := fun args => match args with
  | [.string s, .int .u8 c] => some (.int .i64 (.ofNat (cntByte c.toNat.toUInt8 s.data.toList)))
  | _ => none
theorem gIdx_ok {P : Program} {f : FuncId} (h : ∀ args w, (callFunc f args).run P w = ((Extern.BytealgIndexByte.indexByte args).run P w).andThen fun v w' => .ok (.value v) w') : PureOk P f gIdx := by
  refine .inl fun φ σ w args args' v σ' hr hl hg => ?_
  obtain ⟨v1, h1, h2⟩ := bnd_some hg
  injection h2 with h2; injection h2 with h2 h3; subst h2; subst h3
  unfold gIdx at h1
  split at h1
  · rename_i s c
    injection h1 with h1; subst h1
    have := plainArgs_eq [.string s, .int .u8 c] args' rfl hl
    subst this
    refine ⟨φ, _, w, Post.refl hr, .int _ _, ?_⟩
    rw [h]
    show ((Extern.BytealgIndexByte.indexByte #[.string s, .int .u8 c]).run P w).andThen _ = _
    rw [Lib.run_indexByteString, idxByte_eq]
    rfl
  · cases h1
theorem gCnt_ok {P : Program} {f : FuncId} (h : ∀ args w, (callFunc f args).run P w = ((Extern.BytealgCount.count args).run P w).andThen fun v w' => .ok (.value v) w') : PureOk P f gCnt := by
  refine .inl fun φ σ w args args' v σ' hr hl hg => ?_
  obtain ⟨v1, h1, h2⟩ := bnd_some hg
  injection h2 with h2; injection h2 with h2 h3; subst h2; subst h3
  unfold gCnt at h1
  split at h1
  · rename_i s c
    injection h1 with h1; subst h1
    have := plainArgs_eq [.string s, .int .u8 c] args' rfl hl
    subst this
    refine ⟨φ, _, w, Post.refl hr, .int _ _, ?_⟩
    rw [h]
    show ((Extern.BytealgCount.count #[.string s, .int .u8 c]).run P w).andThen _ = _
    rw [Lib.run_countString, cntByte_eq]
    rfl
  · cases h1

def ascii : List UInt8 → Bool
  | [] => true
  | b :: r => match Nat.blt b.toNat 128 with
    | true => ascii r
    | false => false
theorem ascii_get : ∀ (l : List UInt8), ascii l = true → ∀ (j : Nat) b, l[j]? = some b → b.toNat < 128
  | [], _, j, b, h => by simp at h
  | x :: l, ha, j, b, h => by
    unfold ascii at ha
    split at ha
    · rename_i hx
      cases j with
      | zero => simp at h; subst h; exact blt_iff.1 hx
      | succ j => exact ascii_get l ha j b (by simpa using h)
    · cases ha
def hasByte (c : UInt8) : List UInt8 → Bool
  | [] => false
  | b :: r => match Nat.beq c.toNat b.toNat with
    | true => true
    | false => hasByte c r
theorem hasByte_eq (c : UInt8) : ∀ l : List UInt8, hasByte c l = l.contains c
  | [] => rfl
  | b :: r => by
    have ih := hasByte_eq c r
    unfold hasByte
    rw [beq_u8, List.contains_cons, ih]
    cases c == b <;> rfl
def dropIn (cs : List UInt8) : List UInt8 → List UInt8
  | [] => []
  | b :: r => match hasByte b cs with
    | true => dropIn cs r
    | false => b :: r
theorem dropIn_eq (cs : List UInt8) : ∀ l : List UInt8, dropIn cs l = Lib.trimLeftS l cs
  | [] => rfl
  | b :: r => by
    have ih := dropIn_eq cs r
    unfold dropIn
    unfold Lib.trimLeftS at ih ⊢
    rw [hasByte_eq, List.dropWhile_cons, ih]
    cases cs.contains b <;> rfl
def trimIn (cs l : List UInt8) : List UInt8 := dropIn cs (dropIn cs l.reverse).reverse
theorem trimIn_eq (cs l : List UInt8) : trimIn cs l = Lib.trimS l cs := by
  unfold trimIn
  rw [dropIn_eq, dropIn_eq]
  rfl
def gTrim : Pur := fun args => match args with
  | [.string s, .string c] => match ascii c.data.toList with
    | true => match Nat.ble s.data.toList.length 1000000 with
      | true => match Nat.ble c.data.toList.length 1000000 with
        | true => some (.string ⟨(trimIn c.data.toList s.data.toList).toArray⟩)
        | false => none
      | false => none
    | false => none
  | _ => none
theorem gTrim_ok {P : Program} {f : FuncId} (hf : ∀ args w, (callFunc f args).run P w = .ok (.enter f args) w)
    (h : ∀ (s cutset : ByteArray) (w : World), s.size ≤ 9223372036854775807 → cutset.size < 4294967281 → (∀ (j : Nat) b, cutset.data.toList[j]? = some b → b.toNat < 128) →
      Calls P f #[.string s, .string cutset] w fun e w' => e = .returned (.string ⟨(Lib.trimS s.data.toList cutset.data.toList).toArray⟩) ∧ Below w.heap.size w w') : PureOk P f gTrim := by
  refine pure_of_calls hf fun args v hg => ?_
  unfold gTrim at hg
  split at hg
  · rename_i s c
    split at hg
    · rename_i ha
      split at hg
      · rename_i h1
        split at hg
        · rename_i h2
          injection hg with hg; subst hg
          refine ⟨rfl, rfl, fun w => ?_⟩
          have e1 : s.size = s.data.toList.length := Lib.size_eq _
          have e2 : c.size = c.data.toList.length := Lib.size_eq _
          have l1 := Nat.le_of_ble_eq_true h1
          have l2 := Nat.le_of_ble_eq_true h2
          rw [trimIn_eq]
          exact h s c w (by omega) (by omega) (ascii_get _ ha)
        · cases hg
      · cases hg
    · cases hg
  · cases hg

def stringsOf : List Value → Option (List ByteArray)
  | [] => some []
  | v :: r => match v with
    | .string s => match stringsOf r with
      | some l => some (s :: l)
      | none => none
    | _ => none
theorem stringsOf_get : ∀ (l : List Value) (xs : List ByteArray), stringsOf l = some xs → l = xs.map .string
  | [], xs, h => by injection h with h; subst h; rfl
  | v :: r, xs, h => by
    unfold stringsOf at h
    split at h
    · split at h
      · rename_i l hl
        injection h with h; subst h
        rw [stringsOf_get r l hl]; rfl
      · cases h
    · cases h
def joinOf (sep : List UInt8) : List ByteArray → List UInt8
  | [] => []
  | x :: r => x.data.toList ++ joinRest sep r
where joinRest (sep : List UInt8) : List ByteArray → List UInt8
  | [] => []
  | x :: r => sep ++ (x.data.toList ++ joinRest sep r)
theorem joinRest_eq (sep : List UInt8) : ∀ xs : List ByteArray, joinOf.joinRest sep xs = Lib.joinTail sep (xs.map (·.data.toList))
  | [] => rfl
  | x :: r => by
    have ih := joinRest_eq sep r
    unfold joinOf.joinRest
    unfold Lib.joinTail at ih ⊢
    rw [ih]
    simp
theorem joinOf_eq (sep : List UInt8) (xs : List ByteArray) : joinOf sep xs = Lib.join (xs.map (·.data.toList)) sep := by
  cases xs with
  | nil => rfl
  | cons x r => rw [List.map_cons, Lib.join_cons, ← joinRest_eq]; rfl
def sJoin : Stub := fun args σ => match args with
  | [.slice none 0 0, .string _] => some (.string ⟨#[]⟩, σ)
  | [.slice (some ⟨b, o, none⟩) n _, .string sep] => bnd (aCells σ b) fun B => bnd (guardM (Nat.ble (o + n) B.cells.length) "join") fun _ => bnd (stringsOf ((B.cells.drop o).take n)) fun xs => match joinOf sep.data.toList xs with
    | l => match Nat.ble l.length 1000000 with
      | true => match Nat.ble n 1000000 with
        | true => some (.string ⟨l.toArray⟩, σ)
        | false => none
      | false => none
  | _ => none
theorem sJoin_ok {P : Program} {f : FuncId} (hf : ∀ args w, (callFunc f args).run P w = .ok (.enter f args) w)
    (h0 : ∀ (a : Option Addr) (c : Nat) (sep : ByteArray) (w : World), Calls P f #[.slice a 0 c, .string sep] w fun e w' => e = .returned (.string ⟨#[]⟩) ∧ w' = w)
    (h : ∀ (bk o c : Nat) (xs : List ByteArray) (sep : ByteArray) (w : World), (∀ (j : Nat) x, xs[j]? = some x → w.cell? ⟨bk, o + j, none⟩ = some (.string x)) → bk < w.heap.size → xs.length ≤ 140737488355328 → xs.length ≤ c →
      (Lib.join (xs.map (·.data.toList)) sep.data.toList).length ≤ 140737488355328 →
      Calls P f #[.slice (some ⟨bk, o, none⟩) xs.length c, .string sep] w fun e w' => e = .returned (.string ⟨(Lib.join (xs.map (·.data.toList)) sep.data.toList).toArray⟩) ∧ Below w.heap.size w w') : StubOk P f sJoin := by
  refine ⟨hf, fun φ σ w args args' v σ' hr hl hg => ?_⟩
  have two : ∀ x y : Value, args = [x, y] → ∃ x' y', args' = [x', y'] ∧ VR φ x x' ∧ VR φ y y' := by
    rintro x y rfl
    obtain ⟨x', e1, e2⟩ := hl.at_ (i := 0) (v := x) rfl
    obtain ⟨y', e3, e4⟩ := hl.at_ (i := 1) (v := y) rfl
    refine ⟨x', y', ?_, e2, e4⟩
    have hlen : args'.length = 2 := hl.1.symm
    match args', hlen with
    | [p, q], _ => simp at e1 e3; rw [e1, e3]
  unfold sJoin at hg
  split at hg
  · obtain ⟨x', y', rfl, hx, hy⟩ := two _ _ rfl
    injection hg with hg; injection hg with h1 h2; subst h1; subst h2
    cases hy
    cases hx
    refine (h0 none 0 _ w).mono ?_
    rintro e w' ⟨rfl, rfl⟩
    exact ⟨φ, _, rfl, .str _, Post.refl hr⟩
  · rename_i b o n c sep
    obtain ⟨x', y', rfl, hx, hy⟩ := two _ _ rfl
    obtain ⟨B, hB, hg⟩ := bnd_some hg
    obtain ⟨_, hfit, hg⟩ := bnd_some hg
    obtain ⟨xs, hxs, hg⟩ := bnd_some hg
    replace hfit := Nat.le_of_ble_eq_true (guardM_some hfit)
    simp only at hg
    split at hg
    · rename_i hl1
      split at hg
      · rename_i hl2
        injection hg with hg; injection hg with h1 h2; subst h1; subst h2
        cases hy
        cases hx with
        | slice hp hn hh0 hh1 =>
        rename_i c' p
        have hxs' := stringsOf_get _ _ hxs
        have hlen : xs.length = n := by
          have := congrArg List.length hxs'
          simp at this; omega
        obtain ⟨cur, fr, g1, g2, g3, g4, g5⟩ := hr.obj b p _ hp (aCells_some hB)
        have l1 := Nat.le_of_ble_eq_true hl1
        have l2 := Nat.le_of_ble_eq_true hl2
        rw [joinOf_eq] at l1
        have := h p.blk o c' xs sep w (fun j x hj => by
          rw [cell_of g1]
          have hjn : j < n := by rw [← hlen]; exact (List.getElem?_eq_some_iff.1 hj).1
          have h2 : B.cells[o + j]? = some (.string x) := by
            have e := congrArg (fun l : List Value => l[j]?) hxs'
            simp only [List.getElem?_take, if_pos hjn, List.getElem?_drop, List.getElem?_map, hj, Option.map_some] at e
            exact e
          obtain ⟨v', e1, e2⟩ := g4 _ _ h2
          cases e2
          exact e1) (hr.lt b p hp).2 (by omega) (by omega) (by omega)
        rw [hlen] at this
        refine this.mono ?_
        rintro e w' ⟨rfl, hb⟩
        rw [joinOf_eq]
        exact ⟨φ, _, rfl, .str _, Post.below hr hb⟩
      · cases hg
    · cases hg
  · cases hg

def sCopyCheck (T : TypeId) : Stub := fun args σ => match args with
  | [.pointer (some ⟨b, 0, none⟩)] => bnd (aCells σ b) fun B => match Nat.beq B.elem T with
    | true => match B.ex with
      | true => match B.cells with
        | [x, _] => match x with
          | .pointer none => bnd (aStoreCells σ b 0 [.pointer (some ⟨b, 0, none⟩)]) fun σ' => some (.tuple #[], σ')
          | .pointer (some ⟨b', 0, none⟩) => match Nat.beq b b' with
            | true => some (.tuple #[], σ)
            | false => none
          | _ => none
        | _ => none
      | false => none
    | false => none
  | _ => none
theorem sCopyCheck_ok {P : Program} {f : FuncId} {T : TypeId} (hf : ∀ args w, (callFunc f args).run P w = .ok (.enter f args) w)
    (h0 : ∀ (b : Nat) (w : World), w.cell? ⟨b, 0, none⟩ = some (.pointer none) → w.shape? b = some (T, 2) → w.frozen? ⟨b, 0, none⟩ = false → Calls P f #[.pointer (some ⟨b, 0, none⟩)] w fun e w' => e = .returned (.tuple #[]) ∧ w' = w.setCell ⟨b, 0, none⟩ (.pointer (some ⟨b, 0, none⟩)))
    (h1 : ∀ (b : Nat) (w : World), w.cell? ⟨b, 0, none⟩ = some (.pointer (some ⟨b, 0, none⟩)) → Calls P f #[.pointer (some ⟨b, 0, none⟩)] w fun e w' => e = .returned (.tuple #[]) ∧ w' = w) : StubOk P f (sCopyCheck T) := by
  refine ⟨hf, fun φ σ w args args' v σ' hr hl hg => ?_⟩
  have one1 : ∀ x : Value, args = [x] → ∃ x', args' = [x'] ∧ VR φ x x' := by
    rintro x rfl
    obtain ⟨x', e1, e2⟩ := hl.at_ (i := 0) (v := x) rfl
    refine ⟨x', ?_, e2⟩
    have hlen : args'.length = 1 := hl.1.symm
    match args', hlen with
    | [p], _ => simp at e1; rw [e1]
  unfold sCopyCheck at hg
  split at hg
  · rename_i b
    obtain ⟨x', rfl, hx⟩ := one1 _ rfl
    obtain ⟨B, hB, hg⟩ := bnd_some hg
    split at hg
    · rename_i hT
      split at hg
      · rename_i hex
        split at hg
        · rename_i x u hcells
          cases hx with
          | ptr hp =>
          rename_i p
          obtain ⟨cur, fr, g1, g2, g3, g4, g5⟩ := hr.obj b p _ hp (aCells_some hB)
          have hT' := Nat.eq_of_beq_eq_true hT
          have hsz : cur.size = 2 := by rw [g5.2 hex, hcells]; rfl
          obtain ⟨x0, k1, k2⟩ := g4 0 x (by rw [hcells]; rfl)
          split at hg
          · cases k2
            obtain ⟨σ1, hs, hg⟩ := bnd_some hg
            injection hg with hg; injection hg with e1 e2; subst e1; subst e2
            obtain ⟨w', r1, r2⟩ := aStoreCells_ok (P := P) (vs' := [.pointer (some ⟨p.blk, 0, none⟩)]) hs hr hp (LR.cons (.ptr hp) (LR.nil _))
            have hfrz : B.frz = false := by
              unfold aStoreCells at hs
              simp only at hs
              obtain ⟨B', hB', hs⟩ := bnd_some hs
              obtain ⟨_, hf', _⟩ := bnd_some hs
              rw [hB] at hB'; injection hB' with hB'; subst hB'
              simpa using guardM_some hf'
            have hfz : w.frozen? ⟨p.blk, 0, none⟩ = false := by
              rw [frozen_of g1]
              have := g5.1 hfrz 0 (by omega)
              rw [Bool.and_eq_false_iff, decide_eq_false_iff_not, decide_eq_false_iff_not]
              omega
            have hc0 : w.cell? ⟨p.blk, 0, none⟩ = some (.pointer none) := by rw [cell_of g1]; exact k1
            have hw' : w' = w.setCell ⟨p.blk, 0, none⟩ (.pointer (some ⟨p.blk, 0, none⟩)) := by
              have := run_storeCells_cells (P := P) p.blk 0 [.pointer (some ⟨p.blk, 0, none⟩)] 0 w (fun j hj => by
                have : j = 0 := by simpa using hj
                subst this
                rw [hc0]; rfl) (fun j hj => by
                have : j = 0 := by simpa using hj
                subst this
                exact hfz) (fun v hv => by simp at hv; subst hv; rfl)
              have e2 : (storeCells ⟨p.blk, 0, none⟩ [.pointer (some ⟨p.blk, 0, none⟩)] 0).run P w = .ok () (w.setCells p.blk 0 [.pointer (some ⟨p.blk, 0, none⟩)]) := by simpa using this
              rw [e2] at r1
              injection r1 with _ r1
              exact r1.symm
            refine (h0 p.blk w hc0 (by simp [World.shape?, g1, hsz, hT']) hfz).mono ?_
            rintro e w2 ⟨rfl, rfl⟩
            rw [← hw']
            exact ⟨φ, _, rfl, undef_VR φ, r2⟩
          · rename_i b'
            split at hg
            · rename_i hbb
              injection hg with hg; injection hg with e1 e2; subst e1; subst e2
              have := Nat.eq_of_beq_eq_true hbb
              subst this
              cases k2 with
              | ptr hp2 =>
              rw [hp] at hp2; injection hp2 with hp2; subst hp2
              refine (h1 p.blk w (by rw [cell_of g1]; exact k1)).mono ?_
              rintro e w' ⟨rfl, rfl⟩
              exact ⟨φ, _, rfl, undef_VR φ, Post.refl hr⟩
            · cases hg
          · cases hg
        · cases hg
      · cases hg
    · cases hg
  · cases hg
end Go.Proofs.Qas
