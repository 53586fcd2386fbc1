/- A part of the proof of the card of licitlaw37.ConclusionDiffers. -/
import Derived.Calls
import Derived.Laws.Sem
set_option linter.unusedSectionVars false
set_option linter.unusedSimpArgs false
set_option linter.unusedVariables false
namespace Go.Proofs.Qas

inductive Dg where
  | a | b | c | d
instance Dg.eqDec : DecidableEq Dg := fun x y => by
  cases x <;> cases y <;> first | exact isTrue rfl | exact isFalse (fun h => by cases h)
def dig : Nat → Dg
  | 0 => .a
  | n + 1 => match n with
    | 0 => .b
    | m + 1 => match m with
      | 0 => .c
      | _ + 1 => .d
def dval : Dg → Nat
  | .a => 0
  | .b => 1
  | .c => 2
  | .d => 3
theorem dval_dig {n : Nat} (h : n < 4) : dval (dig n) = n := by
  rcases n with _ | _ | _ | _ | n
  · rfl
  · rfl
  · rfl
  · rfl
  · omega
def pathF : Nat → Nat → List Dg
  | 0, _ => []
  | k + 1, n => match n with
    | 0 => []
    | m + 1 => dig (Nat.mod m 4) :: pathF k (Nat.div m 4)

def path (n : Nat) : List Dg := pathF n n
def unpath : List Dg → Nat
  | [] => 0
  | x :: p => 4 * unpath p + dval x + 1
theorem unpath_pathF : ∀ (k n : Nat), n ≤ k → unpath (pathF k n) = n := by
  intro k
  induction k with
  | zero => intro n h; simp [pathF, unpath]; omega
  | succ k ih =>
    intro n h
    cases n with
    | zero => rfl
    | succ m =>
      have h1 : m / 4 ≤ k := by omega
      have h2 : m % 4 < 4 := Nat.mod_lt _ (by omega)
      show 4 * unpath (pathF k (m / 4)) + dval (dig (m % 4)) + 1 = m + 1
      rw [ih _ h1, dval_dig h2]
      omega
theorem path_inj {n m : Nat} (h : path n = path m) : n = m := by
  have := congrArg unpath h
  rwa [path, path, unpath_pathF n n (Nat.le_refl _), unpath_pathF m m (Nat.le_refl _)] at this

inductive Tr (α : Type) where
  | nil
  | node (v : Option α) (a b c d : Tr α)

namespace Tr
variable {α : Type}
noncomputable def getP (t : Tr α) : List Dg → Option α :=
  Tr.rec (fun _ => none) (fun v _ _ _ _ ga gb gc gd p => match p with
    | [] => v
    | x :: p => match x with
      | .a => ga p
      | .b => gb p
      | .c => gc p
      | .d => gd p) t
def oneP (v : Option α) : List Dg → Tr α
  | [] => .node v .nil .nil .nil .nil
  | x :: p => match x with
    | .a => .node none (oneP v p) .nil .nil .nil
    | .b => .node none .nil (oneP v p) .nil .nil
    | .c => .node none .nil .nil (oneP v p) .nil
    | .d => .node none .nil .nil .nil (oneP v p)
noncomputable def setP (t : Tr α) : List Dg → Option α → Tr α :=
  Tr.rec (fun p v => oneP v p) (fun w a b c d sa sb sc sd p v => match p with
    | [] => .node v a b c d
    | x :: p => match x with
      | .a => .node w (sa p v) b c d
      | .b => .node w a (sb p v) c d
      | .c => .node w a b (sc p v) d
      | .d => .node w a b c (sd p v)) t
theorem getP_nil (p : List Dg) : (Tr.nil : Tr α).getP p = none := by cases p <;> rfl
theorem getP_n0 (v : Option α) (a b c d : Tr α) : (node v a b c d).getP [] = v := rfl
theorem getP_na (v : Option α) (a b c d : Tr α) (p : List Dg) : (node v a b c d).getP (.a :: p) = a.getP p := rfl
theorem getP_nb (v : Option α) (a b c d : Tr α) (p : List Dg) : (node v a b c d).getP (.b :: p) = b.getP p := rfl
theorem getP_nc (v : Option α) (a b c d : Tr α) (p : List Dg) : (node v a b c d).getP (.c :: p) = c.getP p := rfl
theorem getP_nd (v : Option α) (a b c d : Tr α) (p : List Dg) : (node v a b c d).getP (.d :: p) = d.getP p := rfl
theorem setP_nil (p : List Dg) (v : Option α) : (Tr.nil : Tr α).setP p v = oneP v p := rfl
theorem setP_n0 (w v : Option α) (a b c d : Tr α) : (node w a b c d).setP [] v = node v a b c d := rfl
theorem setP_na (w v : Option α) (a b c d : Tr α) (p : List Dg) : (node w a b c d).setP (.a :: p) v = node w (a.setP p v) b c d := rfl
theorem setP_nb (w v : Option α) (a b c d : Tr α) (p : List Dg) : (node w a b c d).setP (.b :: p) v = node w a (b.setP p v) c d := rfl
theorem setP_nc (w v : Option α) (a b c d : Tr α) (p : List Dg) : (node w a b c d).setP (.c :: p) v = node w a b (c.setP p v) d := rfl
theorem setP_nd (w v : Option α) (a b c d : Tr α) (p : List Dg) : (node w a b c d).setP (.d :: p) v = node w a b c (d.setP p v) := rfl
theorem getP_oneP (v : Option α) : ∀ (p q : List Dg), (oneP v p).getP q = if q = p then v else none
  | [], q => by
    cases q with
    | nil => rfl
    | cons y q => cases y <;> simp [oneP, getP_n0, getP_na, getP_nb, getP_nc, getP_nd, getP_nil]
  | x :: p, q => by
    cases q with
    | nil => cases x <;> simp [oneP, getP_n0]
    | cons y q =>
      have ih := getP_oneP v p q
      cases x <;> cases y <;> simp [oneP, getP_n0, getP_na, getP_nb, getP_nc, getP_nd, getP_nil, ih]
theorem getP_setP : ∀ (t : Tr α) (p q : List Dg) (v : Option α), (t.setP p v).getP q = if q = p then v else t.getP q
  | .nil, p, q, v => by rw [setP_nil, getP_oneP, getP_nil]
  | .node w a b c d, p, q, v => by
    cases p with
    | nil =>
      cases q with
      | nil => simp [setP_n0, setP_na, setP_nb, setP_nc, setP_nd, getP_n0, getP_na, getP_nb, getP_nc, getP_nd]
      | cons y q => cases y <;> simp [setP_n0, setP_na, setP_nb, setP_nc, setP_nd, getP_n0, getP_na, getP_nb, getP_nc, getP_nd]
    | cons x p =>
      cases q with
      | nil => cases x <;> simp [setP_n0, setP_na, setP_nb, setP_nc, setP_nd, getP_n0, getP_na, getP_nb, getP_nc, getP_nd]
      | cons y q =>
        have i1 := getP_setP a p q v
        have i2 := getP_setP b p q v
        have i3 := getP_setP c p q v
        have i4 := getP_setP d p q v
        cases x <;> cases y <;> simp [setP_n0, setP_na, setP_nb, setP_nc, setP_nd, getP_n0, getP_na, getP_nb, getP_nc, getP_nd, i1, i2, i3, i4]
noncomputable def get (t : Tr α) (n : Nat) : Option α := t.getP (path n)
noncomputable def set (t : Tr α) (n : Nat) (v : Option α) : Tr α := t.setP (path n) v
theorem get_set (t : Tr α) (n i : Nat) (v : Option α) : (t.set n v).get i = if i = n then v else t.get i := by
  rw [get, set, getP_setP]
  by_cases h : i = n
  · subst h; rw [if_pos rfl, if_pos rfl]
  · rw [if_neg h, if_neg (fun e => h (path_inj e))]; rfl
theorem get_nil (n : Nat) : (Tr.nil : Tr α).get n = none := getP_nil _
theorem get_set_same (t : Tr α) (n : Nat) (v : Option α) : (t.set n v).get n = v := by rw [get_set, if_pos rfl]
theorem get_set_other (t : Tr α) {n i : Nat} (v : Option α) (h : i ≠ n) : (t.set n v).get i = t.get i := by rw [get_set, if_neg h]

noncomputable def from_ : Tr α → Nat → List α → Tr α
  | t, _, [] => t
  | t, n, x :: xs => from_ (t.set n (some x)) (Nat.succ n) xs
theorem get_from (xs : List α) : ∀ (t : Tr α) (n i : Nat), (from_ t n xs).get i = if n ≤ i ∧ i < n + xs.length then xs[i - n]? else t.get i := by
  induction xs with
  | nil => intro t n i; simp only [from_, List.length_nil]; rw [if_neg (by omega)]
  | cons x xs ih =>
    intro t n i
    simp only [from_, ih, List.length_cons, get_set, Nat.succ_eq_add_one]
    by_cases h1 : n + 1 ≤ i ∧ i < n + 1 + xs.length
    · rw [if_pos h1, if_pos (by omega), show i - n = (i - (n + 1)) + 1 from by omega]; simp
    · rw [if_neg h1]
      by_cases h2 : i = n
      · subst h2; simp
      · rw [if_neg h2, if_neg (by omega)]

def mk : Nat → (Nat → Option α) → Tr α
  | 0, _ => .nil
  | k + 1, f => .node (f 0) (mk k fun m => f (Nat.add (Nat.mul 4 m) 1)) (mk k fun m => f (Nat.add (Nat.mul 4 m) 2)) (mk k fun m => f (Nat.add (Nat.mul 4 m) 3)) (mk k fun m => f (Nat.add (Nat.mul 4 m) 4))
theorem getP_mk : ∀ (k : Nat) (f : Nat → Option α) (p : List Dg) (x : α), (mk k f).getP p = some x → f (unpath p) = some x
  | 0, f, p, x, h => by rw [mk, getP_nil] at h; cases h
  | k + 1, f, p, x, h => by
    cases p with
    | nil => exact h
    | cons y p =>
      cases y
      · have := getP_mk k _ p x h; exact this
      · have := getP_mk k _ p x h; exact this
      · have := getP_mk k _ p x h; exact this
      · have := getP_mk k _ p x h; exact this
theorem get_mk {k : Nat} {f : Nat → Option α} {n : Nat} {x : α} (h : (mk k f).get n = some x) : f n = some x := by
  have := getP_mk k f _ x h
  rwa [path, unpath_pathF n n (Nat.le_refl _)] at this
end Tr

structure Blk where
  cells : List Value
  elem : TypeId
  frz : Bool
  ex : Bool := false
structure AEnt where
  key : Value
  val : Value
  born : Nat
inductive AObj where
  | cells (b : Blk)
  | map (es : List AEnt) (clock : Nat)
  | miter (m : Option Nat) (since : Nat) (seen : List Nat) (stepped : Nat)
  | iter (s : ByteArray) (pos : Nat)
  | loop (st : LoopState) (pending : Option Code) (fn : FuncId) (nt : Nat) (tmps : Tr Value) (params : List Tmp) (assign body : Code) (defers : Nat)
  | deferred (on : Bool)
structure AW where
  next : Nat
  heap : Tr AObj
noncomputable def AW.obj (σ : AW) (b : Nat) : Option AObj := σ.heap.get b
noncomputable def AW.put (σ : AW) (b : Nat) (o : Option AObj) : AW := match σ with | ⟨n, h⟩ => ⟨n, h.set b o⟩
noncomputable def AW.new (σ : AW) (o : AObj) : AW := match σ with | ⟨n, h⟩ => ⟨Nat.succ n, h.set n (some o)⟩
theorem AW.obj_put (σ : AW) (b i : Nat) (o : Option AObj) : (σ.put b o).obj i = if i = b then o else σ.obj i := Tr.get_set _ _ _ _
theorem AW.obj_new (σ : AW) (o : AObj) (i : Nat) : (σ.new o).obj i = if i = σ.next then some o else σ.obj i := Tr.get_set _ _ _ _

structure PB where
  blk : Nat
  size : Nat
  es : Nat
abbrev Phi := Nat → Option PB

inductive VR (φ : Phi) : Value → Value → Prop where
  | bool (b : Bool) : VR φ (.bool b) (.bool b)
  | int (k : IntKind) (n : Int) : VR φ (.int k n) (.int k n)
  | str (s : ByteArray) : VR φ (.string s) (.string s)
  | ptrNil : VR φ (.pointer none) (.pointer none)
  | ptr {b o : Nat} {p : PB} (h : φ b = some p) : VR φ (.pointer (some ⟨b, o, none⟩)) (.pointer (some ⟨p.blk, o, none⟩))
  | sliceNil : VR φ (.slice none 0 0) (.slice none 0 0)
  | slice {b o n c c' : Nat} {p : PB} (h : φ b = some p) (hn : n ≤ c') (h0 : c = 0 → o + c' * p.es ≤ p.size) (h1 : ∀ k, c = k + 1 → c' = k) :
      VR φ (.slice (some ⟨b, o, none⟩) n c) (.slice (some ⟨p.blk, o, none⟩) n c')
  | mapNil : VR φ (.map none) (.map none)
  | map {b : Nat} {p : PB} (h : φ b = some p) : VR φ (.map (some b)) (.map (some p.blk))
  | nilFunc : VR φ .nilFunc .nilFunc
  | func (f : FuncId) {a a' c c' : Array Value} (ha : a.size = a'.size) (hc : c.size = c'.size)
      (h1 : ∀ (i : Nat) v v', a[i]? = some v → a'[i]? = some v' → VR φ v v') (h2 : ∀ (i : Nat) v v', c[i]? = some v → c'[i]? = some v' → VR φ v v') :
      VR φ (.func (.func f) a c) (.func (.func f) a' c')
  | yield {l : Nat} {p : PB} (h : φ l = some p) : VR φ (.func (.yield l) #[] #[]) (.func (.yield p.blk) #[] #[])
  | nilIface : VR φ .nilIface .nilIface
  | iface (t : TypeId) {v v' : Value} (h : VR φ v v') : VR φ (.iface t v) (.iface t v')
  | agg {c c' : Array Value} (hc : c.size = c'.size) (h : ∀ (i : Nat) v v', c[i]? = some v → c'[i]? = some v' → VR φ v v') : VR φ (.agg c) (.agg c')
  | tuple {c c' : Array Value} (hc : c.size = c'.size) (h : ∀ (i : Nat) v v', c[i]? = some v → c'[i]? = some v' → VR φ v v') : VR φ (.tuple c) (.tuple c')

def Ext (φ φ' : Phi) : Prop := ∀ b p, φ b = some p → φ' b = some p
theorem Ext.refl (φ : Phi) : Ext φ φ := fun _ _ h => h
theorem Ext.trans {a b c : Phi} (h : Ext a b) (k : Ext b c) : Ext a c := fun x p e => k x p (h x p e)

theorem VR.ext {φ φ' : Phi} (e : Ext φ φ') {v v' : Value} (h : VR φ v v') : VR φ' v v' := by
  induction h with
  | bool b => exact .bool b
  | int k n => exact .int k n
  | str s => exact .str s
  | ptrNil => exact .ptrNil
  | ptr h => exact .ptr (e _ _ h)
  | sliceNil => exact .sliceNil
  | slice h hn h0 h1 => exact .slice (e _ _ h) hn h0 h1
  | mapNil => exact .mapNil
  | map h => exact .map (e _ _ h)
  | nilFunc => exact .nilFunc
  | func f ha hc _ _ i1 i2 => exact .func f ha hc i1 i2
  | yield h => exact .yield (e _ _ h)
  | nilIface => exact .nilIface
  | iface t _ ih => exact .iface t ih
  | agg hc _ ih => exact .agg hc ih
  | tuple hc _ ih => exact .tuple hc ih

def LR (φ : Phi) (l l' : List Value) : Prop := l.length = l'.length ∧ ∀ (i : Nat) v v', l[i]? = some v → l'[i]? = some v' → VR φ v v'
theorem LR.nil (φ : Phi) : LR φ [] [] := ⟨rfl, fun i v v' h => by simp at h⟩
theorem LR.cons {φ : Phi} {v v' : Value} {l l' : List Value} (h : VR φ v v') (k : LR φ l l') : LR φ (v :: l) (v' :: l') :=
  ⟨by simp [k.1], fun i => by
    cases i with
    | zero => intro a b ha hb; simp at ha hb; subst ha; subst hb; exact h
    | succ i => intro a b ha hb; simp at ha hb; exact k.2 i a b ha hb⟩
theorem LR.ext {φ φ' : Phi} (e : Ext φ φ') {l l' : List Value} (h : LR φ l l') : LR φ' l l' := ⟨h.1, fun i v v' a b => (h.2 i v v' a b).ext e⟩
theorem LR.at_ {φ : Phi} {l l' : List Value} (h : LR φ l l') {i : Nat} {v : Value} (hv : l[i]? = some v) : ∃ v', l'[i]? = some v' ∧ VR φ v v' := by
  have hi : i < l.length := (List.getElem?_eq_some_iff.1 hv).1
  have hi' : i < l'.length := h.1 ▸ hi
  exact ⟨l'[i], List.getElem?_eq_getElem hi', h.2 i v _ hv (List.getElem?_eq_getElem hi')⟩
theorem LR.none_ {φ : Phi} {l l' : List Value} (h : LR φ l l') {i : Nat} (hv : l[i]? = none) : l'[i]? = none := by
  rw [List.getElem?_eq_none_iff] at hv ⊢; rw [← h.1]; exact hv
theorem LR.append {φ : Phi} {a a' b b' : List Value} (h : LR φ a a') (k : LR φ b b') : LR φ (a ++ b) (a' ++ b') := by
  refine ⟨by simp [h.1, k.1], fun i v v' hv hv' => ?_⟩
  rcases Nat.lt_or_ge i a.length with hi | hi
  · rw [List.getElem?_append_left hi] at hv
    rw [List.getElem?_append_left (h.1 ▸ hi)] at hv'
    exact h.2 i v v' hv hv'
  · rw [List.getElem?_append_right hi] at hv
    rw [List.getElem?_append_right (h.1 ▸ hi), ← h.1] at hv'
    exact k.2 _ v v' hv hv'
theorem LR.drop {φ : Phi} {a a' : List Value} (h : LR φ a a') (n : Nat) : LR φ (a.drop n) (a'.drop n) :=
  ⟨by simp [h.1], fun i v v' hv hv' => by rw [List.getElem?_drop] at hv hv'; exact h.2 _ v v' hv hv'⟩
theorem LR.take {φ : Phi} {a a' : List Value} (h : LR φ a a') (n : Nat) : LR φ (a.take n) (a'.take n) := by
  refine ⟨by simp [h.1], fun i v v' hv hv' => ?_⟩
  rw [List.getElem?_take] at hv hv'
  split at hv
  · rename_i hi; rw [if_pos hi] at hv'; exact h.2 i v v' hv hv'
  · simp at hv
theorem LR.of_array {φ : Phi} {c c' : Array Value} (hc : c.size = c'.size) (h : ∀ (i : Nat) v v', c[i]? = some v → c'[i]? = some v' → VR φ v v') : LR φ c.toList c'.toList :=
  ⟨by simpa using hc, fun i v v' a b => h i v v' (by simpa using a) (by simpa using b)⟩
theorem LR.agg {φ : Phi} {l l' : List Value} (h : LR φ l l') : VR φ (.agg l.toArray) (.agg l'.toArray) :=
  .agg (by simpa using h.1) (fun i v v' a b => h.2 i v v' (by simpa using a) (by simpa using b))
theorem LR.tuple {φ : Phi} {l l' : List Value} (h : LR φ l l') : VR φ (.tuple l.toArray) (.tuple l'.toArray) :=
  .tuple (by simpa using h.1) (fun i v v' a b => h.2 i v v' (by simpa using a) (by simpa using b))
theorem VR.cells {φ : Phi} {v v' : Value} (h : VR φ v v') : LR φ v.cells.toList v'.cells.toList := by
  cases h <;> first
    | exact LR.cons (by constructor <;> assumption) (LR.nil _)
    | (rename_i hc h; exact LR.of_array hc h)

def TR (φ : Phi) (nt : Nat) (t : Tr Value) (a : Array Value) : Prop := a.size = nt ∧ ∀ (i : Nat) (v : Value), t.get i = some v → ∃ v' : Value, a[i]? = some v' ∧ VR φ v v'
theorem TR.ext {φ φ' : Phi} (e : Ext φ φ') {nt : Nat} {t : Tr Value} {a : Array Value} (h : TR φ nt t a) : TR φ' nt t a :=
  ⟨h.1, fun i v hv => let ⟨v', h1, h2⟩ := h.2 i v hv; ⟨v', h1, h2.ext e⟩⟩
theorem TR.set {φ : Phi} {nt : Nat} {t : Tr Value} {a : Array Value} (h : TR φ nt t a) {d : Nat} (hd : d < nt) {v v' : Value} (hv : VR φ v v') : TR φ nt (t.set d (some v)) (a.setIfInBounds d v') := by
  refine ⟨by simpa using h.1, fun i x hx => ?_⟩
  rw [Tr.get_set] at hx
  by_cases e : i = d
  · subst e
    rw [if_pos rfl] at hx
    injection hx with hx
    subst hx
    exact ⟨v', by rw [Array.getElem?_setIfInBounds_self_of_lt (by rw [h.1]; exact hd)], hv⟩
  · rw [if_neg e] at hx
    obtain ⟨x', h1, h2⟩ := h.2 i x hx
    exact ⟨x', by rw [Array.getElem?_setIfInBounds_ne (fun e' => e e'.symm)]; exact h1, h2⟩

def CellsOk (P : Program) (φ : Phi) (w : World) (p : PB) (B : Blk) : Prop :=
  ∃ (cur : Array Value) (fr : Nat × Nat), w.heap[p.blk]? = some (.cells cur B.elem fr) ∧ cur.size = p.size ∧ (P.info? B.elem).map (·.size) = some p.es ∧
    (∀ (i : Nat) (v : Value), B.cells[i]? = some v → ∃ v' : Value, cur[i]? = some v' ∧ VR φ v v') ∧ (B.frz = false → ∀ i : Nat, i < cur.size → ¬ (fr.1 ≤ i ∧ i < fr.2)) ∧ (B.ex = true → cur.size = B.cells.length)
def ER (φ : Phi) (es : List AEnt) (es' : Array MapEntry) : Prop :=
  LR φ (es.map (·.key)) (es'.toList.map (·.key)) ∧ LR φ (es.map (·.val)) (es'.toList.map (·.val)) ∧ es.map (·.born) = es'.toList.map (·.born)
def OR (P : Program) (φ : Phi) (w : World) (p : PB) : AObj → Prop
  | .cells B => CellsOk P φ w p B
  | .map es clock => ∃ (es' : Array MapEntry), w.heap[p.blk]? = some (.map es' clock) ∧ ER φ es es'
  | .miter none since seen stepped => w.heap[p.blk]? = some (.mapIter none since seen.toArray stepped)
  | .miter (some m) since seen stepped => ∃ q : PB, φ m = some q ∧ w.heap[p.blk]? = some (.mapIter (some q.blk) since seen.toArray stepped)
  | .iter s pos => w.heap[p.blk]? = some (.stringIter s pos)
  | .loop st pending fn nt tmps params assign body defers => ∃ (tmps' : Array Value) (q : PB), φ defers = some q ∧ TR φ nt tmps tmps' ∧
      w.heap[p.blk]? = some (.loop { state := st, pending, fn, tmps := tmps', params := params.toArray, assign, body, defers := q.blk })
  | .deferred on => w.heap[p.blk]? = some (.deferred (if on then some [] else none))

structure Rel (P : Program) (φ : Phi) (σ : AW) (w : World) : Prop where
  lt : ∀ b p, φ b = some p → b < σ.next ∧ p.blk < w.heap.size
  inj : ∀ b1 b2 p1 p2, φ b1 = some p1 → φ b2 = some p2 → σ.obj b1 ≠ none → σ.obj b2 ≠ none → p1.blk = p2.blk → b1 = b2
  obj : ∀ b p o, φ b = some p → σ.obj b = some o → OR P φ w p o

structure Keep (φ : Phi) (w w' : World) : Prop where
  os : w'.os = w.os
  tape : w'.tape = w.tape
  output : w'.output = w.output
  size : w.heap.size ≤ w'.heap.size
  block : ∀ c, c < w.heap.size → (∀ b p, φ b = some p → p.blk ≠ c) → w'.heap[c]? = w.heap[c]?

structure Post (P : Program) (φ : Phi) (σ : AW) (w : World) (φ' : Phi) (σ' : AW) (w' : World) : Prop where
  rel : Rel P φ' σ' w'
  ext : Ext φ φ'
  grow : ∀ b p, φ' b = some p → φ b = some p ∨ (σ.next ≤ b ∧ (w.heap.size ≤ p.blk ∨ ∃ b0 p0, φ b0 = some p0 ∧ p0.blk = p.blk))
  keep : Keep φ w w'
  next : σ.next ≤ σ'.next
  aframe : ∀ b, b < σ.next → φ b = none → σ'.obj b = σ.obj b

theorem Keep.refl (φ : Phi) (w : World) : Keep φ w w := ⟨rfl, rfl, rfl, Nat.le_refl _, fun _ _ _ => rfl⟩
theorem Post.refl {P : Program} {φ : Phi} {σ : AW} {w : World} (h : Rel P φ σ w) : Post P φ σ w φ σ w :=
  ⟨h, Ext.refl _, fun _ _ h => .inl h, Keep.refl _ _, Nat.le_refl _, fun _ _ _ => rfl⟩
theorem Post.trans {P : Program} {φ φ1 φ2 : Phi} {σ σ1 σ2 : AW} {w w1 w2 : World} (h : Post P φ σ w φ1 σ1 w1) (k : Post P φ1 σ1 w1 φ2 σ2 w2) : Post P φ σ w φ2 σ2 w2 := {
  rel := k.rel
  ext := h.ext.trans k.ext
  grow := fun b p e => by
    rcases k.grow b p e with e1 | ⟨hb, e1⟩
    · exact h.grow b p e1
    · refine .inr ⟨Nat.le_trans h.next hb, ?_⟩
      rcases e1 with e1 | ⟨b0, p0, e1, e2⟩
      · exact .inl (Nat.le_trans h.keep.size e1)
      · rcases h.grow b0 p0 e1 with e3 | ⟨_, e3⟩
        · exact .inr ⟨b0, p0, e3, e2⟩
        · rcases e3 with e3 | ⟨b3, p3, e3, e4⟩
          · exact .inl (e2 ▸ e3)
          · exact .inr ⟨b3, p3, e3, e4.trans e2⟩
  keep := ⟨k.keep.os.trans h.keep.os, k.keep.tape.trans h.keep.tape, k.keep.output.trans h.keep.output, Nat.le_trans h.keep.size k.keep.size, fun c hc hn => by
    rw [k.keep.block c (Nat.lt_of_lt_of_le hc h.keep.size) (fun b p e he => by
      rcases h.grow b p e with e1 | ⟨_, e1⟩
      · exact hn b p e1 he
      · rcases e1 with e1 | ⟨b0, p0, e1, e2⟩
        · omega
        · exact hn b0 p0 e1 (e2.trans he)), h.keep.block c hc hn]⟩
  next := Nat.le_trans h.next k.next
  aframe := fun b hb e => by
    rw [k.aframe b (Nat.lt_of_lt_of_le hb h.next) (by
      cases e1 : φ1 b with
      | none => rfl
      | some p =>
        rcases h.grow b p e1 with e2 | ⟨e2, _⟩
        · rw [e] at e2; cases e2
        · omega), h.aframe b hb e] }
end Go.Proofs.Qas
noncomputable section
namespace Go.Proofs.Qas

abbrev M (α : Type) := Option α
def fail {α : Type} (_why : String) : M α := none
def bnd {α β : Type} (x : M α) (f : α → M β) : M β := match x with | none => none | some a => f a

structure Ty where
  desc : TypeDesc
  size : Nat
  bytes : Nat
  zero : Option Value
  eqg : Bool
  stood : Bool

abbrev Stub := List Value → AW → M (Value × AW)

abbrev Pur := List Value → M Value
structure Env where
  types : Tr Ty
  funcs : Tr Func
  stubs : Tr Stub
  exts : Tr Stub
  pures : Tr Pur

def guardM (b : Bool) (why : String) : M Unit := match b with | true => some () | false => fail why
def ofOpt {α : Type} (why : String) (x : Option α) : M α := match x with | some a => some a | none => fail why
def Env.ty (E : Env) (t : TypeId) : M Ty := ofOpt "type" (E.types.get t)

def iadd : Int → Int → Int
  | .ofNat a, .ofNat b => .ofNat (Nat.add a b)
  | a, b => Int.add a b
def isub : Int → Int → Int
  | .ofNat a, .ofNat b => match Nat.ble b a with
    | true => .ofNat (Nat.sub a b)
    | false => Int.sub (.ofNat a) (.ofNat b)
  | a, b => Int.sub a b
def imul : Int → Int → Int
  | .ofNat a, .ofNat b => .ofNat (Nat.mul a b)
  | a, b => Int.mul a b
def halfOf : IntKind → Nat
  | .i8 | .u8 => 128
  | .i16 | .u16 => 32768
  | .i32 | .u32 => 2147483648
  | .i64 | .u64 => 9223372036854775808
def fwrap (k : IntKind) (n : Int) : Int :=
  match n with
  | .ofNat m => match Nat.blt m (halfOf k) with
    | true => .ofNat m
    | false => k.wrap (.ofNat m)
  | .negSucc m => k.wrap (.negSucc m)
def ilt : Int → Int → Bool
  | .ofNat a, .ofNat b => Nat.blt a b
  | .ofNat _, .negSucc _ => false
  | .negSucc _, .ofNat _ => true
  | .negSucc a, .negSucc b => Nat.blt b a
def ieq : Int → Int → Bool
  | .ofNat a, .ofNat b => Nat.beq a b
  | .negSucc a, .negSucc b => Nat.beq a b
  | _, _ => false
def toN : Int → M Nat
  | .ofNat n => some n
  | .negSucc _ => fail "negative"
def beqs (x : List UInt8) : List UInt8 → Bool :=
  List.rec (fun y => match y with
    | [] => true
    | _ :: _ => false) (fun a _ ih y => match y with
    | [] => false
    | b :: y => match Nat.beq a.toNat b.toNat with
      | true => ih y
      | false => false) x
theorem beqs_nn : beqs [] [] = true := rfl
theorem beqs_nc (b : UInt8) (y : List UInt8) : beqs [] (b :: y) = false := rfl
theorem beqs_cn (a : UInt8) (x : List UInt8) : beqs (a :: x) [] = false := rfl
theorem beqs_cc (a b : UInt8) (x y : List UInt8) : beqs (a :: x) (b :: y) = (match Nat.beq a.toNat b.toNat with | true => beqs x y | false => false) := rfl

def nth {α : Type} (l : List α) : Nat → Option α :=
  List.rec (fun _ => none) (fun a _ ih n => match n with
    | 0 => some a
    | n + 1 => ih n) l
def blts : List UInt8 → List UInt8 → Bool
  | _, [] => false
  | [], _ :: _ => true
  | a :: x, b :: y => match Nat.blt a.toNat b.toNat with
    | true => true
    | false => match Nat.beq a.toNat b.toNat with
      | true => blts x y
      | false => false
def kindEq : IntKind → IntKind → Bool
  | .i8, .i8 | .i16, .i16 | .i32, .i32 | .i64, .i64 | .u8, .u8 | .u16, .u16 | .u32, .u32 | .u64, .u64 => true
  | _, _ => false
def aInt (op : BinOp) (k : IntKind) (a b : Int) : M Value :=
  match op with
  | .add => some (.int k (fwrap k (iadd a b)))
  | .sub => some (.int k (fwrap k (isub a b)))
  | .mul => some (.int k (fwrap k (imul a b)))
  | .quo => match ieq b 0 with | true => fail "division by zero" | false => some (.int k (fwrap k (a.tdiv b)))
  | .rem => match ieq b 0 with | true => fail "division by zero" | false => some (.int k (a.tmod b))
  | .and => some (.int k (k.wrap (BitVec.ofInt k.bits a &&& BitVec.ofInt k.bits b).toNat))
  | .or => some (.int k (k.wrap (BitVec.ofInt k.bits a ||| BitVec.ofInt k.bits b).toNat))
  | .xor => some (.int k (k.wrap (BitVec.ofInt k.bits a ^^^ BitVec.ofInt k.bits b).toNat))
  | .andNot => some (.int k (k.wrap (BitVec.ofInt k.bits a &&& ~~~(BitVec.ofInt k.bits b)).toNat))
  | .eql => some (.bool (ieq a b))
  | .neq => some (.bool (!(ieq a b)))
  | .lss => some (.bool (ilt a b))
  | .leq => some (.bool (!(ilt b a)))
  | .gtr => some (.bool (ilt b a))
  | .geq => some (.bool (!(ilt a b)))
  | _ => fail "int op"
def aShift (op : BinOp) (k : IntKind) (a b : Int) : M Value :=
  match b with
  | .negSucc _ => fail "negative shift"
  | .ofNat y => match op with
    | .shl => some (.int k (fwrap k (a * 2 ^ (min y k.bits))))
    | .shr => some (.int k (a.fdiv (2 ^ (min y k.bits))))
    | _ => fail "shift"
def aStr (op : BinOp) (x y : ByteArray) : M Value :=
  match op with
  | .add => match Nat.ble (x.data.toList.length + y.data.toList.length) 1000000 with
    | true => some (.string ⟨(x.data.toList ++ y.data.toList).toArray⟩)
    | false => fail "long string"
  | .eql => some (.bool (beqs x.data.toList y.data.toList))
  | .neq => some (.bool (!(beqs x.data.toList y.data.toList)))
  | .lss => some (.bool (blts x.data.toList y.data.toList))
  | .leq => some (.bool (blts x.data.toList y.data.toList || beqs x.data.toList y.data.toList))
  | .gtr => some (.bool (!(blts x.data.toList y.data.toList || beqs x.data.toList y.data.toList)))
  | .geq => some (.bool (!(blts x.data.toList y.data.toList)))
  | _ => fail "string op"
def isAggD : TypeDesc → Bool
  | .struct _ => true
  | .array _ _ => true
  | _ => false
def aPart (E : Env) (t : TypeId) (cs : List Value) (off : Nat) : M Value :=
  bnd (E.ty t) fun ty => match isAggD ty.desc with
    | true => match Nat.ble (off + ty.size) cs.length with
      | true => some (.agg ((cs.drop off).take ty.size).toArray)
      | false => fail "part"
    | false => ofOpt "part" (nth cs off)

def fieldsEq (E : Env) (eq : TypeId → Value → Value → M Bool) (xs ys : List Value) : List Field → M Bool
  | [] => some true
  | f :: fs => match f.name == "_" with
    | true => fail "eq blank"
    | false => bnd (aPart E f.type xs f.offset) fun a => bnd (aPart E f.type ys f.offset) fun b =>
        bnd (eq f.type a b) fun r => match r with
          | true => fieldsEq E eq xs ys fs
          | false => some false
def aEq (E : Env) : Nat → TypeId → Value → Value → M Bool
  | 0, _, _, _ => fail "eq depth"
  | d + 1, t, x, y => match x, y with
    | .bool a, .bool b => bnd (E.ty t) fun ty => match ty.desc with | .bool => some (a == b) | _ => fail "eq bool"
    | .int k a, .int k' b => bnd (E.ty t) fun ty => match ty.desc with
      | .int _ => match kindEq k k' with | true => some (ieq a b) | false => fail "eq kinds"
      | _ => fail "eq int"
    | .string a, .string b => bnd (E.ty t) fun ty => match ty.desc with | .string => some (beqs a.data.toList b.data.toList) | _ => fail "eq string"
    | .agg xs, .agg ys => bnd (E.ty t) fun ty => match ty.stood with
      | true => fail "eq stood"
      | false => match ty.desc with
        | .struct fields => fieldsEq E (aEq E d) xs.toList ys.toList fields.toList
        | _ => fail "eq agg"
    | _, _ => fail "eq"

def eqD : TypeDesc → Value → Value → M Bool
  | .bool, .bool a, .bool b => some (a == b)
  | .pointer _, .pointer none, .pointer b => some b.isNone
  | .pointer _, .pointer (some _), .pointer none => some false
  | .slice _, .slice none _ _, .slice b _ _ => some b.isNone
  | .slice _, .slice (some _) _ _, .slice none _ _ => some false
  | .map _ _, .map none, .map b => some b.isNone
  | .map _ _, .map (some _), .map none => some false
  | .func _ _ _, .nilFunc, .nilFunc => some true
  | .func _ _ _, .nilFunc, .func _ _ _ => some false
  | .func _ _ _, .func _ _ _, .nilFunc => some false
  | .interface _, .nilIface, .iface _ _ => some false
  | .interface _, .iface _ _, .nilIface => some false
  | _, _, _ => fail "eq nil"
def aEqTop (E : Env) (lit : Bool) (t : TypeId) (x y : Value) : M Bool :=
  match x, y with
  | .nilIface, .nilIface => bnd (guardM lit "nil interfaces") fun _ => bnd (E.ty t) fun ty => match ty.desc with | .interface _ => some true | _ => fail "eq iface"
  | .agg a, .agg b => bnd (E.ty t) fun ty => match ty.eqg with
    | true => fail "eq guard"
    | false => aEq E 100 t (.agg a) (.agg b)
  | x, y => bnd (E.ty t) fun ty => eqD ty.desc x y
def aBin (E : Env) (lit : Bool) (op : BinOp) (t : TypeId) (x y : Value) : M Value :=
  match x, y with
  | .int k a, .int k' b => match op with
    | .shl => aShift .shl k a b
    | .shr => aShift .shr k a b
    | o => match kindEq k k' with
      | true => aInt o k a b
      | false => fail "kinds"
  | .string a, .string b => aStr op a b
  | x, y => match op with
    | .eql => bnd (aEqTop E lit t x y) fun r => some (.bool r)
    | .neq => bnd (aEqTop E lit t x y) fun r => some (.bool (!r))
    | _ => fail "binop"

structure F2 where
  f : Value → Value → M Value
def binF (E : Env) (lit : Bool) (op : BinOp) (t : TypeId) : F2 :=
  match op with
  | .add => ⟨fun x y => match x, y with
    | .int k a, .int k' b => match kindEq k k' with | true => some (.int k (fwrap k (iadd a b))) | false => fail "kinds"
    | .string a, .string b => aStr .add a b
    | _, _ => fail "add"⟩
  | .sub => ⟨fun x y => match x, y with
    | .int k a, .int k' b => match kindEq k k' with | true => some (.int k (fwrap k (isub a b))) | false => fail "kinds"
    | _, _ => fail "sub"⟩
  | .lss => ⟨fun x y => match x, y with
    | .int k a, .int k' b => match kindEq k k' with | true => some (.bool (ilt a b)) | false => fail "kinds"
    | .string a, .string b => aStr .lss a b
    | _, _ => fail "lss"⟩
  | .leq => ⟨fun x y => match x, y with
    | .int k a, .int k' b => match kindEq k k' with | true => some (.bool (!(ilt b a))) | false => fail "kinds"
    | .string a, .string b => aStr .leq a b
    | _, _ => fail "leq"⟩
  | .gtr => ⟨fun x y => match x, y with
    | .int k a, .int k' b => match kindEq k k' with | true => some (.bool (ilt b a)) | false => fail "kinds"
    | .string a, .string b => aStr .gtr a b
    | _, _ => fail "gtr"⟩
  | .geq => ⟨fun x y => match x, y with
    | .int k a, .int k' b => match kindEq k k' with | true => some (.bool (!(ilt a b))) | false => fail "kinds"
    | .string a, .string b => aStr .geq a b
    | _, _ => fail "geq"⟩
  | .eql => ⟨fun x y => match x, y with
    | .int k a, .int k' b => match kindEq k k' with | true => some (.bool (ieq a b)) | false => fail "kinds"
    | .string a, .string b => some (.bool (beqs a.data.toList b.data.toList))
    | x, y => bnd (aEqTop E lit t x y) fun r => some (.bool r)⟩
  | .neq => ⟨fun x y => match x, y with
    | .int k a, .int k' b => match kindEq k k' with | true => some (.bool (!(ieq a b))) | false => fail "kinds"
    | .string a, .string b => some (.bool (!(beqs a.data.toList b.data.toList)))
    | x, y => bnd (aEqTop E lit t x y) fun r => some (.bool (!r))⟩
  | op => ⟨fun x y => aBin E lit op t x y⟩
def runF2 (g : F2) (x y : Value) : M Value := match g with | ⟨f⟩ => f x y
def aUn (op : UnOp) (x : Value) : M Value :=
  match op, x with
  | .neg, .int k n => some (.int k (fwrap k (0 - n)))
  | .not, .bool b => some (.bool (!b))
  | .xor, .int k n => aInt .xor k (if k.signed then -1 else k.max) n
  | _, _ => fail "unop"

def aCells (σ : AW) (b : Nat) : M Blk := match σ.obj b with | some (.cells B) => some B | _ => fail "no cells"
def aLoad (E : Env) (σ : AW) (t : TypeId) (x : Value) : M Value :=
  match x with
  | .pointer (some ⟨b, o, none⟩) => bnd (aCells σ b) fun B => aPart E t B.cells o
  | _ => fail "load: no pointer"
def oneCells (l : List Value) : Bool :=
  List.rec true (fun v _ ih => match v with
    | .agg _ => false
    | .tuple _ => false
    | _ => ih) l
def putCells (cs : List Value) : Nat → List Value → M (List Value) :=
  List.rec (fun _ vs => match vs with
    | [] => some []
    | _ :: _ => fail "store beyond") (fun c cs ih n vs => match vs with
    | [] => some (c :: cs)
    | v :: vs => match n with
      | 0 => bnd (ih 0 vs) fun r => some (v :: r)
      | n + 1 => bnd (ih n (v :: vs)) fun r => some (c :: r)) cs
theorem putCells_nn (n : Nat) : putCells [] n [] = some [] := rfl
theorem putCells_nc (n : Nat) (v : Value) (vs : List Value) : putCells [] n (v :: vs) = none := rfl
theorem putCells_cn (c : Value) (cs : List Value) (n : Nat) : putCells (c :: cs) n [] = some (c :: cs) := rfl
theorem putCells_c0 (c v : Value) (cs vs : List Value) : putCells (c :: cs) 0 (v :: vs) = bnd (putCells cs 0 vs) fun r => some (v :: r) := rfl
theorem putCells_cs (c v : Value) (cs vs : List Value) (n : Nat) : putCells (c :: cs) (n + 1) (v :: vs) = bnd (putCells cs n (v :: vs)) fun r => some (c :: r) := rfl
def Blk.setCells (B : Blk) (cs : List Value) : Blk := match B with | ⟨_, e, f, x⟩ => ⟨cs, e, f, x⟩
def aStoreCells (σ : AW) (b o : Nat) (vs : List Value) : M AW :=
  match vs with
  | [] => some σ
  | _ => bnd (aCells σ b) fun B => bnd (guardM (!B.frz) "frozen") fun _ => bnd (guardM (oneCells vs) "cells") fun _ =>
    bnd (putCells B.cells o vs) fun cs => some (σ.put b (some (.cells (B.setCells cs))))
def aStore (E : Env) (σ : AW) (t : TypeId) (x v : Value) : M AW :=
  match x with
  | .pointer (some ⟨b, o, none⟩) => bnd (E.ty t) fun ty => bnd (guardM (Nat.beq v.cells.toList.length ty.size) "store size") fun _ => aStoreCells σ b o v.cells.toList
  | _ => fail "store: no pointer"
def aRow (σ : AW) (e : TypeId) (cs : List Value) : Value × AW := (.pointer (some ⟨σ.next, 0, none⟩), σ.new (.cells { cells := cs, elem := e, frz := false, ex := true }))
def plainV : Value → Bool
  | .bool _ => true
  | .int _ _ => true
  | .string _ => true
  | .pointer none => true
  | .slice none 0 0 => true
  | .map none => true
  | .nilFunc => true
  | .nilIface => true
  | _ => false
def plainVs : List Value → Bool
  | [] => true
  | v :: l => match plainV v with | true => plainVs l | false => false
def plainC : Value → Bool
  | .agg cs => plainVs cs.toList
  | v => plainV v
def aZero (E : Env) (t : TypeId) : M Value := bnd (E.ty t) fun ty => bnd (ofOpt "zero" ty.zero) fun z => match plainC z with | true => some z | false => fail "zero"
def repCells (l : List Value) : Nat → List Value
  | 0 => []
  | n + 1 => l ++ repCells l n
def aFill (place : Nat → M (Nat × Nat)) (cs : List Value) : List (Nat × Value) → M (List Value)
  | [] => some cs
  | (i, v) :: rest => bnd (place i) fun (off, size) => bnd (guardM (Nat.beq v.cells.toList.length size && Nat.ble (off + size) cs.length) "fill") fun _ =>
      bnd (putCells cs off v.cells.toList) fun cs' => aFill place cs' rest
def mapM' {α β : Type} (f : α → M β) (l : List α) : M (List β) :=
  List.rec (some []) (fun x _ ih => bnd (f x) fun y => bnd ih fun ys => some (y :: ys)) l
theorem mapM'_nil {α β : Type} (f : α → M β) : mapM' f [] = some [] := rfl
theorem mapM'_cons {α β : Type} (f : α → M β) (x : α) (xs : List α) : mapM' f (x :: xs) = bnd (f x) fun y => bnd (mapM' f xs) fun ys => some (y :: ys) := rfl
def aParts (ρ : Operand → M Value) (ps : List (Nat × Operand)) : M (List (Nat × Value)) := mapM' (fun (i, x) => bnd (ρ x) fun v => some (i, v)) ps
def aBuild (E : Env) (t : TypeId) (parts : List (Nat × Value)) : M Value :=
  bnd (aZero E t) fun z => bnd (E.ty t) fun ty => match ty.desc with
    | .struct fields => bnd (mapM' (fun f => bnd (E.ty f.type) fun fty => some (f.offset, fty.size)) fields.toList) fun places =>
        bnd (aFill (fun i => ofOpt "field" places[i]?) z.cells.toList parts) fun cs => some (.agg cs.toArray)
    | .array _ e => bnd (E.ty e) fun ety => bnd (aFill (fun i => some (i * ety.size, ety.size)) z.cells.toList parts) fun cs => some (.agg cs.toArray)
    | _ => fail "build"
def aSliceOver (b o n cap : Nat) : Value := .slice (some ⟨b, o, none⟩) n cap
def aBuildSlice (E : Env) (σ : AW) (t : TypeId) (len : Nat) (parts : List (Nat × Value)) : M (Value × AW) :=
  bnd (E.ty t) fun ty => match ty.desc with
    | .slice e => bnd (E.ty e) fun ety => bnd (guardM (Nat.ble (len * ety.size) 1000000) "buildSlice") fun _ => bnd (aZero E e) fun z =>
        bnd (guardM (Nat.beq z.cells.toList.length ety.size) "buildSlice zero") fun _ =>
        bnd (aFill (fun i => some (i * ety.size, ety.size)) (repCells z.cells.toList len) parts) fun cs =>
        some (aSliceOver σ.next 0 len (len + 1), σ.new (.cells { cells := cs, elem := e, frz := false }))
    | _ => fail "buildSlice"
def aInt1 : Value → M Int
  | .int _ n => some n
  | _ => fail "int expected"
def aBound (x : Value) (y : Nat) : M Nat := bnd (aInt1 x) fun i => bnd (toN i) fun n => match Nat.ble n y with | true => some n | false => fail "slice bound"
def aOptBound (x : Option Value) (d y : Nat) : M Nat := match x with | some v => aBound v y | none => some d
def aSliceArr (b o k size : Nat) (lo hi mx : Option Value) : M Value :=
  bnd (aOptBound mx k k) fun m => bnd (aOptBound hi k m) fun h => bnd (aOptBound lo 0 h) fun l =>
    some (aSliceOver b (match Nat.beq m l with | true => o | false => Nat.add o (Nat.mul l size)) (Nat.sub h l) (Nat.succ (Nat.sub m l)))
def aSliceKnown (b o n k size : Nat) (lo hi mx : Option Value) : M Value :=
  bnd (aOptBound mx k k) fun m => bnd (aOptBound hi n m) fun h => bnd (aOptBound lo 0 h) fun l =>
    some (aSliceOver b (match Nat.beq m l with | true => o | false => Nat.add o (Nat.mul l size)) (Nat.sub h l) (Nat.succ (Nat.sub m l)))

def aSliceOpen (σ : AW) (e : TypeId) (b o n size : Nat) (lo hi : Option Value) : M Value :=
  bnd (aOptBound hi n n) fun h => bnd (aOptBound lo 0 h) fun l => match l with
    | 0 => some (aSliceOver b o h 0)
    | l + 1 => match Nat.blt (Nat.succ l) n with
      | true => bnd (aCells σ b) fun B => bnd (guardM (Nat.beq B.elem e) "slice: elem") fun _ => some (aSliceOver b (Nat.add o (Nat.mul (Nat.succ l) size)) (Nat.sub h (Nat.succ l)) 0)
      | false => fail "slice at its end, capacity unknown"
def aSliceMax (b o n size : Nat) (lo hi : Option Value) (mx : Value) : M Value :=
  bnd (aBound mx n) fun m => bnd (aOptBound hi n m) fun h => bnd (aOptBound lo 0 h) fun l =>
    some (aSliceOver b (match Nat.beq m l with | true => o | false => Nat.add o (Nat.mul l size)) (Nat.sub h l) (Nat.succ (Nat.sub m l)))
def aSliceStr (s : ByteArray) (lo hi : Option Value) : M Value :=
  bnd (aOptBound hi s.data.toList.length s.data.toList.length) fun h => bnd (aOptBound lo 0 h) fun l => some (.string ⟨((s.data.toList.take h).drop l).toArray⟩)
def aSliceNil (lo hi mx : Option Value) : M Value :=
  bnd (aOptBound mx 0 0) fun m => bnd (aOptBound hi 0 m) fun h => bnd (aOptBound lo 0 h) fun _ => some (.slice none 0 0)

def aSlice (E : Env) (σ : AW) (t : TypeId) (x : Value) (lo hi mx : Option Value) : M Value :=
  bnd (E.ty t) fun ty => match ty.desc, x with
    | .string, .string s => match mx with
      | none => aSliceStr s lo hi
      | some _ => fail "slice string"
    | .slice e, .slice none 0 0 => bnd (E.ty e) fun _ => aSliceNil lo hi mx
    | .slice e, .slice (some ⟨b, o, none⟩) n c => bnd (E.ty e) fun ety => match c with
      | 0 => match mx with
        | none => aSliceOpen σ e b o n ety.size lo hi
        | some m' => aSliceMax b o n ety.size lo hi m'
      | k + 1 => aSliceKnown b o n k ety.size lo hi mx
    | .pointer a, .pointer (some ⟨b, o, none⟩) => bnd (E.ty a) fun aty => match aty.desc with
      | .array k e => bnd (E.ty e) fun ety => aSliceArr b o k ety.size lo hi mx
      | _ => fail "slice array"
    | .array k e, .pointer (some ⟨b, o, none⟩) => bnd (E.ty e) fun ety => aSliceArr b o k ety.size lo hi mx
    | _, _ => fail "slice"
def aFieldAddr (E : Env) (s : TypeId) (x : Value) (f : Nat) : M Value :=
  bnd (E.ty s) fun ty => match ty.desc, x with
    | .struct fields, .pointer (some ⟨b, o, none⟩) => bnd (ofOpt "field" fields.toList[f]?) fun fd => bnd (E.ty fd.type) fun fty => match fty.size with
      | 0 => fail "field of no size"
      | _ + 1 => some (.pointer (some ⟨b, o + fd.offset, none⟩))
    | _, _ => fail "fieldAddr"
def aField (E : Env) (s : TypeId) (x : Value) (f : Nat) : M Value :=
  bnd (E.ty s) fun ty => match ty.desc, x with
    | .struct fields, .agg cs => bnd (ofOpt "field" fields.toList[f]?) fun fd => aPart E fd.type cs.toList fd.offset
    | _, _ => fail "field"
def aIndexAddr (E : Env) (t : TypeId) (x ix : Value) : M Value :=
  bnd (aInt1 ix) fun i => bnd (toN i) fun i => bnd (E.ty t) fun ty => match ty.desc, x with
    | .array len e, .pointer (some ⟨b, o, none⟩) => bnd (E.ty e) fun ety => match Nat.blt i len with
      | true => some (.pointer (some ⟨b, o + i * ety.size, none⟩))
      | false => fail "index range"
    | .slice e, .slice (some ⟨b, o, none⟩) n _ => bnd (E.ty e) fun ety => match Nat.blt i n with
      | true => some (.pointer (some ⟨b, o + i * ety.size, none⟩))
      | false => fail "index range"
    | _, _ => fail "indexAddr"
def aIndex (E : Env) (t : TypeId) (x ix : Value) : M Value :=
  bnd (aInt1 ix) fun i => bnd (toN i) fun i => bnd (E.ty t) fun ty => match ty.desc, x with
    | .array len e, .agg cs => bnd (E.ty e) fun ety => match Nat.blt i len with
      | true => aPart E e cs.toList (i * ety.size)
      | false => fail "index range"
    | .string, .string s => bnd (ofOpt "index range" (nth s.data.toList i)) fun b => some (.int .u8 (.ofNat b.toNat))
    | _, _ => fail "index"

def keyEq : Value → Value → M Bool
  | .string a, .string b => some (beqs a.data.toList b.data.toList)
  | .int k a, .int k' b => match kindEq k k' with | true => some (ieq a b) | false => fail "key kinds"
  | _, _ => fail "key"
def keyTy : TypeDesc → Value → Bool
  | .string, .string _ => true
  | .int _, .int _ _ => true
  | _, _ => false
def aFind (k : Value) (l : List AEnt) : Nat → M (Option (Nat × Value)) :=
  List.rec (fun _ => some none) (fun e _ ih i => bnd (keyEq k e.key) fun r => match r with
    | true => some (some (i, e.val))
    | false => ih (Nat.succ i)) l
theorem aFind_nil (k : Value) (i : Nat) : aFind k [] i = some none := rfl
theorem aFind_cons (k : Value) (e : AEnt) (es : List AEnt) (i : Nat) : aFind k (e :: es) i = bnd (keyEq k e.key) fun r => match r with
    | true => some (some (i, e.val))
    | false => aFind k es (i + 1) := rfl
def aMapOf (σ : AW) (x : Value) : M (List AEnt) :=
  match x with
  | .map none => some []
  | .map (some b) => match σ.obj b with | some (.map es _) => some es | _ => fail "no map"
  | _ => fail "map expected"
def aLookup (E : Env) (σ : AW) (t : TypeId) (x k : Value) (ok : Bool) : M Value :=
  bnd (E.ty t) fun ty => match ty.desc with
    | .map kt e => bnd (E.ty kt) fun kty => bnd (guardM (keyTy kty.desc k) "key type") fun _ => bnd (aMapOf σ x) fun es => bnd (aFind k es 0) fun r =>
        match r with
        | some (_, v) => some (match ok with | true => .tuple #[v, .bool true] | false => v)
        | none => bnd (aZero E e) fun z => some (match ok with | true => .tuple #[z, .bool false] | false => z)
    | _ => fail "lookup"
def setVal (es : List AEnt) (i : Nat) (k v : Value) : List AEnt :=
  match es, i with
  | [], _ => []
  | e :: r, 0 => { key := k, val := v, born := e.born } :: r
  | e :: r, i + 1 => e :: setVal r i k v
def aMapUpdate (E : Env) (σ : AW) (t : TypeId) (m k v : Value) : M AW :=
  bnd (E.ty t) fun ty => match ty.desc, m with
    | .map kt _, .map (some b) => bnd (E.ty kt) fun kty => bnd (guardM (keyTy kty.desc k) "key type") fun _ => match σ.obj b with
      | some (.map es clock) => bnd (aFind k es 0) fun r => match r with
        | some (i, _) => some (σ.put b (some (.map (setVal es i k v) clock)))
        | none => some (σ.put b (some (.map (es ++ [{ key := k, val := v, born := clock }]) (clock + 1))))
      | _ => fail "no map"
    | _, _ => fail "mapUpdate"
def bytesOf : List Value → M (List UInt8)
  | [] => some []
  | .int .u8 n :: r => bnd (toN n) fun k => bnd (guardM (Nat.blt k 256) "byte") fun _ => bnd (bytesOf r) fun l => some (UInt8.ofNat k :: l)
  | _ => fail "byte"
def runesOf : List Value → M (List UInt8)
  | [] => some []
  | .int .i32 n :: r => bnd (toN n) fun k => bnd (guardM (Nat.blt k 128) "not ASCII") fun _ => bnd (runesOf r) fun l => some (UInt8.ofNat k :: l)
  | _ => fail "rune"
def aConvert (E : Env) (σ : AW) (src dst : TypeId) (x : Value) : M (Value × AW) :=
  bnd (E.ty src) fun s => bnd (E.ty dst) fun d => match s.desc, d.desc, x with
    | .int _, .int k, .int _ n => some (.int k (fwrap k n), σ)
    | .string, .string, .string _ => some (x, σ)
    | .string, .slice e, .string s => bnd (E.ty e) fun ety => match ety.desc with
      | .int .u8 => match Nat.beq ety.size 1 with
        | true => some (aSliceOver σ.next 0 s.data.toList.length 0, σ.new (.cells { cells := s.data.toList.map fun b => .int .u8 (.ofNat b.toNat), elem := e, frz := true }))
        | false => fail "convert: size"
      | _ => fail "convert string"
    | .slice e, .string, .slice none 0 0 => bnd (E.ty e) fun ety => match ety.desc with
      | .int .u8 => some (.string ⟨#[]⟩, σ)
      | _ => fail "convert to string"
    | .slice e, .string, .slice (some ⟨b, o, none⟩) n _ => bnd (E.ty e) fun ety => match ety.desc with
      | .int .u8 => bnd (aCells σ b) fun B => bnd (guardM (Nat.ble (o + n) B.cells.length) "convert to string") fun _ => bnd (bytesOf ((B.cells.drop o).take n)) fun s => some (.string ⟨s.toArray⟩, σ)
      | .int .i32 => bnd (aCells σ b) fun B => bnd (guardM (Nat.ble (o + n) B.cells.length) "convert to string") fun _ => bnd (runesOf ((B.cells.drop o).take n)) fun s => some (.string ⟨s.toArray⟩, σ)
      | _ => fail "convert to string"
    | _, _, _ => fail "convert"

def aLen (E : Env) (σ : AW) (t : TypeId) (x : Value) : M Value :=
  bnd (E.ty t) fun ty => match ty.desc, x with
    | .string, .string s => some (.int .i64 (.ofNat s.data.toList.length))
    | .slice _, .slice _ n _ => some (.int .i64 (.ofNat n))
    | .array n _, _ => some (.int .i64 (.ofNat n))
    | .pointer a, _ => bnd (E.ty a) fun aty => match aty.desc with | .array n _ => some (.int .i64 (.ofNat n)) | _ => fail "len"
    | .map _ _, x => bnd (aMapOf σ x) fun es => some (.int .i64 (.ofNat es.length))
    | _, _ => fail "len"
def aCap (E : Env) (t : TypeId) (x : Value) : M Value :=
  bnd (E.ty t) fun ty => match ty.desc, x with
    | .slice _, .slice none 0 0 => some (.int .i64 0)
    | .slice _, .slice (some _) _ (k + 1) => some (.int .i64 (.ofNat k))
    | _, _ => fail "cap"

def aSrc (σ : AW) (size n : Nat) (x : Value) : M (List Value) :=
  match x with
  | .slice none 0 0 => some []
  | .slice (some ⟨b, o, none⟩) _ _ => match n * size with
    | 0 => some []
    | k + 1 => bnd (aCells σ b) fun B => bnd (guardM (Nat.ble (o + (k + 1)) B.cells.length) "source") fun _ => some ((B.cells.drop o).take (k + 1))
  | .string s => match Nat.beq size 1 with
    | true => some ((s.data.toList.take n).map fun b => .int .u8 (.ofNat b.toNat))
    | false => fail "source"
  | _ => fail "source"
def aLenOf : Value → M Nat
  | .slice _ n _ => some n
  | .string s => some s.data.toList.length
  | _ => fail "len of"
def isSlS : TypeDesc → Bool
  | .slice _ => true
  | .string => true
  | _ => false

def aAppend (E : Env) (σ : AW) (ts : List TypeId) (s x : Value) : M (Value × AW) :=
  bnd (ofOpt "append" ts.head?) fun st => bnd (ofOpt "append" ts[1]?) fun xt => bnd (E.ty xt) fun xty => bnd (guardM (isSlS xty.desc) "append zeros") fun _ =>
  bnd (E.ty st) fun sty => match sty.desc with
    | .slice e => bnd (E.ty e) fun ety => bnd (guardM (Nat.ble ety.bytes 1000) "append: bytes") fun _ => bnd (aLenOf x) fun n => bnd (aSrc σ ety.size n x) fun new => bnd (guardM (oneCells new) "append cells") fun _ =>
      bnd (ofOpt "append: zero" ety.zero) fun z => bnd (guardM (Nat.beq z.cells.toList.length ety.size) "append: zero") fun _ => match s with
      | .slice none 0 0 => match n with
        | 0 => some (.slice none 0 0, σ)
        | n + 1 => bnd (guardM (Nat.ble (n + 1) 1000000) "append: long") fun _ => some (aSliceOver σ.next 0 (n + 1) 0, σ.new (.cells { cells := new, elem := e, frz := false }))
      | .slice (some ⟨b, o, none⟩) len c => bnd (guardM (Nat.ble (len + n) 1000000) "append: long") fun _ => match c with
        | k + 1 => match Nat.ble (len + n) k with
          | true => bnd (aStoreCells σ b (o + len * ety.size) new) fun σ' => some (aSliceOver b o (len + n) (k + 1), σ')
          | false => bnd (aSrc σ ety.size len s) fun old => some (aSliceOver σ.next 0 (len + n) 0, σ.new (.cells { cells := old ++ new, elem := e, frz := false }))
        | 0 => match n with
          | 0 => some (s, σ)
          | _ => match o with
            | 0 => bnd (aCells σ b) fun B => bnd (guardM (!B.frz) "append: frozen") fun _ => bnd (guardM (Nat.beq B.elem e) "append: elem") fun _ =>
              bnd (aSrc σ ety.size len s) fun old => some (aSliceOver σ.next 0 (len + n) 0, (σ.put b none).new (.cells { cells := old ++ new, elem := e, frz := false }))
            | _ => fail "append: not at a row's head"
      | _ => fail "append: slice"
    | _ => fail "append: type"
def aCopy (E : Env) (σ : AW) (ts : List TypeId) (d x : Value) : M (Value × AW) :=
  bnd (ofOpt "copy" ts.head?) fun dt => bnd (E.ty dt) fun dty => match dty.desc with
    | .slice e => bnd (E.ty e) fun ety => bnd (aLenOf d) fun dn => bnd (aLenOf x) fun xn => bnd (aSrc σ ety.size (Nat.min xn dn) x) fun new => match d with
      | .slice none 0 0 => some (.int .i64 (.ofNat (Nat.min xn dn)), σ)
      | .slice (some ⟨b, o, none⟩) _ _ => bnd (aStoreCells σ b o new) fun σ' => some (.int .i64 (.ofNat (Nat.min xn dn)), σ')
      | _ => fail "copy"
    | _ => fail "copy"
def aMin2 (x y : Value) : M Value := match x, y with
  | .int k a, .int _ b => some (.int k (match ilt b a with | true => b | false => a))
  | _, _ => fail "min"
def aMax2 (x y : Value) : M Value := match x, y with
  | .int k a, .int _ b => some (.int k (match ilt a b with | true => b | false => a))
  | _, _ => fail "max"
def foldM' (f : Value → Value → M Value) : Value → List Value → M Value
  | x, [] => some x
  | x, y :: r => bnd (f x y) fun z => foldM' f z r
def aUnsafeString (E : Env) (σ : AW) (ts : List TypeId) (p n : Value) : M (Value × AW) :=
  match ts, p, n with
  | [pt, _], .pointer (some ⟨b, 0, none⟩), .int .i64 n => bnd (toN n) fun n => match n with
    | 0 => fail "string of a row: no byte"
    | n + 1 => bnd (E.ty pt) fun pty => match pty.desc with
      | .pointer e => bnd (E.ty e) fun ety => bnd (guardM (Nat.beq ety.size 1 && Nat.ble (n + 1) 1000000) "string of a row") fun _ => bnd (aCells σ b) fun B =>
          bnd (guardM (Nat.beq B.elem e && Nat.ble (n + 1) B.cells.length) "string of a row") fun _ =>
          bnd (bytesOf (B.cells.take (n + 1))) fun s => some (.string ⟨s.toArray⟩, σ.put b (some (.cells { B with frz := true })))
      | _ => fail "string of a row"
  | _, _, _ => fail "string of a row"
def aBuiltin (E : Env) (σ : AW) (b : Builtin) (ts : List TypeId) (args : List Value) : M (Value × AW) :=
  match b, args with
  | .len, [x] => bnd (ofOpt "len" ts.head?) fun t => bnd (aLen E σ t x) fun v => some (v, σ)
  | .cap, [x] => bnd (ofOpt "cap" ts.head?) fun t => bnd (aCap E t x) fun v => some (v, σ)
  | .append, [s, x] => aAppend E σ ts s x
  | .copy, [d, x] => aCopy E σ ts d x
  | .min, x :: r => bnd (foldM' aMin2 x r) fun v => some (v, σ)
  | .max, x :: r => bnd (foldM' aMax2 x r) fun v => some (v, σ)
  | .unsafeSliceData, [.slice none _ _] => some (.pointer none, σ)
  | .unsafeSliceData, [.slice (some a) (_ + 1) 0] => some (.pointer (some a), σ)
  | .unsafeString, [p, n] => aUnsafeString E σ ts p n
  | _, _ => fail "builtin"
def aMakeSlice (E : Env) (σ : AW) (t : TypeId) (l c : Value) : M (Value × AW) :=
  bnd (aInt1 l) fun l => bnd (toN l) fun l => bnd (aInt1 c) fun c => bnd (toN c) fun c => bnd (guardM (Nat.ble l c && Nat.ble c 100000) "makeSlice") fun _ => bnd (E.ty t) fun ty => match ty.desc with
    | .slice e => bnd (E.ty e) fun ety => bnd (guardM (Nat.ble ety.bytes 1000) "makeSlice: bytes") fun _ => bnd (aZero E e) fun z => bnd (guardM (Nat.beq z.cells.toList.length ety.size) "zero") fun _ =>
        some (aSliceOver σ.next 0 l (c + 1), σ.new (.cells { cells := repCells z.cells.toList c, elem := e, frz := false }))
    | _ => fail "makeSlice"
def aNext (σ : AW) (it : Value) (isString : Bool) : M (Value × AW) :=
  match it, isString with
  | .pointer (some ⟨b, 0, none⟩), true => match σ.obj b with
    | some (.iter s pos) => match Nat.blt pos s.data.toList.length with
      | false => some (.tuple #[.bool false], σ)
      | true => match s.data.toList[pos]? with
        | some c => match Nat.blt c.toNat 128 with
          | true => some (.tuple #[.bool true, .int .i64 (.ofNat pos), .int .i32 (.ofNat c.toNat)], σ.put b (some (.iter s (pos + 1))))
          | false => fail "next: not ASCII"
        | none => fail "next"
    | _ => fail "next: no iterator"
  | .pointer (some ⟨b, 0, none⟩), false => match σ.obj b with
    | some (.miter none _ _ _) => some (.tuple #[.bool false], σ)
    | some (.miter (some m) since seen stepped) => match σ.obj m with
      | some (.map es clock) => bnd (guardM (seen.isEmpty || es.isEmpty || !(es.all fun e => Nat.ble stepped e.born)) "next: all gone") fun _ =>
        match es.filter (fun e => !(seen.contains e.born)) with
        | [] => some (.tuple #[.bool false], σ)
        | [e] => match Nat.blt e.born since with
          | true => some (.tuple #[.bool true, e.key, e.val], σ.put b (some (.miter (some m) since (seen ++ [e.born]) clock)))
          | false => fail "next: a new entry"
        | _ => fail "next: several entries"
      | _ => fail "next: no map"
    | _ => fail "next: no iterator"
  | _, _ => fail "next"
def aEntry (σ : AW) (it : Value) : M (Value × AW) :=
  match it with
  | .pointer (some ⟨b, 0, none⟩) => match σ.obj b with
    | some (.miter (some m) _ seen stepped) => match seen.getLast?, σ.obj m with
      | some stamp, some (.map es clock) => match Nat.beq clock stepped with
        | true => match es.find? (fun e => Nat.beq e.born stamp) with
          | some e => some (.tuple #[e.key, e.val], σ)
          | none => fail "entry"
        | false => fail "entry: clock"
      | _, _ => fail "entry"
    | _ => fail "entry"
  | _ => fail "entry"
def optM {α β : Type} (f : α → M β) : Option α → M (Option β)
  | none => some none
  | some a => bnd (f a) fun b => some (some b)
def isLit : Operand → Bool
  | .const _ => true
  | _ => false
abbrev Ev := Operand → M Value
def xMove (ρ : Ev) (x : Operand) (σ : AW) : M (Value × AW) := bnd (ρ x) fun v => some (v, σ)
def xPick (ρ : Ev) (c a b : Operand) (σ : AW) : M (Value × AW) := bnd (ρ c) fun t => match t with
  | .bool true => bnd (ρ a) fun v => some (v, σ)
  | .bool false => bnd (ρ b) fun v => some (v, σ)
  | _ => fail "pick"
def xAlloc (E : Env) (e : TypeId) (σ : AW) : M (Value × AW) := bnd (aZero E e) fun z => some (aRow σ e z.cells.toList)
def xBox (E : Env) (ρ : Ev) (e : TypeId) (x : Operand) (σ : AW) : M (Value × AW) := bnd (E.ty e) fun _ => bnd (ρ x) fun v => some (aRow σ e v.cells.toList)
def xBuild (E : Env) (ρ : Ev) (t : TypeId) (ps : Array (Nat × Operand)) (σ : AW) : M (Value × AW) := bnd (aParts ρ ps.toList) fun l => bnd (aBuild E t l) fun v => some (v, σ)
def xBuildSlice (E : Env) (ρ : Ev) (t : TypeId) (n : Nat) (ps : Array (Nat × Operand)) (σ : AW) : M (Value × AW) := bnd (aParts ρ ps.toList) fun l => aBuildSlice E σ t n l
def xLoad (E : Env) (ρ : Ev) (t : TypeId) (a : Operand) (σ : AW) : M (Value × AW) := bnd (ρ a) fun x => bnd (aLoad E σ t x) fun v => some (v, σ)
def xStore (E : Env) (ρ : Ev) (t : TypeId) (a x : Operand) (σ : AW) : M (Value × AW) := bnd (ρ a) fun a => bnd (ρ x) fun v => bnd (aStore E σ t a v) fun σ' => some (undef, σ')
def aNilCheck (v : Value) : M Value := match v with
  | .pointer (some _) => some v
  | .func (.func _) _ _ => some v
  | .func (.yield _) _ _ => some v
  | _ => fail "nilCheck"
def xNilCheck (ρ : Ev) (x : Operand) (σ : AW) : M (Value × AW) := bnd (ρ x) fun v => bnd (aNilCheck v) fun v => some (v, σ)
def xBin (E : Env) (ρ : Ev) (op : BinOp) (t : TypeId) (x y : Operand) (σ : AW) : M (Value × AW) := bnd (ρ x) fun a => bnd (ρ y) fun b => bnd (runF2 (binF E (isLit x || isLit y) op t) a b) fun v => some (v, σ)
def xUn (ρ : Ev) (op : UnOp) (x : Operand) (σ : AW) : M (Value × AW) := bnd (ρ x) fun a => bnd (aUn op a) fun v => some (v, σ)
def xConvert (E : Env) (ρ : Ev) (s d : TypeId) (x : Operand) (σ : AW) : M (Value × AW) := bnd (ρ x) fun a => aConvert E σ s d a
def xMakeFunc (ρ : Ev) (f : Fn) (first cap : Array Operand) (σ : AW) : M (Value × AW) := match f with
  | .func f => bnd (mapM' ρ first.toList) fun a => bnd (mapM' ρ cap.toList) fun c => some (.func (.func f) a.toArray c.toArray, σ)
  | _ => fail "makeFunc"
def xMakeMap (r : Option Operand) (σ : AW) : M (Value × AW) := match r with
  | none => some (.map (some σ.next), σ.new (.map [] 0))
  | some _ => fail "makeMap"
def xMakeSlice (E : Env) (ρ : Ev) (t : TypeId) (l c : Operand) (σ : AW) : M (Value × AW) := bnd (ρ l) fun l => bnd (ρ c) fun c => aMakeSlice E σ t l c
def maxOk (hi mx : Option Operand) : Bool := match mx, hi with
  | some _, none => false
  | _, _ => true
def xSlice (E : Env) (ρ : Ev) (t : TypeId) (x : Operand) (lo hi mx : Option Operand) (σ : AW) : M (Value × AW) := bnd (guardM (maxOk hi mx) "slice") fun _ => bnd (ρ x) fun v => bnd (optM ρ lo) fun lo => bnd (optM ρ hi) fun hi => bnd (optM ρ mx) fun mx => bnd (aSlice E σ t v lo hi mx) fun r => some (r, σ)
def xFieldAddr (E : Env) (ρ : Ev) (s : TypeId) (x : Operand) (f : Nat) (σ : AW) : M (Value × AW) := bnd (ρ x) fun v => bnd (aFieldAddr E s v f) fun r => some (r, σ)
def xField (E : Env) (ρ : Ev) (s : TypeId) (x : Operand) (f : Nat) (σ : AW) : M (Value × AW) := bnd (ρ x) fun v => bnd (aField E s v f) fun r => some (r, σ)
def xIndexAddr (E : Env) (ρ : Ev) (t : TypeId) (x i : Operand) (σ : AW) : M (Value × AW) := bnd (ρ x) fun v => bnd (ρ i) fun i => bnd (aIndexAddr E t v i) fun r => some (r, σ)
def xIndex (E : Env) (ρ : Ev) (t : TypeId) (x i : Operand) (σ : AW) : M (Value × AW) := bnd (ρ x) fun v => bnd (ρ i) fun i => bnd (aIndex E t v i) fun r => some (r, σ)
def xLookup (E : Env) (ρ : Ev) (t : TypeId) (x k : Operand) (ok : Bool) (σ : AW) : M (Value × AW) := bnd (ρ x) fun v => bnd (ρ k) fun k => bnd (aLookup E σ t v k ok) fun r => some (r, σ)
def xMapUpdate (E : Env) (ρ : Ev) (t : TypeId) (m k v : Operand) (σ : AW) : M (Value × AW) := bnd (ρ m) fun m => bnd (ρ k) fun k => bnd (ρ v) fun v => bnd (aMapUpdate E σ t m k v) fun σ' => some (undef, σ')
def aRange (E : Env) (σ : AW) (t : TypeId) (v : Value) : M (Value × AW) := bnd (E.ty t) fun ty => match ty.desc, v with
  | .string, .string s => some (.pointer (some ⟨σ.next, 0, none⟩), σ.new (.iter s 0))
  | .map _ _, .map none => some (.pointer (some ⟨σ.next, 0, none⟩), σ.new (.miter none 0 [] 0))
  | .map _ _, .map (some m) => match σ.obj m with
    | some (.map _ clock) => some (.pointer (some ⟨σ.next, 0, none⟩), σ.new (.miter (some m) clock [] clock))
    | _ => fail "range: no map"
  | _, _ => fail "range"
def xRange (E : Env) (ρ : Ev) (t : TypeId) (x : Operand) (σ : AW) : M (Value × AW) := bnd (ρ x) fun v => aRange E σ t v
def xNext (ρ : Ev) (it : Operand) (isString : Bool) (σ : AW) : M (Value × AW) := bnd (ρ it) fun v => aNext σ v isString
def xEntry (ρ : Ev) (it : Operand) (σ : AW) : M (Value × AW) := bnd (ρ it) fun v => aEntry σ v
def xExtract (ρ : Ev) (x : Operand) (i : Nat) (σ : AW) : M (Value × AW) := bnd (ρ x) fun v => match v with
  | .tuple vs => bnd (ofOpt "extract" vs.toList[i]?) fun r => some (r, σ)
  | _ => fail "extract"
def xBuiltin (E : Env) (ρ : Ev) (b : Builtin) (c : Call) (σ : AW) : M (Value × AW) := bnd (mapM' ρ c.args.toList) fun args => aBuiltin E σ b c.argTypes.toList args
structure FX where
  f : Ev → AW → M (Value × AW)

def opF (E : Env) (o : Op) : FX :=
  match o with
  | .move x => ⟨fun ρ σ => xMove ρ x σ⟩
  | .assign x => ⟨fun ρ σ => xMove ρ x σ⟩
  | .pick c a b => ⟨fun ρ σ => xPick ρ c a b σ⟩
  | .alloc e => ⟨fun ρ σ => xAlloc E e σ⟩
  | .box e x => ⟨fun ρ σ => xBox E ρ e x σ⟩
  | .build t ps => ⟨fun ρ σ => xBuild E ρ t ps σ⟩
  | .buildSlice t n ps => ⟨fun ρ σ => xBuildSlice E ρ t n ps σ⟩
  | .load t a => ⟨fun ρ σ => xLoad E ρ t a σ⟩
  | .store t a x => ⟨fun ρ σ => xStore E ρ t a x σ⟩
  | .nilCheck x => ⟨fun ρ σ => xNilCheck ρ x σ⟩
  | .binOp op t x y _ => ⟨fun ρ σ => xBin E ρ op t x y σ⟩
  | .unOp op _ x => ⟨fun ρ σ => xUn ρ op x σ⟩
  | .convert s d x => ⟨fun ρ σ => xConvert E ρ s d x σ⟩
  | .makeFunc f first cap => ⟨fun ρ σ => xMakeFunc ρ f first cap σ⟩
  | .makeMap _ r => ⟨fun ρ σ => xMakeMap r σ⟩
  | .makeSlice t l c => ⟨fun ρ σ => xMakeSlice E ρ t l c σ⟩
  | .slice t x lo hi mx => ⟨fun ρ σ => xSlice E ρ t x lo hi mx σ⟩
  | .fieldAddr s x f => ⟨fun ρ σ => xFieldAddr E ρ s x f σ⟩
  | .field s x f => ⟨fun ρ σ => xField E ρ s x f σ⟩
  | .indexAddr t x i => ⟨fun ρ σ => xIndexAddr E ρ t x i σ⟩
  | .index t x i => ⟨fun ρ σ => xIndex E ρ t x i σ⟩
  | .lookup t x k ok => ⟨fun ρ σ => xLookup E ρ t x k ok σ⟩
  | .mapUpdate t m k v => ⟨fun ρ σ => xMapUpdate E ρ t m k v σ⟩
  | .insert t m k v => ⟨fun ρ σ => xMapUpdate E ρ t m k v σ⟩
  | .range t x => ⟨fun ρ σ => xRange E ρ t x σ⟩
  | .next it isString => ⟨fun ρ σ => xNext ρ it isString σ⟩
  | .entry it => ⟨fun ρ σ => xEntry ρ it σ⟩
  | .extract x i => ⟨fun ρ σ => xExtract ρ x i σ⟩
  | .call c => match c.callee with
    | .builtin b => ⟨fun ρ σ => xBuiltin E ρ b c σ⟩
    | _ => ⟨fun _ _ => fail "call"⟩
  | _ => ⟨fun _ _ => fail "op"⟩
def runFX (g : FX) (ρ : Ev) (σ : AW) : M (Value × AW) := match g with | ⟨f⟩ => f ρ σ
def aExec (E : Env) (ρ : Ev) (o : Op) (σ : AW) : M (Value × AW) := runFX (opF E o) ρ σ

structure AAct where
  nt : Nat
  tmps : Tr Value
  defers : List Nat
def AAct.eval (a : AAct) : Operand → M Value
  | .tmp t => a.tmps.get t
  | .const v => match plainC v with | true => some v | false => fail "const"
  | .global _ => fail "global"
  | .func f => some (.func (.func f) #[] #[])
def AAct.put (a : AAct) (d : Option Tmp) (v : Value) : M AAct :=
  match d with
  | none => some a
  | some d => match a with
    | ⟨nt, t, ds⟩ => match Nat.blt d nt with
      | true => some ⟨nt, t.set d (some v), ds⟩
      | false => fail "tmp out of range"
inductive AExit where
  | normal
  | ret
  | exit (id : Nat)

inductive Task where
  | call (f : FuncId) (args : List Value)
  | round (l : Nat) (args : List Value)
  | loop (fn : FuncId) (around : Option Nat) (c : Code) (a : AAct)
inductive Res where
  | val (v : Value) (σ : AW)
  | act (e : AExit) (a : AAct) (σ : AW)
abbrev Rec := Task → AW → M Res
def asVal (r : M Res) : M (Value × AW) := bnd r fun r => match r with | .val v σ => some (v, σ) | .act _ _ _ => fail "a value expected"
def callFn (E : Env) (rec : Rec) (f : FuncId) (args : List Value) (σ : AW) : M (Value × AW) := match E.pures.get f with
  | some g => bnd (g args) fun v => some (v, σ)
  | none => match E.exts.get f with
    | some s => s args σ
    | none => asVal (rec (.call f args) σ)
def aCallee (E : Env) (rec : Rec) (v : Value) (args : List Value) (σ : AW) : M (Value × AW) :=
  match v with
  | .func (.func f) first cap => callFn E rec f (first.toList ++ args ++ cap.toList) σ
  | .func (.yield l) _ _ => asVal (rec (.round l args) σ)
  | _ => fail "callee"
def aCall (E : Env) (rec : Rec) (ρ : Ev) (f : Operand) (args : List Operand) (σ : AW) : M (Value × AW) := bnd (ρ f) fun v => bnd (mapM' ρ args) fun args => aCallee E rec v args σ
def callOf : Op → Option (Operand × List Operand)
  | .call c => match c.callee with
    | .value f => some (f, c.args.toList)
    | _ => none
  | _ => none
def aOper (E : Env) (rec : Rec) (ρ : Ev) (o : Op) (σ : AW) : M (Value × AW) :=
  match callOf o with
  | some (f, args) => aCall E rec ρ f args σ
  | none => aExec E ρ o σ

structure OF where
  guard : Option (Option Tmp × Bool)
  dst : Option Tmp
  op : Op
def ofOper (ops : Array Oper) (o : Oper) : OF := { guard := match o.guard with | none => none | some (j, want) => some ((ops[j]?).bind (·.dst), want), dst := o.dst, op := o.op }
def ofOps (ops : Array Oper) : List Oper → List OF
  | [] => []
  | o :: r => ofOper ops o :: ofOps ops r
def aWanted (a : AAct) (g : Option (Option Tmp × Bool)) : M Bool :=
  match g with
  | none => some true
  | some (d, want) => match d with
    | some d => match a.tmps.get d with
      | some (.bool b) => some (b == want)
      | some (.tuple _) => some false
      | _ => fail "guard"
    | none => fail "guard"
structure FO where
  f : Rec → AAct → AW → M (AAct × AW)
def runFO (g : FO) (rec : Rec) (a : AAct) (σ : AW) : M (AAct × AW) := match g with | ⟨f⟩ => f rec a σ
def opSkip (d : Option Tmp) (k : FO) (rec : Rec) (a : AAct) (σ : AW) : M (AAct × AW) := bnd (a.put d undef) fun a => runFO k rec a σ
def opCall (E : Env) (d : Option Tmp) (f : Operand) (args : List Operand) (k : FO) (rec : Rec) (a : AAct) (σ : AW) : M (AAct × AW) :=
  bnd (aCall E rec a.eval f args σ) fun (v, σ') => bnd (a.put d v) fun a' => runFO k rec a' σ'
def opExec (d : Option Tmp) (g : FX) (k : FO) (rec : Rec) (a : AAct) (σ : AW) : M (AAct × AW) :=
  bnd (runFX g a.eval σ) fun (v, σ') => bnd (a.put d v) fun a' => runFO k rec a' σ'
def opMove (d : Option Tmp) (x : Operand) (k : FO) (rec : Rec) (a : AAct) (σ : AW) : M (AAct × AW) :=
  bnd (a.eval x) fun v => bnd (a.put d v) fun a' => runFO k rec a' σ
def moveOf : Op → Option Operand
  | .move x => some x
  | .assign x => some x
  | _ => none
def opRun (E : Env) (d : Option Tmp) (op : Op) (k : FO) : FO := match moveOf op with
  | some x => ⟨opMove d x k⟩
  | none => match callOf op with
    | some (f, args) => ⟨opCall E d f args k⟩
    | none => ⟨opExec d (opF E op) k⟩
def opGuard (E : Env) (o : OF) (k : FO) : FO := match o.guard with
  | none => opRun E o.dst o.op k
  | some g => ⟨fun rec a σ => bnd (aWanted a (some g)) fun w => match w with
    | false => opSkip o.dst k rec a σ
    | true => runFO (opRun E o.dst o.op k) rec a σ⟩
def denOps (E : Env) : List OF → FO
  | [] => ⟨fun _ a σ => some (a, σ)⟩
  | o :: r => opGuard E o (denOps E r)
def toAct (e : AExit) (r : M (AAct × AW)) : M Res := bnd r fun (a, σ) => some (.act e a σ)
def andThen (r : M Res) (f : AAct → AW → M Res) : M Res := bnd r fun r => match r with
  | .act .normal a σ => f a σ
  | .act e a σ => some (.act e a σ)
  | .val _ _ => fail "no act"
def exitOf : Option Code → M AExit
  | none => some .normal
  | some .ret => some .ret
  | some (.exit id) => some (.exit id)
  | _ => fail "jump"
def aResults (E : Env) (fn : Func) (a : AAct) (σ : AW) : M Value :=
  bnd (mapM' (fun r => match r with
    | .tmp t => ofOpt "result" (a.tmps.get t)
    | .cell p t => bnd (ofOpt "result" (a.tmps.get p)) fun x => aLoad E σ t x) fn.results.toList) fun vs => match vs with
    | [v] => some v
    | vs => some (.tuple vs.toArray)
def aUnwind (σ : AW) : List Nat → M AW
  | [] => some σ
  | d :: ds => match σ.obj d with
    | some (.deferred true) => aUnwind (σ.put d (some (.deferred false))) ds
    | _ => fail "deferred"
def setParams : Tr Value → List Tmp → List Value → Tr Value
  | t, p :: ps, v :: vs => setParams (t.set p (some v)) ps vs
  | t, _, _ => t
def allLt (n : Nat) : List Nat → Bool
  | [] => true
  | p :: ps => match Nat.blt p n with | true => allLt n ps | false => false

structure FC where
  f : Rec → FuncId → Option Nat → AAct → AW → M Res
def runFC (g : FC) (rec : Rec) (fn : FuncId) (ar : Option Nat) (a : AAct) (σ : AW) : M Res := match g with | ⟨f⟩ => f rec fn ar a σ
def inBlock (id : Nat) (r : Res) : M Res := match r with
  | .act (.exit i) a σ => match Nat.beq i id with
    | true => some (.act .normal a σ)
    | false => some (.act (.exit i) a σ)
  | r => some r
def sCond (x y : FC) (t : Operand) (rec : Rec) (fn : FuncId) (ar : Option Nat) (a : AAct) (σ : AW) : M Res := bnd (a.eval t) fun v => match v with
  | .bool true => runFC x rec fn ar a σ
  | .bool false => runFC y rec fn ar a σ
  | _ => fail "cond"
def sAround (ar : Option Nat) (a : AAct) (σ : AW) : M (Nat × List Nat × AW) := match ar with
  | some l => match σ.obj l with
    | some (.loop _ _ _ _ _ _ _ _ d) => some (d, a.defers, σ)
    | _ => fail "range: around"
  | none => some (σ.next, σ.next :: a.defers, σ.new (.deferred true))
def endRange (l : Nat) (a : AAct) (ds : List Nat) (σ3 : AW) : M Res := match σ3.obj l with
  | some (.loop .busy _ _ _ _ _ _ _ _) => fail "range: busy"
  | some (.loop _ p fn3 nt3 tmps3 params3 assign3 body3 d3) => bnd (exitOf p) fun e =>
      some (.act e { a with defers := ds } (σ3.put l (some (.loop .exhausted p fn3 nt3 tmps3 params3 assign3 body3 d3))))
  | _ => fail "range: loop"
def sRange (E : Env) (f : Operand) (params : List Tmp) (assign body : Code) (rec : Rec) (fn : FuncId) (ar : Option Nat) (a : AAct) (σ : AW) : M Res :=
  bnd (a.eval f) fun fv => bnd (sAround ar a σ) fun (d, ds, σ1) =>
  bnd (aCallee E rec fv [.func (.yield σ1.next) #[] #[]] (σ1.new (.loop .ready none fn a.nt a.tmps params assign body d))) fun (_, σ3) => endRange σ1.next a ds σ3

def isBound (e : Edge) : Bool := match e.ground with
  | .textOnly _ => false
  | .gcOnly _ => false
  | _ => true
def edgeMask (acc : List Nat) : List Edge → Nat
  | [] => 0
  | e :: r => match isBound e with
    | true => Nat.lor (Nat.lor (Nat.shiftLeft 1 e.on) ((nth acc e.on).getD 0)) (edgeMask acc r)
    | false => edgeMask acc r

def masks : List Oper → List Nat → List Nat
  | [], acc => acc
  | o :: r, acc => masks r (acc ++ [edgeMask acc o.after.toList])
def optL : Option Operand → List Operand
  | none => []
  | some x => [x]
def sndL : List (Nat × Operand) → List Operand
  | [] => []
  | p :: r => (match p with | (_, x) => x) :: sndL r

def opnds : Op → List Operand
  | .move x => [x]
  | .assign x => [x]
  | .pick c a b => [c, a, b]
  | .box _ x => [x]
  | .build _ ps => sndL ps.toList
  | .buildSlice _ _ ps => sndL ps.toList
  | .load _ a => [a]
  | .store _ a x => [a, x]
  | .nilCheck x => [x]
  | .binOp _ _ x y _ => [x, y]
  | .unOp _ _ x => [x]
  | .convert _ _ x => [x]
  | .makeFunc _ first cap => first.toList ++ cap.toList
  | .makeMap _ r => optL r
  | .makeSlice _ l c => [l, c]
  | .slice _ x lo hi mx => x :: (optL lo ++ (optL hi ++ optL mx))
  | .fieldAddr _ x _ => [x]
  | .field _ x _ => [x]
  | .indexAddr _ x i => [x, i]
  | .index _ x i => [x, i]
  | .lookup _ x k _ => [x, k]
  | .mapUpdate _ m k v => [m, k, v]
  | .insert _ m k v => [m, k, v]
  | .range _ x => [x]
  | .next it _ => [it]
  | .entry it => [it]
  | .extract x _ => [x]
  | .call c => match c.callee with
    | .value f => f :: c.args.toList
    | _ => c.args.toList
  | _ => []

def isPure (E : Env) (f : Operand) : Bool := match f with
  | .func f => match E.pures.get f with
    | some _ => true
    | none => false
  | _ => false
def pureO (E : Env) : Op → Bool
  | .move _ => true
  | .assign _ => true
  | .pick _ _ _ => true
  | .build _ _ => true
  | .nilCheck _ => true
  | .binOp _ _ _ _ _ => true
  | .unOp _ _ _ => true
  | .makeFunc _ _ _ => true
  | .fieldAddr _ _ _ => true
  | .field _ _ _ => true
  | .indexAddr _ _ _ => true
  | .index _ _ _ => true
  | .extract _ _ => true
  | .call c => match c.callee with
    | .builtin .cap => true
    | .builtin .min => true
    | .builtin .max => true
    | .builtin .unsafeSliceData => true
    | .value f => isPure E f
    | _ => false
  | _ => false
def toSlice (E : Env) (t : TypeId) : Bool := match E.ty t with
  | none => true
  | some ty => match ty.desc with
    | .slice _ => true
    | _ => false

def quietO (E : Env) : Op → Bool
  | .load _ _ => true
  | .lookup _ _ _ _ => true
  | .slice _ _ _ _ _ => true
  | .entry _ => true
  | .convert _ d _ => !(toSlice E d)
  | .call c => match c.callee with
    | .builtin .len => true
    | _ => pureO E (.call c)
  | o => pureO E o

def tmpMask : List Operand → Nat
  | [] => 0
  | x :: r => match x with
    | .tmp t => Nat.lor (Nat.shiftLeft 1 t) (tmpMask r)
    | _ => tmpMask r
def guardMask (ops : Array Oper) (g : Option (Nat × Bool)) : Nat := match g with
  | none => 0
  | some (j, _) => match (ops[j]?).bind (·.dst) with
    | some d => Nat.shiftLeft 1 d
    | none => 0
def dstMask : Option Tmp → Nat
  | none => 0
  | some d => Nat.shiftLeft 1 d
inductive Kd where
  | alloc (e : TypeId)
  | quiet (sure : Bool)
  | actor
def kindOf (E : Env) (o : Oper) : Kd := match o.op with
  | .alloc e => match o.guard with
    | none => .alloc e
    | some _ => .actor
  | op => match quietO E op with
    | true => .quiet (pureO E op)
    | false => .actor

structure St where
  looks : Nat
  sets : Nat
  kd : Kd
  mask : Nat
def meets (a b : Nat) : Bool := match Nat.land a b with
  | 0 => false
  | _ + 1 => true
def isActor : Kd → Bool
  | .actor => true
  | _ => false

def clash (x y : St) : Bool := match meets x.sets (Nat.lor y.looks y.sets) with
  | true => true
  | false => match meets x.looks y.sets with
    | true => true
    | false => match isActor x.kd with
      | true => isActor y.kd
      | false => false

def apart (y : St) : Nat → List St → Bool
  | _, [] => true
  | i, x :: r => match clash x y with
    | true => match Nat.testBit y.mask i with
      | true => apart y (Nat.succ i) r
      | false => false
    | false => apart y (Nat.succ i) r
def edgesLt (j : Nat) : List Edge → Bool
  | [] => true
  | e :: r => match isBound e with
    | true => match Nat.blt e.on j with
      | true => edgesLt j r
      | false => false
    | false => edgesLt j r
structure Slot where
  guard : Option (Option Tmp × Bool)
  dst : Option Tmp
  op : Op
  kd : Kd
  lo : Nat
  hi : Nat

def actorsAhead (m : Nat) : Nat → List St → Nat
  | _, [] => 0
  | i, x :: r => match isActor x.kd with
    | true => match Nat.testBit m i with
      | true => Nat.succ (actorsAhead m (Nat.succ i) r)
      | false => actorsAhead m (Nat.succ i) r
    | false => actorsAhead m (Nat.succ i) r

def actorsFree (i : Nat) : List St → Nat
  | [] => 0
  | x :: r => match isActor x.kd with
    | true => match Nat.testBit x.mask i with
      | true => actorsFree i r
      | false => Nat.succ (actorsFree i r)
    | false => actorsFree i r
def stOf (E : Env) (ops : Array Oper) (o : Oper) (m : Nat) : St := { looks := Nat.lor (tmpMask (opnds o.op)) (guardMask ops o.guard), sets := dstMask o.dst, kd := kindOf E o, mask := m }
def stsOf (E : Env) (ops : Array Oper) : List Oper → List Nat → List St
  | o :: r, m :: ms => stOf E ops o m :: stsOf E ops r ms
  | _, _ => []
def allApart : List St → List St → Bool
  | _, [] => true
  | pre, y :: r => match apart y 0 pre with
    | true => allApart (pre ++ [y]) r
    | false => false
def allLtEdges : Nat → List Oper → Bool
  | _, [] => true
  | j, o :: r => match edgesLt j o.after.toList with
    | true => allLtEdges (Nat.succ j) r
    | false => false
def slotsOf (ops : Array Oper) (all : List St) : Nat → List Oper → List St → List Slot
  | i, o :: r, s :: ss => { guard := (ofOper ops o).guard, dst := o.dst, op := o.op, kd := s.kd, lo := actorsAhead s.mask 0 all, hi := actorsFree i all } :: slotsOf ops all (Nat.succ i) r ss
  | _, _, _ => []

structure Pair where
  t1 : TypeId
  a1 : Operand
  v1 : Operand
  t2 : TypeId
  a2 : Operand
  v2 : Operand
def storeOf (o : Oper) : Option (TypeId × Operand × Operand) := match o.guard with
  | some _ => none
  | none => match o.dst with
    | some _ => none
    | none => match o.op with
      | .store t a v => some (t, a, v)
      | _ => none
def pairOf (x y : Oper) : Option Pair := match storeOf x, storeOf y with
  | some (t1, a1, v1), some (t2, a2, v2) => some ⟨t1, a1, v1, t2, a2, v2⟩
  | _, _ => none
def splitLast2 {α : Type} : List α → Option (List α × α × α)
  | [] => none
  | x :: r => match r with
    | [] => none
    | y :: r' => match r' with
      | [] => some ([], x, y)
      | _ :: _ => match splitLast2 r with
        | some (l, u, v) => some (x :: l, u, v)
        | none => none
def sure : Kd → Bool
  | .quiet true => true
  | _ => false

def aheadOfBoth (x y : St) : Nat → List St → Bool
  | _, [] => true
  | i, z :: r => match sure z.kd with
    | true => aheadOfBoth x y (Nat.succ i) r
    | false => match Nat.testBit x.mask i with
      | true => match Nat.testBit y.mask i with
        | true => aheadOfBoth x y (Nat.succ i) r
        | false => false
      | false => false
def pairPlan (ops : List Oper) (all : List St) : Option Pair := match splitLast2 all, splitLast2 ops with
  | some (pre, x, y), some (_, ox, oy) => match pairOf ox oy with
    | some p => match allApart [] pre with
      | false => none
      | true => match apart x 0 pre with
        | false => none
        | true => match apart y 0 pre with
          | false => none
          | true => match aheadOfBoth x y 0 pre with
            | true => some p
            | false => none
    | none => none
  | _, _ => none
structure Plan where
  slots : List Slot
  pair : Option Pair

def planOf (E : Env) (ops : Array Oper) : M Plan :=
  match allLtEdges 0 ops.toList with
  | false => fail "edges"
  | true => match stsOf E ops ops.toList (masks ops.toList []) with
    | all => match allApart [] all with
      | true => some ⟨slotsOf ops all 0 ops.toList all, none⟩
      | false => match pairPlan ops.toList all with
        | some p => some ⟨slotsOf ops all 0 ops.toList all, some p⟩
        | none => fail "not apart"
def sameFlat : Value → Value → Bool
  | .bool a, .bool b => match a, b with
    | true, true => true
    | false, false => true
    | _, _ => false
  | .int k a, .int k' b => match kindEq k k' with
    | true => ieq a b
    | false => false
  | .string a, .string b => beqs a.data.toList b.data.toList
  | .pointer none, .pointer none => true
  | .pointer (some ⟨b, o, none⟩), .pointer (some ⟨b', o', none⟩) => match Nat.beq b b' with
    | true => Nat.beq o o'
    | false => false
  | .slice none 0 0, .slice none 0 0 => true
  | .slice (some ⟨b, o, none⟩) n c, .slice (some ⟨b', o', none⟩) n' c' => match Nat.beq b b' with
    | true => match Nat.beq o o' with
      | true => match Nat.beq n n' with
        | true => Nat.beq c c'
        | false => false
      | false => false
    | false => false
  | .map none, .map none => true
  | .map (some b), .map (some b') => Nat.beq b b'
  | .nilFunc, .nilFunc => true
  | .nilIface, .nilIface => true
  | _, _ => false
def sameFlats : List Value → List Value → Bool
  | [], [] => true
  | x :: xs, y :: ys => match sameFlat x y with
    | true => sameFlats xs ys
    | false => false
  | _, _ => false
def sameV (x y : Value) : Bool := match x, y with
  | .agg a, .agg b => sameFlats a.toList b.toList
  | .tuple a, .tuple b => sameFlats a.toList b.toList
  | x, y => sameFlat x y
structure Chk where
  op : Op
  act : AAct
  v : Value
  lo : Nat
  hi : Nat

def chkOf (s : Slot) (a : AAct) (v : Value) (cs : List Chk) : List Chk := match s.kd with
  | .quiet false => match Nat.blt s.lo s.hi with
    | true => { op := s.op, act := a, v := v, lo := s.lo, hi := s.hi } :: cs
    | false => cs
  | _ => cs
def askAgain (E : Env) (rec : Rec) (c : Chk) : Nat → List AW → Bool
  | _, [] => true
  | k, τ :: r => match Nat.ble c.lo k with
    | true => match Nat.ble k c.hi with
      | true => match aOper E rec c.act.eval c.op τ with
        | some (v, _) => match sameV c.v v with
          | true => askAgain E rec c (Nat.succ k) r
          | false => false
        | none => false
      | false => true
    | false => askAgain E rec c (Nat.succ k) r
def askAll (E : Env) (rec : Rec) (states : List AW) : List Chk → Bool
  | [] => true
  | c :: r => match askAgain E rec c 0 states with
    | true => askAll E rec states r
    | false => false
def allocs (E : Env) : List Slot → AW → M AW
  | [], σ => some σ
  | s :: r, σ => match s.kd with
    | .alloc e => bnd (aZero E e) fun z => match aRow σ e z.cells.toList with
      | (_, σ') => allocs E r σ'
    | _ => allocs E r σ
def runD (E : Env) (rec : Rec) : List Slot → Nat → AAct → AW → List AW → List Chk → M (AAct × AW × List AW × List Chk)
  | [], _, a, σ, ts, cs => some (a, σ, ts, cs)
  | s :: r, n, a, σ, ts, cs => match s.kd with
    | .alloc _ => bnd (a.put s.dst (.pointer (some ⟨n, 0, none⟩))) fun a' => runD E rec r (Nat.succ n) a' σ ts cs
    | .quiet _ => bnd (aWanted a s.guard) fun w => match w with
      | false => bnd (a.put s.dst undef) fun a' => runD E rec r n a' σ ts cs
      | true => bnd (aOper E rec a.eval s.op σ) fun (v, _) => bnd (a.put s.dst v) fun a' => runD E rec r n a' σ ts (chkOf s a v cs)
    | .actor => bnd (aWanted a s.guard) fun w => match w with
      | false => bnd (a.put s.dst undef) fun a' => runD E rec r n a' σ (ts ++ [σ]) cs
      | true => bnd (aOper E rec a.eval s.op σ) fun (v, σ') => bnd (a.put s.dst v) fun a' => runD E rec r n a' σ' (ts ++ [σ']) cs
def before2 {α : Type} : List α → Option α
  | [] => none
  | x :: r => match r with
    | [] => none
    | y :: r' => match r' with
      | [] => none
      | _ :: r'' => match r'' with
        | [] => some x
        | _ :: _ => before2 r

def askPair (E : Env) (a : AAct) (ts : List AW) : Option Pair → Bool
  | none => true
  | some p => match before2 ts, a.eval p.a1, a.eval p.a2, a.eval p.v2, E.ty p.t1, E.ty p.t2 with
    | some τ, some (.pointer (some ⟨b1, o1, none⟩)), some (.pointer (some ⟨b2, o2, none⟩)), some v, some ty1, some ty2 =>
      match aStore E τ p.t2 (.pointer (some ⟨b2, o2, none⟩)) v with
      | none => false
      | some _ => match Nat.beq b1 b2 with
        | false => true
        | true => match Nat.ble (Nat.add o1 ty1.size) o2 with
          | true => true
          | false => Nat.ble (Nat.add o2 ty2.size) o1
    | _, _, _, _, _, _ => false

def drawn (E : Env) (ops : Array Oper) (rec : Rec) (a : AAct) (σ : AW) : M (AAct × AW) :=
  bnd (planOf E ops) fun pl => bnd (allocs E pl.slots σ) fun σ1 => bnd (runD E rec pl.slots σ.next a σ1 [σ1] []) fun (a', σ', ts, cs) =>
  bnd (guardM (askAll E rec ts cs) "another order, another answer") fun _ => bnd (guardM (askPair E a' ts pl.pair) "a pair of stores") fun _ => some (a', σ')
def den (E : Env) : Code → FC
  | .skip => ⟨fun _ _ _ a σ => some (.act .normal a σ)⟩
  | .label _ => ⟨fun _ _ _ a σ => some (.act .normal a σ)⟩
  | .region _ ops draw => match draw with
    | true => ⟨fun rec _ _ a σ => toAct .normal (drawn E ops rec a σ)⟩
    | false => ⟨fun rec _ _ a σ => toAct .normal (runFO (denOps E (ofOps ops ops.toList)) rec a σ)⟩
  | .seq x y => ⟨fun rec fn ar a σ => andThen (runFC (den E x) rec fn ar a σ) fun a σ => runFC (den E y) rec fn ar a σ⟩
  | .cond t x y => ⟨sCond (den E x) (den E y) t⟩
  | .block id b => ⟨fun rec fn ar a σ => bnd (runFC (den E b) rec fn ar a σ) fun r => inBlock id r⟩
  | .loop b => ⟨fun rec fn ar a σ => rec (.loop fn ar b a) σ⟩
  | .scope b => ⟨fun rec fn ar a σ => runFC (den E b) rec fn ar a σ⟩
  | .exit id => ⟨fun _ _ _ a σ => some (.act (.exit id) a σ)⟩
  | .ret => ⟨fun _ _ _ a σ => some (.act .ret a σ)⟩
  | .rangeFunc f params assign body => ⟨sRange E f params.toList assign body⟩
  | .goto _ => ⟨fun _ _ _ _ _ => fail "goto"⟩
  | .refuse _ => ⟨fun _ _ _ _ _ => fail "refuse"⟩
def endCall (E : Env) (fn : Func) (r : Res) : M Res := match r with
  | .act .normal a σ' => bnd (aUnwind σ' a.defers) fun σ2 => bnd (aResults E fn a σ2) fun v => some (.val v σ2)
  | .act .ret a σ' => bnd (aUnwind σ' a.defers) fun σ2 => bnd (aResults E fn a σ2) fun v => some (.val v σ2)
  | _ => fail "call"
def sCall (E : Env) (rec : Rec) (f : FuncId) (args : List Value) (σ : AW) : M Res := match E.stubs.get f with
  | some s => bnd (s args σ) fun (v, σ') => some (.val v σ')
  | none => bnd (ofOpt "function" (E.funcs.get f)) fun fn => bnd (ofOpt "body" fn.body) fun c =>
    bnd (guardM (Nat.ble args.length fn.ntmps) "args") fun _ =>
    bnd (runFC (den E c) rec f none { nt := fn.ntmps, tmps := Tr.from_ .nil 0 args, defers := [] } σ) fun r => endCall E fn r
def endRound (l : Nat) (r : Res) : M Res := match r with
  | .act e a2 σ2 => match a2.defers, σ2.obj l with
    | [], some (.loop _ _ fn2 nt2 tmps2 params2 assign2 body2 defers2) => match e with
      | .normal => some (.val (.bool true) (σ2.put l (some (.loop .ready none fn2 nt2 tmps2 params2 assign2 body2 defers2))))
      | .ret => some (.val (.bool false) (σ2.put l (some (.loop .done (some .ret) fn2 nt2 tmps2 params2 assign2 body2 defers2))))
      | .exit id => some (.val (.bool false) (σ2.put l (some (.loop .done (some (.exit id)) fn2 nt2 tmps2 params2 assign2 body2 defers2))))
    | _, _ => fail "round end"
  | _ => fail "round"
def midRound (E : Env) (rec : Rec) (l : Nat) (fn : FuncId) (body : Code) (r : Res) : M Res := match r with
  | .act .normal a σ1 => match σ1.obj l with
    | some (.loop .ready p1 fn1 nt1 tmps1 params1 assign1 body1 defers1) =>
      bnd (runFC (den E body) rec fn (some l) a (σ1.put l (some (.loop .busy p1 fn1 nt1 tmps1 params1 assign1 body1 defers1)))) fun r2 => endRound l r2
    | _ => fail "round: not ready"
  | _ => fail "round: assign"
def sRound (E : Env) (rec : Rec) (l : Nat) (args : List Value) (σ : AW) : M Res := match σ.obj l with
  | some (.loop .ready _ fn nt tmps params assign body _) => bnd (guardM (Nat.beq args.length params.length && allLt nt params) "round") fun _ =>
    bnd (runFC (den E assign) rec fn (some l) { nt, tmps := setParams tmps params args, defers := [] } σ) fun r => midRound E rec l fn body r
  | _ => fail "round: no loop"
def step (E : Env) (rec : Rec) : Rec
  | .call f args, σ => sCall E rec f args σ
  | .round l args, σ => sRound E rec l args σ
  | .loop fn ar c a, σ => andThen (runFC (den E c) rec fn ar a σ) fun a σ => rec (.loop fn ar c a) σ
noncomputable def run (E : Env) (n : Nat) : Rec := Nat.rec (fun _ _ => fail "fuel") (fun _ ih => step E ih) n
theorem run_zero (E : Env) : run E 0 = fun _ _ => fail "fuel" := rfl
theorem run_succ (E : Env) (n : Nat) : run E (n + 1) = step E (run E n) := rfl
end Go.Proofs.Qas
