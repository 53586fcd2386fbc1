/- A part of the proof of the card of licitlaw37.ConclusionDiffers. -/
import Derived.Test.YtnpfemnclccbnaaGreatDoorQJ
import Derived.Test.YtnpfemnclccbnaaGreatDoorProg
import Derived.KernelRfl
import Derived.Ground.NamesProg
import Derived.Shelf.Strings.SlTrimAscii
import Derived.Shelf.Strings.OnBuilder
import Derived.Test.YtnpfemnclccbnaaGreatDoorSH
set_option linter.unusedSectionVars false
set_option linter.unusedSimpArgs false
set_option linter.unusedVariables false
noncomputable section
namespace Go.Proofs.Qas

def xorI (a b : Int) : Int := IntKind.u64.wrap (BitVec.ofInt IntKind.u64.bits a ^^^ BitVec.ofInt IntKind.u64.bits b).toNat
def andI (a b : Int) : Int := IntKind.u64.wrap (BitVec.ofInt IntKind.u64.bits a &&& BitVec.ofInt IntKind.u64.bits b).toNat
def orI (a b : Int) : Int := IntKind.u64.wrap (BitVec.ofInt IntKind.u64.bits a ||| BitVec.ofInt IntKind.u64.bits b).toNat
def notI (a : Int) : Int := IntKind.u64.wrap (BitVec.ofInt IntKind.u64.bits (if IntKind.u64.signed then -1 else IntKind.u64.max) ^^^ BitVec.ofInt IntKind.u64.bits a).toNat
def rotI (x : Int) (k : Nat) : Int := orI (fwrap .u64 (x * 2 ^ k)) (x.fdiv (2 ^ (64 - k)))
def offL : List Nat := [0, 1, 62, 28, 27, 36, 44, 6, 55, 20, 3, 10, 43, 25, 39, 41, 45, 15, 21, 8, 18, 2, 61, 56, 14]
def piL : List Nat := [0, 6, 12, 18, 24, 3, 9, 10, 16, 22, 1, 7, 13, 19, 20, 4, 5, 11, 17, 23, 2, 8, 14, 15, 21]
def colI (f : Nat → Int) (x : Nat) : Int := xorI (xorI (xorI (xorI (xorI 0 (f x)) (f (x + 5))) (f (x + 10))) (f (x + 15))) (f (x + 20))
def thI (f : Nat → Int) (i : Nat) : Int := rotI (xorI (f i) (xorI (colI f ((i % 5 + 4) % 5)) (rotI (colI f ((i % 5 + 1) % 5)) 1))) (offL.getD i 0)
def tI (f : Nat → Int) (j : Nat) : Int := thI f (piL.getD j 0)
def chiI (f : Nat → Int) (j : Nat) : Int := xorI (tI f j) (andI (notI (tI f (j - j % 5 + (j + 1) % 5))) (tI f (j - j % 5 + (j + 2) % 5)))
def laneI (f : Nat → Int) (c : Int) (j : Nat) : Int := match j with
  | 0 => xorI (chiI f 0) c
  | j + 1 => chiI f (j + 1)

def gRot : Pur := fun args => match args with
  | [.int .u64 x, .int .i64 (.ofNat k)] => match Nat.blt k 64 with
    | true => some (.int .u64 (rotI x k))
    | false => none
  | _ => none

abbrev two64 : Nat := 18446744073709551616
def rotN (x k : Nat) : Nat := Nat.lor (Nat.mod (Nat.shiftLeft x k) 18446744073709551616) (Nat.shiftRight x (Nat.sub 64 k))
theorem wrap_u64 (n : Int) : IntKind.u64.wrap n = n % 18446744073709551616 := by
  unfold IntKind.wrap
  rfl
theorem ofInt_nat (a : Nat) : (BitVec.ofInt IntKind.u64.bits (a : Int)) = BitVec.ofNat 64 a := by
  show BitVec.ofInt 64 (a : Int) = _
  rw [BitVec.ofInt_natCast]
theorem xorI_nat {a b : Nat} (ha : a < 18446744073709551616) (hb : b < 18446744073709551616) : xorI a b = ((a ^^^ b : Nat) : Int) := by
  unfold xorI
  rw [ofInt_nat, ofInt_nat, wrap_u64]
  have h : (BitVec.ofNat 64 a ^^^ BitVec.ofNat 64 b).toNat = a ^^^ b := by
    rw [BitVec.toNat_xor, BitVec.toNat_ofNat, BitVec.toNat_ofNat, Nat.mod_eq_of_lt ha, Nat.mod_eq_of_lt hb]
  have h2 := (BitVec.ofNat 64 a ^^^ BitVec.ofNat 64 b).isLt
  show ((BitVec.ofNat 64 a ^^^ BitVec.ofNat 64 b).toNat : Int) % 18446744073709551616 = _
  rw [h] at h2 ⊢
  omega
theorem andI_nat {a b : Nat} (ha : a < 18446744073709551616) (hb : b < 18446744073709551616) : andI a b = ((a &&& b : Nat) : Int) := by
  unfold andI
  rw [ofInt_nat, ofInt_nat, wrap_u64]
  have h : (BitVec.ofNat 64 a &&& BitVec.ofNat 64 b).toNat = a &&& b := by
    rw [BitVec.toNat_and, BitVec.toNat_ofNat, BitVec.toNat_ofNat, Nat.mod_eq_of_lt ha, Nat.mod_eq_of_lt hb]
  have h2 := (BitVec.ofNat 64 a &&& BitVec.ofNat 64 b).isLt
  show ((BitVec.ofNat 64 a &&& BitVec.ofNat 64 b).toNat : Int) % 18446744073709551616 = _
  rw [h] at h2 ⊢
  omega
theorem orI_nat {a b : Nat} (ha : a < 18446744073709551616) (hb : b < 18446744073709551616) : orI a b = ((a ||| b : Nat) : Int) := by
  unfold orI
  rw [ofInt_nat, ofInt_nat, wrap_u64]
  have h : (BitVec.ofNat 64 a ||| BitVec.ofNat 64 b).toNat = a ||| b := by
    rw [BitVec.toNat_or, BitVec.toNat_ofNat, BitVec.toNat_ofNat, Nat.mod_eq_of_lt ha, Nat.mod_eq_of_lt hb]
  have h2 := (BitVec.ofNat 64 a ||| BitVec.ofNat 64 b).isLt
  show ((BitVec.ofNat 64 a ||| BitVec.ofNat 64 b).toNat : Int) % 18446744073709551616 = _
  rw [h] at h2 ⊢
  omega
theorem notI_nat {a : Nat} (ha : a < 18446744073709551616) : notI a = ((18446744073709551615 ^^^ a : Nat) : Int) := by
  have : notI a = xorI ((18446744073709551615 : Nat) : Int) a := rfl
  rw [this, xorI_nat (by omega) ha]
theorem lt_xor {a b : Nat} (ha : a < 18446744073709551616) (hb : b < 18446744073709551616) : a ^^^ b < 18446744073709551616 := Nat.xor_lt_two_pow (n := 64) ha hb
theorem lt_and {a b : Nat} (hb : b < 18446744073709551616) : a &&& b < 18446744073709551616 := Nat.and_lt_two_pow (n := 64) a hb
theorem lt_or {a b : Nat} (ha : a < 18446744073709551616) (hb : b < 18446744073709551616) : a ||| b < 18446744073709551616 := Nat.or_lt_two_pow (n := 64) ha hb
theorem shr_lt {x : Nat} (k : Nat) (hx : x < 18446744073709551616) : x >>> k < 18446744073709551616 := by
  rw [Nat.shiftRight_eq_div_pow]
  exact Nat.lt_of_le_of_lt (Nat.div_le_self _ _) hx
theorem rotN_lt {x k : Nat} (hx : x < 18446744073709551616) : rotN x k < 18446744073709551616 :=
  lt_or (Nat.mod_lt _ (by decide)) (shr_lt _ hx)
theorem rotI_nat {x : Nat} (k : Nat) (hx : x < 18446744073709551616) : rotI x k = (rotN x k : Int) := by
  have h1 : fwrap .u64 ((x : Int) * 2 ^ k) = ((Nat.mod (Nat.shiftLeft x k) 18446744073709551616 : Nat) : Int) := by
    rw [fwrap_eq, wrap_u64]
    have : (Nat.mod (Nat.shiftLeft x k) 18446744073709551616) = x * 2 ^ k % 18446744073709551616 := by
      show (x <<< k) % 18446744073709551616 = _
      rw [Nat.shiftLeft_eq]
    rw [this, Int.natCast_emod, Int.natCast_mul, Int.natCast_pow]
    rfl
  have h2 : (x : Int).fdiv (2 ^ (64 - k)) = ((Nat.shiftRight x (Nat.sub 64 k) : Nat) : Int) := by
    have : (Nat.shiftRight x (Nat.sub 64 k)) = x / 2 ^ (64 - k) := by
      show x >>> (64 - k) = _
      rw [Nat.shiftRight_eq_div_pow]
    rw [this, Int.fdiv_eq_ediv_of_nonneg _ (Int.le_of_lt (Int.pow_pos (by decide))), Int.natCast_ediv, Int.natCast_pow]
    rfl
  unfold rotI
  rw [h1, h2]
  exact orI_nat (a := Nat.mod (Nat.shiftLeft x k) 18446744073709551616) (b := Nat.shiftRight x (Nat.sub 64 k)) (Nat.mod_lt _ (by decide)) (shr_lt _ hx)
end Go.Proofs.Qas
noncomputable section
namespace Go.Proofs.Qas

def colN (f : Nat → Nat) (x : Nat) : Nat := Nat.xor (Nat.xor (Nat.xor (Nat.xor (f x) (f (x + 5))) (f (x + 10))) (f (x + 15))) (f (x + 20))
def thN (f : Nat → Nat) (i : Nat) : Nat := rotN (Nat.xor (f i) (Nat.xor (colN f ((i % 5 + 4) % 5)) (rotN (colN f ((i % 5 + 1) % 5)) 1))) (offL.getD i 0)
def tN (f : Nat → Nat) (j : Nat) : Nat := thN f (piL.getD j 0)
def chiN (f : Nat → Nat) (j : Nat) : Nat := Nat.xor (tN f j) (Nat.land (Nat.xor 18446744073709551615 (tN f (j - j % 5 + (j + 1) % 5))) (tN f (j - j % 5 + (j + 2) % 5)))
def laneN (f : Nat → Nat) (c : Nat) (j : Nat) : Nat := match j with
  | 0 => Nat.xor (chiN f 0) c
  | j + 1 => chiN f (j + 1)
section
variable {f : Nat → Nat} (hf : ∀ i, f i < 18446744073709551616)
include hf
theorem colN_lt (x : Nat) : colN f x < 18446744073709551616 := lt_xor (lt_xor (lt_xor (lt_xor (hf _) (hf _)) (hf _)) (hf _)) (hf _)
theorem colI_nat (x : Nat) : colI (fun i => (f i : Int)) x = (colN f x : Int) := by
  unfold colI
  have h0 : xorI 0 (f x : Int) = (f x : Int) := by
    have := xorI_nat (a := 0) (b := f x) (by decide) (hf x)
    rw [Nat.zero_xor] at this
    exact this
  rw [h0, xorI_nat (hf _) (hf _), xorI_nat (lt_xor (hf _) (hf _)) (hf _), xorI_nat (lt_xor (lt_xor (hf _) (hf _)) (hf _)) (hf _), xorI_nat (lt_xor (lt_xor (lt_xor (hf _) (hf _)) (hf _)) (hf _)) (hf _)]
  rfl
theorem thN_lt (i : Nat) : thN f i < 18446744073709551616 := rotN_lt (lt_xor (hf _) (lt_xor (colN_lt hf _) (rotN_lt (colN_lt hf _))))
theorem thI_nat (i : Nat) : thI (fun i => (f i : Int)) i = (thN f i : Int) := by
  unfold thI
  rw [colI_nat hf, colI_nat hf, rotI_nat 1 (colN_lt hf _), xorI_nat (colN_lt hf _) (rotN_lt (colN_lt hf _)), xorI_nat (hf _) (lt_xor (colN_lt hf _) (rotN_lt (colN_lt hf _))), rotI_nat _ (lt_xor (hf _) (lt_xor (colN_lt hf _) (rotN_lt (colN_lt hf _))))]
  rfl
theorem tN_lt (j : Nat) : tN f j < 18446744073709551616 := thN_lt hf _
theorem chiN_lt (j : Nat) : chiN f j < 18446744073709551616 := lt_xor (tN_lt hf _) (lt_and (tN_lt hf _))
theorem chiI_nat (j : Nat) : chiI (fun i => (f i : Int)) j = (chiN f j : Int) := by
  unfold chiI
  have e : ∀ j, tI (fun i => (f i : Int)) j = (tN f j : Int) := fun j => thI_nat hf _
  rw [e, e, e, notI_nat (tN_lt hf _), andI_nat (lt_xor (by decide) (tN_lt hf _)) (tN_lt hf _), xorI_nat (tN_lt hf _) (lt_and (tN_lt hf _))]
  rfl
theorem laneN_lt {c : Nat} (hc : c < 18446744073709551616) (j : Nat) : laneN f c j < 18446744073709551616 := by
  cases j with
  | zero => exact lt_xor (chiN_lt hf _) hc
  | succ j => exact chiN_lt hf _
theorem laneI_nat {c : Nat} (hc : c < 18446744073709551616) (j : Nat) : laneI (fun i => (f i : Int)) c j = (laneN f c j : Int) := by
  cases j with
  | zero =>
    show xorI (chiI (fun i => (f i : Int)) 0) c = _
    rw [chiI_nat hf, xorI_nat (chiN_lt hf _) hc]
    rfl
  | succ j => exact chiI_nat hf _
end

def letN {α : Type} (n : Nat) (k : Nat → α) : α := Nat.rec (k 0) (fun m _ => k (Nat.succ m)) n
theorem letN_eq {α : Type} (n : Nat) (k : Nat → α) : letN n k = k n := by cases n <;> rfl
def roundL (l : List Nat) (c : Nat) : List Nat := match l with
  | [s0, s1, s2, s3, s4, s5, s6, s7, s8, s9, s10, s11, s12, s13, s14, s15, s16, s17, s18, s19, s20, s21, s22, s23, s24] => letN ((Nat.xor (Nat.xor (Nat.xor (Nat.xor s0 s5) s10) s15) s20)) fun c0 => letN ((Nat.xor (Nat.xor (Nat.xor (Nat.xor s1 s6) s11) s16) s21)) fun c1 => letN ((Nat.xor (Nat.xor (Nat.xor (Nat.xor s2 s7) s12) s17) s22)) fun c2 => letN ((Nat.xor (Nat.xor (Nat.xor (Nat.xor s3 s8) s13) s18) s23)) fun c3 => letN ((Nat.xor (Nat.xor (Nat.xor (Nat.xor s4 s9) s14) s19) s24)) fun c4 => letN (Nat.xor c4 (rotN c1 1)) fun d0 => letN (Nat.xor c0 (rotN c2 1)) fun d1 => letN (Nat.xor c1 (rotN c3 1)) fun d2 => letN (Nat.xor c2 (rotN c4 1)) fun d3 => letN (Nat.xor c3 (rotN c0 1)) fun d4 => letN (rotN (Nat.xor s0 d0) 0) fun t0 => letN (rotN (Nat.xor s6 d1) 44) fun t1 => letN (rotN (Nat.xor s12 d2) 43) fun t2 => letN (rotN (Nat.xor s18 d3) 21) fun t3 => letN (rotN (Nat.xor s24 d4) 14) fun t4 => letN (rotN (Nat.xor s3 d3) 28) fun t5 => letN (rotN (Nat.xor s9 d4) 20) fun t6 => letN (rotN (Nat.xor s10 d0) 3) fun t7 => letN (rotN (Nat.xor s16 d1) 45) fun t8 => letN (rotN (Nat.xor s22 d2) 61) fun t9 => letN (rotN (Nat.xor s1 d1) 1) fun t10 => letN (rotN (Nat.xor s7 d2) 6) fun t11 => letN (rotN (Nat.xor s13 d3) 25) fun t12 => letN (rotN (Nat.xor s19 d4) 8) fun t13 => letN (rotN (Nat.xor s20 d0) 18) fun t14 => letN (rotN (Nat.xor s4 d4) 27) fun t15 => letN (rotN (Nat.xor s5 d0) 36) fun t16 => letN (rotN (Nat.xor s11 d1) 10) fun t17 => letN (rotN (Nat.xor s17 d2) 15) fun t18 => letN (rotN (Nat.xor s23 d3) 56) fun t19 => letN (rotN (Nat.xor s2 d2) 62) fun t20 => letN (rotN (Nat.xor s8 d3) 55) fun t21 => letN (rotN (Nat.xor s14 d4) 39) fun t22 => letN (rotN (Nat.xor s15 d0) 41) fun t23 => letN (rotN (Nat.xor s21 d1) 2) fun t24 => letN (Nat.xor (Nat.xor t0 (Nat.land (Nat.xor 18446744073709551615 t1) t2)) c) fun o0 => letN (Nat.xor t1 (Nat.land (Nat.xor 18446744073709551615 t2) t3)) fun o1 => letN (Nat.xor t2 (Nat.land (Nat.xor 18446744073709551615 t3) t4)) fun o2 => letN (Nat.xor t3 (Nat.land (Nat.xor 18446744073709551615 t4) t0)) fun o3 => letN (Nat.xor t4 (Nat.land (Nat.xor 18446744073709551615 t0) t1)) fun o4 => letN (Nat.xor t5 (Nat.land (Nat.xor 18446744073709551615 t6) t7)) fun o5 => letN (Nat.xor t6 (Nat.land (Nat.xor 18446744073709551615 t7) t8)) fun o6 => letN (Nat.xor t7 (Nat.land (Nat.xor 18446744073709551615 t8) t9)) fun o7 => letN (Nat.xor t8 (Nat.land (Nat.xor 18446744073709551615 t9) t5)) fun o8 => letN (Nat.xor t9 (Nat.land (Nat.xor 18446744073709551615 t5) t6)) fun o9 => letN (Nat.xor t10 (Nat.land (Nat.xor 18446744073709551615 t11) t12)) fun o10 => letN (Nat.xor t11 (Nat.land (Nat.xor 18446744073709551615 t12) t13)) fun o11 => letN (Nat.xor t12 (Nat.land (Nat.xor 18446744073709551615 t13) t14)) fun o12 => letN (Nat.xor t13 (Nat.land (Nat.xor 18446744073709551615 t14) t10)) fun o13 => letN (Nat.xor t14 (Nat.land (Nat.xor 18446744073709551615 t10) t11)) fun o14 => letN (Nat.xor t15 (Nat.land (Nat.xor 18446744073709551615 t16) t17)) fun o15 => letN (Nat.xor t16 (Nat.land (Nat.xor 18446744073709551615 t17) t18)) fun o16 => letN (Nat.xor t17 (Nat.land (Nat.xor 18446744073709551615 t18) t19)) fun o17 => letN (Nat.xor t18 (Nat.land (Nat.xor 18446744073709551615 t19) t15)) fun o18 => letN (Nat.xor t19 (Nat.land (Nat.xor 18446744073709551615 t15) t16)) fun o19 => letN (Nat.xor t20 (Nat.land (Nat.xor 18446744073709551615 t21) t22)) fun o20 => letN (Nat.xor t21 (Nat.land (Nat.xor 18446744073709551615 t22) t23)) fun o21 => letN (Nat.xor t22 (Nat.land (Nat.xor 18446744073709551615 t23) t24)) fun o22 => letN (Nat.xor t23 (Nat.land (Nat.xor 18446744073709551615 t24) t20)) fun o23 => letN (Nat.xor t24 (Nat.land (Nat.xor 18446744073709551615 t20) t21)) fun o24 => [o0, o1, o2, o3, o4, o5, o6, o7, o8, o9, o10, o11, o12, o13, o14, o15, o16, o17, o18, o19, o20, o21, o22, o23, o24]
  | _ => []
set_option maxRecDepth 100000 in
theorem roundL_eq (s0 s1 s2 s3 s4 s5 s6 s7 s8 s9 s10 s11 s12 s13 s14 s15 s16 s17 s18 s19 s20 s21 s22 s23 s24 c : Nat) : roundL [s0, s1, s2, s3, s4, s5, s6, s7, s8, s9, s10, s11, s12, s13, s14, s15, s16, s17, s18, s19, s20, s21, s22, s23, s24] c = (List.range 25).map (laneN (fun i => [s0, s1, s2, s3, s4, s5, s6, s7, s8, s9, s10, s11, s12, s13, s14, s15, s16, s17, s18, s19, s20, s21, s22, s23, s24].getD i 0) c) := by
  unfold roundL
  simp only [letN_eq]
  rfl

def wordsOf : List Value → Option (List Nat)
  | [] => some []
  | v :: r => match v with
    | .int .u64 (.ofNat n) => match Nat.blt n 18446744073709551616 with
      | true => match wordsOf r with
        | some l => some (n :: l)
        | none => none
      | false => none
    | _ => none
def wordVs : List Nat → List Value
  | [] => []
  | n :: r => .int .u64 (.ofNat n) :: wordVs r
theorem wordsOf_get : ∀ (l : List Value) (ns : List Nat), wordsOf l = some ns → l = wordVs ns ∧ ∀ i, ns.getD i 0 < 18446744073709551616
  | [], ns, h => by injection h with h; subst h; exact ⟨rfl, fun i => by simp⟩
  | v :: r, ns, h => by
    unfold wordsOf at h
    split at h
    · rename_i n
      split at h
      · rename_i hb
        split at h
        · rename_i l hl
          injection h with h; subst h
          obtain ⟨h1, h2⟩ := wordsOf_get r l hl
          refine ⟨by rw [h1]; rfl, fun i => ?_⟩
          cases i with
          | zero => exact blt_iff.1 hb
          | succ i => exact h2 i
        · cases h
      · cases h
    · cases h
def offVs : List Value := [.int .i64 (.ofNat 0), .int .i64 (.ofNat 1), .int .i64 (.ofNat 62), .int .i64 (.ofNat 28), .int .i64 (.ofNat 27), .int .i64 (.ofNat 36), .int .i64 (.ofNat 44), .int .i64 (.ofNat 6), .int .i64 (.ofNat 55), .int .i64 (.ofNat 20), .int .i64 (.ofNat 3), .int .i64 (.ofNat 10), .int .i64 (.ofNat 43), .int .i64 (.ofNat 25), .int .i64 (.ofNat 39), .int .i64 (.ofNat 41), .int .i64 (.ofNat 45), .int .i64 (.ofNat 15), .int .i64 (.ofNat 21), .int .i64 (.ofNat 8), .int .i64 (.ofNat 18), .int .i64 (.ofNat 2), .int .i64 (.ofNat 61), .int .i64 (.ofNat 56), .int .i64 (.ofNat 14)]
def isOff : List Value → List Nat → Bool
  | [], l => match l with
    | [] => true
    | _ :: _ => false
  | v :: r, l => match l with
    | [] => false
    | n :: l => match v with
      | .int .i64 (.ofNat m) => match Nat.beq m n with
        | true => isOff r l
        | false => false
      | _ => false
theorem isOff_eq : ∀ (vs : List Value) (l : List Nat), isOff vs l = true → vs = l.map fun (n : Nat) => .int .i64 (.ofNat n)
  | [], [], _ => rfl
  | [], _ :: _, h => by cases h
  | _ :: _, [], h => by cases h
  | v :: r, n :: l, h => by
    unfold isOff at h
    simp only at h
    split at h
    · rename_i m
      split at h
      · rename_i hb
        rw [Nat.eq_of_beq_eq_true hb, isOff_eq r l h]; rfl
      · cases h
    · cases h

def gRound : Pur := fun args => match args with
  | [.agg s, .agg off, .int .u64 (.ofNat c)] => match Nat.blt c 18446744073709551616 with
    | true => match isOff off.toList offL with
      | true => match wordsOf s.toList with
        | some l => match Nat.beq l.length 25 with
          | true => some (.agg (wordVs (roundL l c)).toArray)
          | false => none
        | none => none
      | false => none
    | false => none
  | _ => none
theorem list25 {l : List Nat} (h : l.length = 25) : ∃ s0 s1 s2 s3 s4 s5 s6 s7 s8 s9 s10 s11 s12 s13 s14 s15 s16 s17 s18 s19 s20 s21 s22 s23 s24 : Nat, l = [s0, s1, s2, s3, s4, s5, s6, s7, s8, s9, s10, s11, s12, s13, s14, s15, s16, s17, s18, s19, s20, s21, s22, s23, s24] := by
  match l, h with
  | [s0, s1, s2, s3, s4, s5, s6, s7, s8, s9, s10, s11, s12, s13, s14, s15, s16, s17, s18, s19, s20, s21, s22, s23, s24], _ => exact ⟨s0, s1, s2, s3, s4, s5, s6, s7, s8, s9, s10, s11, s12, s13, s14, s15, s16, s17, s18, s19, s20, s21, s22, s23, s24, rfl⟩

def RoundRun (E : Env) (F n : Nat) : Prop := ∀ (f : Nat → Int) (c : Int), valOf (run E n (.call F [.agg #[.int .u64 (f 0), .int .u64 (f 1), .int .u64 (f 2), .int .u64 (f 3), .int .u64 (f 4), .int .u64 (f 5), .int .u64 (f 6), .int .u64 (f 7), .int .u64 (f 8), .int .u64 (f 9), .int .u64 (f 10), .int .u64 (f 11), .int .u64 (f 12), .int .u64 (f 13), .int .u64 (f 14), .int .u64 (f 15), .int .u64 (f 16), .int .u64 (f 17), .int .u64 (f 18), .int .u64 (f 19), .int .u64 (f 20), .int .u64 (f 21), .int .u64 (f 22), .int .u64 (f 23), .int .u64 (f 24)], .agg #[.int .i64 0, .int .i64 1, .int .i64 62, .int .i64 28, .int .i64 27, .int .i64 36, .int .i64 44, .int .i64 6, .int .i64 55, .int .i64 20, .int .i64 3, .int .i64 10, .int .i64 43, .int .i64 25, .int .i64 39, .int .i64 41, .int .i64 45, .int .i64 15, .int .i64 21, .int .i64 8, .int .i64 18, .int .i64 2, .int .i64 61, .int .i64 56, .int .i64 14], .int .u64 c]) noAW) = some (.agg #[.int .u64 (laneI f c 0), .int .u64 (laneI f c 1), .int .u64 (laneI f c 2), .int .u64 (laneI f c 3), .int .u64 (laneI f c 4), .int .u64 (laneI f c 5), .int .u64 (laneI f c 6), .int .u64 (laneI f c 7), .int .u64 (laneI f c 8), .int .u64 (laneI f c 9), .int .u64 (laneI f c 10), .int .u64 (laneI f c 11), .int .u64 (laneI f c 12), .int .u64 (laneI f c 13), .int .u64 (laneI f c 14), .int .u64 (laneI f c 15), .int .u64 (laneI f c 16), .int .u64 (laneI f c 17), .int .u64 (laneI f c 18), .int .u64 (laneI f c 19), .int .u64 (laneI f c 20), .int .u64 (laneI f c 21), .int .u64 (laneI f c 22), .int .u64 (laneI f c 23), .int .u64 (laneI f c 24)])
set_option maxRecDepth 100000 in
theorem gRound_ok {P : Program} {E : Env} (hE : Env.Ok P E) {F n : Nat} (hf : ∀ args w, (callFunc F args).run P w = .ok (.enter F args) w) (hr : RoundRun E F n) : PureOk P F gRound := by
  refine pure_of_calls hf fun args v hg => ?_
  unfold gRound at hg
  split at hg
  · rename_i s off c
    split at hg
    · rename_i hc
      split at hg
      · rename_i ho
        split at hg
        · rename_i l hl
          split at hg
          · rename_i h25
            injection hg with hg; subst hg
            have h25' := Nat.eq_of_beq_eq_true h25
            obtain ⟨h1, h2⟩ := wordsOf_get _ _ hl
            have hcl := blt_iff.1 hc
            have ho' := isOff_eq _ _ ho
            obtain ⟨s0, s1, s2, s3, s4, s5, s6, s7, s8, s9, s10, s11, s12, s13, s14, s15, s16, s17, s18, s19, s20, s21, s22, s23, s24, rfl⟩ := list25 h25'
            have hs : s = #[.int .u64 (.ofNat s0), .int .u64 (.ofNat s1), .int .u64 (.ofNat s2), .int .u64 (.ofNat s3), .int .u64 (.ofNat s4), .int .u64 (.ofNat s5), .int .u64 (.ofNat s6), .int .u64 (.ofNat s7), .int .u64 (.ofNat s8), .int .u64 (.ofNat s9), .int .u64 (.ofNat s10), .int .u64 (.ofNat s11), .int .u64 (.ofNat s12), .int .u64 (.ofNat s13), .int .u64 (.ofNat s14), .int .u64 (.ofNat s15), .int .u64 (.ofNat s16), .int .u64 (.ofNat s17), .int .u64 (.ofNat s18), .int .u64 (.ofNat s19), .int .u64 (.ofNat s20), .int .u64 (.ofNat s21), .int .u64 (.ofNat s22), .int .u64 (.ofNat s23), .int .u64 (.ofNat s24)] := Array.ext' h1
            have hoff : off = #[.int .i64 (.ofNat 0), .int .i64 (.ofNat 1), .int .i64 (.ofNat 62), .int .i64 (.ofNat 28), .int .i64 (.ofNat 27), .int .i64 (.ofNat 36), .int .i64 (.ofNat 44), .int .i64 (.ofNat 6), .int .i64 (.ofNat 55), .int .i64 (.ofNat 20), .int .i64 (.ofNat 3), .int .i64 (.ofNat 10), .int .i64 (.ofNat 43), .int .i64 (.ofNat 25), .int .i64 (.ofNat 39), .int .i64 (.ofNat 41), .int .i64 (.ofNat 45), .int .i64 (.ofNat 15), .int .i64 (.ofNat 21), .int .i64 (.ofNat 8), .int .i64 (.ofNat 18), .int .i64 (.ofNat 2), .int .i64 (.ofNat 61), .int .i64 (.ofNat 56), .int .i64 (.ofNat 14)] := Array.ext' ho'
            subst hs; subst hoff
            have hrun := hr (fun i => (([s0, s1, s2, s3, s4, s5, s6, s7, s8, s9, s10, s11, s12, s13, s14, s15, s16, s17, s18, s19, s20, s21, s22, s23, s24].getD i 0 : Nat) : Int)) (c : Int)
            simp only [laneI_nat h2 hcl] at hrun
            rw [roundL_eq]
            refine ⟨rfl, rfl, fun w => ?_⟩
            exact calls_of_run hE n hrun rfl rfl w
          · cases hg
        · cases hg
      · cases hg
    · cases hg
  · cases hg

def RotRun (E : Env) (F n : Nat) : Prop := ∀ (x : Int) (k : Nat), k < 64 → valOf (run E n (.call F [.int .u64 x, .int .i64 (.ofNat k)]) noAW) = some (.int .u64 (rotI x k))
theorem gRot_ok {P : Program} {E : Env} (hE : Env.Ok P E) {F n : Nat} (hf : ∀ args w, (callFunc F args).run P w = .ok (.enter F args) w) (hr : RotRun E F n) : PureOk P F gRot := by
  refine pure_of_calls hf fun args v hg => ?_
  unfold gRot at hg
  split at hg
  · rename_i x k
    split at hg
    · rename_i hk
      injection hg with hg; subst hg
      exact ⟨rfl, rfl, fun w => calls_of_run hE n (hr x k (blt_iff.1 hk)) rfl rfl w⟩
    · cases hg
  · cases hg
end Go.Proofs.Qas
namespace Go.Proofs
open Go.Shelf
theorem Tryz.lays240 : Lays.n240 Tryz.prog Tryz.lays156_ren := { Tryz.lays156 with }
theorem Tryz.Builder_X72_240 : Builder.X72 Tryz.prog Tryz.lays156_ren := {
  sizeBuilder := by kernel_rfl
  liesBuilder := by kernel_rfl }
theorem Tryz.Builder_Extra_156 : Builder.Extra Tryz.prog Tryz.lays156_ren := {
  sizeBuilder := by kernel_rfl
  liesBuilder := by kernel_rfl
  t5 := Tryz.underlying5
  a5 := Tryz.isAgg5
  z5 := Tryz.sizeOf5
  v5 := Tryz.zeroValue5
  infoByte := by kernel_rfl
  cellsByte := by kernel_rfl
  sizeByte := by kernel_rfl
  neB5 := by decide }
end Go.Proofs
noncomputable section
namespace Go.Proofs.Qas
open Go.Shelf Go.RowKit
def types37 : Tr Ty := Tr.mk 6 (tyOf Tryz.prog)
def funcs37 : Tr Func := Tr.mk 6 (fnOf Tryz.prog)
theorem named37 : noneNamed Tryz.prog = true := by kernel_rfl
theorem mixed37 : Tryz.prog.follows .mixedOrders = true := by kernel_rfl
theorem types37_ok (t : TypeId) (d : Ty) (h : types37.get t = some d) : TyOk Tryz.prog t d := tyOf_ok (Tr.get_mk h)
theorem funcs37_ok (f : FuncId) (fn : Func) (h : funcs37.get f = some fn) : Tryz.prog.funcs[f]? = some fn ∧ ∀ args w, (callFunc f args).run Tryz.prog w = .ok (.enter f args) w := fnOf_ok named37 (Tr.get_mk h)
def E0 : Env := { types := types37, funcs := funcs37, stubs := .nil, exts := .nil, pures := .nil }
theorem E0_ok : Env.Ok Tryz.prog E0 := {
  types := types37_ok
  funcs := funcs37_ok
  exts := fun f s h => by rw [show E0.exts.get f = none from Tr.get_nil f] at h; cases h
  stubs := fun f s h => by rw [show E0.stubs.get f = none from Tr.get_nil f] at h; cases h
  pures := fun f s h => by rw [show E0.pures.get f = none from Tr.get_nil f] at h; cases h
  mixed := mixed37 }
theorem enters37 {f : Nat} (h : (fnOf Tryz.prog f).isSome = true) (args : Array Value) (w : World) : (callFunc f args).run Tryz.prog w = .ok (.enter f args) w := by
  obtain ⟨fn, hfn⟩ := Option.isSome_iff_exists.1 h
  exact (fnOf_ok named37 hfn).2 args w
theorem rot37_0 (x : Int) : valOf (run E0 1000 (.call 310 [.int .u64 x, .int .i64 (.ofNat 0)]) noAW) = some (.int .u64 (rotI x 0)) := by kernel_rfl
theorem rot37_1 (x : Int) : valOf (run E0 1000 (.call 310 [.int .u64 x, .int .i64 (.ofNat 1)]) noAW) = some (.int .u64 (rotI x 1)) := by kernel_rfl
theorem rot37_2 (x : Int) : valOf (run E0 1000 (.call 310 [.int .u64 x, .int .i64 (.ofNat 2)]) noAW) = some (.int .u64 (rotI x 2)) := by kernel_rfl
theorem rot37_3 (x : Int) : valOf (run E0 1000 (.call 310 [.int .u64 x, .int .i64 (.ofNat 3)]) noAW) = some (.int .u64 (rotI x 3)) := by kernel_rfl
theorem rot37_4 (x : Int) : valOf (run E0 1000 (.call 310 [.int .u64 x, .int .i64 (.ofNat 4)]) noAW) = some (.int .u64 (rotI x 4)) := by kernel_rfl
theorem rot37_5 (x : Int) : valOf (run E0 1000 (.call 310 [.int .u64 x, .int .i64 (.ofNat 5)]) noAW) = some (.int .u64 (rotI x 5)) := by kernel_rfl
theorem rot37_6 (x : Int) : valOf (run E0 1000 (.call 310 [.int .u64 x, .int .i64 (.ofNat 6)]) noAW) = some (.int .u64 (rotI x 6)) := by kernel_rfl
theorem rot37_7 (x : Int) : valOf (run E0 1000 (.call 310 [.int .u64 x, .int .i64 (.ofNat 7)]) noAW) = some (.int .u64 (rotI x 7)) := by kernel_rfl
theorem rot37_8 (x : Int) : valOf (run E0 1000 (.call 310 [.int .u64 x, .int .i64 (.ofNat 8)]) noAW) = some (.int .u64 (rotI x 8)) := by kernel_rfl
theorem rot37_9 (x : Int) : valOf (run E0 1000 (.call 310 [.int .u64 x, .int .i64 (.ofNat 9)]) noAW) = some (.int .u64 (rotI x 9)) := by kernel_rfl
theorem rot37_10 (x : Int) : valOf (run E0 1000 (.call 310 [.int .u64 x, .int .i64 (.ofNat 10)]) noAW) = some (.int .u64 (rotI x 10)) := by kernel_rfl
theorem rot37_11 (x : Int) : valOf (run E0 1000 (.call 310 [.int .u64 x, .int .i64 (.ofNat 11)]) noAW) = some (.int .u64 (rotI x 11)) := by kernel_rfl
theorem rot37_12 (x : Int) : valOf (run E0 1000 (.call 310 [.int .u64 x, .int .i64 (.ofNat 12)]) noAW) = some (.int .u64 (rotI x 12)) := by kernel_rfl
theorem rot37_13 (x : Int) : valOf (run E0 1000 (.call 310 [.int .u64 x, .int .i64 (.ofNat 13)]) noAW) = some (.int .u64 (rotI x 13)) := by kernel_rfl
theorem rot37_14 (x : Int) : valOf (run E0 1000 (.call 310 [.int .u64 x, .int .i64 (.ofNat 14)]) noAW) = some (.int .u64 (rotI x 14)) := by kernel_rfl
theorem rot37_15 (x : Int) : valOf (run E0 1000 (.call 310 [.int .u64 x, .int .i64 (.ofNat 15)]) noAW) = some (.int .u64 (rotI x 15)) := by kernel_rfl
theorem rot37_16 (x : Int) : valOf (run E0 1000 (.call 310 [.int .u64 x, .int .i64 (.ofNat 16)]) noAW) = some (.int .u64 (rotI x 16)) := by kernel_rfl
theorem rot37_17 (x : Int) : valOf (run E0 1000 (.call 310 [.int .u64 x, .int .i64 (.ofNat 17)]) noAW) = some (.int .u64 (rotI x 17)) := by kernel_rfl
theorem rot37_18 (x : Int) : valOf (run E0 1000 (.call 310 [.int .u64 x, .int .i64 (.ofNat 18)]) noAW) = some (.int .u64 (rotI x 18)) := by kernel_rfl
theorem rot37_19 (x : Int) : valOf (run E0 1000 (.call 310 [.int .u64 x, .int .i64 (.ofNat 19)]) noAW) = some (.int .u64 (rotI x 19)) := by kernel_rfl
theorem rot37_20 (x : Int) : valOf (run E0 1000 (.call 310 [.int .u64 x, .int .i64 (.ofNat 20)]) noAW) = some (.int .u64 (rotI x 20)) := by kernel_rfl
theorem rot37_21 (x : Int) : valOf (run E0 1000 (.call 310 [.int .u64 x, .int .i64 (.ofNat 21)]) noAW) = some (.int .u64 (rotI x 21)) := by kernel_rfl
theorem rot37_22 (x : Int) : valOf (run E0 1000 (.call 310 [.int .u64 x, .int .i64 (.ofNat 22)]) noAW) = some (.int .u64 (rotI x 22)) := by kernel_rfl
theorem rot37_23 (x : Int) : valOf (run E0 1000 (.call 310 [.int .u64 x, .int .i64 (.ofNat 23)]) noAW) = some (.int .u64 (rotI x 23)) := by kernel_rfl
theorem rot37_24 (x : Int) : valOf (run E0 1000 (.call 310 [.int .u64 x, .int .i64 (.ofNat 24)]) noAW) = some (.int .u64 (rotI x 24)) := by kernel_rfl
theorem rot37_25 (x : Int) : valOf (run E0 1000 (.call 310 [.int .u64 x, .int .i64 (.ofNat 25)]) noAW) = some (.int .u64 (rotI x 25)) := by kernel_rfl
theorem rot37_26 (x : Int) : valOf (run E0 1000 (.call 310 [.int .u64 x, .int .i64 (.ofNat 26)]) noAW) = some (.int .u64 (rotI x 26)) := by kernel_rfl
theorem rot37_27 (x : Int) : valOf (run E0 1000 (.call 310 [.int .u64 x, .int .i64 (.ofNat 27)]) noAW) = some (.int .u64 (rotI x 27)) := by kernel_rfl
theorem rot37_28 (x : Int) : valOf (run E0 1000 (.call 310 [.int .u64 x, .int .i64 (.ofNat 28)]) noAW) = some (.int .u64 (rotI x 28)) := by kernel_rfl
theorem rot37_29 (x : Int) : valOf (run E0 1000 (.call 310 [.int .u64 x, .int .i64 (.ofNat 29)]) noAW) = some (.int .u64 (rotI x 29)) := by kernel_rfl
theorem rot37_30 (x : Int) : valOf (run E0 1000 (.call 310 [.int .u64 x, .int .i64 (.ofNat 30)]) noAW) = some (.int .u64 (rotI x 30)) := by kernel_rfl
theorem rot37_31 (x : Int) : valOf (run E0 1000 (.call 310 [.int .u64 x, .int .i64 (.ofNat 31)]) noAW) = some (.int .u64 (rotI x 31)) := by kernel_rfl
theorem rot37_32 (x : Int) : valOf (run E0 1000 (.call 310 [.int .u64 x, .int .i64 (.ofNat 32)]) noAW) = some (.int .u64 (rotI x 32)) := by kernel_rfl
theorem rot37_33 (x : Int) : valOf (run E0 1000 (.call 310 [.int .u64 x, .int .i64 (.ofNat 33)]) noAW) = some (.int .u64 (rotI x 33)) := by kernel_rfl
theorem rot37_34 (x : Int) : valOf (run E0 1000 (.call 310 [.int .u64 x, .int .i64 (.ofNat 34)]) noAW) = some (.int .u64 (rotI x 34)) := by kernel_rfl
theorem rot37_35 (x : Int) : valOf (run E0 1000 (.call 310 [.int .u64 x, .int .i64 (.ofNat 35)]) noAW) = some (.int .u64 (rotI x 35)) := by kernel_rfl
theorem rot37_36 (x : Int) : valOf (run E0 1000 (.call 310 [.int .u64 x, .int .i64 (.ofNat 36)]) noAW) = some (.int .u64 (rotI x 36)) := by kernel_rfl
theorem rot37_37 (x : Int) : valOf (run E0 1000 (.call 310 [.int .u64 x, .int .i64 (.ofNat 37)]) noAW) = some (.int .u64 (rotI x 37)) := by kernel_rfl
theorem rot37_38 (x : Int) : valOf (run E0 1000 (.call 310 [.int .u64 x, .int .i64 (.ofNat 38)]) noAW) = some (.int .u64 (rotI x 38)) := by kernel_rfl
theorem rot37_39 (x : Int) : valOf (run E0 1000 (.call 310 [.int .u64 x, .int .i64 (.ofNat 39)]) noAW) = some (.int .u64 (rotI x 39)) := by kernel_rfl
theorem rot37_40 (x : Int) : valOf (run E0 1000 (.call 310 [.int .u64 x, .int .i64 (.ofNat 40)]) noAW) = some (.int .u64 (rotI x 40)) := by kernel_rfl
theorem rot37_41 (x : Int) : valOf (run E0 1000 (.call 310 [.int .u64 x, .int .i64 (.ofNat 41)]) noAW) = some (.int .u64 (rotI x 41)) := by kernel_rfl
theorem rot37_42 (x : Int) : valOf (run E0 1000 (.call 310 [.int .u64 x, .int .i64 (.ofNat 42)]) noAW) = some (.int .u64 (rotI x 42)) := by kernel_rfl
theorem rot37_43 (x : Int) : valOf (run E0 1000 (.call 310 [.int .u64 x, .int .i64 (.ofNat 43)]) noAW) = some (.int .u64 (rotI x 43)) := by kernel_rfl
theorem rot37_44 (x : Int) : valOf (run E0 1000 (.call 310 [.int .u64 x, .int .i64 (.ofNat 44)]) noAW) = some (.int .u64 (rotI x 44)) := by kernel_rfl
theorem rot37_45 (x : Int) : valOf (run E0 1000 (.call 310 [.int .u64 x, .int .i64 (.ofNat 45)]) noAW) = some (.int .u64 (rotI x 45)) := by kernel_rfl
theorem rot37_46 (x : Int) : valOf (run E0 1000 (.call 310 [.int .u64 x, .int .i64 (.ofNat 46)]) noAW) = some (.int .u64 (rotI x 46)) := by kernel_rfl
theorem rot37_47 (x : Int) : valOf (run E0 1000 (.call 310 [.int .u64 x, .int .i64 (.ofNat 47)]) noAW) = some (.int .u64 (rotI x 47)) := by kernel_rfl
theorem rot37_48 (x : Int) : valOf (run E0 1000 (.call 310 [.int .u64 x, .int .i64 (.ofNat 48)]) noAW) = some (.int .u64 (rotI x 48)) := by kernel_rfl
theorem rot37_49 (x : Int) : valOf (run E0 1000 (.call 310 [.int .u64 x, .int .i64 (.ofNat 49)]) noAW) = some (.int .u64 (rotI x 49)) := by kernel_rfl
theorem rot37_50 (x : Int) : valOf (run E0 1000 (.call 310 [.int .u64 x, .int .i64 (.ofNat 50)]) noAW) = some (.int .u64 (rotI x 50)) := by kernel_rfl
theorem rot37_51 (x : Int) : valOf (run E0 1000 (.call 310 [.int .u64 x, .int .i64 (.ofNat 51)]) noAW) = some (.int .u64 (rotI x 51)) := by kernel_rfl
theorem rot37_52 (x : Int) : valOf (run E0 1000 (.call 310 [.int .u64 x, .int .i64 (.ofNat 52)]) noAW) = some (.int .u64 (rotI x 52)) := by kernel_rfl
theorem rot37_53 (x : Int) : valOf (run E0 1000 (.call 310 [.int .u64 x, .int .i64 (.ofNat 53)]) noAW) = some (.int .u64 (rotI x 53)) := by kernel_rfl
theorem rot37_54 (x : Int) : valOf (run E0 1000 (.call 310 [.int .u64 x, .int .i64 (.ofNat 54)]) noAW) = some (.int .u64 (rotI x 54)) := by kernel_rfl
theorem rot37_55 (x : Int) : valOf (run E0 1000 (.call 310 [.int .u64 x, .int .i64 (.ofNat 55)]) noAW) = some (.int .u64 (rotI x 55)) := by kernel_rfl
theorem rot37_56 (x : Int) : valOf (run E0 1000 (.call 310 [.int .u64 x, .int .i64 (.ofNat 56)]) noAW) = some (.int .u64 (rotI x 56)) := by kernel_rfl
theorem rot37_57 (x : Int) : valOf (run E0 1000 (.call 310 [.int .u64 x, .int .i64 (.ofNat 57)]) noAW) = some (.int .u64 (rotI x 57)) := by kernel_rfl
theorem rot37_58 (x : Int) : valOf (run E0 1000 (.call 310 [.int .u64 x, .int .i64 (.ofNat 58)]) noAW) = some (.int .u64 (rotI x 58)) := by kernel_rfl
theorem rot37_59 (x : Int) : valOf (run E0 1000 (.call 310 [.int .u64 x, .int .i64 (.ofNat 59)]) noAW) = some (.int .u64 (rotI x 59)) := by kernel_rfl
theorem rot37_60 (x : Int) : valOf (run E0 1000 (.call 310 [.int .u64 x, .int .i64 (.ofNat 60)]) noAW) = some (.int .u64 (rotI x 60)) := by kernel_rfl
theorem rot37_61 (x : Int) : valOf (run E0 1000 (.call 310 [.int .u64 x, .int .i64 (.ofNat 61)]) noAW) = some (.int .u64 (rotI x 61)) := by kernel_rfl
theorem rot37_62 (x : Int) : valOf (run E0 1000 (.call 310 [.int .u64 x, .int .i64 (.ofNat 62)]) noAW) = some (.int .u64 (rotI x 62)) := by kernel_rfl
theorem rot37_63 (x : Int) : valOf (run E0 1000 (.call 310 [.int .u64 x, .int .i64 (.ofNat 63)]) noAW) = some (.int .u64 (rotI x 63)) := by kernel_rfl
theorem rot37 : RotRun E0 310 1000 := fun x k hk => match k, hk with
  | 0, _ => rot37_0 x
  | 1, _ => rot37_1 x
  | 2, _ => rot37_2 x
  | 3, _ => rot37_3 x
  | 4, _ => rot37_4 x
  | 5, _ => rot37_5 x
  | 6, _ => rot37_6 x
  | 7, _ => rot37_7 x
  | 8, _ => rot37_8 x
  | 9, _ => rot37_9 x
  | 10, _ => rot37_10 x
  | 11, _ => rot37_11 x
  | 12, _ => rot37_12 x
  | 13, _ => rot37_13 x
  | 14, _ => rot37_14 x
  | 15, _ => rot37_15 x
  | 16, _ => rot37_16 x
  | 17, _ => rot37_17 x
  | 18, _ => rot37_18 x
  | 19, _ => rot37_19 x
  | 20, _ => rot37_20 x
  | 21, _ => rot37_21 x
  | 22, _ => rot37_22 x
  | 23, _ => rot37_23 x
  | 24, _ => rot37_24 x
  | 25, _ => rot37_25 x
  | 26, _ => rot37_26 x
  | 27, _ => rot37_27 x
  | 28, _ => rot37_28 x
  | 29, _ => rot37_29 x
  | 30, _ => rot37_30 x
  | 31, _ => rot37_31 x
  | 32, _ => rot37_32 x
  | 33, _ => rot37_33 x
  | 34, _ => rot37_34 x
  | 35, _ => rot37_35 x
  | 36, _ => rot37_36 x
  | 37, _ => rot37_37 x
  | 38, _ => rot37_38 x
  | 39, _ => rot37_39 x
  | 40, _ => rot37_40 x
  | 41, _ => rot37_41 x
  | 42, _ => rot37_42 x
  | 43, _ => rot37_43 x
  | 44, _ => rot37_44 x
  | 45, _ => rot37_45 x
  | 46, _ => rot37_46 x
  | 47, _ => rot37_47 x
  | 48, _ => rot37_48 x
  | 49, _ => rot37_49 x
  | 50, _ => rot37_50 x
  | 51, _ => rot37_51 x
  | 52, _ => rot37_52 x
  | 53, _ => rot37_53 x
  | 54, _ => rot37_54 x
  | 55, _ => rot37_55 x
  | 56, _ => rot37_56 x
  | 57, _ => rot37_57 x
  | 58, _ => rot37_58 x
  | 59, _ => rot37_59 x
  | 60, _ => rot37_60 x
  | 61, _ => rot37_61 x
  | 62, _ => rot37_62 x
  | 63, _ => rot37_63 x
  | k + 64, h => absurd h (by omega)
def E1 : Env := { types := types37, funcs := funcs37, stubs := .nil, exts := .nil, pures := Tr.set .nil 310 (some gRot) }
theorem gRot37 : PureOk Tryz.prog 310 gRot := gRot_ok E0_ok (enters37 (by kernel_rfl)) rot37
theorem E1_ok : Env.Ok Tryz.prog E1 := {
  types := types37_ok
  funcs := funcs37_ok
  exts := fun f s h => by rw [show E1.exts.get f = none from Tr.get_nil f] at h; cases h
  stubs := fun f s h => by rw [show E1.stubs.get f = none from Tr.get_nil f] at h; cases h
  pures := fun f g h => by
    rw [show E1.pures.get f = if f = 310 then some gRot else Tr.nil.get f from Tr.get_set Tr.nil 310 f (some gRot), Tr.get_nil] at h
    split at h
    · rename_i e
      injection h with h; subst h; subst e
      exact gRot37
    · cases h
  mixed := mixed37 }
theorem round37 : RoundRun E1 284 100000 := fun f c => by kernel_rfl
theorem gRound37 : PureOk Tryz.prog 284 gRound := gRound_ok E1_ok (enters37 (by kernel_rfl)) round37
theorem trim37 : PureOk Tryz.prog 123 gTrim := gTrim_ok (enters37 (by kernel_rfl)) fun s cutset w hs hc ha => Any.strings_Trim_laid Tryz.lays160 (by kernel_rfl) s cutset w hs hc ha
theorem join37 : StubOk Tryz.prog 150 sJoin := sJoin_ok (enters37 (by kernel_rfl)) (fun a c sep w => Any.strings_Join_none Tryz.lays156 Tryz.Builder_Extra_156 a c sep w)
  (fun bk o c xs sep w h1 h2 h3 h4 h5 => Any.strings_Join Tryz.lays156 Tryz.Builder_Extra_156 bk o c xs sep w h1 h2 h3 h4 h5)
theorem copyCheck37 : StubOk Tryz.prog 99 (sCopyCheck (Tryz.lays156_ren.t 72)) := sCopyCheck_ok (enters37 (by kernel_rfl)) (fun b w h1 h2 h3 => Any.Builder_copyCheck_fresh Tryz.lays240 Tryz.Builder_X72_240 b w h1 h2 h3) (fun b w h1 => Any.Builder_copyCheck_used Tryz.lays240 Tryz.Builder_X72_240 b w h1)
theorem ext37 {f : Nat} {fn : Func} {e : Array Value → Sem Value} (hf : Tryz.prog.funcs[f]? = some fn) (hb : fn.body.isNone = true) (hn : Extern.findNext fn = none) (he : Extern.find fn = some e) (args : Array Value) (w : World) :
    (callFunc f args).run Tryz.prog w = ((e args).run Tryz.prog w).andThen fun v w' => .ok (.value v) w' := run_callFunc_extern hf (noneNamed_get named37 hf) hb hn he args w
theorem idx37 : PureOk Tryz.prog 254 gIdx := gIdx_ok (ext37 Tryz.func254 (by kernel_rfl) (by kernel_rfl) (by kernel_rfl))
theorem cnt37 : PureOk Tryz.prog 59 gCnt := gCnt_ok (ext37 Tryz.func59 (by kernel_rfl) (by kernel_rfl) (by kernel_rfl))
def pures37 : List (Nat × Pur) := [(310, gRot), (284, gRound), (123, gTrim), (254, gIdx), (59, gCnt)]
def stubs37 : List (Nat × Stub) := [(150, sJoin), (99, sCopyCheck (Tryz.lays156_ren.t 72))]
def treeOf {α : Type} : List (Nat × α) → Tr α
  | [] => .nil
  | x :: r => match x with
    | (n, a) => (treeOf r).set n (some a)
theorem treeOf_get {α : Type} : ∀ (l : List (Nat × α)) (f : Nat) (a : α), (treeOf l).get f = some a → (f, a) ∈ l
  | [], f, a, h => by rw [show (treeOf ([] : List (Nat × α))).get f = none from Tr.get_nil f] at h; cases h
  | (n, b) :: r, f, a, h => by
    rw [show (treeOf ((n, b) :: r)).get f = if f = n then some b else (treeOf r).get f from Tr.get_set _ _ _ _] at h
    split at h
    · rename_i e
      injection h with h; subst h; subst e
      exact List.mem_cons_self
    · exact List.mem_cons_of_mem _ (treeOf_get r f a h)
def E37 : Env := { types := types37, funcs := funcs37, stubs := treeOf stubs37, exts := .nil, pures := treeOf pures37 }
theorem E37_ok : Env.Ok Tryz.prog E37 := {
  types := types37_ok
  funcs := funcs37_ok
  exts := fun f s h => by rw [show E37.exts.get f = none from Tr.get_nil f] at h; cases h
  stubs := fun f s h => by
    have := treeOf_get stubs37 f s h
    simp only [stubs37, List.mem_cons, List.not_mem_nil, or_false, Prod.mk.injEq] at this
    rcases this with ⟨rfl, rfl⟩ | ⟨rfl, rfl⟩
    · exact join37
    · exact copyCheck37
  pures := fun f g h => by
    have := treeOf_get pures37 f g h
    simp only [pures37, List.mem_cons, List.not_mem_nil, or_false, Prod.mk.injEq] at this
    rcases this with ⟨rfl, rfl⟩ | ⟨rfl, rfl⟩ | ⟨rfl, rfl⟩ | ⟨rfl, rfl⟩ | ⟨rfl, rfl⟩
    · exact gRot37
    · exact gRound37
    · exact trim37
    · exact idx37
    · exact cnt37
  mixed := mixed37 }
end Go.Proofs.Qas
