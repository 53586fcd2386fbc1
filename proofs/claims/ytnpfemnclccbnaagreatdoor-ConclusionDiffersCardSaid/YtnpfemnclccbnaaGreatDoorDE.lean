/- A part of the proof of the card of licitlaw37.ConclusionDiffers. -/
import Derived.Test.YtnpfemnclccbnaaGreatDoorDC
import Derived.Sort.Walk0
namespace Go.Proofs.Dif
open Go.Proofs.YtnpfemnclccbnaaGreatDoorW.PrintWords Go.Proofs.YtnpfemnclccbnaaGreatDoor.PConclusionDiffers
open Go.RowKit (wrap64)
set_option linter.unusedVariables false
set_option linter.unusedSimpArgs false

abbrev By := List UInt8
theorem by_lt_irrefl (a : By) : ¬ a < a := List.lt_irrefl a
theorem by_lt_trans {a b c : By} (h : a < b) (k : b < c) : a < c := List.lt_trans h k
theorem by_le_trans {a b c : By} (h : a ≤ b) (k : b ≤ c) : a ≤ c := List.le_trans h k
theorem by_le_total (a b : By) : a ≤ b ∨ b ≤ a := List.le_total a b
theorem by_le_antisymm {a b : By} (h : a ≤ b) (k : b ≤ a) : a = b := List.le_antisymm h k
theorem by_lt_of {a b : By} (h : a ≤ b) (hne : a ≠ b) : a < b := by
  rcases Classical.em (a < b) with h1 | h1
  · exact h1
  · exact absurd (by_le_antisymm h (List.not_lt.1 h1)) hne
theorem by_le_of {a b : By} (h : a < b) : a ≤ b := List.not_lt.1 fun k => by_lt_irrefl a (by_lt_trans h k)

def SS (l : List By) : Prop := l.Pairwise (· < ·)
theorem SS.ext : ∀ {l k : List By}, SS l → SS k → (∀ x, x ∈ l ↔ x ∈ k) → l = k
  | [], [], _, _, _ => rfl
  | [], y :: k, _, _, h => absurd ((h y).2 List.mem_cons_self) (by simp)
  | x :: l, [], _, _, h => absurd ((h x).1 List.mem_cons_self) (by simp)
  | x :: l, y :: k, hl, hk, h => by
    obtain ⟨hx, hl'⟩ := List.pairwise_cons.1 hl
    obtain ⟨hy, hk'⟩ := List.pairwise_cons.1 hk
    have e : x = y := by
      rcases List.mem_cons.1 ((h x).1 List.mem_cons_self) with e | h1
      · exact e
      · rcases List.mem_cons.1 ((h y).2 List.mem_cons_self) with e | h2
        · exact e.symm
        · exact absurd (by_lt_trans (hy x h1) (hx y h2)) (by_lt_irrefl y)
    subst e
    congr 1
    refine SS.ext hl' hk' fun z => ?_
    constructor
    · intro hz
      rcases List.mem_cons.1 ((h z).1 (List.mem_cons_of_mem _ hz)) with e | h1
      · subst e; exact absurd (hx z hz) (by_lt_irrefl z)
      · exact h1
    · intro hz
      rcases List.mem_cons.1 ((h z).2 (List.mem_cons_of_mem _ hz)) with e | h1
      · subst e; exact absurd (hy z hz) (by_lt_irrefl z)
      · exact h1
theorem get!_at (zs : List By) {j : Nat} (h : j < zs.length) : zs.toArray[j]! = zs[j] := by
  rw [getElem!_pos _ j (by simpa using h)]
  simp
theorem compact_SS (zs : List By) (hs : zs.Pairwise (· ≤ ·)) : SS (Lib.compact zs) := by
  unfold SS Lib.compact Lib.compactUpTo
  rw [List.pairwise_map]
  refine (List.Pairwise.filter _ List.pairwise_lt_range).imp_of_mem fun {i j} hi hj hij => ?_
  simp only [List.mem_filter, List.mem_range, Lib.keeps, decide_eq_true_eq] at hi hj
  obtain ⟨hil, -⟩ := hi
  obtain ⟨hjl, hj2⟩ := hj
  have hne := hj2.resolve_left (by omega)
  clear hj2
  rw [get!_at zs hil, get!_at zs hjl]
  rw [get!_at zs hjl, get!_at zs (by omega)] at hne
  have h1 : zs[i]'(hil) ≤ zs[j - 1]'(by omega) := by
    rcases Nat.lt_or_ge i (j - 1) with h | h
    · exact List.pairwise_iff_getElem.1 hs i (j - 1) hil (by omega) h
    · have : i = j - 1 := by omega
      subst this
      exact List.not_lt.1 (by_lt_irrefl _)
  have h2 : zs[j - 1]'(by omega) ≤ zs[j]'(hjl) := List.pairwise_iff_getElem.1 hs (j - 1) j (by omega) hjl (by omega)
  have h3 := by_lt_of h2 (fun e => hne e.symm)
  rcases Classical.em (zs[i]'(hil) = zs[j - 1]'(by omega)) with e | e
  · rw [e]; exact h3
  · exact by_lt_trans (by_lt_of h1 e) h3
theorem mem_compact (zs : List By) (x : By) : x ∈ Lib.compact zs ↔ x ∈ zs := by
  unfold Lib.compact Lib.compactUpTo
  simp only [List.mem_map, List.mem_filter, List.mem_range]
  constructor
  · rintro ⟨j, ⟨hj, _⟩, rfl⟩
    rw [get!_at zs hj]
    exact List.getElem_mem _
  · intro hx
    obtain ⟨j, hj, e⟩ := List.mem_iff_getElem.1 hx

    have key : ∀ j (hj : j < zs.length), zs[j] = x → ∃ i, ∃ hi : i < zs.length, zs[i] = x ∧ (i = 0 ∨ ∀ h : i - 1 < zs.length, zs[i - 1] ≠ x) := by
      intro j
      induction j with
      | zero => intro hj e; exact ⟨0, hj, e, .inl rfl⟩
      | succ j ih =>
        intro hj e
        by_cases h : zs[j]'(by omega) = x
        · exact ih (by omega) h
        · exact ⟨j + 1, hj, e, .inr fun _ => by simpa using h⟩
    obtain ⟨i, hi, e1, h1⟩ := key j hj e
    refine ⟨i, ⟨hi, ?_⟩, by rw [get!_at zs hi]; exact e1⟩
    unfold Lib.keeps
    rw [decide_eq_true_eq]
    rcases h1 with h1 | h1
    · exact .inl h1
    · by_cases h0 : i = 0
      · exact .inl h0
      · refine .inr ?_
        rw [get!_at zs hi, get!_at zs (by omega), e1]
        exact fun e => h1 (by omega) e.symm
theorem sorted_le (l : List By) : (l.mergeSort fun x y => decide (x ≤ y)).Pairwise (· ≤ ·) := by
  have := List.pairwise_mergeSort (le := fun x y : By => decide (x ≤ y)) (fun a b c h k => by simp only [decide_eq_true_eq] at *; exact by_le_trans h k) (fun a b => by simp only [Bool.or_eq_true, decide_eq_true_eq]; exact by_le_total a b) l
  exact this.imp fun h => by simpa using h
theorem bytes_mem {l : List ByteArray} {x : By} : x ∈ bytesL l ↔ ∃ b ∈ l, b.data.toList = x := by
  unfold bytesL
  rw [List.mem_map]
theorem set_SS (l : List ByteArray) : SS (bytesL (compactB (sortB l))) ∧ ∀ x, x ∈ bytesL (compactB (sortB l)) ↔ x ∈ bytesL l := by
  unfold compactB sortB
  rw [bytesL_stringsL, bytesL_stringsL]
  refine ⟨compact_SS _ (sorted_le _), fun x => ?_⟩
  rw [mem_compact, List.mem_mergeSort]
theorem bytesL_inj {a b : List ByteArray} (h : bytesL a = bytesL b) : a = b := by
  rw [← stringsL_bytesL a, h, stringsL_bytesL]
theorem differC_symm (xs ys : List S53) : differC xs ys = differC ys xs := by
  unfold differC
  refine bytesL_inj (SS.ext (set_SS _).1 (set_SS _).1 fun x => ?_)
  rw [(set_SS _).2, (set_SS _).2]
  simp only [bytesL, List.map_append, List.mem_append]
  exact Or.comm
theorem sameB_self (p d : ByteArray) : sameB p d p d = true := by simp [sameB]
theorem miss_self (xs : List S53) : missC xs xs = [] := by
  unfold missC
  have : xs.filter (fun x => !anyC x.f0 x.f4 xs) = [] := by
    rw [List.filter_eq_nil_iff]
    intro x hx
    have : anyC x.f0 x.f4 xs = true := by
      unfold anyC
      rw [List.any_eq_true]
      exact ⟨x, hx, sameB_self _ _⟩
    simp [this]
  rw [this]; rfl
theorem differC_self (xs : List S53) : differC xs xs = [] := by
  unfold differC
  rw [miss_self]
  simp [compactB, sortB, bytesL, stringsL, Lib.compact, Lib.compactUpTo]

theorem wrap_nat {i : Nat} (h : i ≤ 1000000) : wrap64 ((i : Int) + 1) = ((i + 1 : Nat) : Int) := by unfold wrap64; omega
theorem rdOf_nat (l : List ByteArray) (i : Nat) (h : i < l.length) : rdOf ByteArray.empty l (i : Int) = l[i] := by
  unfold rdOf
  simp [List.getD_eq_getElem?_getD, List.getElem?_eq_getElem h]
theorem toList_inj {a b : ByteArray} : a.toList = b.toList ↔ a = b := by
  rw [Lib.toList_data, Lib.toList_data]
  constructor
  · intro h; exact ByteArray.ext (Array.ext' h)
  · rintro rfl; rfl
def addL (s : ByteArray) : Bool → List ByteArray → List ByteArray
  | done, [] => if done then [] else [s]
  | done, x :: r => if x = s then x :: addL s true r else if done then x :: addL s done r else if s.data.toList < x.data.toList then s :: x :: addL s true r else x :: addL s false r
theorem addL_true (s : ByteArray) : ∀ l, addL s true l = l
  | [] => rfl
  | x :: r => by
    unfold addL
    rw [addL_true s r]
    split <;> rfl
theorem addL_len (s : ByteArray) : ∀ (d : Bool) (l : List ByteArray), (addL s d l).length ≤ l.length + 1
  | true, l => by rw [addL_true]; omega
  | false, [] => by simp [addL]
  | false, x :: r => by
    have := addL_len s false r
    unfold addL
    rw [addL_true]
    split
    · simp
    · simp only [Bool.false_eq_true, if_false]
      split <;> simp <;> omega
theorem addL_run (s : ByteArray) (l : List ByteArray) (hl : l.length ≤ 100000) : ∀ (m i : Nat), i + m = l.length → ∀ (k : Nat) (out : List ByteArray) (d : Bool), m < k → out.length ≤ 2 * i →
    licitref36_AddText.l0 k l s out d i = some (out ++ addL s d (l.drop i)) := by
  intro m
  induction m with
  | zero =>
    intro i hi k out d hk ho
    obtain ⟨k, rfl⟩ : ∃ j, k = j + 1 := ⟨k - 1, by omega⟩
    have hi' : i = l.length := by omega
    subst hi'
    simp only [licitref36_AddText.l0]
    rw [if_neg (by omega), List.drop_length]
    cases d with
    | true => simp [addL]
    | false => simp only [Bool.false_eq_true, if_false, addL]; rw [if_pos (by omega)]
  | succ m ih =>
    intro i hi k out d hk ho
    obtain ⟨k, rfl⟩ : ∃ j, k = j + 1 := ⟨k - 1, by omega⟩
    have hlt : i < l.length := by omega
    rw [List.drop_eq_getElem_cons hlt]
    simp only [licitref36_AddText.l0]
    rw [if_pos (by omega), if_pos (by omega), rdOf_nat l i hlt, wrap_nat (by omega)]
    simp only [toList_inj]
    unfold addL
    by_cases he : l[i] = s
    · rw [if_pos he, if_pos he, if_pos (by omega), ih (i + 1) (by omega) k _ true (by omega) (by simp; omega)]
      simp
    · rw [if_neg he, if_neg he]
      cases d with
      | true =>
        rw [if_pos rfl, if_pos (by omega), ih (i + 1) (by omega) k _ true (by omega) (by simp; omega)]
        simp
      | false =>
        simp only [Bool.false_eq_true, if_false]
        rw [bytesLess_eq, Lib.toList_data, Lib.toList_data]
        by_cases hs : s.data.toList < l[i].data.toList
        · rw [if_pos (decide_eq_true hs), if_pos hs, if_pos (by omega)]
          simp only [Option.bind_some]
          rw [if_pos (by simp; omega), ih (i + 1) (by omega) k _ true (by omega) (by simp; omega)]
          simp
        · rw [if_neg (by simpa using hs), if_neg hs, if_pos (by omega), ih (i + 1) (by omega) k _ false (by omega) (by simp; omega)]
          simp
end Go.Proofs.Dif
namespace Go.Proofs.Dif
open Go.Proofs.YtnpfemnclccbnaaGreatDoorW.PrintWords Go.Proofs.YtnpfemnclccbnaaGreatDoor.PConclusionDiffers
open Go.RowKit (wrap64)
set_option linter.unusedVariables false
set_option linter.unusedSimpArgs false

theorem addText_some (s : ByteArray) (l : List ByteArray) (hl : l.length ≤ 100000) (k : Nat) (hk : l.length < k) :
    licitref36_AddText.f k l s = some (addL s false l) := by
  have h := addL_run s l hl l.length 0 (by omega) k [] false hk (by simp)
  rw [List.drop_zero, List.nil_append] at h
  exact h
theorem addL_mem (s : ByteArray) : ∀ (l : List ByteArray) (x : By), x ∈ bytesL (addL s false l) ↔ x = s.data.toList ∨ x ∈ bytesL l
  | [], x => by simp [addL, bytesL]
  | y :: r, x => by
    have ih := addL_mem s r x
    unfold addL
    rw [addL_true]
    split
    · rename_i h; subst h
      simp only [bytesL, List.map_cons, List.mem_cons]
      constructor
      · intro h; exact .inr h
      · rintro (h | h)
        · exact .inl h
        · exact h
    · simp only [Bool.false_eq_true, if_false]
      split
      · simp only [bytesL, List.map_cons, List.mem_cons]
      · simp only [bytesL, List.map_cons, List.mem_cons] at ih ⊢
        rw [ih]
        constructor
        · rintro (h | h | h)
          · exact .inr (.inl h)
          · exact .inl h
          · exact .inr (.inr h)
        · rintro (h | h | h)
          · exact .inr (.inl h)
          · exact .inl h
          · exact .inr (.inr h)
theorem addL_SS (s : ByteArray) : ∀ (l : List ByteArray), SS (bytesL l) → SS (bytesL (addL s false l))
  | [], _ => by simp [addL, bytesL, SS]
  | y :: r, h => by
    obtain ⟨h1, h2⟩ := List.pairwise_cons.1 (show List.Pairwise (· < ·) (y.data.toList :: bytesL r) from h)
    unfold addL
    rw [addL_true]
    split
    · exact h
    · rename_i hne
      simp only [Bool.false_eq_true, if_false]
      split
      · rename_i hlt
        refine List.pairwise_cons.2 ⟨fun x hx => ?_, h⟩
        rcases List.mem_cons.1 (show x ∈ y.data.toList :: bytesL r from hx) with e | hx
        · rw [e]; exact hlt
        · exact by_lt_trans hlt (h1 x hx)
      · rename_i hlt
        refine List.pairwise_cons.2 ⟨fun x hx => ?_, addL_SS s r h2⟩
        rcases (addL_mem s r x).1 hx with e | hx
        · rw [e]
          exact by_lt_of (List.not_lt.1 hlt) fun e => hne (ByteArray.ext (Array.ext' e))
        · exact h1 x hx
def addAll (out : List ByteArray) (ms : List ByteArray) : List ByteArray := ms.foldl (fun o s => addL s false o) out
theorem addAll_len : ∀ (ms out : List ByteArray), (addAll out ms).length ≤ out.length + ms.length
  | [], out => by simp [addAll]
  | s :: ms, out => by
    have := addAll_len ms (addL s false out)
    have := addL_len s false out
    simp only [addAll, List.foldl_cons, List.length_cons] at *
    omega
theorem addAll_mem : ∀ (ms out : List ByteArray) (x : By), x ∈ bytesL (addAll out ms) ↔ x ∈ bytesL out ∨ x ∈ bytesL ms
  | [], out, x => by simp [addAll, bytesL]
  | s :: ms, out, x => by
    have h := addAll_mem ms (addL s false out) x
    have h1 := addL_mem s out x
    simp only [addAll, List.foldl_cons] at *
    rw [h, h1]
    simp only [bytesL, List.map_cons, List.mem_cons]
    constructor
    · rintro ((h | h) | h)
      · exact .inr (.inl h)
      · exact .inl h
      · exact .inr (.inr h)
    · rintro (h | h | h)
      · exact .inl (.inr h)
      · exact .inl (.inl h)
      · exact .inr h
theorem addAll_SS : ∀ (ms out : List ByteArray), SS (bytesL out) → SS (bytesL (addAll out ms))
  | [], out, h => h
  | s :: ms, out, h => addAll_SS ms (addL s false out) (addL_SS s out h)
theorem addAll_differ (xs ys : List S53) : addAll (addAll [] (missC ys xs)) (missC xs ys) = differC xs ys := by
  unfold differC
  refine bytesL_inj (SS.ext (addAll_SS _ _ (addAll_SS _ _ (by simp [bytesL, SS]))) (set_SS _).1 fun x => ?_)
  rw [(set_SS _).2, addAll_mem, addAll_mem]
  simp [bytesL]

theorem rd53_nat (xs : List S53) (i : Nat) (h : i < xs.length) : rd_T53 xs (i : Int) = xs[i] := by
  unfold rd_T53
  simp [List.getD_eq_getElem?_getD, List.getElem?_eq_getElem h]
theorem has_run (xs : List S53) (hl : xs.length ≤ 100000) (p d q1 q2 : ByteArray) (i1 : Int) (l1 : List S41) (l2 : List ByteArray) (l3 : List S26) : ∀ (m i : Nat), i + m = xs.length → ∀ (k : Nat), m < k →
    licitref37_has.l0 k xs i p i1 q1 q2 l1 l2 l3 d = some (anyC p d (xs.drop i)) := by
  intro m
  induction m with
  | zero =>
    intro i hi k hk
    obtain ⟨k, rfl⟩ : ∃ j, k = j + 1 := ⟨k - 1, by omega⟩
    have hi' : i = xs.length := by omega
    subst hi'
    simp only [licitref37_has.l0]
    rw [if_neg (by omega), List.drop_length]
    rfl
  | succ m ih =>
    intro i hi k hk
    obtain ⟨k, rfl⟩ : ∃ j, k = j + 1 := ⟨k - 1, by omega⟩
    have hlt : i < xs.length := by omega
    rw [List.drop_eq_getElem_cons hlt]
    simp only [licitref37_has.l0]
    rw [if_pos (by omega), if_pos (by omega), rd53_nat xs i hlt, wrap_nat (by omega), ih (i + 1) (by omega) k (by omega)]
    have hc : anyC p d (xs[i] :: xs.drop (i + 1)) = (sameB p d xs[i].f0 xs[i].f4 || anyC p d (xs.drop (i + 1))) := rfl
    rw [hc]
    unfold sameB
    by_cases h0 : xs[i].f0.toList = p.toList
    · rw [if_pos h0]
      by_cases h4 : xs[i].f4.toList = d.toList
      · rw [if_pos h4, h0, h4]; simp
      · rw [if_neg h4]
        have : (d.toList == xs[i].f4.toList) = false := by simpa using fun e => h4 e.symm
        rw [this]; simp
    · rw [if_neg h0]
      have : (p.toList == xs[i].f0.toList) = false := by simpa using fun e => h0 e.symm
      rw [this]; simp
theorem has_some (xs : List S53) (hl : xs.length ≤ 100000) (p d q1 q2 : ByteArray) (i1 : Int) (l1 : List S41) (l2 : List ByteArray) (l3 : List S26) (k : Nat) (hk : xs.length < k) :
    licitref37_has.f k xs p i1 q1 q2 l1 l2 l3 d = some (anyC p d xs) := by
  have h := has_run xs hl p d q1 q2 i1 l1 l2 l3 xs.length 0 (by omega) k hk
  rw [List.drop_zero] at h
  exact h
theorem missC_drop (ys xs : List S53) (i : Nat) (h : i < xs.length) : missC ys (xs.drop i) = match anyC xs[i].f0 xs[i].f4 ys with | true => missC ys (xs.drop (i + 1)) | false => xs[i].f0 :: missC ys (xs.drop (i + 1)) := by
  rw [List.drop_eq_getElem_cons h]
  unfold missC
  cases hx : anyC xs[i].f0 xs[i].f4 ys <;> simp only [List.filter_cons, hx, Bool.not_true, Bool.not_false, Bool.false_eq_true, if_false, if_true, List.map_cons]
theorem differ_run1 (xs ys : List S53) (hx : xs.length ≤ 10000) (hy : ys.length ≤ 10000) : ∀ (m i : Nat), i + m = ys.length → ∀ (k : Nat) (out : List ByteArray), m + 60000 < k → out.length ≤ 20000 + i →
    licitref37_Differ.l1 k xs ys out i = some (addAll out (missC xs (ys.drop i))) := by
  intro m
  induction m with
  | zero =>
    intro i hi k out hk ho
    obtain ⟨k, rfl⟩ : ∃ j, k = j + 1 := ⟨k - 1, by omega⟩
    have hi' : i = ys.length := by omega
    subst hi'
    simp only [licitref37_Differ.l1]
    rw [if_neg (by omega), List.drop_length]
    rfl
  | succ m ih =>
    intro i hi k out hk ho
    obtain ⟨k, rfl⟩ : ∃ j, k = j + 1 := ⟨k - 1, by omega⟩
    have hlt : i < ys.length := by omega
    simp only [licitref37_Differ.l1]
    rw [if_pos (by omega), if_pos (by omega), rd53_nat ys i hlt, wrap_nat (by omega), has_some xs (by omega) _ _ _ _ _ _ _ _ k (by omega), missC_drop xs ys i hlt]
    simp only [Option.bind_some]
    cases hc : anyC ys[i].f0 ys[i].f4 xs with
    | true => rw [if_pos rfl, ih (i + 1) (by omega) k out (by omega) (by omega)]
    | false =>
      rw [if_neg (by decide), addText_some _ _ (by omega) k (by omega)]
      have := addL_len ys[i].f0 false out
      simp only [Option.bind_some]
      rw [ih (i + 1) (by omega) k _ (by omega) (by omega)]
      rfl
theorem differ_run0 (xs ys : List S53) (hx : xs.length ≤ 10000) (hy : ys.length ≤ 10000) : ∀ (m i : Nat), i + m = xs.length → ∀ (k : Nat) (out : List ByteArray), m + 80000 < k → out.length ≤ i →
    licitref37_Differ.l0 k xs ys out i = some (addAll (addAll out (missC ys (xs.drop i))) (missC xs ys)) := by
  intro m
  induction m with
  | zero =>
    intro i hi k out hk ho
    obtain ⟨k, rfl⟩ : ∃ j, k = j + 1 := ⟨k - 1, by omega⟩
    have hi' : i = xs.length := by omega
    subst hi'
    simp only [licitref37_Differ.l0]
    have h := differ_run1 xs ys hx hy ys.length 0 (by omega) k out (by omega) (by omega)
    rw [List.drop_zero] at h
    rw [if_neg (by omega), List.drop_length]
    exact h
  | succ m ih =>
    intro i hi k out hk ho
    obtain ⟨k, rfl⟩ : ∃ j, k = j + 1 := ⟨k - 1, by omega⟩
    have hlt : i < xs.length := by omega
    simp only [licitref37_Differ.l0]
    rw [if_pos (by omega), if_pos (by omega), rd53_nat xs i hlt, wrap_nat (by omega), has_some ys (by omega) _ _ _ _ _ _ _ _ k (by omega), missC_drop ys xs i hlt]
    simp only [Option.bind_some]
    cases hc : anyC xs[i].f0 xs[i].f4 ys with
    | true => rw [if_pos rfl, ih (i + 1) (by omega) k out (by omega) (by omega)]
    | false =>
      rw [if_neg (by decide), addText_some _ _ (by omega) k (by omega)]
      have := addL_len xs[i].f0 false out
      simp only [Option.bind_some]
      rw [ih (i + 1) (by omega) k _ (by omega) (by omega)]
      rfl

theorem differ_some (xs ys : List S53) (hx : xs.length ≤ 10000) (hy : ys.length ≤ 10000) : licitref37_Differ.f 100000 xs ys = some (differC xs ys) := by
  have h := differ_run0 xs ys hx hy xs.length 0 (by omega) 100000 [] (by omega) (by simp)
  rw [List.drop_zero, addAll_differ] at h
  exact h

theorem same_run (l : List ByteArray) (hl : l.length ≤ 100000) : ∀ (m i : Nat), i + m = l.length → ∀ (k : Nat), m < k →
    licitref31_SameTexts.l0 k l l i = some true := by
  intro m
  induction m with
  | zero =>
    intro i hi k hk
    obtain ⟨k, rfl⟩ : ∃ j, k = j + 1 := ⟨k - 1, by omega⟩
    simp only [licitref31_SameTexts.l0]
    rw [if_neg (by omega)]
  | succ m ih =>
    intro i hi k hk
    obtain ⟨k, rfl⟩ : ∃ j, k = j + 1 := ⟨k - 1, by omega⟩
    simp only [licitref31_SameTexts.l0, if_true]
    rw [if_pos (by omega), if_pos (by omega), if_pos (by omega), wrap_nat (by omega), ih (i + 1) (by omega) k (by omega)]
theorem same_some (l : List ByteArray) (hl : l.length ≤ 100000) : licitref31_SameTexts.f (l.length + 1) l l = some true := by
  unfold licitref31_SameTexts.f
  rw [if_pos rfl]
  exact same_run l hl l.length 0 (by omega) _ (by omega)
theorem equal_run (l : List ByteArray) (hl : l.length ≤ 100000) : ∀ (m i : Nat), i + m = l.length → ∀ (k : Nat), m < k →
    slices_Equal_string_string.l0 k l l (l.length : Int) i = some true := by
  intro m
  induction m with
  | zero =>
    intro i hi k hk
    obtain ⟨k, rfl⟩ : ∃ j, k = j + 1 := ⟨k - 1, by omega⟩
    simp only [slices_Equal_string_string.l0]
    rw [if_neg (by omega)]
  | succ m ih =>
    intro i hi k hk
    obtain ⟨k, rfl⟩ : ∃ j, k = j + 1 := ⟨k - 1, by omega⟩
    simp only [slices_Equal_string_string.l0, if_true]
    rw [if_pos (by omega), if_pos (by omega), if_pos (by omega), if_pos (by omega), wrap_nat (by omega), ih (i + 1) (by omega) k (by omega)]
theorem equal_some (l : List ByteArray) (hl : l.length ≤ 100000) : slices_Equal_string_string.f (l.length + 1) l l = some true := by
  unfold slices_Equal_string_string.f
  rw [if_pos rfl]
  exact equal_run l hl l.length 0 (by omega) _ (by omega)
theorem differC_le (xs ys : List S53) (hx : xs.length ≤ 10000) (hy : ys.length ≤ 10000) : (differC xs ys).length ≤ 100000 := by
  rw [← addAll_differ]
  have h1 := addAll_len (missC xs ys) (addAll [] (missC ys xs))
  have h2 := addAll_len (missC ys xs) []
  have h3 := missC_le ys xs
  have h4 := missC_le xs ys
  simp only [List.length_nil] at h2
  omega
end Go.Proofs.Dif
