/- A part of the proof of the card of licitlaw37.ConclusionDiffers. -/
import Derived.Test.YtnpfemnclccbnaaGreatDoorDB
import Derived.Sort.OwnSorted
namespace Go.Proofs.Dif
open Go.Sort Go.Shelf Go.RowKit Go.Lib Go.Proofs.YtnpfemnclccbnaaGreatDoorW.PrintWords Go.Proofs.YtnpfemnclccbnaaGreatDoorW.PrintLast Go.Proofs.YtnpfemnclccbnaaGreatDoorW.PrintMore Go.Proofs.YtnpfemnclccbnaaGreatDoor.PConclusionDiffers
set_option linter.unusedVariables false
set_option linter.unusedSimpArgs false

def bytesL (l : List ByteArray) : List (List UInt8) := l.map (·.data.toList)
def stringsL (l : List (List UInt8)) : List ByteArray := l.map fun b => ⟨b.toArray⟩
theorem stringsL_bytesL (l : List ByteArray) : stringsL (bytesL l) = l := by
  unfold stringsL bytesL
  rw [List.map_map]
  conv => rhs; rw [← List.map_id l]
  refine List.map_congr_left fun x _ => ?_
  rfl
theorem bytesL_stringsL (l : List (List UInt8)) : bytesL (stringsL l) = l := by
  unfold stringsL bytesL
  rw [List.map_map]
  conv => rhs; rw [← List.map_id l]
  refine List.map_congr_left fun x _ => ?_
  simp
theorem encStr_bytes (l : List ByteArray) : (bytesL l).map encStr = l.map .string := by
  unfold bytesL
  rw [List.map_map]
  rfl
def sortB (l : List ByteArray) : List ByteArray := stringsL ((bytesL l).mergeSort fun x y => decide (x ≤ y))
def compactB (l : List ByteArray) : List ByteArray := stringsL (Lib.compact (bytesL l))
theorem sortB_len (l : List ByteArray) : (sortB l).length = l.length := by simp [sortB, stringsL, bytesL]

theorem reps_strings : ∀ (xs : List ByteArray) (cs : List Value), Reps (fun x c => c = [Value.string x]) 1 xs cs → cs = xs.map .string := by
  intro xs cs ⟨hl, h⟩
  apply List.ext_getElem?
  intro j
  rw [List.getElem?_map]
  cases hx : xs[j]? with
  | none =>
    rw [List.getElem?_eq_none_iff] at hx
    rw [List.getElem?_eq_none (by omega)]
    rfl
  | some x =>
    have := h j x hx
    have h2 : ((cs.drop (j * 1)).take 1)[0]? = some (.string x) := by rw [this]; rfl
    rw [List.getElem?_take, if_pos (by omega), List.getElem?_drop] at h2
    simpa using h2
theorem reps_of_strings (xs : List ByteArray) : Reps (fun x c => c = [Value.string x]) 1 xs (xs.map .string) := by
  refine ⟨by simp, fun j p hj => ?_⟩
  have hlt : j < xs.length := (List.getElem?_eq_some_iff.1 hj).1
  have e : (xs.map Value.string).drop j = .string p :: (xs.map Value.string).drop (j + 1) := by
    rw [List.drop_eq_getElem_cons (by simpa using hlt)]
    congr 1
    have := (List.getElem?_eq_some_iff.1 hj).2
    simp [this]
  rw [Nat.mul_one, e]
  rfl
theorem R_strings {w : World} {B0 : Nat} {ok : Nat → Prop} {v : Value} {xs : List ByteArray} (h : Kd.R Kd.string 9 w B0 ok v xs) : w.ownsRow B0 9 1 v xs.length (xs.map .string) := by
  obtain ⟨_, inner, ho, hr⟩ := h
  have : inner = xs.map .string := reps_strings xs inner hr
  rw [← this]
  exact ho
theorem R_of_strings {w : World} {B0 : Nat} {v : Value} {xs : List ByteArray} (h : w.ownsRow B0 9 1 v xs.length (xs.map .string)) : Kd.R Kd.string 9 w B0 (fun _ => True) v xs :=
  ⟨fun _ _ => trivial, xs.map .string, h, reps_of_strings xs⟩

def Sorted66 (w0 w : World) (B0 : Nat) (v : Value) (r : List ByteArray) (e : Ending) (w' : World) : Prop :=
  e = .returned (.tuple #[]) ∧ Kd.R Kd.string 9 w' B0 (fun _ => True) v r ∧ Below B0 w0 w' ∧ ∀ (O : Nat) (u : Array Value), w.heap[O]? = some (.cells u 23 (0, 0)) → w'.heap[O]? = some (.cells u 23 (0, 0))
theorem c66 (w0 w : World) (B0 : Nat) (v : Value) (l : List ByteArray) (h : Kd.R Kd.string 9 w B0 (fun _ => True) v l) (hb : Below B0 w0 w) (hB : B0 ≤ w.heap.size) (hl : l.length ≤ 1000000) : Calls Tryz.prog 66 #[v] w (Sorted66 w0 w B0 v (sortB l)) := by
  have hown := R_strings h
  rcases hown.2 with ⟨rfl, h0⟩ | ⟨g, cap, cur, rfl, hbase, hbk, h1, h2, h3, h4⟩
  · have : l = [] := List.eq_nil_of_length_eq_zero h0
    subst this
    refine (AnyG.slices_Sort_string_none Tryz.sort66 none 0 w).mono ?_
    rintro e w' ⟨rfl, rfl⟩
    exact ⟨rfl, by have e : sortB [] = [] := by simp [sortB, bytesL, stringsL]
                   rw [e]; exact h, hb, fun _ _ hh => hh⟩
  · have hlen : (bytesL l).length = l.length := by simp [bytesL]
    have hH : Holds encStr w g 0 (bytesL l).toArray := holds_of_block hbk (by rw [encStr_bytes, hlen]; simpa using h4)
    have := AnyG.slices_Sort_string Tryz.sort66 g 0 cap (bytesL l) w hH (heap_lt hbk) (by omega)
    rw [hlen] at this
    refine this.mono ?_
    rintro e w' ⟨rfl, n, os, rfl⟩
    have ho := ownsRow_sorted (n := n) (os := os) (ss := bytesL l) (ts := (bytesL l).mergeSort fun x y => decide (x ≤ y)) (by simp) hbase hbk (by omega) h2 (by omega)
    rw [hlen] at ho
    refine ⟨rfl, R_of_strings ?_, ?_, fun O u hh => ?_⟩
    · rw [sortB_len]
      have e : (sortB l).map Value.string = ((bytesL l).mergeSort fun x y => decide (x ≤ y)).map encStr := by rw [← encStr_bytes]; unfold sortB; rw [bytesL_stringsL]
      rw [e]
      exact ho
    · exact hb.grown (grownBy_sorted _) hB (fun k hk => by injection hk with hk; omega)
    · have hg := grownBy_sorted (w := w) (g := g) (n := n) (os := os) ((bytesL l).mergeSort fun x y => decide (x ≤ y)).toArray
      refine (hg.block O (heap_lt hh) (fun e => ?_)).trans hh
      injection e with e
      subst e
      rw [hbk] at hh
      injection hh with hh
      injection hh with _ hh
      cases hh

theorem compact_le (zs : List (List UInt8)) : (Lib.compact zs).length ≤ zs.length := by
  unfold Lib.compact Lib.compactUpTo
  rw [List.length_map]
  exact Nat.le_trans (List.length_filter_le _ _) (by simp)
theorem putRow_eq_grow (w : World) (q g : Nat) (d : Array (List UInt8)) : putRow encStr (Sort.ahead w q) g 0 d = grow (putRow encStr (Sort.ahead w q) g 0 d) #[] := (grow_empty _).symm
def Compacted67 (w0 : World) (B0 : Nat) (r : List ByteArray) (e : Ending) (w' : World) : Prop :=
  ∃ v, e = .returned v ∧ Kd.R Kd.string 9 w' B0 (fun _ => True) v r ∧ Below B0 w0 w'
theorem c67 (w0 w : World) (B0 : Nat) (v : Value) (l : List ByteArray) (h : Kd.R Kd.string 9 w B0 (fun _ => True) v l) (hb : Below B0 w0 w) (hB : B0 ≤ w.heap.size) (hl : l.length ≤ 1000000) : Calls Tryz.prog 67 #[v] w (Compacted67 w0 B0 (compactB l)) := by
  have hown := R_strings h
  rcases hown.2 with ⟨rfl, h0⟩ | ⟨g, cap, cur, rfl, hbase, hbk, h1, h2, h3, h4⟩
  · have : l = [] := List.eq_nil_of_length_eq_zero h0
    subst this
    refine (AnyG.slices_Compact_string_empty Tryz.compact67 none 0 w).mono ?_
    rintro e w' ⟨rfl, rfl⟩
    exact ⟨_, rfl, by have e : compactB [] = [] := rfl
                      rw [e]; exact h, hb⟩
  · have hlen : (bytesL l).length = l.length := by simp [bytesL]
    have hH : Holds encStr w g 0 (bytesL l).toArray := holds_of_block hbk (by rw [encStr_bytes, hlen]; simpa using h4)
    have := AnyG.slices_Compact_string Tryz.compact67 g 0 cap (bytesL l) w hH (by omega) (by omega)
    rw [hlen] at this
    refine this.mono ?_
    rintro e w' ⟨rfl, q, rfl⟩
    have hcl := compact_le (bytesL l)
    rw [hlen] at hcl
    have ho := ownsRow_sorted (w := w) (n := q) (os := #[]) (ss := bytesL l) (ts := Lib.compact (bytesL l) ++ List.replicate (l.length - (Lib.compact (bytesL l)).length) []) (by simp; omega) hbase hbk (by omega) h2 (by omega)
    rw [grow_empty, hlen] at ho
    have hr : (compactB l).length = (Lib.compact (bytesL l)).length := by simp [compactB, stringsL]
    refine ⟨_, rfl, R_of_strings ?_, ?_⟩
    · rw [hr]
      have e : (compactB l).map Value.string = (Lib.compact (bytesL l)).map encStr := by rw [← encStr_bytes]; unfold compactB; rw [bytesL_stringsL]
      rw [e]
      rcases ho.2 with ⟨hn, _⟩ | ⟨g', cap', cur', hv, k1, k2, k3, k4, k5, k6⟩
      · cases hn
      · injection hv with hv1 hv2 hv3
        injection hv1 with hv1
        injection hv1 with hv1
        subst hv1; subst hv3
        refine ⟨by simp, .inr ⟨g, cap, cur', rfl, k1, k2, by omega, k4, k5, ?_⟩⟩
        have := congrArg (List.take (Lib.compact (bytesL l)).length) k6
        rw [List.take_take, List.map_append, List.take_append_of_le_length (by simp)] at this
        rw [Nat.min_eq_left (by omega)] at this
        rw [Nat.mul_one, this]
        exact List.take_of_length_le (by simp)
    · have := hb.grown (grownBy_sorted (w := w) (g := g) (n := q) (os := #[]) (Lib.compact (bytesL l) ++ List.replicate (l.length - (Lib.compact (bytesL l)).length) []).toArray) hB (fun k hk => by injection hk with hk; omega)
      rw [grow_empty] at this
      exact this
end Go.Proofs.Dif
namespace Go.Proofs.Dif
open Go.Sort Go.Shelf Go.RowKit Go.Lib Go.Proofs.YtnpfemnclccbnaaGreatDoorW.PrintWords Go.Proofs.YtnpfemnclccbnaaGreatDoorW.PrintLast Go.Proofs.YtnpfemnclccbnaaGreatDoorW.PrintMore Go.Proofs.YtnpfemnclccbnaaGreatDoor.PConclusionDiffers
set_option linter.unusedVariables false
set_option linter.unusedSimpArgs false

def differC (xs ys : List S53) : List ByteArray := compactB (sortB (missC ys xs ++ missC xs ys))
def Out28 (w : World) (r : List ByteArray) (e : Ending) (w' : World) : Prop :=
  ∃ v, e = .returned v ∧ Kd.R Kd.string 9 w' w.heap.size (fun _ => True) v r ∧ Below w.heap.size w w'
set_option maxHeartbeats 4000000 in
set_option maxRecDepth 100000 in
theorem c28 (w : World) (xs ys : List S53) (A1 A2 : Option Addr) (c1 c2 : Nat) (hx : Kd.C k53 w A1 xs.length xs) (hy : Kd.C k53 w A2 ys.length ys) (hlx : xs.length ≤ 100000) (hly : ys.length ≤ 100000) :
    Calls Tryz.prog 28 #[.slice A1 xs.length c1, .slice A2 ys.length c2] w (Out28 w (differC xs ys)) := by
  have m1 := missC_le ys xs
  have m2 := missC_le xs ys
  have H1 := Lib.hid (c72 w (w.alloc (.cells #[.slice none 0 0] 23)) xs ys A1 A2 c1 c2 w.heap.size (.slice none 0 0) [] ((Below.refl _ _).alloc (Nat.le_refl _) _) hx hy (Nat.le_refl _) (heap_alloc_new w _) (Kd.R_nil _ _ _ _ _) hlx hly (by simp))
  have H2 := Lib.hid (fun W v (hb : Below w.heap.size w W) (hbox : W.heap[w.heap.size]? = some (.cells #[v] 23 (0, 0))) (hr : Kd.R Kd.string 9 W w.heap.size (fun _ => True) v ([] ++ missC ys xs)) => c72 w W ys xs A2 A1 c2 c1 w.heap.size v ([] ++ missC ys xs) hb hy hx (Nat.le_refl _) hbox hr hly hlx (by simp; omega))
  have H3 := Lib.hid (fun W v (hb : Below w.heap.size w W) (hr : Kd.R Kd.string 9 W w.heap.size (fun _ => True) v ([] ++ missC ys xs ++ missC xs ys)) => c66 w W w.heap.size v _ hr hb hb.size (by simp; omega))
  have H4 := Lib.hid (fun W v (hb : Below w.heap.size w W) (hr : Kd.R Kd.string 9 W w.heap.size (fun _ => True) v (sortB ([] ++ missC ys xs ++ missC xs ys))) => c67 w W w.heap.size v _ hr hb hb.size (by rw [sortB_len]; simp; omega))
  clear hx hy hlx hly m1 m2
  have e72 : ∀ args w, (callFunc 72 args).run Tryz.prog w = .ok (.enter 72 args) w := enters_of Tryz.func72 (by kernel_rfl) rfl
  go_enter Tryz.func28, Tryz.ntmps28
  go_wp2_with (first
    | (go_at_call 72
       (with_reducible refine H1.out.mono ?_)
       rintro e w1 ⟨rfl, v1, b1, r1, d1⟩
       have B1 := Aside0.mk b1
       have R1 := Aside0.mk r1
       have D1 := Aside0.mk d1
       clear b1 r1 d1)
    | (go_at_call 72
       (with_reducible refine (H2.out _ _ D1.out B1.out R1.out).mono ?_)
       rintro e w2 ⟨rfl, v2, b2, r2, d2⟩
       have hc2 := cell_box b2
       have B2 := Aside0.mk b2
       have R2 := Aside0.mk r2
       have D2 := Aside0.mk d2
       clear b2 r2 d2)
    | (go_at_call 66
       (with_reducible refine (H3.out _ _ D2.out R2.out).mono ?_)
       rintro e w3 ⟨rfl, r3, d3, b3⟩
       have hc3 := cell_box (b3 _ _ B2.out)
       have R3 := Aside0.mk r3
       have D3 := Aside0.mk d3
       clear r3 d3 b3)
    | (go_at_call 67
       (with_reducible refine (H4.out _ _ D3.out R3.out).mono ?_)
       rintro e w4 ⟨v4, rfl, r4, d4⟩))
  go_ret
  exact ⟨v4, rfl, r4, d4⟩
end Go.Proofs.Dif
