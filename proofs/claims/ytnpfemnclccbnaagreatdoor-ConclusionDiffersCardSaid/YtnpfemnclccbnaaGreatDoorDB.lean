/- A part of the proof of the card of licitlaw37.ConclusionDiffers. -/
import Derived.Test.YtnpfemnclccbnaaGreatDoorProg
import Derived.KernelRfl
import Derived.WalkKit
import Derived.Shelf.SlGeneric
import Derived.Ground.Names8Prog
import Derived.Ground.SlgnProg
import Derived.Ground.SlgfProg
import Derived.Shelf.Spec.SlicesGrow
import Derived.Shelf.SortG.Plain
import Derived.Shelf.SortG.SortNone
import Derived.Shelf.SlicesG.CompactS
import Derived.Shelf.SlicesG.Cells
import Derived.Shelf.SlicesG.Equal
import Derived.Shelf.SlicesQ.IndexFunc
import Derived.Test.YtnpfemnclccbnaaGreatDoorSH
import Derived.Test.YtnpfemnclccbnaaGreatDoorDA
import Derived.Lib.Hide
import Derived.Lib.Builder

namespace Go.Proofs.Dif
open Go.Shelf Go.RowKit Go.Lib Go.Proofs.YtnpfemnclccbnaaGreatDoorW.PrintWords Go.Proofs.YtnpfemnclccbnaaGreatDoorW.PrintLast Go.Proofs.YtnpfemnclccbnaaGreatDoorW.PrintMore Go.Proofs.YtnpfemnclccbnaaGreatDoor.PConclusionDiffers
set_option linter.unusedVariables false
set_option linter.unusedSimpArgs false

def sameB (p d yp yd : ByteArray) : Bool := (p.toList == yp.toList) && (d.toList == yd.toList)

set_option maxHeartbeats 1000000 in

theorem c74 (p d : ByteArray) (B : Nat) (W : World) (hB : B < W.heap.size) (h0 : W.cell? ⟨B, 0, none⟩ = some (.string p)) (h7 : W.cell? ⟨B, 7, none⟩ = some (.string d)) (yp yd : ByteArray) (y1 y2 y3 y4 y5 y6 : Value) (r : Bool) (hr : sameB p d yp yd = r) :
    Calls Tryz.prog 74 #[.agg #[.string yp, y1, y2, y3, y4, y5, y6, .string yd], .pointer (some ⟨B, 0, none⟩)] W fun e w' => e = .returned (.bool r) ∧ Below W.heap.size W w' := by
  have hne : B ≠ W.heap.size := by omega
  have Hs := Lib.hid hr
  clear hr
  go_enter Tryz.func74, Tryz.ntmps74
  go_wp2
  all_goals (go_ret; refine ⟨?_, (Below.refl _ _).alloc (Nat.le_refl _) _⟩; rw [← Hs.out]; unfold sameB; simp_all)

def idxC (p d : ByteArray) : List S53 → Nat → Int
  | [], _ => -1
  | y :: r, i => match sameB p d y.f0 y.f4 with
    | true => i
    | false => idxC p d r (i + 1)
def anyC (p d : ByteArray) (l : List S53) : Bool := l.any fun y => sameB p d y.f0 y.f4
theorem idxC_any (p d : ByteArray) : ∀ (l : List S53) (i : Nat), decide (0 ≤ idxC p d l i) = anyC p d l
  | [], i => rfl
  | y :: r, i => by
    have ih := idxC_any p d r (i + 1)
    unfold idxC anyC
    cases h : sameB p d y.f0 y.f4 with
    | true => simp [h]
    | false => simp only [h, List.any_cons, Bool.false_or]; exact ih
theorem idxC_at (p d : ByteArray) (l : List S53) (i : Nat) (h : i < l.length) : idxC p d (l.drop i) i = match sameB p d (rd_T53 l i).f0 (rd_T53 l i).f4 with | true => (i : Int) | false => idxC p d (l.drop (i + 1)) (i + 1) := by
  rw [List.drop_eq_getElem_cons h]
  have : rd_T53 l i = l[i] := by unfold rd_T53; simp [List.getD_eq_getElem?_getD, List.getElem?_eq_getElem h]
  rw [this]
  rfl

set_option maxHeartbeats 4000000 in
set_option maxRecDepth 100000 in
theorem c133 (l : List S53) (A : Option Addr) (c : Nat) (p d : ByteArray) (B : Nat) (w : World) (hr : Kd.C k53 w A l.length l) (hB : B < w.heap.size) (h0 : w.cell? ⟨B, 0, none⟩ = some (.string p)) (h7 : w.cell? ⟨B, 7, none⟩ = some (.string d)) (hlen : l.length ≤ 1000000) :
    Calls Tryz.prog 133 #[.slice A l.length c, .func (.func 74) #[] #[.pointer (some ⟨B, 0, none⟩)]] w fun e w' => e = .returned (.int .i64 (idxC p d l 0)) ∧ Below w.heap.size w w' := by
  have hu53 := Tryz.underlying53
  have HR := Aside0.mk hr
  have HB0 := Aside0.mk (Below.refl w.heap.size w)
  have h00 := Aside0.mk h0
  have h07 := Aside0.mk h7
  have hBB := Aside0.mk hB
  have hL := Aside0.mk hlen
  clear hr h0 h7 hB hlen
  have e74 : ∀ args w, (callFunc 74 args).run Tryz.prog w = .ok (.enter 74 args) w := enters_of Tryz.func74 (by kernel_rfl) rfl
  go_enter Tryz.func133, Tryz.ntmps133
  go_wp2
  go_loopg [5, 8] (l.length) (fun kq _ v w' => ∃ i : Nat, i ≤ l.length ∧ kq + i = l.length ∧ v = .int .i64 i ∧ Aside0 (Below w.heap.size w w') ∧ Aside0 (idxC p d l 0 = idxC p d (l.drop i) i))
  case atStart => exact ⟨0, by omega, by omega, rfl, HB0, ⟨by simp⟩⟩
  case round =>
    obtain ⟨i, hi, hk, rfl, HB, HI⟩ := hrel
    have hll := hL.out
    by_cases hlt : i < l.length
    · have hltz : ((i : Int) < (l.length : Int)) := by omega
      obtain ⟨ad, A4, c4, A5, c5, A6, c6, e0, x0, x1, x2, x3, x4, x5, x6, x7, _⟩ := at_T53 HR.out (i : Int) (by omega) hltz
      cases e0
      simp only [Int.toNat_natCast] at x0 x1 x2 x3 x4 x5 x6 x7
      replace x0 := (HB.out.cell (World.block_lt_of_cell? w _ x0)).trans x0
      replace x1 := (HB.out.cell (World.block_lt_of_cell? w _ x1)).trans x1
      replace x2 := (HB.out.cell (World.block_lt_of_cell? w _ x2)).trans x2
      replace x3 := (HB.out.cell (World.block_lt_of_cell? w _ x3)).trans x3
      replace x4 := (HB.out.cell (World.block_lt_of_cell? w _ x4)).trans x4
      replace x5 := (HB.out.cell (World.block_lt_of_cell? w _ x5)).trans x5
      replace x6 := (HB.out.cell (World.block_lt_of_cell? w _ x6)).trans x6
      replace x7 := (HB.out.cell (World.block_lt_of_cell? w _ x7)).trans x7
      have hat := idxC_at p d l i hlt
      have hcall := fun W (hW : Below w.heap.size w W) => c74 p d B W (Nat.lt_of_lt_of_le hBB.out hW.size) ((hW.cell (p := ⟨B, 0, none⟩) hBB.out).trans h00.out) ((hW.cell (p := ⟨B, 7, none⟩) hBB.out).trans h07.out) (rd_T53 l i).f0 (rd_T53 l i).f4
      cases hs : sameB p d (rd_T53 l i).f0 (rd_T53 l i).f4 with
      | true =>
        rw [hs] at hat
        have HA := Lib.hid hat
        have HS := Lib.hid hs
        clear hat hs
        have HC := Lib.hid hcall
        clear hcall
        go_wp2_with (go_at_call 74; refine (HC.out _ HB.out _ _ _ _ _ _ _ HS.out).mono ?_; rintro e w' ⟨rfl, hb'⟩)
        go_ret
        refine ⟨?_, HB.out.trans (hb'.mono HB.out.size)⟩
        rw [HI.out, HA.out]
        rfl
      | false =>
        rw [hs] at hat
        have HA := Lib.hid hat
        have HS := Lib.hid hs
        clear hat hs
        have HC := Lib.hid hcall
        clear hcall
        go_wp2_with (go_at_call 74; refine (HC.out _ HB.out _ _ _ _ _ _ _ HS.out).mono ?_; rintro e w' ⟨rfl, hb'⟩)
        go_roundg (l.length - (i + 1))
        case measure => omega
        case rel => exact ⟨i + 1, by omega, by omega, by go_num, ⟨HB.out.trans (hb'.mono HB.out.size)⟩, ⟨HI.out.trans HA.out⟩⟩
    · have hltz : ¬ ((i : Int) < (l.length : Int)) := by omega
      have hi2 : i = l.length := by omega
      subst hi2
      go_wp2
      go_ret
      refine ⟨?_, HB.out⟩
      rw [HI.out, List.drop_length]
      rfl

set_option maxHeartbeats 1000000 in
theorem c73 (l : List S53) (A : Option Addr) (c : Nat) (p d : ByteArray) (B : Nat) (w : World) (hr : Kd.C k53 w A l.length l) (hB : B < w.heap.size) (h0 : w.cell? ⟨B, 0, none⟩ = some (.string p)) (h7 : w.cell? ⟨B, 7, none⟩ = some (.string d)) (hlen : l.length ≤ 1000000) (r : Bool) (hrr : anyC p d l = r) :
    Calls Tryz.prog 73 #[.slice A l.length c, .func (.func 74) #[] #[.pointer (some ⟨B, 0, none⟩)]] w fun e w' => e = .returned (.bool r) ∧ Below w.heap.size w w' := by
  have hcon := c133 l A c p d B w hr hB h0 h7 hlen
  have ha := idxC_any p d l 0
  rw [hrr] at ha
  clear hr hB h0 h7 hlen hrr
  generalize idxC p d l 0 = i at hcon ha
  have HA := Lib.hid ha
  clear ha
  have HC := Lib.hid hcon
  clear hcon
  go_enter Tryz.func73, Tryz.ntmps73
  go_wp2_with (go_at_call 133; refine HC.out.mono ?_; rintro e w' ⟨rfl, hb'⟩)
  go_ret
  refine ⟨?_, hb'⟩
  rw [← HA.out]
  first | rfl | simp
end Go.Proofs.Dif
namespace Go.Proofs.Dif
open Go.Shelf Go.RowKit Go.Lib Go.Proofs.YtnpfemnclccbnaaGreatDoorW.PrintWords Go.Proofs.YtnpfemnclccbnaaGreatDoorW.PrintLast Go.Proofs.YtnpfemnclccbnaaGreatDoorW.PrintMore Go.Proofs.YtnpfemnclccbnaaGreatDoor.PConclusionDiffers
set_option linter.unusedVariables false
set_option linter.unusedSimpArgs false

def missC (ys : List S53) (xs : List S53) : List ByteArray := (xs.filter fun x => !anyC x.f0 x.f4 ys).map (·.f0)
theorem missC_snoc (ys xs : List S53) (i : Nat) (h : i < xs.length) : missC ys (xs.take (i + 1)) = match anyC (rd_T53 xs i).f0 (rd_T53 xs i).f4 ys with | true => missC ys (xs.take i) | false => missC ys (xs.take i) ++ [(rd_T53 xs i).f0] := by
  have e : rd_T53 xs i = xs[i] := by unfold rd_T53; simp [List.getD_eq_getElem?_getD, List.getElem?_eq_getElem h]
  rw [e, List.take_succ_eq_append_getElem h]
  unfold missC
  rw [List.filter_append, List.map_append]
  cases hx : anyC xs[i].f0 xs[i].f4 ys <;> simp [List.filter_cons, hx]
theorem missC_le (ys xs : List S53) : (missC ys xs).length ≤ xs.length := by
  unfold missC
  rw [List.length_map]
  exact List.length_filter_le _ _

theorem after_box {w w' : World} {o : Obj} (h : Below (w.alloc o).heap.size (w.alloc o) w') : Below w.heap.size w w' := ((Below.refl _ w).alloc (Nat.le_refl _) _).trans (h.mono (by simp))
theorem heap_lt {w : World} {g : Nat} {o : Obj} (h : w.heap[g]? = some o) : g < w.heap.size := (Array.getElem?_eq_some_iff.1 h).1
theorem cell_box {w : World} {g : Nat} {u : Value} {t : TypeId} (h : w.heap[g]? = some (.cells #[u] t (0, 0))) : w.cell? ⟨g, 0, none⟩ = some u := cell_of_heap h 0
theorem frozen_box {w : World} {g : Nat} {u : Value} {t : TypeId} (h : w.heap[g]? = some (.cells #[u] t (0, 0))) : w.frozen? ⟨g, 0, none⟩ = false := frozen_of_heap h 0
theorem set_box {w : World} {g : Nat} {u : Value} {t : TypeId} (h : w.heap[g]? = some (.cells #[u] t (0, 0))) (v : Value) : (w.setCell ⟨g, 0, none⟩ v).heap[g]? = some (.cells #[v] t (0, 0)) := by
  simp [World.setCell, Array.getElem?_modify, h]
def Out72 (w0 : World) (B0 O : Nat) (r : List ByteArray) (e : Ending) (w' : World) : Prop :=
  e = .returned (.tuple #[]) ∧ ∃ v, w'.heap[O]? = some (.cells #[v] 23 (0, 0)) ∧ Kd.R Kd.string 9 w' B0 (fun _ => True) v r ∧ Below B0 w0 w'

set_option maxHeartbeats 4000000 in
set_option maxRecDepth 100000 in
theorem c72 (w0 W : World) (xs ys : List S53) (A1 A2 : Option Addr) (c1 c2 O : Nat) (v : Value) (outs : List ByteArray) (hb : Below w0.heap.size w0 W) (hx : Kd.C k53 w0 A1 xs.length xs) (hy : Kd.C k53 w0 A2 ys.length ys) (hO : w0.heap.size ≤ O)
    (hbox : W.heap[O]? = some (.cells #[v] 23 (0, 0))) (hrow : Kd.R Kd.string 9 W w0.heap.size (fun _ => True) v outs) (hlx : xs.length ≤ 100000) (hly : ys.length ≤ 100000) (hlo : outs.length ≤ 100000) :
    Calls Tryz.prog 72 #[.slice A1 xs.length c1, .slice A2 ys.length c2, .pointer (some ⟨O, 0, none⟩)] W (Out72 w0 w0.heap.size O (outs ++ missC ys xs)) := by
  have hu53 := Tryz.underlying53
  have HX := Aside0.mk hx
  have HY := Aside0.mk hy
  have HLX := Aside0.mk hlx
  have HLY := Aside0.mk hly
  have HLO := Aside0.mk hlo
  have HO := Aside0.mk hO
  have HB0 := Aside0.mk hb
  have HBOX := Aside0.mk hbox
  have HROW := Aside0.mk hrow
  clear hx hy hlx hly hlo hO hb hbox hrow
  go_enter Tryz.func72, Tryz.ntmps72
  go_wp2
  go_loopg [9] (xs.length) (fun kq i9 w' => ∃ (i : Nat) (u : Value), i ≤ xs.length ∧ kq + i = xs.length ∧ i9 = .int .i64 i ∧ Aside0 (Below w0.heap.size w0 w') ∧ Aside0 (w'.heap[O]? = some (.cells #[u] 23 (0, 0))) ∧ Aside0 (Kd.R Kd.string 9 w' w0.heap.size (fun _ => True) u (outs ++ missC ys (xs.take i))))
  case atStart => exact ⟨0, v, by omega, by omega, rfl, HB0, HBOX, ⟨by simpa [missC] using HROW.out⟩⟩
  case round =>
    obtain ⟨i, u, hi, hk, rfl, HB, HBX, HR⟩ := hrel
    have hll := HLX.out
    by_cases hlt : i < xs.length
    · have hltz : ((i : Int) < (xs.length : Int)) := by omega
      obtain ⟨ad, A4, c4, A5, c5, A6, c6, e0, x0, x1, x2, x3, x4, x5, x6, x7, _⟩ := at_T53 HX.out (i : Int) (by omega) hltz
      cases e0
      simp only [Int.toNat_natCast] at x0 x1 x2 x3 x4 x5 x6 x7
      replace x0 := (HB.out.cell (World.block_lt_of_cell? w0 _ x0)).trans x0
      replace x1 := (HB.out.cell (World.block_lt_of_cell? w0 _ x1)).trans x1
      replace x2 := (HB.out.cell (World.block_lt_of_cell? w0 _ x2)).trans x2
      replace x3 := (HB.out.cell (World.block_lt_of_cell? w0 _ x3)).trans x3
      replace x4 := (HB.out.cell (World.block_lt_of_cell? w0 _ x4)).trans x4
      replace x5 := (HB.out.cell (World.block_lt_of_cell? w0 _ x5)).trans x5
      replace x6 := (HB.out.cell (World.block_lt_of_cell? w0 _ x6)).trans x6
      replace x7 := (HB.out.cell (World.block_lt_of_cell? w0 _ x7)).trans x7
      have hsn := missC_snoc ys xs i hlt
      have hcall := fun W1 (h1 : Below w0.heap.size w0 W1) B (hB : B < W1.heap.size) (g0 : W1.cell? ⟨B, 0, none⟩ = some (.string (rd_T53 xs i).f0)) (g7 : W1.cell? ⟨B, 7, none⟩ = some (.string (rd_T53 xs i).f4)) => c73 ys A2 c2 (rd_T53 xs i).f0 (rd_T53 xs i).f4 B W1 (Kd.C_below HY.out h1) hB g0 g7 (by have := HLY.out; omega)
      cases hs : anyC (rd_T53 xs i).f0 (rd_T53 xs i).f4 ys with
      | true =>
        rw [hs] at hsn
        have HA := Lib.hid hsn
        have HS := Lib.hid hs
        have HC := Lib.hid hcall
        clear hsn hs hcall
        go_wp2_with (go_at_call 73; refine (HC.out _ (HB.out.alloc HB.out.size _) _ (by simp) (by simp) (by simp) _ HS.out).mono ?_; rintro e w' ⟨rfl, hb'⟩)
        have hBa := after_box hb'
        go_roundg (xs.length - (i + 1))
        case measure => omega
        case rel => exact ⟨i + 1, u, by omega, by omega, by go_num, ⟨HB.out.trans (hBa.mono HB.out.size)⟩, ⟨(hBa.block O (heap_lt HBX.out)).trans HBX.out⟩, ⟨by rw [HA.out]; exact Kd.R_below HR.out hBa⟩⟩
      | false =>
        rw [hs] at hsn
        have HA := Lib.hid hsn
        have HS := Lib.hid hs
        have HC := Lib.hid hcall
        clear hsn hs hcall
        obtain ⟨y, hy⟩ : ∃ y : List ByteArray, y = outs ++ missC ys (xs.take i) ++ [(rd_T53 xs i).f0] := ⟨_, rfl⟩
        have Ny := Aside0.mk hy
        clear hy
        go_wp2_with (first
          | (go_at_call 73
             refine (HC.out _ (HB.out.alloc HB.out.size _) _ (by simp) (by simp) (by simp) _ HS.out).mono ?_
             rintro e w' ⟨rfl, hb'⟩
             have HBa := Aside0.mk (after_box hb')
             have hcO : w'.cell? ⟨O, 0, none⟩ = some u := cell_box ((HBa.out.block O (heap_lt HBX.out)).trans HBX.out)
             have hcP : w'.cell? ⟨wr.heap.size, 0, none⟩ = some (.string (rd_T53 xs i).f0) := (hb'.cell (p := ⟨wr.heap.size, 0, none⟩) (by simp)).trans (by simp)
             have HX1 := Aside0.mk ((HBa.out.block O (heap_lt HBX.out)).trans HBX.out)
             have HR1 := Aside0.mk (Kd.R_below HR.out HBa.out)
             have HB1 := Aside0.mk (HB.out.trans (HBa.out.mono HB.out.size))
             clear hb' HBa)
          | (at_builtin
             refine Kd.R_append Kd.string (w0 := w0) w0.heap.size rfl (.tmp 17) (.tmp 20) 23 9 (.string ⟨#[]⟩) 16 rfl Tryz.underlying23 info9 rfl (by decide) (by omega) u (outs ++ missC ys (xs.take i)) (rd_T53 xs i).f0 [.string (rd_T53 xs i).f0] (fun _ => True) (fun _ => False) rfl rfl rfl (fun _ hk => hk.elim) (fun _ _ => trivial) HR1.out HB1.out HB1.out.size (by have h1 := missC_le ys (xs.take i); have h2 := HLO.out; rw [List.length_append]; rw [List.length_take] at h1; omega) ?_
             intro v1 w1 ho hb2 hg hat
             have HX2 := Aside0.mk ((hg.block O (heap_lt HX1.out) (Kd.R_ne HR1.out HX1.out (by decide))).trans HX1.out)
             have hc2 : w1.cell? ⟨O, 0, none⟩ = some u := cell_box HX2.out
             have hf2 : w1.frozen? ⟨O, 0, none⟩ = false := frozen_box HX2.out
             rw [← Ny.out] at ho
             obtain ⟨Av, cv, rfl⟩ := Kd.R_slice ho
             have HO2 := Aside0.mk ho
             have HB2 := Aside0.mk hb2
             clear ho hb2 hg hat))
        go_roundg (xs.length - (i + 1))
        case measure => omega
        case rel => exact ⟨i + 1, _, by omega, by omega, by go_num, ⟨HB2.out.setCell HO.out _⟩, ⟨set_box HX2.out _⟩, ⟨by rw [HA.out, ← List.append_assoc, ← Ny.out]; exact Kd.R_set HO2.out HX2.out (by simp [Kd.string]; decide) 0 _⟩⟩
    · have hltz : ¬ ((i : Int) < (xs.length : Int)) := by omega
      have hi2 : i = xs.length := by omega
      subst hi2
      go_wp2
      go_end0
      exact ⟨rfl, u, HBX.out, by rw [List.take_length] at HR; exact HR.out, HB.out⟩
end Go.Proofs.Dif
