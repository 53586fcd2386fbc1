/- A part of the proof of the card of licitlaw37.ConclusionDiffers. -/
import Derived.Test.YtnpfemnclccbnaaGreatDoorDD
import Derived.Test.YtnpfemnclccbnaaGreatDoorDE
namespace Go.Proofs.Dif
open Go.Shelf Go.RowKit Go.Lib Go.Proofs.YtnpfemnclccbnaaGreatDoorW.PrintWords Go.Proofs.YtnpfemnclccbnaaGreatDoorW.PrintLast Go.Proofs.YtnpfemnclccbnaaGreatDoorW.PrintMore Go.Proofs.YtnpfemnclccbnaaGreatDoor.PConclusionDiffers
set_option linter.unusedVariables false
set_option linter.unusedSimpArgs false

def Ok6 (w : World) (e : Ending) (w' : World) : Prop := e = .returned (.bool true) ∧ Below w.heap.size w w'
abbrev Awake8 : Prop := ∀ w : World, Calls Tryz.prog 8 #[] w fun e w' => e = .returned (.bool true) ∧ Below w.heap.size w w'
set_option maxHeartbeats 4000000 in
set_option maxRecDepth 100000 in
theorem c6a (aw : Awake8) (w : World) (A1 A2 : Option Addr) (n m c1 c2 : Nat) (h : 20 < n) :
    Calls Tryz.prog 6 #[.slice A1 n c1, .slice A2 m c2] w (Ok6 w) := by
  have AW := Lib.hid (fun W => aw W)
  have hn : (20 : Int) < (n : Int) := by omega
  clear aw
  go_enter Tryz.func6, Tryz.ntmps6
  go_wp2_with (go_at_call 8; (with_reducible refine (AW.out _).mono ?_); rintro e w1 ⟨rfl, b1⟩; have B1 := Aside0.mk b1; clear b1)
  go_ret
  exact ⟨rfl, B1.out⟩
set_option maxHeartbeats 4000000 in
set_option maxRecDepth 100000 in
theorem c6b (aw : Awake8) (w : World) (A1 A2 : Option Addr) (n m c1 c2 : Nat) (h : n ≤ 20) (h2 : 20 < m) :
    Calls Tryz.prog 6 #[.slice A1 n c1, .slice A2 m c2] w (Ok6 w) := by
  have AW := Lib.hid (fun W => aw W)
  have hn : ¬ ((20 : Int) < (n : Int)) := by omega
  have hm : (20 : Int) < (m : Int) := by omega
  clear aw
  go_enter Tryz.func6, Tryz.ntmps6
  go_wp2_with (go_at_call 8; (with_reducible refine (AW.out _).mono ?_); rintro e w1 ⟨rfl, b1⟩; have B1 := Aside0.mk b1; clear b1)
  go_ret
  exact ⟨rfl, B1.out⟩
def OutC (w : World) (r : List ByteArray) (e : Ending) (w' : World) : Prop :=
  ∃ A c, e = .returned (.slice A r.length c) ∧ r.length ≤ c ∧ Kd.C Kd.string w' A r.length r ∧ Below w.heap.size w w'
theorem out28_C {w : World} {r : List ByteArray} {e : Ending} {w' : World} (h : Out28 w r e w') : OutC w r e w' := by
  obtain ⟨v, rfl, h1, h2⟩ := h
  obtain ⟨A, c, rfl, h3, h4⟩ := Kd.R_reads h1
  exact ⟨A, c, rfl, h3, h4, h2⟩
theorem c28C (w : World) (xs ys : List S53) (A1 A2 : Option Addr) (c1 c2 : Nat) (hx : Kd.C k53 w A1 xs.length xs) (hy : Kd.C k53 w A2 ys.length ys) (hlx : xs.length ≤ 20) (hly : ys.length ≤ 20) (r : List ByteArray) (hr : differC xs ys = r) :
    Calls Tryz.prog 28 #[.slice A1 xs.length c1, .slice A2 ys.length c2] w (OutC w r) :=
  hr ▸ (c28 w xs ys A1 A2 c1 c2 hx hy (by omega) (by omega)).mono fun _ _ h => out28_C h
theorem c30C (w : World) (xs ys : List S53) (A1 A2 : Option Addr) (c1 c2 : Nat) (hx : Kd.C k53 w A1 xs.length xs) (hcx : xs.length ≤ c1) (hy : Kd.C k53 w A2 ys.length ys) (hcy : ys.length ≤ c2) (hlx : xs.length ≤ 20) (hly : ys.length ≤ 20) (r : List ByteArray) (hr : differC xs ys = r) :
    Calls Tryz.prog 30 #[.slice A1 xs.length c1, .slice A2 ys.length c2] w (OutC w r) :=
  (licitref37_Differ.calls 100000 A1 c1 xs A2 c2 ys r w hx hcx hy hcy (hr ▸ differ_some xs ys (by omega) (by omega))).mono fun _ _ h => out28_C h
theorem c29C (w : World) (l : List ByteArray) (A1 A2 : Option Addr) (c1 c2 : Nat) (hx : Kd.C Kd.string w A1 l.length l) (hcx : l.length ≤ c1) (hy : Kd.C Kd.string w A2 l.length l) (hcy : l.length ≤ c2) (hl : l.length ≤ 100000) :
    Calls Tryz.prog 29 #[.slice A1 l.length c1, .slice A2 l.length c2] w fun e w' => e = .returned (.bool true) ∧ Below w.heap.size w w' :=
  (licitref31_SameTexts.calls _ A1 c1 l A2 c2 l true w hx hcx hy hcy (same_some l hl)).mono fun _ _ h => ⟨h.1, Drawn0.below h.2⟩
theorem c24C (w : World) (l : List ByteArray) (A1 A2 : Option Addr) (c1 c2 : Nat) (hx : Kd.C Kd.string w A1 l.length l) (hcx : l.length ≤ c1) (hy : Kd.C Kd.string w A2 l.length l) (hcy : l.length ≤ c2) (hl : l.length ≤ 100000) :
    Calls Tryz.prog 24 #[.slice A1 l.length c1, .slice A2 l.length c2] w fun e w' => e = .returned (.bool true) ∧ Below w.heap.size w w' :=
  (slices_Equal_string_string.calls _ A1 c1 l A2 c2 l true w hx hcx hy hcy (equal_some l hl)).mono fun _ _ h => ⟨h.1, Drawn0.below h.2⟩
set_option maxHeartbeats 4000000 in
set_option maxRecDepth 100000 in
theorem c6c (aw : Awake8) (w : World) (xs ys : List S53) (A1 A2 : Option Addr) (c1 c2 : Nat) (hx : Kd.C k53 w A1 xs.length xs) (hcx : xs.length ≤ c1) (hy : Kd.C k53 w A2 ys.length ys) (hcy : ys.length ≤ c2) (h1 : xs.length ≤ 20) (h2 : ys.length ≤ 20) :
    Calls Tryz.prog 6 #[.slice A1 xs.length c1, .slice A2 ys.length c2] w (Ok6 w) := by
  obtain ⟨ds, hds⟩ : ∃ ds, differC xs ys = ds := ⟨_, rfl⟩
  obtain ⟨zs, hz⟩ : ∃ zs : List S53, xs ++ ys = zs := ⟨_, rfl⟩
  have AW := Lib.hid (fun W => aw W)
  have HX := Aside0.mk hx
  have HY := Aside0.mk hy
  have HCX := Aside0.mk hcx
  have HCY := Aside0.mk hcy
  have HLX := Aside0.mk h1
  have HLY := Aside0.mk h2
  have HLZ := Aside0.mk (show zs.length ≤ 40 by rw [← hz, List.length_append]; omega)
  have hn : ¬ ((20 : Int) < (xs.length : Int)) := by omega
  have hm : ¬ ((20 : Int) < (ys.length : Int)) := by omega
  have H27 := Lib.hid (fun W g (hb : Below w.heap.size w W) (g0 : W.cell? ⟨g, 0, none⟩ = some (.slice A1 xs.length c1)) (g1 : W.cell? ⟨g, 1, none⟩ = some (.slice A2 ys.length c2)) => hz ▸ c27 W xs ys A1 A2 c1 c2 g (Kd.C_below hx hb) (Kd.C_below hy hb) (by omega) (by omega) g0 g1)
  have HDS := Lib.hid (show ds.length ≤ 100000 by rw [← hds]; exact differC_le xs ys (by omega) (by omega))
  have H28a := Lib.hid (fun W (hb : Below w.heap.size w W) => c28C W xs ys A1 A2 c1 c2 (Kd.C_below hx hb) (Kd.C_below hy hb) h1 h2 ds hds)
  have H28b := Lib.hid (fun W (hb : Below w.heap.size w W) => c28C W ys xs A2 A1 c2 c1 (Kd.C_below hy hb) (Kd.C_below hx hb) h2 h1 ds ((differC_symm ys xs).trans hds))
  have H28c := Lib.hid (fun W (hb : Below w.heap.size w W) => c28C W xs xs A1 A1 c1 c1 (Kd.C_below hx hb) (Kd.C_below hx hb) h1 h1 [] (differC_self xs))
  have H30 := Lib.hid (fun W (hb : Below w.heap.size w W) => c30C W xs ys A1 A2 c1 c2 (Kd.C_below hx hb) hcx (Kd.C_below hy hb) hcy h1 h2 ds hds)
  have H29 := Lib.hid (fun W Aa Ab ca cb (ha : Kd.C Kd.string W Aa ds.length ds) (hca : ds.length ≤ ca) (hb : Kd.C Kd.string W Ab ds.length ds) (hcb : ds.length ≤ cb) => c29C W ds Aa Ab ca cb ha hca hb hcb HDS.out)
  have H24 := Lib.hid (fun W Aa Ab ca cb (ha : Kd.C Kd.string W Aa ds.length ds) (hca : ds.length ≤ ca) (hb : Kd.C Kd.string W Ab ds.length ds) (hcb : ds.length ≤ cb) => c24C W ds Aa Ab ca cb ha hca hb hcb HDS.out)
  clear aw hx hy hcx hcy h1 h2 hz hds
  go_enter Tryz.func6, Tryz.ntmps6
  go_wp2_with (first
    | (go_at_call 8
       (with_reducible refine (AW.out _).mono ?_)
       rintro e w1 ⟨rfl, b1⟩
       have B1 := Aside0.mk b1
       clear b1)
    | (go_at_call 27
       (with_reducible refine (H27.out _ _ (B1.out.alloc B1.out.size _) (by simp) (by simp)).mono ?_)
       rintro e w2 ⟨A3, c3, rfl, l3, r3, b3⟩
       have L3 := Aside0.mk l3
       have R3 := Aside0.mk r3
       have B3 := Aside0.mk (after_box b3)
       clear l3 r3 b3))
  go_loopg [23] (zs.length) (fun kq v23 w' => ∃ (i : Nat), i ≤ zs.length ∧ kq + i = zs.length ∧ v23 = .int .i64 i ∧ Aside0 (Below w2.heap.size w2 w'))
  case atStart => exact ⟨0, by omega, by omega, rfl, ⟨Below.refl _ _⟩⟩
  case round =>
    obtain ⟨i, hi, hk, rfl, HB⟩ := hrel
    by_cases hlt : i < zs.length
    · have hlti : (i : Int) < (zs.length : Int) := by omega
      obtain ⟨ad, A4, c4, A5, c5, A6, c6, rfl, x0, x1, x2, x3, x4, x5, x6, x7, -⟩ := at_T53 R3.out i (by omega) (by omega)
      simp only [Int.toNat_natCast] at x0 x1 x2 x3 x4 x5 x6 x7
      replace x0 := (HB.out.cell (World.block_lt_of_cell? w2 _ x0)).trans x0
      replace x1 := (HB.out.cell (World.block_lt_of_cell? w2 _ x1)).trans x1
      replace x2 := (HB.out.cell (World.block_lt_of_cell? w2 _ x2)).trans x2
      replace x3 := (HB.out.cell (World.block_lt_of_cell? w2 _ x3)).trans x3
      replace x4 := (HB.out.cell (World.block_lt_of_cell? w2 _ x4)).trans x4
      replace x5 := (HB.out.cell (World.block_lt_of_cell? w2 _ x5)).trans x5
      replace x6 := (HB.out.cell (World.block_lt_of_cell? w2 _ x6)).trans x6
      replace x7 := (HB.out.cell (World.block_lt_of_cell? w2 _ x7)).trans x7
      go_wp2
      · go_ret
        exact ⟨rfl, B1.out.trans ((B3.out.mono B1.out.size).trans ((HB.out.mono (Nat.le_trans B1.out.size B3.out.size)).alloc (Nat.le_trans B1.out.size (Nat.le_trans B3.out.size HB.out.size)) _))⟩
      · have hz40 := HLZ.out
        go_roundg (zs.length - (i + 1))
        case measure => omega
        case rel => exact ⟨i + 1, by omega, by omega, by rw [wrap_nat (by omega)], ⟨HB.out.alloc HB.out.size _⟩⟩
    · have hlti : ¬ ((i : Int) < (zs.length : Int)) := by omega
      have W0 := Aside0.mk (B1.out.trans ((B3.out.mono B1.out.size).trans (HB.out.mono (Nat.le_trans B1.out.size B3.out.size))))
      go_wp2_with (first
        | (go_at_call 28
           (with_reducible refine (H28a.out _ W0.out).mono ?_)
           rintro e w4 ⟨A4, c4, rfl, l4, r4, b4⟩
           have L4 := Aside0.mk l4
           have R4 := Aside0.mk r4
           have W4 := Aside0.mk (W0.out.trans (b4.mono W0.out.size))
           clear l4 r4 b4)
        | (go_at_call 30
           (with_reducible refine (H30.out _ W4.out).mono ?_)
           rintro e w5 ⟨A5, c5, rfl, l5, r5, b5⟩
           have L5 := Aside0.mk l5
           have R5 := Aside0.mk r5
           have R45 := Aside0.mk (Kd.C_below R4.out b5)
           have W5 := Aside0.mk (W4.out.trans (b5.mono W4.out.size))
           clear l5 r5 b5)
        | (go_at_call 29
           (with_reducible refine (H29.out _ _ _ _ _ R45.out L4.out R5.out L5.out).mono ?_)
           rintro e w6 ⟨rfl, b6⟩
           have R46 := Aside0.mk (Kd.C_below R45.out b6)
           have W6 := Aside0.mk (W5.out.trans (b6.mono W5.out.size))
           clear b6)
        | (go_at_call 28
           (with_reducible refine (H28b.out _ W6.out).mono ?_)
           rintro e w7 ⟨A7, c7, rfl, l7, r7, b7⟩
           have L7 := Aside0.mk l7
           have R7 := Aside0.mk r7
           have R47 := Aside0.mk (Kd.C_below R46.out b7)
           have W7 := Aside0.mk (W6.out.trans (b7.mono W6.out.size))
           clear l7 r7 b7)
        | (go_at_call 24
           (with_reducible refine (H24.out _ _ _ _ _ R47.out L4.out R7.out L7.out).mono ?_)
           rintro e w8 ⟨rfl, b8⟩
           have W8 := Aside0.mk (W7.out.trans (b8.mono W7.out.size))
           clear b8)
        | (go_at_call 28
           (with_reducible refine (H28c.out _ W8.out).mono ?_)
           rintro e w9 ⟨A9, c9, rfl, l9, r9, b9⟩
           have W9 := Aside0.mk (W8.out.trans (b9.mono W8.out.size))
           clear l9 r9 b9))
      go_ret
      exact ⟨rfl, W9.out⟩
theorem c6 (aw : Awake8) (w : World) (xs ys : List S53) (A1 A2 : Option Addr) (c1 c2 : Nat) (hx : Kd.C k53 w A1 xs.length xs) (hcx : xs.length ≤ c1) (hy : Kd.C k53 w A2 ys.length ys) (hcy : ys.length ≤ c2) :
    Calls Tryz.prog 6 #[.slice A1 xs.length c1, .slice A2 ys.length c2] w (Ok6 w) := by
  rcases Nat.lt_or_ge 20 xs.length with h | h
  · exact c6a aw w A1 A2 _ _ c1 c2 h
  · rcases Nat.lt_or_ge 20 ys.length with h2 | h2
    · exact c6b aw w A1 A2 _ _ c1 c2 h h2
    · exact c6c aw w xs ys A1 A2 c1 c2 hx hcx hy hcy h h2
end Go.Proofs.Dif
