/- A part of the proof of the card of licitlaw37.ConclusionDiffers. -/
import Derived.Test.YtnpfemnclccbnaaGreatDoorDA
import Derived.Deep.Slices
namespace Go.Proofs.Dif
open Go.RowKit Go.Proofs.YtnpfemnclccbnaaGreatDoorW.PrintWords Go.Proofs.YtnpfemnclccbnaaGreatDoorW.PrintLast Go.Proofs.YtnpfemnclccbnaaGreatDoorW.PrintMore Go.Proofs.YtnpfemnclccbnaaGreatDoor.PConclusionDiffers
set_option linter.unusedVariables false
set_option linter.unusedSimpArgs false
theorem len4 {l : List Value} (h : l.length = 4) : ∃ a b c d, l = [a, b, c, d] := by
  rcases l with _ | ⟨a, _ | ⟨b, _ | ⟨c, _ | ⟨d, _ | ⟨e, l⟩⟩⟩⟩⟩ <;> simp at h
  exact ⟨a, b, c, d, rfl⟩
theorem len8 {l : List Value} (h : l.length = 8) : ∃ a b c d e f g i, l = [a, b, c, d, e, f, g, i] := by
  rcases l with _ | ⟨a, _ | ⟨b, _ | ⟨c, _ | ⟨d, _ | ⟨e, _ | ⟨f, _ | ⟨g, _ | ⟨i, _ | ⟨j, l⟩⟩⟩⟩⟩⟩⟩⟩⟩ <;> simp at h
  exact ⟨a, b, c, d, e, f, g, i, rfl⟩
section
variable {H : Type} {enc : TypeId × Value → H} {w : World} {base : Nat} {sp : Nat → Bool} {held : Bool} {fuel : Nat} {cs : List Value} {x : DataW H × List MemPlace}
theorem sz9 : Tryz.prog.cellsOf 9 = 1 := by kernel_rfl
theorem sz3 : Tryz.prog.cellsOf 3 = 1 := by kernel_rfl
theorem sz23 : Tryz.prog.cellsOf 23 = 1 := by kernel_rfl
theorem sz22 : Tryz.prog.cellsOf 22 = 1 := by kernel_rfl
theorem sz39 : Tryz.prog.cellsOf 39 = 1 := by kernel_rfl
theorem sz26' : Tryz.prog.cellsOf 26 = 4 := by kernel_rfl
theorem sz41' : Tryz.prog.cellsOf 41 = 4 := by kernel_rfl
theorem sz53 : Tryz.prog.cellsOf 53 = 8 := by kernel_rfl

theorem C_of_slice {α : Type} (z : α) (d : Kd α) {t e : TypeId} (ht : Tryz.prog.underlying t = some (.slice e)) (hsz : Tryz.prog.cellsOf e = d.sz)
    (step : ∀ n, fuel = n + 1 → ∀ cs' y, DataW.trod enc Tryz.prog w base sp held n e cs' = some y → ∃ a, d.K w a cs')
    (h : DataW.trod enc Tryz.prog w base sp held fuel t cs = some x) : ∃ A c, ∃ l : List α, cs = [.slice A l.length c] ∧ l.length ≤ c ∧ d.C w A l.length l := by
  rcases DataW.trod_slice ht h with ⟨rfl, _⟩ | ⟨a, len, cap, elems, rest, n, hn, rfl, rfl, hb, hl, hm, hlen, hel, _, _⟩
  · exact ⟨none, 0, [], rfl, Nat.le_refl _, Kd.C_nil d w⟩
  · haveI : Inhabited α := ⟨z⟩
    obtain ⟨f, hf⟩ := Go.Deep.choose_lt (α := α) (n := len) (p := fun i v => ∃ c, c.length = d.sz ∧ d.K w v c ∧ ∀ j u, c[j]? = some u → w.cell? (a.add (i * d.sz + j)) = some u) (fun i hi => by
      have h1 := hel i hi
      rw [List.getElem?_eq_getElem (by omega)] at h1
      obtain ⟨cs', h2, h3⟩ := Option.bind_eq_some_iff.1 h1
      obtain ⟨v, hv⟩ := step n hn cs' _ h3
      obtain ⟨_, h4, h5⟩ := World.cells?_some h2
      refine ⟨v, cs', by rw [h4, hsz], hv, fun j u hu => ?_⟩
      have hj : j < cs'.length := (List.getElem?_eq_some_iff.1 hu).1
      have h6 := h5 j (by omega)
      rw [Go.Addr.add_add, hsz] at h6
      rw [h6, hu])
    have hlen2 : ((List.range len).map f).length = len := by simp
    refine ⟨some a, cap, (List.range len).map f, by rw [hlen2], by rw [hlen2]; exact hl, ?_⟩
    rw [hlen2]
    refine ⟨hlen2, by unfold maxLen at hm; omega, fun _ => ⟨a, rfl, fun j p hj => ?_⟩⟩
    have hj2 : j < len := by
      have := (List.getElem?_eq_some_iff.1 hj).1
      omega
    rw [List.getElem?_map, List.getElem?_range hj2] at hj
    obtain rfl := Option.some.inj hj
    exact hf j hj2
theorem read23 (h : DataW.trod enc Tryz.prog w base sp held fuel 23 cs = some x) : ∃ A c, ∃ l : List ByteArray, cs = [.slice A l.length c] ∧ l.length ≤ c ∧ Kd.string.C w A l.length l :=
  C_of_slice ⟨#[]⟩ Kd.string Tryz.underlying23 sz9 (fun n _ cs' y hy => by
    obtain ⟨s, rfl, _, _⟩ := DataW.trod_string Tryz.underlying9 hy
    exact ⟨s, rfl⟩) h
theorem read26 (h : DataW.trod enc Tryz.prog w base sp held fuel 26 cs = some x) : ∃ a : S26, k26.K w a cs := by
  obtain ⟨xs, n, _, _, hl, hx, hf⟩ := DataW.trod_struct Tryz.underlying26 h
  rw [sz26'] at hl
  obtain ⟨a0, a1, a2, a3, rfl⟩ := len4 hl
  · clear hl
    have f0 : DataW.trod enc Tryz.prog w base sp held n 3 (([a0, a1, a2, a3].drop 0).take (Tryz.prog.cellsOf 3)) = xs[0]? := hf 0 _ rfl
    have f1 : DataW.trod enc Tryz.prog w base sp held n 3 (([a0, a1, a2, a3].drop 1).take (Tryz.prog.cellsOf 3)) = xs[1]? := hf 1 _ rfl
    have f2 : DataW.trod enc Tryz.prog w base sp held n 3 (([a0, a1, a2, a3].drop 2).take (Tryz.prog.cellsOf 3)) = xs[2]? := hf 2 _ rfl
    have f3 : DataW.trod enc Tryz.prog w base sp held n 9 (([a0, a1, a2, a3].drop 3).take (Tryz.prog.cellsOf 9)) = xs[3]? := hf 3 _ rfl
    rw [sz3] at f0
    rw [sz3] at f1
    rw [sz3] at f2
    rw [sz9] at f3
    have hx4 : xs.length = 4 := hx
    rw [List.getElem?_eq_getElem (by omega)] at f0 f1 f2 f3
    obtain ⟨n0, e0, _, _⟩ := DataW.trod_int Tryz.underlying3 f0
    obtain ⟨n1, e1, _, _⟩ := DataW.trod_int Tryz.underlying3 f1
    obtain ⟨n2, e2, _, _⟩ := DataW.trod_int Tryz.underlying3 f2
    obtain ⟨s3, e3, _, _⟩ := DataW.trod_string Tryz.underlying9 f3
    simp at e0 e1 e2 e3
    subst e0 e1 e2 e3
    exact ⟨⟨n0, n1, n2, s3⟩, k26_mk w _⟩
theorem read22 (h : DataW.trod enc Tryz.prog w base sp held fuel 22 cs = some x) : ∃ A c, ∃ l : List S26, cs = [.slice A l.length c] ∧ l.length ≤ c ∧ k26.C w A l.length l :=
  C_of_slice ⟨0, 0, 0, ⟨#[]⟩⟩ k26 Tryz.underlying22 sz26' (fun n _ cs' y hy => read26 hy) h
end
section
variable {H : Type} {enc : TypeId × Value → H} {w : World} {base : Nat} {sp : Nat → Bool} {held : Bool}
theorem read41 : ∀ (fuel : Nat) {cs : List Value} {x : DataW H × List MemPlace}, DataW.trod enc Tryz.prog w base sp held fuel 41 cs = some x → ∃ a : S41, k41.K w a cs := by
  intro fuel
  induction fuel using Nat.strongRecOn with
  | _ fuel ih =>
    intro cs x h
    obtain ⟨xs, n, hn, _, hl, hx, hf⟩ := DataW.trod_struct Tryz.underlying41 h
    rw [sz41'] at hl
    obtain ⟨a0, a1, a2, a3, rfl⟩ := len4 hl
    · clear hl
      have f0 : DataW.trod enc Tryz.prog w base sp held n 3 (([a0, a1, a2, a3].drop 0).take (Tryz.prog.cellsOf 3)) = xs[0]? := hf 0 _ rfl
      have f1 : DataW.trod enc Tryz.prog w base sp held n 9 (([a0, a1, a2, a3].drop 1).take (Tryz.prog.cellsOf 9)) = xs[1]? := hf 1 _ rfl
      have f2 : DataW.trod enc Tryz.prog w base sp held n 9 (([a0, a1, a2, a3].drop 2).take (Tryz.prog.cellsOf 9)) = xs[2]? := hf 2 _ rfl
      have f3 : DataW.trod enc Tryz.prog w base sp held n 39 (([a0, a1, a2, a3].drop 3).take (Tryz.prog.cellsOf 39)) = xs[3]? := hf 3 _ rfl
      rw [sz3] at f0
      rw [sz9] at f1
      rw [sz9] at f2
      rw [sz39] at f3
      have hx4 : xs.length = 4 := hx
      rw [List.getElem?_eq_getElem (by omega)] at f0 f1 f2 f3
      obtain ⟨n0, e0, _, _⟩ := DataW.trod_int Tryz.underlying3 f0
      obtain ⟨s1, e1, _, _⟩ := DataW.trod_string Tryz.underlying9 f1
      obtain ⟨s2, e2, _, _⟩ := DataW.trod_string Tryz.underlying9 f2
      obtain ⟨A, c, l, e3, hc, hC⟩ := C_of_slice z41 k41 Tryz.underlying39 sz41' (fun m hm cs' y hy => ih m (by omega) hy) f3
      simp at e0 e1 e2 e3
      subst e0 e1 e2 e3
      exact ⟨⟨n0, s1, s2, l⟩, k41_mk w _ hc hC⟩
variable {fuel : Nat} {cs : List Value} {x : DataW H × List MemPlace}
theorem read53 (h : DataW.trod enc Tryz.prog w base sp held fuel 53 cs = some x) : ∃ a : S53, k53.K w a cs := by
  obtain ⟨xs, n, hn, _, hl, hx, hf⟩ := DataW.trod_struct Tryz.underlying53 h
  rw [sz53] at hl
  obtain ⟨a0, a1, a2, a3, a4, a5, a6, a7, rfl⟩ := len8 hl
  · clear hl
    have f0 : DataW.trod enc Tryz.prog w base sp held n 9 (([a0, a1, a2, a3, a4, a5, a6, a7].drop 0).take (Tryz.prog.cellsOf 9)) = xs[0]? := hf 0 _ rfl
    have f1 : DataW.trod enc Tryz.prog w base sp held n 41 (([a0, a1, a2, a3, a4, a5, a6, a7].drop 1).take (Tryz.prog.cellsOf 41)) = xs[1]? := hf 1 _ rfl
    have f2 : DataW.trod enc Tryz.prog w base sp held n 23 (([a0, a1, a2, a3, a4, a5, a6, a7].drop 5).take (Tryz.prog.cellsOf 23)) = xs[2]? := hf 2 _ rfl
    have f3 : DataW.trod enc Tryz.prog w base sp held n 22 (([a0, a1, a2, a3, a4, a5, a6, a7].drop 6).take (Tryz.prog.cellsOf 22)) = xs[3]? := hf 3 _ rfl
    have f4 : DataW.trod enc Tryz.prog w base sp held n 9 (([a0, a1, a2, a3, a4, a5, a6, a7].drop 7).take (Tryz.prog.cellsOf 9)) = xs[4]? := hf 4 _ rfl
    rw [sz9] at f0
    rw [sz41'] at f1
    rw [sz23] at f2
    rw [sz22] at f3
    rw [sz9] at f4
    have hx5 : xs.length = 5 := hx
    rw [List.getElem?_eq_getElem (by omega)] at f0 f1 f2 f3 f4
    obtain ⟨s0, e0, _, _⟩ := DataW.trod_string Tryz.underlying9 f0
    obtain ⟨p1, e1⟩ := read41 _ f1
    obtain ⟨A2, c2, l2, e2, hc2, hC2⟩ := read23 f2
    obtain ⟨A3, c3, l3, e3, hc3, hC3⟩ := read22 f3
    obtain ⟨s4, e4, _, _⟩ := DataW.trod_string Tryz.underlying9 f4
    obtain ⟨A1, c1, e1, hc1, hC1⟩ := k41_open e1
    simp at e0 e1 e2 e3 e4
    obtain ⟨e10, e11, e12, e13⟩ := e1
    subst e0 e10 e11 e12 e13 e2 e3 e4
    exact ⟨⟨s0, p1, l2, l3, s4⟩, k53_mk w ⟨s0, p1, l2, l3, s4⟩ hc1 hC1 hc2 hC2 hc3 hC3⟩
theorem read47 (h : DataW.trod enc Tryz.prog w base sp held fuel 47 cs = some x) : ∃ A c, ∃ l : List S53, cs = [.slice A l.length c] ∧ l.length ≤ c ∧ k53.C w A l.length l :=
  C_of_slice z53 k53 Tryz.underlying47 sz53 (fun n _ cs' y hy => read53 hy) h
end
end Go.Proofs.Dif
