/- A part of the proof of the card of licitlaw37.ConclusionDiffers. -/
import Derived.Test.YtnpfemnclccbnaaGreatDoorQC
import Derived.Laws.Append
import Derived.Laws.AppendOwn
import Derived.Laws.BytesString
import Derived.Laws.BytesArg
import Derived.Laws.RangeString
import Derived.RangeFuncRecord
set_option linter.unusedSectionVars false
set_option linter.unusedSimpArgs false
set_option linter.unusedVariables false
namespace Go.Proofs.Qas

theorem AW.next_put (σ : AW) (b : Nat) (o : Option AObj) : (σ.put b o).next = σ.next := rfl
theorem AW.next_new (σ : AW) (o : AObj) : (σ.new o).next = σ.next + 1 := rfl

theorem Rel.adopt {P : Program} {φ : Phi} {σ : AW} {w w' : World} {b : Nat} {p : PB} {o : AObj} (h : Rel P φ σ w) (hp : φ b = some p) (hl : σ.obj b ≠ none) (ht : Turned p.blk w w') (ho : OR P φ w' p o) :
    Post P φ σ w (φ.upd σ.next p) ((σ.put b none).new o) w' := {
  rel := {
    lt := fun b' q hb => by
      rw [AW.next_new, AW.next_put, ht.size]
      by_cases hn : b' = σ.next
      · subst hn
        rw [Phi.upd_same] at hb; injection hb with hb; subst hb
        exact ⟨Nat.lt_succ_self _, (h.lt b p hp).2⟩
      · rw [Phi.upd_other _ _ hn] at hb
        have := h.lt b' q hb
        exact ⟨by omega, this.2⟩
    inj := fun b1 b2 p1 p2 e1 e2 l1 l2 e => by
      have key : ∀ b' q, b' ≠ σ.next → (φ.upd σ.next p) b' = some q → ((σ.put b none).new o).obj b' ≠ none → φ b' = some q ∧ σ.obj b' ≠ none ∧ b' ≠ b := by
        intro b' q hn e l
        rw [Phi.upd_other _ _ hn] at e
        rw [AW.obj_new, AW.next_put, if_neg hn, AW.obj_put] at l
        split at l
        · exact (l rfl).elim
        · rename_i hne; exact ⟨e, l, hne⟩
      by_cases h1 : b1 = σ.next
      · by_cases h2 : b2 = σ.next
        · rw [h1, h2]
        · exfalso
          subst h1
          rw [Phi.upd_same] at e1; injection e1 with e1; subst e1
          obtain ⟨a1, a2, a3⟩ := key b2 p2 h2 e2 l2
          exact a3 (h.inj b2 b p2 p a1 hp a2 hl e.symm)
      · obtain ⟨a1, a2, a3⟩ := key b1 p1 h1 e1 l1
        by_cases h2 : b2 = σ.next
        · exfalso
          subst h2
          rw [Phi.upd_same] at e2; injection e2 with e2; subst e2
          exact a3 (h.inj b1 b p1 p a1 hp a2 hl e)
        · obtain ⟨c1, c2, c3⟩ := key b2 p2 h2 e2 l2
          exact h.inj b1 b2 p1 p2 a1 c1 a2 c2 e
    obj := fun b' q o' hb ho' => by
      by_cases hn : b' = σ.next
      · subst hn
        rw [Phi.upd_same] at hb; injection hb with hb; subst hb
        rw [AW.obj_new, AW.next_put, if_pos rfl] at ho'; injection ho' with ho'; subst ho'
        exact ho.ext (Phi.upd_ext p (h.none_next (Nat.le_refl _)))
      · rw [Phi.upd_other _ _ hn] at hb
        rw [AW.obj_new, AW.next_put, if_neg hn, AW.obj_put] at ho'
        split at ho'
        · cases ho'
        · rename_i hne
          refine ((h.obj b' q o' hb ho').ext (Phi.upd_ext p (h.none_next (Nat.le_refl _)))).congr (ht.other _ fun hc => ?_)
          exact hne (h.inj b' b q p hb hp (by rw [ho']; simp) hl hc) }
  ext := Phi.upd_ext p (h.none_next (Nat.le_refl _))
  grow := fun b' q hb => by
    by_cases hn : b' = σ.next
    · subst hn
      rw [Phi.upd_same] at hb; injection hb with hb; subst hb
      exact .inr ⟨Nat.le_refl _, .inr ⟨b, p, hp, rfl⟩⟩
    · rw [Phi.upd_other _ _ hn] at hb; exact .inl hb
  keep := ⟨ht.os, ht.tape, ht.output, by rw [ht.size]; exact Nat.le_refl _, fun c _ hn => ht.other c (fun e => hn b p hp e.symm)⟩
  next := Nat.le_succ _
  aframe := fun b' hb e => by
    rw [AW.obj_new, AW.next_put, if_neg (by omega), AW.obj_put, if_neg]
    rintro rfl
    rw [hp] at e; cases e }

theorem aSrc_ok {P : Program} {φ : Phi} {σ : AW} {w : World} (hr : Rel P φ σ w) {size n : Nat} {x x' : Value} {l : List Value} (h : aSrc σ size n x = some l) (hx : VR φ x x') :
    ∃ l', LR φ l l' ∧ (Builtin.firstCells size n x').run P w = .ok l'.toArray w := by
  unfold aSrc at h
  split at h
  · cases hx; injection h with h; subst h
    exact ⟨[], LR.nil _, by simp [Builtin.firstCells]⟩
  · rename_i b o _ _
    cases hx with
    | slice hp hn h0 h1 =>
    rename_i c' p
    split at h
    · rename_i e0
      injection h with h; subst h
      exact ⟨[], LR.nil _, run_firstCells_some w size n ⟨p.blk, o, none⟩ _ _ [] (by simp [e0]) (fun j v hj => by simp at hj)⟩
    · rename_i k e0
      replace h := bnd_some h
      obtain ⟨B, hB, h⟩ := h
      replace h := bnd_some h
      obtain ⟨_, hg, h⟩ := h
      injection h with h; subst h
      have hg' := Nat.le_of_ble_eq_true (guardM_some hg)
      obtain ⟨cur, fr, g1, g2, g3, g4, g5⟩ := hr.obj b p _ hp (aCells_some hB)
      have hc : ∀ j, j < k + 1 → ∃ v', cur[o + j]? = some v' ∧ ∀ u, ((B.cells.drop o).take (k + 1))[j]? = some u → VR φ u v' := by
        intro j hj
        have hlt : o + j < B.cells.length := by omega
        obtain ⟨v', e1, e2⟩ := g4 (o + j) _ (List.getElem?_eq_getElem hlt)
        refine ⟨v', e1, fun u hu => ?_⟩
        rw [List.getElem?_take, if_pos hj, List.getElem?_drop, List.getElem?_eq_getElem hlt] at hu
        injection hu with hu; subst hu; exact e2
      refine ⟨(List.range (k + 1)).map fun j => (cur[o + j]?).getD undef, ⟨by simp; omega, fun j u u' hu hu' => ?_⟩, ?_⟩
      · have hj : j < k + 1 := by
          have := (List.getElem?_eq_some_iff.1 hu').1
          simpa using this
        obtain ⟨v', e1, e2⟩ := hc j hj
        rw [List.getElem?_map, List.getElem?_range hj] at hu'
        simp [e1] at hu'
        subst hu'
        exact e2 u hu
      · refine run_firstCells_some w size n ⟨p.blk, o, none⟩ _ _ _ (by simp [e0]) (fun j v hj => ?_)
        have hj' : j < k + 1 := by
          have := (List.getElem?_eq_some_iff.1 hj).1
          simpa using this
        obtain ⟨v', e1, e2⟩ := hc j hj'
        rw [List.getElem?_map, List.getElem?_range hj'] at hj
        simp [e1] at hj
        subst hj
        rw [addr_add, cell_of g1, e1]
  · rename_i s
    cases hx
    split at h
    case h_2 => exact (fail_some h).elim
    injection h with h; subst h
    refine ⟨(s.data.toList.take n).map fun b => Value.int .u8 (.ofNat b.toNat), ⟨rfl, fun i v v' a b => ?_⟩, ?_⟩
    · rw [a] at b; injection b with b; subst b
      simp only [List.getElem?_map, Option.map_eq_some_iff] at a
      obtain ⟨y, _, rfl⟩ := a
      exact .int _ _
    · simp only [Builtin.firstCells, Sem.run_pure]
      congr 1
      apply Array.ext'
      simp only [Array.toList_map, ByteArray.data_extract, Array.toList_extract, List.extract, List.drop_zero, Nat.sub_zero]
      rfl
  · exact (fail_some h).elim
theorem aSrc_len {σ : AW} {size n : Nat} {x : Value} {l : List Value} (h : aSrc σ size n x = some l) (hn : ∀ m, aLenOf x = some m → n ≤ m) : l.length = n * size := by
  unfold aSrc at h
  split at h
  · injection h with h; subst h
    have := hn 0 rfl
    have : n = 0 := by omega
    subst this; simp
  · split at h
    · rename_i e0
      injection h with h; subst h; simp [e0]
    · rename_i e0
      replace h := bnd_some h
      obtain ⟨B, hB, h⟩ := h
      replace h := bnd_some h
      obtain ⟨_, hg, h⟩ := h
      injection h with h; subst h
      have hg' := Nat.le_of_ble_eq_true (guardM_some hg)
      rw [List.length_take, List.length_drop, e0]; omega
  · split at h
    case h_2 => exact (fail_some h).elim
    rename_i e1
    injection h with h; subst h
    have := hn _ rfl
    rw [Nat.eq_of_beq_eq_true e1, List.length_map, List.length_take]; omega
  · exact (fail_some h).elim
theorem aSrc_cells {σ : AW} {size n b o l c : Nat} {r : List Value} {B : Blk} (h : aSrc σ size n (.slice (some ⟨b, o, none⟩) l c) = some r) (hB : aCells σ b = some B) : ∀ (i : Nat) v, r[i]? = some v → B.cells[o + i]? = some v := by
  intro i v hv
  simp only [aSrc] at h
  split at h
  · injection h with h; subst h; simp at hv
  · replace h := bnd_some h
    obtain ⟨B', hB', h⟩ := h
    rw [hB] at hB'; injection hB' with hB'; subst hB'
    replace h := bnd_some h
    obtain ⟨_, hg, h⟩ := h
    injection h with h; subst h
    rw [List.getElem?_take] at hv
    split at hv
    · rw [List.getElem?_drop] at hv; exact hv
    · cases hv
theorem aLenOf_ok {P : Program} {φ : Phi} {w : World} {x x' : Value} {n : Nat} (h : aLenOf x = some n) (hx : VR φ x x') : (Builtin.lenOf x').run P w = .ok n w := by
  unfold aLenOf at h
  split at h
  · injection h with h; subst h
    cases hx <;> rfl
  · injection h with h; subst h
    cases hx; rfl
  · exact (fail_some h).elim
theorem zeroCells_eq (z : Array Value) (n : Nat) : Builtin.zeroCells z n = (repCells z.toList n).toArray := rep_eq z z n z.size rfl (fun _ => rfl)

section
variable {P : Program} {st xt e : TypeId} {i : TypeInfo} {ts : Array TypeId} {ty : TypeId} {x' : Value} {w : World} {sLen n cap : Nat} {new : Array Value}
theorem run_append_stays (ht0 : ts[0]? = some st) (ht1 : ts[1]? = some xt) (hst : P.underlying st = some (.slice e)) (hxt : (∃ d, P.underlying xt = some (.slice d)) ∨ P.underlying xt = some .string) (hi : P.info? e = some i)
    (hlen : (Builtin.lenOf x').run P w = .ok n w) (hnew : (Builtin.firstCells i.size n x').run P w = .ok new w) (hc : sLen + n ≤ cap) {a : Addr} {w' : World} (hst' : (storeCells (a.add (sLen * i.size)) new.toList).run P w = .ok () w') :
    (Builtin.append_ ts ty #[.slice (some a) sLen cap, x']).run P w = .ok (.slice (some a) (sLen + n) cap) w' := by
  rcases hxt with ⟨d, hxt⟩ | hxt <;>
    simp only [Builtin.append_, ht0, ht1, Sem.run_bind, underlying, hst, hxt, sizeOf, typeInfo, hi, hlen, run_program, Result.andThen_ok, Sem.run_pure, List.getElem?_toArray, List.getElem?_cons_zero, List.getElem?_cons_succ, Bool.false_eq_true, ↓reduceIte, Bool.not_false, hnew, hc, hst']
theorem run_append_nothing (ht0 : ts[0]? = some st) (ht1 : ts[1]? = some xt) (hst : P.underlying st = some (.slice e)) (hxt : (∃ d, P.underlying xt = some (.slice d)) ∨ P.underlying xt = some .string) (hi : P.info? e = some i)
    (hlen : (Builtin.lenOf x').run P w = .ok 0 w) (hnew : (Builtin.firstCells i.size 0 x').run P w = .ok new w) :
    (Builtin.append_ ts ty #[.slice none 0 0, x']).run P w = .ok (.slice none 0 0) w := by
  rcases hxt with ⟨d, hxt⟩ | hxt <;>
    simp only [Builtin.append_, ht0, ht1, Sem.run_bind, underlying, hst, hxt, sizeOf, typeInfo, hi, hlen, run_program, Result.andThen_ok, Sem.run_pure, List.getElem?_toArray, List.getElem?_cons_zero, List.getElem?_cons_succ, Bool.false_eq_true, ↓reduceIte, Bool.not_false, hnew, Nat.zero_add, Nat.le_refl]
theorem run_append_anew (ht0 : ts[0]? = some st) (ht1 : ts[1]? = some xt) (hst : P.underlying st = some (.slice e)) (hxt : (∃ d, P.underlying xt = some (.slice d)) ∨ P.underlying xt = some .string) (hi : P.info? e = some i)
    (hlen : (Builtin.lenOf x').run P w = .ok n w) (hc : ¬ sLen + n ≤ cap) (hb : i.bytes ≤ 1000) (hn : sLen + n ≤ 1000000) {base : Option Addr} {old : Array Value} {z : Value} (hz : i.zero = some z)
    (hold : (Builtin.firstCells i.size sLen (.slice base sLen cap)).run P w.drew = .ok old w.drew) (hnew : (Builtin.firstCells i.size n x').run P w.drew = .ok new w.drew) :
    (Builtin.append_ ts ty #[.slice base sLen cap, x']).run P w = .ok (.slice (some ⟨w.heap.size, 0, none⟩) (sLen + n) (grownCap w (sLen + n) cap e))
      { w.drew with heap := w.heap.push (.cells (old ++ new ++ Builtin.zeroCells z.cells (grownCap w (sLen + n) cap e - (sLen + n))) e) } := by
  have hold' := hold
  have hnew' := hnew
  simp only [World.drew] at hold' hnew'
  have h48 : ¬ (2 ^ 48 < Builtin.nextslicecap (sLen + n) cap * i.bytes) := by
    have h1 : (sLen + n) * i.bytes ≤ 140737488355328 := Nat.le_trans (Nat.mul_le_mul hn hb) (by omega)
    have := growslice_fits (Nat.lt_of_not_le hc) h1
    omega
  have h63 : ¬ (IntKind.i64.max < ((sLen + n : Nat) : Int)) := by
    have e3 : IntKind.i64.max = 9223372036854775807 := by decide
    rw [e3]; omega
  rcases hxt with ⟨d, hxt⟩ | hxt <;>
    (simp only [Builtin.append_, ht0, ht1, Sem.run_bind, underlying, hst, hxt, sizeOf, typeInfo, hi, hlen, run_program, Result.andThen_ok, Sem.run_pure, List.getElem?_toArray, List.getElem?_cons_zero, List.getElem?_cons_succ, Bool.false_eq_true, ↓reduceIte, Bool.not_false, hc, zeroValue, false_or, gt_iff_lt, h63, h48, false_and, hz, run_choose, Question.forced, run_askRoom, hold', hnew', newRow, run_newObj, grownCap]; rfl)
end

section
variable {P : Program} {E : Env} (hE : Env.Ok P E)
include hE
omit hE in
theorem isSlS_some {d : TypeDesc} (h : isSlS d = true) : (∃ e, d = .slice e) ∨ d = .string := by
  cases d <;> simp [isSlS] at h ⊢

theorem grown_post {φ : Phi} {σ : AW} {w : World} (hr : Rel P φ σ w) {e : TypeId} {ety : Ty} (hety : E.ty e = some ety) {cs cs' rest : List Value} (hl : LR φ cs cs') {need cap : Nat} (hlen : cs.length = need * ety.size) (hrest : rest.length = (cap - need) * ety.size) (hcap : need ≤ cap) :
    ∃ φ' v', Post P φ σ w φ' (σ.new (.cells { cells := cs, elem := e, frz := false })) { w.drew with heap := w.heap.push (.cells (cs' ++ rest).toArray e) } ∧
      v' = Value.slice (some ⟨w.heap.size, 0, none⟩) need cap ∧ VR φ' (aSliceOver σ.next 0 need 0) v' := by
  refine ⟨_, _, newRow_post hE hr hety cs (cs' ++ rest).toArray false (0, 0) (fun i v hi => ?_) (fun _ i _ => by omega) ⟨rfl, rfl, rfl, rfl⟩ rfl, rfl, ?_⟩
  · obtain ⟨v', h1, h2⟩ := hl.at_ hi
    have : i < cs'.length := (List.getElem?_eq_some_iff.1 h1).1
    exact ⟨v', by rw [List.getElem?_toArray, List.getElem?_append_left this]; exact h1, h2⟩
  · refine .slice (Phi.upd_same _ _ _) hcap (fun _ => ?_) (fun k e => by cases e)
    simp only [List.size_toArray, List.length_append, Nat.zero_add]
    rw [hrest, ← hl.1, hlen, ← Nat.add_mul]
    exact Nat.le_of_eq (congrArg (· * ety.size) (by omega))
theorem aAppend_ok {φ : Phi} {σ σ' : AW} {w : World} (hr : Rel P φ σ w) {ts : Array TypeId} {ty : TypeId} {s s' x x' v : Value} (h : aAppend E σ ts.toList s x = some (v, σ')) (hs : VR φ s s') (hx : VR φ x x') :
    Ran P φ σ w v σ' (Builtin.append_ ts ty #[s', x']) := by
  replace h := bnd_some h
  obtain ⟨st, hst, h⟩ := h
  replace h := bnd_some h
  obtain ⟨xt, hxt, h⟩ := h
  replace h := bnd_some h
  obtain ⟨xty, hxty, h⟩ := h
  replace h := bnd_some h
  obtain ⟨_, hg0, h⟩ := h
  replace h := bnd_some h
  obtain ⟨sty, hsty, h⟩ := h
  have ht0 : ts[0]? = some st := by
    have := ofOpt_some hst
    rwa [List.head?_eq_getElem?, Array.getElem?_toList] at this
  have ht1 : ts[1]? = some xt := by
    have := ofOpt_some hxt
    rwa [Array.getElem?_toList] at this
  have hxt' : (∃ d, P.underlying xt = some (.slice d)) ∨ P.underlying xt = some .string := by
    have u := (ty_ok hE hxty).und
    rcases isSlS_some (guardM_some hg0) with ⟨d, e⟩ | e
    · exact .inl ⟨d, e ▸ u⟩
    · exact .inr (e ▸ u)
  split at h
  · rename_i e hd
    have hst' : P.underlying st = some (.slice e) := hd ▸ (ty_ok hE hsty).und
    replace h := bnd_some h
    obtain ⟨ety, hety, h⟩ := h
    replace h := bnd_some h
    obtain ⟨_, hg1, h⟩ := h
    replace h := bnd_some h
    obtain ⟨n, hn, h⟩ := h
    replace h := bnd_some h
    obtain ⟨new, hnew, h⟩ := h
    replace h := bnd_some h
    obtain ⟨_, hg2, h⟩ := h
    replace h := bnd_some h
    obtain ⟨z, hz, h⟩ := h
    replace h := bnd_some h
    obtain ⟨_, hg3, h⟩ := h
    obtain ⟨i, hi, his, hib, hiz⟩ := (ty_ok hE hety).info
    have hzero : i.zero = some z := by rw [hiz]; exact ofOpt_some hz
    have hzl := Nat.eq_of_beq_eq_true (guardM_some hg3)
    have hb1 : i.bytes ≤ 1000 := by rw [hib]; exact Nat.le_of_ble_eq_true (guardM_some hg1)
    have hlen := fun w => aLenOf_ok (P := P) (w := w) hn hx
    have hdrew : SameBut w w.drew := ⟨rfl, rfl, rfl, rfl⟩
    have hrd := hr.same hdrew
    rw [← his] at hnew
    obtain ⟨new', hnl, hnr⟩ := aSrc_ok hr hnew hx
    obtain ⟨newd, hnld, hnrd⟩ := aSrc_ok hrd hnew hx
    have hnl0 := aSrc_len hnew (fun m e => by rw [hn] at e; injection e with e; omega)

    have anew : ∀ (base : Option Addr) (sLen cap : Nat) (old : List Value), s' = .slice base sLen cap → ¬ sLen + n ≤ cap → sLen + n ≤ 1000000 → aSrc σ i.size sLen s = some old → (∀ m, aLenOf s = some m → sLen ≤ m) →
        Ran P φ σ w (aSliceOver σ.next 0 (sLen + n) 0) (σ.new (.cells { cells := old ++ new, elem := e, frz := false })) (Builtin.append_ ts ty #[s', x']) := by
      intro base sLen cap old es hc hm hold hso
      subst es
      obtain ⟨old', hol, hor⟩ := aSrc_ok hrd hold hs
      have hol0 := aSrc_len hold hso
      have hlen2 : (old ++ new).length = (sLen + n) * ety.size := by rw [List.length_append, hnl0, hol0, his, Nat.add_mul]
      obtain ⟨φ', v', p1, p2, p3⟩ := grown_post hE hr hety (hol.append hnld) (rest := repCells z.cells.toList (grownCap w (sLen + n) cap e - (sLen + n))) hlen2 (by rw [repCells_len, hzl]) (grownCap_ge w (sLen + n) cap e)
      refine ⟨φ', v', _, p1, p3, ?_⟩
      rw [run_append_anew ht0 ht1 hst' hxt' hi (hlen w) hc hb1 hm hzero hor hnrd, p2, zeroCells_eq]
      simp
    split at h
    ·
      cases hs
      split at h
      · injection h with h; injection h with h1 h2; subst h1; subst h2
        exact Ran.quiet hr .sliceNil (run_append_nothing ht0 ht1 hst' hxt' hi (hlen w) hnr)
      · rename_i m
        replace h := bnd_some h
        obtain ⟨_, hg4, h⟩ := h
        injection h with h; injection h with h1 h2; subst h1; subst h2
        have := anew none 0 0 [] rfl (by omega) (by have := Nat.le_of_ble_eq_true (guardM_some hg4); omega) rfl (fun m _ => Nat.zero_le _)
        simpa using this
    · rename_i b o len c
      replace h := bnd_some h
      obtain ⟨_, hg4, h⟩ := h
      have hm := Nat.le_of_ble_eq_true (guardM_some hg4)
      cases hs with
      | slice hp hsn h0 h1 =>
      rename_i c' p
      split at h
      ·
        rename_i k
        have hk := h1 k rfl
        subst hk
        split at h
        · rename_i hroom
          have hroom' := Nat.le_of_ble_eq_true hroom
          replace h := bnd_some h
          obtain ⟨σ2, hst2, h⟩ := h
          injection h with h; injection h with h1 h2; subst h1; subst h2
          obtain ⟨w', s1, s2⟩ := aStoreCells_ok hst2 hr hp hnl
          refine ⟨φ, _, w', s2, .slice hp hroom' (fun e => by cases e) (fun k e => by injection e), run_append_stays ht0 ht1 hst' hxt' hi (hlen w) hnr hroom' ?_⟩
          rw [addr_add, his]; simpa using s1
        · rename_i hroom
          replace h := bnd_some h
          obtain ⟨old, hold, h⟩ := h
          injection h with h; injection h with h1 h2; subst h1; subst h2
          rw [← his] at hold
          exact anew _ len c' old rfl (fun e => by rw [Nat.ble_eq_true_of_le e] at hroom; cases hroom) hm hold (fun m e => by simp [aLenOf] at e; omega)
      · split at h
        · injection h with h; injection h with h1 h2; subst h1; subst h2
          have hw : new' = [] := List.eq_nil_of_length_eq_zero (by rw [← hnl.1, hnl0, Nat.zero_mul])
          subst hw
          refine Ran.quiet hr (.slice hp hsn h0 h1) ?_
          have := run_append_stays (ty := ty) ht0 ht1 hst' hxt' hi (hlen w) hnr (sLen := len) (cap := c') (by omega) (a := ⟨p.blk, o, none⟩) (w' := w) rfl
          simpa using this
        · split at h
          · replace h := bnd_some h
            obtain ⟨B, hB, h⟩ := h
            replace h := bnd_some h
            obtain ⟨_, hg5, h⟩ := h
            replace h := bnd_some h
            obtain ⟨_, hg6, h⟩ := h
            replace h := bnd_some h
            obtain ⟨old, hold, h⟩ := h
            injection h with h; injection h with h1 h2; subst h1; subst h2
            have hfr : B.frz = false := by simpa using guardM_some hg5
            have hel := Nat.eq_of_beq_eq_true (guardM_some hg6)
            have hBo := aCells_some hB
            have hol0 := aSrc_len hold (fun m e => by simp [aLenOf] at e; omega)
            by_cases hc : len + n ≤ c'
            · obtain ⟨cur, fr, g1, g2, g3, g4, g5⟩ := hr.obj b p _ hp hBo
              have hes : ety.size = p.es := by
                rw [hel, (ty_ok hE hety).size_] at g3
                injection g3
              have hfit := h0 rfl
              have hneed : len * ety.size + new'.length ≤ cur.size := by
                rw [← hnl.1, hnl0, his, ← Nat.add_mul, g2]
                have := Nat.mul_le_mul_right ety.size hc
                rw [← hes] at hfit
                omega
              obtain ⟨t, cur', d1, d2, d3⟩ := setCells_turned p.blk new' (len * ety.size) w cur B.elem fr g1 hneed
              have hst3 : (storeCells ⟨p.blk, len * ety.size, none⟩ new').run P w = .ok () (w.setCells p.blk (len * ety.size) new') := by
                have := run_storeCells_cells (P := P) p.blk (len * ety.size) new' 0 w (fun j hj => by
                  rw [Nat.add_zero, cell_of g1]
                  rw [Array.getElem?_eq_getElem (by omega)]; rfl) (fun j hj => by
                  rw [Nat.add_zero, frozen_of g1]
                  have := g5.1 hfr (len * ety.size + j) (by omega)
                  rw [Bool.and_eq_false_iff, decide_eq_false_iff_not, decide_eq_false_iff_not]
                  omega) (hnl.one (guardM_some hg2))
                simpa using this
              have hpost := hr.adopt (o := .cells { cells := old ++ new, elem := e, frz := false }) hp (by rw [hBo]; simp) t ⟨cur', fr, by rw [d1, hel], by omega, by rw [← hel]; exact g3, fun j v hj => by
                rw [d3 j]
                rcases Nat.lt_or_ge j old.length with hj1 | hj1
                · replace hj : (old ++ new)[j]? = some v := hj
                  rw [List.getElem?_append_left hj1] at hj
                  rw [if_neg (by omega)]
                  have := aSrc_cells hold hB j v hj
                  rw [Nat.zero_add] at this
                  exact g4 j v this
                · replace hj : (old ++ new)[j]? = some v := hj
                  rw [List.getElem?_append_right hj1] at hj
                  obtain ⟨v', k1, k2⟩ := hnl.at_ hj
                  have := (List.getElem?_eq_some_iff.1 k1).1
                  rw [if_pos (by omega), ← hol0]
                  exact ⟨v', k1, k2⟩, fun _ j hj => g5.1 hfr j (by omega), fun e => by cases e⟩
              refine ⟨_, _, _, hpost, .slice (Phi.upd_same _ _ _) hc (fun _ => hfit) (fun k e => by cases e), run_append_stays ht0 ht1 hst' hxt' hi (hlen w) hnr hc ?_⟩
              rw [addr_add, his, Nat.zero_add]; simpa using hst3
            · have hdrop := hr.drop hp
              obtain ⟨old', hol, hor⟩ := aSrc_ok hrd (his ▸ hold) (VR.slice hp hsn h0 h1)
              have hlen2 : (old ++ new).length = (len + n) * ety.size := by rw [List.length_append, hnl0, hol0, his, Nat.add_mul]
              obtain ⟨φ', v', p1, p2, p3⟩ := grown_post hE hdrop.rel hety (hol.append hnld) (rest := repCells z.cells.toList (grownCap w (len + n) c' e - (len + n))) hlen2 (by rw [repCells_len, hzl]) (grownCap_ge w (len + n) c' e)
              refine ⟨φ', v', _, hdrop.trans p1, p3, ?_⟩
              rw [run_append_anew ht0 ht1 hst' hxt' hi (hlen w) hc hb1 hm hzero hor hnrd, p2, zeroCells_eq]
              simp
          · exact (fail_some h).elim
    · exact (fail_some h).elim
  · exact (fail_some h).elim
end
end Go.Proofs.Qas
namespace Go.Proofs.Qas

theorem freeze_turned {w : World} {c o n : Nat} {cur : Array Value} {e : TypeId} {fr : Nat × Nat} (h : w.heap[c]? = some (.cells cur e fr)) :
    Turned c w (w.freeze ⟨c, o, none⟩ n) ∧ ∃ fr', (w.freeze ⟨c, o, none⟩ n).heap[c]? = some (.cells cur e fr') := by
  unfold World.freeze
  split
  · exact ⟨Turned.refl _ _, fr, h⟩
  · refine ⟨⟨rfl, rfl, rfl, by simp, fun i hi => ?_⟩, ?_⟩
    · rw [Array.getElem?_modify, if_neg (fun e => hi e.symm)]
    · simp only [Array.getElem?_modify, if_pos, h, Option.map_some]
      exact ⟨_, rfl⟩

section
variable {P : Program} {E : Env} (hE : Env.Ok P E)
include hE
theorem aCopy_ok {φ : Phi} {σ σ' : AW} {w : World} (hr : Rel P φ σ w) {ts : Array TypeId} {ty : TypeId} {d d' x x' v : Value} (h : aCopy E σ ts.toList d x = some (v, σ')) (hd : VR φ d d') (hx : VR φ x x') :
    Ran P φ σ w v σ' (Builtin.copy_ ts ty #[d', x']) := by
  replace h := bnd_some h
  obtain ⟨dt, hdt, h⟩ := h
  replace h := bnd_some h
  obtain ⟨dty, hdty, h⟩ := h
  have ht0 : ts[0]? = some dt := by
    have := ofOpt_some hdt
    rwa [List.head?_eq_getElem?, Array.getElem?_toList] at this
  split at h
  · rename_i e he
    have hdt' : P.underlying dt = some (.slice e) := he ▸ (ty_ok hE hdty).und
    replace h := bnd_some h
    obtain ⟨ety, hety, h⟩ := h
    replace h := bnd_some h
    obtain ⟨dn, hdn, h⟩ := h
    replace h := bnd_some h
    obtain ⟨xn, hxn, h⟩ := h
    replace h := bnd_some h
    obtain ⟨new, hnew, h⟩ := h
    have h2 := aLenOf_ok (P := P) (w := w) hxn hx
    obtain ⟨new', hnl, hnr⟩ := aSrc_ok hr hnew hx
    have hsz := (ty_ok hE hety).run_size w
    split at h
    · injection h with h; injection h with h1 h2; subst h1; subst h2
      simp [aLenOf] at hdn; subst hdn
      cases hd
      refine Ran.quiet hr (.int _ _) ?_
      simp only [Builtin.copy_, ht0, Sem.run_bind, underlying, run_program, hdt', Result.andThen_ok, Sem.run_pure, h2, hsz, hnr, List.getElem?_toArray, List.getElem?_cons_zero, List.getElem?_cons_succ, goInt]
      rfl
    · rename_i b o _ _
      replace h := bnd_some h
      obtain ⟨σ2, hst, h⟩ := h
      injection h with h; injection h with h1 h2; subst h1; subst h2
      simp [aLenOf] at hdn; subst hdn
      cases hd with
      | slice hp hsn h0 h1 =>
      obtain ⟨w', s1, s2⟩ := aStoreCells_ok hst hr hp hnl
      refine ⟨φ, _, w', s2, .int _ _, ?_⟩
      simp only [Builtin.copy_, ht0, Sem.run_bind, underlying, run_program, hdt', Result.andThen_ok, Sem.run_pure, h2, hsz, hnr, List.getElem?_toArray, List.getElem?_cons_zero, List.getElem?_cons_succ, s1, goInt]
      rfl
    · exact (fail_some h).elim
  · exact (fail_some h).elim
theorem aLen_ok {φ : Phi} {σ : AW} {w : World} (hr : Rel P φ σ w) {ts : Array TypeId} {ty t : TypeId} {x x' v : Value} (ht : ts.toList.head? = some t) (h : aLen E σ t x = some v) (hx : VR φ x x') :
    VR φ v v ∧ (Builtin.len_ ts ty #[x']).run P w = .ok v w := by
  have ht0 : ts[0]? = some t := by rwa [List.head?_eq_getElem?, Array.getElem?_toList] at ht
  replace h := bnd_some h
  obtain ⟨d, hd, h⟩ := h
  have hu := (ty_ok hE hd).und
  split at h
  · rename_i e
    injection h with h; subst h
    cases hx
    exact ⟨.int _ _, by simp [Builtin.len_, ht0, underlying, hu, e, goInt]⟩
  · rename_i e
    injection h with h; subst h
    cases hx <;> exact ⟨.int _ _, by simp [Builtin.len_, ht0, underlying, hu, e, goInt]⟩
  · rename_i e
    injection h with h; subst h
    exact ⟨.int _ _, by cases x' <;> simp [Builtin.len_, ht0, underlying, hu, e, goInt]⟩
  · rename_i a e
    replace h := bnd_some h
    obtain ⟨ad, had, h⟩ := h
    have hau := (ty_ok hE had).und
    split at h
    · rename_i e2
      injection h with h; subst h
      exact ⟨.int _ _, by cases x' <;> simp [Builtin.len_, ht0, underlying, hu, e, goInt, hau, e2]⟩
    · exact (fail_some h).elim
  · rename_i e
    replace h := bnd_some h
    obtain ⟨es, hes, h⟩ := h
    injection h with h; subst h
    rcases aMapOf_ok hr hes hx with ⟨rfl, rfl⟩ | ⟨r, es', c, rfl, h1, h2⟩
    · exact ⟨.int _ _, by simp [Builtin.len_, ht0, underlying, hu, e, goInt]⟩
    · have := h2.length
      exact ⟨.int _ _, by simp [Builtin.len_, ht0, underlying, hu, e, goInt, MapKept.run_getObj_map h1, this]⟩
  · exact (fail_some h).elim
theorem aCap_ok {φ : Phi} {w : World} {ts : Array TypeId} {ty t : TypeId} {x x' v : Value} (ht : ts.toList.head? = some t) (h : aCap E t x = some v) (hx : VR φ x x') :
    VR φ v v ∧ (Builtin.cap_ ts ty #[x']).run P w = .ok v w := by
  have ht0 : ts[0]? = some t := by rwa [List.head?_eq_getElem?, Array.getElem?_toList] at ht
  replace h := bnd_some h
  obtain ⟨d, hd, h⟩ := h
  have hu := (ty_ok hE hd).und
  split at h
  · rename_i e
    injection h with h; subst h
    cases hx
    exact ⟨.int _ _, by simp [Builtin.cap_, ht0, underlying, hu, e, goInt]⟩
  · rename_i e
    injection h with h; subst h
    cases hx with
    | slice hp hn h0 h1 =>
    have := h1 _ rfl
    subst this
    exact ⟨.int _ _, by simp [Builtin.cap_, ht0, underlying, hu, e, goInt]⟩
  · exact (fail_some h).elim
omit hE in
theorem aMin_ok {φ : Phi} : ∀ (r r' : List Value) (x x' v : Value), foldM' aMin2 x r = some v → VR φ x x' → LR φ r r' → ∃ v', VR φ v v' ∧ ∀ w, (r'.foldlM Builtin.min2 x').run P w = .ok v' w
  | [], r', x, x', v, h, hx, hl => by
    have : r' = [] := List.eq_nil_of_length_eq_zero hl.1.symm
    subst this
    simp [foldM'] at h; subst h
    exact ⟨x', hx, fun w => rfl⟩
  | y :: r, [], x, x', v, h, hx, hl => by have := hl.1; simp at this
  | y :: r, y' :: r', x, x', v, h, hx, hl => by
    replace h := bnd_some h
    obtain ⟨z, hz, h⟩ := h
    unfold aMin2 at hz
    split at hz
    · rename_i k a _ b
      injection hz with hz; subst hz
      cases hx
      have hy := hl.uncons.1
      cases hy
      obtain ⟨v', h1, h2⟩ := aMin_ok r r' _ _ v h (.int _ _) hl.uncons.2
      refine ⟨v', h1, fun w => ?_⟩
      rw [List.foldlM_cons, Sem.run_bind]
      simp only [Builtin.min2, Sem.run_pure, Result.andThen_ok]
      rw [← h2 w, ilt_eq]
      by_cases hh : b < a
      · simp [hh]
      · simp [hh]
    · exact (fail_some hz).elim
omit hE in
theorem aMax_ok {φ : Phi} : ∀ (r r' : List Value) (x x' v : Value), foldM' aMax2 x r = some v → VR φ x x' → LR φ r r' → ∃ v', VR φ v v' ∧ ∀ w, (r'.foldlM Builtin.max2 x').run P w = .ok v' w
  | [], r', x, x', v, h, hx, hl => by
    have : r' = [] := List.eq_nil_of_length_eq_zero hl.1.symm
    subst this
    simp [foldM'] at h; subst h
    exact ⟨x', hx, fun w => rfl⟩
  | y :: r, [], x, x', v, h, hx, hl => by have := hl.1; simp at this
  | y :: r, y' :: r', x, x', v, h, hx, hl => by
    replace h := bnd_some h
    obtain ⟨z, hz, h⟩ := h
    unfold aMax2 at hz
    split at hz
    · rename_i k a _ b
      injection hz with hz; subst hz
      cases hx
      have hy := hl.uncons.1
      cases hy
      obtain ⟨v', h1, h2⟩ := aMax_ok r r' _ _ v h (.int _ _) hl.uncons.2
      refine ⟨v', h1, fun w => ?_⟩
      rw [List.foldlM_cons, Sem.run_bind]
      simp only [Builtin.max2, Sem.run_pure, Result.andThen_ok]
      rw [← h2 w, ilt_eq]
      by_cases hh : a < b
      · simp [hh]
      · simp [hh]
    · exact (fail_some hz).elim
omit hE in
theorem bytesOf_ok {φ : Phi} : ∀ (l l' : List Value) (s : List UInt8), bytesOf l = some s → LR φ l l' → l' = s.map fun b => Value.int .u8 (b.toNat : Int)
  | [], l', s, h, hl => by
    have : l' = [] := List.eq_nil_of_length_eq_zero hl.1.symm
    subst this
    simp [bytesOf] at h; subst h; rfl
  | x :: l, [], s, h, hl => by have := hl.1; simp at this
  | x :: l, x' :: l', s, h, hl => by
    unfold bytesOf at h
    split at h
    · rename_i e; cases e
    · rename_i n r e
      cases e
      replace h := bnd_some h
      obtain ⟨k, hk, h⟩ := h
      replace h := bnd_some h
      obtain ⟨_, hg, h⟩ := h
      replace h := bnd_some h
      obtain ⟨t, ht, h⟩ := h
      injection h with h; subst h
      have hx := hl.uncons.1
      cases hx
      have hk' := blt_iff.1 (guardM_some hg)
      rw [bytesOf_ok l l' t ht hl.uncons.2, toN_some hk]
      have : (UInt8.ofNat k).toNat = k := by simp; omega
      simp [this]
    · exact (fail_some h).elim
omit hE in
theorem bytesOf_len {l : List Value} {s : List UInt8} {φ : Phi} {l' : List Value} (h : bytesOf l = some s) (hl : LR φ l l') : s.length = l.length := by
  have := bytesOf_ok l l' s h hl
  rw [hl.1, this]; simp
theorem aUnsafeString_ok {φ : Phi} {σ σ' : AW} {w : World} (hr : Rel P φ σ w) {ts : Array TypeId} {ty : TypeId} {p p' n n' v : Value} (h : aUnsafeString E σ ts.toList p n = some (v, σ')) (hp : VR φ p p') (hn : VR φ n n') :
    Ran P φ σ w v σ' (Builtin.unsafeString_ ts ty #[p', n']) := by
  unfold aUnsafeString at h
  split at h
  · rename_i pt it b k ets
    have ets' : ts = #[pt, it] := Array.ext' ets
    subst ets'
    cases hn
    cases hp with
    | ptr hp =>
    rename_i q
    replace h := bnd_some h
    obtain ⟨m, hm, h⟩ := h
    have := toN_some hm
    subst this
    split at h
    · exact (fail_some h).elim
    · rename_i m
      replace h := bnd_some h
      obtain ⟨pty, hpty, h⟩ := h
      split at h
      · rename_i e he
        replace h := bnd_some h
        obtain ⟨ety, hety, h⟩ := h
        replace h := bnd_some h
        obtain ⟨_, hg1, h⟩ := h
        replace h := bnd_some h
        obtain ⟨B, hB, h⟩ := h
        replace h := bnd_some h
        obtain ⟨_, hg2, h⟩ := h
        replace h := bnd_some h
        obtain ⟨s, hs, h⟩ := h
        injection h with h; injection h with h1 h2; subst h1; subst h2
        have hg1' := guardM_some hg1
        have hg2' := guardM_some hg2
        rw [Bool.and_eq_true] at hg1' hg2'
        have hsz := Nat.eq_of_beq_eq_true hg1'.1
        have hmm := Nat.le_of_ble_eq_true hg1'.2
        have hel := Nat.eq_of_beq_eq_true hg2'.1
        have hfit := Nat.le_of_ble_eq_true hg2'.2
        obtain ⟨cur, fr, g1, g2, g3, g4, g5⟩ := hr.obj b q _ hp (aCells_some hB)
        have hcur : ∀ j, j < m + 1 → ∃ v', cur[j]? = some v' ∧ ∀ u, (B.cells.take (m + 1))[j]? = some u → VR φ u v' := by
          intro j hj
          obtain ⟨v', e1, e2⟩ := g4 j _ (List.getElem?_eq_getElem (by omega))
          refine ⟨v', e1, fun u hu => ?_⟩
          rw [List.getElem?_take, if_pos hj, List.getElem?_eq_getElem (by omega)] at hu
          injection hu with hu; subst hu; exact e2
        have hLR : LR φ (B.cells.take (m + 1)) (cur.toList.take (m + 1)) := by
          have hc1 : m + 1 ≤ cur.size := by
            obtain ⟨v', e1, _⟩ := hcur m (by omega)
            have := (Array.getElem?_eq_some_iff.1 e1).1; omega
          refine ⟨by simp; omega, fun j u u' hu hu' => ?_⟩
          have hj : j < m + 1 := by
            rcases Nat.lt_or_ge j (m + 1) with hj | hj
            · exact hj
            · rw [List.getElem?_take, if_neg (by omega)] at hu; cases hu
          obtain ⟨v', e1, e2⟩ := hcur j hj
          rw [List.getElem?_take, if_pos hj, Array.getElem?_toList, e1] at hu'
          injection hu' with hu'; subst hu'
          exact e2 u hu
        have hb := bytesOf_ok _ _ s hs hLR
        have hsl : s.length = m + 1 := by
          have := bytesOf_len hs hLR
          rw [this, List.length_take]; omega
        obtain ⟨t, fr', f1⟩ := freeze_turned (o := 0) (n := m + 1) g1
        have run := Lib.run_unsafeString_row (P := P) w pt it ty e (by rw [(ty_ok hE hpty).und, he]) (by rw [Program.cellsOf, (ty_ok hE hety).size_, hsz]; rfl) q.blk cur.size (by simp [World.shape?, g1, hel]) s (by intro e0; rw [e0] at hsl; simp at hsl)
          (by rw [hsl]; obtain ⟨v', e1, _⟩ := hcur m (by omega); have := (Array.getElem?_eq_some_iff.1 e1).1; omega) (by omega) (fun j x hj => by
            rw [addr_add, cell_of g1, Nat.zero_add]
            have hj1 : j < m + 1 := by rw [← hsl]; exact (List.getElem?_eq_some_iff.1 hj).1
            have := congrArg (fun l : List Value => l[j]?) hb
            simp only [List.getElem?_take, if_pos hj1, Array.getElem?_toList, List.getElem?_map, hj, Option.map_some] at this
            exact this)
        rw [hsl] at run
        refine ⟨φ, _, _, hr.turn hp (by rw [aCells_some hB]; simp) t ⟨cur, fr', f1, g2, g3, g4, (fun e => by cases e), g5.2⟩, .str _, run⟩
      · exact (fail_some h).elim
  · exact (fail_some h).elim
end
end Go.Proofs.Qas
namespace Go.Proofs.Qas

theorem runesOf_ok {φ : Phi} : ∀ (l l' : List Value) (s : List UInt8), runesOf l = some s → LR φ l l' → ∃ ns : List Nat, s = ns.map UInt8.ofNat ∧ (∀ n ∈ ns, n < 128) ∧ l' = ns.map fun n : Nat => Value.int .i32 (n : Int)
  | [], l', s, h, hl => by
    have : l' = [] := List.eq_nil_of_length_eq_zero hl.1.symm
    subst this
    simp [runesOf] at h; subst h; exact ⟨[], rfl, by simp, rfl⟩
  | x :: l, [], s, h, hl => by have := hl.1; simp at this
  | x :: l, x' :: l', s, h, hl => by
    unfold runesOf at h
    split at h
    · rename_i e; cases e
    · rename_i n r e
      cases e
      replace h := bnd_some h
      obtain ⟨k, hk, h⟩ := h
      replace h := bnd_some h
      obtain ⟨_, hg, h⟩ := h
      replace h := bnd_some h
      obtain ⟨t, ht, h⟩ := h
      injection h with h; subst h
      have hx := hl.uncons.1
      cases hx
      have hk' := blt_iff.1 (guardM_some hg)
      obtain ⟨ns, h1, h2, h3⟩ := runesOf_ok l l' t ht hl.uncons.2
      subst h1; subst h3
      rw [toN_some hk]
      exact ⟨k :: ns, rfl, by intro n hn; rcases List.mem_cons.1 hn with e | e; · rw [e]; exact hk'
                              · exact h2 n e, rfl⟩
    · exact (fail_some h).elim
theorem run_forIn_runes {P : Program} {w : World} (f : Value → ByteArray → Sem (ForInStep ByteArray))
    (hf : ∀ (n : Nat) (r : ByteArray), n < 128 → (f (.int .i32 (n : Int)) r).run P w = .ok (.yield (r.push (UInt8.ofNat n))) w) :
    ∀ (ns : List Nat) (s : ByteArray), (∀ n ∈ ns, n < 128) → (forIn (ns.map fun n : Nat => Value.int .i32 (n : Int)) s f).run P w = .ok (ns.foldl (fun r n => r.push (UInt8.ofNat n)) s) w := by
  intro ns
  induction ns with
  | nil => intro s _; simp [Sem.run_pure]
  | cons n ns ih =>
    intro s h
    simp only [List.map_cons, List.forIn_cons, Sem.run_bind, hf n _ (h n (by simp)), Result.andThen, List.foldl_cons]
    exact ih _ (fun m hm => h m (by simp [hm]))
theorem foldl_push_nats : ∀ (ns : List Nat) (s : ByteArray), ns.foldl (fun r n => r.push (UInt8.ofNat n)) s = ⟨s.data ++ (ns.map UInt8.ofNat).toArray⟩
  | [], s => by simp
  | n :: ns, s => by
    rw [List.foldl_cons, foldl_push_nats ns]
    apply ByteArray.ext
    apply Array.ext'
    simp [ByteArray.push]
theorem encode_ascii {n : Nat} (h : n < 128) : Utf8.encode (n : Int) = ⟨#[UInt8.ofNat n]⟩ := by
  have hv : Utf8.valid (n : Int) = true := by simp [Utf8.valid]; omega
  simp [Utf8.encode, hv, h]

theorem Post.obj_congr {P : Program} {φ φ' : Phi} {σ σ1 σ2 : AW} {w w' : World} (h : Post P φ σ w φ' σ1 w') (hn : σ2.next = σ1.next) (ho : ∀ b, σ2.obj b = σ1.obj b) : Post P φ σ w φ' σ2 w' := {
  rel := ⟨fun b p e => by rw [hn]; exact h.rel.lt b p e, fun b1 b2 p1 p2 e1 e2 l1 l2 e => h.rel.inj b1 b2 p1 p2 e1 e2 (by rw [← ho]; exact l1) (by rw [← ho]; exact l2) e, fun b p o e eo => h.rel.obj b p o e (by rw [← ho]; exact eo)⟩
  ext := h.ext
  grow := h.grow
  keep := h.keep
  next := by rw [hn]; exact h.next
  aframe := fun b hb e => by rw [ho]; exact h.aframe b hb e }

section
variable {P : Program} {E : Env} (hE : Env.Ok P E)
include hE
omit hE in

theorem part_row {φ : Phi} {w : World} {q : PB} {B : Blk} {o n : Nat} (h : CellsOk P φ w q B) (hfit : o + n ≤ B.cells.length) :
    ∃ l' : List Value, LR φ ((B.cells.drop o).take n) l' ∧ l'.length = n ∧ ∀ j v, l'[j]? = some v → w.cell? ((⟨q.blk, o, none⟩ : Addr).add j) = some v := by
  obtain ⟨cur, fr, g1, g2, g3, g4, g5⟩ := h
  have hcur : ∀ j, j < n → ∃ v', cur[o + j]? = some v' ∧ ∀ u, ((B.cells.drop o).take n)[j]? = some u → VR φ u v' := by
    intro j hj
    obtain ⟨v', e1, e2⟩ := g4 (o + j) _ (List.getElem?_eq_getElem (by omega))
    refine ⟨v', e1, fun u hu => ?_⟩
    rw [List.getElem?_take, if_pos hj, List.getElem?_drop, List.getElem?_eq_getElem (by omega)] at hu
    injection hu with hu; subst hu; exact e2
  have hl : ((B.cells.drop o).take n).length = n := by simp; omega
  refine ⟨(List.range n).map fun j => (cur[o + j]?).getD undef, ⟨by rw [hl]; simp, fun j u u' hu hu' => ?_⟩, by simp, fun j v hj => ?_⟩
  · have hj : j < n := by rw [← hl]; exact (List.getElem?_eq_some_iff.1 hu).1
    obtain ⟨v', e1, e2⟩ := hcur j hj
    rw [List.getElem?_map, List.getElem?_range hj] at hu'
    simp [e1] at hu'; subst hu'
    exact e2 u hu
  · have hj' : j < n := by
      have := (List.getElem?_eq_some_iff.1 hj).1
      simpa using this
    obtain ⟨v', e1, e2⟩ := hcur j hj'
    rw [List.getElem?_map, List.getElem?_range hj'] at hj
    simp [e1] at hj; subst hj
    rw [addr_add, cell_of g1, e1]
theorem aConvert_ok {φ : Phi} {σ σ' : AW} {w : World} (hr : Rel P φ σ w) {src dst : TypeId} {x x' v : Value} (h : aConvert E σ src dst x = some (v, σ')) (hx : VR φ x x') :
    Ran P φ σ w v σ' (convert src dst x') := by
  replace h := bnd_some h
  obtain ⟨s, hs, h⟩ := h
  replace h := bnd_some h
  obtain ⟨d, hd, h⟩ := h
  have us := (ty_ok hE hs).run_und w
  have ud := (ty_ok hE hd).run_und w
  split at h
  · rename_i e1 e2
    injection h with h; injection h with h1 h2; subst h1; subst h2
    cases hx
    refine Ran.quiet hr (.int _ _) ?_
    simp [convert, us, ud, e1, e2, Conv.intToInt, fwrap_eq]
  · rename_i e1 e2
    injection h with h; injection h with h1 h2; subst h1; subst h2
    cases hx
    refine Ran.quiet hr (.str _) ?_
    simp [convert, us, ud, e1, e2]
  · rename_i e str e1 e2
    replace h := bnd_some h
    obtain ⟨ety, hety, h⟩ := h
    have ue := (ty_ok hE hety).run_und w
    split at h
    · rename_i e3
      split at h
      · rename_i hsz
        have hsz' := Nat.eq_of_beq_eq_true hsz
        injection h with h; injection h with h1 h2; subst h1; subst h2
        cases hx
        have hc := grownCap_ge w str.size 0 e
        let cur : Array Value := (str.data.map fun b => Value.int .u8 b.toNat) ++ Array.replicate (grownCap w str.size 0 e - str.size) (.int .u8 0)
        have hcs : cur.size = grownCap w str.size 0 e := by
          have : str.data.size = str.size := rfl
          simp [cur, this]; omega
        let w1 : World := { w.drew with heap := w.heap.push (.cells cur e) }
        have hget : w1.heap[w.heap.size]? = some (.cells cur e) := by simp [w1]
        obtain ⟨t, fr', f1⟩ := freeze_turned (o := cur.size) (n := 1) hget
        have hcells : ∀ (i : Nat) (v : Value), (str.data.toList.map fun b => Value.int .u8 (.ofNat b.toNat))[i]? = some v → ∃ v', cur[i]? = some v' ∧ VR φ v v' := by
          intro i v hv
          have hi : i < str.data.size := by
            have := (List.getElem?_eq_some_iff.1 hv).1
            simpa using this
          refine ⟨v, ?_, ?_⟩
          · rw [Array.getElem?_append_left (by simpa using hi)]
            rw [List.getElem?_map, Array.getElem?_toList] at hv
            rw [Array.getElem?_map]
            exact hv
          · simp only [List.getElem?_map, Option.map_eq_some_iff] at hv
            obtain ⟨y, _, rfl⟩ := hv
            exact .int _ _
        have hp1 := newRow_post hE hr hety _ cur true (0, 0) hcells (fun e => by cases e) (w' := w1) ⟨rfl, rfl, rfl, rfl⟩ rfl
        have hp2 := hp1.rel.turn (b := σ.next) (Phi.upd_same _ _ _) (o := .cells { cells := str.data.toList.map fun b => Value.int .u8 (.ofNat b.toNat), elem := e, frz := true }) (by rw [AW.obj_new, if_pos rfl]; simp) t
          ⟨cur, fr', f1, rfl, (ty_ok hE hety).size_, fun i v hv => let ⟨v', a, b⟩ := hcells i v hv; ⟨v', a, b.ext (Phi.upd_ext _ (hr.none_next (Nat.le_refl _)))⟩, (fun e => by cases e), fun e => by cases e⟩
        refine ⟨_, .slice (some ⟨w.heap.size, 0, none⟩) str.size (grownCap w str.size 0 e), _, (hp1.trans hp2).obj_congr (σ2 := σ.new _) rfl (fun b => by rw [AW.obj_put, AW.obj_new]; by_cases hb : b = σ.next <;> simp [hb]), ?_, ?_⟩
        · refine .slice (Phi.upd_same _ _ _) hc (fun _ => ?_) (fun k e => by cases e)
          show 0 + grownCap w str.size 0 e * ety.size ≤ cur.size
          rw [hcs, hsz']; omega
        · simp only [convert, Sem.run_bind, us, ud, e1, e2, ue, e3, Result.andThen_ok, Conv.stringToBytes, run_choose, Question.forced, newRow, run_newObj, markStringish, run_shape, Bool.false_eq_true, ↓reduceIte]
          have hsh : w1.shape? w.heap.size = some (e, cur.size) := by simp [World.shape?, hget]
          simp only [Sem.run_pure, Result.andThen_ok]
          change (Sem.run P (match w1.shape? w.heap.size with | some (_, n) => freeze { block := w.heap.size, off := n } 1 | _ => pure ()) w1).andThen _ = _
          rw [hsh]
          rfl
      · exact (fail_some h).elim
    · exact (fail_some h).elim
  · rename_i e e1 e2
    replace h := bnd_some h
    obtain ⟨ety, hety, h⟩ := h
    have ue := (ty_ok hE hety).run_und w
    split at h
    · rename_i e3
      injection h with h; injection h with h1 h2; subst h1; subst h2
      cases hx
      refine Ran.quiet hr (.str _) ?_
      simp [convert, us, ud, e1, e2, ue, e3, Conv.bytesToString]
      rfl
    · exact (fail_some h).elim
  · rename_i e b o n c e1 e2
    replace h := bnd_some h
    obtain ⟨ety, hety, h⟩ := h
    have ue := (ty_ok hE hety).run_und w
    cases hx with
    | slice hp hn h0 h1 =>
    rename_i c' q
    split at h
    · rename_i e3
      replace h := bnd_some h
      obtain ⟨B, hB, h⟩ := h
      replace h := bnd_some h
      obtain ⟨_, hg, h⟩ := h
      replace h := bnd_some h
      obtain ⟨bs, hbs, h⟩ := h
      injection h with h; injection h with h1 h2; subst h1; subst h2
      obtain ⟨l', hl, hll, hcell⟩ := part_row (hr.obj b q _ hp (aCells_some hB)) (Nat.le_of_ble_eq_true (guardM_some hg))
      have hb := bytesOf_ok _ _ _ hbs hl
      have hload := run_loadCells_list (P := P) w ⟨q.blk, o, none⟩ l' hcell
      rw [hll, hb] at hload
      refine Ran.quiet hr (.str _) ?_
      have e4 : (bs.map fun b => Value.int .u8 (b.toNat : Int)) = (bs.map fun b => (b.toNat : Int)).map (Value.int .u8) := by simp
      rw [e4] at hload
      rw [run_convert_bytes_string w src dst e _ _ _ (by rw [(ty_ok hE hs).und, e1]) (by rw [(ty_ok hE hety).und, e3]) (by rw [(ty_ok hE hd).und, e2]), run_bytesToString w _ _ _ _ hload, foldl_push_bytes]
      congr 2
      apply ByteArray.ext
      apply Array.ext'
      have : ∀ x : UInt8, UInt8.ofNat x.toNat = x := fun x => by simp
      simp [this, Function.comp_def]
    · rename_i e3
      replace h := bnd_some h
      obtain ⟨B, hB, h⟩ := h
      replace h := bnd_some h
      obtain ⟨_, hg, h⟩ := h
      replace h := bnd_some h
      obtain ⟨bs, hbs, h⟩ := h
      injection h with h; injection h with h1 h2; subst h1; subst h2
      obtain ⟨l', hl, hll, hcell⟩ := part_row (hr.obj b q _ hp (aCells_some hB)) (Nat.le_of_ble_eq_true (guardM_some hg))
      obtain ⟨ns, hb1, hb2, hb3⟩ := runesOf_ok _ _ _ hbs hl
      have hload := run_loadCells_list (P := P) w ⟨q.blk, o, none⟩ l' hcell
      rw [hll, hb3] at hload
      refine Ran.quiet hr (.str _) ?_
      subst hb1
      simp only [convert, Sem.run_bind, us, ud, e1, e2, ue, e3, Result.andThen_ok, Conv.runesToString, hload, List.forIn_toArray]
      rw [run_forIn_runes _ (fun n r hn => by simp [encode_ascii hn, ByteArray.push]; apply ByteArray.ext; apply Array.ext'; simp) ns _ hb2, foldl_push_nats]
      simp
    · exact (fail_some h).elim
  · exact (fail_some h).elim
end
end Go.Proofs.Qas
namespace Go.Proofs.Qas

theorem EL.filter {φ : Phi} (g : Nat → Bool) : ∀ (es : List AEnt) (es' : List MapEntry), EL φ es es' → EL φ (es.filter fun e => g e.born) (es'.filter fun e => g e.born) := by
  refine EL.rec_ ?_ ?_
  · exact EL.nil _
  · intro e es e' es' h1 h2 h3 h4 ih
    simp only [List.filter_cons, h3]
    split
    · exact EL.cons h1 h2 h3 ih
    · exact ih
theorem EL.all {φ : Phi} (g : Nat → Bool) : ∀ (es : List AEnt) (es' : List MapEntry), EL φ es es' → (es'.all fun e => g e.born) = es.all fun e => g e.born := by
  refine EL.rec_ ?_ ?_
  · rfl
  · intro e es e' es' h1 h2 h3 h4 ih
    simp only [List.all_cons, h3, ih]
theorem EL.find {φ : Phi} (g : Nat → Bool) : ∀ (es : List AEnt) (es' : List MapEntry), EL φ es es' → ∀ e, es.find? (fun e => g e.born) = some e → ∃ e', es'.find? (fun e => g e.born) = some e' ∧ VR φ e.key e'.key ∧ VR φ e.val e'.val := by
  refine EL.rec_ ?_ ?_
  · intro e h; simp at h
  · intro e es e' es' h1 h2 h3 h4 ih x hx
    rw [List.find?_cons] at hx
    rw [List.find?_cons, ← h3]
    split at hx
    · rename_i hg; injection hx with hx; subst hx; exact ⟨e', rfl, h1, h2⟩
    · exact ih x hx

section
variable {P : Program} {E : Env} (hE : Env.Ok P E)
include hE
omit hE in
theorem iter_post {φ : Phi} {σ : AW} {w : World} (hr : Rel P φ σ w) (o : AObj) (O : Obj) (h : OR P (φ.upd σ.next ⟨w.heap.size, 0, 0⟩) { w with heap := w.heap.push O } ⟨w.heap.size, 0, 0⟩ o) :
    ∃ φ' v', Post P φ σ w φ' (σ.new o) { w with heap := w.heap.push O } ∧ v' = Value.pointer (some ⟨w.heap.size, 0, none⟩) ∧ VR φ' (.pointer (some ⟨σ.next, 0, none⟩)) v' :=
  ⟨φ.upd σ.next ⟨w.heap.size, 0, 0⟩, _, hr.alloc (w' := { w with heap := w.heap.push O }) ⟨rfl, rfl, rfl, rfl⟩ rfl _ rfl h, rfl, VR.ptr (p := ⟨w.heap.size, 0, 0⟩) (Phi.upd_same _ _ _)⟩
theorem aRange_ok {φ : Phi} {σ σ' : AW} {w : World} (hr : Rel P φ σ w) {t : TypeId} {x x' v : Value} (h : aRange E σ t x = some (v, σ')) (hx : VR φ x x') :
    Ran P φ σ w v σ' (Instr.range t x') := by
  replace h := bnd_some h
  obtain ⟨ty, hty, h⟩ := h
  have hu := (ty_ok hE hty).run_und w
  split at h
  · rename_i e
    injection h with h; injection h with h1 h2; subst h1; subst h2
    cases hx
    rename_i s
    obtain ⟨φ', v', p1, p2, p3⟩ := iter_post hr (.iter s 0) (.stringIter s 0) (by simp [OR])
    exact ⟨φ', v', _, p1, p3, by simp [Instr.range, hu, e, p2]⟩
  · rename_i e
    injection h with h; injection h with h1 h2; subst h1; subst h2
    cases hx
    obtain ⟨φ', v', p1, p2, p3⟩ := iter_post hr (.miter none 0 [] 0) (.mapIter none 0 #[] 0) (by simp [OR])
    exact ⟨φ', v', _, p1, p3, by simp [Instr.range, hu, e, p2]⟩
  · rename_i m e
    cases hx with
    | map hp =>
    rename_i q
    split at h
    · rename_i es clock ho
      injection h with h; injection h with h1 h2; subst h1; subst h2
      obtain ⟨es', g1, g2⟩ := hr.obj _ _ _ hp ho
      obtain ⟨φ', v', p1, p2, p3⟩ := iter_post hr (.miter (some m) clock [] clock) (.mapIter (some q.blk) clock #[] clock) ⟨q, Phi.upd_ext _ (hr.none_next (Nat.le_refl _)) _ _ hp, by simp⟩
      exact ⟨φ', v', _, p1, p3, by simp [Instr.range, hu, e, p2, MapKept.run_getObj_map g1]⟩
    · exact (fail_some h).elim
  · exact (fail_some h).elim
omit hE in
theorem set_turned {w : World} {c : Nat} (O : Obj) : Turned c w { w with heap := w.heap.setIfInBounds c O } :=
  ⟨rfl, rfl, rfl, by simp, fun i hi => by simp [Array.getElem?_setIfInBounds_ne (fun e => hi e.symm)]⟩
omit hE in
theorem T2 {φ : Phi} {b : Bool} {x y x' y' : Value} (hx : VR φ x x') (hy : VR φ y y') : VR φ (.tuple #[.bool b, x, y]) (.tuple #[.bool b, x', y']) :=
  (LR.cons (.bool b) (LR.cons hx (LR.cons hy (LR.nil φ)))).tuple
omit hE in
theorem T0 {φ : Phi} {b : Bool} : VR φ (.tuple #[.bool b]) (.tuple #[.bool b]) := (LR.cons (.bool b) (LR.nil φ)).tuple
omit hE in
theorem aNext_ok {φ : Phi} {σ σ' : AW} {w : World} (hr : Rel P φ σ w) {ty : TypeId} {isString : Bool} {x x' v : Value} (h : aNext σ x isString = some (v, σ')) (hx : VR φ x x') :
    Ran P φ σ w v σ' (Instr.next x' isString ty) := by
  unfold aNext at h
  split at h
  · rename_i b
    cases hx with
    | ptr hp =>
    rename_i p
    have hlt := (hr.lt _ _ hp).2
    split at h
    · rename_i s pos ho
      have hb : w.heap[p.blk]? = some (.stringIter s pos) := hr.obj _ _ _ hp ho
      have hg : (getObj p.blk).run P w = .ok (.stringIter s pos) w := by simp [getObj, Sem.run, hb]
      split at h
      · rename_i hh
        injection h with h; injection h with h1 h2; subst h1; subst h2
        refine Ran.quiet hr T0 ?_
        have : ¬ pos < s.size := blt_false hh
        simp [Instr.next, hg, this]
      · rename_i hh
        have hpos : pos < s.size := blt_iff.1 hh
        split at h
        · rename_i c hc
          split at h
          · rename_i ha
            injection h with h; injection h with h1 h2; subst h1; subst h2
            have hc' : s[pos]'hpos = c := by
              rw [Array.getElem?_toList] at hc
              exact (Array.getElem?_eq_some_iff.1 hc).2
            have ha' : (s[pos]'hpos).toNat < 128 := by rw [hc']; exact blt_iff.1 ha
            have hd := decode_ascii s pos hpos ha'
            rw [hc'] at hd
            refine ⟨φ, _, _, hr.turn hp (by rw [ho]; simp) (set_turned (.stringIter s (pos + 1))) (by simp [OR, hlt]), T2 (.int _ _) (.int _ _), ?_⟩
            simp [Instr.next, hg, hpos, hd, setObj, Sem.run, hb, goInt]
          · exact (fail_some h).elim
        · exact (fail_some h).elim
    · exact (fail_some h).elim
  · rename_i b
    cases hx with
    | ptr hp =>
    rename_i p
    have hlt := (hr.lt _ _ hp).2
    split at h
    · rename_i since seen stepped ho
      injection h with h; injection h with h1 h2; subst h1; subst h2
      have hb : w.heap[p.blk]? = some (.mapIter none since seen.toArray stepped) := hr.obj _ _ _ hp ho
      have hg : (getObj p.blk).run P w = .ok (.mapIter none since seen.toArray stepped) w := by simp [getObj, Sem.run, hb]
      refine Ran.quiet hr T0 ?_
      simp [Instr.next, hg]
    · rename_i m since seen stepped ho
      obtain ⟨q, hq, hb⟩ := hr.obj _ _ _ hp ho
      have hg : (getObj p.blk).run P w = .ok (.mapIter (some q.blk) since seen.toArray stepped) w := by simp [getObj, Sem.run, hb]
      split at h
      · rename_i es clock hom
        obtain ⟨es', g1, g2⟩ := hr.obj _ _ _ hq hom
        have g2' : EL φ es es'.toList := g2
        replace h := bnd_some h
        obtain ⟨_, hgd, h⟩ := h
        have hgd' := guardM_some hgd
        have hmg := MapKept.run_getObj_map (P := P) g1
        have hall := EL.all (fun n => Nat.ble stepped n) es es'.toList g2'
        have htest : (!seen.toArray.isEmpty && !es'.isEmpty && es'.all fun e => decide (e.born ≥ stepped)) = false := by
          have e1 : es'.isEmpty = es.isEmpty := by
            have := g2'.length
            cases es with
            | nil => simp at this; simp [Array.isEmpty, ← this]
            | cons a l => simp at this; simp [Array.isEmpty, ← this]
          have e2 : (es'.all fun e => decide (e.born ≥ stepped)) = es.all fun e => Nat.ble stepped e.born := by
            rw [← hall, ← Array.all_toList]
            congr 1
            funext e
            rw [Bool.eq_iff_iff]
            simp
          rw [e1, e2]
          rw [Bool.or_eq_true, Bool.or_eq_true] at hgd'
          rcases hgd' with (hh | hh) | hh
          · simp at hh; subst hh; simp
          · rw [hh]; simp
          · simp only [Bool.not_eq_true'] at hh; rw [hh]; simp
        have hleft := EL.filter (fun n => !seen.contains n) es es'.toList g2'
        have hfil : (es'.filter fun e => !seen.toArray.contains e.born).toList = es'.toList.filter fun e => !seen.contains e.born := by
          rw [Array.toList_filter]; simp
        split at h
        · rename_i hes
          injection h with h; injection h with h1 h2; subst h1; subst h2
          have hes' : (es'.filter fun e => !seen.toArray.contains e.born) = #[] := by
            apply Array.ext'
            rw [hfil]
            rw [hes] at hleft
            exact List.eq_nil_of_length_eq_zero hleft.length.symm
          refine Ran.quiet hr T0 ?_
          simp only [Instr.next, Sem.run_bind, hg, Result.andThen_ok, hmg, htest, Bool.false_eq_true, ↓reduceIte, hes']
          simp [choose, Sem.run, Question.forced]
        · rename_i e hes
          split at h
          · rename_i hborn
            injection h with h; injection h with h1 h2; subst h1; subst h2
            rw [hes] at hleft
            obtain ⟨e', hes', k1, k2, k3⟩ : ∃ e', (es'.filter fun e => !seen.toArray.contains e.born) = #[e'] ∧ VR φ e.key e'.key ∧ VR φ e.val e'.val ∧ e.born = e'.born := by
              generalize hl : (es'.toList.filter fun e => !seen.contains e.born) = l at hleft
              match l, hleft with
              | [], hleft => have := hleft.length; simp at this
              | e' :: r, hleft =>
                have hr0 : r = [] := List.eq_nil_of_length_eq_zero (by have := hleft.length; simpa using this.symm)
                subst hr0
                obtain ⟨a, b, c, _⟩ := hleft.uncons
                exact ⟨e', Array.ext' (by rw [hfil, hl]), a, b, c⟩
            have hb1 : e'.born < since := by rw [← k3]; exact blt_iff.1 hborn
            have hb2 : ¬ since ≤ e'.born := by omega
            refine ⟨φ, _, _, hr.turn hp (by rw [ho]; simp) (set_turned (.mapIter (some q.blk) since (seen.toArray.push e'.born) clock)) ⟨q, hq, by simp [hlt, k3]⟩, T2 k1 k2, ?_⟩
            simp only [Instr.next, Sem.run_bind, hg, Result.andThen_ok, hmg, htest, Bool.false_eq_true, ↓reduceIte, hes']
            simp [choose, Sem.run, Question.forced, hb1, hb2, setObj, hb]
          · exact (fail_some h).elim
        · exact (fail_some h).elim
      · exact (fail_some h).elim
    · exact (fail_some h).elim
  · exact (fail_some h).elim
omit hE in
theorem aEntry_ok {φ : Phi} {σ σ' : AW} {w : World} (hr : Rel P φ σ w) {x x' v : Value} (h : aEntry σ x = some (v, σ')) (hx : VR φ x x') :
    Ran P φ σ w v σ' (Instr.entry x') := by
  unfold aEntry at h
  split at h
  · rename_i b
    cases hx with
    | ptr hp =>
    rename_i p
    split at h
    · rename_i m since seen stepped ho
      obtain ⟨q, hq, hb⟩ := hr.obj _ _ _ hp ho
      have hg : (getObj p.blk).run P w = .ok (.mapIter (some q.blk) since seen.toArray stepped) w := by simp [getObj, Sem.run, hb]
      split at h
      · rename_i stamp es clock hs hom
        obtain ⟨es', g1, g2⟩ := hr.obj _ _ _ hq hom
        have g2' : EL φ es es'.toList := g2
        split at h
        · rename_i hc
          have hc' := Nat.eq_of_beq_eq_true hc
          subst hc'
          split at h
          · rename_i e hf
            injection h with h; injection h with h1 h2; subst h1; subst h2
            obtain ⟨e', f1, f2, f3⟩ := EL.find (fun n => Nat.beq n stamp) es es'.toList g2' e hf
            refine Ran.quiet hr (LR.cons f2 (LR.cons f3 (LR.nil φ))).tuple ?_
            have hback : seen.toArray.back? = some stamp := by simpa using hs
            have hfind : es'.find? (fun e => e.born == stamp) = some e' := by
              rw [← Array.find?_toList, ← f1]
              congr 1
              funext y
              rw [Bool.eq_iff_iff]; simp
            simp [Instr.entry, hg, hback, MapKept.run_getObj_map g1, hfind]
          · exact (fail_some h).elim
        · exact (fail_some h).elim
      · exact (fail_some h).elim
    · exact (fail_some h).elim
  · exact (fail_some h).elim
end
end Go.Proofs.Qas
