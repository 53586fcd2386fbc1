/- A part of the proof of the card of licitlaw37.ConclusionDiffers. -/
import Derived.Test.YtnpfemnclccbnaaGreatDoorQB
set_option linter.unusedSectionVars false
set_option linter.unusedSimpArgs false
set_option linter.unusedVariables false
namespace Go.Proofs.Qas

theorem aInt1_ok {φ : Phi} {x x' : Value} {n : Int} (h : aInt1 x = some n) (hx : VR φ x x') : ∃ k, x = .int k n ∧ x' = .int k n := by
  unfold aInt1 at h
  split at h
  · cases hx; injection h with h; subst h; exact ⟨_, rfl, rfl⟩
  · exact (fail_some h).elim
theorem aBound_ok {P : Program} {φ : Phi} {x x' : Value} {y n : Nat} (h : aBound x y = some n) (hx : VR φ x x') (w : World) (code : BoundsCode) : n ≤ y ∧ (Instr.sliceBound x' y code).run P w = .ok n w := by
  replace h := bnd_some h
  obtain ⟨i, h1, h⟩ := h
  replace h := bnd_some h
  obtain ⟨m, h2, h⟩ := h
  split at h
  · rename_i hb
    injection h with h; subst h
    have hle := Nat.le_of_ble_eq_true hb
    obtain ⟨k, _, rfl⟩ := aInt1_ok h1 hx
    have hi := toN_some h2
    subst hi
    refine ⟨hle, ?_⟩
    have : (0 : Int) ≤ (m : Int) ∧ (m : Int) ≤ (y : Int) := ⟨by omega, by omega⟩
    simp [Instr.sliceBound, asIntOf, hle]
  · exact (fail_some h).elim
inductive OVR (φ : Phi) : Option Value → Option Value → Prop
  | none : OVR φ none none
  | some {v v' : Value} (h : VR φ v v') : OVR φ (some v) (some v')
theorem optM_ok {φ : Phi} {ρ : Operand → M Value} {ρ' : Operand → Value} (hρ : ∀ x v, ρ x = some v → VR φ v (ρ' x)) {x : Option Operand} {v : Option Value} (h : optM ρ x = some v) : OVR φ v (x.map ρ') := by
  cases x with
  | none => simp [optM] at h; subst h; exact .none
  | some x =>
    replace h := bnd_some h
    obtain ⟨b, h1, h⟩ := h
    injection h with h; subst h
    exact .some (hρ x b h1)

theorem bounds_ok {P : Program} {φ : Phi} {lo hi mx lo' hi' mx' : Option Value} (isSlice : Bool) (len cap m h l : Nat) (hm : aOptBound mx cap cap = some m) (hh : aOptBound hi len m = some h) (hl : aOptBound lo 0 h = some l)
    (olo : OVR φ lo lo') (ohi : OVR φ hi hi') (omx : OVR φ mx mx') (hmx : mx.isSome → hi.isSome) (w : World) : l ≤ h ∧ m ≤ cap ∧ (hi.isSome → h ≤ m) ∧ (Instr.sliceBounds isSlice len cap lo' hi' mx').run P w = .ok (l, h, m) w := by
  have A : ∀ {x x' : Value} {y n : Nat}, aBound x y = some n → VR φ x x' → n ≤ y ∧ ∀ code, (Instr.sliceBound x' y code).run P w = .ok n w := fun a b =>
    ⟨(aBound_ok (P := P) a b w .index).1, fun code => (aBound_ok (P := P) a b w code).2⟩
  cases omx with
  | none =>
    simp [aOptBound] at hm; subst hm
    cases ohi with
    | none =>
      simp [aOptBound] at hh; subst hh
      cases olo with
      | none => simp [aOptBound] at hl; subst hl; exact ⟨Nat.zero_le _, Nat.le_refl _, by simp, by simp [Instr.sliceBounds]⟩
      | some hv => have a := A hl hv; exact ⟨a.1, Nat.le_refl _, by simp, by simp [Instr.sliceBounds, a.2]⟩
    | some hv1 =>
      have b := A hh hv1
      cases olo with
      | none => simp [aOptBound] at hl; subst hl; exact ⟨Nat.zero_le _, Nat.le_refl _, fun _ => b.1, by simp [Instr.sliceBounds, b.2]⟩
      | some hv => have a := A hl hv; exact ⟨a.1, Nat.le_refl _, fun _ => b.1, by simp [Instr.sliceBounds, a.2, b.2]⟩
  | some hv2 =>
    have c := A hm hv2
    cases ohi with
    | none => simp at hmx
    | some hv1 =>
      have b := A hh hv1
      cases olo with
      | none => simp [aOptBound] at hl; subst hl; exact ⟨Nat.zero_le _, c.1, fun _ => b.1, by simp [Instr.sliceBounds, b.2, c.2]⟩
      | some hv => have a := A hl hv; exact ⟨a.1, c.1, fun _ => b.1, by simp [Instr.sliceBounds, a.2, b.2, c.2]⟩

section
variable {P : Program} {E : Env} (hE : Env.Ok P E)
include hE
theorem aFieldAddr_ok {φ : Phi} {s : TypeId} {x x' v : Value} {f : Nat} (h : aFieldAddr E s x f = some v) (hx : VR φ x x') (w : World) : ∃ v', VR φ v v' ∧ (Instr.fieldAt s x' f).run P w = .ok v' w := by
  replace h := bnd_some h
  obtain ⟨ty, hty, h⟩ := h
  have ht := ty_ok hE hty
  split at h
  · rename_i fields b o hd
    replace h := bnd_some h
    obtain ⟨fd, hf, h⟩ := h
    replace h := bnd_some h
    obtain ⟨fty, hfty, h⟩ := h
    split at h
    · exact (fail_some h).elim
    · rename_i n hs
      injection h with h; subst h
      cases hx with
      | ptr hp =>
      rename_i p
      refine ⟨_, .ptr hp, ?_⟩
      have hf' : fields[f]? = some fd := by have := ofOpt_some hf; simpa using this
      have hsz := (ty_ok hE hfty).run_size w
      have hne : ¬ (fty.size = 0) := by omega
      simp only [Instr.fieldAt, Sem.run_bind, ht.run_und, hd, Result.andThen_ok, hf', Instr.sureAddr, Sem.run_pure, fieldPlace, hsz, hne, Sem.run_ite, if_false, addr_add]
  · exact (fail_some h).elim
theorem aField_ok {φ : Phi} {s : TypeId} {x x' v : Value} {f : Nat} (h : aField E s x f = some v) (hx : VR φ x x') (w : World) : ∃ v', VR φ v v' ∧ (Instr.field s x' f).run P w = .ok v' w := by
  replace h := bnd_some h
  obtain ⟨ty, hty, h⟩ := h
  have ht := ty_ok hE hty
  split at h
  · rename_i fields cs hd
    replace h := bnd_some h
    obtain ⟨fd, hf, h⟩ := h
    cases hx with
    | agg hc hx =>
    rename_i cs'
    obtain ⟨v', h1, h2⟩ := aPart_ok hE h (LR.of_array hc hx) w
    refine ⟨v', h1, ?_⟩
    have hf' : fields[f]? = some fd := by have := ofOpt_some hf; simpa using this
    simp only [Array.toArray_toList] at h2
    simp [Instr.field, ht.run_und, hd, hf', asAgg, h2]
  · exact (fail_some h).elim
theorem aIndexAddr_ok {φ : Phi} {t : TypeId} {x x' ix ix' v : Value} (h : aIndexAddr E t x ix = some v) (hx : VR φ x x') (hi : VR φ ix ix') (w : World) : ∃ v', VR φ v v' ∧ (Instr.indexAt t x' ix').run P w = .ok v' w := by
  replace h := bnd_some h
  obtain ⟨i, h1, h⟩ := h
  replace h := bnd_some h
  obtain ⟨n, h2, h⟩ := h
  replace h := bnd_some h
  obtain ⟨ty, hty, h⟩ := h
  have ht := ty_ok hE hty
  obtain ⟨k, _, rfl⟩ := aInt1_ok h1 hi
  have := toN_some h2
  subst this
  split at h
  · rename_i len e b o hd
    replace h := bnd_some h
    obtain ⟨ety, hety, h⟩ := h
    split at h
    · rename_i hlt
      injection h with h; subst h
      have hlt' := blt_iff.1 hlt
      cases hx with
      | ptr hp =>
      refine ⟨_, .ptr hp, ?_⟩
      have hsz := (ty_ok hE hety).run_size w
      have hc : (0 : Int) ≤ (n : Int) ∧ (n : Int) < (len : Int) := ⟨by omega, by omega⟩
      simp only [Instr.indexAt, asIntOf, Sem.run_bind, ht.run_und, hd, Result.andThen_ok, Instr.sureAddr, Sem.run_pure, Sem.run_ite, hc, and_self, if_true, hsz, addr_add, Int.toNat_natCast]
    · exact (fail_some h).elim
  · rename_i e b o len c hd
    replace h := bnd_some h
    obtain ⟨ety, hety, h⟩ := h
    split at h
    · rename_i hlt
      injection h with h; subst h
      have hlt' := blt_iff.1 hlt
      cases hx with
      | slice hp _ _ _ =>
      refine ⟨_, .ptr hp, ?_⟩
      have hsz := (ty_ok hE hety).run_size w
      have hc : (0 : Int) ≤ (n : Int) ∧ (n : Int) < (len : Int) := ⟨by omega, by omega⟩
      simp only [Instr.indexAt, asIntOf, Sem.run_bind, ht.run_und, hd, Result.andThen_ok, Sem.run_pure, Sem.run_ite, hc, and_self, if_true, hsz, addr_add, Int.toNat_natCast]
    · exact (fail_some h).elim
  · exact (fail_some h).elim
theorem aIndex_ok {φ : Phi} {t : TypeId} {x x' ix ix' v : Value} (h : aIndex E t x ix = some v) (hx : VR φ x x') (hi : VR φ ix ix') (w : World) : ∃ v', VR φ v v' ∧ (Instr.index t x' ix').run P w = .ok v' w := by
  replace h := bnd_some h
  obtain ⟨i, h1, h⟩ := h
  replace h := bnd_some h
  obtain ⟨n, h2, h⟩ := h
  replace h := bnd_some h
  obtain ⟨ty, hty, h⟩ := h
  have ht := ty_ok hE hty
  obtain ⟨k, _, rfl⟩ := aInt1_ok h1 hi
  have := toN_some h2
  subst this
  split at h
  · rename_i len e cs hd
    replace h := bnd_some h
    obtain ⟨ety, hety, h⟩ := h
    split at h
    · rename_i hlt
      have hlt' := blt_iff.1 hlt
      cases hx with
      | agg hc hx =>
      obtain ⟨v', g1, g2⟩ := aPart_ok hE h (LR.of_array hc hx) w
      refine ⟨v', g1, ?_⟩
      have hsz := (ty_ok hE hety).run_size w
      have hc : (0 : Int) ≤ (n : Int) ∧ (n : Int) < (len : Int) := ⟨by omega, by omega⟩
      simp only [Array.toArray_toList] at g2
      simp only [Instr.index, asIntOf, Sem.run_bind, ht.run_und, hd, Result.andThen_ok, Sem.run_pure, Sem.run_ite, hc, and_self, if_true, hsz, Int.toNat_natCast, g2]
    · exact (fail_some h).elim
  · rename_i s hd
    replace h := bnd_some h
    obtain ⟨b, hb, h⟩ := h
    injection h with h; subst h
    cases hx
    refine ⟨_, .int _ _, ?_⟩
    have hb' := ofOpt_some hb
    rw [nth_eq] at hb'
    have hb2 : s[n]? = some b := by
      have hlt : n < s.data.toList.length := (List.getElem?_eq_some_iff.1 hb').1
      have e : s.data.toList[n] = b := (List.getElem?_eq_some_iff.1 hb').2
      have hlt2 : n < s.size := hlt
      rw [getElem?_pos s n hlt2]
      rw [← e]; rfl
    have h0 : (0 : Int) ≤ (n : Int) := by omega
    simp [Instr.index, asIntOf, ht.run_und, hd, h0, hb2]
  · exact (fail_some h).elim
theorem aNilCheck_ok {φ : Phi} {ρ' : Operand → Value} {x : Operand} {v r : Value} (h : aNilCheck v = some r) (hx : VR φ v (ρ' x)) {o : Oper} (ho : o.op = .nilCheck x) (w : World) : ∃ v', VR φ r v' ∧ (execOp ρ' o).run P w = .ok (.value v') w := by
  unfold aNilCheck at h
  split at h <;> first
    | (exact (fail_some h).elim)
    | (injection h with h; subst h
       refine ⟨ρ' x, hx, ?_⟩
       generalize hy : ρ' x = y at hx
       cases hx <;> simp [execOp, ho, hy])
end
end Go.Proofs.Qas
namespace Go.Proofs.Qas

theorem repCells_len (l : List Value) : ∀ n, (repCells l n).length = n * l.length
  | 0 => by simp [repCells]
  | n + 1 => by simp [repCells, repCells_len l n, Nat.succ_mul]; omega
theorem repCells_get (l : List Value) : ∀ (n i : Nat), i < n * l.length → (repCells l n)[i]? = l[i % l.length]?
  | 0, i, h => by simp at h
  | n + 1, i, h => by
    simp only [repCells]
    rcases Nat.lt_or_ge i l.length with hi | hi
    · rw [List.getElem?_append_left hi, Nat.mod_eq_of_lt hi]
    · rw [List.getElem?_append_right hi, repCells_get l n (i - l.length) (by rw [Nat.succ_mul] at h; omega), ← Nat.mod_eq_sub_mod hi]
theorem rep_eq (z z' : Array Value) (n size : Nat) (hz : z.size = size) (hz' : n * size ≠ 0 → z' = z) : (Array.range (n * size)).map (fun i => z'[i % z'.size]!) = (repCells z.toList n).toArray := by
  apply Array.ext'
  apply List.ext_getElem?
  intro i
  simp only [Array.toList_map, Array.toList_range, List.getElem?_map]
  rcases Nat.lt_or_ge i (n * size) with hi | hi
  · have hne : n * size ≠ 0 := by omega
    rw [hz' hne]
    have hs : 0 < size := by
      rcases Nat.eq_zero_or_pos size with h0 | h0
      · subst h0; simp at hi
      · exact h0
    have hm : i % z.size < z.size := Nat.mod_lt _ (by omega)
    rw [List.getElem?_range hi, repCells_get _ _ _ (by simpa [hz] using hi)]
    simp [getElem!_pos z (i % z.size) hm, List.getElem?_eq_getElem (show i % z.size < z.toList.length by simpa using hm)]
  · rw [List.getElem?_eq_none (by simpa using hi), List.getElem?_eq_none (by simpa [repCells_len, hz] using hi)]
    rfl
theorem LR.rep {φ : Phi} {l l' : List Value} (h : LR φ l l') : ∀ n, LR φ (repCells l n) (repCells l' n)
  | 0 => LR.nil _
  | n + 1 => h.append (LR.rep h n)

section
variable {P : Program} {E : Env} (hE : Env.Ok P E)
include hE
theorem places_ok : ∀ (fs : List Field) (places : List (Nat × Nat)), mapM' (fun f : Field => bnd (E.ty f.type) fun fty => some (f.offset, fty.size)) fs = some places →
    fs.mapM (fun f => (P.info? f.type).map fun i => (f.offset, i.size)) = some places
  | [], places, h => by rw [mapM'_nil] at h; injection h with h; subst h; rfl
  | f :: fs, places, h => by
    rw [mapM'_cons] at h
    replace h := bnd_some h
    obtain ⟨x, hx, h⟩ := h
    replace h := bnd_some h
    obtain ⟨r, hr, h⟩ := h
    injection h with h; subst h
    replace hx := bnd_some hx
    obtain ⟨ty, hty, hx⟩ := hx
    injection hx with hx; subst hx
    obtain ⟨i, hi, hs, _⟩ := (ty_ok hE hty).info
    have ih := places_ok fs r hr
    simp only [List.mapM_cons, hi, Option.map_some, hs, ih, Option.bind_eq_bind, Option.bind_some, Option.pure_def]
theorem aBuild_ok {φ : Phi} {t : TypeId} {parts parts' : List (Nat × Value)} {v : Value} (h : aBuild E t parts = some v) (hp : PLR φ parts parts') (w : World) :
    ∃ v', VR φ v v' ∧ (Instr.build t parts'.toArray).run P w = .ok v' w := by
  replace h := bnd_some h
  obtain ⟨z, hz, h⟩ := h
  replace h := bnd_some h
  obtain ⟨ty, hty, h⟩ := h
  obtain ⟨ty2, hty2, hz0, _, hzv⟩ := aZero_ok hE hz
  rw [hty] at hty2; injection hty2 with hty2; subst hty2
  have ht := ty_ok hE hty
  obtain ⟨it, hit, his, hib, hiz⟩ := ht.info
  have hzc := (hzv φ).cells
  split at h
  · rename_i fields hd
    replace h := bnd_some h
    obtain ⟨places, hpl, h⟩ := h
    replace h := bnd_some h
    obtain ⟨cs, hcs, h⟩ := h
    injection h with h; subst h
    obtain ⟨r', g1, g2⟩ := aFill_ok (place' := fun i => places.toArray[i]?) (fun i r e => by have := ofOpt_some e; simpa using this) parts parts' _ _ cs hcs hzc hp
    refine ⟨.agg r'.toArray, LR.agg g2, run_build w t parts'.toArray r'.toArray ?_⟩
    simp only [Program.built, hit, ht.und, hd, hiz, hz0, places_ok hE _ _ hpl]
    simpa using g1
  · rename_i n e hd
    replace h := bnd_some h
    obtain ⟨ety, hety, h⟩ := h
    replace h := bnd_some h
    obtain ⟨cs, hcs, h⟩ := h
    injection h with h; subst h
    obtain ⟨ie, hie, hies, _⟩ := (ty_ok hE hety).info
    obtain ⟨r', g1, g2⟩ := aFill_ok (place' := fun i => some (i * ie.size, ie.size)) (fun i r e => by rw [hies]; exact e) parts parts' _ _ cs hcs hzc hp
    refine ⟨.agg r'.toArray, LR.agg g2, run_build w t parts'.toArray r'.toArray ?_⟩
    simp only [Program.built, hit, ht.und, hd, hiz, hz0, hie]
    simpa using g1
  · exact (fail_some h).elim
theorem aBuildSlice_ok {φ : Phi} {σ σ' : AW} {w : World} (hr : Rel P φ σ w) {t : TypeId} {n : Nat} {parts parts' : List (Nat × Value)} {v : Value} (h : aBuildSlice E σ t n parts = some (v, σ')) (hp : PLR φ parts parts') :
    Ran P φ σ w v σ' (Instr.buildSlice t n parts'.toArray) := by
  replace h := bnd_some h
  obtain ⟨ty, hty, h⟩ := h
  have ht := ty_ok hE hty
  split at h
  · rename_i e hd
    replace h := bnd_some h
    obtain ⟨ety, hety, h⟩ := h
    replace h := bnd_some h
    obtain ⟨_, hg1, h⟩ := h
    replace h := bnd_some h
    obtain ⟨z, hz, h⟩ := h
    replace h := bnd_some h
    obtain ⟨_, hg2, h⟩ := h
    replace h := bnd_some h
    obtain ⟨cs, hcs, h⟩ := h
    injection h with h
    injection h with h1 h2
    subst h1; subst h2
    obtain ⟨ty2, hty2, hz0, hzr, hzv⟩ := aZero_ok hE hz
    have hsz := Nat.eq_of_beq_eq_true (guardM_some hg2)
    have hle := Nat.le_of_ble_eq_true (guardM_some hg1)
    have hzc := (hzv φ).cells
    obtain ⟨r', g1, g2⟩ := aFill_ok (place' := fun i => some (i * ety.size, ety.size)) (fun i r e => e) parts parts' _ _ cs hcs (hzc.rep n) hp
    refine ⟨_, .slice (some ⟨w.heap.size, 0, none⟩) n n, { w with heap := w.heap.push (.cells r'.toArray e) }, newRow_post hE hr hety cs r'.toArray false (0, 0) g2.row (fun _ i _ => by omega) ⟨rfl, rfl, rfl, rfl⟩ rfl, ?_, ?_⟩
    · exact .slice (Phi.upd_same _ _ _) (Nat.le_refl _) (fun e => by omega) (fun k e => by omega)
    · have hbig : ¬ (n * ety.size > 2 ^ 24) := by omega
      have hzz : ∀ (z' : Array Value), (n * ety.size ≠ 0 → z' = z.cells) → (Array.range (n * ety.size)).map (fun i => z'[i % z'.size]!) = (repCells z.cells.toList n).toArray :=
        fun z' hz' => rep_eq z.cells z' n ety.size (by simpa using hsz) hz'
      simp only [Instr.buildSlice, Sem.run_bind, ht.run_und, hd, Result.andThen_ok, (ty_ok hE hety).run_size, Sem.run_ite, hbig, if_false]
      by_cases h0 : n * ety.size = 0
      · have e0 := hzz #[] (fun e => (e h0).elim)
        simp only [h0, if_true, Sem.run_pure, Result.andThen_ok]
        rw [h0] at e0
        simp only [e0, g1]
        simp [newRow]
      · have e0 := hzz z.cells (fun _ => rfl)
        simp only [h0, if_false, Sem.run_bind, hzr, Result.andThen_ok, Sem.run_pure, e0, g1]
        simp [newRow]
  · exact (fail_some h).elim
theorem aMakeSlice_ok {φ : Phi} {σ σ' : AW} {w : World} (hr : Rel P φ σ w) {t : TypeId} {l c l' c' v : Value} (h : aMakeSlice E σ t l c = some (v, σ')) (hl : VR φ l l') (hc : VR φ c c') :
    Ran P φ σ w v σ' (Instr.makeSlice t l' c') := by
  replace h := bnd_some h
  obtain ⟨li, h1, h⟩ := h
  replace h := bnd_some h
  obtain ⟨ln, h2, h⟩ := h
  replace h := bnd_some h
  obtain ⟨ci, h3, h⟩ := h
  replace h := bnd_some h
  obtain ⟨cn, h4, h⟩ := h
  replace h := bnd_some h
  obtain ⟨_, hg1, h⟩ := h
  replace h := bnd_some h
  obtain ⟨ty, hty, h⟩ := h
  have ht := ty_ok hE hty
  have hg1' := guardM_some hg1
  rw [Bool.and_eq_true] at hg1'
  have hlc := Nat.le_of_ble_eq_true hg1'.1
  have hc1 := Nat.le_of_ble_eq_true hg1'.2
  obtain ⟨k1, _, rfl⟩ := aInt1_ok h1 hl
  obtain ⟨k2, _, rfl⟩ := aInt1_ok h3 hc
  have := toN_some h2; subst this
  have := toN_some h4; subst this
  split at h
  · rename_i e hd
    replace h := bnd_some h
    obtain ⟨ety, hety, h⟩ := h
    replace h := bnd_some h
    obtain ⟨_, hg2, h⟩ := h
    replace h := bnd_some h
    obtain ⟨z, hz, h⟩ := h
    replace h := bnd_some h
    obtain ⟨_, hg3, h⟩ := h
    injection h with h
    injection h with h1 h2
    subst h1; subst h2
    obtain ⟨ty2, hty2, hz0, hzr, hzv⟩ := aZero_ok hE hz
    have hb := Nat.le_of_ble_eq_true (guardM_some hg2)
    have hsz := Nat.eq_of_beq_eq_true (guardM_some hg3)
    have hzc := (hzv φ).cells
    obtain ⟨i, hi, hib, _⟩ := (ty_ok hE hety).run_bytes w
    refine ⟨_, .slice (some ⟨w.heap.size, 0, none⟩) ln cn, { w with heap := w.heap.push (.cells (repCells z.cells.toList cn).toArray e) }, newRow_post hE hr hety _ _ false (0, 0) (hzc.rep cn).row (fun _ i _ => by omega) ⟨rfl, rfl, rfl, rfl⟩ rfl, ?_, ?_⟩
    · exact .slice (Phi.upd_same _ _ _) hlc (fun e => by omega) (fun k e => by omega)
    · have w1 : IntKind.i64.wrap (ln : Int) = (ln : Int) := by
        rw [← fwrap_eq]; simp only [fwrap]
        rw [blt_iff.2 (show ln < halfOf .i64 by simp only [halfOf]; omega)]; rfl
      have w2 : IntKind.i64.wrap (cn : Int) = (cn : Int) := by
        rw [← fwrap_eq]; simp only [fwrap]
        rw [blt_iff.2 (show cn < halfOf .i64 by simp only [halfOf]; omega)]; rfl
      have hmul : (i.bytes : Int) * (cn : Int) ≤ 100000000 := by
        have : i.bytes * cn ≤ 1000 * 100000 := Nat.mul_le_mul (by omega) hc1
        have e2 : ((i.bytes * cn : Nat) : Int) ≤ ((1000 * 100000 : Nat) : Int) := by exact_mod_cast this
        rw [Int.natCast_mul] at e2
        omega
      have hbad : ((decide ((cn : Int) < 0) || decide ((i.bytes : Int) * (cn : Int) > 2 ^ 48)) || decide ((ln : Int) < 0) || decide ((ln : Int) > (cn : Int))) = false := by
        simp only [Bool.or_eq_false_iff, decide_eq_false_iff_not]
        refine ⟨⟨⟨by omega, by omega⟩, by omega⟩, by omega⟩
      simp only [Instr.makeSlice, Sem.run_bind, ht.run_und, hd, Result.andThen_ok, asInt, asIntOf, Sem.run_pure, hi, w1, w2, hbad, Sem.run_ite, Bool.false_eq_true, if_false, run_askRoom, (ty_ok hE hety).run_size, Int.toNat_natCast]
      by_cases h0 : cn * ety.size = 0
      · have e0 := rep_eq z.cells #[] cn ety.size (by simpa using hsz) (fun e => (e h0).elim)
        simp only [h0, if_true, Sem.run_pure, Result.andThen_ok]
        rw [h0] at e0
        simp only [e0]
        simp [newRow]
      · have e0 := rep_eq z.cells z.cells cn ety.size (by simpa using hsz) (fun _ => rfl)
        simp only [h0, if_false, Sem.run_bind, hzr, Result.andThen_ok, Sem.run_pure, e0]
        simp [newRow]
  · exact (fail_some h).elim
end
end Go.Proofs.Qas
namespace Go.Proofs.Qas

theorem wrap_small {n : Nat} (h : n < 9223372036854775808) : IntKind.i64.wrap (n : Int) = (n : Int) := by
  rw [← fwrap_eq]; simp only [fwrap]
  rw [blt_iff.2 (show n < halfOf .i64 by simp only [halfOf]; omega)]; rfl

theorem aBound_mono {x : Value} {y y' n : Nat} (h : aBound x y = some n) (hy : y ≤ y') : aBound x y' = some n := by
  replace h := bnd_some h
  obtain ⟨i, h1, h⟩ := h
  replace h := bnd_some h
  obtain ⟨m, h2, h⟩ := h
  split at h
  · rename_i hb
    injection h with h; subst h
    have := Nat.le_of_ble_eq_true hb
    simp only [aBound, h1, h2, bnd]
    rw [Nat.ble_eq_true_of_le (by omega)]
  · exact (fail_some h).elim
theorem aOptBound_mono {x : Option Value} {d y y' n : Nat} (h : aOptBound x d y = some n) (hy : y ≤ y') : aOptBound x d y' = some n := by
  cases x with
  | none => exact h
  | some x => exact aBound_mono h hy
theorem aOptBound_le {x : Option Value} {d y n : Nat} (h : aOptBound x d y = some n) (hd : d ≤ y) : n ≤ y := by
  cases x with
  | none => simp [aOptBound] at h; omega
  | some x =>
    replace h := bnd_some h
    obtain ⟨i, h1, h⟩ := h
    replace h := bnd_some h
    obtain ⟨m, h2, h⟩ := h
    split at h
    · rename_i hb
      injection h with h; subst h
      exact Nat.le_of_ble_eq_true hb
    · exact (fail_some h).elim

theorem over_known {φ : Phi} {b o m l h size : Nat} {p : PB} (hp : φ b = some p) (hlh : l ≤ h) (hhm : h ≤ m) :
    VR φ (aSliceOver b (match Nat.beq m l with | true => o | false => Nat.add o (Nat.mul l size)) (Nat.sub h l) (Nat.succ (Nat.sub m l)))
      (.slice (if m = l then some ⟨p.blk, o, none⟩ else some ((⟨p.blk, o, none⟩ : Addr).add (l * size))) (h - l) (m - l)) := by
  by_cases e : m = l
  · rw [if_pos e, e, Nat.beq_refl]
    exact .slice hp (by show h - l ≤ l - l; omega) (fun e => by cases e) (fun k e => by have : l - l + 1 = k + 1 := e; omega)
  · have hb : Nat.beq m l = false := by
      rw [Bool.eq_false_iff]; intro hh; exact e (Nat.eq_of_beq_eq_true hh)
    rw [if_neg e, hb, addr_add]
    exact .slice hp (by show h - l ≤ m - l; omega) (fun e => by cases e) (fun k e => by
      have : m - l + 1 = k + 1 := e
      omega)

section
variable {P : Program} {E : Env} (hE : Env.Ok P E)
include hE
theorem aSlice_ok {φ : Phi} {σ : AW} {t : TypeId} {x x' v : Value} {lo hi mx lo' hi' mx' : Option Value} {w : World} (hr : Rel P φ σ w) (h : aSlice E σ t x lo hi mx = some v) (hx : VR φ x x') (olo : OVR φ lo lo') (ohi : OVR φ hi hi') (omx : OVR φ mx mx')
    (hmx : mx.isSome → hi.isSome) : ∃ v', VR φ v v' ∧ (Instr.sliceAt t x' lo' hi' mx').run P w = .ok v' w := by
  replace h := bnd_some h
  obtain ⟨ty, hty, h⟩ := h
  have ht := ty_ok hE hty
  have hb := fun (isSlice : Bool) (len cap m h l : Nat) hm hh hl => bounds_ok (P := P) (φ := φ) (lo := lo) (hi := hi) (mx := mx) (lo' := lo') (hi' := hi') (mx' := mx') isSlice len cap m h l hm hh hl olo ohi omx hmx w
  split at h
  ·
    rename_i s hd
    split at h
    · replace h := bnd_some h
      obtain ⟨hh, e1, h⟩ := h
      replace h := bnd_some h
      obtain ⟨ll, e2, h⟩ := h
      injection h with h; subst h
      cases hx
      cases omx
      have hlen : s.data.toList.length = s.size := rfl
      rw [hlen] at e1
      obtain ⟨b1, _, b3, b4⟩ := hb false s.size s.size s.size hh ll rfl e1 e2
      refine ⟨_, .str _, ?_⟩
      have e3 : (⟨((s.data.toList.take hh).drop ll).toArray⟩ : ByteArray) = s.extract ll hh := by
        apply ByteArray.ext
        apply Array.ext'
        rw [ByteArray.data_extract, Array.toList_extract, List.extract, List.drop_take]
      simp only [Instr.sliceAt, Instr.slice, Sem.run_bind, ht.run_und, hd, Result.andThen_ok, Option.isSome_none, Bool.false_eq_true, Sem.run_ite, if_false, Sem.run_pure, b4, e3]
    · exact (fail_some h).elim
  ·
    rename_i e hd
    replace h := bnd_some h
    obtain ⟨ety, hety, h⟩ := h
    replace h := bnd_some h
    obtain ⟨m, e0, h⟩ := h
    replace h := bnd_some h
    obtain ⟨hh, e1, h⟩ := h
    replace h := bnd_some h
    obtain ⟨ll, e2, h⟩ := h
    injection h with h; subst h
    cases hx
    obtain ⟨b1, b2, b3, b4⟩ := hb true 0 0 m hh ll e0 e1 e2
    have hm0 : m = 0 := by omega
    have hh0 : hh = 0 := by have := aOptBound_le e1 (by omega); omega
    have hl0 : ll = 0 := by omega
    subst hm0; subst hh0; subst hl0
    refine ⟨_, .sliceNil, ?_⟩
    simp only [Instr.sliceAt, Instr.slice, Sem.run_bind, ht.run_und, hd, Result.andThen_ok, Sem.run_pure, b4, (ty_ok hE hety).run_size, if_true, Nat.sub_self]
  ·
    rename_i e b o n c hd
    replace h := bnd_some h
    obtain ⟨ety, hety, h⟩ := h
    cases hx with
    | slice hp hn h0 h1 =>
    rename_i c' p
    have hrun : ∀ (m hh ll : Nat), (Instr.sliceBounds true n c' lo' hi' mx').run P w = .ok (ll, hh, m) w →
        (Instr.sliceAt t (.slice (some ⟨p.blk, o, none⟩) n c') lo' hi' mx').run P w = .ok (.slice (if m = ll then some ⟨p.blk, o, none⟩ else some ((⟨p.blk, o, none⟩ : Addr).add (ll * ety.size))) (hh - ll) (m - ll)) w := by
      intro m hh ll hbd
      simp only [Instr.sliceAt, Instr.slice, Sem.run_bind, ht.run_und, hd, Result.andThen_ok, Sem.run_pure, hbd, (ty_ok hE hety).run_size, Option.map_some]
    split at h
    ·
      split at h
      · replace h := bnd_some h
        obtain ⟨hh, e1, h⟩ := h
        replace h := bnd_some h
        obtain ⟨ll, e2, h⟩ := h
        cases omx
        have hhn := aOptBound_le e1 (Nat.le_refl _)
        obtain ⟨b1, b2, b3, b4⟩ := hb true n c' c' hh ll rfl (aOptBound_mono e1 hn) e2
        have hfit := h0 rfl
        split at h
        · injection h with h; subst h
          refine ⟨.slice (some ⟨p.blk, o, none⟩) hh c', .slice hp (by omega) (fun _ => hfit) (fun k e => by cases e), ?_⟩
          rw [hrun c' hh 0 b4, addr_add]
          simp
        · rename_i l
          split at h
          · rename_i hlt
            have hlt' := blt_iff.1 hlt
            replace h := bnd_some h
            obtain ⟨B, hB, h⟩ := h
            replace h := bnd_some h
            obtain ⟨_, hg, h⟩ := h
            injection h with h; subst h
            have hel := Nat.eq_of_beq_eq_true (guardM_some hg)
            obtain ⟨cur, fr, g1, g2, g3, g4, g5⟩ := hr.obj b p _ hp (aCells_some hB)
            have hes : ety.size = p.es := by
              rw [hel, (ty_ok hE hety).size_] at g3
              injection g3
            simp only [Nat.succ_eq_add_one] at hlt'
            refine ⟨.slice (some ⟨p.blk, o + (l + 1) * ety.size, none⟩) (hh - (l + 1)) (c' - (l + 1)), .slice hp (by show hh - (l + 1) ≤ c' - (l + 1); omega) (fun _ => ?_) (fun k e => by cases e), ?_⟩
            · show o + (l + 1) * ety.size + (c' - (l + 1)) * p.es ≤ p.size
              rw [hes, Nat.add_assoc, ← Nat.add_mul]
              have : l + 1 + (c' - (l + 1)) = c' := by omega
              rw [this]; exact hfit
            · rw [hrun c' hh (l + 1) b4, addr_add, if_neg (by omega)]
          · exact (fail_some h).elim
      · replace h := bnd_some h
        obtain ⟨m, e0, h⟩ := h
        replace h := bnd_some h
        obtain ⟨hh, e1, h⟩ := h
        replace h := bnd_some h
        obtain ⟨ll, e2, h⟩ := h
        injection h with h; subst h
        obtain ⟨b1, b2, b3, b4⟩ := hb true n c' m hh ll (aBound_mono e0 hn) e1 e2
        exact ⟨_, over_known hp b1 (b3 (hmx rfl)), hrun m hh ll b4⟩
    · rename_i k
      have hk := h1 k rfl
      subst hk
      replace h := bnd_some h
      obtain ⟨m, e0, h⟩ := h
      replace h := bnd_some h
      obtain ⟨hh, e1, h⟩ := h
      replace h := bnd_some h
      obtain ⟨ll, e2, h⟩ := h
      injection h with h; subst h
      obtain ⟨b1, b2, b3, b4⟩ := hb true n c' m hh ll e0 e1 e2
      have hhm : hh ≤ m := by
        cases ohi with
        | some _ => exact b3 rfl
        | none =>
          cases omx with
          | some _ => exact (by simp at hmx)
          | none => simp [aOptBound] at e0 e1; omega
      exact ⟨_, over_known hp b1 hhm, hrun m hh ll b4⟩
  ·
    rename_i a b o hd
    replace h := bnd_some h
    obtain ⟨aty, haty, h⟩ := h
    split at h
    · rename_i k e hda
      replace h := bnd_some h
      obtain ⟨ety, hety, h⟩ := h
      replace h := bnd_some h
      obtain ⟨m, e0, h⟩ := h
      replace h := bnd_some h
      obtain ⟨hh, e1, h⟩ := h
      replace h := bnd_some h
      obtain ⟨ll, e2, h⟩ := h
      injection h with h; subst h
      cases hx with
      | ptr hp =>
      obtain ⟨b1, b2, b3, b4⟩ := hb false k k m hh ll e0 e1 e2
      have hhm : hh ≤ m := by
        cases ohi with
        | some _ => exact b3 rfl
        | none =>
          cases omx with
          | some _ => exact (by simp at hmx)
          | none => simp [aOptBound] at e0 e1; omega
      refine ⟨_, over_known hp b1 hhm, ?_⟩
      simp only [Instr.sliceAt, Instr.slice, Sem.run_bind, ht.run_und, hd, Result.andThen_ok, Sem.run_pure, asAddr, (ty_ok hE haty).run_und, hda, b4, (ty_ok hE hety).run_size]
      congr 2
      split <;> rfl
    · exact (fail_some h).elim
  ·
    rename_i k e b o hd
    replace h := bnd_some h
    obtain ⟨ety, hety, h⟩ := h
    replace h := bnd_some h
    obtain ⟨m, e0, h⟩ := h
    replace h := bnd_some h
    obtain ⟨hh, e1, h⟩ := h
    replace h := bnd_some h
    obtain ⟨ll, e2, h⟩ := h
    injection h with h; subst h
    cases hx with
    | ptr hp =>
    obtain ⟨b1, b2, b3, b4⟩ := hb false k k m hh ll e0 e1 e2
    have hhm : hh ≤ m := by
      cases ohi with
      | some _ => exact b3 rfl
      | none =>
        cases omx with
        | some _ => exact (by simp at hmx)
        | none => simp [aOptBound] at e0 e1; omega
    refine ⟨_, over_known hp b1 hhm, ?_⟩
    simp only [Instr.sliceAt, Sem.run_bind, ht.run_und, hd, Result.andThen_ok, Sem.run_pure, Instr.sureAddr, b4, (ty_ok hE hety).run_size]
    congr 2
    split <;> rfl
  · exact (fail_some h).elim
end
end Go.Proofs.Qas
namespace Go.Proofs.Qas

theorem LR.uncons {φ : Phi} {v v' : Value} {l l' : List Value} (h : LR φ (v :: l) (v' :: l')) : VR φ v v' ∧ LR φ l l' :=
  ⟨h.2 0 v v' rfl rfl, by simpa using h.1, fun i a b ha hb => h.2 (i + 1) a b (by simpa using ha) (by simpa using hb)⟩

def EL (φ : Phi) (es : List AEnt) (es' : List MapEntry) : Prop :=
  LR φ (es.map (·.key)) (es'.map (·.key)) ∧ LR φ (es.map (·.val)) (es'.map (·.val)) ∧ es.map (·.born) = es'.map (·.born)
theorem EL.uncons {φ : Phi} {e : AEnt} {es : List AEnt} {e' : MapEntry} {es' : List MapEntry} (h : EL φ (e :: es) (e' :: es')) : VR φ e.key e'.key ∧ VR φ e.val e'.val ∧ e.born = e'.born ∧ EL φ es es' := by
  obtain ⟨a, b, c⟩ := h
  simp only [List.map_cons] at a b c
  injection c with c1 c2
  exact ⟨a.uncons.1, b.uncons.1, c1, a.uncons.2, b.uncons.2, c2⟩
theorem EL.cons {φ : Phi} {e : AEnt} {es : List AEnt} {e' : MapEntry} {es' : List MapEntry} (h1 : VR φ e.key e'.key) (h2 : VR φ e.val e'.val) (h3 : e.born = e'.born) (h : EL φ es es') : EL φ (e :: es) (e' :: es') :=
  ⟨by simpa using LR.cons h1 h.1, by simpa using LR.cons h2 h.2.1, by simp [h3, h.2.2]⟩
theorem EL.nil (φ : Phi) : EL φ [] [] := ⟨LR.nil _, LR.nil _, rfl⟩
theorem EL.length {φ : Phi} {es : List AEnt} {es' : List MapEntry} (h : EL φ es es') : es.length = es'.length := by
  have := h.1.1; simpa using this
theorem EL.rec_ {φ : Phi} {motive : List AEnt → List MapEntry → Prop} (nil : motive [] [])
    (cons : ∀ e es e' es', VR φ e.key e'.key → VR φ e.val e'.val → e.born = e'.born → EL φ es es' → motive es es' → motive (e :: es) (e' :: es')) :
    ∀ es es', EL φ es es' → motive es es'
  | [], [], _ => nil
  | [], _ :: _, h => by have := h.length; simp at this
  | _ :: _, [], h => by have := h.length; simp at this
  | e :: es, e' :: es', h => by
    obtain ⟨a, b, c, d⟩ := h.uncons
    exact cons e es e' es' a b c d (EL.rec_ nil cons es es' d)

theorem bytes_eq_lists (a b : ByteArray) : (a == b) = (a.data.toList == b.data.toList) := by
  show (a.data == b.data) = _
  rw [Bool.eq_iff_iff]
  simp
theorem keyEq_ok {φ : Phi} {kd : TypeDesc} {k e e' : Value} {r : Bool} (hk : keyTy kd k = true) (he : VR φ e e') (h : keyEq k e = some r) : Instr.sameNow kd k e' = some r := by
  cases k <;> try (simp [keyTy] at hk; done)
  · cases he <;> try (simp [keyEq, fail] at h; done)
    rename_i j a j' b
    cases kd <;> simp [keyTy] at hk
    simp only [keyEq] at h
    split at h
    · rename_i hj
      have hj := kindEq_eq hj
      subst hj
      simpa [Instr.sameNow, ieq_eq] using h
    · exact (fail_some h).elim
  · cases he <;> try (simp [keyEq, fail] at h; done)
    rename_i a b
    cases kd <;> simp [keyTy] at hk
    simp only [keyEq, beqs_eq] at h
    injection h with h
    simp only [Instr.sameNow, ← h, bytes_eq_lists]
theorem keyTy_self {φ : Phi} {kd : TypeDesc} {k k' : Value} (hk : keyTy kd k = true) (h : VR φ k k') : k' = k := by
  cases k <;> cases h <;> first | rfl | (simp [keyTy] at hk; done)
theorem aFind_ok {φ : Phi} {kd : TypeDesc} {k : Value} (hk : keyTy kd k = true) : ∀ (es : List AEnt) (es' : List MapEntry), EL φ es es' → ∀ (i : Nat) r, aFind k es i = some r →
    match r with
    | none => Instr.findNow kd k es' i = some none
    | some (j, v) => ∃ v' e', Instr.findNow kd k es' i = some (some (j, v')) ∧ VR φ v v' ∧ i ≤ j ∧ es'[j - i]? = some e' ∧ Instr.sameNow kd k e'.key = some true := by
  refine EL.rec_ ?_ ?_
  · intro i r h
    rw [aFind_nil] at h; injection h with h; subst h
    rfl
  · intro e es e' es' hkey hval _ _ ih i r h
    rw [aFind_cons] at h
    replace h := bnd_some h
    obtain ⟨b, hb, h⟩ := h
    have hs := keyEq_ok hk hkey hb
    split at h
    · injection h with h; subst h
      refine ⟨e'.val, e', ?_, hval, Nat.le_refl _, by simp, hs⟩
      simp [Instr.findNow, hs]
    · have := ih (i + 1) r h
      split at this
      · simpa [Instr.findNow, hs] using this
      · rename_i j v
        obtain ⟨v', e1, h1, h2, h3, h4, h5⟩ := this
        refine ⟨v', e1, by simpa [Instr.findNow, hs] using h1, h2, by omega, ?_, h5⟩
        rw [show j - i = (j - (i + 1)) + 1 from by omega]
        simpa using h4

section
variable {P : Program} {E : Env} (hE : Env.Ok P E)
include hE
omit hE in
theorem aMapOf_ok {φ : Phi} {σ : AW} {w : World} (hr : Rel P φ σ w) {x x' : Value} {es : List AEnt} (h : aMapOf σ x = some es) (hx : VR φ x x') :
    (x' = .map none ∧ es = []) ∨ ∃ r es' c, x' = .map (some r) ∧ w.heap[r]? = some (.map es' c) ∧ EL φ es es'.toList := by
  unfold aMapOf at h
  split at h
  · cases hx; injection h with h; subst h; exact .inl ⟨rfl, rfl⟩
  · rename_i b
    cases hx with
    | map hp =>
    split at h
    · rename_i ho
      injection h with h; subst h
      obtain ⟨es', h1, h2⟩ := hr.obj _ _ _ hp ho
      exact .inr ⟨_, es', _, rfl, h1, h2⟩
    · exact (fail_some h).elim
  · exact (fail_some h).elim
omit hE in
theorem checkKey_ok {t : TypeId} {kd : TypeDesc} {k : Value} (ht : P.underlying t = some kd) (hk : keyTy kd k = true) (b : Bool) (w : World) : (Instr.checkKey b 10000 t k).run P w = .ok () w := by
  show (Instr.checkKey b (9999 + 1) t k).run P w = .ok () w
  unfold Instr.checkKey
  cases k <;> try (simp [keyTy] at hk; done)
  · cases kd <;> simp [keyTy] at hk
    simp [underlying, ht]
  · cases kd <;> simp [keyTy] at hk
    simp [underlying, ht]
omit hE in
theorem findKey_ok {t : TypeId} {kd : TypeDesc} (ht : P.underlying t = some kd) {k : Value} {es' : List MapEntry} {r : Option (Nat × Value)} (h : Instr.findNow kd k es' 0 = some r) (w : World) :
    (Instr.findKey t k es').run P w = .ok r w := by
  simp [Instr.findKey, underlying, ht, h]
theorem aLookup_ok {φ : Phi} {σ : AW} {w : World} (hr : Rel P φ σ w) {t : TypeId} {x x' k k' v : Value} {ok : Bool} (h : aLookup E σ t x k ok = some v) (hx : VR φ x x') (hk : VR φ k k') :
    ∃ v', VR φ v v' ∧ (Instr.lookup t x' k' ok).run P w = .ok v' w := by
  replace h := bnd_some h
  obtain ⟨ty, hty, h⟩ := h
  have ht := ty_ok hE hty
  split at h
  · rename_i kt e hd
    replace h := bnd_some h
    obtain ⟨kty, hkty, h⟩ := h
    replace h := bnd_some h
    obtain ⟨_, hg, h⟩ := h
    replace h := bnd_some h
    obtain ⟨es, hes, h⟩ := h
    replace h := bnd_some h
    obtain ⟨r, hf, h⟩ := h
    have hk1 := guardM_some hg
    have := keyTy_self hk1 hk
    subst this
    have hkt := (ty_ok hE hkty).und
    have T : ∀ (a a' : Value) (b : Bool), VR φ a a' → VR φ (.tuple #[a, .bool b]) (.tuple #[a', .bool b]) := fun a a' b ha => (LR.cons ha (LR.cons (.bool b) (LR.nil φ))).tuple
    obtain ⟨es', hes', hget⟩ : ∃ es' : List MapEntry, EL φ es es' ∧ ∀ v', (∀ u, ((Instr.findKey kt k' es').run P w).andThen (fun r w => match r with | some (_, v) => Result.ok (v, true) w | none => ((zeroValue e).run P w).andThen fun z w => .ok (z, false) w) = .ok u w → v' = (if ok then .tuple #[u.1, .bool u.2] else u.1)) →
        (∃ u, ((Instr.findKey kt k' es').run P w).andThen (fun r w => match r with | some (_, v) => Result.ok (v, true) w | none => ((zeroValue e).run P w).andThen fun z w => .ok (z, false) w) = .ok u w) → (Instr.lookup t x' k' ok).run P w = .ok v' w := by
      rcases aMapOf_ok hr hes hx with ⟨rfl, rfl⟩ | ⟨r', es', c, rfl, h1, h2⟩
      · refine ⟨[], EL.nil _, fun v' h1 ⟨u, h2⟩ => ?_⟩
        rw [h1 u h2]
        simp only [Instr.lookup, Sem.run_bind, ht.run_und, hd, Result.andThen_ok, Sem.run_pure, checkKey_ok hkt hk1]
        show ((Instr.findKey kt k' []).run P w).andThen _ = _
        cases hq : (Instr.findKey kt k' []).run P w with
        | halt _ _ => simp [hq] at h2
        | ok q w1 =>
          rw [hq] at h2
          simp only [Result.andThen_ok] at h2
          simp only [Result.andThen_ok]
          cases q with
          | none =>
            simp only [Sem.run_bind] at h2 ⊢
            cases hz : (zeroValue e).run P w1 with
            | halt _ _ => simp [hz] at h2
            | ok z w2 => simp only [hz, Result.andThen_ok, Sem.run_pure] at h2 ⊢; injection h2 with h2 h3; subst h2; subst h3; simp
          | some q => simp only [Sem.run_pure, Result.andThen_ok]; injection h2 with h2 h3; subst h2; subst h3; simp
      · refine ⟨es'.toList, h2, fun v' h3 ⟨u, h4⟩ => ?_⟩
        rw [h3 u h4]
        simp only [Instr.lookup, Sem.run_bind, ht.run_und, hd, Result.andThen_ok, Sem.run_pure, MapKept.run_getObj_map h1, checkKey_ok hkt hk1]
        cases hq : (Instr.findKey kt k' es'.toList).run P w with
        | halt _ _ => simp [hq] at h4
        | ok q w1 =>
          rw [hq] at h4
          simp only [Result.andThen_ok] at h4 ⊢
          cases q with
          | none =>
            simp only [Sem.run_bind] at h4 ⊢
            cases hz : (zeroValue e).run P w1 with
            | halt _ _ => simp [hz] at h4
            | ok z w2 => simp only [hz, Result.andThen_ok, Sem.run_pure] at h4 ⊢; injection h4 with h4 h5; subst h4; subst h5; simp
          | some q => simp only [Sem.run_pure, Result.andThen_ok]; injection h4 with h4 h5; subst h4; subst h5; simp
    have F := aFind_ok hk1 es es' hes' 0 r hf
    split at h
    · obtain ⟨v', e', f1, f2, _⟩ := F
      have f3 := findKey_ok hkt f1 w
      injection h with h; subst h
      refine ⟨if ok then .tuple #[v', .bool true] else v', ?_, hget _ (fun u hu => ?_) ⟨(v', true), ?_⟩⟩
      · cases ok
        · exact f2
        · exact T _ _ _ f2
      · rw [f3] at hu; simp at hu; subst hu; rfl
      · rw [f3]; rfl
    · replace h := bnd_some h
      obtain ⟨z, hz, h⟩ := h
      injection h with h; subst h
      obtain ⟨_, _, _, z1, z2⟩ := aZero_ok hE hz
      have f3 := findKey_ok hkt F w
      refine ⟨if ok then .tuple #[z, .bool false] else z, ?_, hget _ (fun u hu => ?_) ⟨(z, false), ?_⟩⟩
      · cases ok
        · exact z2 _
        · exact T _ _ _ (z2 _)
      · rw [f3] at hu; simp [z1] at hu; subst hu; rfl
      · rw [f3]; simp [z1]
  · exact (fail_some h).elim
omit hE in
theorem setVal_ok {φ : Phi} {k v k' v' : Value} (hk : VR φ k k') (hv : VR φ v v') : ∀ (es : List AEnt) (es' : List MapEntry), EL φ es es' → ∀ i, EL φ (setVal es i k v) (es'.modify i fun e => { e with key := k', val := v' }) := by
  refine EL.rec_ ?_ ?_
  · intro i; cases i <;> exact EL.nil _
  · intro e es e' es' h1 h2 h3 h4 ih i
    cases i with
    | zero => exact EL.cons hk hv h3 h4
    | succ i => exact EL.cons h1 h2 h3 (ih i)
omit hE in
theorem EL.push {φ : Phi} {k v k' v' : Value} (hk : VR φ k k') (hv : VR φ v v') (c : Nat) {es : List AEnt} {es' : List MapEntry} (h : EL φ es es') :
    EL φ (es ++ [{ key := k, val := v, born := c }]) (es' ++ [{ key := k', val := v', born := c }]) :=
  ⟨by simpa using h.1.append (LR.cons hk (LR.nil _)), by simpa using h.2.1.append (LR.cons hv (LR.nil _)), by simp [h.2.2]⟩
omit hE in
theorem sameNow_bits {kd : TypeDesc} {k e : Value} (hk : keyTy kd k = true) (h : Instr.sameNow kd k e = some true) : Instr.sameBits 10000 e k = true := by
  cases kd <;> cases k <;> (try (simp [keyTy] at hk; done)) <;> cases e <;> (try (simp [Instr.sameNow] at h; done))
  · simp only [Instr.sameNow] at h
    split at h
    · rename_i hj; subst hj
      injection h with h
      have := eq_of_beq h
      subst this
      simp [Instr.sameBits]
    · cases h
  · simp only [Instr.sameNow] at h
    injection h with h
    rw [bytes_eq_lists] at h
    simp only [Instr.sameBits, bytes_eq_lists]
    rw [beq_iff_eq] at h ⊢
    exact h.symm
theorem aMapUpdate_ok {φ : Phi} {σ σ' : AW} {w : World} (hr : Rel P φ σ w) {t : TypeId} {m m' k k' v v' : Value} (h : aMapUpdate E σ t m k v = some σ') (hm : VR φ m m') (hk : VR φ k k') (hv : VR φ v v') :
    ∃ w', Post P φ σ w φ σ' w' ∧ (Instr.mapUpdate t m' k' v').run P w = .ok () w' := by
  replace h := bnd_some h
  obtain ⟨ty, hty, h⟩ := h
  have ht := ty_ok hE hty
  split at h
  · rename_i kt e b hd
    replace h := bnd_some h
    obtain ⟨kty, hkty, h⟩ := h
    replace h := bnd_some h
    obtain ⟨_, hg, h⟩ := h
    have hk1 := guardM_some hg
    have := keyTy_self hk1 hk
    subst this
    have hkt := (ty_ok hE hkty).und
    cases hm with
    | map hp =>
    rename_i p
    split at h
    · rename_i es clock ho
      replace h := bnd_some h
      obtain ⟨r, hf, h⟩ := h
      obtain ⟨es', h1, h2⟩ := hr.obj _ _ _ hp ho
      have h2' : EL φ es es'.toList := h2
      have F := aFind_ok hk1 es _ h2' 0 r hf
      have hlt : p.blk < w.heap.size := (hr.lt _ _ hp).2
      have hT : ∀ O : Obj, Turned p.blk w { w with heap := w.heap.setIfInBounds p.blk O } := fun O =>
        ⟨rfl, rfl, rfl, by simp, fun i hi => by simp [Array.getElem?_setIfInBounds_ne (fun e => hi e.symm)]⟩
      split at h
      · rename_i i _
        obtain ⟨u, e', f1, f2, _, f4, f5⟩ := F
        injection h with h; subst h
        refine ⟨{ w with heap := w.heap.setIfInBounds p.blk (.map (es'.modify i fun e => { e with key := k', val := v' }) clock) }, hr.turn hp (by rw [ho]; simp) (hT _) ⟨_, by simp [hlt]; rfl, ?_⟩, ?_⟩
        · have := setVal_ok hk hv es _ h2' i
          show EL φ _ (Array.toList _)
          rw [Array.toList_modify]
          exact this
        · have f6 : es'[i]? = some e' := by simpa using f4
          simp [Instr.mapUpdate, ht.run_und, hd, MapKept.run_getObj_map h1, checkKey_ok hkt hk1, findKey_ok hkt f1 w, Instr.keyThatStays, f6, sameNow_bits hk1 f5, MapKept.run_setObj_map _ h1]
      · injection h with h; subst h
        refine ⟨{ w with heap := w.heap.setIfInBounds p.blk (.map (es'.push { key := k', val := v', born := clock }) (clock + 1)) }, hr.turn hp (by rw [ho]; simp) (hT _) ⟨_, by simp [hlt]; rfl, ?_⟩, ?_⟩
        · show EL φ _ (Array.toList _)
          rw [Array.toList_push]
          exact h2'.push hk hv clock
        · simp [Instr.mapUpdate, ht.run_und, hd, MapKept.run_getObj_map h1, checkKey_ok hkt hk1, findKey_ok hkt F w, MapKept.run_setObj_map _ h1]
    · exact (fail_some h).elim
  · exact (fail_some h).elim
end
end Go.Proofs.Qas
