/- A part of the proof of the card of licitlaw37.ConclusionDiffers. -/
import Derived.Test.YtnpfemnclccbnaaGreatDoorQD
set_option linter.unusedSectionVars false
set_option linter.unusedSimpArgs false
set_option linter.unusedVariables false
namespace Go.Proofs.Qas

def Done (P : Program) (φ : Phi) (σ : AW) (w : World) (v : Value) (σ' : AW) (s : Sem Next) : Prop :=
  ∃ φ' v' w', Post P φ σ w φ' σ' w' ∧ VR φ' v v' ∧ (s.run P w = .ok (.value v') w' ∨ (s.run P w = .ok .skip w' ∧ v' = undef))
theorem Done.of_ran {P : Program} {φ : Phi} {σ σ' : AW} {w : World} {v : Value} {s : Sem Value} {n : Sem Next} (h : Ran P φ σ w v σ' s) (hn : n = (do pure (.value (← s)))) : Done P φ σ w v σ' n := by
  obtain ⟨φ', v', w', h1, h2, h3⟩ := h
  exact ⟨φ', v', w', h1, h2, .inl (by rw [hn]; simp [h3])⟩
theorem Done.of_quiet {P : Program} {φ : Phi} {σ : AW} {w : World} {v : Value} {s : Sem Value} {n : Sem Next} (hr : Rel P φ σ w) (h : ∃ v', VR φ v v' ∧ s.run P w = .ok v' w) (hn : n = (do pure (.value (← s)))) : Done P φ σ w v σ n := by
  obtain ⟨v', h1, h2⟩ := h
  exact .of_ran (.quiet hr h1 h2) hn
theorem undef_VR (φ : Phi) : VR φ undef undef := (LR.nil φ).tuple
theorem Done.of_unit {P : Program} {φ : Phi} {σ σ' : AW} {w : World} {s : Sem Unit} {n : Sem Next} (h : ∃ w', Post P φ σ w φ σ' w' ∧ s.run P w = .ok () w') (hn : n = (do s; pure .skip)) : Done P φ σ w undef σ' n := by
  obtain ⟨w', h1, h2⟩ := h
  exact ⟨φ, undef, w', h1, undef_VR _, .inr ⟨by rw [hn]; simp [h2], rfl⟩⟩

section
variable {P : Program} {E : Env} (hE : Env.Ok P E)
include hE
theorem aStore_ok {φ : Phi} {σ σ' : AW} {w : World} (hr : Rel P φ σ w) {t : TypeId} {x x' v v' : Value} (h : aStore E σ t x v = some σ') (hx : VR φ x x') (hv : VR φ v v') :
    ∃ w', Post P φ σ w φ σ' w' ∧ (Instr.storeAt t x' v').run P w = .ok () w' := by
  unfold aStore at h
  split at h
  · cases hx with
    | ptr hp =>
    replace h := bnd_some h
    obtain ⟨ty, hty, h⟩ := h
    replace h := bnd_some h
    obtain ⟨_, hg, h⟩ := h
    have hl := Nat.eq_of_beq_eq_true (guardM_some hg)
    obtain ⟨w', s1, s2⟩ := aStoreCells_ok h hr hp hv.cells
    have hsz : v'.cells.size = ty.size := by rw [← hl, hv.cells.1]; simp
    exact ⟨w', s2, by simp [Instr.storeAt, Instr.sureAddr, storeVar, (ty_ok hE hty).run_size, hsz, s1]⟩
  · exact (fail_some h).elim
theorem aBuiltin_ok {φ : Phi} {σ σ' : AW} {w : World} (hr : Rel P φ σ w) {b : Builtin} {ts : Array TypeId} {ty : TypeId} {cs : Array Bool} {args args' : List Value} {v : Value} (h : aBuiltin E σ b ts.toList args = some (v, σ')) (hl : LR φ args args') :
    Done P φ σ w v σ' (builtin b ts ty cs args'.toArray) := by
  have one : ∀ {x : Value}, LR φ [x] args' → ∃ x', args' = [x'] ∧ VR φ x x' := fun {x} hl => by
    match args', hl with
    | [x'], hl => exact ⟨x', rfl, hl.uncons.1⟩
    | [], hl => have := hl.1; simp at this
    | _ :: _ :: _, hl => have := hl.1; simp at this
  have two : ∀ {x y : Value}, LR φ [x, y] args' → ∃ x' y', args' = [x', y'] ∧ VR φ x x' ∧ VR φ y y' := fun {x y} hl => by
    match args', hl with
    | [x', y'], hl => exact ⟨x', y', rfl, hl.uncons.1, hl.uncons.2.uncons.1⟩
    | [], hl => have := hl.1; simp at this
    | [_], hl => have := hl.1; simp at this
    | _ :: _ :: _ :: _, hl => have := hl.1; simp at this
  have cons : ∀ {x : Value} {r : List Value}, LR φ (x :: r) args' → ∃ x' r', args' = x' :: r' ∧ VR φ x x' ∧ LR φ r r' := fun {x r} hl => by
    match args', hl with
    | x' :: r', hl => exact ⟨x', r', rfl, hl.uncons.1, hl.uncons.2⟩
    | [], hl => have := hl.1; simp at this
  unfold aBuiltin at h
  split at h
  · obtain ⟨x', rfl, hx⟩ := one hl
    replace h := bnd_some h
    obtain ⟨t, ht, h⟩ := h
    replace h := bnd_some h
    obtain ⟨r, hr1, h⟩ := h
    injection h with h; injection h with h1 h2; subst h1; subst h2
    exact .of_quiet hr ⟨_, aLen_ok hE hr (ofOpt_some ht) hr1 hx⟩ rfl
  · obtain ⟨x', rfl, hx⟩ := one hl
    replace h := bnd_some h
    obtain ⟨t, ht, h⟩ := h
    replace h := bnd_some h
    obtain ⟨r, hr1, h⟩ := h
    injection h with h; injection h with h1 h2; subst h1; subst h2
    exact .of_quiet hr ⟨_, aCap_ok hE (ofOpt_some ht) hr1 hx⟩ rfl
  · obtain ⟨x', y', rfl, hx, hy⟩ := two hl
    exact .of_ran (aAppend_ok hE hr h hx hy) rfl
  · obtain ⟨x', y', rfl, hx, hy⟩ := two hl
    exact .of_ran (aCopy_ok hE hr h hx hy) rfl
  · obtain ⟨x', r', rfl, hx, hy⟩ := cons hl
    replace h := bnd_some h
    obtain ⟨t, ht, h⟩ := h
    injection h with h; injection h with h1 h2; subst h1; subst h2
    obtain ⟨v', h1, h2⟩ := aMin_ok _ _ _ _ _ ht hx hy
    exact .of_quiet hr ⟨v', h1, by simpa [Builtin.min_] using h2 w⟩ rfl
  · obtain ⟨x', r', rfl, hx, hy⟩ := cons hl
    replace h := bnd_some h
    obtain ⟨t, ht, h⟩ := h
    injection h with h; injection h with h1 h2; subst h1; subst h2
    obtain ⟨v', h1, h2⟩ := aMax_ok _ _ _ _ _ ht hx hy
    exact .of_quiet hr ⟨v', h1, by simpa [Builtin.max_] using h2 w⟩ rfl
  · obtain ⟨x', rfl, hx⟩ := one hl
    injection h with h; injection h with h1 h2; subst h1; subst h2
    cases hx
    exact .of_quiet hr ⟨_, .ptrNil, rfl⟩ rfl
  · obtain ⟨x', rfl, hx⟩ := one hl
    injection h with h; injection h with h1 h2; subst h1; subst h2
    cases hx with
    | slice hp hn h0 h1 =>
    exact .of_quiet hr ⟨_, .ptr hp, Lib.run_unsafeSliceData_row w ts ty _ _ _ (by omega)⟩ rfl
  · obtain ⟨x', y', rfl, hx, hy⟩ := two hl
    exact .of_ran (aUnsafeString_ok hE hr h hx hy) rfl
  · exact (fail_some h).elim
omit hE in
theorem aParts_ok {φ : Phi} {ρ : Operand → M Value} {ρ' : Operand → Value} (hρ : ∀ x v, ρ x = some v → VR φ v (ρ' x)) : ∀ (ps : List (Nat × Operand)) (l : List (Nat × Value)), aParts ρ ps = some l → PLR φ l (ps.map fun (i, x) => (i, ρ' x))
  | [], l, h => by
    rw [aParts, mapM'_nil] at h; injection h with h; subst h
    exact ⟨rfl, LR.nil _⟩
  | (i, x) :: ps, l, h => by
    rw [aParts, mapM'_cons] at h
    replace h := bnd_some h
    obtain ⟨y, hy, h⟩ := h
    replace h := bnd_some h
    obtain ⟨ys, hys, h⟩ := h
    injection h with h; subst h
    replace hy := bnd_some hy
    obtain ⟨v, hv, hy⟩ := hy
    injection hy with hy; subst hy
    obtain ⟨a, b⟩ := aParts_ok hρ ps ys hys
    exact ⟨by simpa using a, by simpa using LR.cons (hρ x v hv) b⟩
theorem aExec_ok {φ : Phi} {σ σ' : AW} {w : World} (hr : Rel P φ σ w) {ρ : Operand → M Value} {ρ' : Operand → Value} (hρ : ∀ x v, ρ x = some v → VR φ v (ρ' x)) {o : Oper} {v : Value} (h : aExec E ρ o.op σ = some (v, σ')) :
    Done P φ σ w v σ' (execOp ρ' o) := by
  unfold aExec opF at h
  split at h <;> simp only [runFX] at h
  · rename_i x ho
    replace h := bnd_some h
    obtain ⟨y, hy, h⟩ := h
    injection h with h; injection h with h1 h2; subst h1; subst h2
    exact ⟨φ, _, w, Post.refl hr, hρ x y hy, .inl (by simp [execOp, ho])⟩
  · rename_i x ho
    replace h := bnd_some h
    obtain ⟨y, hy, h⟩ := h
    injection h with h; injection h with h1 h2; subst h1; subst h2
    exact ⟨φ, _, w, Post.refl hr, hρ x y hy, .inl (by simp [execOp, ho])⟩
  · rename_i c a b ho
    replace h := bnd_some h
    obtain ⟨t, ht, h⟩ := h
    have hc := hρ c t ht
    split at h
    · replace h := bnd_some h
      obtain ⟨y, hy, h⟩ := h
      injection h with h; injection h with h1 h2; subst h1; subst h2
      cases hc' : ρ' c <;> rw [hc'] at hc <;> cases hc
      exact ⟨φ, _, w, Post.refl hr, hρ a y hy, .inl (by simp [execOp, ho, hc', asBool])⟩
    · replace h := bnd_some h
      obtain ⟨y, hy, h⟩ := h
      injection h with h; injection h with h1 h2; subst h1; subst h2
      cases hc' : ρ' c <;> rw [hc'] at hc <;> cases hc
      exact ⟨φ, _, w, Post.refl hr, hρ b y hy, .inl (by simp [execOp, ho, hc', asBool])⟩
    · exact (fail_some h).elim
  · rename_i e ho
    replace h := bnd_some h
    obtain ⟨z, hz, h⟩ := h
    injection h with h; injection h with h1 h2; subst h1; subst h2
    exact .of_ran (ex_alloc hE hr hz) (by simp [execOp, ho])
  · rename_i e x ho
    replace h := bnd_some h
    obtain ⟨ty, hty, h⟩ := h
    replace h := bnd_some h
    obtain ⟨y, hy, h⟩ := h
    injection h with h; injection h with h1 h2; subst h1; subst h2
    exact .of_ran (ex_box hE hr hty (hρ x y hy)) (by simp [execOp, ho])
  · rename_i t ps ho
    replace h := bnd_some h
    obtain ⟨l, hl, h⟩ := h
    replace h := bnd_some h
    obtain ⟨y, hy, h⟩ := h
    injection h with h; injection h with h1 h2; subst h1; subst h2
    have := aBuild_ok hE hy (aParts_ok hρ _ _ hl) w
    exact .of_quiet hr this (by simp [execOp, ho]; congr 2; simp [← List.map_toArray])
  · rename_i t n ps ho
    replace h := bnd_some h
    obtain ⟨l, hl, h⟩ := h
    have := aBuildSlice_ok hE hr h (aParts_ok hρ _ _ hl)
    exact .of_ran this (by simp [execOp, ho]; congr 2; simp [← List.map_toArray])
  · rename_i t a ho
    replace h := bnd_some h
    obtain ⟨x, hx, h⟩ := h
    replace h := bnd_some h
    obtain ⟨y, hy, h⟩ := h
    injection h with h; injection h with h1 h2; subst h1; subst h2
    obtain ⟨v', a1, a2, _⟩ := aLoad_ok hE hy hr (hρ a x hx)
    exact .of_quiet hr ⟨v', a1, a2⟩ (by simp [execOp, ho])
  · rename_i t a x ho
    replace h := bnd_some h
    obtain ⟨p, hp, h⟩ := h
    replace h := bnd_some h
    obtain ⟨y, hy, h⟩ := h
    replace h := bnd_some h
    obtain ⟨σ2, hs, h⟩ := h
    injection h with h; injection h with h1 h2; subst h1; subst h2
    exact .of_unit (aStore_ok hE hr hs (hρ a p hp) (hρ x y hy)) (by simp [execOp, ho])
  · rename_i x ho
    replace h := bnd_some h
    obtain ⟨y, hy, h⟩ := h
    replace h := bnd_some h
    obtain ⟨r, hr1, h⟩ := h
    injection h with h; injection h with h1 h2; subst h1; subst h2
    obtain ⟨v', a1, a2⟩ := aNilCheck_ok hE hr1 (hρ x y hy) ho w
    exact ⟨φ, v', w, Post.refl hr, a1, .inl a2⟩
  · rename_i op t x y _ ho
    replace h := bnd_some h
    obtain ⟨a, ha, h⟩ := h
    replace h := bnd_some h
    obtain ⟨b, hb, h⟩ := h
    replace h := bnd_some h
    obtain ⟨r, hr1, h⟩ := h
    injection h with h; injection h with h1 h2; subst h1; subst h2
    have := aBin_ok hE (binF_eq _ _ _ _ _ _ _ hr1) (hρ x a ha) (hρ y b hb) w
    exact .of_quiet hr ⟨_, this⟩ (by simp only [execOp, ho])
  · rename_i op _ x ho
    replace h := bnd_some h
    obtain ⟨a, ha, h⟩ := h
    replace h := bnd_some h
    obtain ⟨r, hr1, h⟩ := h
    injection h with h; injection h with h1 h2; subst h1; subst h2
    exact .of_quiet hr ⟨_, aUn_ok hr1 (hρ x a ha) w⟩ (by simp [execOp, ho])
  · rename_i s d x ho
    replace h := bnd_some h
    obtain ⟨a, ha, h⟩ := h
    exact .of_ran (aConvert_ok hE hr h (hρ x a ha)) (by simp [execOp, ho])
  · rename_i f first cap ho
    unfold xMakeFunc at h
    split at h
    · rename_i g
      replace h := bnd_some h
      obtain ⟨a, ha, h⟩ := h
      replace h := bnd_some h
      obtain ⟨c, hc, h⟩ := h
      injection h with h; injection h with h1 h2; subst h1; subst h2
      have l1 := mapM'_LR hρ _ _ ha
      have l2 := mapM'_LR hρ _ _ hc
      refine .of_quiet hr (s := Instr.makeFunc (.func g) (first.map ρ') (cap.map ρ')) ⟨_, ?_, rfl⟩ (by simp [execOp, ho])
      refine .func _ (by have := l1.1; simpa using this) (by have := l2.1; simpa using this) (fun i v v' a b => l1.2 i v v' (by simpa using a) (by simpa using b)) (fun i v v' a b => l2.2 i v v' (by simpa using a) (by simpa using b))
    · exact (fail_some h).elim
  · rename_i t r ho
    unfold xMakeMap at h
    split at h
    · injection h with h; injection h with h1 h2; subst h1; subst h2
      refine .of_ran (s := Instr.makeMap t none) ⟨_, .map (some w.heap.size), { w with heap := w.heap.push (.map #[] 0) }, hr.alloc (w' := { w with heap := w.heap.push (.map #[] 0) }) ⟨rfl, rfl, rfl, rfl⟩ rfl ⟨w.heap.size, 0, 0⟩ rfl ⟨#[], by simp, EL.nil _⟩, VR.map (p := ⟨w.heap.size, 0, 0⟩) (Phi.upd_same _ _ _), by simp [Instr.makeMap]⟩ (by simp [execOp, ho])
    · exact (fail_some h).elim
  · rename_i t l c ho
    replace h := bnd_some h
    obtain ⟨a, ha, h⟩ := h
    replace h := bnd_some h
    obtain ⟨b, hb, h⟩ := h
    exact .of_ran (aMakeSlice_ok hE hr h (hρ l a ha) (hρ c b hb)) (by simp [execOp, ho])
  · rename_i t x lo hi mx ho
    replace h := bnd_some h
    obtain ⟨_, hg, h⟩ := h
    replace h := bnd_some h
    obtain ⟨a, ha, h⟩ := h
    replace h := bnd_some h
    obtain ⟨l1, hl1, h⟩ := h
    replace h := bnd_some h
    obtain ⟨l2, hl2, h⟩ := h
    replace h := bnd_some h
    obtain ⟨l3, hl3, h⟩ := h
    replace h := bnd_some h
    obtain ⟨r, hr1, h⟩ := h
    injection h with h; injection h with h1 h2; subst h1; subst h2
    have o1 := optM_ok hρ hl1
    have o2 := optM_ok hρ hl2
    have o3 := optM_ok hρ hl3
    have hm := guardM_some hg
    refine .of_quiet hr (aSlice_ok hE hr hr1 (hρ x a ha) o1 o2 o3 ?_) (by simp [execOp, ho])
    intro h3
    cases hi with
    | some _ => cases l2 with
      | some _ => rfl
      | none => cases o2
    | none => cases mx with
      | none => cases l3 with
        | none => simp at h3
        | some _ => cases o3
      | some _ => simp [maxOk] at hm
  · rename_i s x f ho
    replace h := bnd_some h
    obtain ⟨a, ha, h⟩ := h
    replace h := bnd_some h
    obtain ⟨r, hr1, h⟩ := h
    injection h with h; injection h with h1 h2; subst h1; subst h2
    exact .of_quiet hr (aFieldAddr_ok hE hr1 (hρ x a ha) w) (by simp [execOp, ho])
  · rename_i s x f ho
    replace h := bnd_some h
    obtain ⟨a, ha, h⟩ := h
    replace h := bnd_some h
    obtain ⟨r, hr1, h⟩ := h
    injection h with h; injection h with h1 h2; subst h1; subst h2
    exact .of_quiet hr (aField_ok hE hr1 (hρ x a ha) w) (by simp [execOp, ho])
  · rename_i s x f ho
    replace h := bnd_some h
    obtain ⟨a, ha, h⟩ := h
    replace h := bnd_some h
    obtain ⟨b, hb, h⟩ := h
    replace h := bnd_some h
    obtain ⟨r, hr1, h⟩ := h
    injection h with h; injection h with h1 h2; subst h1; subst h2
    exact .of_quiet hr (aIndexAddr_ok hE hr1 (hρ x a ha) (hρ f b hb) w) (by simp [execOp, ho])
  · rename_i s x f ho
    replace h := bnd_some h
    obtain ⟨a, ha, h⟩ := h
    replace h := bnd_some h
    obtain ⟨b, hb, h⟩ := h
    replace h := bnd_some h
    obtain ⟨r, hr1, h⟩ := h
    injection h with h; injection h with h1 h2; subst h1; subst h2
    exact .of_quiet hr (aIndex_ok hE hr1 (hρ x a ha) (hρ f b hb) w) (by simp [execOp, ho])
  · rename_i t x k ok ho
    replace h := bnd_some h
    obtain ⟨a, ha, h⟩ := h
    replace h := bnd_some h
    obtain ⟨b, hb, h⟩ := h
    replace h := bnd_some h
    obtain ⟨r, hr1, h⟩ := h
    injection h with h; injection h with h1 h2; subst h1; subst h2
    exact .of_quiet hr (aLookup_ok hE hr hr1 (hρ x a ha) (hρ k b hb)) (by simp [execOp, ho])
  · rename_i t m k x ho
    replace h := bnd_some h
    obtain ⟨a, ha, h⟩ := h
    replace h := bnd_some h
    obtain ⟨b, hb, h⟩ := h
    replace h := bnd_some h
    obtain ⟨c, hc, h⟩ := h
    replace h := bnd_some h
    obtain ⟨σ2, hs, h⟩ := h
    injection h with h; injection h with h1 h2; subst h1; subst h2
    exact .of_unit (aMapUpdate_ok hE hr hs (hρ m a ha) (hρ k b hb) (hρ x c hc)) (by simp [execOp, ho])
  · rename_i t m k x ho
    replace h := bnd_some h
    obtain ⟨a, ha, h⟩ := h
    replace h := bnd_some h
    obtain ⟨b, hb, h⟩ := h
    replace h := bnd_some h
    obtain ⟨c, hc, h⟩ := h
    replace h := bnd_some h
    obtain ⟨σ2, hs, h⟩ := h
    injection h with h; injection h with h1 h2; subst h1; subst h2
    exact .of_unit (aMapUpdate_ok hE hr hs (hρ m a ha) (hρ k b hb) (hρ x c hc)) (by simp [execOp, ho])
  · rename_i t x ho
    replace h := bnd_some h
    obtain ⟨a, ha, h⟩ := h
    exact .of_ran (aRange_ok hE hr h (hρ x a ha)) (by simp [execOp, ho])
  · rename_i it b ho
    replace h := bnd_some h
    obtain ⟨a, ha, h⟩ := h
    exact .of_ran (aNext_ok (ty := o.type) hr h (hρ it a ha)) (by simp only [execOp, ho])
  · rename_i it ho
    replace h := bnd_some h
    obtain ⟨a, ha, h⟩ := h
    exact .of_ran (aEntry_ok hr h (hρ it a ha)) (by simp [execOp, ho])
  · rename_i x i ho
    replace h := bnd_some h
    obtain ⟨a, ha, h⟩ := h
    have hx := hρ x a ha
    split at h
    · rename_i vs
      replace h := bnd_some h
      obtain ⟨r, hr1, h⟩ := h
      injection h with h; injection h with h1 h2; subst h1; subst h2
      cases hx' : ρ' x <;> rw [hx'] at hx <;> cases hx
      rename_i cs hc hh
      obtain ⟨v', e1, e2⟩ := (LR.of_array hc hh).at_ (ofOpt_some hr1)
      refine .of_quiet hr (s := Instr.extract (.tuple cs) i) ⟨v', e2, ?_⟩ (by simp [execOp, ho, hx'])
      simp at e1
      simp [Instr.extract, e1]
    · exact (fail_some h).elim
  · rename_i c ho
    split at h
    · rename_i b hb
      replace h := bnd_some h
      obtain ⟨args, ha, h⟩ := h
      have l1 := mapM'_LR hρ _ _ ha
      have := aBuiltin_ok hE hr (ty := o.type) (cs := c.args.map fun | .const _ => true | _ => false) h l1
      have e : (List.map ρ' c.args.toList).toArray = c.args.map ρ' := by simp [← List.map_toArray]
      rw [e] at this
      obtain ⟨φ', v', w', p1, p2, p3⟩ := this
      refine ⟨φ', v', w', p1, p2, ?_⟩
      have e2 : (execOp ρ' o).run P w = (builtin b c.argTypes o.type (c.args.map fun | .const _ => true | _ => false) (c.args.map ρ')).run P w := by
        simp [execOp, ho, resolve, hb, invoke]
        rfl
      rw [e2]; exact p3
    · exact (fail_some (s := "call") h).elim
  · exact (fail_some h).elim
end
end Go.Proofs.Qas
namespace Go.Proofs.Qas

def fr (fn : FuncId) (ro : Option Nat) (t : Array Value) (ds : List Deferred) (todo : List Item) : Frame :=
  { fn := fn, tmps := t, todo := todo, defers := ds, mode := .run, kind := .normal, roundOf := ro }
def evalT (t : Array Value) : Operand → Value
  | .tmp i => t.getD i undef
  | .const v => v
  | .global g => .pointer (some ⟨g, 0, none⟩)
  | .func f => .func (.func f) #[] #[]
def putT (t : Array Value) (d : Option Tmp) (v : Value) : Array Value := match d with | some d => t.setIfInBounds d v | none => t
theorem eval_fr (fn : FuncId) (ro : Option Nat) (t : Array Value) (ds : List Deferred) (todo : List Item) : (fr fn ro t ds todo).eval = evalT t := by
  funext x; cases x <;> rfl
theorem finish_fr (fn : FuncId) (ro : Option Nat) (t : Array Value) (ds : List Deferred) (ops : Array Oper) (i : Nat) (rest : List Nat) (k : List Item) (v : Value) :
    (fr fn ro t ds (.inRegion ops (i :: rest) :: k)).finish v = fr fn ro (putT t ((ops[i]?).bind (·.dst)) v) ds (.inRegion ops rest :: k) := by
  cases h : (ops[i]?).bind (·.dst) <;> simp [Frame.finish, fr, putT, h]

def Runs (P : Program) (c : Frame) (cs : List Frame) (s : Sem Next) (w w' : World) (v : Value) : Prop :=
  s.run P w = .ok (.value v) w' ∨ (s.run P w = .ok .skip w' ∧ v = undef) ∨
  (∃ f args w1, s.run P w = .ok (.enter f args) w1 ∧ Steps P (lone (Frame.enter P f args .normal) (c :: cs) w1) (lone (c.finish v) cs w')) ∨
  (∃ l f t as b w1, s.run P w = .ok (.round l f t as b) w1 ∧ Steps P (lone (Frame.round l f t as b .normal) (c :: cs) w1) (lone (c.finish v) cs w'))
theorem Runs.congr {P : Program} {c : Frame} {cs : List Frame} {s s' : Sem Next} {w w' : World} {v : Value} (h : Runs P c cs s w w' v) (e : s'.run P w = s.run P w) : Runs P c cs s' w w' v := by
  unfold Runs at *; rw [e]; exact h
theorem run_steps {P : Program} {F F0 : Frame} {cs : List Frame} {s : Sem Next} {w w' w0 : World} {v : Value} (h : Runs P F cs s w w' v)
    (hF : (stepG P true { frame := F0, callers := cs, status := .running, dying := none } w0).bare = (stepG.apply P true F cs none s w).bare)
    (hk : (∃ ops l k, F.todo = .inRegion ops l :: k) ∨ (∃ l k, F.todo = .inRangeFunc l :: k)) : Steps P (lone F0 cs w0) (lone (F.finish v) cs w') := by
  rcases h with h | ⟨h, rfl⟩ | ⟨f, args, w1, h, hc⟩ | ⟨l, f, t, as, b, w1, h, hc⟩
  · exact .one (step_lone_go (by rw [hF]; simp [stepG.apply, h]))
  · exact .one (step_lone_go (by rw [hF]; simp [stepG.apply, h]))
  · refine .head (step_lone_go (fr' := Frame.enter P f args .normal) (cs' := F :: cs) (w' := w1) ?_) hc
    rw [hF]
    rcases hk with ⟨ops, l, k, hk⟩ | ⟨l, k, hk⟩ <;> simp [stepG.apply, h, hk]
  · refine .head (step_lone_go (fr' := Frame.round l f t as b .normal) (cs' := F :: cs) (w' := w1) ?_) hc
    rw [hF]
    simp [stepG.apply, h]
section
variable {P : Program} {fn : FuncId} {ro : Option Nat} {t : Array Value} {ds : List Deferred} {k : List Item} {cs : List Frame} {w : World} {ops : Array Oper}
theorem step_skip' : Go.step P (lone (fr fn ro t ds (.code .skip :: k)) cs w) = Stepped.next (lone (fr fn ro t ds k) cs w) := step_lone_go (by simp [stepG, stepG.exec, fr])
theorem step_label' {l : Nat} : Go.step P (lone (fr fn ro t ds (.code (.label l) :: k)) cs w) = Stepped.next (lone (fr fn ro t ds k) cs w) := step_lone_go (by simp [stepG, stepG.exec, fr])
theorem step_inBlock' {l : Nat} : Go.step P (lone (fr fn ro t ds (.inBlock l :: k)) cs w) = Stepped.next (lone (fr fn ro t ds k) cs w) := step_lone_go (by simp [stepG, stepG.exec, fr])
theorem step_inScope' {c : Code} : Go.step P (lone (fr fn ro t ds (.inScope c :: k)) cs w) = Stepped.next (lone (fr fn ro t ds k) cs w) := step_lone_go (by simp [stepG, stepG.exec, fr])
theorem step_seq' {x y : Code} : Go.step P (lone (fr fn ro t ds (.code (.seq x y) :: k)) cs w) = Stepped.next (lone (fr fn ro t ds (.code x :: .code y :: k)) cs w) := step_lone_go (by simp [stepG, stepG.exec, fr])
theorem step_block' {id : Nat} {x : Code} : Go.step P (lone (fr fn ro t ds (.code (.block id x) :: k)) cs w) = Stepped.next (lone (fr fn ro t ds (.code x :: .inBlock id :: k)) cs w) := step_lone_go (by simp [stepG, stepG.exec, fr])
theorem step_loop' {x : Code} : Go.step P (lone (fr fn ro t ds (.code (.loop x) :: k)) cs w) = Stepped.next (lone (fr fn ro t ds (.code x :: .inLoop x :: k)) cs w) := step_lone_go (by simp [stepG, stepG.exec, fr])
theorem step_inLoop' {x : Code} : Go.step P (lone (fr fn ro t ds (.inLoop x :: k)) cs w) = Stepped.next (lone (fr fn ro t ds (.code x :: .inLoop x :: k)) cs w) := step_lone_go (by simp [stepG, stepG.exec, fr])
theorem step_scope' {x : Code} : Go.step P (lone (fr fn ro t ds (.code (.scope x) :: k)) cs w) = Stepped.next (lone (fr fn ro t ds (.code x :: .inScope x :: k)) cs w) := step_lone_go (by simp [stepG, stepG.exec, fr])
theorem step_exit' {id : Nat} {k' : List Item} (h : exitTo id k = some k') : Go.step P (lone (fr fn ro t ds (.code (.exit id) :: k)) cs w) = Stepped.next (lone (fr fn ro t ds k') cs w) := step_lone_go (by simp [stepG, stepG.exec, fr, h])
theorem step_cond' {c : Operand} {x y : Code} {b : Bool} (h : evalT t c = .bool b) : Go.step P (lone (fr fn ro t ds (.code (.cond c x y) :: k)) cs w) = Stepped.next (lone (fr fn ro t ds (.code (if b then x else y) :: k)) cs w) :=
  step_lone_go (by
    have := eval_fr fn ro t ds (.code (.cond c x y) :: k)
    have e : (fr fn ro t ds (.code (.cond c x y) :: k)).eval c = .bool b := by rw [this, h]
    simp only [fr] at e
    simp [stepG, stepG.exec, fr, e])
theorem step_region' {id : Nat} : Go.step P (lone (fr fn ro t ds (.code (.region id ops false) :: k)) cs w) = Stepped.next (lone (fr fn ro t ds (.inRegion ops (List.range ops.size) :: k)) cs w) := step_lone_go (by simp [stepG, stepG.exec, fr])
theorem step_region_draw' {id : Nat} (hm : P.follows .mixedOrders = true) : ∃ s, Go.step P (lone (fr fn ro t ds (.code (.region id ops true) :: k)) cs w) = Stepped.next (lone (fr fn ro t ds (.inRegion ops (Region.linearise .any ops s) :: k)) cs { w with drawn := w.drawn + 1 }) :=
  ⟨_, step_lone_go (by simp [stepG, stepG.exec, fr, choose, Sem.run, Question.forced, Question.cut, Region.schedule, hm]; rfl)⟩
theorem step_region_end' : Go.step P (lone (fr fn ro t ds (.inRegion ops [] :: k)) cs w) = Stepped.next (lone (fr fn ro t ds k) cs w) := step_lone_go (by simp [stepG, stepG.exec, fr])
theorem step_op_skip' {i : Nat} {rest : List Nat} (h : ((ops[i]?).map (Region.wanted · (yielded ops t))).getD false = false) :
    Go.step P (lone (fr fn ro t ds (.inRegion ops (i :: rest) :: k)) cs w) = Stepped.next (lone (fr fn ro (putT t ((ops[i]?).bind (·.dst)) undef) ds (.inRegion ops rest :: k)) cs w) := by
  rw [← finish_fr]
  exact step_lone_go (by simp [stepG, stepG.exec, fr, h])
theorem steps_op {i : Nat} {rest : List Nat} {o : Oper} (ho : ops[i]? = some o) (hw : Region.wanted o (yielded ops t) = true) (hd : ∀ c, o.op ≠ .defer c) {v : Value} {w' : World} (h : Runs P (fr fn ro t ds (.inRegion ops (i :: rest) :: k)) cs (execOp (evalT t) o) w w' v) :
    Steps P (lone (fr fn ro t ds (.inRegion ops (i :: rest) :: k)) cs w) (lone (fr fn ro (putT t o.dst v) ds (.inRegion ops rest :: k)) cs w') := by
  have hf := finish_fr fn ro t ds ops i rest k v
  rw [ho] at hf
  have hf' : (fr fn ro t ds (.inRegion ops (i :: rest) :: k)).finish v = fr fn ro (putT t o.dst v) ds (.inRegion ops rest :: k) := hf
  rw [← hf']
  refine run_steps h ?_ (.inl ⟨ops, i :: rest, k, rfl⟩)
  have he := eval_fr fn ro t ds (.inRegion ops (i :: rest) :: k)
  simp only [fr] at he
  obtain ⟨dst, op, type, pos, after, guard⟩ := o
  cases op <;> first
    | (exact (hd _ rfl).elim)
    | (cases ro <;> simp [stepG, stepG.exec, stepG.oper, Frame.oper?, fr, ho, hw, he])
end
end Go.Proofs.Qas
namespace Go.Proofs.Qas

inductive DR (φ : Phi) : List Nat → List Deferred → Prop
  | nil : DR φ [] []
  | cons {d : Nat} {q : PB} {ds : List Nat} {ds' : List Deferred} (h : φ d = some q) (r : DR φ ds ds') : DR φ (d :: ds) ({ target := .collected q.blk, args := #[] } :: ds')
theorem DR.ext {φ φ' : Phi} (e : Ext φ φ') {ds : List Nat} {ds' : List Deferred} (h : DR φ ds ds') : DR φ' ds ds' := by
  induction h with
  | nil => exact .nil
  | cons h _ ih => exact .cons (e _ _ h) ih
def AR (φ : Phi) (a : AAct) (t : Array Value) (ds : List Deferred) : Prop := TR φ a.nt a.tmps t ∧ DR φ a.defers ds
theorem AR.ext {φ φ' : Phi} (e : Ext φ φ') {a : AAct} {t : Array Value} {ds : List Deferred} (h : AR φ a t ds) : AR φ' a t ds := ⟨h.1.ext e, h.2.ext e⟩
theorem AR.put {φ : Phi} {a a' : AAct} {t : Array Value} {ds : List Deferred} (h : AR φ a t ds) {d : Option Tmp} {v v' : Value} (hp : a.put d v = some a') (hv : VR φ v v') : AR φ a' (putT t d v') ds := by
  cases d with
  | none => injection hp with hp; subst hp; exact h
  | some d =>
    obtain ⟨nt, tm, de⟩ := a
    unfold AAct.put at hp
    simp only at hp
    split at hp
    · rename_i hb
      injection hp with hp; subst hp
      exact ⟨h.1.set (blt_iff.1 hb) hv, h.2⟩
    · exact (fail_some hp).elim
theorem AR.eval {φ : Phi} {a : AAct} {t : Array Value} {ds : List Deferred} (h : AR φ a t ds) : ∀ x v, a.eval x = some v → VR φ v (evalT t x) := by
  intro x v hx
  cases x with
  | tmp i =>
    obtain ⟨v', h1, h2⟩ := h.1.2 i v hx
    simpa [evalT, Array.getD_eq_getD_getElem?, h1] using h2
  | const u =>
    simp only [AAct.eval] at hx
    split at hx
    · rename_i hp; injection hx with hx; subst hx; exact plainC_ok hp
    · exact (fail_some hx).elim
  | global g => exact (fail_some (s := "global") hx).elim
  | func f => injection hx with hx; subst hx; exact .func f rfl rfl (fun i v v' a => by simp at a) (fun i v v' a => by simp at a)
inductive Around (φ : Phi) : Option Nat → Option Nat → Prop
  | none : Around φ none none
  | some {l : Nat} {q : PB} (h : φ l = some q) : Around φ (some l) (some q.blk)
theorem Around.ext {φ φ' : Phi} (e : Ext φ φ') {ar ro : Option Nat} (h : Around φ ar ro) : Around φ' ar ro := by
  cases h with
  | none => exact .none
  | some h => exact .some (e _ _ h)

def Arr (P : Program) (e : AExit) (fn : FuncId) (ro : Option Nat) (k : List Item) (cs : List Frame) (m : Machine) (t : Array Value) (ds : List Deferred) (w : World) : Prop :=
  match e with
  | .normal => Steps P m (lone (fr fn ro t ds k) cs w)
  | .ret => ∃ k', Steps P m (lone (fr fn ro t ds (.code .ret :: k')) cs w)
  | .exit id => ∃ k', exitTo id k' = exitTo id k ∧ Steps P m (lone (fr fn ro t ds (.code (.exit id) :: k')) cs w)
theorem Arr.of_steps {P : Program} {e : AExit} {fn : FuncId} {ro : Option Nat} {k : List Item} {cs : List Frame} {m m1 : Machine} {t : Array Value} {ds : List Deferred} {w : World} (h : Steps P m m1) (h1 : Arr P e fn ro k cs m1 t ds w) : Arr P e fn ro k cs m t ds w := by
  cases e with
  | normal => exact h.trans h1
  | ret => obtain ⟨k', h2⟩ := h1; exact ⟨k', h.trans h2⟩
  | exit id => obtain ⟨k', h0, h2⟩ := h1; exact ⟨k', h0, h.trans h2⟩

theorem Arr.weaken {P : Program} {e : AExit} (he : ∀ a, e = a → e ≠ .normal) {fn : FuncId} {ro : Option Nat} {k k1 : List Item} {cs : List Frame} {m : Machine} {t : Array Value} {ds : List Deferred} {w : World} (hk : ∀ id, e = .exit id → exitTo id k1 = exitTo id k) (h : Arr P e fn ro k1 cs m t ds w) : Arr P e fn ro k cs m t ds w := by
  cases e with
  | normal => exact (he _ rfl rfl).elim
  | ret => exact h
  | exit id => obtain ⟨k', h0, h2⟩ := h; exact ⟨k', h0.trans (hk id rfl), h2⟩

structure Sound (P : Program) (E : Env) (rec : Rec) : Prop where
  call : ∀ f args σ v σ', rec (.call f args) σ = some (.val v σ') → ∀ φ w args', Rel P φ σ w → LR φ args args' →
    (callFunc f args'.toArray).run P w = .ok (.enter f args'.toArray) w ∧ Calls P f args'.toArray w fun e w' => ∃ φ' v', e = .returned v' ∧ VR φ' v v' ∧ Post P φ σ w φ' σ' w'
  round : ∀ l args σ v σ', rec (.round l args) σ = some (.val v σ') → ∀ φ w args' q, Rel P φ σ w → LR φ args args' → φ l = some q →
    ∃ f t as b, (Instr.yield q.blk args'.toArray).run P w = .ok (.round q.blk f t as b) w ∧
      ∀ c cs, ∃ φ' v' w', Post P φ σ w φ' σ' w' ∧ VR φ' v v' ∧ Steps P (lone (Frame.round q.blk f t as b .normal) (c :: cs) w) (lone (c.finish v') cs w')
  loop : ∀ fn ar c a σ e a' σ', rec (.loop fn ar c a) σ = some (.act e a' σ') → ∀ φ w t ds ro k cs, Rel P φ σ w → AR φ a t ds → Around φ ar ro →
    ∃ φ' t' ds' w', Post P φ σ w φ' σ' w' ∧ AR φ' a' t' ds' ∧ Arr P e fn ro k cs (lone (fr fn ro t ds (.code c :: .inLoop c :: k)) cs w) t' ds' w'

def Did (P : Program) (c : Frame) (cs : List Frame) (φ : Phi) (σ : AW) (w : World) (v : Value) (σ' : AW) (s : Sem Next) : Prop :=
  ∃ φ' v' w', Post P φ σ w φ' σ' w' ∧ VR φ' v v' ∧ Runs P c cs s w w' v'
theorem Did.of_done {P : Program} {c : Frame} {cs : List Frame} {φ : Phi} {σ σ' : AW} {w : World} {v : Value} {s : Sem Next} (h : Done P φ σ w v σ' s) : Did P c cs φ σ w v σ' s := by
  obtain ⟨φ', v', w', h1, h2, h3 | h3⟩ := h
  · exact ⟨φ', v', w', h1, h2, .inl h3⟩
  · exact ⟨φ', v', w', h1, h2, .inr (.inl h3)⟩
section
variable {P : Program} {E : Env} (hE : Env.Ok P E) {rec : Rec} (hs : Sound P E rec)
include hE hs
theorem callFn_ok {φ : Phi} {σ σ' : AW} {w : World} (hr : Rel P φ σ w) {f : FuncId} {args args' : List Value} {v : Value} (h : callFn E rec f args σ = some (v, σ')) (hl : LR φ args args') (c : Frame) (cs : List Frame) :
    Did P c cs φ σ w v σ' (callFunc f args'.toArray) := by
  unfold callFn at h
  split at h
  · rename_i g he
    rcases hE.pures f g he with hx | hx
    · obtain ⟨φ', v', w', h1, h2, h3⟩ := hx φ σ w args args' v σ' hr hl h
      exact ⟨φ', v', w', h1, h2, .inl h3⟩
    · obtain ⟨h4, h5⟩ := hx
      obtain ⟨e, w', F, ⟨φ', v', rfl, h6, h7⟩, h8, _, h9⟩ := h5 φ σ w args args' v σ' hr hl h (c :: cs)
      refine ⟨φ', v', w', h7, h6, .inr (.inr (.inl ⟨f, _, w, h4 _ _, ?_⟩))⟩
      exact Steps.trans h8 (.one (step_leave_returned h9))
  split at h
  · rename_i s he
    obtain ⟨φ', v', w', h1, h2, h3⟩ := hE.exts f s he φ σ w args args' v σ' hr hl h
    exact ⟨φ', v', w', h1, h2, .inl h3⟩
  · replace h := bnd_some h
    obtain ⟨r, h1, h⟩ := h
    split at h
    · injection h with h; injection h with h2 h3; subst h2; subst h3
      obtain ⟨h4, h5⟩ := hs.call f args σ _ _ h1 φ w args' hr hl
      obtain ⟨e, w', F, ⟨φ', v', rfl, h6, h7⟩, h8, _, h9⟩ := h5 (c :: cs)
      refine ⟨φ', v', w', h7, h6, .inr (.inr (.inl ⟨f, _, w, h4, ?_⟩))⟩
      exact Steps.trans h8 (.one (step_leave_returned h9))
    · exact (fail_some h).elim
theorem aCallee_ok {φ : Phi} {σ σ' : AW} {w : World} (hr : Rel P φ σ w) {u u' : Value} {args args' : List Value} {v : Value} (h : aCallee E rec u args σ = some (v, σ')) (hu : VR φ u u') (hl : LR φ args args') (c : Frame) (cs : List Frame) :
    Did P c cs φ σ w v σ' (do let d ← Deferred.ofValue u' args'.toArray; invoke d.target d.args) := by
  unfold aCallee at h
  split at h
  · rename_i f first cap
    cases hu with
    | func _ ha hc h1 h2 =>
    rename_i first' cap'
    have l1 := LR.of_array ha h1
    have l2 := LR.of_array hc h2
    obtain ⟨φ', v', w', p1, p2, p3⟩ := callFn_ok hE hs hr h ((l1.append hl).append l2) c cs
    refine ⟨φ', v', w', p1, p2, p3.congr ?_⟩
    have : (first'.toList ++ args' ++ cap'.toList).toArray = first' ++ args'.toArray ++ cap' := by simp
    rw [this]
    simp [Deferred.ofValue, invoke]
  · rename_i l _ _
    cases hu with
    | yield hq =>
    rename_i q
    replace h := bnd_some h
    obtain ⟨r, h1, h⟩ := h
    split at h
    · injection h with h; injection h with h2 h3; subst h2; subst h3
      obtain ⟨f, t, as, b, h4, h5⟩ := hs.round l args σ _ _ h1 φ w args' q hr hl hq
      obtain ⟨φ', v', w', p1, p2, p3⟩ := h5 c cs
      refine ⟨φ', v', w', p1, p2, .inr (.inr (.inr ⟨q.blk, f, t, as, b, w, ?_, p3⟩))⟩
      simpa [Deferred.ofValue, invoke] using h4
    · exact (fail_some h).elim
  · exact (fail_some h).elim
theorem aCall_ok {φ : Phi} {σ σ' : AW} {w : World} (hr : Rel P φ σ w) {ρ : Ev} {ρ' : Operand → Value} (hρ : ∀ x v, ρ x = some v → VR φ v (ρ' x)) {f : Operand} {args : List Operand} {v : Value} (h : aCall E rec ρ f args σ = some (v, σ')) (c : Frame) (cs : List Frame)
    {o : Oper} (ho : callOf o.op = some (f, args)) : Did P c cs φ σ w v σ' (execOp ρ' o) := by
  replace h := bnd_some h
  obtain ⟨u, hu, h⟩ := h
  replace h := bnd_some h
  obtain ⟨as, ha, h⟩ := h
  obtain ⟨φ', v', w', p1, p2, p3⟩ := aCallee_ok hE hs hr h (hρ f u hu) (mapM'_LR hρ _ _ ha) c cs
  refine ⟨φ', v', w', p1, p2, p3.congr ?_⟩
  unfold callOf at ho
  split at ho
  · rename_i cl hop
    split at ho
    · rename_i g hc
      injection ho with ho; injection ho with h1 h2; subst h1; subst h2
      have : (List.map ρ' cl.args.toList).toArray = cl.args.map ρ' := by simp [← List.map_toArray]
      rw [this]
      simp [execOp, hop, resolve, hc]
    · cases ho
  · cases ho

theorem aOper_ok {φ : Phi} {σ σ' : AW} {w : World} (hr : Rel P φ σ w) {ρ : Ev} {ρ' : Operand → Value} (hρ : ∀ x v, ρ x = some v → VR φ v (ρ' x)) {o : Oper} {v : Value} (h : aOper E rec ρ o.op σ = some (v, σ')) (c : Frame) (cs : List Frame) :
    Did P c cs φ σ w v σ' (execOp ρ' o) ∧ ∀ cl, o.op ≠ .defer cl := by
  unfold aOper at h
  split at h
  · rename_i f args ho
    refine ⟨aCall_ok hE hs hr hρ h c cs ho, fun cl e => ?_⟩
    rw [e] at ho; simp [callOf] at ho
  · refine ⟨.of_done (aExec_ok hE hr hρ h), fun cl e => ?_⟩
    rw [e] at h
    exact fail_some (s := "op") h
end
end Go.Proofs.Qas
namespace Go.Proofs.Qas

theorem opRun_some {E : Env} {d : Option Tmp} {op : Op} {k : FO} {rec : Rec} {a : AAct} {σ : AW} {r : AAct × AW} (h : runFO (opRun E d op k) rec a σ = some r) :
    ∃ v σ' a', aOper E rec a.eval op σ = some (v, σ') ∧ a.put d v = some a' ∧ runFO k rec a' σ' = some r := by
  unfold opRun at h
  split at h
  · rename_i x hm
    replace h := bnd_some h
    obtain ⟨v, hv, h⟩ := h
    replace h := bnd_some h
    obtain ⟨a', ha, h⟩ := h
    refine ⟨v, σ, a', ?_, ha, h⟩
    unfold moveOf at hm
    split at hm <;> first
      | (cases hm; simp [aOper, callOf, aExec, opF, runFX, xMove, hv, bnd])
      | cases hm
  · split at h
    · rename_i f args hc
      replace h := bnd_some h
      obtain ⟨⟨v, σ'⟩, hv, h⟩ := h
      replace h := bnd_some h
      obtain ⟨a', ha, h⟩ := h
      exact ⟨v, σ', a', by simp [aOper, hc, hv], ha, h⟩
    · rename_i hc
      replace h := bnd_some h
      obtain ⟨⟨v, σ'⟩, hv, h⟩ := h
      replace h := bnd_some h
      obtain ⟨a', ha, h⟩ := h
      exact ⟨v, σ', a', by simp [aOper, hc, aExec, hv], ha, h⟩

theorem aWanted_ok {φ : Phi} {a : AAct} {t : Array Value} {ds : List Deferred} (hA : AR φ a t ds) {ops : Array Oper} {o : Oper} {b : Bool} (h : aWanted a (ofOper ops o).guard = some b) : Region.wanted o (yielded ops t) = b := by
  unfold ofOper at h
  unfold Region.wanted
  cases hg : o.guard with
  | none => simp [hg, aWanted] at h; exact h.symm
  | some jw =>
    obtain ⟨j, want⟩ := jw
    simp only [hg] at h
    unfold aWanted at h
    simp only at h
    unfold yielded
    cases hd : (ops[j]?).bind (·.dst) with
    | none => simp only [hd] at h; exact (fail_some h).elim
    | some d =>
      simp only [hd, Option.bind_some] at h ⊢
      split at h
      · rename_i x hx
        obtain ⟨v', h1, h2⟩ := hA.1.2 d _ hx
        cases h2
        injection h with h; subst h
        rw [h1]
        simp
      · rename_i x hx
        obtain ⟨v', h1, h2⟩ := hA.1.2 d _ hx
        cases h2
        injection h with h; subst h
        rw [h1]
        simp
      · exact (fail_some h).elim

section
variable {P : Program} {E : Env} (hE : Env.Ok P E) {rec : Rec} (hs : Sound P E rec)
include hE hs

theorem ops_ok {ops : Array Oper} {fn : FuncId} {ro : Option Nat} {k : List Item} {cs : List Frame} : ∀ (n i : Nat), i + n = ops.size → ∀ (a a' : AAct) (σ σ' : AW), runFO (denOps E (ofOps ops (ops.toList.drop i))) rec a σ = some (a', σ') →
    ∀ φ w t ds, Rel P φ σ w → AR φ a t ds → ∃ φ' t' w', Post P φ σ w φ' σ' w' ∧ AR φ' a' t' ds ∧
      Steps P (lone (fr fn ro t ds (.inRegion ops (List.range' i n) :: k)) cs w) (lone (fr fn ro t' ds (.inRegion ops [] :: k)) cs w')
  | 0, i, hi, a, a', σ, σ', h, φ, w, t, ds, hr, hA => by
    have : ops.toList.drop i = [] := List.drop_eq_nil_of_le (by simp; omega)
    rw [this] at h
    injection h with h; injection h with h1 h2; subst h1; subst h2
    exact ⟨φ, t, w, Post.refl hr, hA, Steps.refl (P := P) _⟩
  | n + 1, i, hi, a, a', σ, σ', h, φ, w, t, ds, hr, hA => by
    have hlt : i < ops.size := by omega
    have hget : ops[i]? = some ops[i] := Array.getElem?_eq_getElem hlt
    have hd : ops.toList.drop i = ops[i] :: ops.toList.drop (i + 1) := by
      rw [List.drop_eq_getElem_cons (by simpa using hlt)]; simp
    rw [hd] at h
    generalize ops[i] = o at hget h
    have e : denOps E (ofOps ops (o :: ops.toList.drop (i + 1))) = opGuard E (ofOper ops o) (denOps E (ofOps ops (ops.toList.drop (i + 1)))) := rfl
    rw [e] at h

    have go : Region.wanted o (yielded ops t) = true → runFO (opRun E (ofOper ops o).dst (ofOper ops o).op (denOps E (ofOps ops (ops.toList.drop (i + 1))))) rec a σ = some (a', σ') → ∃ φ' t' w', Post P φ σ w φ' σ' w' ∧ AR φ' a' t' ds ∧
        Steps P (lone (fr fn ro t ds (.inRegion ops (List.range' i (n + 1)) :: k)) cs w) (lone (fr fn ro t' ds (.inRegion ops [] :: k)) cs w') := by
      intro hw h
      obtain ⟨v, σ1, a1, h1, h2, h3⟩ := opRun_some h
      rw [List.range'_succ]
      obtain ⟨⟨φ1, v', w1, p1, p2, p3⟩, p4⟩ := aOper_ok hE hs hr hA.eval h1 (fr fn ro t ds (.inRegion ops (i :: List.range' (i + 1) n) :: k)) cs
      have st := steps_op hget hw p4 p3
      have hA1 := (hA.ext p1.ext).put h2 p2
      obtain ⟨φ', t', w', q1, q2, q3⟩ := ops_ok n (i + 1) (by omega) a1 a' σ1 σ' h3 φ1 w1 _ ds p1.rel hA1
      exact ⟨φ', t', w', p1.trans q1, q2, st.trans q3⟩
    unfold opGuard at h
    split at h
    · rename_i hg
      refine go ?_ h
      have : o.guard = none := by
        unfold ofOper at hg
        cases ho : o.guard with
        | none => rfl
        | some x => simp [ho] at hg
      simp [Region.wanted, this]
    · rename_i g hg
      replace h := bnd_some h
      obtain ⟨b, hb, h⟩ := h
      have hw := aWanted_ok hA (hg ▸ hb)
      split at h
      · replace h := bnd_some h
        obtain ⟨a1, h1, h2⟩ := h
        rw [List.range'_succ]
        have hA1 := hA.put h1 (undef_VR φ)
        obtain ⟨φ', t', w', q1, q2, q3⟩ := ops_ok n (i + 1) (by omega) a1 a' σ σ' h2 φ w _ ds hr hA1
        refine ⟨φ', t', w', q1, q2, .head ?_ q3⟩
        have := step_op_skip' (P := P) (fn := fn) (ro := ro) (t := t) (ds := ds) (k := k) (cs := cs) (w := w) (ops := ops) (i := i) (rest := List.range' (i + 1) n) (by simp [hget, hw])
        rw [hget] at this
        exact this
      · exact go hw h
end
end Go.Proofs.Qas
