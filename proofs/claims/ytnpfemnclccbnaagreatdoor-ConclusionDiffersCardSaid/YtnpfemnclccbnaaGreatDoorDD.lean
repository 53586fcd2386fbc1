/- A part of the proof of the card of licitlaw37.ConclusionDiffers. -/
import Derived.Test.YtnpfemnclccbnaaGreatDoorDC
import Derived.Below
import Derived.Laws.OwnMore
import Derived.Deep.AppendLies
import Derived.Deep.Draws
import Derived.Maps.AppendAt
import Derived.RegionTactic
import Derived.OwnWalk
import Derived.Lib.MinMax
namespace Go.Proofs.Dif
open Go.RowKit
theorem block_of_add (a : Addr) (n : Nat) : (a.add n).block = a.block := by unfold Addr.add; split <;> rfl
theorem add_of_add (a : Addr) (i j : Nat) : (a.add i).add j = a.add (i + j) := by
  unfold Addr.add
  by_cases hi : i = 0 <;> by_cases hj : j = 0 <;> simp [hi, hj, Nat.add_assoc]

def Reads (w : World) (B size : Nat) (A : Option Addr) (n : Nat) (xs : List Value) : Prop :=
  xs.length = n * size ∧ (0 < n → ∃ ad, A = some ad ∧ ad.block < B ∧ ∀ j u, xs[j]? = some u → w.cell? (ad.add j) = some u)

section
variable {w w' : World} {B B' size n : Nat} {A : Option Addr} {xs : List Value}
theorem Reads.none_ : Reads w B size A 0 [] := ⟨by simp, fun h => absurd h (by omega)⟩
theorem Reads.at_ {k : Nat} (h : Reads w B 1 A n xs) (hk : k < n) : ∃ ad u, A = some ad ∧ ad.block < B ∧ xs[k]? = some u ∧ w.cell? (ad.add k) = some u := by
  obtain ⟨ad, e, hb, hc⟩ := h.2 (by omega)
  have hl : k < xs.length := by have := h.1; omega
  exact ⟨ad, xs[k], e, hb, List.getElem?_eq_getElem hl, hc k _ (List.getElem?_eq_getElem hl)⟩
theorem Reads.keep (h : Reads w B size A n xs) (hk : ∀ p : Addr, p.block < B → w'.cell? p = w.cell? p) : Reads w' B size A n xs :=
  ⟨h.1, fun hn => by
    obtain ⟨ad, e, hb, hc⟩ := h.2 hn
    exact ⟨ad, e, hb, fun j u hu => (hk _ (by rw [block_of_add]; exact hb)).trans (hc j u hu)⟩⟩
theorem Reads.more (h : Reads w B size A n xs) (hB : B ≤ B') : Reads w B' size A n xs :=
  ⟨h.1, fun hn => by
    obtain ⟨ad, e, hb, hc⟩ := h.2 hn
    exact ⟨ad, e, by omega, hc⟩⟩
theorem Reads.below (h : Reads w B size A n xs) (hb : Below B w w') : Reads w' B size A n xs := h.keep fun _ hp => hb.cell hp
theorem Reads.drew (h : Reads w B size A n xs) : Reads w.drew B size A n xs := h
theorem Reads.drewN (h : Reads w B size A n xs) (k : Nat) : Reads (w.drewN k) B size A n xs := h
theorem Reads.alloc (h : Reads w B size A n xs) (hB : B ≤ w.heap.size) (o : Obj) : Reads (w.alloc o) B size A n xs := h.keep fun p hp => World.cell?_alloc_lt w o p (by omega)
theorem Reads.setCell (h : Reads w B size A n xs) {p : Addr} (hB : B ≤ p.block) (u : Value) : Reads (w.setCell p u) B size A n xs :=
  h.keep fun q hq => World.cell?_setCell_other w p q u (fun e => by subst e; omega)
theorem Reads.grown (h : Reads w B size A n xs) {row : Option Nat} (hg : w.grownBy w' row) (hB : B ≤ w.heap.size) (hr : ∀ g, row = some g → B ≤ g) : Reads w' B size A n xs :=
  h.keep fun p hp => World.cell?_of_block (hg.block p.block (by omega) (fun e => by have := hr _ e.symm; omega))
theorem Reads.cut (h : Reads w B size A n xs) {k cap : Nat} (hk : k ≤ n) (hc : n ≤ cap) :
    Reads w B size (if cap = k then A else A.map (·.add (k * size))) (n - k) (xs.drop (k * size)) := by
  refine ⟨by rw [List.length_drop, h.1, Nat.sub_mul], fun hn => ?_⟩
  obtain ⟨ad, rfl, hb, hcell⟩ := h.2 (by omega)
  rw [if_neg (by omega)]
  refine ⟨ad.add (k * size), rfl, by rw [block_of_add]; exact hb, fun j u hu => ?_⟩
  rw [add_of_add]
  exact hcell _ u (by rw [← hu, List.getElem?_drop])
theorem Reads.of_own {base : Nat} {e : TypeId} {c : Nat} (h : w.ownsRow base e size (.slice A n c) n xs) : Reads w w.heap.size size A n xs := by
  refine ⟨h.1, fun hn => ?_⟩
  obtain ⟨g, cap, hv, _, hlt⟩ := h.form hn
  have hA : A = some ⟨g, 0, none⟩ := by injection hv
  subst hA
  exact ⟨_, rfl, hlt, h.cells (g := g) rfl⟩
end

section
variable {P : Program} (w : World)

theorem run_append_of_nil (base : Nat) (t ty e : TypeId) (i : TypeInfo) (size : Nat) (ht : P.underlying t = some (.slice e)) (hi : P.info? e = some i)
    (v : Value) (n : Nat) (xs : List Value) (hown : w.ownsRow base e size v n xs) (c : Nat) : (Builtin.append_ #[t, t] ty #[v, .slice none 0 c]).run P w = .ok v w := by
  rcases hown.2 with ⟨rfl, rfl⟩ | ⟨g, cap, cur, rfl, _, _, hnc, _⟩
  · simp [Builtin.append_, run_underlying ht, sizeOf, typeInfo, hi, Builtin.lenOf, Builtin.firstCells]
  · simp [Builtin.append_, run_underlying ht, sizeOf, typeInfo, hi, Builtin.lenOf, Builtin.firstCells, hnc, storeCells]

theorem run_append_any (base : Nat) (t ty e : TypeId) (i : TypeInfo) (z : Value) (size bytes : Nat) (ht : P.underlying t = some (.slice e)) (hi : P.info? e = some i) (hz : i.zero = some z)
    (hsize : i.size = size) (hby : i.bytes = bytes) (hzs : z.cells.size = size) (hsz : 0 < size)
    (v : Value) (n : Nat) (xs : List Value) (hown : w.ownsRow base e size v n xs)
    (B : Nat) (A : Option Addr) (m c : Nat) (news : List Value) (hr : Reads w B size A m news) (h1 : ∀ u ∈ news, u.oneCell' = true)
    (h63 : n + m ≤ maxLen) (hbytes : (n + m) * bytes ≤ 140737488355328) (hbase : base ≤ w.heap.size) :
    ∃ v' w', (Builtin.append_ #[t, t] ty #[v, .slice A m c]).run P w = .ok v' w' ∧ w'.ownsRow base e size v' (n + m) (xs ++ news) ∧ w.grownBy w' v.ownBlock ∧
      (v'.ownBlock = v.ownBlock ∨ v'.ownBlock = some w.heap.size) := by
  rcases A with _ | ad
  · have hm : m = 0 := by
      rcases Nat.eq_zero_or_pos m with h0 | h0
      · exact h0
      · obtain ⟨ad, h, _⟩ := hr.2 h0
        cases h
    subst hm
    have hn : news = [] := List.eq_nil_of_length_eq_zero (by simpa using hr.1)
    subst hn
    exact ⟨v, w, run_append_of_nil w base t ty e i size ht hi v n xs hown c, by simpa using hown, World.grownBy.refl w _, .inl rfl⟩
  · have hcells : ∀ j u, news[j]? = some u → w.cell? (ad.add j) = some u := by
      intro j u hu
      rcases Nat.eq_zero_or_pos m with h0 | h0
      · subst h0
        have hn : news = [] := List.eq_nil_of_length_eq_zero (by simpa using hr.1)
        subst hn
        simp at hu
      · obtain ⟨ad', h, _, hc⟩ := hr.2 h0
        injection h with h
        subst h
        exact hc j u hu
    obtain ⟨v', w', hrun, h2, h3, _, h5⟩ := run_append_own_at (P := P) w base t ty e i z size bytes ht hi hz hsize hby hzs hsz v n xs hown ad m c news hr.1 hcells h1 h63 hbytes hbase
    exact ⟨v', w', hrun, h2, h3, h5⟩

theorem wp_append_any {o : Oper} {a : Act} {K : Act → World → Prop} {Q : Exit → Act → World → Prop} (s x : Operand) (t : TypeId)
    (ho : o.op = .call { callee := .builtin .append, args := #[s, x], argTypes := #[t, t] })
    (base : Nat) (e : TypeId) (i : TypeInfo) (z : Value) (size bytes : Nat) (ht : P.underlying t = some (.slice e)) (hi : P.info? e = some i) (hz : i.zero = some z)
    (hsize : i.size = size) (hby : i.bytes = bytes) (hzs : z.cells.size = size) (hsz : 0 < size)
    (v : Value) (n : Nat) (xs : List Value) (hs : a.eval s = v) (hown : w.ownsRow base e size v n xs)
    (B : Nat) (A : Option Addr) (m c : Nat) (news : List Value) (hx : a.eval x = .slice A m c) (hr : Reads w B size A m news) (h1 : ∀ u ∈ news, u.oneCell' = true)
    (h63 : n + m ≤ maxLen) (hbytes : (n + m) * bytes ≤ 140737488355328) (hbase : base ≤ w.heap.size)
    (h : ∀ v' w', w'.ownsRow base e size v' (n + m) (xs ++ news) → w.grownBy w' v.ownBlock → (v'.ownBlock = v.ownBlock ∨ v'.ownBlock = some w.heap.size) → K (a.put o.dst v') w') : o.wp P a w K Q := by
  obtain ⟨v', w', hrun, h2, h3, h4⟩ := run_append_any (P := P) w base t o.type e i z size bytes ht hi hz hsize hby hzs hsz v n xs hown B A m c news hr h1 h63 hbytes hbase
  unfold Oper.wp execOp
  simp only [ho, resolve, invoke, builtin, Sem.run_bind, Sem.run_pure, Result.andThen_ok, List.map_toArray, List.map_cons, List.map_nil, hs, hx, hrun]
  exact h v' w' h2 h3 h4

theorem wpList_append_any {ops : Array Oper} {rest : List Oper} {o : Oper} {a : Act} {Q : Exit → Act → World → Prop} (hgd : o.guard = none) (s x : Operand) (t : TypeId)
    (ho : o.op = .call { callee := .builtin .append, args := #[s, x], argTypes := #[t, t] })
    (base : Nat) (e : TypeId) (i : TypeInfo) (z : Value) (size bytes : Nat) (ht : P.underlying t = some (.slice e)) (hi : P.info? e = some i) (hz : i.zero = some z)
    (hsize : i.size = size) (hby : i.bytes = bytes) (hzs : z.cells.size = size) (hsz : 0 < size)
    (v : Value) (n : Nat) (xs : List Value) (hs : a.eval s = v) (hown : w.ownsRow base e size v n xs)
    (B : Nat) (A : Option Addr) (m c : Nat) (news : List Value) (hx : a.eval x = .slice A m c) (hr : Reads w B size A m news) (h1 : ∀ u ∈ news, u.oneCell' = true)
    (h63 : n + m ≤ maxLen) (hbytes : (n + m) * bytes ≤ 140737488355328) (hbase : base ≤ w.heap.size)
    (h : ∀ v' w', w'.ownsRow base e size v' (n + m) (xs ++ news) → w.grownBy w' v.ownBlock → (v'.ownBlock = v.ownBlock ∨ v'.ownBlock = some w.heap.size) → wpList P ops Q rest (a.put o.dst v') w') : wpList P ops Q (o :: rest) a w :=
  wpList_plain hgd fun _ hK => wp_append_any w s x t ho base e i z size bytes ht hi hz hsize hby hzs hsz v n xs hs hown B A m c news hx hr h1 h63 hbytes hbase fun v' w' h2 h3 h4 => hK _ _ (h v' w' h2 h3 h4)

theorem step_append_any {ops : Array Oper} {o : Oper} {a : Act} {K : Act → World → Prop} {Q : Exit → Act → World → Prop} {E : Prop} (hgd : o.guard = none) (s x : Operand) (t : TypeId)
    (ho : o.op = .call { callee := .builtin .append, args := #[s, x], argTypes := #[t, t] })
    (base : Nat) (e : TypeId) (i : TypeInfo) (z : Value) (size bytes : Nat) (ht : P.underlying t = some (.slice e)) (hi : P.info? e = some i) (hz : i.zero = some z)
    (hsize : i.size = size) (hby : i.bytes = bytes) (hzs : z.cells.size = size) (hsz : 0 < size)
    (v : Value) (n : Nat) (xs : List Value) (hs : a.eval s = v) (hown : w.ownsRow base e size v n xs)
    (B : Nat) (A : Option Addr) (m c : Nat) (news : List Value) (hx : a.eval x = .slice A m c) (hr : Reads w B size A m news) (h1 : ∀ u ∈ news, u.oneCell' = true)
    (h63 : n + m ≤ maxLen) (hbytes : (n + m) * bytes ≤ 140737488355328) (hbase : base ≤ w.heap.size)
    (h : ∀ v' w', w'.ownsRow base e size v' (n + m) (xs ++ news) → w.grownBy w' v.ownBlock → (v'.ownBlock = v.ownBlock ∨ v'.ownBlock = some w.heap.size) → K (a.put o.dst v') w') :
    if Region.wanted o (yielded ops a.tmps) = true then Oper.wp P o a w K Q else E := by
  have hw : Region.wanted o (yielded ops a.tmps) = true := by simp [Region.wanted, hgd]
  rw [if_pos hw]
  exact wp_append_any w s x t ho base e i z size bytes ht hi hz hsize hby hzs hsz v n xs hs hown B A m c news hx hr h1 h63 hbytes hbase h
end

end Go.Proofs.Dif
namespace Go.Proofs.Dif
open Go.Sort Go.Shelf Go.RowKit Go.Lib Go.Proofs.YtnpfemnclccbnaaGreatDoorW.PrintWords Go.Proofs.YtnpfemnclccbnaaGreatDoorW.PrintLast Go.Proofs.YtnpfemnclccbnaaGreatDoorW.PrintMore Go.Proofs.YtnpfemnclccbnaaGreatDoor.PConclusionDiffers
set_option linter.unusedVariables false
set_option linter.unusedSimpArgs false

theorem row_cells {w : World} {A : Option Addr} {xs : List S53} (h : Kd.C k53 w A xs.length xs) : ∃ inner, Reps (k53.K w) 8 xs inner ∧ Reads w w.heap.size 8 A xs.length inner ∧ ∀ u ∈ inner, u.oneCell' = true := by
  cases xs with
  | nil => exact ⟨[], Reps.none _ _, ⟨by simp, fun hn => absurd hn (by simp)⟩, fun u hu => by cases hu⟩
  | cons x xs =>
    obtain ⟨ad, rfl, hc⟩ := h.2.2 (by simp)
    obtain ⟨inner, h1, h2⟩ := ReadsRow.inner_ h
    have hone : ∀ u ∈ inner, u.oneCell' = true := by
      intro u hu
      obtain ⟨j, hj, rfl⟩ := List.mem_iff_getElem.1 hu
      have hl : inner.length = (x :: xs).length * 8 := h1.1
      have hj8 : j / 8 < (x :: xs).length := by omega
      have hp := h1.2 (j / 8) _ (List.getElem?_eq_getElem hj8)
      refine k53.K_one hp _ ?_
      have : ((inner.drop (j / 8 * 8)).take 8)[j % 8]? = some inner[j] := by
        rw [List.getElem?_take, if_pos (Nat.mod_lt _ (by omega)), List.getElem?_drop, show j / 8 * 8 + j % 8 = j from by omega]
        exact List.getElem?_eq_getElem hj
      exact List.mem_of_getElem? this
    refine ⟨inner, h1, ⟨by rw [h1.1]; rfl, fun _ => ⟨ad, rfl, ?_, h2⟩⟩, hone⟩
    have hl : inner.length = (x :: xs).length * 8 := h1.1
    have h0 := h2 0 _ (List.getElem?_eq_getElem (by simp at hl; omega))
    have := World.block_lt_of_cell? w _ h0
    rwa [block_of_add] at this

theorem reps_append {R : S53 → List Value → Prop} {xs ys : List S53} {c1 c2 : List Value} (h1 : Reps R 8 xs c1) (h2 : Reps R 8 ys c2) : Reps R 8 (xs ++ ys) (c1 ++ c2) := by
  refine ⟨by rw [List.length_append, List.length_append, h1.1, h2.1, Nat.add_mul], fun j p hj => ?_⟩
  rcases Nat.lt_or_ge j xs.length with hlt | hge
  · rw [List.getElem?_append_left hlt] at hj
    have := h1.2 j p hj
    have hl : j * 8 + 8 ≤ c1.length := by rw [h1.1]; omega
    rw [List.drop_append_of_le_length (by omega), List.take_append_of_le_length (by simp; omega)]
    exact this
  · rw [List.getElem?_append_right hge] at hj
    have := h2.2 _ p hj
    rw [List.drop_append, List.drop_eq_nil_of_le (by rw [h1.1]; omega), List.nil_append, show j * 8 - c1.length = (j - xs.length) * 8 from by rw [h1.1]; omega]
    exact this
theorem info53 : (Tryz.prog.info? 53).map (fun i => (i.zero.map (·.cells.size), i.size, i.bytes)) = some (some 8, 8, 144) := by kernel_rfl
theorem own_slice {w : World} {b n : Nat} {e : TypeId} {s : Nat} {v : Value} {xs : List Value} (h : w.ownsRow b e s v n xs) : ∃ A c, v = .slice A n c := by
  rcases h.2 with ⟨rfl, rfl⟩ | ⟨g, cap, cur, rfl, _⟩
  · exact ⟨_, _, rfl⟩
  · exact ⟨_, _, rfl⟩
def Concat27 (w : World) (r : List S53) (e : Ending) (w' : World) : Prop :=
  ∃ A c, e = .returned (.slice A r.length c) ∧ r.length ≤ c ∧ Kd.C k53 w' A r.length r ∧ Below w.heap.size w w'

theorem c71 (n : Nat) (w : World) (hn : n ≤ 1000000) : Calls Tryz.prog 71 #[.slice none 0 0, .int .i64 n] w fun e w' => ∃ v, e = .returned v ∧ w'.ownsRow w.heap.size 53 8 v 0 [] ∧ (∃ A c, v = .slice A 0 c) ∧ Below w.heap.size w w' := by
  rcases Nat.eq_zero_or_pos n with rfl | hpos
  · refine (Any8.slices_Grow_room Tryz.grow71 none 0 0 0 w (by omega) (by omega) (by omega) (by omega)).mono ?_
    rintro e w' ⟨rfl, rfl⟩
    exact ⟨_, rfl, ⟨by simp, .inl ⟨rfl, rfl⟩⟩, ⟨_, _, rfl⟩, Below.refl _ _⟩
  · have hi := info53
    cases hp : Tryz.prog.info? 53 with
    | none => rw [hp] at hi; cases hi
    | some i0 =>
      rw [hp] at hi
      simp only [Option.map_some, Option.some.injEq, Prod.mk.injEq] at hi
      obtain ⟨hz, hs, hb⟩ := hi
      cases hz0 : i0.zero with
      | none => rw [hz0] at hz; cases hz
      | some z =>
        rw [hz0] at hz
        have hzs : z.cells.size = 8 := by simpa using hz
        have := Any8.slices_Grow_grow Tryz.grow71 i0 z hp hz0 (by omega) none 0 0 n [] w (by omega) (by omega) (by rw [hb]; omega) (by omega) (by simp) (fun _ => rfl) (fun a h => by cases h)
        refine this.mono ?_
        rintro e w' ⟨rfl, rfl⟩
        have hg1 := grownCap_ge w (0 + n) 0 (Tryz.grow71_ren.t 25)
        have hg2 := grownCap_le_maxLen w (0 + n) 0 (Tryz.grow71_ren.t 25) (by unfold maxLen; omega)
        refine ⟨_, rfl, ⟨rfl, .inr ⟨w.heap.size, _, _, rfl, Nat.le_refl _, heap_alloc_new w.drew _, Nat.zero_le _, hg2, ?_, by simp⟩⟩, ⟨_, _, rfl⟩, (Below.refl _ w).drew.alloc (Nat.le_refl _) _⟩
        rw [Array.size_append, Array.size_append, size_zeroCells, size_zeroCells, hzs]
        generalize grownCap w (0 + n) 0 (Tryz.grow71_ren.t 25) = G at hg1 ⊢
        simp
        omega

theorem info53_at : ∃ i0 z, Tryz.prog.info? 53 = some i0 ∧ i0.zero = some z ∧ i0.size = 8 ∧ i0.bytes = 144 ∧ z.cells.size = 8 := by
  have hi := info53
  cases hp : Tryz.prog.info? 53 with
  | none => rw [hp] at hi; cases hi
  | some i0 =>
    rw [hp] at hi
    simp only [Option.map_some, Option.some.injEq, Prod.mk.injEq] at hi
    obtain ⟨hz, hs, hb⟩ := hi
    cases hz0 : i0.zero with
    | none => rw [hz0] at hz; cases hz
    | some z =>
      rw [hz0] at hz
      exact ⟨i0, z, rfl, hz0, hs, hb, by simpa using hz⟩
def cellsC (a b : List Value) : Nat → List Value
  | 0 => []
  | 1 => a
  | _ => a ++ b
theorem reps_imp {R R' : S53 → List Value → Prop} {xs : List S53} {cs : List Value} (h : Reps R 8 xs cs) (hR : ∀ p c, R p c → R' p c) : Reps R' 8 xs cs := ⟨h.1, fun j p hj => hR _ _ (h.2 j p hj)⟩
def szC (n m : Nat) : Nat → Nat
  | 0 => 0
  | 1 => n
  | _ => n + m
set_option maxHeartbeats 4000000 in
set_option maxRecDepth 100000 in
theorem c27 (w : World) (xs ys : List S53) (A1 A2 : Option Addr) (c1 c2 g : Nat) (hx : Kd.C k53 w A1 xs.length xs) (hy : Kd.C k53 w A2 ys.length ys) (hlx : xs.length ≤ 100000) (hly : ys.length ≤ 100000)
    (h0 : w.cell? ⟨g, 0, none⟩ = some (.slice A1 xs.length c1)) (h1 : w.cell? ⟨g, 1, none⟩ = some (.slice A2 ys.length c2)) :
    Calls Tryz.prog 27 #[.slice (some ⟨g, 0, none⟩) 2 2] w (Concat27 w (xs ++ ys)) := by
  have hg := World.block_lt_of_cell? w _ h0
  have HX := Aside0.mk hx
  have HY := Aside0.mk hy
  have HLX := Aside0.mk hlx
  have HLY := Aside0.mk hly
  have HG := Aside0.mk hg
  have H0 := Aside0.mk h0
  have H1 := Aside0.mk h1
  obtain ⟨n, hn⟩ : ∃ n, n = xs.length := ⟨_, rfl⟩
  obtain ⟨m, hm⟩ : ∃ m, m = ys.length := ⟨_, rfl⟩
  rw [← hn] at h0 hlx
  rw [← hm] at h1 hly
  have HN := Aside0.mk hn
  have HM := Aside0.mk hm
  clear hx hy hg hn hm
  go_enter Tryz.func27, Tryz.ntmps27
  go_wp2
  go_loop [3, 5, 11] (fun v3 _ v11 => ∃ i s : Nat, i ≤ 2 ∧ Aside0 (s = szC n m i) ∧ v3 = .int .i64 s ∧ v11 = .int .i64 i) (fun _ _ v => 2 - (intOf v).toNat)
  case atStart => exact ⟨0, 0, by omega, ⟨rfl⟩, rfl, rfl⟩
  case round =>
    obtain ⟨i, s, hi, HS, rfl, rfl⟩ := hrel
    rcases (show i = 0 ∨ i = 1 ∨ i = 2 from by omega) with rfl | rfl | rfl
    · obtain rfl : s = 0 := HS.out
      have hq : ¬ ((n : Int) < 0) := by omega
      go_wp2
      go_round
      case rel => exact ⟨1, n, by omega, ⟨rfl⟩, by first | rfl | simp | go_num, by go_num⟩
      case measure => simp [intOf]
    · obtain rfl : s = n := HS.out
      have hq : ¬ ((s : Int) + (m : Int) < 0) := by omega
      go_wp2
      go_round
      case rel => exact ⟨2, s + m, by omega, ⟨rfl⟩, by first | rfl | simp | go_num, by go_num⟩
      case measure => simp [intOf]
    · have hs : s = n + m := HS.out
      have hs2 : s ≤ 200000 := by omega
      have HS2 := Aside0.mk hs
      clear hs
      have H71 := Lib.hid (fun W => c71 s W (by omega))
      go_wp2_with (go_at_call 71; (with_reducible refine (H71.out _).mono ?_); rintro e w1 ⟨v1, rfl, o1, ⟨Av, cv, rfl⟩, b1⟩; have O1 := Aside0.mk o1; have B1 := Aside0.mk b1; clear o1 b1)
      obtain ⟨i0, z0, p1, p2, p3, p4, p5⟩ := info53_at
      obtain ⟨in1, rp1, rd1, on1⟩ := row_cells HX.out
      obtain ⟨in2, rp2, rd2, on2⟩ := row_cells HY.out
      rw [← HN.out] at rd1
      rw [← HM.out] at rd2
      have RP1 := Aside0.mk rp1
      have RP2 := Aside0.mk rp2
      have RD1 := Aside0.mk rd1
      have RD2 := Aside0.mk rd2
      have ON1 := Lib.hid on1
      have ON2 := Lib.hid on2
      have P1 := Aside0.mk p1
      have P2 := Aside0.mk p2
      have P3 := Aside0.mk p3
      have P4 := Aside0.mk p4
      have P5 := Aside0.mk p5
      have c0 := Aside0.mk h0
      have c1' := Aside0.mk h1
      clear rp1 rp2 rd1 rd2 on1 on2 p1 p2 p3 p4 p5 h0 h1
      go_loopg [6, 8, 27] 2 (fun kq v6 _ v27 w' => ∃ (i k : Nat) (cs : List Value) (A : Option Addr) (c : Nat), i ≤ 2 ∧ kq + i = 2 ∧ Aside0 (k = szC n m i) ∧ Aside0 (cs = cellsC in1 in2 i) ∧ v27 = .int .i64 i ∧ v6 = .slice A k c ∧ Aside0 (w'.ownsRow w.heap.size 53 8 (.slice A k c) k cs) ∧ Aside0 (Below w.heap.size w w'))
      case atStart => exact ⟨0, 0, [], Av, cv, by omega, by omega, ⟨rfl⟩, ⟨rfl⟩, rfl, rfl, O1, B1⟩
      case round =>
        obtain ⟨i, k, cs, A, c, hi, hk, HK, HCS, rfl, rfl, HO, HB⟩ := hrel
        have hnm : n + m ≤ 200000 := by omega
        rcases (show i = 0 ∨ i = 1 ∨ i = 2 from by omega) with rfl | rfl | rfl
        · obtain rfl : k = 0 := HK.out
          obtain rfl : cs = [] := HCS.out
          have g0 := (HB.out.cell (p := ⟨g, 0, none⟩) HG.out).trans c0.out
          have L1 := Aside0.mk (show 0 + n ≤ maxLen from by unfold maxLen; omega)
          have L2 := Aside0.mk (show (0 + n) * 144 ≤ 140737488355328 from by omega)
          obtain ⟨k2, hk2⟩ : ∃ k2 : Nat, k2 = 0 + n := ⟨_, rfl⟩
          obtain ⟨cs2, hcs2⟩ : ∃ cs2 : List Value, cs2 = [] ++ in1 := ⟨_, rfl⟩
          have NK := Aside0.mk hk2
          have NC := Aside0.mk hcs2
          clear hk2 hcs2
          go_wp2_with (first
            | (at_builtin
               refine wpList_append_any _ rfl (.tmp 31) (.tmp 32) _ rfl w.heap.size 53 i0 z0 8 144 Tryz.underlying47 P1.out P2.out P3.out P4.out P5.out (by decide) (.slice A 0 c) 0 [] rfl HO.out w.heap.size A1 n c1 in1 rfl (RD1.out.below HB.out) ON1.out L1.out L2.out HB.out.size ?_
               intro v2 w2 o2 g2 t2
               rw [← NK.out, ← NC.out] at o2
               obtain ⟨A', c', rfl⟩ := own_slice o2
               have O2 := Aside0.mk o2
               have B2 := Aside0.mk (HB.out.grown g2 HB.out.size (own_base HO.out))
               clear o2 g2 t2))
          go_roundg 1
          case measure => omega
          case rel => exact ⟨1, k2, cs2, A', c', by omega, by omega, ⟨by rw [NK.out]; simp [szC]⟩, ⟨by rw [NC.out]; rfl⟩, by go_num, rfl, O2, B2⟩
        · have hk1 : k = n := HK.out
          have hc1 : cs = in1 := HCS.out
          have HK1 := Aside0.mk hk1
          have HC1 := Aside0.mk hc1
          have g1 := (HB.out.cell (p := ⟨g, 1, none⟩) HG.out).trans c1'.out
          have L1 := Aside0.mk (show k + m ≤ maxLen from by unfold maxLen; omega)
          have L2 := Aside0.mk (show (k + m) * 144 ≤ 140737488355328 from by omega)
          clear hk1 hc1
          obtain ⟨k2, hk2⟩ : ∃ k2 : Nat, k2 = k + m := ⟨_, rfl⟩
          obtain ⟨cs2, hcs2⟩ : ∃ cs2 : List Value, cs2 = cs ++ in2 := ⟨_, rfl⟩
          have NK := Aside0.mk hk2
          have NC := Aside0.mk hcs2
          clear hk2 hcs2
          go_wp2_with (first
            | (at_builtin
               refine wpList_append_any _ rfl (.tmp 31) (.tmp 32) _ rfl w.heap.size 53 i0 z0 8 144 Tryz.underlying47 P1.out P2.out P3.out P4.out P5.out (by decide) (.slice A k c) k cs rfl HO.out w.heap.size A2 m c2 in2 rfl (RD2.out.below HB.out) ON2.out L1.out L2.out HB.out.size ?_
               intro v2 w2 o2 g2 t2
               rw [← NK.out, ← NC.out] at o2
               obtain ⟨A', c', rfl⟩ := own_slice o2
               have O2 := Aside0.mk o2
               have B2 := Aside0.mk (HB.out.grown g2 HB.out.size (own_base HO.out))
               clear o2 g2 t2))
          go_roundg 0
          case measure => omega
          case rel => exact ⟨2, k2, cs2, A', c', by omega, by omega, ⟨by rw [NK.out, HK1.out]; rfl⟩, ⟨by rw [NC.out, HC1.out]; rfl⟩, by go_num, rfl, O2, B2⟩
        · go_wp2
          go_ret
          have hk2 : k = (xs ++ ys).length := by rw [List.length_append, ← HN.out, ← HM.out]; exact HK.out
          have hc2 : cs = in1 ++ in2 := HCS.out
          have hO := HO.out
          have hOR : OwnRow (k53.K wr) 53 8 wr w.heap.size (.slice A k c) (xs ++ ys) := by
            refine ⟨cs, by rw [← hk2]; exact hO, ?_⟩
            rw [hc2]
            exact reps_append (reps_imp RP1.out fun _ _ hp => k53.K_below HB.out hp) (reps_imp RP2.out fun _ _ hp => k53.K_below HB.out hp)
          obtain ⟨A3, c3, e3, l3, r3⟩ := OwnRow.reads hOR
          injection e3 with e31 e32 e33
          refine ⟨A3, c3, ?_, l3, r3, HB.out⟩
          show Ending.returned (Value.slice A k c) = _
          rw [e31, e32, e33]
end Go.Proofs.Dif
