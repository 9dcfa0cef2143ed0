/- Package-level variables that a row lists: their cells, read off what is listed. -/
import Derived.Test.YtjjmoihpjmojiaaDoorE1
import Derived.FnData
import Derived.LaidMore
import Derived.LaidLaws
import Derived.MakeChecks
set_option linter.unusedVariables false
set_option linter.unusedSimpArgs false
namespace Go.Proofs.YtjjmoihpjmojiaaDoor.D
open Go.RowKit
/-- The cells that a reading without rows tells. -/
def flatD {H : Type} : DataW H → List Value
  | .lit (.int k n) => [.int k n]
  | .lit (.bool b) => [.bool b]
  | .agg ds => flatDs ds
  | _ => []
where flatDs {H : Type} : List (DataW H) → List Value
  | [] => []
  | d :: r => flatD d ++ flatDs r
section
variable {H : Type} {enc : TypeId × Value → H} {P : Program} {W : World} {t e : TypeId} {b : Bool} {cs : List Value}
/-- A type without rows: what is read tells its cells. -/
def Flt (H : Type) (enc : TypeId × Value → H) (P : Program) (W : World) (b : Bool) (t : TypeId) : Prop := ∀ (fuel : Nat) (cs : List Value) (x : DataW H × List MemPlace), DataW.trod enc P W 0 (fun _ => true) b fuel t cs = some x → cs = flatD x.1
theorem flt_int {k : IntKind} (ht : P.underlying t = some (.int k)) : Flt H enc P W b t := by
  intro fuel cs x h
  obtain ⟨n, rfl, rfl, _⟩ := DataW.trod_int ht h
  rfl
theorem flt_bool (ht : P.underlying t = some .bool) : Flt H enc P W b t := by
  intro fuel cs x h
  obtain ⟨n, rfl, rfl⟩ := DataW.trod_bool ht h
  rfl
def contB (P : Program) : List Field → Nat → Option Nat
  | [], o => some o
  | f :: r, o => if f.offset = o then contB P r (o + P.cellsOf f.type) else none
theorem flt_fields {n : Nat} : ∀ (fs : List Field) (xs : List (DataW H × List MemPlace)) (o : Nat), xs.length = fs.length → (∀ f ∈ fs, Flt H enc P W b f.type) → (∀ (i : Nat) (f : Field), fs[i]? = some f → DataW.trod enc P W 0 (fun _ => true) b n f.type ((cs.drop f.offset).take (P.cellsOf f.type)) = xs[i]?) → contB P fs o = some cs.length → cs.drop o = flatD.flatDs (xs.map (·.1))
  | [], xs, o, hl, hF, hf, hc => by
    obtain rfl := List.eq_nil_of_length_eq_zero hl
    simp only [contB, Option.some.injEq] at hc
    simp [flatD.flatDs, hc]
  | f :: fs, [], o, hl, hF, hf, hc => by simp at hl
  | f :: fs, x :: xs, o, hl, hF, hf, hc => by
    unfold contB at hc
    split at hc
    · rename_i ho
      have h0 := hf 0 f rfl
      simp only [List.getElem?_cons_zero] at h0
      have h1 := hF f List.mem_cons_self n _ _ h0
      rw [ho] at h1
      have h2 := flt_fields fs xs (o + P.cellsOf f.type) (by simpa using hl) (fun g hg => hF g (List.mem_cons_of_mem _ hg)) (fun i g hg => by simpa using hf (i + 1) g (by simpa using hg)) hc
      simp only [List.map_cons, flatD.flatDs]
      rw [← h1, ← h2, ← List.drop_drop, List.take_append_drop]
    · cases hc
theorem flt_struct {fs : Array Field} (ht : P.underlying t = some (.struct fs)) (hc : contB P fs.toList 0 = some (P.cellsOf t)) (hF : ∀ f ∈ fs.toList, Flt H enc P W b f.type) : Flt H enc P W b t := by
  intro fuel cs x h
  obtain ⟨xs, n, _, rfl, hl, hxs, hf⟩ := DataW.trod_struct ht h
  have := flt_fields (cs := cs) (n := n) fs.toList xs 0 (by simpa using hxs) hF (fun i f hi => hf i f (by simpa using hi)) (by rw [hc, hl])
  simpa [flatD] using this
theorem flt_array {m : Nat} (ht : P.underlying t = some (.array m e)) (hz : P.cellsOf t = m * P.cellsOf e) (hF : Flt H enc P W b e) : Flt H enc P W b t := by
  intro fuel cs x h
  obtain ⟨xs, n, _, rfl, hl, hxs, hf⟩ := DataW.trod_array ht h
  have key : ∀ (k : Nat) (ys : List (DataW H × List MemPlace)) (i : Nat), i + k = m → ys.length = k → (∀ j, j < k → DataW.trod enc P W 0 (fun _ => true) b n e ((cs.drop ((i + j) * P.cellsOf e)).take (P.cellsOf e)) = ys[j]?) → cs.drop (i * P.cellsOf e) = flatD.flatDs (ys.map (·.1)) := by
    intro k
    induction k with
    | zero =>
      intro ys i hi hy hj
      obtain rfl := List.eq_nil_of_length_eq_zero hy
      have : i = m := by omega
      subst this
      rw [List.drop_eq_nil_of_le (by omega)]
      rfl
    | succ k ih =>
      intro ys i hi hy hj
      match ys, hy with
      | y :: ys, hy =>
        have h0 := hj 0 (by omega)
        simp only [List.getElem?_cons_zero, Nat.add_zero] at h0
        have h1 := hF n _ _ h0
        have h2 := ih ys (i + 1) (by omega) (by simpa using hy) (fun j hjk => by
          have := hj (j + 1) (by omega)
          rw [show i + (j + 1) = i + 1 + j by omega] at this
          simpa using this)
        simp only [List.map_cons, flatD.flatDs]
        rw [← h1, ← h2, Nat.add_mul, Nat.one_mul, ← List.drop_drop, List.take_append_drop]
  have := key m xs 0 (by omega) hxs (fun j hj => by simpa using hf j hj)
  simpa [flatD] using this
/-- What a listed variable's cells are, as a walk knows them. -/
theorem gl_of {g sz : Nat} {vss : List (List Value)} {ca : Array Value} (hcell : ∀ j, W.cell? ⟨g, j, none⟩ = ca[j]?) (hcs : ca.toList = vss.flatten) (hsz : (vss.all fun c => Nat.beq c.length sz) = true) (hone : (vss.all fun c => c.all fun v => v.oneCell') = true) (h0 : 0 < ca.size) :
    Blk W g ∧ ∃ u : Nat → Nat → Value, ∀ (i : Nat) (c : List DV), (vss.map fun c => c.map DV.v)[i]? = some c → c.length = sz ∧ ∀ (j : Nat) (d : DV), c[j]? = some d → W.cell? ⟨g, i * sz + j, none⟩ = some (u i j) ∧ FR (Blk W) W (u i j) d := by
  have hblk : Blk W g := by
    have h1 := hcell 0
    rw [Array.getElem?_eq_getElem h0] at h1
    exact World.block_lt_of_cell? W _ h1
  have hat : ∀ (vss : List (List Value)) (i : Nat) (vs : List Value), (vss.all fun c => Nat.beq c.length sz) = true → vss[i]? = some vs → ∀ j, j < vs.length → vss.flatten[i * sz + j]? = vs[j]? := by
    intro vss
    induction vss with
    | nil => intro i vs _ h; simp at h
    | cons c r ih =>
      intro i vs ha h j hj
      simp only [List.all_cons, Bool.and_eq_true] at ha
      have hc := Nat.eq_of_beq_eq_true ha.1
      cases i with
      | zero =>
        simp only [List.getElem?_cons_zero, Option.some.injEq] at h
        subst h
        simp only [List.flatten_cons, Nat.zero_mul, Nat.zero_add]
        exact List.getElem?_append_left hj
      | succ i =>
        have h2 := ih i vs ha.2 (by simpa using h) j hj
        rw [List.flatten_cons, List.getElem?_append_right (by rw [hc, Nat.add_mul]; omega), ← h2]
        congr 1
        rw [hc, Nat.add_mul]; omega
  refine ⟨hblk, fun i j => (ca[i * sz + j]?).getD undef, fun i c hi => ?_⟩
  rw [List.getElem?_map] at hi
  cases hv : vss[i]? with
  | none => rw [hv] at hi; cases hi
  | some vs =>
    rw [hv] at hi
    simp only [Option.map_some, Option.some.injEq] at hi
    subst hi
    have hm := List.mem_of_getElem? hv
    have hl := Nat.eq_of_beq_eq_true (List.all_eq_true.1 hsz vs hm)
    refine ⟨by simpa using hl, fun j d hj => ?_⟩
    rw [List.getElem?_map] at hj
    cases hx : vs[j]? with
    | none => rw [hx] at hj; cases hj
    | some v =>
      rw [hx] at hj
      simp only [Option.map_some, Option.some.injEq] at hj
      subst hj
      have hjl := (List.getElem?_eq_some_iff.1 hx).1
      have h3 := hat vss i vs hsz hv j hjl
      have h4 : ca[i * sz + j]? = some v := by
        rw [← Array.getElem?_toList, hcs, h3, hx]
      refine ⟨(hcell _).trans (by simp only [h4, Option.getD_some]), ?_⟩
      simp only [h4, Option.getD_some]
      exact .v _ (List.all_eq_true.1 (List.all_eq_true.1 hone vs hm) v (List.mem_of_getElem? hx))
/-- The same, off a row's list of one. -/
theorem gl_laid {g sz : Nat} {n : String} {d : DataW Unit} {vss : List (List Value)} (hh : d.handleName?.isNone = true) (hg : P.globalNamed n = some g) (ht : (P.globals[g]?).map (·.type) = some t) (h : laidMetH P [(n, d)] W)
    (hF : ∀ enc, Flt Unit enc P W false t) (hd : flatD d = vss.flatten) (hsz : (vss.all fun c => Nat.beq c.length sz) = true) (hone : (vss.all fun c => c.all fun v => v.oneCell') = true) (h0 : 0 < vss.flatten.length) :
    Blk W g ∧ ∃ u : Nat → Nat → Value, ∀ (i : Nat) (c : List DV), (vss.map fun c => c.map DV.v)[i]? = some c → c.length = sz ∧ ∀ (j : Nat) (d : DV), c[j]? = some d → W.cell? ⟨g, i * sz + j, none⟩ = some (u i j) ∧ FR (Blk W) W (u i j) d := by
  rw [MakeChecks.laidMetH_plain _ _ _ (by simp [hh])] at h
  obtain ⟨ps, ⟨g0, t0, cs0, f0, p0, q0, hg0, ht0, hv0, hd0, _, _⟩, _, _⟩ := h
  obtain rfl := Option.some.inj (hg.symm.trans hg0)
  obtain rfl := Option.some.inj (ht.symm.trans ht0)
  have hcs := (hF _) _ _ _ hd0
  simp only at hcs
  rw [hd] at hcs
  exact gl_of (World.var?_cell hg0 hv0) hcs hsz hone (by rw [← hcs, Array.length_toList] at h0; exact h0)
end
end Go.Proofs.YtjjmoihpjmojiaaDoor.D
