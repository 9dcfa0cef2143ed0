/- Literals of slices; stores into a block. -/
import Derived.Test.YtjjmoihpjmojiaaDoorD15
set_option linter.unusedVariables false
set_option linter.unusedSimpArgs false
namespace Go.Proofs.YtjjmoihpjmojiaaDoor.D
open Go.RowKit

theorem setV_eq : ∀ (cs : List Value) (off : Nat) (us : List Value), off + cs.length ≤ us.length → setV off cs us = us.take off ++ cs ++ us.drop (off + cs.length)
  | [], off, us, _ => by simp [setV]
  | c :: r, off, us, h => by
    simp only [List.length_cons] at h
    rw [setV, setV_eq r (off + 1) (us.set off c) (by rw [List.length_set]; omega)]
    have h1 : off < us.length := by omega
    have e1 : (us.set off c).take (off + 1) = us.take off ++ [c] := by
      rw [List.take_add_one, List.getElem?_set_self h1, List.take_set_of_le (Nat.le_refl off)]
      rfl
    have e2 : (us.set off c).drop (off + 1 + r.length) = us.drop (off + (r.length + 1)) := by
      rw [List.drop_set, if_pos (by omega)]
      congr 1
      omega
    rw [e1, e2]
    simp
/-- Filling a slice's cells, element by element. -/
theorem fill_seq (sz : Nat) : ∀ (vs : List Value) (k : Nat) (pre suf : List Value), (∀ v ∈ vs, v.cells.toList.length = sz) → pre.length = k * sz → suf.length = vs.length * sz →
    Instr.fill (fun i => some (i * sz, sz)) (pre ++ suf).toArray ((vs.zipIdx k).map fun p => (p.2, p.1)) = some (pre ++ vs.flatMap (fun v => v.cells.toList)).toArray
  | [], k, pre, suf, _, _, hs => by
    have : suf = [] := List.eq_nil_of_length_eq_zero (by simpa using hs)
    subst this
    rfl
  | v :: vs, k, pre, suf, hv, hp, hs => by
    have hvl := hv v List.mem_cons_self
    have hvs : v.cells.size = sz := by simpa using hvl
    simp only [List.length_cons] at hs
    have hle : sz ≤ suf.length := by rw [hs, Nat.add_mul, Nat.one_mul]; omega
    rw [List.zipIdx_cons, List.map_cons]
    unfold Instr.fill
    simp only
    have hcond : ¬ ((v.cells.size ≠ sz || k * sz + v.cells.size > (pre ++ suf).toArray.size) = true) := by
      simp [hvs, hp]
      omega
    rw [if_neg hcond]
    have h4 := foldl_setV v.cells.toList (pre ++ suf).toArray (k * sz) 0
    rw [Nat.add_zero] at h4
    have h5 : v.cells.zipIdx.foldl (fun cs (c, j) => cs.setIfInBounds (k * sz + j) c) (pre ++ suf).toArray = (setV (k * sz) v.cells.toList (pre ++ suf)).toArray := by
      rw [← h4, ← Array.foldl_toList, Array.toList_zipIdx]
    rw [h5, setV_eq _ _ _ (by rw [List.length_append, hp, hvl]; omega)]
    have e1 : (pre ++ suf).take (k * sz) = pre := by rw [← hp]; exact List.take_left
    have e2 : (pre ++ suf).drop (k * sz + v.cells.toList.length) = suf.drop sz := by
      rw [hvl, ← hp, List.drop_append]
      simp
    rw [e1, e2]
    rw [fill_seq sz vs (k + 1) (pre ++ v.cells.toList) (suf.drop sz) (fun v hv' => hv v (List.mem_cons_of_mem _ hv')) (by rw [List.length_append, hp, hvl, Nat.add_mul, Nat.one_mul]) (by rw [List.length_drop, hs, Nat.add_mul, Nat.one_mul]; omega)]
    simp
def own? : DV → Option Nat
  | .own q => some q
  | _ => none
/-- A cell of a row: a row of one's own goes in with all it has. -/
def abs1 (H : Hp) : DV → DV
  | .own q => match hl H q with
    | some (.row e sz es) => .osl e sz es
    | _ => .any
  | d => d
def absOk (H : Hp) : DV → Bool
  | .own q => match hl H q with
    | some (.row _ _ _) => true
    | _ => false
  | .v x => x.oneCell'
  | .sl _ => true
  | _ => false
def absAll (H : Hp) : List DV → Bool
  | [] => true
  | d :: l => absOk H d && absAll H l
def abss (H : Hp) : List DV → List DV
  | [] => []
  | d :: l => abs1 H d :: abss H l
theorem abss_eq (H : Hp) : ∀ l : List DV, abss H l = l.map (abs1 H)
  | [] => rfl
  | d :: l => by rw [abss, abss_eq H l, List.map_cons]
def owns : List DV → List Nat
  | [] => []
  | d :: l => match own? d with
    | some q => q :: owns l
    | none => owns l
theorem owns_mem : ∀ {l : List DV} {j q : Nat}, l[j]? = some (DV.own q) → q ∈ owns l
  | [], j, q, h => by simp at h
  | d :: l, 0, q, h => by
    simp only [List.getElem?_cons_zero, Option.some.injEq] at h
    subst h
    simp [owns, own?]
  | d :: l, j + 1, q, h => by
    have := owns_mem (l := l) (j := j) (by simpa using h)
    unfold owns
    split
    · exact List.mem_cons_of_mem _ this
    · exact this
def nodupB : List Nat → Bool
  | [] => true
  | q :: l => (l.all fun p => !Nat.beq p q) && nodupB l
def flat : List (List DV) → List DV
  | [] => []
  | c :: l => c ++ flat l
theorem owns_at : ∀ {l : List DV} {q : Nat}, q ∈ owns l → ∃ j : Nat, l[j]? = some (DV.own q)
  | [], q, h => by cases h
  | d :: l, q, h => by
    unfold owns at h
    split at h
    · rename_i p hp
      rcases List.mem_cons.1 h with rfl | h
      · refine ⟨0, ?_⟩
        unfold own? at hp
        split at hp
        · simp only [Option.some.injEq] at hp; subst hp; rfl
        · cases hp
      · obtain ⟨j, hj⟩ := owns_at h
        exact ⟨j + 1, by simpa using hj⟩
    · obtain ⟨j, hj⟩ := owns_at h
      exact ⟨j + 1, by simpa using hj⟩
theorem absOk_own {H : Hp} {q : Nat} (h : absOk H (.own q) = true) : ∃ e sz es, hl H q = some (.row e sz es) := by
  unfold absOk at h
  simp only at h
  split at h
  · rename_i e sz es he
    exact ⟨e, sz, es, he⟩
  · cases h
theorem absAll_at {H : Hp} : ∀ {l : List DV}, absAll H l = true → ∀ (j : Nat) (d : DV), l[j]? = some d → absOk H d = true
  | [], _, j, d, h => by simp at h
  | x :: l, hn, j, d, h => by
    unfold absAll at hn
    rw [Bool.and_eq_true] at hn
    cases j with
    | zero => simp only [List.getElem?_cons_zero, Option.some.injEq] at h; rw [← h]; exact hn.1
    | succ j => exact absAll_at hn.2 j d (by simpa using h)
theorem absAll_app {H : Hp} : ∀ {l m : List DV}, absAll H l = true → absAll H m = true → absAll H (l ++ m) = true
  | [], _, _, h => h
  | d :: l, m, h1, h2 => by
    unfold absAll at h1
    rw [Bool.and_eq_true] at h1
    rw [List.cons_append]
    unfold absAll
    rw [Bool.and_eq_true]
    exact ⟨h1.1, absAll_app h1.2 h2⟩
theorem absAll_flat {H : Hp} : ∀ {l : List (List DV)}, (∀ c ∈ l, absAll H c = true) → absAll H (flat l) = true
  | [], _ => rfl
  | c :: l, h => absAll_app (h c List.mem_cons_self) (absAll_flat (fun c hc => h c (List.mem_cons_of_mem _ hc)))
theorem owns_inj : ∀ {l : List DV} {i j q : Nat}, nodupB (owns l) = true → l[i]? = some (DV.own q) → l[j]? = some (DV.own q) → i = j
  | [], i, j, q, _, h, _ => by simp at h
  | d :: l, i, j, q, hn, hi, hj => by
    have tail : nodupB (owns l) = true := by
      unfold owns at hn
      split at hn
      · unfold nodupB at hn
        rw [Bool.and_eq_true] at hn
        exact hn.2
      · exact hn
    have head : ∀ k : Nat, d = DV.own q → l[k]? = some (DV.own q) → False := by
      intro k hd hk
      subst hd
      unfold owns at hn
      simp only [own?] at hn
      unfold nodupB at hn
      rw [Bool.and_eq_true] at hn
      have := List.all_eq_true.1 hn.1 q (owns_mem hk)
      simp at this
    cases i with
    | zero =>
      cases j with
      | zero => rfl
      | succ j =>
        simp only [List.getElem?_cons_zero, Option.some.injEq] at hi
        exact (head j hi (by simpa using hj)).elim
    | succ i =>
      cases j with
      | zero =>
        simp only [List.getElem?_cons_zero, Option.some.injEq] at hj
        exact (head i hj (by simpa using hi)).elim
      | succ j =>
        have := owns_inj (i := i) (j := j) (q := q) tail (by simpa using hi) (by simpa using hj)
        rw [this]
def cellsAll : List DV → Option (List (List DV))
  | [] => some []
  | d :: l => match cellsD d, cellsAll l with
    | some c, some r => some (c :: r)
    | _, _ => none
def seqIdx : Nat → List (Nat × DV) → Option (List DV)
  | _, [] => some []
  | k, p :: l => bif Nat.beq p.1 k then (match seqIdx (k + 1) l with
    | some r => some (p.2 :: r)
    | none => none) else none
def isLit (τ : List (Nat × TR)) (σ : Sl) (g : Gd) : Op → Option (Nat × TR × List DV × Nat)
  | .buildSlice t len parts => match tl τ t, evp σ g parts.toList with
    | some ⟨.slice e, _, _⟩, some ps => match tl τ e, seqIdx 0 ps with
      | some q, some ds => some (e, q, ds, len)
      | _, _ => none
    | _, _ => none
  | _ => none
def absm (H : Hp) : List (List DV) → List (List DV)
  | [] => []
  | c :: l => abss H c :: absm H l
theorem absm_eq (H : Hp) : ∀ l : List (List DV), absm H l = l.map (abss H)
  | [] => rfl
  | d :: l => by rw [absm, absm_eq H l, List.map_cons]
/-- All that a literal must be. -/
def litOk (H : Hp) (sz len : Nat) (ds : List DV) (cs : List (List DV)) : Bool :=
  Nat.beq ds.length len && (cs.all fun c => Nat.beq c.length sz && absAll H c) && nodupB (owns (flat cs)) && Nat.ble (len * sz) 16777216
section
variable {P : Program} {τ : List (Nat × TR)} {n : Nat} {σ σ' : Sl} {H H' H0 H1 HL HR Hn : Hp} {C : Cx} {ν ν' : Nm} {ι : Nat → Value} {F F' : Nat → Prop} {w w' W : World} {a : Act} {l rest ops : List Oper} {Q : Exit → Act → World → Prop} {o : Oper} {d : Nat} {A : Nat → Prop} {x r : DV} {g : Gd} {f : FuncId} {fn : Func} {c : Code} {t e sz bytes len : Nat} {q : TR} {z : List Value} {es es2 : List (List DV)} {S S2 : Nat → Prop} {ds : List DV} {cs : List (List DV)}
theorem seqIdx_ok : ∀ {k : Nat} {ps : List (Nat × DV)} {ds : List DV}, seqIdx k ps = some ds → ps.map (·.2) = ds ∧ ps.map (·.1) = (List.range' k ps.length)
  | k, [], ds, h => by simp only [seqIdx, Option.some.injEq] at h; subst h; exact ⟨rfl, rfl⟩
  | k, p :: ps, ds, h => by
    unfold seqIdx at h
    cases hb : Nat.beq p.1 k with
    | false => rw [hb] at h; cases h
    | true =>
      rw [hb] at h
      simp only [cond_true] at h
      split at h
      · rename_i r hr
        simp only [Option.some.injEq] at h
        subst h
        obtain ⟨h1, h2⟩ := seqIdx_ok hr
        refine ⟨by simp [h1], ?_⟩
        have hpk : p.1 = k := Nat.eq_of_beq_eq_true hb
        rw [List.map_cons, h2, List.length_cons, List.range'_succ, hpk]
      · cases h
theorem cellsAll_ok : ∀ {us : List Value} {ds : List DV} {cs : List (List DV)}, All ι F w us ds → cellsAll ds = some cs → us.length = cs.length ∧ ∀ (i : Nat) (u : Value) (c : List DV), us[i]? = some u → cs[i]? = some c → All ι F w u.cells.toList c ∧ ∀ y ∈ u.cells.toList, y.oneCell' = true
  | [], [], cs, _, h => by simp only [cellsAll, Option.some.injEq] at h; subst h; exact ⟨rfl, fun i u c h => by simp at h⟩
  | u :: us, d :: ds, cs, ha, h => by
    unfold cellsAll at h
    split at h
    · rename_i c r hc hr
      simp only [Option.some.injEq] at h
      subst h
      obtain ⟨h1, h2⟩ := cellsAll_ok ha.2 hr
      refine ⟨by simp [h1], fun i u' c' hu hc' => ?_⟩
      cases i with
      | zero =>
        simp only [List.getElem?_cons_zero, Option.some.injEq] at hu hc'
        subst hu hc'
        exact cellsD_ok ha.1 hc
      | succ i => exact h2 i u' c' (by simpa using hu) (by simpa using hc')
    · cases h
  | [], _ :: _, _, ha, _ => ha.elim
  | _ :: _, [], _, ha, _ => ha.elim
theorem flat_at : ∀ {cs : List (List DV)} {i j : Nat} {c : List DV} {d : DV}, (∀ c ∈ cs, c.length = sz) → cs[i]? = some c → c[j]? = some d → (flat cs)[i * sz + j]? = some d
  | [], i, j, c, d, _, h, _ => by simp at h
  | c0 :: cs, 0, j, c, d, hl, h, hj => by
    simp only [List.getElem?_cons_zero, Option.some.injEq] at h
    subst h
    have := (List.getElem?_eq_some_iff.1 hj).1
    rw [flat, Nat.zero_mul, Nat.zero_add, List.getElem?_append_left this]
    exact hj
  | c0 :: cs, i + 1, j, c, d, hl, h, hj => by
    have h0 := hl c0 List.mem_cons_self
    rw [flat, List.getElem?_append_right (by rw [h0, Nat.add_mul]; omega), h0, show (i + 1) * sz + j - sz = i * sz + j from by rw [Nat.add_mul, Nat.one_mul]; omega]
    exact flat_at (fun c hc => hl c (List.mem_cons_of_mem _ hc)) (by simpa using h) hj
theorem flatv_at : ∀ {us : List Value} {i j : Nat} {u y : Value}, (∀ u ∈ us, u.cells.toList.length = sz) → us[i]? = some u → u.cells.toList[j]? = some y → (us.flatMap fun v => v.cells.toList)[i * sz + j]? = some y
  | [], i, j, c, d, _, h, _ => by simp at h
  | c0 :: us, 0, j, c, d, hl, h, hj => by
    simp only [List.getElem?_cons_zero, Option.some.injEq] at h
    subst h
    have := (List.getElem?_eq_some_iff.1 hj).1
    rw [List.flatMap_cons, Nat.zero_mul, Nat.zero_add, List.getElem?_append_left this]
    exact hj
  | c0 :: us, i + 1, j, c, d, hl, h, hj => by
    have h0 := hl c0 List.mem_cons_self
    rw [List.flatMap_cons, List.getElem?_append_right (by rw [h0, Nat.add_mul]; omega), h0, show (i + 1) * sz + j - sz = i * sz + j from by rw [Nat.add_mul, Nat.one_mul]; omega]
    exact flatv_at (fun c hc => hl c (List.mem_cons_of_mem _ hc)) (by simpa using h) hj
theorem flatv_len : ∀ {us : List Value}, (∀ u ∈ us, u.cells.toList.length = sz) → (us.flatMap fun v => v.cells.toList).length = us.length * sz
  | [], _ => by simp
  | u :: us, h => by
    rw [List.flatMap_cons, List.length_append, flatv_len (fun u hu => h u (List.mem_cons_of_mem _ hu)), h u List.mem_cons_self, List.length_cons, Nat.add_mul]
    omega
end
end Go.Proofs.YtjjmoihpjmojiaaDoor.D
