/- More steps: package variables, literals of any cells, == of structs, shifts, make, append over typed lists, calls in drawn regions, rows given up inside blocks, jumps back. -/
import Derived.Test.YtjjmoihpjmojiaaDoorD26
import Derived.Laws.StructEq
import Derived.Laws.MakeOwn
set_option linter.unusedVariables false
set_option linter.unusedSimpArgs false
namespace Go.Proofs.YtjjmoihpjmojiaaDoor.D
open Go.RowKit

theorem map_set {α : Type} (c : α → List DV) (l : List α) (i : Nat) (x : α) : (l.map c).set i (c x) = (l.set i x).map c := by rw [List.map_set]
theorem map_pls {α : Type} {c : α → List DV} {l : List α} (h : ∀ x, pls (c x) = true) : ∀ d ∈ l.map c, pls d = true := fun d hd => by
  obtain ⟨x, _, rfl⟩ := List.mem_map.1 hd
  exact h x
/-- n elements z, if they are not too many. -/
def make_ {α : Type} (b : Nat) (n : Int) (z : α) : Option (List α) := if 0 ≤ n then (if n.toNat * b ≤ 140737488355328 then some (List.replicate n.toNat z) else none) else none
theorem of_make {α : Type} {b : Nat} {n : Int} {z : α} {l : List α} (h : make_ b n z = some l) : 0 ≤ n ∧ n.toNat * b ≤ 140737488355328 ∧ l = List.replicate n.toNat z := by
  unfold make_ at h
  split at h
  · split at h
    · rename_i h0 h1
      simp only [Option.some.injEq] at h
      exact ⟨h0, h1, h.symm⟩
    · cases h
  · cases h
/-! ### == of structs -/
def eqc : Option IntKind → Value → Value → Option Bool
  | some k, .int k1 a, .int k2 b => bif keq k k1 && keq k k2 then some (a == b) else none
  | none, .bool a, .bool b => some (a == b)
  | _, _, _ => none
def eqV : List (Option IntKind) → List Value → List Value → Option Bool
  | [], [], [] => some true
  | k :: ks, u :: us, v :: vs => match eqc k u v, eqV ks us vs with
    | some a, some b => some (a && b)
    | _, _ => none
  | _, _, _ => none
def eqD : List (Option IntKind) → List DV → List DV → Option Bool
  | [], [], [] => some true
  | some k :: ks, .v (.int k1 a) :: us, .v (.int k2 b) :: vs => bif keq k k1 && keq k k2 then (match eqD ks us vs with
    | some e => some ((a == b) && e)
    | none => none) else none
  | none :: ks, .v (.bool a) :: us, .v (.bool b) :: vs => match eqD ks us vs with
    | some e => some ((a == b) && e)
    | none => none
  | _, _, _ => none
def eqFs (P : Program) (sh : TypeId → Option (List (Option IntKind))) : Nat → List Field → Option (List (Option IntKind))
  | _, [] => some []
  | off, f :: r => match sh f.type with
    | some ks => bif (f.name != "_") && Nat.beq f.offset off && ((P.info? f.type).map (·.size) == some ks.length) && (P.underlying f.type).isSome && Nat.blt 0 ks.length then (match eqFs P sh (off + ks.length) r with
      | some l => some (ks ++ l)
      | none => none) else none
    | none => none
def eqShape (P : Program) : Nat → TypeId → Option (List (Option IntKind))
  | 0, _ => none
  | d + 1, t => match P.underlying t with
    | some .bool => some [none]
    | some (.int k) => some [some k]
    | some (.struct fs) => bif P.stoodInHeld t then none else eqFs P (eqShape P d) 0 fs.toList
    | _ => none
def mkv (P : Program) (t : TypeId) (us : List Value) : Value := bif aggB P t then .agg us.toArray else us.headD undef
theorem eqV_len : ∀ {ks : List (Option IntKind)} {us vs : List Value} {b : Bool}, eqV ks us vs = some b → us.length = ks.length ∧ vs.length = ks.length
  | [], [], [], _, _ => ⟨rfl, rfl⟩
  | k :: ks, u :: us, v :: vs, b, h => by
    unfold eqV at h
    split at h
    · rename_i x y h1 h2
      have := eqV_len h2
      exact ⟨by simp [this.1], by simp [this.2]⟩
    · cases h
  | [], [], _ :: _, _, h => by simp [eqV] at h
  | [], _ :: _, _, _, h => by simp [eqV] at h
  | _ :: _, [], _, _, h => by simp [eqV] at h
  | _ :: _, _ :: _, [], _, h => by simp [eqV] at h
theorem eqV_app : ∀ {ks ls : List (Option IntKind)} {us vs : List Value} {b : Bool}, eqV (ks ++ ls) us vs = some b → ∃ b1 b2, eqV ks (us.take ks.length) (vs.take ks.length) = some b1 ∧ eqV ls (us.drop ks.length) (vs.drop ks.length) = some b2 ∧ b = (b1 && b2)
  | [], ls, us, vs, b, h => ⟨true, b, by simp [eqV], by simpa using h, by simp⟩
  | k :: ks, ls, us, vs, b, h => by
    cases us with
    | nil => cases vs <;> simp [eqV] at h
    | cons u us =>
      cases vs with
      | nil => simp [eqV] at h
      | cons v vs =>
        rw [List.cons_append] at h
        unfold eqV at h
        split at h
        · rename_i x y h1 h2
          simp only [Option.some.injEq] at h
          obtain ⟨b1, b2, h3, h4, h5⟩ := eqV_app h2
          refine ⟨x && b1, b2, ?_, by simpa using h4, by rw [← h, h5, Bool.and_assoc]⟩
          simp only [List.length_cons, List.take_succ_cons]
          unfold eqV
          rw [h1, h3]
        · cases h
section
variable {P : Program} {τ : List (Nat × TR)} {n : Nat} {σ σ' : Sl} {H H' H0 H1 HL HR Hn Hn' : Hp} {C : Cx} {ν ν' : Nm} {ι : Nat → Value} {F F' : Nat → Prop} {w w' W : World} {a : Act} {l rest ops : List Oper} {Q : Exit → Act → World → Prop} {o : Oper} {d s j : Nat} {u b : Bool} {A : Nat → Prop} {x r : DV} {g gd : Gd} {f : OpF}
theorem part_mkv {t : TypeId} {xs : Array Value} {off k : Nat} (hk : (P.info? t).map (·.size) = some k) (hu : (P.underlying t).isSome = true) (hlt : off + k ≤ xs.size) (h1 : aggB P t = false → k = 1) :
    (part t xs off).run P w = .ok (mkv P t ((xs.toList.drop off).take k)) w := by
  unfold part mkv
  simp only [Sem.run_bind, run_isAgg hu, Result.andThen_ok]
  cases hag : aggB P t with
  | true =>
    simp only [if_true, Sem.run_bind, run_sizeOf hk, Result.andThen_ok, Sem.run_pure, cond_true]
    congr 2
    apply Array.ext'
    rw [Array.toList_extract, List.extract_eq_take_drop]
    simp
  | false =>
    have hk1 := h1 hag
    subst hk1
    have hlt' : off < xs.toList.length := by simp; omega
    have hx : xs[off]? = some (xs.toList[off]) := by simp [show off < xs.size from by omega]
    have hd : (xs.toList.drop off).take 1 = [xs.toList[off]] := by
      rw [List.drop_eq_getElem_cons hlt']
      rfl
    simp [hd, hx]
theorem eqShape_one {t : TypeId} {d : Nat} {ks : List (Option IntKind)} (h : eqShape P d t = some ks) (hag : aggB P t = false) : ks.length = 1 := by
  cases d with
  | zero => cases h
  | succ d =>
    unfold eqShape at h
    unfold aggB at hag
    split at h
    · simp only [Option.some.injEq] at h; rw [← h]; rfl
    · simp only [Option.some.injEq] at h; rw [← h]; rfl
    · rename_i fs hu; rw [hu] at hag; cases hag
    · cases h
theorem eqc_ok {k : Option IntKind} {x y : Value} {b : Bool} (h : eqc k x y = some b) : (∃ k' p q, k = some k' ∧ x = .int k' p ∧ y = .int k' q ∧ b = (p == q)) ∨ (∃ p q, k = none ∧ x = .bool p ∧ y = .bool q ∧ b = (p == q)) := by
  unfold eqc at h
  split at h
  · rename_i k' k1 p k2 q
    cases hk : (keq k' k1 && keq k' k2) with
    | false => rw [hk] at h; cases h
    | true =>
      rw [hk] at h
      simp only [cond_true, Option.some.injEq] at h
      rw [Bool.and_eq_true] at hk
      have h1 := keq_eq hk.1
      have h2 := keq_eq hk.2
      subst h1 h2
      exact .inl ⟨_, _, _, rfl, rfl, rfl, h.symm⟩
  · rename_i p q
    simp only [Option.some.injEq] at h
    exact .inr ⟨_, _, rfl, rfl, rfl, h.symm⟩
  · cases h
theorem one_of : ∀ {us : List Value}, us.length = 1 → us = [us.headD undef]
  | [x], _ => rfl
  | [], h => by cases h
  | _ :: _ :: _, h => by simp at h
theorem eqShape_ok : ∀ (d : Nat) (t : TypeId) (ks : List (Option IntKind)), eqShape P d t = some ks → ∀ (m : Nat) (w : World) (us vs : List Value) (b : Bool), eqV ks us vs = some b → (Op.equalIn (m + d) t (mkv P t us) (mkv P t vs)).run P w = .ok b w
  | 0, _, _, h => by cases h
  | d + 1, t, ks, h => by
    intro m w us vs b hb
    have h0 := h
    unfold eqShape at h
    rw [show m + (d + 1) = (m + d) + 1 from rfl]
    split at h
    · rename_i hu
      simp only [Option.some.injEq] at h
      subst h
      have hag : aggB P t = false := by unfold aggB; rw [hu]
      obtain ⟨x, y, rfl, rfl⟩ : ∃ x y, us = [x] ∧ vs = [y] := by
        obtain ⟨l1, l2⟩ := eqV_len hb
        exact ⟨us.headD undef, vs.headD undef, one_of l1, one_of l2⟩
      · simp only [eqV] at hb
        cases hc : eqc none x y with
        | none => rw [hc] at hb; cases hb
        | some e =>
          rw [hc] at hb
          simp only [Bool.and_true, Option.some.injEq] at hb
          rcases eqc_ok hc with ⟨_, _, _, h1, _⟩ | ⟨p, q, _, rfl, rfl, h2⟩
          · cases h1
          · subst hb h2
            simp only [mkv, hag, cond_false, List.headD_cons]
            exact run_equalIn_bool' w (m + d) t p q hu
    · rename_i k hu
      simp only [Option.some.injEq] at h
      subst h
      have hag : aggB P t = false := by unfold aggB; rw [hu]
      obtain ⟨x, y, rfl, rfl⟩ : ∃ x y, us = [x] ∧ vs = [y] := by
        obtain ⟨l1, l2⟩ := eqV_len hb
        exact ⟨us.headD undef, vs.headD undef, one_of l1, one_of l2⟩
      · simp only [eqV] at hb
        cases hc : eqc (some k) x y with
        | none => rw [hc] at hb; cases hb
        | some e =>
          rw [hc] at hb
          simp only [Bool.and_true, Option.some.injEq] at hb
          rcases eqc_ok hc with ⟨k', p, q, h1, rfl, rfl, h2⟩ | ⟨_, _, h1, _⟩
          · subst hb h2
            simp only [mkv, hag, cond_false, List.headD_cons]
            exact run_equalIn_int w (m + d) t k' k p q hu
          · cases h1
    · rename_i fs hu
      cases hp : P.stoodInHeld t with
      | true => rw [hp] at h; cases h
      | false =>
        rw [hp] at h
        simp only [cond_false] at h
        have hag : aggB P t = true := by unfold aggB; rw [hu]
        have hf : P.fieldsOf t = fs := by simp [Program.fieldsOf, hu]
        simp only [mkv, hag, cond_true]
        rw [run_equalIn_struct (P := P) w (m + d) t _ _ (by rw [hf]; exact hu) hp, hf]
        have key : ∀ (l : List Field) (off : Nat) (ks : List (Option IntKind)) (b : Bool), eqFs P (eqShape P d) off l = some ks → eqV ks (us.drop off) (vs.drop off) = some b → (Op.eqFields (m + d) us.toArray vs.toArray l).run P w = .ok b w := by
          intro l
          induction l with
          | nil =>
            intro off ks b hk hb
            simp only [eqFs, Option.some.injEq] at hk
            subst hk
            have : b = true := by
              generalize us.drop off = x at hb
              generalize vs.drop off = y at hb
              cases x <;> cases y <;> simp [eqV] at hb
              first | exact hb.symm | exact hb
            subst this
            simp [Op.eqFields]
          | cons f r ih =>
            intro off ks b hk hb
            unfold eqFs at hk
            split at hk
            · rename_i ks1 hs1
              cases hc : ((f.name != "_") && Nat.beq f.offset off && ((P.info? f.type).map (·.size) == some ks1.length) && (P.underlying f.type).isSome && Nat.blt 0 ks1.length) with
              | false => rw [hc] at hk; cases hk
              | true =>
                rw [hc] at hk
                simp only [cond_true] at hk
                simp only [Bool.and_eq_true, beq_iff_eq] at hc
                obtain ⟨⟨⟨⟨hc1, hc2⟩, hc3⟩, hc4⟩, hc5⟩ := hc
                have hc5' : 0 < ks1.length := by simpa [Nat.blt_eq] using hc5
                have hoff : f.offset = off := Nat.eq_of_beq_eq_true hc2
                have hn : f.name ≠ "_" := by simpa using hc1
                cases hl : eqFs P (eqShape P d) (off + ks1.length) r with
                | none => rw [hl] at hk; cases hk
                | some l2 =>
                  rw [hl] at hk
                  simp only [Option.some.injEq] at hk
                  subst hk
                  obtain ⟨b1, b2, h1, h2, rfl⟩ := eqV_app hb
                  have hlen := eqV_len h1
                  rw [List.drop_drop, List.drop_drop] at h2
                  have h3 := eqShape_ok d f.type ks1 hs1 m w _ _ b1 h1
                  have h4 := ih (off + ks1.length) l2 b2 hl (by rw [Nat.add_comm off]; rw [Nat.add_comm] at h2; simpa [Nat.add_comm] using h2)
                  have l1 : off + ks1.length ≤ us.length ∧ off + ks1.length ≤ vs.length := by
                    have e1 := hlen.1
                    have e2 := hlen.2
                    rw [List.length_take, List.length_drop] at e1 e2
                    omega
                  have p1 := part_mkv (w := w) (xs := us.toArray) (off := f.offset) hc3 hc4 (by rw [hoff]; simpa using l1.1) (fun hag => eqShape_one hs1 hag)
                  have p2 := part_mkv (w := w) (xs := vs.toArray) (off := f.offset) hc3 hc4 (by rw [hoff]; simpa using l1.2) (fun hag => eqShape_one hs1 hag)
                  rw [hoff] at p1 p2
                  rw [Op.eqFields]
                  simp only [if_pos hn, Sem.run_bind, hoff, p1, p2, Result.andThen_ok]
                  simp only [h3, Result.andThen_ok]
                  cases b1 with
                  | false => simp
                  | true => simpa using h4
            · cases hk
        exact key fs.toList 0 ks b h (by simpa using hb)
    · cases h
end
end Go.Proofs.YtjjmoihpjmojiaaDoor.D
