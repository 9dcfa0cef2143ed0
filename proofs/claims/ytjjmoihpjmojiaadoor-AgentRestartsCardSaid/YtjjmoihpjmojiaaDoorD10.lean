/- Calls. -/
import Derived.Test.YtjjmoihpjmojiaaDoorD9
set_option linter.unusedVariables false
set_option linter.unusedSimpArgs false
namespace Go.Proofs.YtjjmoihpjmojiaaDoor.D
open Go.RowKit

/-- A nil slice told as an empty one. -/
def co : DV → DV
  | .v (.slice none 0 0) => .sl []
  | .agg cs => .agg (cos cs)
  | d => d
where cos : List DV → List DV
  | [] => []
  | d :: l => co d :: cos l
theorem cos_eq : ∀ l : List DV, co.cos l = l.map co
  | [] => rfl
  | d :: l => by rw [co.cos, cos_eq l, List.map_cons]
/-- Which of them. -/
def com : List Bool → List DV → List DV
  | true :: m, d :: l => co d :: com m l
  | false :: m, d :: l => d :: com m l
  | _, l => l
/-- All names that are not in the list are not named. -/
def named (rs : List Nat) : DV → Bool
  | .own s => rs.any fun r => Nat.beq r s
  | .ptr s _ => rs.any fun r => Nat.beq r s
  | .agg cs => nameds rs cs
  | .tup cs => nameds rs cs
  | .fn _ a b => nameds rs a && nameds rs b
  | _ => true
where nameds (rs : List Nat) : List DV → Bool
  | [] => true
  | d :: l => named rs d && nameds rs l
def namede (rs : List Nat) : En → Bool
  | .row _ _ _ => true
  | .rowh _ _ _ _ _ q => rs.any fun r => Nat.beq r q
  | .blk _ cs => named.nameds rs cs
  | .lit _ _ cs => named.nameds rs cs
  | .mp es => es.all fun p => named rs p.2
theorem any_beq {rs : List Nat} {s : Nat} (h : (rs.any fun r => Nat.beq r s) = true) : s ∈ rs := by
  rw [List.any_eq_true] at h
  obtain ⟨r, h1, h2⟩ := h
  rw [← Nat.eq_of_beq_eq_true h2]; exact h1
theorem named_nr {rs : List Nat} {s : Nat} (hs : s ∉ rs) (d : DV) : named rs d = true → nr s d = true := by
  have hown : ∀ t : Nat, (rs.any fun r => Nat.beq r t) = true → (!Nat.beq t s) = true := by
    intro t h
    have := any_beq h
    cases hb : Nat.beq t s with
    | false => rfl
    | true => exact absurd ((Nat.eq_of_beq_eq_true hb) ▸ this) hs
  refine DV.rec (motive_1 := fun d => named rs d = true → nr s d = true) (motive_2 := fun _ => True) (motive_3 := fun l => named.nameds rs l = true → nr.nrs s l = true) ?_ ?_ ?_ ?_ ?_ ?_ ?_ ?_ ?_ ?_ ?_ ?_ ?_ ?_ d
  · intro _ _; rfl
  · intro _ _ _; rfl
  · intro _ _ _ _ _; rfl
  · intro cs ih; exact ih
  · intro cs ih; exact ih
  · intro t h; exact hown t h
  · intro t off h; exact hown t h
  · intro _ _ _ _; rfl
  · intro f a b iha ihb h
    unfold named at h
    unfold nr
    rw [Bool.and_eq_true] at h ⊢
    exact ⟨iha h.1, ihb h.2⟩
  · intro _; rfl
  · trivial
  · intro _ _ _ _; trivial
  · intro _; rfl
  · intro d l ihd ihl h
    unfold named.nameds at h
    unfold nr.nrs
    rw [Bool.and_eq_true] at h ⊢
    exact ⟨ihd h.1, ihl h.2⟩
theorem nameds_nrs {rs : List Nat} {s : Nat} (hs : s ∉ rs) : ∀ l : List DV, named.nameds rs l = true → nr.nrs s l = true
  | [], _ => rfl
  | d :: l, h => by
    unfold named.nameds at h
    unfold nr.nrs
    rw [Bool.and_eq_true] at h ⊢
    exact ⟨named_nr hs d h.1, nameds_nrs hs l h.2⟩
theorem namede_enr {rs : List Nat} {s : Nat} (hs : s ∉ rs) : ∀ e : En, namede rs e = true → enr s e = true
  | .row _ _ _, _ => rfl
  | .rowh _ _ _ _ _ q, h => by
    unfold namede at h
    have := any_beq h
    show (!Nat.beq q s) = true
    cases hb : Nat.beq q s with
    | false => rfl
    | true => exact absurd ((Nat.eq_of_beq_eq_true hb) ▸ this) hs
  | .blk _ cs, h => nameds_nrs hs cs h
  | .lit _ _ cs, h => nameds_nrs hs cs h
  | .mp es, h => List.all_eq_true.2 fun p hp => named_nr hs p.2 (List.all_eq_true.1 h p hp)
section
variable {P : Program} {τ : List (Nat × TR)} {n : Nat} {σ σ' : Sl} {H H' H0 H1 HL HR Hn : Hp} {C : Cx} {ν ν' : Nm} {ι : Nat → Value} {F F' : Nat → Prop} {w w' W : World} {a : Act} {l rest ops : List Oper} {Q : Exit → Act → World → Prop} {o : Oper} {d : Nat} {A : Nat → Prop} {x r : DV} {g : Gd} {f : FuncId} {ds : List DV} {fn : Func} {c : Code}
theorem DR.co_ {v : Value} (h : DR ι F w v x) : DR ι F w v (co x) := by
  induction h with
  | any v => exact .any v
  | fr h =>
    cases h with
    | v _ h =>
      unfold co
      split
      · rename_i he
        cases he
        exact .fr .nil
      · rename_i he; cases he
      · exact .fr (.v _ h)
    | nil => exact .fr .nil
    | e0 ad => exact .fr (.e0 ad)
    | sl ad cap sz es u h1 h2 h3 h4 h5 => exact .fr (.sl ad cap sz es u h1 h2 h3 h4 h5)
  | own s h => exact .own s h
  | ptr s gg off h => exact .ptr s gg off h
  | fat ad c off u h1 h2 h3 => exact .fat ad c off u h1 h2 h3
  | fn f first cap us vs hu hv h1 h2 => exact .fn f first cap us vs hu hv h1 h2
  | agg ds us hu h1 h ih =>
    refine .agg _ us (by rw [cos_eq, List.length_map]; exact hu) h1 (fun j u d hj hd => ?_)
    rw [cos_eq, List.getElem?_map] at hd
    obtain ⟨d', h2, rfl⟩ := Option.map_eq_some_iff.1 hd
    exact ih j u d' hj h2
  | tup ds us hu h => exact .tup ds us hu h
theorem All.com_ : ∀ (m : List Bool) {us : List Value} {ds : List DV}, All ι F w us ds → All ι F w us (com m ds)
  | [], _, _, h => by unfold com; exact h
  | true :: _, [], [], h => h
  | false :: _, [], [], h => h
  | true :: m, _ :: _, _ :: _, h => ⟨h.1.co_, All.com_ m h.2⟩
  | false :: m, _ :: _, _ :: _, h => ⟨h.1, All.com_ m h.2⟩
  | true :: _, [], _ :: _, h => h.elim
  | false :: _, [], _ :: _, h => h.elim
  | true :: _, _ :: _, [], h => h.elim
  | false :: _, _ :: _, [], h => h.elim
theorem All.app : ∀ {us vs : List Value} {ds es : List DV}, All ι F w us ds → All ι F w vs es → All ι F w (us ++ vs) (ds ++ es)
  | [], _, [], _, _, h => h
  | _ :: _, _, _ :: _, _, h, h' => ⟨h.1, All.app h.2 h'⟩
  | [], _, _ :: _, _, h, _ => h.elim
  | _ :: _, _, [], _, h, _ => h.elim
/-- The names after a call: those of the objects that it hands back. -/
def join (ν ν' : Nm) (new all : List Nat) : Nm := ⟨fun s => bif new.any (fun r => Nat.beq r s) then ν'.v s else ν.v s, fun s => bif all.any (fun r => Nat.beq r s) then ν'.S s else ν.S s⟩
def rids (H : Hp) : List Nat := H.map (·.1)
theorem not_any {rs : List Nat} {s : Nat} (h : s ∉ rs) : (rs.any fun r => Nat.beq r s) = false := by
  cases hq : rs.any fun r => Nat.beq r s with
  | false => rfl
  | true => exact absurd (any_beq hq) h
theorem is_any {rs : List Nat} {s : Nat} (h : s ∈ rs) : (rs.any fun r => Nat.beq r s) = true := List.any_eq_true.2 ⟨s, h, Nat.beq_refl s⟩
/-- What a caller must see to: the names that come new are fresh; what is handed back names only what is lent or new. -/
def callOk (C : Cx) (HL HR H1 : Hp) (new : List Nat) (r : DV) : Bool :=
  (new.all fun q => fresh C HR q && HL.all fun e => !Nat.beq e.1 q) && (H1.all fun e => ((new ++ rids HL).any fun q => Nat.beq q e.1) && namede (new ++ rids HL) e.2) && named (new ++ rids HL) r && HR.all fun e => HL.all fun e' => !Nat.beq e'.1 e.1
/-- Of all objects, those lent and the rest. -/
def splitOk (H HL HR : Hp) : Prop := ∀ e, e ∈ H ↔ e ∈ HL ∨ e ∈ HR
theorem frame (hO : Ok ν H C w) (hsp : H.Perm (HL ++ HR)) (new : List Nat) (hk : callOk C HL HR H1 new r = true) :
    ∃ X' : Nat → Prop, Ok ν HL ⟨w, lentL ν HL, X'⟩ w ∧ (∀ k, Fz ν HL ⟨w, lentL ν HL, X'⟩ w k ↔ Fz ν H C w k) ∧ ∀ (v : Value) (ν' : Nm) (w' : World), Ok ν' H1 ⟨w, lentL ν HL, X'⟩ w' → DR ν'.v (Fz ν' H1 ⟨w, lentL ν HL, X'⟩ w') w' v r → ∃ J : Nm, Aft ν H C w (fun s => s ∉ new) (H1 ++ HR) r v w' J := by
  have hmem : ∀ e, e ∈ H ↔ e ∈ HL ∨ e ∈ HR := fun e => (hsp.mem_iff).trans List.mem_append
  unfold callOk at hk
  simp only [Bool.and_eq_true] at hk
  obtain ⟨⟨⟨hk1, hk2⟩, hk3⟩, hk4⟩ := hk
  have hnew : ∀ q ∈ new, fresh C HR q = true ∧ ∀ e ∈ HL, e.1 ≠ q := by
    intro q hq
    have := List.all_eq_true.1 hk1 q hq
    rw [Bool.and_eq_true] at this
    refine ⟨this.1, fun e he => ?_⟩
    have h2 := List.all_eq_true.1 this.2 e he
    simp only [Bool.not_eq_true'] at h2
    exact Nat.ne_of_beq_eq_false h2
  have hdis : ∀ e ∈ HR, ∀ e' ∈ HL, e'.1 ≠ e.1 := by
    intro e he e' he'
    have := List.all_eq_true.1 (List.all_eq_true.1 hk4 e he) e' he'
    simp only [Bool.not_eq_true'] at this
    exact Nat.ne_of_beq_eq_false this
  let X' : Nat → Prop := fun k => C.X k ∨ ∃ e ∈ HR, ν.S e.1 k
  let C' : Cx := ⟨w, lentL ν HL, X'⟩
  have hlent : ∀ p, p ∈ C'.L ↔ ∃ e ∈ HL, p = (e.1, ν.v e.1, ν.S e.1) := by
    intro p
    simp only [C', lentL, List.mem_map]
    exact ⟨fun ⟨e, h1, h2⟩ => ⟨e, h1, h2.symm⟩, fun ⟨e, h1, h2⟩ => ⟨e, h1, h2.symm⟩⟩
  have hFz : ∀ k, Fz ν HL C' w k ↔ Fz ν H C w k := by
    intro k
    constructor
    · rintro ⟨h1, h2, h3⟩
      refine ⟨h1, fun hx => h2 (.inl hx), fun e he hs => ?_⟩
      rcases (hmem e).1 he with h4 | h4
      · exact h3 e h4 hs
      · exact h2 (.inr ⟨e, h4, hs⟩)
    · rintro ⟨h1, h2, h3⟩
      refine ⟨h1, fun hx => ?_, fun e he => h3 e ((hmem e).2 (.inl he))⟩
      rcases hx with hx | ⟨e, he, hs⟩
      · exact h2 hx
      · exact h3 e ((hmem e).2 (.inr he)) hs
  have hndA : ((HL ++ HR).map (·.1)).Nodup := (hsp.map (·.1)).nodup_iff.1 hO.nd
  have hndL : (HL.map (·.1)).Nodup := by rw [List.map_append] at hndA; exact (List.nodup_append.1 hndA).1
  have hndR : (HR.map (·.1)).Nodup := by rw [List.map_append] at hndA; exact (List.nodup_append.1 hndA).2.1
  have hO' : Ok ν HL C' w := by
    refine ⟨fun e he => ?_, hndL, fun e he e' he' => hO.ap e ((hmem e).2 (.inl he)) e' ((hmem e').2 (.inl he')), fun e he => hO.bnd e ((hmem e).2 (.inl he)), fun e he k hk => .inl ⟨(e.1, ν.v e.1, ν.S e.1), (hlent _).2 ⟨e, he, rfl⟩, hk⟩, fun p hp => ?_, fun k hk => ?_, rfl, rfl, rfl, Nat.le_refl _, fun _ _ _ => rfl, fun p hp => ?_⟩
    · exact (hO.ent e ((hmem e).2 (.inl he))).mono (fun k hk => ⟨(hFz k).2 hk, rfl⟩) (fun _ => True) (fun _ _ => rfl) (fun _ hs => absurd trivial hs) trivial rfl (fun _ _ => rfl)
    · obtain ⟨e, he, rfl⟩ := (hlent p).1 hp
      rfl
    · rcases hk with hk | ⟨e, he, hs⟩
      · have h5 := hO.hX k hk
        refine ⟨Nat.lt_of_lt_of_le h5.1 hO.size, fun p hp => ?_⟩
        obtain ⟨e, he, rfl⟩ := (hlent p).1 hp
        intro hs
        rcases hO.base e ((hmem e).2 (.inl he)) k hs with ⟨p, hp, h6⟩ | h6
        · exact h5.2 p hp h6
        · omega
      · refine ⟨hO.bnd e ((hmem e).2 (.inr he)) k hs, fun p hp => ?_⟩
        obtain ⟨e', he', rfl⟩ := (hlent p).1 hp
        exact fun hs' => hO.ap e ((hmem e).2 (.inr he)) e' ((hmem e').2 (.inl he')) (Ne.symm (hdis e he e' he')) k hs hs'
    · obtain ⟨h1, u, h2⟩ := hO.gl p hp
      refine ⟨(hFz _).2 h1, u, fun i c hi => ⟨(h2 i c hi).1, fun j d hj => ?_⟩⟩
      exact ⟨((h2 i c hi).2 j d hj).1, ((h2 i c hi).2 j d hj).2.mono (fun k hk => ⟨(hFz k).2 hk, rfl⟩)⟩
  refine ⟨X', hO', hFz, fun v ν' w' hE hv => ?_⟩
  have hin : ∀ s, s ∈ new ++ rids HL → (s ∈ new ∨ ∃ e ∈ HL, e.1 = s) := by
    intro s hs
    rcases List.mem_append.1 hs with h | h
    · exact .inl h
    · obtain ⟨e, he, h2⟩ := List.mem_map.1 h
      exact .inr ⟨e, he, h2⟩
  have hH1 : ∀ e ∈ H1, (e.1 ∈ new ∨ ∃ e' ∈ HL, e'.1 = e.1) ∧ namede (new ++ rids HL) e.2 = true := by
    intro e he
    have := List.all_eq_true.1 hk2 e he
    rw [Bool.and_eq_true] at this
    exact ⟨hin _ (any_beq this.1), this.2⟩
  let J := join ν ν' new (rids H1)
  have hJv : ∀ s, s ∈ new ++ rids HL → J.v s = ν'.v s := by
    intro s hs
    show (bif new.any (fun r => Nat.beq r s) then ν'.v s else ν.v s) = _
    by_cases hn : s ∈ new
    · rw [is_any hn]; rfl
    · rw [not_any hn]
      rcases hin s hs with h | ⟨e, he, rfl⟩
      · exact absurd h hn
      · exact (hE.lent _ ((hlent _).2 ⟨e, he, rfl⟩)).symm
  have hJo : ∀ s, s ∉ new → J.v s = ν.v s := by
    intro s hs
    show (bif new.any (fun r => Nat.beq r s) then ν'.v s else ν.v s) = _
    rw [not_any hs]; rfl
  have hJS : ∀ e ∈ H1, J.S e.1 = ν'.S e.1 := by
    intro e he
    show (bif (rids H1).any (fun r => Nat.beq r e.1) then ν'.S e.1 else ν.S e.1) = _
    rw [is_any (show e.1 ∈ rids H1 from List.mem_map.2 ⟨e, he, rfl⟩)]; rfl
  have hRne : ∀ e ∈ HR, ∀ e1 ∈ H1, e1.1 ≠ e.1 := by
    intro e he e1 he1 heq
    rcases (hH1 e1 he1).1 with h | ⟨e', he', h⟩
    · exact (fresh_H (hnew _ h).1 e he).1 heq.symm
    · exact hdis e he e' he' (h.trans heq)
  have hJR : ∀ e ∈ HR, J.S e.1 = ν.S e.1 := by
    intro e he
    show (bif (rids H1).any (fun r => Nat.beq r e.1) then ν'.S e.1 else ν.S e.1) = _
    rw [not_any (fun hm => ?_)]
    · rfl
    · obtain ⟨e1, he1, h⟩ := List.mem_map.1 hm
      exact hRne e he e1 he1 h
  -- what the callee's end gives: blocks of H1 are lent ones or new
  have hbase : ∀ e ∈ H1, ∀ k, ν'.S e.1 k → (∃ e' ∈ HL, ν.S e'.1 k) ∨ w.heap.size ≤ k := by
    intro e he k hk
    rcases hE.base e he k hk with ⟨p, hp, h⟩ | h
    · obtain ⟨e', he', rfl⟩ := (hlent p).1 hp
      exact .inl ⟨e', he', h⟩
    · exact .inr h
  have hheap : ∀ k, k < w.heap.size → (∀ e ∈ HL, ¬ ν.S e.1 k) → w'.heap[k]? = w.heap[k]? := fun k hk hn => hE.block k hk (fun p hp => by
    obtain ⟨e', he', rfl⟩ := (hlent p).1 hp
    exact hn e' he')
  have hFz2 : ∀ k, Fz ν' H1 C' w' k ↔ Fz J (H1 ++ HR) C w' k := by
    intro k
    constructor
    · rintro ⟨h1, h2, h3⟩
      refine ⟨h1, fun hx => h2 (.inl hx), fun e he => ?_⟩
      rcases List.mem_append.1 he with h | h
      · rw [hJS e h]; exact h3 e h
      · rw [hJR e h]; exact fun hs => h2 (.inr ⟨e, h, hs⟩)
    · rintro ⟨h1, h2, h3⟩
      refine ⟨h1, fun hx => ?_, fun e he => ?_⟩
      · rcases hx with hx | ⟨e, he, hs⟩
        · exact h2 hx
        · have := h3 e (List.mem_append_right _ he)
          rw [hJR e he] at this
          exact this hs
      · have := h3 e (List.mem_append_left _ he)
        rwa [hJS e he] at this
  have hRk : ∀ e ∈ HR, ∀ k, ν.S e.1 k → w'.heap[k]? = w.heap[k]? := fun e he k hk => hheap k (hO.bnd e ((hmem e).2 (.inr he)) k hk) (fun e' he' hs => hO.ap e ((hmem e).2 (.inr he)) e' ((hmem e').2 (.inl he')) (Ne.symm (hdis e he e' he')) k hk hs)
  have hst := hO.step (ν' := J) (w' := w') (H' := H1 ++ HR) (A := fun s => s ∉ new) (fun s hs => hJo s hs)
    (fun p hp hn => (fresh_L (hnew _ hn).1 p hp) rfl) hE.os hE.tape hE.out hE.size
    (fun k hk hn => hheap k hk (fun e he => hn e ((hmem e).2 (.inl he))))
    (by
      rw [List.map_append]
      refine List.nodup_append.2 ⟨hE.nd, hndR, fun a ha b hb hab => ?_⟩
      obtain ⟨e1, h1, rfl⟩ := List.mem_map.1 ha
      obtain ⟨e2, h2, rfl⟩ := List.mem_map.1 hb
      exact hRne e2 h2 e1 h1 hab)
    (by
      have cross : ∀ e1 ∈ H1, ∀ e2 ∈ HR, ∀ k, ν'.S e1.1 k → ν.S e2.1 k → False := by
        intro e1 h1 e2 h2 k hk1 hk2
        rcases hbase e1 h1 k hk1 with ⟨e', he', hs⟩ | hs
        · exact hO.ap e2 ((hmem e2).2 (.inr h2)) e' ((hmem e').2 (.inl he')) (Ne.symm (hdis e2 h2 e' he')) k hk2 hs
        · have := hO.bnd e2 ((hmem e2).2 (.inr h2)) k hk2; omega
      intro e1 h1 e2 h2 hne k hk1 hk2
      rcases List.mem_append.1 h1 with h1 | h1 <;> rcases List.mem_append.1 h2 with h2 | h2
      · rw [hJS e1 h1] at hk1; rw [hJS e2 h2] at hk2; exact hE.ap e1 h1 e2 h2 hne k hk1 hk2
      · rw [hJS e1 h1] at hk1; rw [hJR e2 h2] at hk2; exact cross e1 h1 e2 h2 k hk1 hk2
      · rw [hJR e1 h1] at hk1; rw [hJS e2 h2] at hk2; exact cross e2 h2 e1 h1 k hk2 hk1
      · rw [hJR e1 h1] at hk1; rw [hJR e2 h2] at hk2; exact hO.ap e1 ((hmem e1).2 (.inr h1)) e2 ((hmem e2).2 (.inr h2)) hne k hk1 hk2)
    (by
      intro e he k hk
      rcases List.mem_append.1 he with h | h
      · rw [hJS e h] at hk
        refine ⟨hE.bnd e h k hk, ?_⟩
        rcases hbase e h k hk with ⟨e', he', hs⟩ | hs
        · exact .inr ⟨e', (hmem e').2 (.inl he'), hs⟩
        · exact .inl hs
      · rw [hJR e h] at hk
        exact ⟨Nat.lt_of_lt_of_le (hO.bnd e ((hmem e).2 (.inr h)) k hk) hE.size, .inr ⟨e, (hmem e).2 (.inr h), hk⟩⟩)
    (by
      intro F hF hF' e he
      rcases List.mem_append.1 he with h | h
      · refine (hE.ent e h).mono (fun k hk => ⟨(hF' k).2 ((hFz2 k).1 hk), rfl⟩) (fun s => s ∈ new ++ rids HL) hJv (fun s hs => namede_enr hs _ (hH1 e h).2) ?_ (hJS e h) (fun _ _ => rfl)
        rcases (hH1 e h).1 with h2 | ⟨e', he', h2⟩
        · exact List.mem_append_left _ h2
        · exact List.mem_append_right _ (List.mem_map.2 ⟨e', he', h2⟩)
      · refine (hO.ent e ((hmem e).2 (.inr h))).mono hF (fun s => s ∉ new) (fun s hs => hJo s hs) (fun s hs => ?_) (fun hn => (fresh_H (hnew _ hn).1 e h).1 rfl) (hJR e h) (hRk e h)
        have hs' : s ∈ new := Classical.not_not.1 hs
        exact (fresh_H (hnew s hs').1 e h).2)
  exact ⟨J, hJo, hst.1, hst.2, hv.mono (fun k hk => ⟨(hFz2 k).1 hk, rfl⟩) (fun s => s ∈ new ++ rids HL) hJv (fun s hs => named_nr hs r hk3)⟩
theorem call_ok (hO : Ok ν H C w) (hsp : H.Perm (HL ++ HR)) (hc : Con P f ds HL r H1) (new : List Nat) (hk : callOk C HL HR H1 new r = true) {us : List Value} (ha : All ν.v (Fz ν H C w) w us ds) :
    Calls P f us.toArray w (fun e w' => ∃ v ν', e = .returned v ∧ Aft ν H C w (fun s => s ∉ new) (H1 ++ HR) r v w' ν') := by
  obtain ⟨X', hO', hFz, hfin⟩ := frame hO hsp new hk
  refine (hc w us ν X' hO' (All.of ha.length (fun j u d hj hd => (ha.at_ j u d hj hd).keep (fun k hk => ⟨(hFz k).2 hk, rfl⟩)))).mono ?_
  rintro e w' ⟨v, ν', rfl, hE, hv⟩
  obtain ⟨J, hJ⟩ := hfin v ν' w' hE hv
  exact ⟨v, J, rfl, hJ⟩
end
end Go.Proofs.YtjjmoihpjmojiaaDoor.D
