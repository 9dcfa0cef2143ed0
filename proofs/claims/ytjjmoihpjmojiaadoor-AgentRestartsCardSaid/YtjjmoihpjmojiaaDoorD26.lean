/- Steps out of 'Prov'; slots and objects put in order; names exchanged; rows given up. -/
import Derived.Test.YtjjmoihpjmojiaaDoorD25
set_option linter.unusedVariables false
set_option linter.unusedSimpArgs false
namespace Go.Proofs.YtjjmoihpjmojiaaDoor.D
open Go.RowKit

/-! ### Words of the mirrored functions -/
def gd {α : Type} (b : Bool) (x : Option α) (d : α) : Option α := if b then x else some d
theorem of_gd {α : Type} {b : Bool} {x : Option α} {d y : α} (h : gd b x d = some y) : (b = true → x = some y) ∧ (b = false → d = y) := by
  unfold gd at h
  cases b with
  | true => exact ⟨fun _ => h, (fun h => by cases h)⟩
  | false =>
    simp only [Bool.false_eq_true, if_false, Option.some.injEq] at h
    exact ⟨(fun h => by cases h), fun _ => h⟩
/-- A list of elements of so many bytes, if it isn't too long. -/
def room {α : Type} (b : Nat) (l : List α) : Option (List α) := if l.length * b ≤ 140737488355328 then some l else none
theorem of_room {α : Type} {b : Nat} {l m : List α} (h : room b l = some m) : l = m ∧ m.length * b ≤ 140737488355328 := by
  unfold room at h
  split at h
  · rename_i hl
    simp only [Option.some.injEq] at h
    subst h
    exact ⟨rfl, hl⟩
  · cases h
theorem room63 {n b : Nat} (h : n * b ≤ 140737488355328) (hb : Nat.blt 0 b = true) : n ≤ maxLen := by
  have h0 : 0 < b := by simpa [Nat.blt_eq] using hb
  have := Nat.le_mul_of_pos_right n h0
  unfold maxLen
  omega
def nat_ (i : Int) : Option Nat := if 0 ≤ i then some i.toNat else none
theorem of_nat {i : Int} {k : Nat} (h : nat_ i = some k) : i = (k : Int) := by
  unfold nat_ at h
  split at h
  · simp only [Option.some.injEq] at h; omega
  · cases h
theorem b_if {α : Type} {b : Bool} {X Y : Option α} {r : α} (h : (if b then X else Y) = some r) : (b = true ∧ X = some r) ∨ (b = false ∧ Y = some r) := by
  cases b with
  | true => exact .inl ⟨rfl, h⟩
  | false => exact .inr ⟨rfl, h⟩
theorem at_idx {α : Type} {l : List α} {i : Int} {x : α} (h : at_ l i = some x) : 0 ≤ i ∧ i.toNat < l.length ∧ l[i.toNat]? = some x := by
  unfold at_ at h
  split at h
  · rename_i h0
    exact ⟨h0, (List.getElem?_eq_some_iff.1 h).1, h⟩
  · cases h
def set_ {α : Type} (l : List α) (i : Int) (x : α) : Option (List α) := if 0 ≤ i then (if i.toNat < l.length then some (l.set i.toNat x) else none) else none
/-- From i to j. -/
def cut_ {α : Type} (l : List α) (i j : Int) : Option (List α) := if 0 ≤ i then (if i ≤ j then (if j ≤ l.length then some ((l.take j.toNat).drop i.toNat) else none) else none) else none
theorem of_cut {α : Type} {l m : List α} {i j : Int} (h : cut_ l i j = some m) (c : α → List DV) : 0 ≤ i ∧ i ≤ j ∧ j ≤ (l.map c).length ∧ ((l.map c).take j.toNat).drop i.toNat = m.map c := by
  unfold cut_ at h
  split at h
  · split at h
    · split at h
      · rename_i h0 h1 h2
        simp only [Option.some.injEq] at h
        subst h
        exact ⟨h0, h1, by rw [List.length_map]; exact h2, by rw [List.map_drop, List.map_take]⟩
      · cases h
    · cases h
  · cases h
theorem map_at {α : Type} {l : List α} {c : α → List DV} {sz : Nat} (h : ∀ x, (c x).length = sz) : ∀ (i : Nat) (d : List DV), (l.map c)[i]? = some d → d.length = sz := by
  intro i d hd
  rw [List.getElem?_map] at hd
  obtain ⟨x, _, rfl⟩ := Option.map_eq_some_iff.1 hd
  exact h x
theorem map_app {α : Type} (l m : List α) (c : α → List DV) : l.map c ++ m.map c = (l ++ m).map c := by rw [List.map_append]
theorem map_nil_app {α : Type} (m : List α) (c : α → List DV) : [] ++ m.map c = m.map c := rfl
theorem fzn_map {α : Type} {l : List α} {c : α → List DV} {e sz : Nat} (h : ∀ x, pls (c x) = true) : Fzn (.osl e sz (l.map c)) (.sl (l.map c)) := by
  refine .osl e sz _ _ rfl (fun i d d' h1 h2 => by rw [h1] at h2; cases h2; rfl) (fun i d d' j y y' h1 h2 h3 h4 => ?_)
  rw [h1] at h2
  cases h2
  rw [h3] at h4
  cases h4
  refine .same _ ?_
  rw [List.getElem?_map] at h1
  obtain ⟨x, _, rfl⟩ := Option.map_eq_some_iff.1 h1
  exact pls_at (h x) j y h3
section
variable {P : Program} {τ : List (Nat × TR)} {n : Nat} {σ σ' : Sl} {H H' H0 H1 HL HR Hn Hn' : Hp} {C : Cx} {ν ν' : Nm} {ι : Nat → Value} {F F' : Nat → Prop} {w w' W : World} {a : Act} {l rest ops : List Oper} {Q : Exit → Act → World → Prop} {o : Oper} {d s j : Nat} {u b : Bool} {A : Nat → Prop} {x r : DV} {g gd : Gd} {f : OpF}
/-! ### Slots and objects put in order -/
def frc : DV → Option DV
  | .v x => some (.v x)
  | .sl es => some (.sl es)
  | .osl e sz es => some (.osl e sz es)
  | .agg cs => some (.agg cs)
  | .tup cs => some (.tup cs)
  | .own r => some (.own r)
  | .ptr r o => some (.ptr r o)
  | .fat c o => some (.fat c o)
  | .fn f a b => some (.fn f a b)
  | .any => some .any
theorem frc_eq (d : DV) : frc d = some d := by cases d <;> rfl
def subF (σ : Sl) : List Nat → Option Sl
  | [] => some []
  | t :: r => match lk σ t, subF σ r with
    | some (none, v), some s => match frc v with
      | some v => some ((t, none, v) :: s)
      | none => none
    | _, _ => none
theorem subF_eq : ∀ l : List Nat, subF σ l = sub σ l
  | [] => rfl
  | t :: r => by
    unfold subF sub
    rw [subF_eq r]
    simp only [frc_eq]
    rcases lk σ t with _ | ⟨g, v⟩
    · rfl
    · cases g <;> cases sub σ r <;> rfl
def frcE : En → Option En
  | .row e sz es => some (.row e sz es)
  | .rowh e sz es i j q => some (.rowh e sz es i j q)
  | .blk t cs => some (.blk t cs)
  | .lit t n cs => some (.lit t n cs)
  | .mp es => some (.mp es)
theorem frcE_eq (d : En) : frcE d = some d := by cases d <;> rfl
def subH (H : Hp) : List Nat → Option Hp
  | [] => some []
  | t :: r => match hl H t, subH H r with
    | some v, some s => match frcE v with
      | some v => some ((t, v) :: s)
      | none => none
    | _, _ => none
theorem subH_mem : ∀ {l : List Nat} {s : Hp}, subH H l = some s → s.map (·.1) = l ∧ ∀ e ∈ s, e ∈ H
  | [], s, h => by simp only [subH, Option.some.injEq] at h; subst h; exact ⟨rfl, fun e he => by cases he⟩
  | t :: r, s, h => by
    unfold subH at h
    split at h
    · rename_i v s' h1 h2
      simp only [frcE_eq, Option.some.injEq] at h
      subst h
      obtain ⟨h3, h4⟩ := subH_mem h2
      refine ⟨by simp [h3], fun e he => ?_⟩
      rcases List.mem_cons.1 he with rfl | he
      · exact hl_mem h1
      · exact h4 e he
    · cases h
/-- Some of the slots, some of the objects, in such an order. -/
theorem St.pick_ (h : St n σ H C w a ν) (ls lo : List Nat) (hs : subF σ ls = some σ') (ho : subH H lo = some H') (hn : nodupB lo = true) : St n σ' H' C w a ν := by
  obtain ⟨h1, h2⟩ := subH_mem ho
  rw [subF_eq] at hs
  have h3 := h.o.step (H' := H') (w' := w) (ν' := ν) (A := fun _ => True) (fun _ _ => rfl) (fun _ _ => trivial) rfl rfl rfl (Nat.le_refl _) (fun _ _ _ => rfl) (by rw [h1]; exact nodupB_ok hn) (fun e he e' he' => h.o.ap e (h2 e he) e' (h2 e' he')) (fun e he k hk => ⟨h.o.bnd e (h2 e he) k hk, .inr ⟨e, h2 e he, hk⟩⟩)
    (fun F hF _ e he => (h.o.ent e (h2 e he)).mono hF (fun _ => True) (fun _ _ => rfl) (fun _ hs => absurd trivial hs) trivial rfl (fun _ _ => rfl))
  exact ⟨(h.slots ls hs).f.keep h3.2 (fun _ _ => rfl), h3.1⟩
/-! ### Names exchanged -/
def rnS (π : Nat → Nat) : Sl → Sl
  | [] => []
  | e :: l => (e.1, e.2.1, rn π e.2.2) :: rnS π l
theorem lk_rnS {π : Nat → Nat} : ∀ {σ : Sl} {t : Nat} {g : Gd} {d : DV}, lk (rnS π σ) t = some (g, d) → ∃ d', lk σ t = some (g, d') ∧ d = rn π d'
  | [], _, _, _, h => by cases h
  | e :: l, t, g, d, h => by
    unfold rnS lk at h
    unfold lk
    cases hb : Nat.beq e.1 t with
    | true =>
      simp only [hb, cond_true, Option.some.injEq, Prod.mk.injEq] at h ⊢
      exact ⟨e.2.2, by rw [← h.1], h.2.symm⟩
    | false =>
      simp only [hb, cond_false] at h ⊢
      exact lk_rnS h
theorem St.sw_ (h : St n σ H C w a ν) (p q : Nat) (hL : (C.L.all fun e => !Nat.beq e.1 p && !Nat.beq e.1 q) = true) : St n (rnS (sw p q) σ) (rnH (sw p q) H) C w a (nmp ν (sw p q)) := by
  have hπ := sw_sw p q
  have h1 := Ok.rn_ (ν := nmp ν (sw p q)) (π := sw p q) hπ (by rw [nmp_nmp hπ]; exact h.o)
  have hL' : rnL (sw p q) C.L = C.L := by
    unfold rnL
    conv => rhs; rw [← List.map_id C.L]
    refine List.map_congr_left fun e he => ?_
    have h2 := List.all_eq_true.1 hL e he
    rw [Bool.and_eq_true] at h2
    have : sw p q e.1 = e.1 := by
      unfold sw
      rw [beq_ne (nb h2.1), beq_ne (nb h2.2)]
      rfl
    show (sw p q e.1, e.2) = id e
    rw [this]
    rfl
  rw [hL'] at h1
  have hFe : Fz ν H C w = Fz (nmp ν (sw p q)) (rnH (sw p q) H) C w := by
    funext k
    apply propext
    constructor
    · rintro ⟨a, b, c⟩
      refine ⟨a, b, fun e he => ?_⟩
      obtain ⟨e', he', rfl⟩ := mem_rnH.1 he
      simp only [nmp, hπ]
      exact c e' he'
    · rintro ⟨a, b, c⟩
      refine ⟨a, b, fun e he => ?_⟩
      have := c _ (mem_rnH.2 ⟨e, he, rfl⟩)
      simp only [nmp, hπ] at this
      exact this
  refine ⟨⟨h.f.df, h.f.sz, fun t g d hl hg => ?_⟩, h1⟩
  obtain ⟨d', h2, rfl⟩ := lk_rnS hl
  obtain ⟨v, h3, h4⟩ := h.f.at_ t g d' h2 hg
  refine ⟨v, h3, ?_⟩
  rw [← hFe]
  have h5 : DR (fun s => (nmp ν (sw p q)).v (sw p q s)) (Fz ν H C w) w v d' := by
    simp only [nmp, hπ]
    exact h4
  exact DR.rn_ h5
/-! ### nil as an empty row; nil read alone -/
def setS (t : Nat) (x : DV) : Sl → Sl
  | [] => []
  | e :: l => bif Nat.beq e.1 t then (t, none, x) :: l else e :: setS t x l
theorem lk_setS {t : Nat} {x : DV} : ∀ {σ : Sl} {t' : Nat} {g : Gd} {d : DV}, lk (setS t x σ) t' = some (g, d) → (t' = t ∧ g = none ∧ d = x) ∨ lk σ t' = some (g, d)
  | [], _, _, _, h => by cases h
  | e :: l, t', g, d, h => by
    unfold setS at h
    unfold lk
    cases hb : Nat.beq e.1 t with
    | true =>
      rw [hb] at h
      simp only [cond_true] at h
      unfold lk at h
      have he := Nat.eq_of_beq_eq_true hb
      cases hb2 : Nat.beq t t' with
      | true =>
        rw [hb2] at h
        simp only [cond_true, Option.some.injEq, Prod.mk.injEq] at h
        exact .inl ⟨(Nat.eq_of_beq_eq_true hb2).symm, h.1.symm, h.2.symm⟩
      | false =>
        rw [hb2] at h
        rw [he, hb2]
        exact .inr h
    | false =>
      rw [hb] at h
      simp only [cond_false] at h
      unfold lk at h
      cases hb2 : Nat.beq e.1 t' with
      | true => rw [hb2] at h; exact .inr h
      | false =>
        rw [hb2] at h
        simp only [cond_false] at h ⊢
        exact lk_setS h
/-- A slot that is nil: an empty row of one's own. -/
theorem St.nilrow (h : St n σ H C w a ν) (t q e sz : Nat) (ht : lk σ t = some (none, .v nilS)) (hr : fresh C H q = true) : ∃ ν', St n (setS t (.own q) (dropr q σ)) ((q, .row e sz []) :: H) C w a ν' := by
  have hnew := h.o.new (w' := w) q nilS (fun _ => False) (.row e sz []) hr (Below.refl _ _) (fun k hk => hk.elim) (fun F hF hF' => by
    show OT F w ((upd ν q nilS fun _ => False).v q) (.osl e sz []) ((upd ν q nilS fun _ => False).S q)
    rw [upd_v, upd_S]
    exact row_nil F w e sz)
  refine ⟨_, ⟨⟨h.f.df, h.f.sz, fun t' g d hl hg => ?_⟩, hnew.1⟩⟩
  rcases lk_setS hl with ⟨rfl, rfl, rfl⟩ | hl
  · obtain ⟨v, h1, h2⟩ := h.f.at_ t' none _ ht trivial
    have h3 := h2.fr_v.1
    subst h3
    refine ⟨nilS, h1, ?_⟩
    have h4 := DR.own (ι := (upd ν q nilS fun _ => False).v) (F := Fz (upd ν q nilS fun _ => False) ((q, .row e sz []) :: H) C w) (w := w) q (by rw [upd_v]; rfl)
    rw [upd_v] at h4
    exact h4
  · exact (h.f.drop hnew.2 (fun s hs => upd_v_ne hs)).at_ t' g d hl hg
/-- A slot that is nil, told as an empty slice that is read alone. -/
theorem St.co_ (h : St n σ H C w a ν) (t : Nat) (ht : lk σ t = some (none, x)) : St n (setS t (co x) σ) H C w a ν := by
  refine ⟨⟨h.f.df, h.f.sz, fun t' g d hl hg => ?_⟩, h.o⟩
  rcases lk_setS hl with ⟨rfl, rfl, rfl⟩ | hl
  · obtain ⟨v, h1, h2⟩ := h.f.at_ t' none _ ht trivial
    exact ⟨v, h1, h2.co_⟩
  · exact h.f.at_ t' g d hl hg
/-- What is known of a slot. -/
theorem St.know (h : St n σ H C w a ν) (t : Nat) {y : DV} (ht : lk σ t = some (none, x)) (hy : x = y) : St n (setS t y σ) H C w a ν := by
  subst hy
  refine ⟨⟨h.f.df, h.f.sz, fun t' g d hl hg => ?_⟩, h.o⟩
  rcases lk_setS hl with ⟨rfl, rfl, rfl⟩ | hl
  · exact h.f.at_ t' none _ ht trivial
  · exact h.f.at_ t' g d hl hg
/-! ### Steps -/
theorem wanted_on (hF : Fr ν.v F w n σ a) (hg : o.guard = some (j, u)) (hs : gslot l j = some s) (hb : lk σ s = some (none, .v (.bool b))) (hbu : b = u) : Region.wanted o (yielded l.toArray a.tmps) = true := by
  have := gslot_yield hs (hF.bool hb)
  simp [Region.wanted, hg, this, hbu]
/-- Under a guard that is not known. -/
theorem s_gd (h : St n σ H C w a ν) (rs : List Nat) (hg : o.guard = some (j, u)) (hs : gslot l j = some s) (hb : lk σ s = some (none, .v (.bool b))) (hd : o.dst = some d) (hf : free n d σ = true) (hsd : Nat.beq s d = false)
    (p : b = u → Prov P l n C σ (pick rs H) o (some (s, u)) ⟨some (d, some (s, u), x), [], []⟩)
    (hK : ∀ a' w' ν', St n ((d, some (s, u), x) :: σ) H C w' a' ν' → wpList P l.toArray Q rest a' w') : wpList P l.toArray Q (o :: rest) a w := by
  have hslot := h.f.bool hb
  have hy := gslot_yield (l := l) hs hslot
  have hne := Nat.ne_of_beq_eq_false hsd
  have hg' : ∀ s' u', some (s, u) = some (s', u') → s' ≠ d := fun s' u' he => by injection he with he; injection he with he _; rw [← he]; exact hne
  by_cases hbu : b = u
  · obtain ⟨H', y, hm, hE, hy2⟩ := p hbu H w a ν h.o (fun e he => by unfold pick at he; exact (List.mem_filter.1 he).1) (fun r hr => by cases hr) h.f (by subst hbu; exact hslot)
    have hyx : x = y := hy2 _ rfl
    subst hyx
    unfold wpList
    rw [if_pos (by simp [Region.wanted, hg, hy, hbu])]
    refine .inl (hE _ _ (fun v w' hv => ?_))
    obtain ⟨ν', hv⟩ := hv
    rw [hd]
    have h3 := hv.o.same (H' := H) (fun e => by rw [hm e]; simp) h.o.nd
    exact hK _ w' ν' ⟨(((h.f.keep hv.F (fun s hs => hv.same s (by simp [rids]))).keep h3.2 (fun _ _ => rfl)).put hf (some (s, u)) x v hg' (fun _ => hv.v.keep h3.2)), h3.1⟩
  · refine step0 (by simp [Region.wanted, hg, hy, hbu]) ?_
    rw [hd]
    refine hK _ w ν ⟨h.f.put hf (some (s, u)) x undef hg' (fun hon => ?_), h.o⟩
    simp only [Gd.on] at hon
    rw [hslot] at hon
    injection hon with hon
    injection hon with hon
    exact absurd hon hbu
/-- The next operation, out of what it does to some objects. -/
theorem s_pv (h : St n σ H C w a ν) (rs con : List Nat) (new : Hp) (hw : Region.wanted o (yielded l.toArray a.tmps) = true) (hd : o.dst = some d) (hf : free n d σ = true)
    (p : Prov P l n C σ (pick rs H) o none ⟨some (d, none, x), con, new⟩) (hfr : ((rids new).all fun q => fresh C H q) = true) (hnd : nodupB (rids (new ++ unpick con H)) = true)
    (hK : ∀ a' w' ν', St n ((d, none, x) :: dropl (rids new) σ) (new ++ unpick con H) C w' a' ν' → wpList P l.toArray Q rest a' w') : wpList P l.toArray Q (o :: rest) a w := by
  obtain ⟨H', y, hm, hE, hy⟩ := p H w a ν h.o (fun e he => by unfold pick at he; exact (List.mem_filter.1 he).1) (fun r hr => List.all_eq_true.1 hfr r hr) h.f trivial
  have hyx : x = y := hy _ rfl
  subst hyx
  unfold wpList
  rw [if_pos hw]
  refine .inl (hE _ _ (fun v w' hv => ?_))
  obtain ⟨ν', hv⟩ := hv
  rw [hd]
  have hmem : ∀ e, e ∈ unpick con H ↔ e ∈ H ∧ e.1 ∉ con := by
    intro e
    constructor
    · exact mem_unpick
    · rintro ⟨h1, h2⟩
      unfold unpick
      rw [List.mem_filter]
      exact ⟨h1, by rw [not_any h2]; rfl⟩
  have h3 := hv.o.same (H' := new ++ unpick con H) (fun e => by rw [hm e, List.mem_append, hmem e]) (nodupB_ok hnd)
  exact hK _ w' ν' ⟨(((h.f.dropl_ hv.F hv.same).keep h3.2 (fun _ _ => rfl)).put (free_dropl (rids new) hf) none x v (fun _ _ h => by cases h) (fun _ => hv.v.keep h3.2)), h3.1⟩
theorem s_pv0 (h : St n σ H C w a ν) (rs : List Nat) (hw : Region.wanted o (yielded l.toArray a.tmps) = true) (hd : o.dst = some d) (hf : free n d σ = true) (p : Prov P l n C σ (pick rs H) o none ⟨some (d, none, x), [], []⟩)
    (hK : ∀ a' w' ν', St n ((d, none, x) :: σ) H C w' a' ν' → wpList P l.toArray Q rest a' w') : wpList P l.toArray Q (o :: rest) a w := by
  obtain ⟨H', y, hm, hE, hy⟩ := p H w a ν h.o (fun e he => by unfold pick at he; exact (List.mem_filter.1 he).1) (fun r hr => by cases hr) h.f trivial
  have hyx : x = y := hy _ rfl
  subst hyx
  unfold wpList
  rw [if_pos hw]
  refine .inl (hE _ _ (fun v w' hv => ?_))
  obtain ⟨ν', hv⟩ := hv
  rw [hd]
  have h3 := hv.o.same (H' := H) (fun e => by rw [hm e]; simp) h.o.nd
  exact hK _ w' ν' ⟨(((h.f.keep hv.F (fun s hs => hv.same s (by simp [rids]))).keep h3.2 (fun _ _ => rfl)).put hf none x v (fun _ _ h => by cases h) (fun _ => hv.v.keep h3.2)), h3.1⟩
end
end Go.Proofs.YtjjmoihpjmojiaaDoor.D
