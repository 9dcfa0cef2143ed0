/- Contracts under other names. -/
import Derived.Test.YtjjmoihpjmojiaaDoorD23
set_option linter.unusedVariables false
set_option linter.unusedSimpArgs false
namespace Go.Proofs.YtjjmoihpjmojiaaDoor.D
open Go.RowKit

def sw (a b s : Nat) : Nat := bif Nat.beq s a then b else bif Nat.beq s b then a else s
theorem sw_sw (a b s : Nat) : sw a b (sw a b s) = s := by
  unfold sw
  by_cases h1 : s = a
  · subst h1
    rw [Nat.beq_refl]
    simp only [cond_true]
    by_cases h2 : b = s
    · subst h2; rw [Nat.beq_refl]; rfl
    · rw [beq_ne h2, Nat.beq_refl]; rfl
  · rw [beq_ne h1]
    simp only [cond_false]
    by_cases h2 : s = b
    · subst h2
      rw [Nat.beq_refl]
      simp only [cond_true, Nat.beq_refl]
    · rw [beq_ne h2]
      simp only [cond_false, beq_ne h1, beq_ne h2]
def rn (π : Nat → Nat) : DV → DV
  | .own s => .own (π s)
  | .ptr s o => .ptr (π s) o
  | .agg cs => .agg (rns π cs)
  | .tup cs => .tup (rns π cs)
  | .fn f a b => .fn f (rns π a) (rns π b)
  | d => d
where rns (π : Nat → Nat) : List DV → List DV
  | [] => []
  | d :: l => rn π d :: rns π l
theorem rns_eq (π : Nat → Nat) : ∀ l : List DV, rn.rns π l = l.map (rn π)
  | [] => rfl
  | d :: l => by rw [rn.rns, rns_eq π l, List.map_cons]
def rnm (π : Nat → Nat) : List (Value × DV) → List (Value × DV)
  | [] => []
  | p :: l => (p.1, rn π p.2) :: rnm π l
theorem rnm_eq (π : Nat → Nat) : ∀ l : List (Value × DV), rnm π l = l.map fun p => (p.1, rn π p.2)
  | [] => rfl
  | d :: l => by rw [rnm, rnm_eq π l, List.map_cons]
def rne (π : Nat → Nat) : En → En
  | .row e sz es => .row e sz es
  | .rowh e sz es i j q => .rowh e sz es i j (π q)
  | .blk t cs => .blk t (rn.rns π cs)
  | .lit t n cs => .lit t n (rn.rns π cs)
  | .mp es => .mp (rnm π es)
def rnH (π : Nat → Nat) : Hp → Hp
  | [] => []
  | e :: l => (π e.1, rne π e.2) :: rnH π l
theorem rnH_eq (π : Nat → Nat) : ∀ H : Hp, rnH π H = H.map fun e => (π e.1, rne π e.2)
  | [] => rfl
  | e :: l => by rw [rnH, rnH_eq π l, List.map_cons]
section
variable {π : Nat → Nat} {ι : Nat → Value} {F : Nat → Prop} {w : World} {ν : Nm} {H H0 H1 : Hp} {P : Program} {f : FuncId} {ds : List DV} {r : DV}
theorem rn_rn (hπ : ∀ s, π (π s) = s) (d : DV) : rn π (rn π d) = d := by
  refine DV.rec (motive_1 := fun d => rn π (rn π d) = d) (motive_2 := fun _ => True) (motive_3 := fun l => rn.rns π (rn.rns π l) = l) ?_ ?_ ?_ ?_ ?_ ?_ ?_ ?_ ?_ ?_ ?_ ?_ ?_ ?_ d
  · intro _; rfl
  · intro _ _; rfl
  · intro _ _ _ _; rfl
  · intro cs ih; exact congrArg DV.agg ih
  · intro cs ih; exact congrArg DV.tup ih
  · intro s; exact congrArg DV.own (hπ s)
  · intro s o; exact congrArg (fun q => DV.ptr q o) (hπ s)
  · intro _ _ _; rfl
  · intro f a b iha ihb
    show DV.fn f (rn.rns π (rn.rns π a)) (rn.rns π (rn.rns π b)) = _
    rw [iha, ihb]
  · rfl
  · trivial
  · intro _ _ _ _; trivial
  · rfl
  · intro d l ihd ihl
    show rn π (rn π d) :: rn.rns π (rn.rns π l) = _
    rw [ihd, ihl]
theorem rns_rns (hπ : ∀ s, π (π s) = s) (l : List DV) : rn.rns π (rn.rns π l) = l := by
  rw [rns_eq, rns_eq, List.map_map]
  conv => rhs; rw [← List.map_id l]
  exact List.map_congr_left fun d _ => rn_rn hπ d
theorem rne_rne (hπ : ∀ s, π (π s) = s) (e : En) : rne π (rne π e) = e := by
  cases e with
  | row => rfl
  | rowh e sz es i j q => simp only [rne, hπ]
  | blk t cs => simp only [rne, rns_rns hπ]
  | lit t n cs => simp only [rne, rns_rns hπ]
  | mp es =>
    simp only [rne, rnm_eq, List.map_map]
    congr 1
    conv => rhs; rw [← List.map_id es]
    exact List.map_congr_left fun p _ => by simp [rn_rn hπ]
theorem rnH_rnH (hπ : ∀ s, π (π s) = s) (H : Hp) : rnH π (rnH π H) = H := by
  rw [rnH_eq, rnH_eq, List.map_map]
  conv => rhs; rw [← List.map_id H]
  exact List.map_congr_left fun e _ => by simp [rne_rne hπ, hπ]
theorem rns_at {l : List DV} {j : Nat} {d : DV} (h : (rn.rns π l)[j]? = some d) : ∃ d', l[j]? = some d' ∧ d = rn π d' := by
  rw [rns_eq, List.getElem?_map] at h
  obtain ⟨d', h1, h2⟩ := Option.map_eq_some_iff.1 h
  exact ⟨d', h1, h2.symm⟩
theorem rns_length (l : List DV) : (rn.rns π l).length = l.length := by rw [rns_eq, List.length_map]
theorem FR.rn_ {v : Value} {d : DV} (h : FR F w v d) : rn π d = d := by cases h <;> rfl
theorem OT.rn_ {v : Value} {d : DV} {S : Nat → Prop} (h : OT F w v d S) : rn π d = d := by
  cases h with
  | fr h => exact h.rn_
  | e0 => rfl
  | osl => rfl
theorem DR.rn_ {v : Value} {d : DV} (h : DR (fun s => ι (π s)) F w v d) : DR ι F w v (rn π d) := by
  generalize he : (fun s => ι (π s)) = ι' at h
  induction h with
  | any v => exact .any v
  | fr h => rw [h.rn_]; exact .fr h
  | own s h =>
    subst he
    exact DR.own (ι := ι) (π s) h
  | ptr s g off h =>
    subst he
    exact DR.ptr (ι := ι) (π s) g off h
  | fat ad c off u h1 h2 h3 => exact .fat ad c off u h1 h2 h3
  | fn f first cap us vs hu hv h1 h2 ih1 ih2 =>
    refine .fn f _ _ us vs (by rw [rns_length]; exact hu) (by rw [rns_length]; exact hv) (fun j u d a b => ?_) (fun j u d a b => ?_)
    · obtain ⟨d', hd, rfl⟩ := rns_at b
      exact ih1 j u d' a hd
    · obtain ⟨d', hd, rfl⟩ := rns_at b
      exact ih2 j u d' a hd
  | agg ds us hu h1 h ih =>
    refine .agg _ us (by rw [rns_length]; exact hu) h1 (fun j u d a b => ?_)
    obtain ⟨d', hd, rfl⟩ := rns_at b
    exact ih j u d' a hd
  | tup ds us hu h ih =>
    refine .tup _ us (by rw [rns_length]; exact hu) (fun j u d a b => ?_)
    obtain ⟨d', hd, rfl⟩ := rns_at b
    exact ih j u d' a hd
theorem All.rn_ : ∀ {us : List Value} {ds : List DV}, All (fun s => ι (π s)) F w us ds → All ι F w us (rn.rns π ds)
  | [], [], _ => trivial
  | _ :: _, _ :: _, h => ⟨h.1.rn_, All.rn_ h.2⟩
  | [], _ :: _, h => h.elim
  | _ :: _, [], h => h.elim
def nmp (ν : Nm) (π : Nat → Nat) : Nm := ⟨fun s => ν.v (π s), fun s => ν.S (π s)⟩
theorem nmp_nmp (hπ : ∀ s, π (π s) = s) : nmp (nmp ν π) π = ν := by
  unfold nmp
  simp only [hπ]
theorem EnR.rn_ {q : Nat} {e : En} (h : EnR (nmp ν π) F w q e) : EnR ν F w (π q) (rne π e) := by
  cases e with
  | row e sz es => exact h
  | rowh e sz es i j k => exact h
  | blk t cs =>
    obtain ⟨g, vs, s, hv, hg, hl, h0, hs, hd, h2⟩ := h
    refine ⟨g, vs, s, hv, hg, by rw [rns_length]; exact hl, h0, hs, hd, fun j u d hj hd' => ?_⟩
    obtain ⟨d', h3, rfl⟩ := rns_at hd'
    obtain ⟨h4, h5⟩ := h2 j u d' hj h3
    refine ⟨h4, ?_⟩
    rcases h5 with h5 | h5
    · exact .inl (DR.rn_ h5)
    · exact .inr (by rw [h5.rn_]; exact h5)
  | lit t n cs =>
    obtain ⟨g, vs, hv, hg, hl, h0, h1, h2⟩ := h
    refine ⟨g, vs, hv, hg, by rw [rns_length]; exact hl, h0, h1, fun j u d hj hd' => ?_⟩
    obtain ⟨d', h3, rfl⟩ := rns_at hd'
    exact DR.rn_ (h2 j u d' hj h3)
  | mp es =>
    obtain ⟨g, en, clock, hv, hg, h0, hk, h2⟩ := h
    refine ⟨g, en, clock, hv, hg, h0, by rw [hk, rnm_eq]; simp, fun j e p hj hp => ?_⟩
    rw [rnm_eq, List.getElem?_map] at hp
    obtain ⟨p', h3, rfl⟩ := Option.map_eq_some_iff.1 hp
    exact DR.rn_ (h2 j e p' hj h3)
def rnL (π : Nat → Nat) (L : List (Nat × Value × (Nat → Prop))) : List (Nat × Value × (Nat → Prop)) := L.map fun p => (π p.1, p.2)
theorem mem_rnH {e : Nat × En} : e ∈ rnH π H ↔ ∃ e' ∈ H, (π e'.1, rne π e'.2) = e := by rw [rnH_eq, List.mem_map]
theorem nodup_map (inj : ∀ s t : Nat, π s = π t → s = t) : ∀ {l : List Nat}, l.Nodup → (l.map π).Nodup
  | [], _ => List.nodup_nil
  | x :: l, h => by
    rw [List.nodup_cons] at h
    rw [List.map_cons, List.nodup_cons]
    refine ⟨fun hm => ?_, nodup_map inj h.2⟩
    obtain ⟨y, hy, hxy⟩ := List.mem_map.1 hm
    exact h.1 (inj _ _ hxy ▸ hy)
theorem Ok.rn_ {C : Cx} (hπ : ∀ s, π (π s) = s) (h : Ok (nmp ν π) H C w) : Ok ν (rnH π H) ⟨C.w0, rnL π C.L, C.X⟩ w := by
  have hF : ∀ k, Fz (nmp ν π) H C w k ↔ Fz ν (rnH π H) ⟨C.w0, rnL π C.L, C.X⟩ w k := by
    intro k
    constructor
    · rintro ⟨h1, h2, h3⟩
      refine ⟨h1, h2, fun e he => ?_⟩
      obtain ⟨e', he', rfl⟩ := mem_rnH.1 he
      exact h3 e' he'
    · rintro ⟨h1, h2, h3⟩
      exact ⟨h1, h2, fun e he => h3 _ (mem_rnH.2 ⟨e, he, rfl⟩)⟩
  have hFe : Fz (nmp ν π) H C w = Fz ν (rnH π H) ⟨C.w0, rnL π C.L, C.X⟩ w := funext fun k => propext (hF k)
  have hL : ∀ p, p ∈ rnL π C.L ↔ ∃ p' ∈ C.L, (π p'.1, p'.2) = p := fun p => List.mem_map
  have inj : ∀ s t, π s = π t → s = t := fun s t hst => by have := congrArg π hst; rwa [hπ, hπ] at this
  refine ⟨fun e he => ?_, ?_, fun e he e' he' hne k hk hk' => ?_, fun e he k hk => ?_, fun e he k hk => ?_, fun p hp => ?_, fun k hk => ⟨(h.hX k hk).1, fun p hp => ?_⟩, h.os, h.tape, h.out, h.size, fun k hk hl => h.block k hk (fun p hp => hl (π p.1, p.2) ((hL _).2 ⟨p, hp, rfl⟩)), fun p hp => ?_⟩
  · obtain ⟨e', h1, rfl⟩ := mem_rnH.1 he
    have := (h.ent e' h1).rn_
    rw [hFe] at this
    exact this
  · have : ((rnH π H).map (·.1)) = (H.map (·.1)).map π := by rw [rnH_eq, List.map_map, List.map_map]; rfl
    rw [this]
    exact nodup_map inj h.nd
  · obtain ⟨e1, h1, rfl⟩ := mem_rnH.1 he
    obtain ⟨e2, h2, rfl⟩ := mem_rnH.1 he'
    exact h.ap e1 h1 e2 h2 (fun heq => hne (by rw [heq])) k hk hk'
  · obtain ⟨e1, h1, rfl⟩ := mem_rnH.1 he
    exact h.bnd e1 h1 k hk
  · obtain ⟨e1, h1, rfl⟩ := mem_rnH.1 he
    rcases h.base e1 h1 k hk with ⟨p, hp, h2⟩ | h2
    · exact .inl ⟨(π p.1, p.2), (hL _).2 ⟨p, hp, rfl⟩, h2⟩
    · exact .inr h2
  · obtain ⟨p', h1, rfl⟩ := (hL p).1 hp
    exact h.lent p' h1
  · obtain ⟨p', h1, rfl⟩ := (hL p).1 hp
    exact (h.hX k hk).2 p' h1
  · obtain ⟨h1, h2⟩ := h.gl p hp
    rw [hFe] at h1 h2
    exact ⟨h1, h2⟩
theorem lentL_rn (π : Nat → Nat) (H : Hp) : rnL π (lentL (nmp ν π) H) = lentL ν (rnH π H) := by
  unfold rnL lentL
  rw [rnH_eq, List.map_map, List.map_map]
  rfl
/-- A contract under other names. -/
theorem Con.rn_ (hπ : ∀ s, π (π s) = s) (h : Con P f ds H0 r H1) : Con P f (rn.rns π ds) (rnH π H0) (rn π r) (rnH π H1) := by
  intro w us ν X hO hA
  have h1 := Ok.rn_ (ν := nmp ν π) (π := π) (C := ⟨w, lentL ν (rnH π H0), X⟩) hπ (by rw [nmp_nmp hπ]; exact hO)
  rw [rnH_rnH hπ] at h1
  have hL : rnL π (lentL ν (rnH π H0)) = lentL (nmp ν π) H0 := by
    have := lentL_rn (ν := nmp ν π) π (rnH π H0)
    rw [nmp_nmp hπ, rnH_rnH hπ] at this
    exact this
  simp only [hL] at h1
  have hFe : Fz ν (rnH π H0) ⟨w, lentL ν (rnH π H0), X⟩ w = Fz (nmp ν π) H0 ⟨w, lentL (nmp ν π) H0, X⟩ w := by
    funext k
    apply propext
    constructor
    · rintro ⟨a, b, c⟩
      exact ⟨a, b, fun e he => c _ (mem_rnH.2 ⟨e, he, rfl⟩)⟩
    · rintro ⟨a, b, c⟩
      refine ⟨a, b, fun e he => ?_⟩
      obtain ⟨e', he', rfl⟩ := mem_rnH.1 he
      exact c e' he'
  have h2 : All (nmp ν π).v (Fz (nmp ν π) H0 ⟨w, lentL (nmp ν π) H0, X⟩ w) w us ds := by
    rw [hFe] at hA
    have h3 : All (fun s => (nmp ν π).v (π s)) (Fz (nmp ν π) H0 ⟨w, lentL (nmp ν π) H0, X⟩ w) w us (rn.rns π ds) := by
      simp only [nmp, hπ]
      exact hA
    have h4 := All.rn_ h3
    rw [rns_rns hπ] at h4
    exact h4
  refine (h w us (nmp ν π) X h1 h2).mono ?_
  rintro e w' ⟨v, ν', rfl, h3, h4⟩
  refine ⟨v, nmp ν' π, rfl, ?_, ?_⟩
  · have h5 := Ok.rn_ (ν := nmp ν' π) (π := π) hπ (by rw [nmp_nmp hπ]; exact h3)
    simp only [lentL_rn] at h5
    exact h5
  · have h5 : DR (fun s => (nmp ν' π).v (π s)) (Fz ν' H1 ⟨w, lentL (nmp ν π) H0, X⟩ w') w' v r := by
      simp only [nmp, hπ]
      exact h4
    have h6 := DR.rn_ h5
    have hFe2 : Fz ν' H1 ⟨w, lentL (nmp ν π) H0, X⟩ w' = Fz (nmp ν' π) (rnH π H1) ⟨w, lentL ν (rnH π H0), X⟩ w' := by
      funext k
      apply propext
      constructor
      · rintro ⟨a, b, c⟩
        refine ⟨a, b, fun e he => ?_⟩
        obtain ⟨e', he', rfl⟩ := mem_rnH.1 he
        simp only [nmp, hπ]
        exact c e' he'
      · rintro ⟨a, b, c⟩
        refine ⟨a, b, fun e he => ?_⟩
        have := c _ (mem_rnH.2 ⟨e, he, rfl⟩)
        simp only [nmp, hπ] at this
        exact this
    rw [hFe2] at h6
    exact h6
theorem Con.sw_ (a b : Nat) (h : Con P f ds H0 r H1) : Con P f (rn.rns (sw a b) ds) (rnH (sw a b) H0) (rn (sw a b) r) (rnH (sw a b) H1) := h.rn_ (sw_sw a b)
end
end Go.Proofs.YtjjmoihpjmojiaaDoor.D
