/- Operations of a region that draws: each out of what it does to the objects that it needs. -/
import Derived.Test.YtjjmoihpjmojiaaDoorD24
set_option linter.unusedVariables false
set_option linter.unusedSimpArgs false
namespace Go.Proofs.YtjjmoihpjmojiaaDoor.D
open Go.RowKit

section
variable {P : Program} {τ : List (Nat × TR)} {n : Nat} {σ σ' : Sl} {H H' H0 H1 HL HR Hn Hn' : Hp} {C : Cx} {ν ν' : Nm} {ι : Nat → Value} {F F' : Nat → Prop} {w w' W : World} {a : Act} {l rest ops : List Oper} {Q : Exit → Act → World → Prop} {o : Oper} {d s j : Nat} {u b : Bool} {A : Nat → Prop} {x r : DV} {g gd : Gd} {f : OpF}
/-- What an operation does, from any state that tells this much. -/
def Prov (P : Program) (l : List Oper) (n : Nat) (C : Cx) (σ : Sl) (Hn : Hp) (o : Oper) (g : Gd) (f : OpF) : Prop :=
  ∀ (H : Hp) (w : World) (a : Act) (ν : Nm), Ok ν H C w → (∀ e ∈ Hn, e ∈ H) → (∀ r ∈ rids f.new, fresh C H r = true) → Fr ν.v (Fz ν H C w) w n σ a → Gd.on a g →
    ∃ H' x, (∀ e, e ∈ H' ↔ e ∈ f.new ∨ (e ∈ H ∧ e.1 ∉ f.con)) ∧ Eff P o a w ν H C (fun s => s ∉ rids f.new) H' x ∧ ∀ s, f.slot = some s → s.2.2 = x
theorem Eff.sub {A B : Nat → Prop} (h : Eff P o a w ν H C A H' x) (hs : ∀ s, B s → A s) : Eff P o a w ν H C B H' x := fun K Q hK => h K Q (fun v w' hv => by
  obtain ⟨ν', hv⟩ := hv
  exact hK v w' ⟨ν', fun s hb => hv.same s (hs s hb), hv.o, hv.F, hv.v⟩)
theorem ok_plain (hg : o.guard = none) (p : Prov P l n C σ Hn o none f) : OpOk P l n C σ Hn o f :=
  fun H w a ν hO hn hf hF => ⟨fun _ => p H w a ν hO hn hf hF trivial, fun hw => by rw [wanted_none hg] at hw; cases hw⟩
theorem ok_on (hg : o.guard = some (j, u)) (hs : gslot l j = some s) (hb : lk σ s = some (none, .v (.bool b))) (hbu : b = u) (p : Prov P l n C σ Hn o none f) : OpOk P l n C σ Hn o f :=
  fun H w a ν hO hn hf hF => ⟨fun _ => p H w a ν hO hn hf hF trivial, fun hw => by
    have := gslot_yield hs (hF.bool hb)
    simp [Region.wanted, hg, this, hbu] at hw⟩
theorem ok_off (hg : o.guard = some (j, u)) (hs : gslot l j = some s) (hb : lk σ s = some (none, .v (.bool b))) (hbu : b = !u) : OpOk P l n C σ Hn o ⟨none, [], []⟩ :=
  fun H w a ν hO hn hf hF => ⟨fun hw => by
    have := gslot_yield hs (hF.bool hb)
    simp [Region.wanted, hg, this, hbu] at hw, fun hw => ⟨rfl, rfl, fun s hs => by cases hs⟩⟩
/-- Under a guard that is not known. -/
theorem ok_gd (hg : o.guard = some (j, u)) (hs : gslot l j = some s) (hb : lk σ s = some (none, .v (.bool b))) (p : b = u → Prov P l n C σ Hn o (some (s, u)) ⟨some (d, some (s, u), x), [], []⟩) : OpOk P l n C σ Hn o ⟨some (d, some (s, u), x), [], []⟩ :=
  fun H w a ν hO hn hf hF => by
    have hslot := hF.bool hb
    have hy := gslot_yield hs hslot
    constructor
    · intro hw
      have hbu : b = u := by simpa [Region.wanted, hg, hy] using hw
      exact p hbu H w a ν hO hn hf hF (by subst hbu; exact hslot)
    · intro hw
      have hbu : b ≠ u := by simpa [Region.wanted, hg, hy] using hw
      refine ⟨rfl, rfl, fun s' hs' hon => ?_⟩
      injection hs' with hs'
      subst hs'
      simp only [Gd.on, hslot, Option.some.injEq, Value.bool.injEq] at hon
      exact hbu hon
theorem ok_gp (hg : o.guard = some (j, u)) (hs : gslot l j = some s) (p : Prov P l n C σ Hn o (some (s, u)) ⟨some (d, some (s, u), x), [], []⟩) : OpOk P l n C σ Hn o ⟨some (d, some (s, u), x), [], []⟩ :=
  fun H w a ν hO hn hf hF => by
    constructor
    · intro hw
      have hon : yielded l.toArray a.tmps j = some u := by simpa [Region.wanted, hg] using hw
      exact p H w a ν hO hn hf hF ((gslot_iff hs).1 hon)
    · intro hw
      refine ⟨rfl, rfl, fun s' hs' hon => ?_⟩
      injection hs' with hs'
      subst hs'
      have := (gslot_iff (l := l) hs).2 hon
      simp [Region.wanted, hg, this] at hw
theorem p_pure (hτ : Tab P τ) (hp : pv τ Hn σ g o.op = some x) : Prov P l n C σ Hn o g ⟨some (d, gd, x), [], []⟩ :=
  fun H w a ν hO hn hf hF hg => ⟨H, x, fun e => by simp, (e_pure hτ hF hO hn hg hp).sub (fun _ _ => trivial), fun s hs => by injection hs with hs; rw [← hs]⟩
theorem hl_of_mem : ∀ {H : Hp} {r : Nat} {e : En}, (H.map (·.1)).Nodup → (r, e) ∈ H → hl H r = some e
  | [], _, _, _, h => by cases h
  | p :: H, r, e, hn, h => by
    rw [List.map_cons, List.nodup_cons] at hn
    unfold hl
    rcases List.mem_cons.1 h with rfl | h
    · rw [Nat.beq_refl]; rfl
    · have : p.1 ≠ r := fun he => hn.1 (he ▸ List.mem_map_of_mem (f := (·.1)) h)
      rw [beq_ne this]
      exact hl_of_mem hn.2 h
theorem nodup_of_map : ∀ {L : Hp}, (L.map (·.1)).Nodup → L.Nodup
  | [], _ => List.nodup_nil
  | e :: L, h => by
    rw [List.map_cons, List.nodup_cons] at h
    exact List.nodup_cons.2 ⟨fun hm => h.1 (List.mem_map_of_mem (f := (·.1)) hm), nodup_of_map h.2⟩
/-- All that is needed, and the rest. -/
theorem split_perm (hn : (H.map (·.1)).Nodup) (hnd : (Hn.map (·.1)).Nodup) (hs : ∀ e ∈ Hn, e ∈ H) : H.Perm (Hn ++ unpick (rids Hn) H) := by
  have hm : ∀ e, e ∈ pick (rids Hn) H ↔ e ∈ Hn := by
    intro e
    unfold pick
    rw [List.mem_filter]
    constructor
    · rintro ⟨h1, h2⟩
      obtain ⟨e', h3, h4⟩ := List.mem_map.1 (any_beq h2)
      have h5 := hl_of_mem hn (hs e' h3)
      have h6 := hl_of_mem (r := e.1) (e := e.2) hn h1
      rw [h4, h6] at h5
      have : e = e' := Prod.ext h4.symm (by injection h5)
      rw [this]; exact h3
    · intro h
      exact ⟨hs e h, is_any (List.mem_map_of_mem (f := (·.1)) h)⟩
  have h1 : (pick (rids Hn) H).Perm Hn := by
    have nd : ∀ {L : Hp}, (L.map (·.1)).Nodup → L.Nodup := fun {L} h => nodup_of_map h
    have h2 : ((pick (rids Hn) H).map (·.1)).Nodup := hn.sublist (List.filter_sublist.map _)
    exact (List.perm_ext_iff_of_nodup (nd h2) (nd hnd)).2 hm
  exact (pick_perm (rids Hn) H).trans (h1.append_right _)
/-- What is to be seen of the text alone. -/
def provB (Hn Hn' : Hp) (new : Hp) (con : List Nat) (x : DV) : Bool :=
  nodupB (rids Hn) && (Hn'.all fun e => inN e.1 (rids new ++ rids Hn) && namede (rids new ++ rids Hn) e.2) && named (rids new ++ rids Hn) x && (rids new).all fun q => Hn.all fun e => !Nat.beq e.1 q
/-- An operation that needs Hn, and makes it Hn'. -/
theorem p_of (hb : provB Hn Hn' f.new f.con x = true) (hsl : ∀ s, f.slot = some s → s.2.2 = x) (hm : ∀ e, e ∈ Hn' ↔ e ∈ f.new ∨ (e ∈ Hn ∧ e.1 ∉ f.con)) (hc : ∀ q ∈ f.con, q ∈ rids Hn)
    (he : ∀ (w : World) (a : Act) (ν : Nm) (X : Nat → Prop), Ok ν Hn ⟨w, lentL ν Hn, X⟩ w → Fr ν.v (Fz ν Hn ⟨w, lentL ν Hn, X⟩ w) w n σ a → Gd.on a g → Eff P o a w ν Hn ⟨w, lentL ν Hn, X⟩ (fun s => s ∉ rids f.new) Hn' x) : Prov P l n C σ Hn o g f := by
  intro H w a ν hO hn hf hF hg
  unfold provB at hb
  simp only [Bool.and_eq_true] at hb
  obtain ⟨⟨⟨h1, h2⟩, h3⟩, h4⟩ := hb
  have hnd := nodupB_ok h1
  have hsp := split_perm hO.nd hnd hn
  have hk : callOk C Hn (unpick (rids Hn) H) Hn' (rids f.new) x = true := by
    unfold callOk
    simp only [Bool.and_eq_true]
    refine ⟨⟨⟨List.all_eq_true.2 fun q hq => ?_, List.all_eq_true.2 fun e he => ?_⟩, h3⟩, List.all_eq_true.2 fun e he => List.all_eq_true.2 fun e' he' => ?_⟩
    · rw [Bool.and_eq_true]
      have h5 := hf q hq
      exact ⟨fresh_mk (fun e he => fresh_H h5 e (mem_unpick he).1) (fresh_L h5), List.all_eq_true.1 h4 q hq⟩
    · exact List.all_eq_true.1 h2 e he
    · have h5 := (mem_unpick he).2
      rw [beq_ne (fun h6 => h5 (by rw [← h6]; exact List.mem_map_of_mem (f := (·.1)) he'))]
      rfl
  obtain ⟨X', hO', hFz, hfin⟩ := frame hO hsp (rids f.new) hk
  refine ⟨Hn' ++ unpick (rids Hn) H, x, fun e => ?_, fun K Q hK => ?_, hsl⟩
  · rw [List.mem_append, hm e, hsp.mem_iff, List.mem_append]
    constructor
    · rintro ((h5 | ⟨h5, h6⟩) | h5)
      · exact .inl h5
      · exact .inr ⟨.inl h5, h6⟩
      · exact .inr ⟨.inr h5, fun h6 => (mem_unpick h5).2 (hc _ h6)⟩
    · rintro (h5 | ⟨h5 | h5, h6⟩)
      · exact .inl (.inl h5)
      · exact .inl (.inr ⟨h5, h6⟩)
      · exact .inr h5
  · refine he w a ν X' hO' (hF.keep (fun k hk => ⟨(hFz k).2 hk, rfl⟩) (fun _ _ => rfl)) hg K Q (fun v w' hv => ?_)
    obtain ⟨ν', hv⟩ := hv
    obtain ⟨J, hJ⟩ := hfin v ν' w' hv.o hv.v
    exact hK v w' ⟨J, hJ⟩
/-- The same, where no object is used up or made. -/
theorem p_of0 (hb : provB Hn Hn [] [] x = true) (he : ∀ (w : World) (a : Act) (ν : Nm) (X : Nat → Prop), Ok ν Hn ⟨w, lentL ν Hn, X⟩ w → Fr ν.v (Fz ν Hn ⟨w, lentL ν Hn, X⟩ w) w n σ a → Gd.on a g → Eff P o a w ν Hn ⟨w, lentL ν Hn, X⟩ every Hn x) : Prov P l n C σ Hn o g ⟨some (d, gd, x), [], []⟩ :=
  p_of (f := ⟨some (d, gd, x), [], []⟩) hb (fun s hs => by injection hs with hs; rw [← hs]) (fun e => by simp) (fun q hq => by cases hq) (fun w a ν X hO hF hg => (he w a ν X hO hF hg).sub (fun _ _ => trivial))
/-- The same, where one is made. -/
theorem p_of1 {q : Nat} {en : En} (hb : provB [] [(q, en)] [(q, en)] [] x = true) (he : ∀ (w : World) (a : Act) (ν : Nm) (X : Nat → Prop), Ok ν [] ⟨w, lentL ν [], X⟩ w → Fr ν.v (Fz ν [] ⟨w, lentL ν [], X⟩ w) w n σ a → Gd.on a g → Eff P o a w ν [] ⟨w, lentL ν [], X⟩ (but q) [(q, en)] x) : Prov P l n C σ [] o g ⟨some (d, gd, x), [], [(q, en)]⟩ :=
  p_of (f := ⟨some (d, gd, x), [], [(q, en)]⟩) hb (fun s hs => by injection hs with hs; rw [← hs]) (fun e => by simp) (fun q hq => by cases hq) (fun w a ν X hO hF hg => (he w a ν X hO hF hg).sub (fun s hs => by simpa [rids, but] using hs))
end
end Go.Proofs.YtjjmoihpjmojiaaDoor.D
