/- Arguments opened: what a law is handed, as values in memory that nobody writes; and its ending. -/
import Derived.Test.YtjjmoihpjmojiaaDoorD30
import Derived.ChangeArms
import Derived.ChangeOld
import Derived.DataReads
import Derived.ProofKit
import Derived.OpenShut
set_option linter.unusedVariables false
set_option linter.unusedSimpArgs false
namespace Go.Proofs.YtjjmoihpjmojiaaDoor.D
open Go.RowKit

/-- Values beside what is known of them. -/
def AllF (F : Nat → Prop) (w : World) (us : List Value) (ds : List DV) : Prop := us.length = ds.length ∧ ∀ (j : Nat) (u : Value) (d : DV), us[j]? = some u → ds[j]? = some d → FR F w u d
/-- The blocks that there are. -/
def Blk (W : World) (k : Nat) : Prop := k < W.heap.size
section
variable {H : Type} {enc : TypeId × Value → H} {P : Program} {W : World} {t e : TypeId} {cs us vs : List Value} {F : Nat → Prop} {d1 d2 ds : List DV}
/-- The cells read as a value of the type. -/
def Trd (H : Type) (enc : TypeId × Value → H) (P : Program) (W : World) (t : TypeId) (cs : List Value) : Prop := ∃ fuel x, DataW.trod enc P W 0 (fun _ => true) true fuel t cs = some x
/-- A type whose values are opened. -/
def Opn (H : Type) (enc : TypeId × Value → H) (P : Program) (W : World) (t : TypeId) {α : Type} (ok : α → Prop) (c : α → List DV) : Prop := ∀ cs, Trd H enc P W t cs → ∃ x, ok x ∧ AllF (Blk W) W cs (c x)
theorem AllF.nil : AllF F W [] [] := ⟨rfl, fun j u d h => by simp at h⟩
theorem AllF.one {v : Value} {d : DV} (h : FR F W v d) : AllF F W [v] [d] := ⟨rfl, fun j u d' h1 h2 => by
  cases j with
  | zero => simp at h1 h2; subst h1 h2; exact h
  | succ j => simp at h1⟩
theorem AllF.append (h1 : AllF F W us d1) (h2 : AllF F W vs d2) : AllF F W (us ++ vs) (d1 ++ d2) := by
  refine ⟨by simp [h1.1, h2.1], fun j u d hu hd => ?_⟩
  by_cases hj : j < us.length
  · rw [List.getElem?_append_left hj] at hu
    rw [List.getElem?_append_left (by rw [← h1.1]; exact hj)] at hd
    exact h1.2 j u d hu hd
  · rw [List.getElem?_append_right (by omega)] at hu
    rw [List.getElem?_append_right (by rw [← h1.1]; omega)] at hd
    rw [← h1.1] at hd
    exact h2.2 _ u d hu hd
/-- One part of a value behind the other. -/
theorem AllF.field {o sz o' : Nat} (h1 : AllF F W ((cs.drop o).take sz) d1) (hs : o + sz = o') (h2 : AllF F W (cs.drop o') d2) : AllF F W (cs.drop o) (d1 ++ d2) := by
  have h := AllF.append h1 h2
  subst hs
  rw [← List.drop_drop, List.take_append_drop] at h
  exact h
theorem AllF.last {o : Nat} (h : cs.length = o) : AllF F W (cs.drop o) [] := by
  rw [List.drop_eq_nil_of_le (by omega)]
  exact .nil
theorem opn_int {k : IntKind} (ht : P.underlying t = some (.int k)) : Opn H enc P W t (fun x : Int => (Lit.int k x).wf = true) (fun x => [.v (.int k x)]) := by
  rintro cs ⟨fuel, x, h⟩
  obtain ⟨n, rfl, _, hw⟩ := DataW.trod_int ht h
  exact ⟨n, hw, .one (.v _ rfl)⟩
theorem opn_bool (ht : P.underlying t = some .bool) : Opn H enc P W t (fun _ : Bool => True) (fun x => [.v (.bool x)]) := by
  rintro cs ⟨fuel, x, h⟩
  obtain ⟨n, rfl, _⟩ := DataW.trod_bool ht h
  exact ⟨n, trivial, .one (.v _ rfl)⟩
theorem trd_struct {fs : Array Field} (ht : P.underlying t = some (.struct fs)) (h : Trd H enc P W t cs) : cs.length = P.cellsOf t ∧ ∀ (i : Nat) (f : Field), fs[i]? = some f → Trd H enc P W f.type ((cs.drop f.offset).take (P.cellsOf f.type)) := by
  obtain ⟨fuel, x, h⟩ := h
  obtain ⟨xs, n, _, _, hl, hxs, hf⟩ := DataW.trod_struct ht h
  refine ⟨hl, fun i f hi => ?_⟩
  have hlt : i < xs.length := by rw [hxs]; exact (Array.getElem?_eq_some_iff.1 hi).1
  exact ⟨n, xs[i], (hf i f hi).trans (List.getElem?_eq_getElem hlt)⟩
theorem trd_array {m : Nat} (ht : P.underlying t = some (.array m e)) (h : Trd H enc P W t cs) : cs.length = P.cellsOf t ∧ ∀ i, i < m → Trd H enc P W e ((cs.drop (i * P.cellsOf e)).take (P.cellsOf e)) := by
  obtain ⟨fuel, x, h⟩ := h
  obtain ⟨xs, n, _, _, hl, hxs, hf⟩ := DataW.trod_array ht h
  refine ⟨hl, fun i hi => ?_⟩
  have hlt : i < xs.length := by omega
  exact ⟨n, xs[i], (hf i hi).trans (List.getElem?_eq_getElem hlt)⟩
theorem choose_list {α : Type} {n : Nat} {Q : Nat → α → Prop} (h : ∀ i, i < n → ∃ x, Q i x) : ∃ l : List α, l.length = n ∧ ∀ (i : Nat) (x : α), l[i]? = some x → Q i x := by
  induction n with
  | zero => exact ⟨[], rfl, fun i x hx => by simp at hx⟩
  | succ n ih =>
    obtain ⟨l, hl, hq⟩ := ih (fun i hi => h i (by omega))
    obtain ⟨y, hy⟩ := h n (by omega)
    refine ⟨l ++ [y], by simp [hl], fun i x hx => ?_⟩
    by_cases hi : i < l.length
    · rw [List.getElem?_append_left hi] at hx
      exact hq i x hx
    · rw [List.getElem?_append_right (by omega)] at hx
      have : i - l.length = 0 := by
        have := (List.getElem?_eq_some_iff.1 hx).1
        simp at this; omega
      rw [this] at hx
      simp at hx
      subst hx
      have : i = n := by omega
      subst this
      exact hy
theorem opn_slice {α : Type} {ok : α → Prop} {c : α → List DV} {sz : Nat} (ht : P.underlying t = some (.slice e)) (hz : P.cellsOf e = sz) (h0 : 0 < sz) (he : Opn H enc P W e ok c) : Opn H enc P W t (fun l : List α => (∀ x ∈ l, ok x) ∧ l.length ≤ maxLen) (fun l => [.sl (l.map c)]) := by
  rintro cs ⟨fuel, x, h⟩
  rcases DataW.trod_slice ht h with ⟨rfl, _⟩ | ⟨a, len, cap, elems, rest, n, _, rfl, _, _, hlc, hcm, hel, hE, hR, _⟩
  · exact ⟨[], ⟨fun _ h => by simp at h, by simp⟩, .one .nil⟩
  · rw [hz] at hE hR
    have hcell : ∀ i, i < len → ∃ x, ok x ∧ ∃ l, W.cells? 0 (a.add (i * sz)) sz = some l ∧ AllF (Blk W) W l (c x) := by
      intro i hi
      have h1 := hE i hi
      rw [List.getElem?_eq_getElem (by omega : i < elems.length)] at h1
      cases hc : W.cells? 0 (a.add (i * sz)) sz with
      | none => rw [hc] at h1; cases h1
      | some l =>
        rw [hc] at h1
        obtain ⟨x, hx, ha⟩ := he l ⟨n, _, h1⟩
        exact ⟨x, hx, l, rfl, ha⟩
    obtain ⟨l, hl, hq⟩ := choose_list hcell
    by_cases hcap : cap = 0
    · subst hcap
      have : len = 0 := by omega
      subst this
      obtain rfl := List.eq_nil_of_length_eq_zero hl
      exact ⟨[], ⟨fun _ h => by simp at h, by simp⟩, .one (.e0 a)⟩
    have hF : Blk W a.block := by
      by_cases h1 : 0 < len
      · obtain ⟨x, _, l', hl', _⟩ := hcell 0 h1
        have := World.cells?_block hl' h0
        rwa [addr_add_block] at this
      · obtain ⟨hr1, hr2⟩ := hR rfl
        have h2 := hr2 0 (by omega)
        rw [List.getElem?_eq_getElem (by omega : 0 < rest.length)] at h2
        cases hc : W.cells? 0 (a.add ((len + 0) * sz)) sz with
        | none => rw [hc] at h2; cases h2
        | some l' =>
          have := World.cells?_block hc h0
          rwa [addr_add_block] at this
    refine ⟨l, ⟨fun x hx => ?_, by omega⟩, .one ?_⟩
    · obtain ⟨i, hi⟩ := List.getElem?_of_mem hx
      exact (hq i x hi).1
    · have hlen : (l.map c).length = len := by simp [hl]
      have key : ∀ (i : Nat) (ci : List DV), (l.map c)[i]? = some ci → ∃ l', W.cells? 0 (a.add (i * sz)) sz = some l' ∧ AllF (Blk W) W l' ci := by
        intro i ci hi
        rw [List.getElem?_map] at hi
        cases hx : l[i]? with
        | none => rw [hx] at hi; cases hi
        | some x =>
          rw [hx] at hi
          simp only [Option.map_some, Option.some.injEq] at hi
          subst hi
          exact (hq i x hx).2
      have := FR.sl (F := Blk W) (w := W) a cap sz (l.map c) (fun i j => (W.cell? (a.add (i * sz + j))).getD undef) hF (by omega) (fun i ci hi => by
        obtain ⟨l', h1, h2⟩ := key i ci hi
        rw [← h2.1]
        exact (World.cells?_some h1).2.1) (fun i ci j d hi hj => by
        obtain ⟨l', h1, h2⟩ := key i ci hi
        obtain ⟨_, h3, h4⟩ := World.cells?_some h1
        have hjl : j < sz := by rw [← h3, h2.1]; exact (List.getElem?_eq_some_iff.1 hj).1
        have h5 := h4 j hjl
        rw [addr_add_add, List.getElem?_eq_getElem (by omega : j < l'.length)] at h5
        rw [h5]; rfl) (fun i ci j d hi hj => by
        obtain ⟨l', h1, h2⟩ := key i ci hi
        obtain ⟨_, h3, h4⟩ := World.cells?_some h1
        have hjl : j < sz := by rw [← h3, h2.1]; exact (List.getElem?_eq_some_iff.1 hj).1
        have h5 := h4 j hjl
        rw [addr_add_add] at h5
        have h6 : l'[j]? = some (l'[j]'(by omega)) := List.getElem?_eq_getElem (by omega)
        have h7 := h2.2 j _ d h6 hj
        rw [h6] at h5
        simp only [h5, Option.getD_some]
        exact h7)
      rw [hlen] at this
      exact this
/-- A value of several cells. -/
theorem DR.of_agg {ι : Nat → Value} {F' : Nat → Prop} {cs : Array Value} {ds : List DV} (h : AllF F W cs.toList ds) (hF : ∀ k, F k → F' k) : DR ι F' W (.agg cs) (.agg ds) := by
  have h1 := DR.agg (ι := ι) (F := F') (w := W) ds cs.toList h.1 (fun u hu => by
    obtain ⟨j, hj⟩ := List.getElem?_of_mem hu
    have hlt := (List.getElem?_eq_some_iff.1 hj).1
    exact (h.2 j u _ hj (List.getElem?_eq_getElem (by rw [← h.1]; exact hlt))).one) (fun j u d hu hd => .fr ((h.2 j u d hu hd).mono fun k hk => ⟨hF k hk, rfl⟩))
  exact h1
theorem DR.of_one {ι : Nat → Value} {F' : Nat → Prop} {v : Value} {d : DV} (h : AllF F W [v] [d]) (hF : ∀ k, F k → F' k) : DR ι F' W v d := .fr ((h.2 0 v d rfl rfl).mono fun k hk => ⟨hF k hk, rfl⟩)
/-- Nothing is one's own at first. -/
def nm0 : Nm := ⟨fun _ => undef, fun _ _ => False⟩
theorem ok0 (hg : ∀ p ∈ Gam, Blk W p.1 ∧ ∃ u : Nat → Nat → Value, ∀ (i : Nat) (c : List DV), p.2.2[i]? = some c → c.length = p.2.1 ∧ ∀ (j : Nat) (d : DV), c[j]? = some d → W.cell? ⟨p.1, i * p.2.1 + j, none⟩ = some (u i j) ∧ FR (Blk W) W (u i j) d) : Ok nm0 [] ⟨W, lentL nm0 [], fun _ => False⟩ W where
  ent := fun e he => by cases he
  nd := .nil
  ap := fun e he => by cases he
  bnd := fun e he => by cases he
  base := fun e he => by cases he
  lent := fun p hp => by cases hp
  hX := fun k hk => hk.elim
  os := rfl
  tape := rfl
  out := rfl
  size := Nat.le_refl _
  block := fun k _ _ => rfl
  gl := fun p hp => by
    obtain ⟨h1, u, h2⟩ := hg p hp
    exact ⟨⟨h1, fun h => h, fun e he => by cases he⟩, u, fun i c hi => ⟨(h2 i c hi).1, fun j d hj => ⟨((h2 i c hi).2 j d hj).1, ((h2 i c hi).2 j d hj).2.mono fun k hk => ⟨⟨hk, fun h => h, fun e he => by cases he⟩, rfl⟩⟩⟩⟩
theorem fz0 : ∀ k, Blk W k → Fz nm0 [] ⟨W, lentL nm0 [], fun _ => False⟩ W k := fun k hk => ⟨hk, fun h => h, fun e he => by cases he⟩
/-- What a law's contract gives. -/
theorem ends_below {W' : World} {C : Cx} {b : Bool} {en : Ending} (hC : C = ⟨W, [], fun _ => False⟩) (h : Ends C (.v (.bool b)) [] en W') : en = .returned (.bool b) ∧ Below W.heap.size W W' := by
  subst hC
  obtain ⟨v, ν', rfl, hO, hv⟩ := h
  refine ⟨?_, ?_⟩
  · cases hv with
    | fr h => cases h; rfl
  · exact ⟨hO.os, hO.tape, hO.out, hO.size, fun k hk => hO.block k hk (fun p hp => by cases hp)⟩
end
end Go.Proofs.YtjjmoihpjmojiaaDoor.D
