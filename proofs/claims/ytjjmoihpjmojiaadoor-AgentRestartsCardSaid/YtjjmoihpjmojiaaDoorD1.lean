/- Deep values: what a walk knows of a value, with all that it leads to; and how the machine's values stand to them. -/
import Derived.Below
import Derived.Laws.AppendOwn
import Derived.Laws.OwnMore
import Derived.Laws.MakeOwn
import Derived.Laws.World
import Derived.Tactics
import Derived.Deep.LoopGhost
set_option linter.unusedVariables false
set_option linter.unusedSimpArgs false
namespace Go.Proofs.YtjjmoihpjmojiaaDoor.D
open Go.RowKit

inductive DV where
  | v (x : Value)
  | sl (es : List (List DV))
  | osl (e sz : Nat) (es : List (List DV))
  | agg (cs : List DV)
  | tup (vs : List DV)
  | own (r : Nat)
  | ptr (r off : Nat)
  | fat (c : List DV) (off : Nat)
  | fn (f : Fn) (first cap : List DV)
  | any
abbrev nilS : Value := .slice none 0 0
def hdOf : Value → Option Nat
  | .pointer (some ⟨g, 0, none⟩) => some g
  | .slice (some ⟨g, 0, none⟩) _ _ => some g
  | _ => none
/-- A value in memory that nobody writes (blocks of F). -/
inductive FR (F : Nat → Prop) (w : World) : Value → DV → Prop
  | v (x : Value) (h : x.oneCell' = true) : FR F w x (.v x)
  | nil : FR F w nilS (.sl [])
  | e0 (ad : Addr) : FR F w (.slice (some ad) 0 0) (.sl [])
  | sl (ad : Addr) (cap sz : Nat) (es : List (List DV)) (u : Nat → Nat → Value) (hF : F ad.block) (hcap : es.length ≤ cap)
      (hsz : ∀ (i : Nat) (c : List DV), es[i]? = some c → c.length = sz)
      (hc : ∀ (i : Nat) (c : List DV) (j : Nat) (d : DV), es[i]? = some c → c[j]? = some d → w.cell? (ad.add (i * sz + j)) = some (u i j))
      (hr : ∀ (i : Nat) (c : List DV) (j : Nat) (d : DV), es[i]? = some c → c[j]? = some d → FR F w (u i j) d) : FR F w (.slice (some ad) es.length cap) (.sl es)
theorem FR.one {F : Nat → Prop} {w : World} {v : Value} {d : DV} (h : FR F w v d) : v.oneCell' = true := by
  cases h with
  | v _ h => exact h
  | nil => rfl
  | e0 => rfl
  | sl => rfl
theorem addr_add_block (a : Addr) (n : Nat) : (a.add n).block = a.block := by unfold Addr.add; split <;> rfl
theorem addr_add_add (a : Addr) (m n : Nat) : (a.add m).add n = a.add (m + n) := by
  unfold Addr.add
  by_cases hm : m = 0
  · subst hm; simp
  · by_cases hn : n = 0
    · subst hn; simp
    · have : ¬ (m + n = 0) := by omega
      simp [hm, hn, this, Nat.add_assoc]
theorem FR.mono {F F' : Nat → Prop} {w w' : World} {v : Value} {d : DV} (h : FR F w v d) (hF : ∀ k, F k → F' k ∧ w'.heap[k]? = w.heap[k]?) : FR F' w' v d := by
  induction h with
  | v x h => exact .v x h
  | nil => exact .nil
  | e0 ad => exact .e0 ad
  | sl ad cap sz es u hB hcap hsz hc _ ih =>
    refine .sl ad cap sz es u (hF _ hB).1 hcap hsz (fun i c j d h1 h2 => ?_) ih
    exact (World.cell?_of_block (by rw [addr_add_block]; exact (hF _ hB).2)).trans (hc i c j d h1 h2)
/-- A value of a walk: iota r: the header of the call's own object r. -/
inductive DR (ι : Nat → Value) (F : Nat → Prop) (w : World) : Value → DV → Prop
  | any (v : Value) : DR ι F w v .any
  | fr {v : Value} {d : DV} (h : FR F w v d) : DR ι F w v d
  | own (r : Nat) (h : (ι r).oneCell' = true) : DR ι F w (ι r) (.own r)
  | ptr (r g off : Nat) (h : hdOf (ι r) = some g) : DR ι F w (.pointer (some ⟨g, off, none⟩)) (.ptr r off)
  | fat (ad : Addr) (c : List DV) (off : Nat) (u : Nat → Value) (hF : F ad.block) (hc : ∀ (j : Nat) (d : DV), c[j]? = some d → w.cell? (ad.add j) = some (u j)) (hr : ∀ (j : Nat) (d : DV), c[j]? = some d → FR F w (u j) d) : DR ι F w (.pointer (some (ad.add off))) (.fat c off)
  | fn (f : Fn) (first cap : List DV) (us vs : List Value) (hu : us.length = first.length) (hv : vs.length = cap.length) (h1 : ∀ (j : Nat) (u : Value) (d : DV), us[j]? = some u → first[j]? = some d → DR ι F w u d) (h2 : ∀ (j : Nat) (u : Value) (d : DV), vs[j]? = some u → cap[j]? = some d → DR ι F w u d) : DR ι F w (.func f us.toArray vs.toArray) (.fn f first cap)
  | agg (ds : List DV) (us : List Value) (hu : us.length = ds.length) (h1 : ∀ u ∈ us, u.oneCell' = true) (h : ∀ (j : Nat) (u : Value) (d : DV), us[j]? = some u → ds[j]? = some d → DR ι F w u d) : DR ι F w (.agg us.toArray) (.agg ds)
  | tup (ds : List DV) (us : List Value) (hu : us.length = ds.length) (h : ∀ (j : Nat) (u : Value) (d : DV), us[j]? = some u → ds[j]? = some d → DR ι F w u d) : DR ι F w (.tuple us.toArray) (.tup ds)
/-- d does not name r. -/
def nr (r : Nat) : DV → Bool
  | .own s => !Nat.beq s r
  | .ptr s _ => !Nat.beq s r
  | .agg cs => nrs r cs
  | .tup cs => nrs r cs
  | .fn _ a b => nrs r a && nrs r b
  | _ => true
where nrs (r : Nat) : List DV → Bool
  | [] => true
  | d :: l => nr r d && nrs r l
theorem nrs_at {r : Nat} : ∀ {l : List DV}, nr.nrs r l = true → ∀ (j : Nat) (d : DV), l[j]? = some d → nr r d = true
  | [], _, j, d, h => by simp at h
  | x :: l, hn, j, d, h => by
    unfold nr.nrs at hn
    rw [Bool.and_eq_true] at hn
    cases j with
    | zero => simp only [List.getElem?_cons_zero, Option.some.injEq] at h; rw [← h]; exact hn.1
    | succ j => exact nrs_at hn.2 j d (by simpa using h)
theorem DR.mono {ι ι' : Nat → Value} {F F' : Nat → Prop} {w w' : World} {v : Value} {d : DV} (h : DR ι F w v d) (hF : ∀ k, F k → F' k ∧ w'.heap[k]? = w.heap[k]?) (A : Nat → Prop) (hι : ∀ r, A r → ι' r = ι r) (hA : ∀ r, ¬ A r → nr r d = true) : DR ι' F' w' v d := by
  induction h with
  | any v => exact .any v
  | fr h => exact .fr (h.mono hF)
  | own r h =>
    have h1 : A r := by
      by_cases ha : A r
      · exact ha
      · have := hA r ha; simp [nr] at this
    rw [← hι r h1] at h ⊢
    exact .own r h
  | ptr r g off h =>
    have h1 : A r := by
      by_cases ha : A r
      · exact ha
      · have := hA r ha; simp [nr] at this
    exact .ptr r g off (by rw [hι r h1]; exact h)
  | fat ad c off u hB hc hr =>
    refine .fat ad c off u (hF _ hB).1 (fun j d hj => ?_) (fun j d hj => (hr j d hj).mono hF)
    exact (World.cell?_of_block (by rw [addr_add_block]; exact (hF _ hB).2)).trans (hc j d hj)
  | fn f first cap us vs hu hv h1 h2 ih1 ih2 =>
    refine .fn f first cap us vs hu hv (fun j u d a b => ih1 j u d a b (fun r hr => ?_)) (fun j u d a b => ih2 j u d a b (fun r hr => ?_))
    · have := hA r hr
      unfold nr at this
      rw [Bool.and_eq_true] at this
      exact nrs_at this.1 j d b
    · have := hA r hr
      unfold nr at this
      rw [Bool.and_eq_true] at this
      exact nrs_at this.2 j d b
  | agg ds us hu h1 _ ih => exact .agg ds us hu h1 (fun j u d a b => ih j u d a b (fun r hr => nrs_at (hA r hr) j d b))
  | tup ds us hu _ ih => exact .tup ds us hu (fun j u d a b => ih j u d a b (fun r hr => nrs_at (hA r hr) j d b))
/-- The same under one naming. -/
theorem DR.keep {ι : Nat → Value} {F F' : Nat → Prop} {w w' : World} {v : Value} {d : DV} (h : DR ι F w v d) (hF : ∀ k, F k → F' k ∧ w'.heap[k]? = w.heap[k]?) : DR ι F' w' v d :=
  h.mono hF (fun _ => True) (fun _ _ => rfl) (fun _ hr => absurd trivial hr)
def blkOf : Value → Option Nat
  | .slice (some a) _ _ => some a.block
  | .pointer (some a) => some a.block
  | _ => none
theorem hd_blk {v : Value} {g : Nat} (h : hdOf v = some g) : blkOf v = some g := by
  unfold hdOf at h
  split at h
  · simpa [blkOf] using h
  · simpa [blkOf] using h
  · cases h
theorem own_blk {w : World} {b e sz n : Nat} {v : Value} {xs : List Value} (h : w.ownsRow b e sz v n xs) : (blkOf v = v.ownBlock ∧ v.oneCell' = true) ∧ ∀ k, blkOf v = some k → k < w.heap.size := by
  rcases h.2 with ⟨hn, _⟩ | ⟨g, cap, cur, hv, _, hg, _⟩
  · rw [hn]; exact ⟨⟨rfl, rfl⟩, fun k hk => (by cases hk)⟩
  · rw [hv]
    refine ⟨⟨rfl, rfl⟩, fun k hk => ?_⟩
    simp only [blkOf, Option.some.injEq] at hk
    subst hk
    exact (Array.getElem?_eq_some_iff.1 hg).1
/-- A value in a row of one's own: all its own blocks lie in S; rows within are rows of one's own, apart from each other. -/
inductive OT (F : Nat → Prop) (w : World) : Value → DV → (Nat → Prop) → Prop
  | fr {v : Value} {d : DV} (h : FR F w v d) (S : Nat → Prop) : OT F w v d S
  | e0 (e sz : Nat) (ad : Addr) (S : Nat → Prop) : OT F w (.slice (some ad) 0 0) (.osl e sz []) S
  | osl (e sz : Nat) (es : List (List DV)) (v : Value) (xs : List Value) (u : Nat → Nat → Value) (s : Nat → Nat → Nat → Prop) (S : Nat → Prop) (ho : w.ownsRow 0 e sz v es.length xs) (hb : ∀ k, blkOf v = some k → S k)
      (hl : ∀ (i : Nat) (c : List DV), es[i]? = some c → c.length = sz)
      (hx : ∀ (i : Nat) (c : List DV) (j : Nat) (d : DV), es[i]? = some c → c[j]? = some d → xs[i * sz + j]? = some (u i j) ∧ (u i j).oneCell' = true)
      (hs : ∀ i j k, s i j k → S k ∧ blkOf v ≠ some k) (hd : ∀ i j i' j' k, s i j k → s i' j' k → i = i' ∧ j = j')
      (hc : ∀ (i : Nat) (c : List DV) (j : Nat) (d : DV), es[i]? = some c → c[j]? = some d → OT F w (u i j) d (s i j)) : OT F w v (.osl e sz es) S
theorem OT.wide {F : Nat → Prop} {w : World} {v : Value} {d : DV} {S S' : Nat → Prop} (h : OT F w v d S) (hS : ∀ k, S k → S' k) : OT F w v d S' := by
  cases h with
  | fr h => exact .fr h _
  | e0 e sz ad => exact .e0 e sz ad _
  | osl e sz es _ xs u s _ ho hb hl hx hs hd hc => exact .osl e sz es v xs u s S' ho (fun k hk => hS k (hb k hk)) hl hx (fun i j k hk => ⟨hS k (hs i j k hk).1, (hs i j k hk).2⟩) hd hc
theorem owns_keep {w w' : World} {b e sz n : Nat} {v : Value} {xs : List Value} (ho : w.ownsRow b e sz v n xs) (h : ∀ k, blkOf v = some k → w'.heap[k]? = w.heap[k]?) : w'.ownsRow b e sz v n xs := by
  refine ⟨ho.1, ?_⟩
  rcases ho.2 with hn | ⟨g, cap, cur, hv, hb0, hg, rest⟩
  · exact .inl hn
  · exact .inr ⟨g, cap, cur, hv, hb0, (h g (by rw [hv]; rfl)).trans hg, rest⟩
theorem OT.mono {F F' : Nat → Prop} {w w' : World} {v : Value} {d : DV} {S : Nat → Prop} (h : OT F w v d S) (hF : ∀ k, F k → F' k ∧ w'.heap[k]? = w.heap[k]?) (hS : ∀ k, S k → w'.heap[k]? = w.heap[k]?) : OT F' w' v d S := by
  induction h with
  | fr h S => exact .fr (h.mono hF) S
  | e0 e sz ad S => exact .e0 e sz ad S
  | osl e sz es v xs u s S ho hb hl hx hs hd hc ih =>
    exact .osl e sz es v xs u s S (owns_keep ho (fun k hk => hS k (hb k hk))) hb hl hx hs hd (fun i c j d h1 h2 => ih i c j d h1 h2 (fun k hk => hS k (hs i j k hk).1))
/-- In a value that isn't a row of one's own nothing is one's own. -/
def pl : DV → Bool
  | .osl _ _ _ => false
  | _ => true
theorem OT.fr_of {F : Nat → Prop} {w : World} {v : Value} {d : DV} {S : Nat → Prop} (h : OT F w v d S) (hp : pl d = true) : FR F w v d := by
  cases h with
  | fr h => exact h
  | e0 => cases hp
  | osl => cases hp
theorem OT.one {F : Nat → Prop} {w : World} {v : Value} {d : DV} {S : Nat → Prop} (h : OT F w v d S) : v.oneCell' = true := by
  cases h with
  | fr h => exact h.one
  | e0 => rfl
  | osl _ _ _ _ _ _ _ _ ho => exact (own_blk ho).1.2
theorem OT.lt {F : Nat → Prop} {w : World} {v : Value} {d : DV} {S : Nat → Prop} (h : OT F w v d S) (hF : ∀ k, F k → k < w.heap.size) : ∃ S' : Nat → Prop, (∀ k, S' k → S k ∧ k < w.heap.size) ∧ OT F w v d S' := by
  induction h with
  | fr h S => exact ⟨fun _ => False, fun k hk => hk.elim, .fr h _⟩
  | e0 e sz ad S => exact ⟨fun _ => False, fun k hk => hk.elim, .e0 e sz ad _⟩
  | osl e sz es v xs u s S ho hb hl hx hs hd hc ih =>
    refine ⟨fun k => S k ∧ k < w.heap.size, fun k hk => hk, .osl e sz es v xs u (fun i j k => s i j k ∧ k < w.heap.size) _ ho (fun k hk => ⟨hb k hk, (own_blk ho).2 k hk⟩) hl hx (fun i j k hk => ⟨⟨(hs i j k hk.1).1, hk.2⟩, (hs i j k hk.1).2⟩) (fun i j i' j' k h1 h2 => hd i j i' j' k h1.1 h2.1) (fun i c j d h1 h2 => ?_)⟩
    obtain ⟨S', h3, h4⟩ := ih i c j d h1 h2
    exact h4.wide h3
end Go.Proofs.YtjjmoihpjmojiaaDoor.D
