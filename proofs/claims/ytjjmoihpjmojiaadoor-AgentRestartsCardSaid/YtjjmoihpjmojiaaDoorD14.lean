/- append onto a row of one's own. -/
import Derived.Test.YtjjmoihpjmojiaaDoorD13
import Derived.Maps.AppendAt
import Derived.Laws.OwnMore
set_option linter.unusedVariables false
set_option linter.unusedSimpArgs false
namespace Go.Proofs.YtjjmoihpjmojiaaDoor.D
open Go.RowKit

section
variable {P : Program} {τ : List (Nat × TR)} {n : Nat} {σ σ' : Sl} {H H' H0 H1 HL HR Hn : Hp} {C : Cx} {ν ν' : Nm} {ι : Nat → Value} {F F' : Nat → Prop} {w w' W : World} {a : Act} {l rest ops : List Oper} {Q : Exit → Act → World → Prop} {o : Oper} {d : Nat} {A : Nat → Prop} {x r : DV} {g : Gd} {f : FuncId} {ds ds0 : List DV} {fn : Func} {c : Code}
/-- What is appended: its cells, and the blocks that come along. -/
def SrcR (F : Nat → Prop) (w : World) (x : Value) (sz : Nat) (es : List (List DV)) (S : Nat → Prop) : Prop :=
  (x = nilS ∧ es = []) ∨ ∃ (ad : Addr) (cap : Nat) (u : Nat → Nat → Value) (s : Nat → Nat → Nat → Prop), x = .slice (some ad) es.length cap ∧ (∀ (i : Nat) (c : List DV), es[i]? = some c → c.length = sz) ∧
    (∀ (i : Nat) (c : List DV) (j : Nat) (d : DV), es[i]? = some c → c[j]? = some d → w.cell? (ad.add (i * sz + j)) = some (u i j) ∧ (u i j).oneCell' = true ∧ OT F w (u i j) d (s i j)) ∧
    (∀ i j k, s i j k → S k) ∧ (∀ i j i' j' k, s i j k → s i' j' k → i = i' ∧ j = j')
theorem src_sl {es : List (List DV)} {v : Value} {sz : Nat} (h : FR F w v (.sl es)) (hsz : ∀ (i : Nat) (c : List DV), es[i]? = some c → c.length = sz) : SrcR F w v sz es (fun _ => False) := by
  cases h with
  | nil => exact .inl ⟨rfl, rfl⟩
  | e0 ad => exact .inr ⟨ad, 0, fun _ _ => nilS, fun _ _ _ => False, rfl, fun i c h => by simp at h, fun i c j d h => by simp at h, fun _ _ _ h => h.elim, fun _ _ _ _ _ h => h.elim⟩
  | sl ad cap sz1 _ u hB hcap hsz1 hc hr =>
    refine .inr ⟨ad, cap, u, fun _ _ _ => False, rfl, hsz, fun i c j d h1 h2 => ?_, fun _ _ _ h => h.elim, fun _ _ _ _ _ h => h.elim⟩
    have : sz1 = sz := (hsz1 i c h1).symm.trans (hsz i c h1)
    subst this
    exact ⟨hc i c j d h1 h2, (hr i c j d h1 h2).one, .fr (hr i c j d h1 h2) _⟩
theorem src_row {es : List (List DV)} {v : Value} {e sz : Nat} {S : Nat → Prop} (h : OT F w v (.osl e sz es) S) : SrcR F w v sz es S := by
  cases h with
  | fr h => cases h
  | e0 _ _ ad => exact .inr ⟨ad, 0, fun _ _ => nilS, fun _ _ _ => False, rfl, fun i c h => by simp at h, fun i c j d h => by simp at h, fun _ _ _ h => h.elim, fun _ _ _ _ _ h => h.elim⟩
  | osl _ _ _ _ xs u s _ ho hb hl hx hs hd hc =>
    rcases ho.2 with ⟨hn, h0⟩ | ⟨gg, cap, cur, hv, _⟩
    · exact .inl ⟨hn, List.eq_nil_of_length_eq_zero h0⟩
    · have hcell := ho.cells (g := gg) (by rw [hv]; rfl)
      exact .inr ⟨⟨gg, 0, none⟩, cap, u, s, hv, hl, fun i c j d h1 h2 => ⟨hcell _ _ (hx i c j d h1 h2).1, (hx i c j d h1 h2).2, hc i c j d h1 h2⟩, fun i j k h => (hs i j k h).1, hd⟩
theorem src_keep {es : List (List DV)} {v : Value} {e sz : Nat} {S : Nat → Prop} (h : OT F w v (.osl e sz es) S) (hp : ∀ c ∈ es, pls c = true) : SrcR F w v sz es (fun _ => False) := by
  rcases src_row h with h | ⟨ad, cap, u, s, h1, h2, h3, h4, h5⟩
  · exact .inl h
  · refine .inr ⟨ad, cap, u, fun _ _ _ => False, h1, h2, fun i c j d hi hj => ?_, fun _ _ _ h => h.elim, fun _ _ _ _ _ h => h.elim⟩
    obtain ⟨h6, h7, h8⟩ := h3 i c j d hi hj
    exact ⟨h6, h7, .fr (h8.fr_of (pls_at (hp c (List.mem_of_getElem? hi)) j d hj)) _⟩
/-- The row that comes out. -/
theorem app_main0 {t ty e sz bytes : Nat} {z : List Value} {q : TR} (ht : P.underlying t = some (.slice e)) (hq : TR.ok P e q) (hz : q.z = some z) (hsz : q.sz = sz) (hzl : z.length = sz) (h0 : 0 < sz) (hby : (P.info? e).map (·.bytes) = some bytes)
    {v x : Value} {es es2 : List (List DV)} {S S2 : Nat → Prop} {xs : List Value} {u : Nat → Nat → Value} {s : Nat → Nat → Nat → Prop} (ho : w.ownsRow 0 e sz v es.length xs) (hb : ∀ k, blkOf v = some k → S k)
      (hl : ∀ (i : Nat) (c : List DV), es[i]? = some c → c.length = sz)
      (hxs : ∀ (i : Nat) (c : List DV) (j : Nat) (d : DV), es[i]? = some c → c[j]? = some d → xs[i * sz + j]? = some (u i j) ∧ (u i j).oneCell' = true)
      (hs : ∀ i j k, s i j k → S k ∧ blkOf v ≠ some k) (hd : ∀ i j i' j' k, s i j k → s i' j' k → i = i' ∧ j = j')
      (hc : ∀ (i : Nat) (c : List DV) (j : Nat) (d : DV), es[i]? = some c → c[j]? = some d → OT F w (u i j) d (s i j)) (hx : SrcR F w x sz es2 S2) (hdis : ∀ k, S k → ¬ S2 k) (hF : ∀ k, F k → k < w.heap.size ∧ ¬ S k ∧ ¬ S2 k) (hS : ∀ k, S k → k < w.heap.size) (hS2 : ∀ k, S2 k → k < w.heap.size)
    (hlen : (es.length + es2.length) * bytes ≤ 140737488355328) (h63 : es.length + es2.length ≤ maxLen) :
    ∃ v' w', (Builtin.append_ #[t, t] ty #[v, x]).run P w = .ok v' w' ∧ w'.os = w.os ∧ w'.tape = w.tape ∧ w'.output = w.output ∧ w.heap.size ≤ w'.heap.size ∧ (∀ k, k < w.heap.size → ¬ S k → w'.heap[k]? = w.heap[k]?) ∧
      v'.oneCell' = true ∧ OT F w' v' (.osl e sz (es ++ es2)) (fun k => S k ∨ S2 k ∨ (w.heap.size ≤ k ∧ k < w'.heap.size)) := by
  obtain ⟨i, hi, hisz⟩ := TR.size hq
  obtain ⟨zv, hz1, hz2⟩ := hq.2.1 z hz
  have hzv : i.zero = some zv := by simpa [hi] using hz1
  have hbyt : i.bytes = bytes := by simpa [hi] using hby
  have keep : ∀ {u : Value} {d : DV} {T : Nat → Prop} {w' : World}, OT F w u d T → (∀ k, k < w.heap.size → blkOf v ≠ some k → w'.heap[k]? = w.heap[k]?) → (∀ k, T k → k < w.heap.size ∧ blkOf v ≠ some k) → OT F w' u d T :=
    fun h hw hT => h.mono (fun k hk => ⟨hk, hw k (hF k hk).1 (fun hq => (hF k hk).2.1 (hb k hq))⟩) (fun k hk => hw k (hT k hk).1 (hT k hk).2)
  rcases hx with ⟨rfl, rfl⟩ | ⟨ad, cap, u2, s2, rfl, hl2, hc2, hs2, hd2⟩
  · have hr := run_append_owned_none (P := P) w 0 t ty e i sz ht hi v es.length xs ho
    refine ⟨v, w, hr, rfl, rfl, rfl, Nat.le_refl _, fun _ _ _ => rfl, (own_blk ho).1.2, ?_⟩
    rw [List.append_nil]
    exact .osl e sz es v xs u s _ ho (fun k hk => .inl (hb k hk)) hl hxs (fun i j k h => ⟨.inl (hs i j k h).1, (hs i j k h).2⟩) hd hc
  · let news : List Value := (List.range (es2.length * sz)).map fun k => u2 (k / sz) (k % sz)
    have hnl : news.length = es2.length * sz := by simp [news]
    have hnat : ∀ k, k < es2.length * sz → news[k]? = some (u2 (k / sz) (k % sz)) := fun k hk => by
      simp only [news]
      rw [List.getElem?_map, List.getElem?_range hk]
      rfl
    have hcell : ∀ k, k < es2.length * sz → ∃ c d, es2[k / sz]? = some c ∧ c[k % sz]? = some d := by
      intro k hk
      have h1 : k / sz < es2.length := (Nat.div_lt_iff_lt_mul h0).2 hk
      have h2 : k % sz < sz := Nat.mod_lt _ h0
      have h3 := List.getElem?_eq_getElem h1
      have h4 := hl2 _ _ h3
      exact ⟨_, _, h3, List.getElem?_eq_getElem (by omega)⟩
    have hmd : ∀ k, k / sz * sz + k % sz = k := fun k => by rw [Nat.mul_comm]; exact Nat.div_add_mod k sz
    obtain ⟨v', w', hr, hown, hg, hnil, hat⟩ := run_append_own_at (P := P) w 0 t ty e i zv sz bytes ht hi hzv (hisz.trans hsz) hbyt (by rw [← hzl, ← hz2]; simp) h0 v es.length xs ho ad es2.length cap news hnl
      (fun k y hk => by
        have hlt : k < es2.length * sz := by have := (List.getElem?_eq_some_iff.1 hk).1; omega
        rw [hnat k hlt] at hk
        simp only [Option.some.injEq] at hk
        subst hk
        obtain ⟨c, d, h1, h2⟩ := hcell k hlt
        have := (hc2 _ c _ d h1 h2).1
        rwa [hmd] at this)
      (fun y hy => by
        obtain ⟨k, hk⟩ := List.getElem?_of_mem hy
        have hlt : k < es2.length * sz := by have := (List.getElem?_eq_some_iff.1 hk).1; omega
        rw [hnat k hlt] at hk
        simp only [Option.some.injEq] at hk
        subst hk
        obtain ⟨c, d, h1, h2⟩ := hcell k hlt
        exact (hc2 _ c _ d h1 h2).2.1) h63 hlen (Nat.zero_le _)
    have hblk : ∀ k, k < w.heap.size → blkOf v ≠ some k → w'.heap[k]? = w.heap[k]? := fun k hk hne => hg.block k hk (fun hq => hne (by rw [(own_blk ho).1.1, hq]))
    have hvb : ∀ k, blkOf v' = some k → blkOf v = some k ∨ k = w.heap.size := by
      intro k hk
      rw [(own_blk hown).1.1] at hk
      rcases hat with h | h
      · left; rw [(own_blk ho).1.1, ← h, hk]
      · right; rw [h] at hk; simpa using hk.symm
    have hl63 : (es ++ es2).length = es.length + es2.length := List.length_append
    refine ⟨v', w', hr, hg.os, hg.tape, hg.output, hg.size, fun k hk hn => hblk k hk (fun hq => hn (hb k hq)), (own_blk hown).1.2, ?_⟩
    refine .osl e sz (es ++ es2) v' (xs ++ news) (fun i j => if i < es.length then u i j else u2 (i - es.length) j) (fun i j k => if i < es.length then s i j k ∧ i < es.length ∧ k < w.heap.size else s2 (i - es.length) j k) _ (by rw [hl63]; exact hown) (fun k hk => ?_) (fun i c hi => ?_) (fun i c j d hi hj => ?_) (fun i j k h => ?_) (fun i j i' j' k h1 h2 => ?_) (fun i c j d hi hj => ?_)
    · rcases hvb k hk with h | h
      · exact .inl (hb k h)
      · exact .inr (.inr ⟨by omega, (own_blk hown).2 k hk⟩)
    · rw [List.getElem?_append] at hi
      split at hi
      · exact hl i c hi
      · exact hl2 _ c hi
    · rw [List.getElem?_append] at hi
      split at hi
      · rename_i hlt
        rw [if_pos hlt]
        obtain ⟨h1, h2⟩ := hxs i c j d hi hj
        have h3 := (List.getElem?_eq_some_iff.1 h1).1
        exact ⟨by rw [List.getElem?_append_left h3]; exact h1, h2⟩
      · rename_i hlt
        rw [if_neg hlt]
        have hci := hl2 _ c hi
        have hjlt : j < sz := by have := (List.getElem?_eq_some_iff.1 hj).1; omega
        have hilt : i - es.length < es2.length := (List.getElem?_eq_some_iff.1 hi).1
        have hxl := ho.1
        have hge : xs.length ≤ i * sz + j := by
          rw [hxl]
          have : es.length * sz ≤ i * sz := Nat.mul_le_mul_right _ (by omega)
          omega
        have hsub : i * sz + j - xs.length = (i - es.length) * sz + j := by
          rw [hxl, Nat.sub_mul]
          have : es.length * sz ≤ i * sz := Nat.mul_le_mul_right _ (by omega)
          omega
        have hlt2 : (i - es.length) * sz + j < es2.length * sz := by
          have : (i - es.length + 1) * sz ≤ es2.length * sz := Nat.mul_le_mul_right _ (by omega)
          rw [Nat.add_mul, Nat.one_mul] at this
          omega
        rw [List.getElem?_append_right hge, hsub, hnat _ hlt2]
        have e1 : ((i - es.length) * sz + j) / sz = i - es.length := by
          rw [Nat.mul_comm, Nat.mul_add_div h0, Nat.div_eq_of_lt hjlt, Nat.add_zero]
        have e2 : ((i - es.length) * sz + j) % sz = j := by
          rw [Nat.mul_comm, Nat.mul_add_mod, Nat.mod_eq_of_lt hjlt]
        rw [e1, e2]
        exact ⟨rfl, (hc2 _ c j d hi hj).2.1⟩
    · split at h
      · obtain ⟨h1, h2, h3⟩ := h
        refine ⟨.inl (hs i j k h1).1, fun hq => ?_⟩
        rcases hvb k hq with h4 | h4
        · exact (hs i j k h1).2 h4
        · omega
      · have h1 := hs2 _ j k h
        refine ⟨.inr (.inl h1), fun hq => ?_⟩
        rcases hvb k hq with h4 | h4
        · exact hdis k (hb k h4) h1
        · have := hS2 k h1; omega
    · split at h1 <;> split at h2
      · exact hd i j i' j' k h1.1 h2.1
      · exact absurd (hs2 _ j' k h2) (hdis k (hs i j k h1.1).1)
      · exact absurd (hs2 _ j k h1) (hdis k (hs i' j' k h2.1).1)
      · rename_i q1 q2
        obtain ⟨h3, h4⟩ := hd2 _ j _ j' k h1 h2
        exact ⟨by omega, h4⟩
    · rw [List.getElem?_append] at hi
      split at hi
      · rename_i hlt
        simp only [if_pos hlt]
        have h1 := keep (hc i c j d hi hj) hblk (fun k hk => ⟨hS k (hs i j k hk).1, (hs i j k hk).2⟩)
        exact h1.wide (fun k hk => ⟨hk, hlt, hS k (hs i j k hk).1⟩)
      · rename_i hlt
        simp only [if_neg hlt]
        exact keep (hc2 _ c j d hi hj).2.2 hblk (fun k hk => ⟨hS2 k (hs2 _ j k hk), fun hq => hdis k (hb k hq) (hs2 _ j k hk)⟩)
theorem app_main {t ty e sz bytes : Nat} {z : List Value} {q : TR} (ht : P.underlying t = some (.slice e)) (hq : TR.ok P e q) (hz : q.z = some z) (hsz : q.sz = sz) (hzl : z.length = sz) (h0 : 0 < sz) (hby : (P.info? e).map (·.bytes) = some bytes)
    {v x : Value} {es es2 : List (List DV)} {S S2 : Nat → Prop} (hv : OT F w v (.osl e sz es) S) (hx : SrcR F w x sz es2 S2) (hdis : ∀ k, S k → ¬ S2 k) (hF : ∀ k, F k → k < w.heap.size ∧ ¬ S k ∧ ¬ S2 k) (hS : ∀ k, S k → k < w.heap.size) (hS2 : ∀ k, S2 k → k < w.heap.size)
    (hlen : (es.length + es2.length) * bytes ≤ 140737488355328) (h63 : es.length + es2.length ≤ maxLen) :
    ∃ v' w', (Builtin.append_ #[t, t] ty #[v, x]).run P w = .ok v' w' ∧ w'.os = w.os ∧ w'.tape = w.tape ∧ w'.output = w.output ∧ w.heap.size ≤ w'.heap.size ∧ (∀ k, k < w.heap.size → ¬ S k → w'.heap[k]? = w.heap[k]?) ∧
      v'.oneCell' = true ∧ OT F w' v' (.osl e sz (es ++ es2)) (fun k => S k ∨ S2 k ∨ (w.heap.size ≤ k ∧ k < w'.heap.size)) := by
  cases hv with
  | fr h => cases h
  | e0 _ _ ad0 =>
    obtain ⟨i, hi, hisz⟩ := TR.size hq
    obtain ⟨zv, hz1, hz2⟩ := hq.2.1 z hz
    have hzv : i.zero = some zv := by simpa [hi] using hz1
    have hbyt : i.bytes = bytes := by simpa [hi] using hby
    rcases hx with ⟨rfl, rfl⟩ | ⟨ad, cap, u2, s2, rfl, hl2, hc2, hs2, hd2⟩
    · refine ⟨.slice (some ad0) 0 0, w, ?_, rfl, rfl, rfl, Nat.le_refl _, fun _ _ _ => rfl, rfl, .e0 _ _ _ _⟩
      simp [Builtin.append_, run_underlying ht, sizeOf, typeInfo, hi, Builtin.lenOf, Builtin.firstCells, storeCells]
    · by_cases h2 : es2.length = 0
      · have : es2 = [] := List.eq_nil_of_length_eq_zero h2
        subst this
        refine ⟨.slice (some ad0) 0 0, w, ?_, rfl, rfl, rfl, Nat.le_refl _, fun _ _ _ => rfl, rfl, .e0 _ _ _ _⟩
        simp [Builtin.append_, run_underlying ht, sizeOf, typeInfo, hi, Builtin.lenOf, Builtin.firstCells, storeCells, loadCells, loadCellsFrom]
      · obtain ⟨v', w', hr, r1, r2, r3, r4, r5, r6, r7⟩ := app_main0 (P := P) (F := F) (w := w) (ty := ty) ht hq hz hsz hzl h0 hby (v := nilS) (es := []) (S := fun _ => False) (xs := []) (u := fun _ _ => nilS) (s := fun _ _ _ => False) (World.ownsRow_nil w 0 e sz) (fun k hk => by cases hk) (fun i c h => by simp at h) (fun i c j d h => by simp at h) (fun _ _ _ h => h.elim) (fun _ _ _ _ _ h => h.elim) (fun i c j d h => by simp at h) (.inr ⟨ad, cap, u2, s2, rfl, hl2, hc2, hs2, hd2⟩) (fun _ h => h.elim) (fun k hk => ⟨(hF k hk).1, fun h => h, (hF k hk).2.2⟩) (fun _ h => h.elim) hS2 hlen h63
        refine ⟨v', w', ?_, r1, r2, r3, r4, fun k hk _ => r5 k hk (fun h => h), r6, r7.wide (fun k hk => hk.elim (fun h => h.elim) (fun h => .inr h))⟩
        rw [← hr]
        have hm : ¬ (es2.length ≤ 0) := by omega
        simp only [List.length_nil, Nat.zero_add] at hlen h63
        have hfit : ¬ (281474976710656 < Builtin.nextslicecap es2.length 0 * i.bytes) := by rw [nextslicecap_zero (by omega), hbyt]; omega
        have h63' : ¬ ((9223372036854775807 : Int) < (es2.length : Int)) := by simp only [maxLen] at h63; omega
        simp [Builtin.append_, run_underlying ht, sizeOf, typeInfo, hi, Builtin.lenOf, Builtin.firstCells, loadCells, loadCellsFrom, h2, hfit, h63', Question.forced]
  | osl _ _ _ _ xs u s _ ho hb hl hxs hs hd hc => exact app_main0 ht hq hz hsz hzl h0 hby ho hb hl hxs hs hd hc hx hdis hF hS hS2 hlen h63
end
end Go.Proofs.YtjjmoihpjmojiaaDoor.D
