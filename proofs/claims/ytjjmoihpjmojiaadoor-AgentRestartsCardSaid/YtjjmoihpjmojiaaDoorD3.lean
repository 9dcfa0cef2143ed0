/- Types; the deep value of an operation that writes nothing. -/
import Derived.Test.YtjjmoihpjmojiaaDoorD2
set_option linter.unusedVariables false
set_option linter.unusedSimpArgs false
namespace Go.Proofs.YtjjmoihpjmojiaaDoor.D
open Go.RowKit

def mn (a b : Int) : Int := if b < a then b else a
def mx (a b : Int) : Int := if b > a then b else a
/-! ### 3. Types -/
inductive TK where
  | int (k : IntKind) | bool | str | slice (e : Nat) | struct (places : List (Nat × Nat × Bool)) | arr (n e : Nat) | other
structure TR where
  k : TK
  sz : Nat
  z : Option (List Value)
def tl : List (Nat × TR) → Nat → Option TR
  | [], _ => none
  | e :: r, t => bif Nat.beq e.1 t then some e.2 else tl r t
def aggB (P : Program) (t : Nat) : Bool := match P.underlying t with
  | some (.struct _) | some (.array _ _) => true
  | _ => false
def TR.ok (P : Program) (t : Nat) (r : TR) : Prop :=
  (P.info? t).map (·.size) = some r.sz ∧ (∀ l, r.z = some l → ∃ v : Value, (P.info? t).bind (·.zero) = some v ∧ v.cells.toList = l) ∧ match r.k with
  | .int k => P.underlying t = some (.int k)
  | .bool => P.underlying t = some .bool
  | .str => P.underlying t = some .string
  | .slice e => P.underlying t = some (.slice e)
  | .arr n e => P.underlying t = some (.array n e)
  | .struct ps => ∃ fs, P.underlying t = some (.struct fs) ∧ fs.toList.map (fun f => (f.offset, (P.info? f.type).map (·.size), aggB P f.type)) = ps.map (fun p => (p.1, some p.2.1, p.2.2)) ∧ (fs.toList.all fun f => (P.underlying f.type).isSome) = true
  | .other => ∃ d, P.underlying t = some d ∧ (match d with | .struct _ | .array _ _ => false | _ => true) = true
def Tab (P : Program) (τ : List (Nat × TR)) : Prop := ∀ e ∈ τ, TR.ok P e.1 e.2
theorem Tab.get {P : Program} {τ : List (Nat × TR)} (h : Tab P τ) {t : Nat} {r : TR} (ht : tl τ t = some r) : TR.ok P t r := by
  have : ∀ l : List (Nat × TR), tl l t = some r → (t, r) ∈ l := by
    intro l
    induction l with
    | nil => intro h; cases h
    | cons e s ih =>
      intro hh
      unfold tl at hh
      cases hb : Nat.beq e.1 t with
      | true =>
        rw [hb] at hh
        simp only [cond_true, Option.some.injEq] at hh
        have : e.1 = t := Nat.eq_of_beq_eq_true hb
        obtain ⟨e1, e2⟩ := e
        simp only at hh this
        subst this hh
        exact List.mem_cons_self
      | false =>
        rw [hb] at hh
        exact List.mem_cons_of_mem _ (ih hh)
  exact h _ (this τ ht)
theorem Tab.nil {P : Program} : Tab P [] := fun _ h => by cases h
theorem Tab.cons {P : Program} {t : Nat} {r : TR} {τ : List (Nat × TR)} (h : TR.ok P t r) (hs : Tab P τ) : Tab P ((t, r) :: τ) := fun e he => by
  rcases List.mem_cons.1 he with rfl | he
  · exact h
  · exact hs e he

/-! ### 4. Pure operations -/
def shl_ (k : IntKind) (x : Int) (n : Nat) : Int := k.wrap (x * 2 ^ min n k.bits)
def shr_ (k : IntKind) (x : Int) (n : Nat) : Int := x.fdiv (2 ^ min n k.bits)
def bop : BinOp → IntKind → Int → Int → Option Value
  | .add, k, x, y => some (.int k (k.wrap (x + y)))
  | .sub, k, x, y => some (.int k (k.wrap (x - y)))
  | .mul, k, x, y => some (.int k (k.wrap (x * y)))
  | .eql, _, x, y => some (.bool (x == y))
  | .neq, _, x, y => some (.bool (x != y))
  | .lss, _, x, y => some (.bool (decide (x < y)))
  | .leq, _, x, y => some (.bool (decide (x ≤ y)))
  | .gtr, _, x, y => some (.bool (decide (x > y)))
  | .geq, _, x, y => some (.bool (decide (x ≥ y)))
  | .and, k, x, y => some (.int k (Go.bits .and k x y))
  | .or, k, x, y => some (.int k (Go.bits .or k x y))
  | .xor, k, x, y => some (.int k (Go.bits .xor k x y))
  | .andNot, k, x, y => some (.int k (Go.bits .andNot k x y))
  | _, _, _, _ => none
def keq : IntKind → IntKind → Bool
  | .i8, .i8 | .i16, .i16 | .i32, .i32 | .i64, .i64 | .u8, .u8 | .u16, .u16 | .u32, .u32 | .u64, .u64 => true
  | _, _ => false
theorem keq_eq {k k' : IntKind} (h : keq k k' = true) : k = k' := by cases k <;> cases k' <;> first | rfl | cases h
def bin (op : BinOp) : Value → Value → Option Value
  | .int k x, .int k' y => match op, y with
    | .shl, .ofNat n => some (.int k (shl_ k x n))
    | .shr, .ofNat n => some (.int k (shr_ k x n))
    | .quo, .ofNat (n + 1) => bif keq k k' then some (.int k (k.wrap (x.tdiv (n + 1 : Nat)))) else none
    | .rem, .ofNat (n + 1) => bif keq k k' then some (.int k (x.tmod (n + 1 : Nat))) else none
    | _, _ => bif keq k k' then bop op k x y else none
  | _, _ => none
theorem run_bin {P : Program} {op : BinOp} {t : TypeId} {x y : Operand} {u v r : Value} (h : bin op u v = some r) (w : World) : (do eqGuard op t x y u v; binOp op t u v : Sem Value).run P w = .ok r w := by
  unfold bin at h
  split at h
  · rename_i k a k' b
    have hg : eqGuard op t x y (.int k a) (.int k' b) = pure () := by cases op <;> rfl
    rw [hg]
    split at h
    · rename_i n
      simp only [Option.some.injEq] at h
      subst h
      have h0 : ¬ ((n : Int) < 0) := Int.not_lt.2 (Int.natCast_nonneg n)
      simp [binOp, Op.shift, shl_, h0]
    · rename_i n
      simp only [Option.some.injEq] at h
      subst h
      have h0 : ¬ ((n : Int) < 0) := Int.not_lt.2 (Int.natCast_nonneg n)
      simp [binOp, Op.shift, shr_, h0]
    · rename_i n
      cases hk : keq k k' with
      | false => rw [hk] at h; cases h
      | true =>
        rw [hk] at h
        simp only [cond_true, Option.some.injEq] at h
        have := keq_eq hk
        subst this h
        have h0 : ¬ ((n : Int) + 1 = 0) := by omega
        simp [binOp, Op.intDiv, h0]
    · rename_i n
      cases hk : keq k k' with
      | false => rw [hk] at h; cases h
      | true =>
        rw [hk] at h
        simp only [cond_true, Option.some.injEq] at h
        have := keq_eq hk
        subst this h
        have h0 : ¬ ((n : Int) + 1 = 0) := by omega
        simp [binOp, Op.intDiv, h0]
    · cases hk : keq k k' with
      | false => rw [hk] at h; cases h
      | true =>
        rw [hk] at h
        simp only [cond_true] at h
        have := keq_eq hk
        subst this
        cases op <;> simp only [bop] at h <;> first
          | (cases h; done)
          | (simp only [Option.some.injEq] at h; subst h; simp [binOp, Op.intArith, Op.intCmp, Op.intBits, Go.bits]; done)
  · cases h
theorem struct_place {P : Program} {fs : Array Field} {ps : List (Nat × Nat × Bool)} (h : fs.toList.map (fun f => (f.offset, (P.info? f.type).map (·.size), aggB P f.type)) = ps.map (fun p => (p.1, some p.2.1, p.2.2))) {i : Nat} {p : Nat × Nat × Bool} (hi : ps[i]? = some p) :
    ∃ f, fs[i]? = some f ∧ f.offset = p.1 ∧ (P.info? f.type).map (·.size) = some p.2.1 ∧ aggB P f.type = p.2.2 := by
  have h1 := congrArg (fun l => l[i]?) h
  simp only [List.getElem?_map, hi, Option.map_some] at h1
  cases hf : fs.toList[i]? with
  | none => rw [hf] at h1; cases h1
  | some f =>
    rw [hf] at h1
    simp only [Option.map_some, Option.some.injEq, Prod.mk.injEq] at h1
    exact ⟨f, by simpa using hf, h1.1, h1.2.1, h1.2.2⟩
theorem run_val {P : Program} {w w' : World} {s : Sem Value} {v : Value} (h : s.run P w = .ok v w') : (do pure (Next.value (← s)) : Sem Next).run P w = .ok (.value v) w' := by
  simp [h]
theorem TR.size {P : Program} {t : Nat} {r : TR} (h : TR.ok P t r) : ∃ i, P.info? t = some i ∧ i.size = r.sz := by
  obtain ⟨h1, _⟩ := h
  obtain ⟨i, hi, hs⟩ := Option.map_eq_some_iff.1 h1
  exact ⟨i, hi, hs⟩
theorem run_sizeOf {P : Program} {t : Nat} {k : Nat} (h : (P.info? t).map (·.size) = some k) (w : World) : (sizeOf t).run P w = .ok k w := by
  obtain ⟨i, hi, hs⟩ := Option.map_eq_some_iff.1 h
  simp [sizeOf, typeInfo, hi, hs]
theorem run_isAgg {P : Program} {t : Nat} (h : (P.underlying t).isSome = true) (w : World) : (isAgg t).run P w = .ok (aggB P t) w := by
  obtain ⟨d, hd⟩ := Option.isSome_iff_exists.1 h
  unfold isAgg aggB
  simp only [Sem.run_bind, run_underlying hd, Result.andThen_ok, hd]
  cases d <;> rfl
theorem args1 {xs : Array Operand} {x : Operand} (h : xs.toList = [x]) : xs = #[x] := by
  apply Array.ext'
  simpa using h
theorem args2 {α : Type} {xs : Array α} {x y : α} (h : xs.toList = [x, y]) : xs = #[x, y] := by
  apply Array.ext'
  simpa using h
theorem types1 {xs : Array TypeId} {x : TypeId} (h : xs.toList = [x]) : xs = #[x] := by
  apply Array.ext'
  simpa using h

/-! ### Operands -/
def gq : Gd → Gd → Bool
  | none, _ => true
  | some (s, u), some (s', u') => Nat.beq s s' && (u == u')
  | some _, none => false
theorem gq_on {g h : Gd} {a : Act} (hq : gq g h = true) (ho : Gd.on a h) : Gd.on a g := by
  cases g with
  | none => trivial
  | some x =>
    cases h with
    | none => obtain ⟨s, u⟩ := x; cases hq
    | some y =>
      obtain ⟨s, u⟩ := x
      obtain ⟨s', u'⟩ := y
      simp only [gq, Bool.and_eq_true, beq_iff_eq] at hq
      have : s = s' := Nat.eq_of_beq_eq_true hq.1
      rw [this, hq.2]
      exact ho
def allOne : List Value → Bool
  | [] => true
  | v :: l => v.oneCell' && allOne l
theorem allOne_mem : ∀ {l : List Value}, allOne l = true → ∀ v ∈ l, v.oneCell' = true
  | [], _, v, h => by cases h
  | x :: l, h, v, hv => by
    unfold allOne at h
    rw [Bool.and_eq_true] at h
    rcases List.mem_cons.1 hv with rfl | hv
    · exact h.1
    · exact allOne_mem h.2 v hv
def dvc : Value → Option DV
  | .agg cs => bif allOne cs.toList then some (.agg (cs.toList.map .v)) else none
  | .tuple _ => none
  | v => some (.v v)
def ev (σ : Sl) (g : Gd) : Operand → Option DV
  | .tmp t => match lk σ t with
    | some (g', v) => bif gq g' g then some v else none
    | none => none
  | .const v => dvc v
  | .func f => some (.v (.func (.func f) #[] #[]))
  | .global _ => none
theorem DR.fr_v {ι : Nat → Value} {F : Nat → Prop} {w : World} {v x : Value} (h : DR ι F w v (.v x)) : v = x ∧ x.oneCell' = true := by
  cases h with
  | fr h => cases h with
    | v _ h => exact ⟨rfl, h⟩
theorem dvc_ok {ι : Nat → Value} {F : Nat → Prop} {w : World} {v : Value} {d : DV} (h : dvc v = some d) : DR ι F w v d := by
  unfold dvc at h
  split at h
  · rename_i cs
    cases hc : allOne cs.toList with
    | false => rw [hc] at h; cases h
    | true =>
      rw [hc] at h
      simp only [cond_true, Option.some.injEq] at h
      subst h
      have h1 := DR.agg (ι := ι) (F := F) (w := w) (cs.toList.map .v) cs.toList (by simp) (allOne_mem hc) (fun j u d hu hd => by
        rw [List.getElem?_map, hu] at hd
        simp only [Option.map_some, Option.some.injEq] at hd
        subst hd
        exact .fr (.v u (allOne_mem hc u (List.mem_of_getElem? hu))))
      simpa using h1
  · cases h
  · rename_i h1 h2
    simp only [Option.some.injEq] at h
    subst h
    refine .fr (.v v ?_)
    cases v <;> first | rfl | exact absurd rfl (h1 _) | exact absurd rfl (h2 _)
section
variable {ι : Nat → Value} {F : Nat → Prop} {w : World} {n : Nat} {σ : Sl} {a : Act}
theorem Fr.eval (h : Fr ι F w n σ a) {g : Gd} {x : Operand} {d : DV} (hx : ev σ g x = some d) (hg : Gd.on a g) : DR ι F w (a.eval x) d := by
  cases x with
  | tmp t =>
    simp only [ev] at hx
    split at hx
    · rename_i g' v' hl
      cases hq : gq g' g with
      | true =>
        rw [hq] at hx
        simp only [cond_true, Option.some.injEq] at hx
        subst hx
        obtain ⟨v, h1, h2⟩ := h.at_ t _ _ hl (gq_on hq hg)
        simpa [Act.eval, h1] using h2
      | false => rw [hq] at hx; cases hx
    · cases hx
  | const u => exact dvc_ok hx
  | func f => simp only [ev, Option.some.injEq] at hx; subst hx; exact .fr (.v _ rfl)
  | global _ => cases hx
theorem Fr.evalv (h : Fr ι F w n σ a) {g : Gd} {x : Operand} {v : Value} (hx : ev σ g x = some (.v v)) (hg : Gd.on a g) : a.eval x = v := (h.eval hx hg).fr_v.1
def evs (σ : Sl) (g : Gd) : List Operand → Option (List DV)
  | [] => some []
  | x :: r => match ev σ g x, evs σ g r with
    | some v, some l => some (v :: l)
    | _, _ => none
/-- Values and deep values, pair by pair. -/
def All (ι : Nat → Value) (F : Nat → Prop) (w : World) : List Value → List DV → Prop
  | [], [] => True
  | u :: us, d :: ds => DR ι F w u d ∧ All ι F w us ds
  | _, _ => False
theorem All.length : ∀ {us : List Value} {ds : List DV}, All ι F w us ds → us.length = ds.length
  | [], [], _ => rfl
  | _ :: _, _ :: _, h => by simp [All.length h.2]
  | [], _ :: _, h => h.elim
  | _ :: _, [], h => h.elim
theorem All.at_ : ∀ {us : List Value} {ds : List DV}, All ι F w us ds → ∀ (j : Nat) (u : Value) (d : DV), us[j]? = some u → ds[j]? = some d → DR ι F w u d
  | [], [], _, j, u, d, h, _ => by simp at h
  | _ :: _, _ :: _, h, 0, u, d, h1, h2 => by
    simp only [List.getElem?_cons_zero, Option.some.injEq] at h1 h2
    subst h1 h2
    exact h.1
  | _ :: _, _ :: _, h, j + 1, u, d, h1, h2 => All.at_ h.2 j u d (by simpa using h1) (by simpa using h2)
  | [], _ :: _, h, _, _, _, _, _ => h.elim
  | _ :: _, [], h, _, _, _, _, _ => h.elim
theorem All.of : ∀ {us : List Value} {ds : List DV}, us.length = ds.length → (∀ (j : Nat) (u : Value) (d : DV), us[j]? = some u → ds[j]? = some d → DR ι F w u d) → All ι F w us ds
  | [], [], _, _ => trivial
  | u :: us, d :: ds, hl, h => ⟨h 0 u d rfl rfl, All.of (by simpa using hl) (fun j u d h1 h2 => h (j + 1) u d (by simpa using h1) (by simpa using h2))⟩
  | [], _ :: _, hl, _ => by simp at hl
  | _ :: _, [], hl, _ => by simp at hl
theorem Fr.evals (h : Fr ι F w n σ a) {g : Gd} (hg : Gd.on a g) : ∀ {l : List Operand} {ds : List DV}, evs σ g l = some ds → All ι F w (l.map a.eval) ds
  | [], vs, he => by simp only [evs, Option.some.injEq] at he; subst he; trivial
  | x :: r, vs, he => by
    unfold evs at he
    split at he
    · rename_i v us hx hr
      simp only [Option.some.injEq] at he
      subst he
      exact ⟨h.eval hx hg, h.evals hg hr⟩
    · cases he
end
/-! ### Structs -/
def force : List DV → Option (List DV)
  | [] => some []
  | c :: r => match force r with
    | some l => some (c :: l)
    | none => none
theorem force_eq : ∀ l : List DV, force l = some l
  | [] => rfl
  | c :: r => by simp [force, force_eq r]
def setL : Nat → List DV → List DV → List DV
  | _, [], cells => cells
  | off, c :: r, cells => setL (off + 1) r (cells.set off c)
def cellsD : DV → Option (List DV)
  | .agg cs => some cs
  | .tup _ => none
  | .any => none
  | d => some [d]
def fillL (pl : List (Nat × Nat × Bool)) : List DV → List (Nat × DV) → Option (List DV)
  | cells, [] => some cells
  | cells, (i, d) :: rest => match pl[i]?, cellsD d with
    | some p, some cs => bif Nat.beq cs.length p.2.1 && Nat.ble (p.1 + cs.length) cells.length then fillL pl (setL p.1 cs cells) rest else none
    | _, _ => none
def evp (σ : Sl) (g : Gd) : List (Nat × Operand) → Option (List (Nat × DV))
  | [] => some []
  | x :: r => match ev σ g x.2, evp σ g r with
    | some v, some l => some ((x.1, v) :: l)
    | _, _ => none
def sel (b : Bool) : DV → DV → DV
  | .v (.int k i), .v (.int k' j) => bif keq k k' then .v (.int k (bif b then i else j)) else bif b then .v (.int k i) else .v (.int k' j)
  | .v (.bool i), .v (.bool j) => .v (.bool (bif b then i else j))
  | x, y => bif b then x else y
theorem sel_eq (b : Bool) (x y : DV) : sel b x y = bif b then x else y := by
  unfold sel
  split
  · rename_i k i k' j
    cases h : keq k k' with
    | true => have := keq_eq h; subst this; cases b <;> rfl
    | false => rfl
  · cases b <;> rfl
  · rfl
def ev2 (σ : Sl) (g h : Gd) : Operand → Option DV
  | .tmp t => match lk σ t with
    | some (g', v) => bif gq g' g || gq g' h then some v else none
    | none => none
  | .const v => dvc v
  | _ => none
def pick_ (σ : Sl) (g : Gd) (c x y : Operand) : Option DV :=
  match c with
  | .tmp s => match lk σ s with
    | some (g', .v (.bool b)) => bif gq g' g then (match x, y with
      | .const (.bool true), _ => match ev2 σ g (some (s, false)) y with
        | some (.v (.bool z)) => some (.v (.bool (b || z)))
        | _ => none
      | _, .const (.bool false) => match ev2 σ g (some (s, true)) x with
        | some (.v (.bool z)) => some (.v (.bool (b && z)))
        | _ => none
      | _, _ => match ev2 σ g (some (s, true)) x, ev2 σ g (some (s, false)) y with
        | some u, some v => some (sel b u v)
        | _, _ => none) else none
    | _ => none
  | _ => none
def hl : Hp → Nat → Option En
  | [], _ => none
  | e :: r, s => bif Nat.beq e.1 s then some e.2 else hl r s
theorem hl_mem : ∀ {H : Hp} {s : Nat} {e : En}, hl H s = some e → (s, e) ∈ H
  | [], _, _, h => by cases h
  | x :: r, s, e, h => by
    unfold hl at h
    cases hb : Nat.beq x.1 s with
    | true =>
      rw [hb] at h
      simp only [cond_true, Option.some.injEq] at h
      have : x.1 = s := Nat.eq_of_beq_eq_true hb
      obtain ⟨x1, x2⟩ := x
      simp only at h this
      subst this h
      exact List.mem_cons_self
    | false => rw [hb] at h; exact List.mem_cons_of_mem _ (hl_mem h)
def TK.agg : TK → Bool
  | .struct _ | .arr _ _ => true
  | _ => false
def pls : List DV → Bool
  | [] => true
  | d :: l => pl d && pls l
theorem pls_at : ∀ {l : List DV}, pls l = true → ∀ (j : Nat) (d : DV), l[j]? = some d → pl d = true
  | [], _, j, d, h => by simp at h
  | x :: l, hn, j, d, h => by
    unfold pls at hn
    rw [Bool.and_eq_true] at hn
    cases j with
    | zero => simp only [List.getElem?_cons_zero, Option.some.injEq] at h; rw [← h]; exact hn.1
    | succ j => exact pls_at hn.2 j d (by simpa using h)
def ldv (r : TR) (l : List DV) : Option DV :=
  bif r.k.agg then bif Nat.beq l.length r.sz && pls l then (match force l with
    | some l => some (.agg l)
    | none => none) else none
  else match l with
    | [d] => bif pl d then some d else none
    | _ => none
def lenD (H : Hp) : DV → Option Nat
  | .sl es => some es.length
  | .v (.slice none 0 0) => some 0
  | .own r => match hl H r with
    | some (.row _ _ es) => some es.length
    | some (.rowh _ _ es _ _ _) => some es.length
    | some (.lit _ n _) => some n
    | _ => none
  | _ => none
def pv (τ : List (Nat × TR)) (H : Hp) (σ : Sl) (g : Gd) : Op → Option DV
  | .move x | .assign x => ev σ g x
  | .pick c x y => pick_ σ g c x y
  | .binOp op t x y _ => match ev σ g x, ev σ g y with
    | some (.v (.bool a)), some (.v (.bool b)) => match op, tl τ t with
      | .eql, some ⟨.bool, _, _⟩ => some (.v (.bool (a == b)))
      | .neq, some ⟨.bool, _, _⟩ => some (.v (.bool (a != b)))
      | _, _ => none
    | some (.v u), some (.v v) => match bin op u v with
      | some r => bif r.oneCell' then some (.v r) else none
      | none => none
    | _, _ => none
  | .unOp .not _ x => match ev σ g x with
    | some (.v (.bool b)) => some (.v (.bool !b))
    | _ => none
  | .convert s d x => match ev σ g x, tl τ s, tl τ d with
    | some (.v (.int _ i)), some _, some ⟨.int k, _, _⟩ => some (.v (.int k (k.wrap i)))
    | _, _, _ => none
  | .extract x i => match ev σ g x with
    | some (.tup vs) => vs[i]?
    | _ => none
  | .nilCheck x => match ev σ g x with
    | some (.ptr r off) => some (.ptr r off)
    | some (.fat c off) => some (.fat c off)
    | _ => none
  | .fieldAddr s x i => match ev σ g x, tl τ s with
    | some (.ptr r o), some ⟨.struct ps, _, _⟩ => match ps[i]? with
      | some (off, sz, _) => bif Nat.ble 1 sz then some (.ptr r (o + off)) else none
      | none => none
    | some (.fat c o), some ⟨.struct ps, _, _⟩ => match ps[i]? with
      | some (off, sz, _) => bif Nat.ble 1 sz then some (.fat c (o + off)) else none
      | none => none
    | _, _ => none
  | .field s x i => match ev σ g x, tl τ s with
    | some (.agg cs), some ⟨.struct ps, _, _⟩ => match ps[i]? with
      | some (off, sz, true) => (match force ((cs.drop off).take sz) with
        | some l => some (.agg l)
        | none => none)
      | some (off, _, false) => cs[off]?
      | none => none
    | _, _ => none
  | .load t x => match ev σ g x, tl τ t with
    | some (.fat c off), some r => ldv r ((c.drop off).take r.sz)
    | some (.ptr s off), some r => match hl H s with
      | some (.blk _ cs) => ldv r ((cs.drop off).take r.sz)
      | some (.lit _ _ cs) => ldv r ((cs.drop off).take r.sz)
      | _ => none
    | _, _ => none
  | .makeFunc fn first cap => match evs σ g first.toList, evs σ g cap.toList with
    | some us, some vs => some (.fn fn us vs)
    | _, _ => none
  | .build t parts => match evp σ g parts.toList, tl τ t with
    | some ps, some ⟨.struct pl, _, some z⟩ => bif allOne z then (match fillL pl (z.map .v) ps with
      | some l => (match force l with
        | some l' => some (.agg l')
        | none => none)
      | none => none) else none
    | _, _ => none
  | .call c => match c.callee, c.args.toList, c.argTypes.toList with
    | .builtin .len, [x], [t] => match ev σ g x, tl τ t with
      | some d, some ⟨.slice _, _, _⟩ => match lenD H d with
        | some n => some (.v (.int .i64 n))
        | none => none
      | _, _ => none
    | .builtin .min, [x, y], _ => match ev σ g x, ev σ g y with
      | some (.v (.int k a)), some (.v (.int _ b)) => some (.v (.int k (mn a b)))
      | _, _ => none
    | .builtin .max, [x, y], _ => match ev σ g x, ev σ g y with
      | some (.v (.int k a)), some (.v (.int _ b)) => some (.v (.int k (mx a b)))
      | _, _ => none
    | _, _, _ => none
  | _ => none
end Go.Proofs.YtjjmoihpjmojiaaDoor.D
