/- Which rules and messages may be; a rule and a message as octets, there and back. -/
import Derived.Test.YtjjmoihpjmojiaaDoorP1
set_option linter.unusedSimpArgs false
set_option linter.unusedVariables false
namespace Go.Proofs.YtjjmoihpjmojiaaDoor.X
open Go.RowKit Go.Proofs.YtjjmoihpjmojiaaDoor.D
set_option maxRecDepth 100000
def maskI (n : Int) : Int := IntKind.i64.wrap (IntKind.u32.wrap (shl_ .u64 4294967295 (32 - mn (mx n 0) 32).toNat))
theorem mask_any (n : Int) (F : Nat → Int) : (bits_bound n >>= fun q1 => match q1 with | .o0 x2 => (nat_ (IntKind.i64.wrap (32 - x2)) >>= fun x3 => some (bits_Mask.R.o0 (F x3)))) = some ⟨F (32 - mn (mx n 0) 32).toNat⟩ := by
  have h : 0 ≤ mn (mx n 0) 32 ∧ mn (mx n 0) 32 ≤ 32 := by unfold mn mx; split <;> split <;> omega
  have e : bits_bound n = some ⟨mn (mx n 0) 32⟩ := rfl
  rw [e]
  generalize mn (mx n 0) 32 = y at h
  have hn : nat_ (IntKind.i64.wrap (32 - y)) = some (32 - y).toNat := by
    rw [w64 (x := 32 - y) (by omega) (by omega)]
    unfold nat_
    rw [if_pos (by omega)]
  simp only [Option.bind_eq_bind, Option.bind_some, hn]
theorem mask_ok (n : Int) : bits_Mask n = some ⟨maskI n⟩ := by
  unfold bits_Mask maskI
  exact mask_any n (fun x3 => IntKind.i64.wrap (IntKind.u32.wrap (shl_ .u64 4294967295 x3)))
def mayP (p : Prefix) : Bool := ((((decide (p.Len ≥ 0)) && (decide (p.Len ≤ 32))) && (decide (p.Addr ≥ 0))) && (decide (p.Addr ≤ 4294967295))) && ((Go.bits .andNot .i64 p.Addr (maskI p.Len)) == 0)
theorem bits_May_ok (p : Prefix) : bits_May p = some ⟨mayP p⟩ := by
  unfold bits_May mayP
  rw [mask_ok]
  generalize ((((decide (p.Len ≥ 0)) && (decide (p.Len ≤ 32))) && (decide (p.Addr ≥ 0))) && (decide (p.Addr ≤ 4294967295))) = c
  cases c <;> simp only [gd, Bool.false_eq_true, if_false, if_true, Option.bind_eq_bind, Option.bind_some, Bool.false_and]
def mayR (r : Rule) : Bool := ((((((((r.Act.Kind == 0) && ((r.Act.Port == 0) && true)) || (((r.Act.Kind == 1) && (decide (r.Act.Port ≥ 0))) && (decide (r.Act.Port ≤ 7)))) && mayP r.P) && (decide (r.In ≥ (-1)))) && (decide (r.In ≤ 7))) && (decide (r.Prio ≥ 0))) && (decide (r.Prio ≤ 255)))
theorem rule_May_ok (r : Rule) : rule_May r = some ⟨mayR r⟩ := by
  unfold rule_May mayR
  rw [bits_May_ok]
  generalize (((r.Act.Kind == 0) && ((r.Act.Port == 0) && true)) || (((r.Act.Kind == 1) && (decide (r.Act.Port ≥ 0))) && (decide (r.Act.Port ≤ 7)))) = c
  cases c <;> simp only [gd, Bool.false_eq_true, if_false, if_true, Option.bind_eq_bind, Option.bind_some, Bool.false_and]
structure WfR (r : Rule) : Prop where
  len : 0 ≤ r.P.Len ∧ r.P.Len ≤ 32
  addr : 0 ≤ r.P.Addr ∧ r.P.Addr < 4294967296
  inn : -1 ≤ r.In ∧ r.In ≤ 7
  prio : 0 ≤ r.Prio ∧ r.Prio ≤ 255
  kind : 0 ≤ r.Act.Kind ∧ r.Act.Kind ≤ 1
  port : 0 ≤ r.Act.Port ∧ r.Act.Port ≤ 7
theorem wfR {r : Rule} (h : mayR r = true) : WfR r := by
  unfold mayR mayP at h
  simp only [Bool.and_eq_true, Bool.or_eq_true, decide_eq_true_eq, beq_iff_eq] at h
  obtain ⟨⟨⟨⟨⟨h1, h2⟩, h3⟩, h4⟩, h5⟩, h6⟩ := h
  obtain ⟨⟨⟨⟨h7, h8⟩, h9⟩, h10⟩, _⟩ := h2
  refine ⟨by omega, by omega, by omega, by omega, ?_, ?_⟩ <;> rcases h1 with h1 | h1 <;> omega
abbrev zR : Rule := Rule.mk (Prefix.mk 0 0) 0 0 (Action.mk 0 0)
def isZ (r : Rule) : Bool := ((r.P.Addr == 0) && ((r.P.Len == 0) && ((r.In == 0) && ((r.Prio == 0) && ((r.Act.Kind == 0) && ((r.Act.Port == 0) && true))))))
theorem isZ_eq {r : Rule} (h : isZ r = true) : r = zR := by
  obtain ⟨⟨a, b⟩, c, d, ⟨e, f⟩⟩ := r
  unfold isZ at h
  simp only [Bool.and_eq_true, beq_iff_eq] at h
  obtain ⟨rfl, rfl, rfl, rfl, rfl, rfl, _⟩ := h
  rfl
def inB (b : Bounds) (x : Int) : Bool := decide (x ≥ b.least) && decide (x ≤ b.most_)
def mayM (m : Msg) : Bool := if (decide (m.Kind < 0)) || (decide (m.Kind ≥ 6)) then false else
  match at_ kindsT m.Kind with
  | some k => (((bif k.rule_ then mayR m.R else isZ m.R) && inB (Bounds.mk 1 1048576) m.Epoch) && inB k.seq m.Seq) && inB k.tag m.Tag
  | none => false
theorem msg_May_ok (m : Msg) : msg_May m = some ⟨mayM m⟩ := by
  unfold msg_May mayM
  cases hc : (decide (m.Kind < 0)) || (decide (m.Kind ≥ 6)) with
  | true => rfl
  | false =>
    simp only [Bool.or_eq_false_iff, decide_eq_false_iff_not] at hc
    obtain ⟨k, hk⟩ : ∃ k, at_ kindsT m.Kind = some k := by
      unfold at_
      rw [if_pos (by omega)]
      have : m.Kind.toNat < kindsT.length := by show _ < 6; omega
      exact ⟨_, List.getElem?_eq_getElem this⟩
    simp only [Bool.false_eq_true, if_false, hk, Option.bind_eq_bind, Option.bind_some]
    have hin : ∀ b x, msg_bounds_in b x = some ⟨inB b x⟩ := fun b x => rfl
    cases hr : k.rule_ with
    | true =>
      simp only [if_true, rule_May_ok, Option.bind_some, hin, cond_true]
      cases mayR m.R <;> simp only [gd, Bool.false_eq_true, if_false, if_true, Option.bind_some, Bool.false_and, Bool.true_and]
      cases inB (Bounds.mk 1 1048576) m.Epoch <;> simp only [Bool.false_eq_true, if_false, if_true, Option.bind_some, Bool.false_and, Bool.true_and]
      cases inB k.seq m.Seq <;> simp only [Bool.false_eq_true, if_false, if_true, Option.bind_some, Bool.false_and, Bool.true_and]
    | false =>
      have hz : ((m.R.P.Addr == 0) && ((m.R.P.Len == 0) && ((m.R.In == 0) && ((m.R.Prio == 0) && ((m.R.Act.Kind == 0) && ((m.R.Act.Port == 0) && true)))))) = isZ m.R := rfl
      simp only [Bool.false_eq_true, if_false, Option.bind_some, hin, cond_false, hz]
      cases isZ m.R <;> simp only [gd, Bool.false_eq_true, if_false, if_true, Option.bind_some, Bool.false_and, Bool.true_and]
      cases inB (Bounds.mk 1 1048576) m.Epoch <;> simp only [Bool.false_eq_true, if_false, if_true, Option.bind_some, Bool.false_and, Bool.true_and]
      cases inB k.seq m.Seq <;> simp only [Bool.false_eq_true, if_false, if_true, Option.bind_some, Bool.false_and, Bool.true_and]
structure WfM (m : Msg) : Prop where
  kind : 0 ≤ m.Kind ∧ m.Kind < 6
  epoch : 1 ≤ m.Epoch ∧ m.Epoch ≤ 1048576
  seq : 0 ≤ m.Seq ∧ m.Seq ≤ 1048576
  tag : 0 ≤ m.Tag ∧ m.Tag ≤ 4095
  rule : m.Kind = 2 → WfR m.R ∧ mayR m.R = true
  none_ : m.Kind ≠ 2 → m.R = zR
theorem wfM {m : Msg} (h : mayM m = true) : WfM m := by
  obtain ⟨K, E, S, T, R⟩ := m
  unfold mayM at h
  simp only at h
  split at h
  · cases h
  · rename_i hc
    simp only [Bool.or_eq_true, decide_eq_true_eq, not_or] at hc
    rcases (by omega : K = 0 ∨ K = 1 ∨ K = 2 ∨ K = 3 ∨ K = 4 ∨ K = 5) with rfl | rfl | rfl | rfl | rfl | rfl
    all_goals
      simp only [at_, kindsT, Int.reduceLE, if_true, Int.reduceToNat, List.getElem?_cons_succ, List.getElem?_cons_zero, cond_true, cond_false, inB, Bool.and_eq_true, decide_eq_true_eq] at h
      obtain ⟨⟨⟨h1, h2⟩, h3⟩, h4⟩ := h
    all_goals
      refine ⟨by simp, by simp only; omega, by simp only; omega, by simp only; omega, fun hk => ?_, fun hk => ?_⟩
      all_goals first
        | (simp only at hk; omega)
        | exact ⟨wfR h1, h1⟩
        | exact isZ_eq h1
        | exact absurd hk (by decide)
        | exact absurd rfl hk
/-! ### Rules -/
def ruleB (r : Rule) : List Int := [r.P.Addr / 16777216, r.P.Addr / 65536 % 256, r.P.Addr / 256 % 256, r.P.Addr % 256, r.P.Len, r.In + 1, r.Prio, r.Act.Kind, r.Act.Port]
theorem rule_Put_ok {r : Rule} (hm : mayR r = true) : rule_Put r = some (.o1 0 (ruleB r)) := by
  have h := wfR hm
  unfold rule_Put
  rw [rule_May_ok, hm, put4 _ h.addr.1 (by have := h.addr.2; omega)]
  simp only [Option.bind_eq_bind, Option.bind_some, Bool.not_true, Bool.false_eq_true, if_false]
  rw [room_ok (by simp)]
  simp only [Option.bind_some]
  rw [wu8 h.len.1 (by have := h.len.2; omega), w64 (x := r.In + 1) (by have := h.inn; omega) (by have := h.inn; omega), wu8 (x := r.In + 1) (by have := h.inn; omega) (by have := h.inn; omega), wu8 h.prio.1 (by have := h.prio.2; omega), wu8 h.kind.1 (by have := h.kind.2; omega), wu8 h.port.1 (by have := h.port.2; omega)]
  rfl
theorem ruleB_by {r : Rule} (h : WfR r) : By (ruleB r) := by
  intro x hx
  have h1 := h.len; have h2 := h.addr; have h3 := h.inn; have h4 := h.prio; have h5 := h.kind; have h6 := h.port
  simp only [ruleB, List.mem_cons, List.not_mem_nil, or_false] at hx
  rcases hx with rfl | rfl | rfl | rfl | rfl | rfl | rfl | rfl | rfl <;> omega
theorem rule_Get_ok {r : Rule} (hm : mayR r = true) : rule_Get (ruleB r) = some ⟨r, 0⟩ := by
  have h := wfR hm
  have hb := ruleB_by h
  have g : octets_Get (ruleB r) 4 = some ⟨r.P.Addr, 0⟩ := by
    refine (get4 _ _ _ _ [r.P.Len, r.In + 1, r.Prio, r.Act.Kind, r.Act.Port] (by have := h.addr; omega) (by omega) (by omega) (by omega)).trans ?_
    congr 2
    have := h.addr
    omega
  have h1 := h.len; have h3 := h.inn; have h4 := h.prio; have h5 := h.kind; have h6 := h.port
  unfold rule_Get
  have hl : decide (lenc c_u8 (ruleB r) < 9) = false := rfl
  have a4 : at_ (ruleB r) 4 = some r.P.Len := rfl
  have a5 : at_ (ruleB r) 5 = some (r.In + 1) := rfl
  have a6 : at_ (ruleB r) 6 = some r.Prio := rfl
  have a7 : at_ (ruleB r) 7 = some r.Act.Kind := rfl
  have a8 : at_ (ruleB r) 8 = some r.Act.Port := rfl
  rw [hl, g]
  simp only [Bool.false_eq_true, if_false, Option.bind_eq_bind, Option.bind_some, a4, a5, a6, a7, a8]
  rw [w64 (x := r.P.Len) (by omega) (by omega), w64 (x := r.In + 1) (by omega) (by omega), w64 (x := r.In + 1 - 1) (by omega) (by omega), w64 (x := r.Prio) (by omega) (by omega), w64 (x := r.Act.Kind) (by omega) (by omega), w64 (x := r.Act.Port) (by omega) (by omega), show r.In + 1 - 1 = r.In by omega]
  rw [rule_May_ok]
  have hr : (Rule.mk (Prefix.mk r.P.Addr r.P.Len) r.In r.Prio (Action.mk r.Act.Kind r.Act.Port)) = r := rfl
  rw [hr, hm]
  rfl
/-! ### Messages -/
def msgB (m : Msg) : List Int := headB m.Kind m.Epoch m.Seq m.Tag ++ (if m.Kind = 2 then ruleB m.R else [])
theorem kinds_rule {K : Int} {k : Told} (h : at_ kindsT K = some k) : k.rule_ = decide (K = 2) := by
  unfold at_ at h
  split at h
  · rename_i h0
    have : K.toNat < 6 := (List.getElem?_eq_some_iff.1 h).1
    rcases (by omega : K = 0 ∨ K = 1 ∨ K = 2 ∨ K = 3 ∨ K = 4 ∨ K = 5) with rfl | rfl | rfl | rfl | rfl | rfl <;> (simp [kindsT] at h; subst h; rfl)
  · cases h
theorem msg_Put_no {m : Msg} (h : mayM m = false) : msg_Put m = some (.o0 1) := by
  unfold msg_Put
  rw [msg_May_ok, h]
  rfl
theorem msg_Put_ok {m : Msg} (hm : mayM m = true) : msg_Put m = some (.o1 0 (msgB m)) := by
  have h := wfM hm
  have hk := h.kind; have he := h.epoch; have hs := h.seq; have ht := h.tag
  obtain ⟨k, hkk⟩ : ∃ k, at_ kindsT m.Kind = some k := by
    unfold at_
    rw [if_pos (by omega)]
    have : m.Kind.toNat < kindsT.length := by show _ < 6; omega
    exact ⟨_, List.getElem?_eq_getElem this⟩
  have hr := kinds_rule hkk
  unfold msg_Put
  rw [msg_May_ok, hm, putAll_ok _ _ _ _ (by omega) (by omega) (by omega) (by omega)]
  simp only [Option.bind_eq_bind, Option.bind_some, Bool.not_true, Bool.false_eq_true, if_false, hkk, gd]
  have h00 : ((0 : Int) != 0) = false := rfl
  simp only [h00, Bool.not_false, if_true, Option.bind_some, Bool.false_or]
  unfold msgB
  by_cases h2 : m.Kind = 2
  · rw [hr, decide_eq_true h2, if_pos h2, rule_Put_ok (h.rule h2).2]
    simp only [Bool.not_true, Bool.false_eq_true, if_false, Option.bind_some]
    rw [room_ok (by simp [headB, ruleB])]
    rfl
  · rw [hr, decide_eq_false h2, if_neg h2]
    simp
theorem headB_by {k e s t : Int} (hk : 0 ≤ k ∧ k < 256) (he : 0 ≤ e ∧ e < 16777216) (hs : 0 ≤ s ∧ s < 16777216) (ht : 0 ≤ t ∧ t < 65536) : By (headB k e s t) := by
  intro x hx
  simp only [headB, List.mem_cons, List.not_mem_nil, or_false] at hx
  rcases hx with rfl | rfl | rfl | rfl | rfl | rfl | rfl | rfl | rfl <;> omega
theorem msgB_by {m : Msg} (h : WfM m) : By (msgB m) := by
  have hk := h.kind; have he := h.epoch; have hs := h.seq; have ht := h.tag
  intro x hx
  unfold msgB at hx
  rw [List.mem_append] at hx
  rcases hx with hx | hx
  · exact headB_by (by omega) (by omega) (by omega) (by omega) x hx
  · split at hx
    · rename_i h2
      exact ruleB_by (h.rule h2).1 x hx
    · cases hx
theorem msgB_len (m : Msg) : (msgB m).length = if m.Kind = 2 then 18 else 9 := by
  unfold msgB
  split <;> simp [headB, ruleB]
theorem msg_Get_ok {m : Msg} (hm : mayM m = true) : msg_Get (msgB m) = some ⟨m, 0⟩ := by
  have h := wfM hm
  have hk := h.kind; have he := h.epoch; have hs := h.seq; have ht := h.tag
  have hb := msgB_by h
  have hlen := msgB_len m
  have g : octets_GetAll (msgB m) [1, 3, 3, 2] = some (.o1 9 0 [m.Kind, m.Epoch, m.Seq, m.Tag]) := by
    refine (getAll_ok _ _ _ _ _ _ _ _ _ (if m.Kind = 2 then ruleB m.R else []) hb (by split <;> simp [ruleB])).trans ?_
    congr 2
    simp only [List.cons.injEq, and_true, true_and]
    omega
  unfold msg_Get
  rw [g]
  have h00 : ((0 : Int) != 0) = false := rfl
  have a0 : at_ [m.Kind, m.Epoch, m.Seq, m.Tag] 0 = some m.Kind := rfl
  have a1 : at_ [m.Kind, m.Epoch, m.Seq, m.Tag] 1 = some m.Epoch := rfl
  have a2 : at_ [m.Kind, m.Epoch, m.Seq, m.Tag] 2 = some m.Seq := rfl
  have a3 : at_ [m.Kind, m.Epoch, m.Seq, m.Tag] 3 = some m.Tag := rfl
  simp only [Option.bind_eq_bind, Option.bind_some, h00, Bool.false_eq_true, if_false, a0, a1, a2, a3, lenc_eq]
  by_cases h2 : m.Kind = 2
  · rw [if_pos h2] at hlen
    have c1 : decide (((msgB m).length : Int) < 18) = false := decide_eq_false (by omega)
    have c2 : decide (((msgB m).length : Int) > 18) = false := decide_eq_false (by omega)
    have hc : cut_ (msgB m) 9 ((msgB m).length : Int) = some (ruleB m.R) := by
      refine (cut_all (i := 9) rfl (by omega)).trans ?_
      unfold msgB
      rw [if_pos h2]
      rfl
    rw [show (m.Kind == 2) = true by simp [h2], c1, c2, hc]
    simp only [if_true, Bool.false_eq_true, if_false, Option.bind_some, rule_Get_ok (h.rule h2).2, h00]
    rw [msg_May_ok]
    have : Msg.mk m.Kind m.Epoch m.Seq m.Tag m.R = m := rfl
    rw [this, hm]
    rfl
  · rw [if_neg h2] at hlen
    have c1 : decide (((msgB m).length : Int) < 9) = false := decide_eq_false (by omega)
    have c2 : decide (((msgB m).length : Int) > 9) = false := decide_eq_false (by omega)
    rw [show (m.Kind == 2) = false by simp [h2], c1, c2]
    simp only [Bool.false_eq_true, if_false]
    rw [msg_May_ok]
    have : Msg.mk m.Kind m.Epoch m.Seq m.Tag zR = m := by rw [← h.none_ h2]
    rw [this, hm]
    simp only [Option.bind_some, Bool.not_true, Bool.false_eq_true, if_false]
end Go.Proofs.YtjjmoihpjmojiaaDoor.X
