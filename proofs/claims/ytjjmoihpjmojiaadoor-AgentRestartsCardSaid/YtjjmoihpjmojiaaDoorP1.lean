/- Numbers as octets, there and back; the checksum of octets. -/
import Derived.Test.YtjjmoihpjmojiaaDoorXC
import Derived.Laws.BitsLemmas
import Derived.Laws.Runes
set_option linter.unusedSimpArgs false
set_option linter.unusedVariables false
namespace Go.Proofs.YtjjmoihpjmojiaaDoor.X
open Go.RowKit Go.Proofs.YtjjmoihpjmojiaaDoor.D
set_option maxRecDepth 100000
theorem wu8 {x : Int} (h0 : 0 ≤ x) (h1 : x < 256) : IntKind.u8.wrap x = x := by rw [IntKind.wrap_u8]; omega
theorem w64 {x : Int} (h0 : -9223372036854775808 ≤ x) (h1 : x < 9223372036854775808) : IntKind.i64.wrap x = x := by rw [IntKind.wrap_i64]; omega
theorem w32 {x : Int} (h0 : 0 ≤ x) (h1 : x < 4294967296) : IntKind.u32.wrap x = x := by rw [IntKind.wrap_u32]; omega
theorem sh0 (n : Int) : shr_ .i64 n 0 = n := by show n.fdiv 1 = n; rw [Int.fdiv_eq_ediv_of_nonneg _ (by decide)]; omega
theorem sh8 (n : Int) : shr_ .i64 n 8 = n / 256 := by show n.fdiv 256 = _; rw [Int.fdiv_eq_ediv_of_nonneg _ (by decide)]
theorem sh16 (n : Int) : shr_ .i64 n 16 = n / 65536 := by show n.fdiv 65536 = _; rw [Int.fdiv_eq_ediv_of_nonneg _ (by decide)]
theorem sh24 (n : Int) : shr_ .i64 n 24 = n / 16777216 := by show n.fdiv 16777216 = _; rw [Int.fdiv_eq_ediv_of_nonneg _ (by decide)]
theorem sh32 (n : Int) : shr_ .i64 n 32 = n / 4294967296 := by show n.fdiv 4294967296 = _; rw [Int.fdiv_eq_ediv_of_nonneg _ (by decide)]
def W8 (n : Int) (k : Nat) : Int := IntKind.u8.wrap (shr_ .i64 n k)
/-- Octets. -/
def By (l : List Int) : Prop := ∀ x ∈ l, 0 ≤ x ∧ x < 256
theorem room_ok {α : Type} {b : Nat} {l : List α} (h : l.length * b ≤ 140737488355328) : room b l = some l := by unfold room; rw [if_pos h]
theorem at_ok {α : Type} {l : List α} {i : Nat} {x : α} (h : l[i]? = some x) : at_ l (i : Int) = some x := by unfold at_; rw [if_pos (by omega)]; simpa using h
theorem cut_all {α : Type} {l : List α} {i : Nat} {j : Int} (hj : j = l.length) (h : i ≤ l.length) : cut_ l (i : Int) j = some (l.drop i) := by
  subst hj
  unfold cut_
  rw [if_pos (by omega), if_pos (by omega), if_pos (by omega)]
  simp
/-! ### Put -/
theorem put_go (n w : Int) (k : Nat) (z l : List Int) (hw : w = 1 ∨ w = 2 ∨ w = 3 ∨ w = 4) (h0 : 0 ≤ n) (hk : nat_ (IntKind.i64.wrap (8 * w)) = some k) (hs : shr_ .i64 n k = 0) (hz : make_ 1 w 0 = some z) (hl : octets_Put.l0 n w z (0, z) = some l) : octets_Put n w = some (.o1 0 l) := by
  have hm : octets_may w = some ⟨true⟩ := by
    unfold octets_may
    have h1 : decide (w ≥ 1) = true := decide_eq_true (by omega)
    have h2 : decide (w ≤ 4) = true := decide_eq_true (by omega)
    rw [h1, h2]; rfl
  have hn : decide (n < 0) = false := decide_eq_false (by omega)
  unfold octets_Put
  rw [hm]
  simp only [Option.bind_eq_bind, Option.bind_some, hn, Bool.not_true, Bool.or_false, Bool.or_self, Bool.not_false, gd, if_true, hk, hs, hz, hl]
  rfl
theorem put1_loop (n : Int) : octets_Put.l0 n 1 [0] (0, [0]) = some [W8 n 0] :=
  ((octets_Put.l0.eq_1 _ _ _ _).trans (by kernel_rfl : _ = octets_Put.l0 n 1 [0] (1, [W8 n 0]))).trans <|
  ((octets_Put.l0.eq_1 _ _ _ _).trans (by kernel_rfl))
theorem put1 (n : Int) (h0 : 0 ≤ n) (h1 : n < 256) : octets_Put n 1 = some (.o1 0 [n]) := by
  refine (put_go n 1 8 [0] _ (by simp) h0 rfl (by rw [sh8]; omega) rfl (put1_loop n)).trans ?_
  simp only [W8, sh24, sh16, sh8, sh0, IntKind.wrap_u8]
  rw [show n % 256 = n by omega]
theorem put2_loop (n : Int) : octets_Put.l0 n 2 [0, 0] (0, [0, 0]) = some [W8 n 8, W8 n 0] :=
  ((octets_Put.l0.eq_1 _ _ _ _).trans (by kernel_rfl : _ = octets_Put.l0 n 2 [0, 0] (1, [W8 n 8, 0]))).trans <|
  ((octets_Put.l0.eq_1 _ _ _ _).trans (by kernel_rfl : _ = octets_Put.l0 n 2 [0, 0] (2, [W8 n 8, W8 n 0]))).trans <|
  ((octets_Put.l0.eq_1 _ _ _ _).trans (by kernel_rfl))
theorem put2 (n : Int) (h0 : 0 ≤ n) (h1 : n < 65536) : octets_Put n 2 = some (.o1 0 [n / 256, n % 256]) := by
  refine (put_go n 2 16 [0, 0] _ (by simp) h0 rfl (by rw [sh16]; omega) rfl (put2_loop n)).trans ?_
  simp only [W8, sh24, sh16, sh8, sh0, IntKind.wrap_u8]
  rw [show n / 256 % 256 = n / 256 by omega]
theorem put3_loop (n : Int) : octets_Put.l0 n 3 [0, 0, 0] (0, [0, 0, 0]) = some [W8 n 16, W8 n 8, W8 n 0] :=
  ((octets_Put.l0.eq_1 _ _ _ _).trans (by kernel_rfl : _ = octets_Put.l0 n 3 [0, 0, 0] (1, [W8 n 16, 0, 0]))).trans <|
  ((octets_Put.l0.eq_1 _ _ _ _).trans (by kernel_rfl : _ = octets_Put.l0 n 3 [0, 0, 0] (2, [W8 n 16, W8 n 8, 0]))).trans <|
  ((octets_Put.l0.eq_1 _ _ _ _).trans (by kernel_rfl : _ = octets_Put.l0 n 3 [0, 0, 0] (3, [W8 n 16, W8 n 8, W8 n 0]))).trans <|
  ((octets_Put.l0.eq_1 _ _ _ _).trans (by kernel_rfl))
theorem put3 (n : Int) (h0 : 0 ≤ n) (h1 : n < 16777216) : octets_Put n 3 = some (.o1 0 [n / 65536, n / 256 % 256, n % 256]) := by
  refine (put_go n 3 24 [0, 0, 0] _ (by simp) h0 rfl (by rw [sh24]; omega) rfl (put3_loop n)).trans ?_
  simp only [W8, sh24, sh16, sh8, sh0, IntKind.wrap_u8]
  rw [show n / 65536 % 256 = n / 65536 by omega]
theorem put4_loop (n : Int) : octets_Put.l0 n 4 [0, 0, 0, 0] (0, [0, 0, 0, 0]) = some [W8 n 24, W8 n 16, W8 n 8, W8 n 0] :=
  ((octets_Put.l0.eq_1 _ _ _ _).trans (by kernel_rfl : _ = octets_Put.l0 n 4 [0, 0, 0, 0] (1, [W8 n 24, 0, 0, 0]))).trans <|
  ((octets_Put.l0.eq_1 _ _ _ _).trans (by kernel_rfl : _ = octets_Put.l0 n 4 [0, 0, 0, 0] (2, [W8 n 24, W8 n 16, 0, 0]))).trans <|
  ((octets_Put.l0.eq_1 _ _ _ _).trans (by kernel_rfl : _ = octets_Put.l0 n 4 [0, 0, 0, 0] (3, [W8 n 24, W8 n 16, W8 n 8, 0]))).trans <|
  ((octets_Put.l0.eq_1 _ _ _ _).trans (by kernel_rfl : _ = octets_Put.l0 n 4 [0, 0, 0, 0] (4, [W8 n 24, W8 n 16, W8 n 8, W8 n 0]))).trans <|
  ((octets_Put.l0.eq_1 _ _ _ _).trans (by kernel_rfl))
theorem put4 (n : Int) (h0 : 0 ≤ n) (h1 : n < 4294967296) : octets_Put n 4 = some (.o1 0 [n / 16777216, n / 65536 % 256, n / 256 % 256, n % 256]) := by
  refine (put_go n 4 32 [0, 0, 0, 0] _ (by simp) h0 rfl (by rw [sh32]; omega) rfl (put4_loop n)).trans ?_
  simp only [W8, sh24, sh16, sh8, sh0, IntKind.wrap_u8]
  rw [show n / 16777216 % 256 = n / 16777216 by omega]
/-- The head of a message. -/
def headB (k e s t : Int) : List Int := [k, e / 65536, e / 256 % 256, e % 256, s / 65536, s / 256 % 256, s % 256, t / 256, t % 256]
theorem putAll_ok (k e s t : Int) (hk : 0 ≤ k ∧ k < 256) (he : 0 ≤ e ∧ e < 16777216) (hs : 0 ≤ s ∧ s < 16777216) (ht : 0 ≤ t ∧ t < 65536) : octets_PutAll [k, e, s, t] [1, 3, 3, 2] = some (.o1 0 (headB k e s t)) := by
  have step : ∀ (i : Nat) (acc : List Int) (x w : Int) (l : List Int), [k, e, s, t][i]? = some x → ([1, 3, 3, 2] : List Int)[i]? = some w → octets_Put x w = some (.o1 0 l) → (acc ++ l).length ≤ 1000 → octets_PutAll.l0 [k, e, s, t] [1, 3, 3, 2] ((i : Int), acc) = octets_PutAll.l0 [k, e, s, t] [1, 3, 3, 2] (((i + 1 : Nat) : Int), acc ++ l) := by
    intro i acc x w l h1 h2 h3 h4
    have hi : i < 4 := by have := (List.getElem?_eq_some_iff.1 h1).1; simpa using this
    rw [octets_PutAll.l0.eq_1]
    have hc : decide ((i : Int) < lenc c_i64 [k, e, s, t]) = true := decide_eq_true (by rw [lenc_eq]; simp; omega)
    simp only [hc, if_true, at_ok h1, at_ok h2, Option.bind_eq_bind, Option.bind_some, h3]
    rw [if_neg (by decide), room_ok (by omega)]
    simp only [Option.bind_some]
    rw [w64 (by omega) (by omega)]
    rfl
  have h : octets_PutAll.l0 [k, e, s, t] [1, 3, 3, 2] (0, []) = some (.go (headB k e s t)) := by
    refine (step 0 [] k 1 _ rfl rfl (put1 k hk.1 hk.2) (by simp)).trans ?_
    refine (step 1 _ e 3 _ rfl rfl (put3 e he.1 he.2) (by simp)).trans ?_
    refine (step 2 _ s 3 _ rfl rfl (put3 s hs.1 hs.2) (by simp)).trans ?_
    refine (step 3 _ t 2 _ rfl rfl (put2 t ht.1 ht.2) (by simp)).trans ?_
    rw [octets_PutAll.l0.eq_1]
    rfl
  unfold octets_PutAll
  have hc : ((lenc c_i64 [k, e, s, t]) != (lenc c_i64 [1, 3, 3, 2])) = false := rfl
  rw [hc, h]
  rfl
/-! ### Get -/
def J (s b : Int) : Int := Go.bits .or .u32 (shl_ .u32 s 8) (IntKind.u32.wrap b)
theorem J_ok {s b : Int} (h0 : 0 ≤ s) (h1 : s < 16777216) (hb : 0 ≤ b ∧ b < 256) : J s b = s * 256 + b := by
  unfold J
  have h2 : shl_ .u32 s 8 = s * 256 := by
    show IntKind.u32.wrap (s * 256) = _
    rw [w32 (by omega) (by omega)]
  rw [h2, w32 hb.1 (by omega)]
  exact bits_join .u32 32 (by decide) (fun n a c => w32 a (by simpa using c)) 8 _ _ (by omega) (by simp) (by simp; omega) hb.1 (by simpa using hb.2) (by simp; omega)
theorem get_go (p : List Int) (w : Nat) (z : Int) (hw : 1 ≤ w ∧ w ≤ 4) (hp : w ≤ p.length) (hl : octets_Get.l0 (p.take w) (0, 0) = some z) (h0 : 0 ≤ z) (h1 : z < 4294967296) : octets_Get p w = some ⟨z, 0⟩ := by
  have hm : octets_may w = some ⟨true⟩ := by
    unfold octets_may
    have h1 : decide ((w : Int) ≥ 1) = true := decide_eq_true (by omega)
    have h2 : decide ((w : Int) ≤ 4) = true := decide_eq_true (by omega)
    rw [h1, h2]; rfl
  have hn : decide (lenc c_u8 p < (w : Int)) = false := decide_eq_false (by rw [lenc_eq]; omega)
  have hc : cut_ p 0 (w : Int) = some (p.take w) := by
    unfold cut_
    rw [if_pos (by omega), if_pos (by omega), if_pos (by omega)]
    simp
  unfold octets_Get
  rw [hm]
  simp only [Option.bind_eq_bind, Option.bind_some, Bool.not_true, hn, hc, hl]
  simp only [Bool.false_eq_true, if_false]
  rw [w64 (by omega) (by omega)]
theorem get1_loop (b0 : Int) : octets_Get.l0 [b0] (0, 0) = some (J 0 b0) :=
  ((octets_Get.l0.eq_1 _ _).trans (by kernel_rfl : _ = octets_Get.l0 [b0] ((J 0 b0), 1))).trans <|
  ((octets_Get.l0.eq_1 _ _).trans (by kernel_rfl))
theorem get1 (b0 : Int) (r : List Int) (hb0 : 0 ≤ b0 ∧ b0 < 256) : octets_Get (b0 :: r) 1 = some ⟨b0, 0⟩ := by
  have e : (J 0 b0) = b0 := by
    rw [J_ok (s := 0) (by omega) (by omega) hb0]
    omega
  exact get_go _ 1 _ (by omega) (by simp) ((get1_loop b0).trans (by rw [e])) (by omega) (by omega)
theorem get2_loop (b0 b1 : Int) : octets_Get.l0 [b0, b1] (0, 0) = some (J (J 0 b0) b1) :=
  ((octets_Get.l0.eq_1 _ _).trans (by kernel_rfl : _ = octets_Get.l0 [b0, b1] ((J 0 b0), 1))).trans <|
  ((octets_Get.l0.eq_1 _ _).trans (by kernel_rfl : _ = octets_Get.l0 [b0, b1] ((J (J 0 b0) b1), 2))).trans <|
  ((octets_Get.l0.eq_1 _ _).trans (by kernel_rfl))
theorem get2 (b0 b1 : Int) (r : List Int) (hb0 : 0 ≤ b0 ∧ b0 < 256) (hb1 : 0 ≤ b1 ∧ b1 < 256) : octets_Get (b0 :: b1 :: r) 2 = some ⟨b0 * 256 + b1, 0⟩ := by
  have e : (J (J 0 b0) b1) = b0 * 256 + b1 := by
    rw [J_ok (s := 0) (by omega) (by omega) hb0, J_ok (s := (0 * 256 + b0)) (by omega) (by omega) hb1]
    omega
  exact get_go _ 2 _ (by omega) (by simp) ((get2_loop b0 b1).trans (by rw [e])) (by omega) (by omega)
theorem get3_loop (b0 b1 b2 : Int) : octets_Get.l0 [b0, b1, b2] (0, 0) = some (J (J (J 0 b0) b1) b2) :=
  ((octets_Get.l0.eq_1 _ _).trans (by kernel_rfl : _ = octets_Get.l0 [b0, b1, b2] ((J 0 b0), 1))).trans <|
  ((octets_Get.l0.eq_1 _ _).trans (by kernel_rfl : _ = octets_Get.l0 [b0, b1, b2] ((J (J 0 b0) b1), 2))).trans <|
  ((octets_Get.l0.eq_1 _ _).trans (by kernel_rfl : _ = octets_Get.l0 [b0, b1, b2] ((J (J (J 0 b0) b1) b2), 3))).trans <|
  ((octets_Get.l0.eq_1 _ _).trans (by kernel_rfl))
theorem get3 (b0 b1 b2 : Int) (r : List Int) (hb0 : 0 ≤ b0 ∧ b0 < 256) (hb1 : 0 ≤ b1 ∧ b1 < 256) (hb2 : 0 ≤ b2 ∧ b2 < 256) : octets_Get (b0 :: b1 :: b2 :: r) 3 = some ⟨b0 * 65536 + b1 * 256 + b2, 0⟩ := by
  have e : (J (J (J 0 b0) b1) b2) = b0 * 65536 + b1 * 256 + b2 := by
    rw [J_ok (s := 0) (by omega) (by omega) hb0, J_ok (s := (0 * 256 + b0)) (by omega) (by omega) hb1, J_ok (s := ((0 * 256 + b0) * 256 + b1)) (by omega) (by omega) hb2]
    omega
  exact get_go _ 3 _ (by omega) (by simp) ((get3_loop b0 b1 b2).trans (by rw [e])) (by omega) (by omega)
theorem get4_loop (b0 b1 b2 b3 : Int) : octets_Get.l0 [b0, b1, b2, b3] (0, 0) = some (J (J (J (J 0 b0) b1) b2) b3) :=
  ((octets_Get.l0.eq_1 _ _).trans (by kernel_rfl : _ = octets_Get.l0 [b0, b1, b2, b3] ((J 0 b0), 1))).trans <|
  ((octets_Get.l0.eq_1 _ _).trans (by kernel_rfl : _ = octets_Get.l0 [b0, b1, b2, b3] ((J (J 0 b0) b1), 2))).trans <|
  ((octets_Get.l0.eq_1 _ _).trans (by kernel_rfl : _ = octets_Get.l0 [b0, b1, b2, b3] ((J (J (J 0 b0) b1) b2), 3))).trans <|
  ((octets_Get.l0.eq_1 _ _).trans (by kernel_rfl : _ = octets_Get.l0 [b0, b1, b2, b3] ((J (J (J (J 0 b0) b1) b2) b3), 4))).trans <|
  ((octets_Get.l0.eq_1 _ _).trans (by kernel_rfl))
theorem get4 (b0 b1 b2 b3 : Int) (r : List Int) (hb0 : 0 ≤ b0 ∧ b0 < 256) (hb1 : 0 ≤ b1 ∧ b1 < 256) (hb2 : 0 ≤ b2 ∧ b2 < 256) (hb3 : 0 ≤ b3 ∧ b3 < 256) : octets_Get (b0 :: b1 :: b2 :: b3 :: r) 4 = some ⟨b0 * 16777216 + b1 * 65536 + b2 * 256 + b3, 0⟩ := by
  have e : (J (J (J (J 0 b0) b1) b2) b3) = b0 * 16777216 + b1 * 65536 + b2 * 256 + b3 := by
    rw [J_ok (s := 0) (by omega) (by omega) hb0, J_ok (s := (0 * 256 + b0)) (by omega) (by omega) hb1, J_ok (s := ((0 * 256 + b0) * 256 + b1)) (by omega) (by omega) hb2, J_ok (s := (((0 * 256 + b0) * 256 + b1) * 256 + b2)) (by omega) (by omega) hb3]
    omega
  exact get_go _ 4 _ (by omega) (by simp) ((get4_loop b0 b1 b2 b3).trans (by rw [e])) (by omega) (by omega)
theorem getAll_ok (b0 b1 b2 b3 b4 b5 b6 b7 b8 : Int) (r : List Int) (h : By (b0 :: b1 :: b2 :: b3 :: b4 :: b5 :: b6 :: b7 :: b8 :: r)) (hr : r.length ≤ 1000) : octets_GetAll (b0 :: b1 :: b2 :: b3 :: b4 :: b5 :: b6 :: b7 :: b8 :: r) [1, 3, 3, 2] = some (.o1 9 0 [b0, b1 * 65536 + b2 * 256 + b3, b4 * 65536 + b5 * 256 + b6, b7 * 256 + b8]) := by
  have H : ∀ x ∈ [b0, b1, b2, b3, b4, b5, b6, b7, b8], 0 ≤ x ∧ x < 256 := fun x hx => h x (by simp at hx ⊢; omega)
  simp only [List.mem_cons, List.not_mem_nil, or_false, forall_eq_or_imp, forall_eq] at H
  obtain ⟨h0, h1, h2, h3, h4, h5, h6, h7, h8⟩ := H
  have step : ∀ (l : List Int) (i : Nat) (acc : List Int) (w : Nat) (v : Int), ([1, 3, 3, 2] : List Int)[i]? = some (w : Int) → octets_Get l w = some ⟨v, 0⟩ → w ≤ l.length → acc.length ≤ 1000 → octets_GetAll.l0 [1, 3, 3, 2] (l, (i : Int), acc) = octets_GetAll.l0 [1, 3, 3, 2] (l.drop w, ((i + 1 : Nat) : Int), acc ++ [v]) := by
    intro l i acc w v e1 e2 e3 e4
    have hi : i < 4 := by have := (List.getElem?_eq_some_iff.1 e1).1; simpa using this
    rw [octets_GetAll.l0.eq_1]
    have hc : decide ((i : Int) < lenc c_i64 [1, 3, 3, 2]) = true := decide_eq_true (by rw [lenc_eq]; simp; omega)
    simp only [hc, if_true, at_ok e1, Option.bind_eq_bind, Option.bind_some, e2]
    rw [if_neg (by decide), room_ok (by simp; omega), cut_all (by rw [lenc_eq]) e3]
    simp only [Option.bind_some]
    rw [w64 (by omega) (by omega)]
    rfl
  have hl : octets_GetAll.l0 [1, 3, 3, 2] (b0 :: b1 :: b2 :: b3 :: b4 :: b5 :: b6 :: b7 :: b8 :: r, 0, []) = some (.go (r, [b0, b1 * 65536 + b2 * 256 + b3, b4 * 65536 + b5 * 256 + b6, b7 * 256 + b8])) := by
    refine (step _ 0 [] 1 _ rfl (get1 b0 _ h0) (by simp) (by simp)).trans ?_
    refine (step _ 1 _ 3 _ rfl (get3 b1 b2 b3 _ h1 h2 h3) (by simp) (by simp)).trans ?_
    refine (step _ 2 _ 3 _ rfl (get3 b4 b5 b6 _ h4 h5 h6) (by simp) (by simp)).trans ?_
    refine (step _ 3 _ 2 _ rfl (get2 b7 b8 _ h7 h8) (by simp) (by simp)).trans ?_
    rw [octets_GetAll.l0.eq_1]
    rfl
  unfold octets_GetAll
  rw [hl]
  simp only [Option.bind_eq_bind, Option.bind_some]
  rw [lenc_eq, lenc_eq, w64 (by simp; omega) (by simp; omega)]
  simp only [List.length_cons]
  congr 2
  omega
/-! ### The checksum -/
def raw : Bool → List Int → Int
  | _, [] => 0
  | e, x :: r => (bif e then x * 256 else x) + raw (!e) r
theorem raw_nn : ∀ (e : Bool) (l : List Int), By l → 0 ≤ raw e l
  | _, [], _ => by simp [raw]
  | e, x :: r, h => by
    have h1 := h x List.mem_cons_self
    have h2 := raw_nn (!e) r (fun y hy => h y (List.mem_cons_of_mem _ hy))
    unfold raw
    cases e <;> simp only [cond_true, cond_false] <;> omega
theorem raw_le : ∀ (e : Bool) (l : List Int), By l → raw e l ≤ 65280 * l.length
  | _, [], _ => by simp [raw]
  | e, x :: r, h => by
    have h1 := h x List.mem_cons_self
    have h2 := raw_le (!e) r (fun y hy => h y (List.mem_cons_of_mem _ hy))
    unfold raw
    simp only [List.length_cons]
    cases e <;> simp only [cond_true, cond_false] <;> omega
/-- Is a place even? -/
def ev (i : Nat) : Bool := i % 2 == 0
theorem ev_succ (i : Nat) : ev (i + 1) = !ev i := by
  unfold ev
  have : i % 2 = 0 ∨ i % 2 = 1 := by omega
  rcases this with h | h
  · rw [show (i + 1) % 2 = 1 by omega, h]; rfl
  · rw [show (i + 1) % 2 = 0 by omega, h]; rfl
theorem sum_l2 {f : List Int → Int × Int → Option Int} (hf : ∀ (p0 : List Int) (s3 : Int × Int), f p0 s3 = (if decide (s3.2 < (lenc c_u8 p0)) then (at_ p0 s3.2 >>= fun x11 => (nat_ (IntKind.i64.wrap (8 * ((IntKind.i64.wrap (s3.2 + 1)).tmod 2))) >>= fun x12 => f p0 (IntKind.i64.wrap (s3.1 + (shl_ .i64 (IntKind.i64.wrap x11) x12)), IntKind.i64.wrap (s3.2 + 1)))) else some s3.1)) (p : List Int) (hp : By p) (hl : p.length ≤ 1048576) :
    ∀ (k i : Nat) (a : Int), i + k = p.length → 0 ≤ a → a ≤ 65280 * i → f p (a, (i : Int)) = some (a + raw (ev i) (p.drop i)) := by
  intro k
  induction k with
  | zero =>
    intro i a hi h0 h1
    rw [hf]
    have hc : decide ((i : Int) < lenc c_u8 p) = false := decide_eq_false (by rw [lenc_eq]; omega)
    rw [List.drop_eq_nil_of_le (by omega)]
    simp only [hc, raw]
    simp
  | succ k ih =>
    intro i a hi h0 h1
    have hx : p[i]? = some (p[i]'(by omega)) := List.getElem?_eq_getElem (by omega)
    have hb := hp _ (List.mem_of_getElem? hx)
    have hd : p.drop i = p[i]'(by omega) :: p.drop (i + 1) := List.drop_eq_getElem_cons (by omega)
    rw [hf, hd]
    generalize p[i]'(by omega) = x at hx hb
    have hc : decide ((i : Int) < lenc c_u8 p) = true := decide_eq_true (by rw [lenc_eq]; omega)
    have hs : (IntKind.i64.wrap ((i : Int) + 1)) = ((i + 1 : Nat) : Int) := by rw [w64 (by omega) (by omega)]; rfl
    simp only [hc, if_true, at_ok hx, Option.bind_eq_bind, Option.bind_some, hs, raw]
    have hm : (((i + 1 : Nat) : Int)).tmod 2 = (((i + 1) % 2 : Nat) : Int) := by rw [Int.tmod_eq_emod_of_nonneg (by omega)]; omega
    rw [hm, w64 (x := 8 * _) (by omega) (by omega)]
    rw [w64 (x := x) (by omega) (by omega)]
    have hcase : i % 2 = 0 ∨ i % 2 = 1 := by omega
    rcases hcase with h2 | h2
    · have he : ev i = true := by unfold ev; rw [h2]; rfl
      have hn : nat_ (8 * (((i + 1) % 2 : Nat) : Int)) = some 8 := by rw [show (i + 1) % 2 = 1 by omega]; rfl
      have hsh : shl_ .i64 x 8 = x * 256 := by show IntKind.i64.wrap (x * 256) = _; rw [w64 (by omega) (by omega)]
      rw [hn]
      simp only [Option.bind_some, hsh]
      rw [w64 (by omega) (by omega), ih (i + 1) _ (by omega) (by omega) (by omega), ev_succ, he]
      simp only [cond_true]
      congr 1; omega
    · have he : ev i = false := by unfold ev; rw [h2]; rfl
      have hn : nat_ (8 * (((i + 1) % 2 : Nat) : Int)) = some 0 := by rw [show (i + 1) % 2 = 0 by omega]; rfl
      have hsh : shl_ .i64 x 0 = x := by show IntKind.i64.wrap (x * 1) = _; rw [w64 (by omega) (by omega)]; omega
      rw [hn]
      simp only [Option.bind_some, hsh]
      rw [w64 (by omega) (by omega), ih (i + 1) _ (by omega) (by omega) (by omega), ev_succ, he]
      simp only [cond_false]
      congr 1; omega
theorem and16 {s : Int} (h0 : 0 ≤ s) (h1 : s < 9223372036854775808) : Go.bits .and .i64 s 65535 = s % 65536 := by
  have := bits_mask .i64 63 (by decide) (fun n a b => w64 (by omega) (by simpa using b)) 16 (by decide) s h0 (by simpa using h1)
  simpa using this
theorem sum_l1 {R : Type} {c : Int → R} {f : Int → Option R} (hf : ∀ s2 : Int, f s2 = (if decide (s2 > 65535) then f (IntKind.i64.wrap ((shr_ .i64 s2 16) + (Go.bits .and .i64 s2 65535))) else some (c (IntKind.i64.wrap (65535 - s2))))) :
    ∀ (n : Nat) (s : Int), s.toNat ≤ n → 0 ≤ s → s < 1099511627776 → ∃ r, f s = some (c (65535 - r)) ∧ 0 ≤ r ∧ r ≤ 65535 ∧ r % 65535 = s % 65535 ∧ (0 < s → 0 < r) := by
  intro n
  induction n with
  | zero =>
    intro s hn h0 h1
    refine ⟨s, ?_, h0, by omega, rfl, fun h => h⟩
    rw [hf, decide_eq_false (by omega : ¬ s > 65535), w64 (x := 65535 - s) (by omega) (by omega)]
    simp
  | succ n ih =>
    intro s hn h0 h1
    by_cases h2 : s > 65535
    · obtain ⟨r, e1, e2, e3, e4, e5⟩ := ih (s / 65536 + s % 65536) (by omega) (by omega) (by omega)
      refine ⟨r, ?_, e2, e3, by omega, fun _ => e5 (by omega)⟩
      rw [hf, decide_eq_true h2, if_pos rfl, sh16, and16 h0 (by omega), w64 (by omega) (by omega), e1]
    · refine ⟨s, ?_, h0, by omega, rfl, fun h => h⟩
      rw [hf, decide_eq_false h2, w64 (x := 65535 - s) (by omega) (by omega)]
      simp
theorem sum_ok (p : List Int) (hp : By p) (hl : p.length ≤ 1048576) : ∃ r, octets_Sum p = some ⟨65535 - r⟩ ∧ 0 ≤ r ∧ r ≤ 65535 ∧ r % 65535 = raw true p % 65535 ∧ (0 < raw true p → 0 < r) := by
  have h1 := sum_l2 octets_Sum.l2.eq_1 p hp hl p.length 0 0 (by omega) (by omega) (by omega)
  have h2 := raw_le true p hp
  obtain ⟨r, e1, e2, e3, e4, e5⟩ := sum_l1 (c := octets_Sum.R.o0) octets_Sum.l1.eq_1 _ (raw true p) (Nat.le_refl _) (raw_nn _ _ hp) (by omega)
  refine ⟨r, ?_, e2, e3, e4, e5⟩
  unfold octets_Sum
  rw [show octets_Sum.l2 p (0, 0) = some (raw true p) from h1.trans (by simp [ev])]
  exact e1
theorem sum1_ok (p : List Int) (hp : By p) (hl : p.length ≤ 1048576) : ∃ r, octets_Sum_1 p = some ⟨65535 - r⟩ ∧ 0 ≤ r ∧ r ≤ 65535 ∧ r % 65535 = raw true p % 65535 ∧ (0 < raw true p → 0 < r) := by
  have h1 := sum_l2 octets_Sum_1.l2.eq_1 p hp hl p.length 0 0 (by omega) (by omega) (by omega)
  have h2 := raw_le true p hp
  obtain ⟨r, e1, e2, e3, e4, e5⟩ := sum_l1 (c := octets_Sum_1.R.o0) octets_Sum_1.l1.eq_1 _ (raw true p) (Nat.le_refl _) (raw_nn _ _ hp) (by omega)
  refine ⟨r, ?_, e2, e3, e4, e5⟩
  unfold octets_Sum_1
  rw [show octets_Sum_1.l2 p (0, 0) = some (raw true p) from h1.trans (by simp [ev])]
  exact e1
theorem raw_append : ∀ (e : Bool) (l m : List Int), raw e (l ++ m) = raw e l + raw (if l.length % 2 = 0 then e else !e) m
  | e, [], m => by simp [raw]
  | e, x :: r, m => by
    have h := raw_append (!e) r m
    simp only [List.cons_append, raw, h, List.length_cons]
    have : r.length % 2 = 0 ∨ r.length % 2 = 1 := by omega
    rcases this with h2 | h2
    · rw [if_pos h2, if_neg (by omega)]; omega
    · rw [if_neg (by omega), if_pos (by omega), Bool.not_not]; omega
/-- What is sealed adds up. -/
theorem sum_seal (p : List Int) (hp : By p) (hl : p.length ≤ 1000) (hev : p.length % 2 = 0) (h0 : 0 < raw true p) : ∃ c, octets_Sum p = some ⟨c⟩ ∧ 0 ≤ c ∧ c < 65536 ∧ octets_Sum_1 (p ++ [c / 256, c % 256]) = some ⟨0⟩ := by
  obtain ⟨r, e1, e2, e3, e4, e5⟩ := sum_ok p hp (by omega)
  have hb : By (p ++ [(65535 - r) / 256, (65535 - r) % 256]) := by
    intro x hx
    rw [List.mem_append] at hx
    rcases hx with hx | hx
    · exact hp x hx
    · simp at hx; omega
  obtain ⟨r', e1', e2', e3', e4', e5'⟩ := sum1_ok _ hb (by simp; omega)
  have hr : raw true (p ++ [(65535 - r) / 256, (65535 - r) % 256]) = raw true p + (65535 - r) := by
    rw [raw_append, if_pos hev]
    simp only [raw, cond_true, cond_false, Bool.not_true]
    omega
  have h1 := raw_nn true p hp
  have : r' = 65535 := by
    rw [hr] at e4' e5'
    have := e5' (by omega)
    omega
  refine ⟨65535 - r, e1, by omega, by omega, ?_⟩
  rw [e1', this]
  rfl
end Go.Proofs.YtjjmoihpjmojiaaDoor.X
