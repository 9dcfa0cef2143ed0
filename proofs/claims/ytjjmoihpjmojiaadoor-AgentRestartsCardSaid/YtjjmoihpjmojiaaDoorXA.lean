/- Functions of the program beside their code, part 1: each one as a plain function, and that the code does as it says. -/
import Derived.Test.YtjjmoihpjmojiaaDoorProg
import Derived.Test.YtjjmoihpjmojiaaDoorChecked
import Derived.Test.YtjjmoihpjmojiaaDoorD30
import Derived.KernelRfl
set_option maxHeartbeats 16000000
set_option linter.unusedVariables false
set_option linter.unusedSimpArgs false
namespace Go.Proofs.YtjjmoihpjmojiaaDoor.X
open Go.RowKit Go.Proofs.YtjjmoihpjmojiaaDoor.D
abbrev i64 (x : Int) : DV := .v (.int .i64 x)
abbrev i8 (x : Int) : DV := .v (.int .i8 x)
abbrev i16 (x : Int) : DV := .v (.int .i16 x)
abbrev i32 (x : Int) : DV := .v (.int .i32 x)
abbrev u8 (x : Int) : DV := .v (.int .u8 x)
abbrev u16 (x : Int) : DV := .v (.int .u16 x)
abbrev u32 (x : Int) : DV := .v (.int .u32 x)
abbrev u64 (x : Int) : DV := .v (.int .u64 x)
abbrev bo (b : Bool) : DV := .v (.bool b)
def c_i64 (x : Int) : List DV := [i64 x]
def c_i8 (x : Int) : List DV := [i8 x]
def c_i16 (x : Int) : List DV := [i16 x]
def c_i32 (x : Int) : List DV := [i32 x]
def c_u8 (x : Int) : List DV := [u8 x]
def c_u16 (x : Int) : List DV := [u16 x]
def c_u32 (x : Int) : List DV := [u32 x]
def c_u64 (x : Int) : List DV := [u64 x]
def c_bool (x : Bool) : List DV := [bo x]
def c_L {α : Type} (c : α → List DV) (l : List α) : List DV := [.sl (l.map c)]
structure Bounds where
  least : Int
  most_ : Int
  deriving Inhabited, DecidableEq
def c_Bounds (x : Bounds) : List DV := [i64 x.least, i64 x.most_]
structure Told where
  seq : Bounds
  tag : Bounds
  rule_ : Bool
  deriving Inhabited, DecidableEq
def c_Told (x : Told) : List DV := [i64 x.seq.least, i64 x.seq.most_, i64 x.tag.least, i64 x.tag.most_, bo x.rule_]
structure Prefix where
  Addr : Int
  Len : Int
  deriving Inhabited, DecidableEq
def c_Prefix (x : Prefix) : List DV := [i64 x.Addr, i64 x.Len]
structure Action where
  Kind : Int
  Port : Int
  deriving Inhabited, DecidableEq
def c_Action (x : Action) : List DV := [i64 x.Kind, i64 x.Port]
structure Rule where
  P : Prefix
  In : Int
  Prio : Int
  Act : Action
  deriving Inhabited, DecidableEq
def c_Rule (x : Rule) : List DV := [i64 x.P.Addr, i64 x.P.Len, i64 x.In, i64 x.Prio, i64 x.Act.Kind, i64 x.Act.Port]
structure Ver where
  Tag : Int
  L : (List Rule)
  deriving Inhabited, DecidableEq
def c_Ver (x : Ver) : List DV := [i64 x.Tag, .sl (x.L.map c_Rule)]
structure Switch where
  Epoch : Int
  Seen : Int
  Open : Bool
  Stamp : Int
  Bad : Int
  L : (List Ver)
  Junk : Int
  deriving Inhabited, DecidableEq
def c_Switch (x : Switch) : List DV := [i64 x.Epoch, i64 x.Seen, bo x.Open, i64 x.Stamp, i64 x.Bad, .sl (x.L.map c_Ver), i64 x.Junk]
structure Msg where
  Kind : Int
  Epoch : Int
  Seq : Int
  Tag : Int
  R : Rule
  deriving Inhabited, DecidableEq
def c_Msg (x : Msg) : List DV := [i64 x.Kind, i64 x.Epoch, i64 x.Seq, i64 x.Tag, i64 x.R.P.Addr, i64 x.R.P.Len, i64 x.R.In, i64 x.R.Prio, i64 x.R.Act.Kind, i64 x.R.Act.Port]
structure Worker where
  Switch : Switch
  room : Int
  deriving Inhabited, DecidableEq
def c_Worker (x : Worker) : List DV := [i64 x.Switch.Epoch, i64 x.Switch.Seen, bo x.Switch.Open, i64 x.Switch.Stamp, i64 x.Switch.Bad, .sl (x.Switch.L.map c_Ver), i64 x.Switch.Junk, i64 x.room]
def kindsT : List Told := [(Told.mk (Bounds.mk 0 0) (Bounds.mk 0 0) false), (Told.mk (Bounds.mk 0 1048576) (Bounds.mk 0 4095) false), (Told.mk (Bounds.mk 1 1048576) (Bounds.mk 1 4095) true), (Told.mk (Bounds.mk 1 1048576) (Bounds.mk 1 4095) false), (Told.mk (Bounds.mk 1 1048576) (Bounds.mk 1 4095) false), (Told.mk (Bounds.mk 1 1048576) (Bounds.mk 0 0) false)]
def τ : List (Nat × TR) := [(3, ⟨.int .i64, 1, some [.int .i64 0]⟩),
  (4, ⟨.bool, 1, some [.bool false]⟩),
  (5, ⟨.int .u8, 1, some [.int .u8 0]⟩),
  (22, ⟨.slice 58, 1, some [.slice none 0 0]⟩),
  (24, ⟨.struct [(0, 1, false), (1, 1, false), (2, 1, false), (3, 1, false), (4, 1, false), (5, 1, false), (6, 1, false)], 7, some [.int .i64 0, .int .i64 0, .bool false, .int .i64 0, .int .i64 0, .slice none 0 0, .int .i64 0]⟩),
  (26, ⟨.struct [(0, 1, false), (1, 1, false)], 2, some [.int .i64 0, .int .i64 0]⟩),
  (28, ⟨.struct [(0, 1, false), (1, 1, false)], 2, some [.int .i64 0, .int .i64 0]⟩),
  (30, ⟨.struct [(0, 2, true), (2, 1, false), (3, 1, false), (4, 2, true)], 6, some [.int .i64 0, .int .i64 0, .int .i64 0, .int .i64 0, .int .i64 0, .int .i64 0]⟩),
  (32, ⟨.struct [(0, 1, false), (1, 1, false), (2, 1, false), (3, 1, false), (4, 6, true)], 10, some [.int .i64 0, .int .i64 0, .int .i64 0, .int .i64 0, .int .i64 0, .int .i64 0, .int .i64 0, .int .i64 0, .int .i64 0, .int .i64 0]⟩),
  (36, ⟨.slice 5, 1, some [.slice none 0 0]⟩),
  (37, ⟨.int .i64, 1, some [.int .i64 0]⟩),
  (40, ⟨.slice 36, 1, some [.slice none 0 0]⟩),
  (56, ⟨.slice 30, 1, some [.slice none 0 0]⟩),
  (58, ⟨.struct [(0, 1, false), (1, 1, false)], 2, some [.int .i64 0, .slice none 0 0]⟩),
  (66, ⟨.slice 3, 1, some [.slice none 0 0]⟩),
  (89, ⟨.struct [(0, 7, true), (7, 1, false)], 8, some [.int .i64 0, .int .i64 0, .bool false, .int .i64 0, .int .i64 0, .slice none 0 0, .int .i64 0, .int .i64 0]⟩),
  (140, ⟨.other, 1, some [.nilFunc]⟩),
  (142, ⟨.other, 1, some [.nilFunc]⟩),
  (143, ⟨.slice 142, 1, some [.slice none 0 0]⟩),
  (146, ⟨.struct [(0, 1, false), (1, 1, false)], 2, some [.int .i64 0, .int .i64 0]⟩),
  (148, ⟨.struct [(0, 2, true), (2, 2, true), (4, 1, false)], 5, some [.int .i64 0, .int .i64 0, .int .i64 0, .int .i64 0, .bool false]⟩),
  (149, ⟨.arr 6 148, 30, some [.int .i64 0, .int .i64 0, .int .i64 0, .int .i64 0, .bool false, .int .i64 0, .int .i64 0, .int .i64 0, .int .i64 0, .bool false, .int .i64 0, .int .i64 0, .int .i64 0, .int .i64 0, .bool false, .int .i64 0, .int .i64 0, .int .i64 0, .int .i64 0, .bool false, .int .i64 0, .int .i64 0, .int .i64 0, .int .i64 0, .bool false, .int .i64 0, .int .i64 0, .int .i64 0, .int .i64 0, .bool false]⟩),
  (189, ⟨.int .u64, 1, some [.int .u64 0]⟩),
  (190, ⟨.int .u32, 1, some [.int .u32 0]⟩)]
set_option maxRecDepth 100000 in
theorem hτ : Tab Tryd.prog τ := Tab.cons (ok_of (by kernel_rfl) (isz (.int .i64 0) (by kernel_rfl) rfl)) <| 
  Tab.cons (ok_of (by kernel_rfl) (isz (.bool false) (by kernel_rfl) rfl)) <| 
  Tab.cons (ok_of (by kernel_rfl) (isz (.int .u8 0) (by kernel_rfl) rfl)) <| 
  Tab.cons (ok_of (by kernel_rfl) (isz (.slice none 0 0) (by kernel_rfl) rfl)) <| 
  Tab.cons (ok_of (by kernel_rfl) (isz (.agg #[.int .i64 0, .int .i64 0, .bool false, .int .i64 0, .int .i64 0, .slice none 0 0, .int .i64 0]) (by kernel_rfl) rfl)) <| 
  Tab.cons (ok_of (by kernel_rfl) (isz (.agg #[.int .i64 0, .int .i64 0]) (by kernel_rfl) rfl)) <| 
  Tab.cons (ok_of (by kernel_rfl) (isz (.agg #[.int .i64 0, .int .i64 0]) (by kernel_rfl) rfl)) <| 
  Tab.cons (ok_of (by kernel_rfl) (isz (.agg #[.int .i64 0, .int .i64 0, .int .i64 0, .int .i64 0, .int .i64 0, .int .i64 0]) (by kernel_rfl) rfl)) <| 
  Tab.cons (ok_of (by kernel_rfl) (isz (.agg #[.int .i64 0, .int .i64 0, .int .i64 0, .int .i64 0, .int .i64 0, .int .i64 0, .int .i64 0, .int .i64 0, .int .i64 0, .int .i64 0]) (by kernel_rfl) rfl)) <| 
  Tab.cons (ok_of (by kernel_rfl) (isz (.slice none 0 0) (by kernel_rfl) rfl)) <| 
  Tab.cons (ok_of (by kernel_rfl) (isz (.int .i64 0) (by kernel_rfl) rfl)) <| 
  Tab.cons (ok_of (by kernel_rfl) (isz (.slice none 0 0) (by kernel_rfl) rfl)) <| 
  Tab.cons (ok_of (by kernel_rfl) (isz (.slice none 0 0) (by kernel_rfl) rfl)) <| 
  Tab.cons (ok_of (by kernel_rfl) (isz (.agg #[.int .i64 0, .slice none 0 0]) (by kernel_rfl) rfl)) <| 
  Tab.cons (ok_of (by kernel_rfl) (isz (.slice none 0 0) (by kernel_rfl) rfl)) <| 
  Tab.cons (ok_of (by kernel_rfl) (isz (.agg #[.int .i64 0, .int .i64 0, .bool false, .int .i64 0, .int .i64 0, .slice none 0 0, .int .i64 0, .int .i64 0]) (by kernel_rfl) rfl)) <| 
  Tab.cons (ok_of (by kernel_rfl) (isz (.nilFunc) (by kernel_rfl) rfl)) <| 
  Tab.cons (ok_of (by kernel_rfl) (isz (.nilFunc) (by kernel_rfl) rfl)) <| 
  Tab.cons (ok_of (by kernel_rfl) (isz (.slice none 0 0) (by kernel_rfl) rfl)) <| 
  Tab.cons (ok_of (by kernel_rfl) (isz (.agg #[.int .i64 0, .int .i64 0]) (by kernel_rfl) rfl)) <| 
  Tab.cons (ok_of (by kernel_rfl) (isz (.agg #[.int .i64 0, .int .i64 0, .int .i64 0, .int .i64 0, .bool false]) (by kernel_rfl) rfl)) <| 
  Tab.cons (ok_of (by kernel_rfl) (isz (.agg #[.int .i64 0, .int .i64 0, .int .i64 0, .int .i64 0, .bool false, .int .i64 0, .int .i64 0, .int .i64 0, .int .i64 0, .bool false, .int .i64 0, .int .i64 0, .int .i64 0, .int .i64 0, .bool false, .int .i64 0, .int .i64 0, .int .i64 0, .int .i64 0, .bool false, .int .i64 0, .int .i64 0, .int .i64 0, .int .i64 0, .bool false, .int .i64 0, .int .i64 0, .int .i64 0, .int .i64 0, .bool false]) (by kernel_rfl) rfl)) <| 
  Tab.cons (ok_of (by kernel_rfl) (isz (.int .u64 0) (by kernel_rfl) rfl)) <| 
  Tab.cons (ok_of (by kernel_rfl) (isz (.int .u32 0) (by kernel_rfl) rfl)) <| Tab.nil
theorem mixed : Tryd.prog.follows .mixedOrders = true := by kernel_rfl
theorem mapT92 : MapT Tryd.prog 92 3 90 .i64 := ⟨by kernel_rfl, by kernel_rfl⟩
theorem zero90 : (Tryd.prog.info? 90).bind (·.zero) = some (.nilFunc) := by kernel_rfl
theorem by3 : (Tryd.prog.info? 3).map (·.bytes) = some 8 := by kernel_rfl
theorem by5 : (Tryd.prog.info? 5).map (·.bytes) = some 1 := by kernel_rfl
theorem by30 : (Tryd.prog.info? 30).map (·.bytes) = some 48 := by kernel_rfl
theorem by58 : (Tryd.prog.info? 58).map (·.bytes) = some 32 := by kernel_rfl
theorem eqA28 : EqOk Tryd.prog 28 [some .i64, some .i64] := eq_of (by kernel_rfl) (by kernel_rfl) (by kernel_rfl)
theorem eqA30 : EqOk Tryd.prog 30 [some .i64, some .i64, some .i64, some .i64, some .i64, some .i64] := eq_of (by kernel_rfl) (by kernel_rfl) (by kernel_rfl)
theorem eqA32 : EqOk Tryd.prog 32 [some .i64, some .i64, some .i64, some .i64, some .i64, some .i64, some .i64, some .i64, some .i64, some .i64] := eq_of (by kernel_rfl) (by kernel_rfl) (by kernel_rfl)
/-! ### wayfinder/bits.bound -/
structure bits_bound.R where
  o0 ::
  y0 : Int
  deriving Inhabited
def bits_bound.rd (p0 : Int) (r : bits_bound.R) : DV := i64 r.y0
def bits_bound.rh (p0 : Int) (r : bits_bound.R) : Hp := []
def bits_bound (p0 : Int) : Option bits_bound.R := some (bits_bound.R.o0 (mn (mx p0 0) 32))
theorem fn132 : Go.Proofs.YtjjmoihpjmojiaaDoor.D.Fn Tryd.prog 132 := ⟨Tryd.f132, Tryd.func132, by kernel_rfl, rfl⟩
set_option maxRecDepth 100000 in
theorem bits_bound.ok (p0 : Int) (r : bits_bound.R) (hH : bits_bound p0 = some r) : Con Tryd.prog 132 [i64 p0] [] (bits_bound.rd p0 r) (bits_bound.rh p0 r) := by
  refine con_of Tryd.f132 6 (c := _) Tryd.func132 rfl rfl rfl ?_
  intro w a ν X h
  unfold bits_bound at hH
  refine k_reg ?_
  refine pures [0] hτ h rfl ?_
  intro a h
  refine k_end ?_
  refine k_reg ?_
  refine pures [0, 0, 0, 0] hτ h rfl ?_
  intro a h
  refine k_end ?_
  refine wp_ret ?_
  cases hH
  exact r_ret hτ [] h rfl rfl rfl
/-! ### wayfinder/bits.Mask -/
structure bits_Mask.R where
  o0 ::
  y0 : Int
  deriving Inhabited
def bits_Mask.rd (p0 : Int) (r : bits_Mask.R) : DV := i64 r.y0
def bits_Mask.rh (p0 : Int) (r : bits_Mask.R) : Hp := []
def bits_Mask (p0 : Int) : Option bits_Mask.R := (bits_bound p0 >>= fun q1 => match q1 with | .o0 x2 => (nat_ (IntKind.i64.wrap (32 - x2)) >>= fun x3 => some (bits_Mask.R.o0 (IntKind.i64.wrap (IntKind.u32.wrap (shl_ .u64 4294967295 x3))))))
theorem fn100 : Go.Proofs.YtjjmoihpjmojiaaDoor.D.Fn Tryd.prog 100 := ⟨Tryd.f100, Tryd.func100, by kernel_rfl, rfl⟩
set_option maxRecDepth 100000 in
theorem bits_Mask.ok (p0 : Int) (r : bits_Mask.R) (hH : bits_Mask p0 = some r) : Con Tryd.prog 100 [i64 p0] [] (bits_Mask.rd p0 r) (bits_Mask.rh p0 r) := by
  refine con_of Tryd.f100 11 (c := _) Tryd.func100 rfl rfl rfl ?_
  intro w a ν X h
  unfold bits_Mask at hH
  refine k_reg ?_
  refine pures [0] hτ h rfl ?_
  intro a h
  refine k_end ?_
  refine k_reg ?_
  refine pures [0] hτ h rfl ?_
  intro a h
  obtain ⟨q1, hq1, hH⟩ := bnd hH
  obtain ⟨x2⟩ := q1
  refine s_call1 fn132 (bits_bound.ok p0 _ hq1) [] h (wanted_none rfl) rfl rfl rfl rfl rfl ?_
  intro a w ν h
  refine pures [0] hτ h rfl ?_
  intro a h
  obtain ⟨x3, hx3, hH⟩ := bnd hH
  refine s_pv0 h [] (wanted_none rfl) rfl rfl (p_of0 rfl fun w a ν X hO hF hg => e_sh hF hO hg rfl (of_nat hx3) rfl) ?_
  intro a w ν h
  refine pures [0] hτ h rfl ?_
  intro a h
  refine k_end ?_
  refine k_reg ?_
  refine pures [0, 0, 0, 0] hτ h rfl ?_
  intro a h
  refine k_end ?_
  refine wp_ret ?_
  cases hH
  exact r_ret hτ [] h rfl rfl rfl
/-! ### wayfinder/bits.May -/
structure bits_May.R where
  o0 ::
  y0 : Bool
  deriving Inhabited
def bits_May.rd (p0 : Prefix) (r : bits_May.R) : DV := bo r.y0
def bits_May.rh (p0 : Prefix) (r : bits_May.R) : Hp := []
def bits_May (p0 : Prefix) : Option bits_May.R := (gd ((((decide (p0.Len ≥ 0)) && (decide (p0.Len ≤ 32))) && (decide (p0.Addr ≥ 0))) && (decide (p0.Addr ≤ 4294967295))) (bits_Mask p0.Len) default >>= fun x1 => some (bits_May.R.o0 (((((decide (p0.Len ≥ 0)) && (decide (p0.Len ≤ 32))) && (decide (p0.Addr ≥ 0))) && (decide (p0.Addr ≤ 4294967295))) && ((Go.bits .andNot .i64 p0.Addr x1.y0) == 0))))
theorem fn54 : Go.Proofs.YtjjmoihpjmojiaaDoor.D.Fn Tryd.prog 54 := ⟨Tryd.f54, Tryd.func54, by kernel_rfl, rfl⟩
set_option maxRecDepth 100000 in
theorem bits_May.ok (p0 : Prefix) (r : bits_May.R) (hH : bits_May p0 = some r) : Con Tryd.prog 54 [.agg [i64 p0.Addr, i64 p0.Len]] [] (bits_May.rd p0 r) (bits_May.rh p0 r) := by
  refine con_of Tryd.f54 30 (c := _) Tryd.func54 rfl rfl rfl ?_
  intro w a ν X h
  unfold bits_May at hH
  refine k_reg ?_
  refine s_new h (wanted_none rfl) rfl rfl (e_box (r := 7101) (g := none) h.f h.o rfl trivial rfl rfl) ?_
  intro a w ν h
  refine pures [0] hτ h rfl ?_
  intro a h
  refine k_end ?_
  refine k_seq ?_
  refine k_any mixed h ?_
  intro w ν h
  have h : St _ [(1, none, .ptr 7101 0), (2, none, bo false)] [(7101, .blk 26 [i64 p0.Addr, i64 p0.Len])] _ w a ν := h.pickG [1, 2] [7101] (by kernel_rfl) (by kernel_rfl) (by kernel_rfl)
  refine mid_any (fs := [⟨some (3, none, .ptr 7101 1), [], []⟩, ⟨some (4, none, i64 p0.Len), [], []⟩, ⟨some (5, none, bo (decide (p0.Len ≥ 0))), [], []⟩, ⟨some (6, none, bo (decide (p0.Len ≥ 0))), [], []⟩, ⟨some (7, (some (6, true)), .ptr 7101 1), [], []⟩, ⟨some (8, (some (6, true)), i64 p0.Len), [], []⟩, ⟨some (9, (some (6, true)), bo (decide (p0.Len ≤ 32))), [], []⟩, ⟨some (10, none, bo ((decide (p0.Len ≥ 0)) && (decide (p0.Len ≤ 32)))), [], []⟩, ⟨some (11, none, bo ((decide (p0.Len ≥ 0)) && (decide (p0.Len ≤ 32)))), [], []⟩, ⟨some (12, (some (11, true)), .ptr 7101 0), [], []⟩, ⟨some (13, (some (11, true)), i64 p0.Addr), [], []⟩, ⟨some (14, (some (11, true)), bo (decide (p0.Addr ≥ 0))), [], []⟩]) 0 [([], []), ([0], [7101]), ([1, 0], []), ([2, 0, 1], []), ([3], []), ([4, 3], [7101]), ([5, 3, 4], []), ([3, 6, 0, 1, 2, 4, 5], []), ([7, 0, 1, 2, 3, 4, 5, 6], []), ([8], []), ([9, 8], [7101]), ([10, 8, 9], [])] (by kernel_rfl) h (by kernel_rfl) ⟨ok_plain rfl (p_pure hτ (by kernel_rfl)), ok_plain rfl (p_pure hτ (by kernel_rfl)), ok_plain rfl (p_pure hτ (by kernel_rfl)), ok_plain rfl (p_pure hτ (by kernel_rfl)), ok_gd (b := decide (p0.Len ≥ 0)) rfl (by kernel_rfl) (by kernel_rfl) (fun hbu => p_pure hτ (by kernel_rfl)), ok_gd (b := decide (p0.Len ≥ 0)) rfl (by kernel_rfl) (by kernel_rfl) (fun hbu => p_pure hτ (by kernel_rfl)), ok_gd (b := decide (p0.Len ≥ 0)) rfl (by kernel_rfl) (by kernel_rfl) (fun hbu => p_pure hτ (by kernel_rfl)), ok_plain rfl (p_pure hτ (by kernel_rfl)), ok_plain rfl (p_pure hτ (by kernel_rfl)), ok_gd (b := ((decide (p0.Len ≥ 0)) && (decide (p0.Len ≤ 32)))) rfl (by kernel_rfl) (by kernel_rfl) (fun hbu => p_pure hτ (by kernel_rfl)), ok_gd (b := ((decide (p0.Len ≥ 0)) && (decide (p0.Len ≤ 32)))) rfl (by kernel_rfl) (by kernel_rfl) (fun hbu => p_pure hτ (by kernel_rfl)), ok_gd (b := ((decide (p0.Len ≥ 0)) && (decide (p0.Len ≤ 32)))) rfl (by kernel_rfl) (by kernel_rfl) (fun hbu => p_pure hτ (by kernel_rfl)), trivial⟩ ?_
  intro a w ν h
  obtain ⟨x1, hx1, hH⟩ := bnd hH
  have h : St _ [(1, none, .ptr 7101 0), (2, none, bo false), (11, none, bo ((decide (p0.Len ≥ 0)) && (decide (p0.Len ≤ 32)))), (14, some (11, true), bo (decide (p0.Addr ≥ 0)))] [(7101, .blk 26 [i64 p0.Addr, i64 p0.Len])] _ w a ν := h.pickG [1, 2, 11, 14] [7101] (by kernel_rfl) (by kernel_rfl) (by kernel_rfl)
  refine mid_any (fs := [⟨some (15, none, bo (((decide (p0.Len ≥ 0)) && (decide (p0.Len ≤ 32))) && (decide (p0.Addr ≥ 0)))), [], []⟩, ⟨some (16, none, bo (((decide (p0.Len ≥ 0)) && (decide (p0.Len ≤ 32))) && (decide (p0.Addr ≥ 0)))), [], []⟩, ⟨some (17, (some (16, true)), .ptr 7101 0), [], []⟩, ⟨some (18, (some (16, true)), i64 p0.Addr), [], []⟩, ⟨some (19, (some (16, true)), bo (decide (p0.Addr ≤ 4294967295))), [], []⟩, ⟨some (20, none, bo ((((decide (p0.Len ≥ 0)) && (decide (p0.Len ≤ 32))) && (decide (p0.Addr ≥ 0))) && (decide (p0.Addr ≤ 4294967295)))), [], []⟩, ⟨some (21, none, bo ((((decide (p0.Len ≥ 0)) && (decide (p0.Len ≤ 32))) && (decide (p0.Addr ≥ 0))) && (decide (p0.Addr ≤ 4294967295)))), [], []⟩, ⟨some (22, (some (21, true)), .ptr 7101 0), [], []⟩, ⟨some (23, (some (21, true)), i64 p0.Addr), [], []⟩, ⟨some (24, (some (21, true)), .ptr 7101 1), [], []⟩, ⟨some (25, (some (21, true)), i64 p0.Len), [], []⟩, ⟨some (26, (some (21, true)), i64 x1.y0), [], []⟩]) 12 [([], []), ([12], []), ([13], []), ([14, 13], [7101]), ([15, 13, 14], []), ([13, 16, 12, 14, 15], []), ([17, 12, 13, 14, 15, 16], []), ([18, 12, 13, 14, 15, 16, 17], []), ([19, 18, 12, 13, 14, 15, 16, 17], [7101]), ([18], []), ([21, 18], [7101]), ([22, 18, 18, 21], [])] (by kernel_rfl) h (by kernel_rfl) ⟨ok_plain rfl (p_pure hτ (by kernel_rfl)), ok_plain rfl (p_pure hτ (by kernel_rfl)), ok_gd (b := (((decide (p0.Len ≥ 0)) && (decide (p0.Len ≤ 32))) && (decide (p0.Addr ≥ 0)))) rfl (by kernel_rfl) (by kernel_rfl) (fun hbu => p_pure hτ (by kernel_rfl)), ok_gd (b := (((decide (p0.Len ≥ 0)) && (decide (p0.Len ≤ 32))) && (decide (p0.Addr ≥ 0)))) rfl (by kernel_rfl) (by kernel_rfl) (fun hbu => p_pure hτ (by kernel_rfl)), ok_gd (b := (((decide (p0.Len ≥ 0)) && (decide (p0.Len ≤ 32))) && (decide (p0.Addr ≥ 0)))) rfl (by kernel_rfl) (by kernel_rfl) (fun hbu => p_pure hτ (by kernel_rfl)), ok_plain rfl (p_pure hτ (by kernel_rfl)), ok_plain rfl (p_pure hτ (by kernel_rfl)), ok_gd (b := ((((decide (p0.Len ≥ 0)) && (decide (p0.Len ≤ 32))) && (decide (p0.Addr ≥ 0))) && (decide (p0.Addr ≤ 4294967295)))) rfl (by kernel_rfl) (by kernel_rfl) (fun hbu => p_pure hτ (by kernel_rfl)), ok_gd (b := ((((decide (p0.Len ≥ 0)) && (decide (p0.Len ≤ 32))) && (decide (p0.Addr ≥ 0))) && (decide (p0.Addr ≤ 4294967295)))) rfl (by kernel_rfl) (by kernel_rfl) (fun hbu => p_pure hτ (by kernel_rfl)), ok_gd (b := ((((decide (p0.Len ≥ 0)) && (decide (p0.Len ≤ 32))) && (decide (p0.Addr ≥ 0))) && (decide (p0.Addr ≤ 4294967295)))) rfl (by kernel_rfl) (by kernel_rfl) (fun hbu => p_pure hτ (by kernel_rfl)), ok_gd (b := ((((decide (p0.Len ≥ 0)) && (decide (p0.Len ≤ 32))) && (decide (p0.Addr ≥ 0))) && (decide (p0.Addr ≤ 4294967295)))) rfl (by kernel_rfl) (by kernel_rfl) (fun hbu => p_pure hτ (by kernel_rfl)), ok_gd (b := ((((decide (p0.Len ≥ 0)) && (decide (p0.Len ≤ 32))) && (decide (p0.Addr ≥ 0))) && (decide (p0.Addr ≤ 4294967295)))) rfl (by kernel_rfl) (by kernel_rfl) (fun hbu => p_call1 (ds0 := [i64 p0.Len]) fn100 (bits_Mask.ok p0.Len _ ((of_gd hx1).1 (by first | exact hbu | exact nt_ hbu))) [] (by kernel_rfl) (by kernel_rfl) (by kernel_rfl)), trivial⟩ ?_
  intro a w ν h
  have h : St _ [(2, none, bo false), (21, none, bo ((((decide (p0.Len ≥ 0)) && (decide (p0.Len ≤ 32))) && (decide (p0.Addr ≥ 0))) && (decide (p0.Addr ≤ 4294967295)))), (23, some (21, true), i64 p0.Addr), (26, some (21, true), i64 x1.y0)] [(7101, .blk 26 [i64 p0.Addr, i64 p0.Len])] _ w a ν := h.pickG [2, 21, 23, 26] [7101] (by kernel_rfl) (by kernel_rfl) (by kernel_rfl)
  refine mid_list 24 (by kernel_rfl) (by kernel_rfl) ?_
  refine pures [1, 1, 0, 0] hτ h rfl ?_
  intro a h
  refine k_end1 ?_
  refine t_then ?_
  refine wp_ret ?_
  cases hH
  exact r_ret hτ [] h rfl rfl rfl
/-! ### wayfinder/rule.May -/
structure rule_May.R where
  o0 ::
  y0 : Bool
  deriving Inhabited
def rule_May.rd (p0 : Rule) (r : rule_May.R) : DV := bo r.y0
def rule_May.rh (p0 : Rule) (r : rule_May.R) : Hp := []
def rule_May (p0 : Rule) : Option rule_May.R := (gd (((p0.Act.Kind == 0) && ((p0.Act.Port == 0) && true)) || (((p0.Act.Kind == 1) && (decide (p0.Act.Port ≥ 0))) && (decide (p0.Act.Port ≤ 7)))) (bits_May p0.P) default >>= fun x1 => some (rule_May.R.o0 ((((((((p0.Act.Kind == 0) && ((p0.Act.Port == 0) && true)) || (((p0.Act.Kind == 1) && (decide (p0.Act.Port ≥ 0))) && (decide (p0.Act.Port ≤ 7)))) && x1.y0) && (decide (p0.In ≥ (-1)))) && (decide (p0.In ≤ 7))) && (decide (p0.Prio ≥ 0))) && (decide (p0.Prio ≤ 255)))))
theorem fn24 : Go.Proofs.YtjjmoihpjmojiaaDoor.D.Fn Tryd.prog 24 := ⟨Tryd.f24, Tryd.func24, by kernel_rfl, rfl⟩
set_option maxRecDepth 100000 in
theorem rule_May.ok (p0 : Rule) (r : rule_May.R) (hH : rule_May p0 = some r) : Con Tryd.prog 24 [.agg [i64 p0.P.Addr, i64 p0.P.Len, i64 p0.In, i64 p0.Prio, i64 p0.Act.Kind, i64 p0.Act.Port]] [] (rule_May.rd p0 r) (rule_May.rh p0 r) := by
  refine con_of Tryd.f24 52 (c := _) Tryd.func24 rfl rfl rfl ?_
  intro w a ν X h
  unfold rule_May at hH
  refine k_reg ?_
  refine s_new h (wanted_none rfl) rfl rfl (e_box (r := 6101) (g := none) h.f h.o rfl trivial rfl rfl) ?_
  intro a w ν h
  refine pures [0] hτ h rfl ?_
  intro a h
  refine k_end ?_
  refine k_reg ?_
  refine pures [0, 0, 0] hτ h rfl ?_
  intro a h
  refine s_pv0 h [] (wanted_none rfl) rfl rfl (p_of0 rfl fun w a ν X hO hF hg => e_eqA hF hO hg eqA28 rfl) ?_
  intro a w ν h
  refine pures [0, 1, 1, 1, 1, 1, 1, 1, 1, 1, 1, 1, 1, 1, 1, 1, 1, 0, 0] hτ h rfl ?_
  intro a h
  refine k_end ?_
  refine k_reg ?_
  refine pures [0, 0, 1, 1] hτ h rfl ?_
  intro a h
  obtain ⟨x1, hx1, hH⟩ := bnd hH
  refine s_gd h [] rfl rfl rfl rfl rfl rfl (fun hbu => p_call1 fn54 (bits_May.ok p0.P _ ((of_gd hx1).1 (by first | exact hbu | exact nt_ hbu))) [] rfl rfl rfl) ?_
  intro a w ν h
  refine pures [0, 0, 1, 1, 1, 0, 0, 1, 1, 1, 0, 0, 1, 1, 1, 0, 0, 1, 1, 1, 0, 0] hτ h rfl ?_
  intro a h
  refine k_end ?_
  refine wp_ret ?_
  cases hH
  exact r_ret hτ [] h rfl rfl rfl
/-! ### (wayfinder/msg.bounds).in -/
structure msg_bounds_in.R where
  o0 ::
  y0 : Bool
  deriving Inhabited
def msg_bounds_in.rd (p0 : Bounds) (p1 : Int) (r : msg_bounds_in.R) : DV := bo r.y0
def msg_bounds_in.rh (p0 : Bounds) (p1 : Int) (r : msg_bounds_in.R) : Hp := []
def msg_bounds_in (p0 : Bounds) (p1 : Int) : Option msg_bounds_in.R := some (msg_bounds_in.R.o0 ((decide (p1 ≥ p0.least)) && (decide (p1 ≤ p0.most_))))
theorem fn129 : Go.Proofs.YtjjmoihpjmojiaaDoor.D.Fn Tryd.prog 129 := ⟨Tryd.f129, Tryd.func129, by kernel_rfl, rfl⟩
set_option maxRecDepth 100000 in
theorem msg_bounds_in.ok (p0 : Bounds) (p1 : Int) (r : msg_bounds_in.R) (hH : msg_bounds_in p0 p1 = some r) : Con Tryd.prog 129 [.agg [i64 p0.least, i64 p0.most_], i64 p1] [] (msg_bounds_in.rd p0 p1 r) (msg_bounds_in.rh p0 p1 r) := by
  refine con_of Tryd.f129 15 (c := _) Tryd.func129 rfl rfl rfl ?_
  intro w a ν X h
  unfold msg_bounds_in at hH
  refine k_reg ?_
  refine s_new h (wanted_none rfl) rfl rfl (e_box (r := 10101) (g := none) h.f h.o rfl trivial rfl rfl) ?_
  intro a w ν h
  refine pures [0] hτ h rfl ?_
  intro a h
  refine k_end ?_
  refine k_reg ?_
  refine pures [0, 0, 0, 0, 0, 1, 1, 1, 1, 0, 0] hτ h rfl ?_
  intro a h
  refine k_end ?_
  refine wp_ret ?_
  cases hH
  exact r_ret hτ [] h rfl rfl rfl
/-! ### wayfinder/msg.May -/
structure msg_May.R where
  o0 ::
  y0 : Bool
  deriving Inhabited
def msg_May.rd (p0 : Msg) (r : msg_May.R) : DV := bo r.y0
def msg_May.rh (p0 : Msg) (r : msg_May.R) : Hp := []
def msg_May (p0 : Msg) : Option msg_May.R := (if ((decide (p0.Kind < 0)) || (decide (p0.Kind ≥ 6))) then some (msg_May.R.o0 false) else (at_ kindsT p0.Kind >>= fun x1 => (if x1.rule_ then (rule_May p0.R >>= fun q2 => match q2 with | .o0 x3 => (gd x3 (msg_bounds_in (Bounds.mk 1 1048576) p0.Epoch) default >>= fun x4 => (gd (x3 && x4.y0) (msg_bounds_in x1.seq p0.Seq) default >>= fun x5 => (gd ((x3 && x4.y0) && x5.y0) (msg_bounds_in x1.tag p0.Tag) default >>= fun x6 => some (msg_May.R.o0 (((x3 && x4.y0) && x5.y0) && x6.y0)))))) else (gd ((p0.R.P.Addr == 0) && ((p0.R.P.Len == 0) && ((p0.R.In == 0) && ((p0.R.Prio == 0) && ((p0.R.Act.Kind == 0) && ((p0.R.Act.Port == 0) && true)))))) (msg_bounds_in (Bounds.mk 1 1048576) p0.Epoch) default >>= fun x7 => (gd (((p0.R.P.Addr == 0) && ((p0.R.P.Len == 0) && ((p0.R.In == 0) && ((p0.R.Prio == 0) && ((p0.R.Act.Kind == 0) && ((p0.R.Act.Port == 0) && true)))))) && x7.y0) (msg_bounds_in x1.seq p0.Seq) default >>= fun x8 => (gd ((((p0.R.P.Addr == 0) && ((p0.R.P.Len == 0) && ((p0.R.In == 0) && ((p0.R.Prio == 0) && ((p0.R.Act.Kind == 0) && ((p0.R.Act.Port == 0) && true)))))) && x7.y0) && x8.y0) (msg_bounds_in x1.tag p0.Tag) default >>= fun x9 => some (msg_May.R.o0 (((((p0.R.P.Addr == 0) && ((p0.R.P.Len == 0) && ((p0.R.In == 0) && ((p0.R.Prio == 0) && ((p0.R.Act.Kind == 0) && ((p0.R.Act.Port == 0) && true)))))) && x7.y0) && x8.y0) && x9.y0))))))))
theorem fn87 : Go.Proofs.YtjjmoihpjmojiaaDoor.D.Fn Tryd.prog 87 := ⟨Tryd.f87, Tryd.func87, by kernel_rfl, rfl⟩
set_option maxRecDepth 100000 in
theorem msg_May.ok (p0 : Msg) (r : msg_May.R) (hH : msg_May p0 = some r) : Con Tryd.prog 87 [.agg [i64 p0.Kind, i64 p0.Epoch, i64 p0.Seq, i64 p0.Tag, i64 p0.R.P.Addr, i64 p0.R.P.Len, i64 p0.R.In, i64 p0.R.Prio, i64 p0.R.Act.Kind, i64 p0.R.Act.Port]] [] (msg_May.rd p0 r) (msg_May.rh p0 r) := by
  refine con_of Tryd.f87 47 (c := _) Tryd.func87 rfl rfl rfl ?_
  intro w a ν X h
  unfold msg_May at hH
  refine k_reg ?_
  refine s_new h (wanted_none rfl) rfl rfl (e_box (r := 5101) (g := none) h.f h.o rfl trivial rfl rfl) ?_
  intro a w ν h
  refine pures [0] hτ h rfl ?_
  intro a h
  refine k_end ?_
  refine k_seq ?_
  refine k_reg ?_
  refine pures [0, 0, 0, 0, 1, 1, 1, 0] hτ h rfl ?_
  intro a h
  refine k_end ?_
  refine k_ifH hH h rfl (fun hb hH => ?_) (fun hb hH => ?_)
  · refine k_reg ?_
    refine pures [0] hτ h rfl ?_
    intro a h
    refine k_end ?_
    refine wp_ret ?_
    cases hH
    exact r_ret hτ [] h rfl rfl rfl
  · refine k_skip ?_
    refine t_then ?_
    refine k_reg ?_
    refine pures [0, 0] hτ h rfl ?_
    intro a h
    obtain ⟨x1, hx1, hH⟩ := bnd hH
    refine s_pv0 h [] (wanted_none rfl) rfl rfl (p_of0 rfl fun w a ν X hO hF hg => e_idxG hτ hF hO hg rfl rfl rfl (at_map hx1 c_Told).1 (at_map hx1 c_Told).2) ?_
    intro a w ν h
    refine pures [0] hτ h rfl ?_
    intro a h
    refine s_new h (wanted_none rfl) rfl rfl (e_alloc (r := 5102) hτ h.o rfl rfl) ?_
    intro a w ν h
    refine s_store hτ h (wanted_none rfl) rfl rfl rfl rfl rfl ?_
    intro a w ν h
    refine k_end ?_
    refine k_reg ?_
    refine pures [0, 0, 0] hτ h rfl ?_
    intro a h
    refine s_pv0 h [] (wanted_none rfl) rfl rfl (p_of0 rfl fun w a ν X hO hF hg => e_eqA hF hO hg eqA30 rfl) ?_
    intro a w ν h
    refine pures [0] hτ h rfl ?_
    intro a h
    refine k_end ?_
    refine k_seq ?_
    refine k_reg ?_
    refine pures [0, 0] hτ h rfl ?_
    intro a h
    refine k_end ?_
    refine k_ifH hH h rfl (fun hb hH => ?_) (fun hb hH => ?_)
    · refine k_reg1 ?_
      refine pures [0, 0] hτ h rfl ?_
      intro a h
      obtain ⟨q2, hq2, hH⟩ := bnd hH
      obtain ⟨x3⟩ := q2
      refine s_call1 fn24 (rule_May.ok p0.R _ hq2) [] h (wanted_none rfl) rfl rfl rfl rfl rfl ?_
      intro a w ν h
      refine pures [0] hτ h rfl ?_
      intro a h
      refine k_end1 ?_
      refine t_then ?_
      refine k_reg ?_
      refine pures [0, 0, 1, 1, 1] hτ h rfl ?_
      intro a h
      obtain ⟨x4, hx4, hH⟩ := bnd hH
      refine s_gd h [] rfl rfl rfl rfl rfl rfl (fun hbu => p_call1 fn129 (msg_bounds_in.ok (Bounds.mk 1 1048576) p0.Epoch _ ((of_gd hx4).1 (by first | exact hbu | exact nt_ hbu))) [] rfl rfl rfl) ?_
      intro a w ν h
      refine pures [0, 0, 1, 1, 1, 1] hτ h rfl ?_
      intro a h
      obtain ⟨x5, hx5, hH⟩ := bnd hH
      refine s_gd h [] rfl rfl rfl rfl rfl rfl (fun hbu => p_call1 fn129 (msg_bounds_in.ok x1.seq p0.Seq _ ((of_gd hx5).1 (by first | exact hbu | exact nt_ hbu))) [] rfl rfl rfl) ?_
      intro a w ν h
      refine pures [0, 0, 1, 1, 1, 1] hτ h rfl ?_
      intro a h
      obtain ⟨x6, hx6, hH⟩ := bnd hH
      refine s_gd h [] rfl rfl rfl rfl rfl rfl (fun hbu => p_call1 fn129 (msg_bounds_in.ok x1.tag p0.Tag _ ((of_gd hx6).1 (by first | exact hbu | exact nt_ hbu))) [] rfl rfl rfl) ?_
      intro a w ν h
      refine pures [0, 0] hτ h rfl ?_
      intro a h
      refine k_end ?_
      refine wp_ret ?_
      cases hH
      exact r_ret hτ [] h rfl rfl rfl
    · refine k_skip ?_
      refine t_then ?_
      refine k_reg ?_
      refine pures [0, 0, 1, 1, 1] hτ h rfl ?_
      intro a h
      obtain ⟨x7, hx7, hH⟩ := bnd hH
      refine s_gd h [] rfl rfl rfl rfl rfl rfl (fun hbu => p_call1 fn129 (msg_bounds_in.ok (Bounds.mk 1 1048576) p0.Epoch _ ((of_gd hx7).1 (by first | exact hbu | exact nt_ hbu))) [] rfl rfl rfl) ?_
      intro a w ν h
      refine pures [0, 0, 1, 1, 1, 1] hτ h rfl ?_
      intro a h
      obtain ⟨x8, hx8, hH⟩ := bnd hH
      refine s_gd h [] rfl rfl rfl rfl rfl rfl (fun hbu => p_call1 fn129 (msg_bounds_in.ok x1.seq p0.Seq _ ((of_gd hx8).1 (by first | exact hbu | exact nt_ hbu))) [] rfl rfl rfl) ?_
      intro a w ν h
      refine pures [0, 0, 1, 1, 1, 1] hτ h rfl ?_
      intro a h
      obtain ⟨x9, hx9, hH⟩ := bnd hH
      refine s_gd h [] rfl rfl rfl rfl rfl rfl (fun hbu => p_call1 fn129 (msg_bounds_in.ok x1.tag p0.Tag _ ((of_gd hx9).1 (by first | exact hbu | exact nt_ hbu))) [] rfl rfl rfl) ?_
      intro a w ν h
      refine pures [0, 0] hτ h rfl ?_
      intro a h
      refine k_end ?_
      refine wp_ret ?_
      cases hH
      exact r_ret hτ [] h rfl rfl rfl
/-! ### wayfinder/octets.may -/
structure octets_may.R where
  o0 ::
  y0 : Bool
  deriving Inhabited
def octets_may.rd (p0 : Int) (r : octets_may.R) : DV := bo r.y0
def octets_may.rh (p0 : Int) (r : octets_may.R) : Hp := []
def octets_may (p0 : Int) : Option octets_may.R := some (octets_may.R.o0 ((decide (p0 ≥ 1)) && (decide (p0 ≤ 4))))
theorem fn142 : Go.Proofs.YtjjmoihpjmojiaaDoor.D.Fn Tryd.prog 142 := ⟨Tryd.f142, Tryd.func142, by kernel_rfl, rfl⟩
set_option maxRecDepth 100000 in
theorem octets_may.ok (p0 : Int) (r : octets_may.R) (hH : octets_may p0 = some r) : Con Tryd.prog 142 [i64 p0] [] (octets_may.rd p0 r) (octets_may.rh p0 r) := by
  refine con_of Tryd.f142 9 (c := _) Tryd.func142 rfl rfl rfl ?_
  intro w a ν X h
  unfold octets_may at hH
  refine k_reg ?_
  refine pures [0] hτ h rfl ?_
  intro a h
  refine k_end ?_
  refine k_reg ?_
  refine pures [0, 0, 0, 1, 1, 0, 0] hτ h rfl ?_
  intro a h
  refine k_end ?_
  refine wp_ret ?_
  cases hH
  exact r_ret hτ [] h rfl rfl rfl
/-! ### wayfinder/octets.Put -/
inductive octets_Put.R where
  | o0 (y0 : Int)
  | o1 (y0 : Int) (y1 : (List Int))
  deriving Inhabited
def octets_Put.rd (p0 : Int) (p1 : Int) : octets_Put.R → DV
  | .o0 y0 => .tup [.v (.slice none 0 0), i64 y0]
  | .o1 y0 y1 => .tup [.own 12900, i64 y0]
def octets_Put.rh (p0 : Int) (p1 : Int) : octets_Put.R → Hp
  | .o0 y0 => []
  | .o1 y0 y1 => [(12900, .row 5 1 (y1.map c_u8))]
def octets_Put.l0 (p0 : Int) (p1 : Int) (x4 : (List Int)) (s1 : Int × (List Int)) : Option ((List Int)) := (if decide (s1.1 < (lenc c_u8 x4)) then (nat_ (IntKind.i64.wrap (8 * (IntKind.i64.wrap ((IntKind.i64.wrap (p1 - 1)) - s1.1)))) >>= fun x9 => (at_ s1.2 s1.1 >>= fun x10 => octets_Put.l0 p0 p1 x4 (IntKind.i64.wrap (s1.1 + 1), (s1.2.set (s1.1 : Int).toNat (IntKind.u8.wrap (shr_ .i64 p0 x9)))))) else some s1.2)
  partial_fixpoint
def octets_Put (p0 : Int) (p1 : Int) : Option octets_Put.R := (octets_may p1 >>= fun q1 => match q1 with | .o0 x2 => (gd (!((!x2) || (decide (p0 < 0)))) (nat_ (IntKind.i64.wrap (8 * p1))) default >>= fun x3 => (if (((!x2) || (decide (p0 < 0))) || ((shr_ .i64 p0 x3) != 0)) then some (octets_Put.R.o0 1) else (make_ 1 p1 0 >>= fun x4 => (octets_Put.l0 p0 p1 x4 (0, x4) >>= fun z1 => some (octets_Put.R.o1 0 z1))))))
theorem fn130 : Go.Proofs.YtjjmoihpjmojiaaDoor.D.Fn Tryd.prog 130 := ⟨Tryd.f130, Tryd.func130, by kernel_rfl, rfl⟩
set_option maxRecDepth 100000 in
theorem octets_Put.ok (p0 : Int) (p1 : Int) (r : octets_Put.R) (hH : octets_Put p0 p1 = some r) : Con Tryd.prog 130 [i64 p0, i64 p1] [] (octets_Put.rd p0 p1 r) (octets_Put.rh p0 p1 r) := by
  refine con_of Tryd.f130 42 (c := _) Tryd.func130 rfl rfl rfl ?_
  intro w a ν X h
  unfold octets_Put at hH
  refine k_reg ?_
  refine pures [0, 0] hτ h rfl ?_
  intro a h
  refine k_end ?_
  refine k_seq ?_
  refine k_reg ?_
  refine pures [0] hτ h rfl ?_
  intro a h
  obtain ⟨q1, hq1, hH⟩ := bnd hH
  obtain ⟨x2⟩ := q1
  refine s_call1 fn142 (octets_may.ok p1 _ hq1) [] h (wanted_none rfl) rfl rfl rfl rfl rfl ?_
  intro a w ν h
  refine pures [0, 0, 1, 1, 0, 0, 1, 1, 1] hτ h rfl ?_
  intro a h
  obtain ⟨x3, hx3, hH⟩ := bnd hH
  refine s_gd h [] rfl rfl rfl rfl rfl rfl (fun hbu => p_of0 rfl fun w a ν X hO hF hg => e_sh hF hO hg rfl (of_nat ((of_gd hx3).1 (by first | exact hbu | exact nt_ hbu))) rfl) ?_
  intro a w ν h
  refine pures [1, 0] hτ h rfl ?_
  intro a h
  refine k_end ?_
  refine k_ifH hH h rfl (fun hb hH => ?_) (fun hb hH => ?_)
  · refine k_reg ?_
    refine pures [0, 0] hτ h rfl ?_
    intro a h
    refine k_end ?_
    refine wp_ret ?_
    cases hH
    exact r_ret hτ [] h rfl rfl rfl
  · refine k_skip ?_
    refine t_then ?_
    refine k_reg ?_
    refine pures [0] hτ h rfl ?_
    intro a h
    obtain ⟨x4, hx4, hH⟩ := bnd hH
    refine s_new h (wanted_none rfl) rfl rfl (e_mk (c := c_u8) (r' := 12101) (g := none) hτ h.f h.o trivial rfl rfl rfl rfl (by decide) by5 rfl rfl hx4 rfl rfl) ?_
    intro a w ν h
    refine pures [0] hτ h rfl ?_
    intro a h
    refine k_end ?_
    refine k_seq ?_
    refine k_reg ?_
    refine pures [0, 0, 0] hτ h rfl ?_
    intro a h
    refine k_end ?_
    have h := h.pick_ [0, 1, 6, 25, 26] [12101] rfl rfl rfl
    refine k_cut0 h hH (fun (z1 : (List Int)) => [(6, none, .own 12101)]) (fun (z1 : (List Int)) => [(12101, .row 5 1 (z1.map c_u8))]) (fun o ho => ?_) (fun z1 a w ν hH h => ?_)
    · refine k_blk ?_
      refine k_loopC0 (octets_Put.l0.partial_correctness p0 p1 x4) (fun (s1 : Int × (List Int)) => [(0, none, i64 p0), (1, none, i64 p1), (6, none, .own 12101), (25, none, i64 (lenc c_u8 x4)), (26, none, i64 s1.1)]) (fun (s1 : Int × (List Int)) => [(12101, .row 5 1 (s1.2.map c_u8))]) ho h ?_
      intro g s1 o hH a w ν h
      refine k_reg ?_
      refine pures [0] hτ h rfl ?_
      intro a h
      refine k_end ?_
      refine k_seq ?_
      refine k_ifH hH h rfl (fun hb hH => ?_) (fun hb hH => ?_)
      · refine k_skip ?_
        refine t_then ?_
        refine k_seq ?_
        refine k_blk ?_
        refine k_reg ?_
        refine pures [0, 0] hτ h rfl ?_
        intro a h
        refine k_end ?_
        refine k_reg1 ?_
        refine pures [0, 0, 0, 0, 0, 0, 0, 0] hτ h rfl ?_
        intro a h
        obtain ⟨x9, hx9, hH⟩ := bnd hH
        refine s_pv0 h [] (wanted_none rfl) rfl rfl (p_of0 rfl fun w a ν X hO hF hg => e_sh hF hO hg rfl (of_nat hx9) rfl) ?_
        intro a w ν h
        refine pures [0] hτ h rfl ?_
        intro a h
        obtain ⟨x10, hx10, hH⟩ := bnd hH
        have hx10_e := (at_map hx10 c_u8).2
        refine s_idxR hτ h (wanted_none rfl) rfl rfl rfl rfl (at_map hx10 c_u8).1 hx10_e ?_
        intro a w ν h
        refine s_stR (k := 0) hτ h (wanted_none rfl) rfl rfl rfl hx10_e rfl rfl rfl rfl (map_set c_u8 _ _ _) ?_
        intro a w ν h
        refine k_end1 ?_
        refine t_blk ?_
        refine t_then ?_
        refine k_reg1 ?_
        refine pures [0, 0] hτ h rfl ?_
        intro a h
        refine k_end1 ?_
        have h := h.pick_ [0, 1, 6, 25, 26] [12101] rfl rfl rfl
        exact ⟨_, _, hH, h.pick_ [0, 1, 6, 25, 26] [12101] rfl rfl rfl⟩
      · refine wp_exit ?_
        refine t_te ?_
        refine t_te ?_
        refine t_exit ?_
        have h := h.pick_ [6] [12101] rfl rfl rfl
        cases hH
        exact ⟨_, h.pick_ [6] [12101] rfl rfl rfl⟩
    · refine t_then ?_
      refine k_reg ?_
      refine pures [0, 0, 0] hτ h rfl ?_
      intro a h
      refine k_end ?_
      refine wp_ret ?_
      have h := h.sw_ 12101 12900 rfl
      cases hH
      have h := h.pick_ [4, 5] [12900] rfl rfl rfl
      exact r_ret hτ [12900] h rfl rfl rfl
/-! ### wayfinder/octets.PutAll -/
inductive octets_PutAll.R where
  | o0 (y0 : Int)
  | o1 (y0 : Int) (y1 : (List Int))
  deriving Inhabited
def octets_PutAll.rd (p0 : (List Int)) (p1 : (List Int)) : octets_PutAll.R → DV
  | .o0 y0 => .tup [.v (.slice none 0 0), i64 y0]
  | .o1 y0 y1 => .tup [.own 11900, i64 y0]
def octets_PutAll.rh (p0 : (List Int)) (p1 : (List Int)) : octets_PutAll.R → Hp
  | .o0 y0 => []
  | .o1 y0 y1 => [(11900, .row 5 1 (y1.map c_u8))]
def octets_PutAll.l0 (p0 : (List Int)) (p1 : (List Int)) (s1 : Int × (List Int)) : Option (Ou ((List Int)) octets_PutAll.R) := (if decide (s1.1 < (lenc c_i64 p0)) then (at_ p0 s1.1 >>= fun x25 => (at_ p1 s1.1 >>= fun x26 => (octets_Put x25 x26 >>= fun q27 => match q27 with | .o0 x28 => (if (x28 != 0) then some (.ret (octets_PutAll.R.o0 x28)) else (room 1 (s1.2 ++ ([] : List Int)) >>= fun x29 => octets_PutAll.l0 p0 p1 (IntKind.i64.wrap (s1.1 + 1), x29))) | .o1 x30 x31 => (if (x30 != 0) then some (.ret (octets_PutAll.R.o0 x30)) else (room 1 (s1.2 ++ x31) >>= fun x32 => octets_PutAll.l0 p0 p1 (IntKind.i64.wrap (s1.1 + 1), x32)))))) else some (.go s1.2))
  partial_fixpoint
def octets_PutAll (p0 : (List Int)) (p1 : (List Int)) : Option octets_PutAll.R := (if ((lenc c_i64 p0) != (lenc c_i64 p1)) then some (octets_PutAll.R.o0 1) else (octets_PutAll.l0 p0 p1 (0, []) >>= fun o => match o with | .ret r => some r | .go z1 => some (octets_PutAll.R.o1 0 z1)))
theorem fn88 : Go.Proofs.YtjjmoihpjmojiaaDoor.D.Fn Tryd.prog 88 := ⟨Tryd.f88, Tryd.func88, by kernel_rfl, rfl⟩
set_option maxRecDepth 100000 in
theorem octets_PutAll.ok (p0 : (List Int)) (p1 : (List Int)) (r : octets_PutAll.R) (hH : octets_PutAll p0 p1 = some r) : Con Tryd.prog 88 [.sl (p0.map c_i64), .sl (p1.map c_i64)] [] (octets_PutAll.rd p0 p1 r) (octets_PutAll.rh p0 p1 r) := by
  refine con_of Tryd.f88 40 (c := _) Tryd.func88 rfl rfl rfl ?_
  intro w a ν X h
  unfold octets_PutAll at hH
  refine k_reg ?_
  refine pures [0, 0] hτ h rfl ?_
  intro a h
  refine k_end ?_
  refine k_seq ?_
  refine k_reg ?_
  refine pures [0, 0, 0, 0, 0] hτ h rfl ?_
  intro a h
  refine k_end ?_
  refine k_ifH hH h rfl (fun hb hH => ?_) (fun hb hH => ?_)
  · refine k_reg ?_
    refine pures [0, 0] hτ h rfl ?_
    intro a h
    refine k_end ?_
    refine wp_ret ?_
    cases hH
    exact r_ret hτ [] h rfl rfl rfl
  · refine k_skip ?_
    refine t_then ?_
    refine k_reg ?_
    refine pures [0] hτ h rfl ?_
    intro a h
    refine k_end ?_
    refine k_seq ?_
    refine k_reg ?_
    refine pures [0, 0, 0] hτ h rfl ?_
    intro a h
    refine k_end ?_
    obtain ⟨ν, h⟩ := h.nilrow 6 11115 5 1 rfl rfl
    have h := h.pick_ [1, 6, 16, 17, 18] [11115] rfl rfl rfl
    have h := h.sw_ 11115 11105 rfl
    refine k_cut h hH (fun (z1 : (List Int)) => [(6, none, .own 11105)]) (fun (z1 : (List Int)) => [(11105, .row 5 1 (z1.map c_u8))]) (fun o0 ho hk0 => ?_) (fun z1 a w ν hH h => ?_)
    · refine k_blk ?_
      refine k_loopC (octets_PutAll.l0.partial_correctness p0 p1) (fun (s1 : Int × (List Int)) => [(1, none, .sl (p1.map c_i64)), (6, none, .own 11105), (16, none, .sl (p0.map c_i64)), (17, none, i64 (lenc c_i64 p0)), (18, none, i64 s1.1)]) (fun (s1 : Int × (List Int)) => [(11105, .row 5 1 (s1.2.map c_u8))]) ho hk0 h ?_
      intro g s1 o0 hH hk0 a w ν h
      refine k_reg ?_
      refine pures [0] hτ h rfl ?_
      intro a h
      refine k_end ?_
      refine k_seq ?_
      refine k_ifH hH h rfl (fun hb hH => ?_) (fun hb hH => ?_)
      · refine k_skip ?_
        refine t_then ?_
        refine k_seq ?_
        refine k_blk ?_
        refine k_reg ?_
        refine pures [0] hτ h rfl ?_
        intro a h
        obtain ⟨x25, hx25, hH⟩ := bnd hH
        refine s_idx hτ h (wanted_none rfl) rfl rfl rfl rfl (at_map hx25 c_i64).1 (at_map hx25 c_i64).2 ?_
        intro a w ν h
        refine pures [0, 0, 0] hτ h rfl ?_
        intro a h
        refine k_end ?_
        refine k_reg ?_
        refine pures [0, 0, 0] hτ h rfl ?_
        intro a h
        obtain ⟨x26, hx26, hH⟩ := bnd hH
        refine s_idx hτ h (wanted_none rfl) rfl rfl rfl rfl (at_map hx26 c_i64).1 (at_map hx26 c_i64).2 ?_
        intro a w ν h
        refine pures [0] hτ h rfl ?_
        intro a h
        obtain ⟨q27, hq27, hH⟩ := bnd hH
        cases q27 with
        | o0 x28 =>
          refine s_call1 fn130 (octets_Put.ok x25 x26 _ hq27) [] h (wanted_none rfl) rfl rfl rfl rfl rfl ?_
          intro a w ν h
          refine pures [0, 0, 0, 0, 0] hτ h rfl ?_
          intro a h
          refine k_end ?_
          refine k_seq ?_
          refine k_reg ?_
          refine pures [0, 0] hτ h rfl ?_
          intro a h
          refine k_end ?_
          refine k_ifH hH h rfl (fun hb hH => ?_) (fun hb hH => ?_)
          · refine k_reg ?_
            refine pures [0, 0, 0] hτ h rfl ?_
            intro a h
            refine k_end ?_
            refine wp_ret ?_
            cases hH
            cases Kp.out hk0
            exact r_ret hτ [] h rfl rfl rfl
          · refine k_skip ?_
            refine t_then ?_
            refine k_reg1 ?_
            refine pures [0, 0] hτ h rfl ?_
            intro a h
            obtain ⟨x29, hx29, hH⟩ := bnd hH
            refine s_app4 (l0 := s1.2) (m := ([] : List Int)) (c := c_u8) [11105] [] 11112 hτ h (wanted_none rfl) rfl rfl rfl rfl rfl rfl (by decide) by5 rfl ⟨rfl, rfl⟩ (.nil) rfl hx29 rfl ?_
            intro a w ν h
            refine pures [0] hτ h rfl ?_
            intro a h
            refine k_end1 ?_
            refine t_blk ?_
            refine t_then ?_
            refine k_reg1 ?_
            refine pures [0, 0] hτ h rfl ?_
            intro a h
            refine k_end1 ?_
            have h := h.pick_ [1, 6, 16, 17, 18] [11112] rfl rfl rfl
            have h := h.sw_ 11112 11105 rfl
            exact ⟨_, _, hH, h.pick_ [1, 6, 16, 17, 18] [11105] rfl rfl rfl⟩
        | o1 x30 x31 =>
          refine s_call fn130 ((octets_Put.ok x25 x26 _ hq27).sw_ 12900 11113) [] [11113] [] h (wanted_none rfl) rfl rfl rfl rfl rfl rfl ?_
          intro a w ν h
          refine pures [0, 0, 0, 0, 0] hτ h rfl ?_
          intro a h
          refine k_end ?_
          refine k_seq ?_
          refine k_reg ?_
          refine pures [0, 0] hτ h rfl ?_
          intro a h
          refine k_end ?_
          refine k_ifH hH h rfl (fun hb hH => ?_) (fun hb hH => ?_)
          · refine k_reg ?_
            refine pures [0, 0, 0] hτ h rfl ?_
            intro a h
            refine k_end ?_
            refine wp_ret ?_
            cases hH
            cases Kp.out hk0
            exact r_ret hτ [] h rfl rfl rfl
          · refine k_skip ?_
            refine t_then ?_
            refine k_reg1 ?_
            refine pures [0, 0] hτ h rfl ?_
            intro a h
            obtain ⟨x32, hx32, hH⟩ := bnd hH
            refine s_app4 (l0 := s1.2) (m := x31) (c := c_u8) [11105] [] 11114 hτ h (wanted_none rfl) rfl rfl rfl rfl rfl rfl (by decide) by5 rfl ⟨rfl, rfl⟩ (.keep 11113 _ rfl (map_pls (fun _ => rfl))) rfl hx32 rfl ?_
            intro a w ν h
            refine pures [0] hτ h rfl ?_
            intro a h
            refine k_end1 ?_
            refine t_blk ?_
            refine t_then ?_
            refine k_reg1 ?_
            refine pures [0, 0] hτ h rfl ?_
            intro a h
            refine k_end1 ?_
            have h := h.pick_ [1, 6, 16, 17, 18] [11114] rfl rfl rfl
            have h := h.sw_ 11114 11105 rfl
            exact ⟨_, _, hH, h.pick_ [1, 6, 16, 17, 18] [11105] rfl rfl rfl⟩
      · refine wp_exit ?_
        refine t_te ?_
        refine t_te ?_
        refine t_exit ?_
        have h := h.pick_ [6] [11105] rfl rfl rfl
        cases hH
        exact ⟨_, _, rfl, h.pick_ [6] [11105] rfl rfl rfl⟩
    · refine t_then ?_
      refine k_reg ?_
      refine pures [0, 0, 0] hτ h rfl ?_
      intro a h
      refine k_end ?_
      refine wp_ret ?_
      have h := h.sw_ 11105 11900 rfl
      cases hH
      have h := h.pick_ [4, 5] [11900] rfl rfl rfl
      exact r_ret hτ [11900] h rfl rfl rfl
/-! ### wayfinder/rule.Put -/
inductive rule_Put.R where
  | o0 (y0 : Int)
  | o1 (y0 : Int) (y1 : (List Int))
  deriving Inhabited
def rule_Put.rd (p0 : Rule) : rule_Put.R → DV
  | .o0 y0 => .tup [.v (.slice none 0 0), i64 y0]
  | .o1 y0 y1 => .tup [.own 14900, i64 y0]
def rule_Put.rh (p0 : Rule) : rule_Put.R → Hp
  | .o0 y0 => []
  | .o1 y0 y1 => [(14900, .row 5 1 (y1.map c_u8))]
def rule_Put (p0 : Rule) : Option rule_Put.R := (rule_May p0 >>= fun q1 => match q1 with | .o0 x2 => (if !x2 then some (rule_Put.R.o0 1) else (octets_Put p0.P.Addr 4 >>= fun q3 => match q3 with | .o0 x4 => (room 1 (([] : List Int) ++ ([IntKind.u8.wrap p0.P.Len, IntKind.u8.wrap (IntKind.i64.wrap (p0.In + 1)), IntKind.u8.wrap p0.Prio, IntKind.u8.wrap p0.Act.Kind, IntKind.u8.wrap p0.Act.Port] : List Int)) >>= fun x5 => some (rule_Put.R.o1 x4 x5)) | .o1 x6 x7 => (room 1 (x7 ++ ([IntKind.u8.wrap p0.P.Len, IntKind.u8.wrap (IntKind.i64.wrap (p0.In + 1)), IntKind.u8.wrap p0.Prio, IntKind.u8.wrap p0.Act.Kind, IntKind.u8.wrap p0.Act.Port] : List Int)) >>= fun x8 => some (rule_Put.R.o1 x6 x8)))))
theorem fn89 : Go.Proofs.YtjjmoihpjmojiaaDoor.D.Fn Tryd.prog 89 := ⟨Tryd.f89, Tryd.func89, by kernel_rfl, rfl⟩
set_option maxRecDepth 100000 in
theorem rule_Put.ok (p0 : Rule) (r : rule_Put.R) (hH : rule_Put p0 = some r) : Con Tryd.prog 89 [.agg [i64 p0.P.Addr, i64 p0.P.Len, i64 p0.In, i64 p0.Prio, i64 p0.Act.Kind, i64 p0.Act.Port]] [] (rule_Put.rd p0 r) (rule_Put.rh p0 r) := by
  refine con_of Tryd.f89 39 (c := _) Tryd.func89 rfl rfl rfl ?_
  intro w a ν X h
  unfold rule_Put at hH
  refine k_reg ?_
  refine s_new h (wanted_none rfl) rfl rfl (e_box (r := 14101) (g := none) h.f h.o rfl trivial rfl rfl) ?_
  intro a w ν h
  refine pures [0, 0] hτ h rfl ?_
  intro a h
  refine k_end ?_
  refine k_seq ?_
  refine k_reg ?_
  refine pures [0] hτ h rfl ?_
  intro a h
  obtain ⟨q1, hq1, hH⟩ := bnd hH
  obtain ⟨x2⟩ := q1
  refine s_call1 fn24 (rule_May.ok p0 _ hq1) [] h (wanted_none rfl) rfl rfl rfl rfl rfl ?_
  intro a w ν h
  refine pures [0] hτ h rfl ?_
  intro a h
  refine k_end ?_
  refine k_ifH hH h rfl (fun hb hH => ?_) (fun hb hH => ?_)
  · refine k_reg ?_
    refine pures [0, 0] hτ h rfl ?_
    intro a h
    refine k_end ?_
    refine wp_ret ?_
    cases hH
    exact r_ret hτ [] h rfl rfl rfl
  · refine k_skip ?_
    refine t_then ?_
    refine k_reg ?_
    refine pures [0, 0, 0] hτ h rfl ?_
    intro a h
    obtain ⟨q3, hq3, hH⟩ := bnd hH
    cases q3 with
    | o0 x4 =>
      refine s_call1 fn130 (octets_Put.ok p0.P.Addr 4 _ hq3) [] h (wanted_none rfl) rfl rfl rfl rfl rfl ?_
      intro a w ν h
      refine pures [0, 0, 0, 0, 0] hτ h rfl ?_
      intro a h
      refine k_end ?_
      refine k_reg ?_
      refine pures [0, 0, 0, 0, 0, 0, 0, 0, 0, 0, 0, 0, 0, 0, 0, 0, 0, 0, 0, 0] hτ h rfl ?_
      intro a h
      refine s_lit 14102 [] hτ h (wanted_none rfl) rfl rfl rfl rfl rfl rfl (by decide) rfl rfl rfl (es := ([IntKind.u8.wrap p0.P.Len, IntKind.u8.wrap (IntKind.i64.wrap (p0.In + 1)), IntKind.u8.wrap p0.Prio, IntKind.u8.wrap p0.Act.Kind, IntKind.u8.wrap p0.Act.Port] : List Int).map c_u8) rfl rfl ?_
      intro a w ν h
      obtain ⟨x5, hx5, hH⟩ := bnd hH
      refine s_app4 (l0 := ([] : List Int)) (m := ([IntKind.u8.wrap p0.P.Len, IntKind.u8.wrap (IntKind.i64.wrap (p0.In + 1)), IntKind.u8.wrap p0.Prio, IntKind.u8.wrap p0.Act.Kind, IntKind.u8.wrap p0.Act.Port] : List Int)) (c := c_u8) [] [] 14103 hτ h (wanted_none rfl) rfl rfl rfl rfl rfl rfl (by decide) by5 rfl ⟨rfl, rfl⟩ (.keep 14102 _ rfl (map_pls (fun _ => rfl))) rfl hx5 rfl ?_
      intro a w ν h
      refine pures [0, 0, 0] hτ h rfl ?_
      intro a h
      refine k_end ?_
      refine wp_ret ?_
      have h := h.sw_ 14103 14900 rfl
      cases hH
      have h := h.pick_ [2, 3] [14900] rfl rfl rfl
      exact r_ret hτ [14900] h rfl rfl rfl
    | o1 x6 x7 =>
      refine s_call fn130 ((octets_Put.ok p0.P.Addr 4 _ hq3).sw_ 12900 14104) [] [14104] [] h (wanted_none rfl) rfl rfl rfl rfl rfl rfl ?_
      intro a w ν h
      refine pures [0, 0, 0, 0, 0] hτ h rfl ?_
      intro a h
      refine k_end ?_
      refine k_reg ?_
      refine pures [0, 0, 0, 0, 0, 0, 0, 0, 0, 0, 0, 0, 0, 0, 0, 0, 0, 0, 0, 0] hτ h rfl ?_
      intro a h
      refine s_lit 14105 [] hτ h (wanted_none rfl) rfl rfl rfl rfl rfl rfl (by decide) rfl rfl rfl (es := ([IntKind.u8.wrap p0.P.Len, IntKind.u8.wrap (IntKind.i64.wrap (p0.In + 1)), IntKind.u8.wrap p0.Prio, IntKind.u8.wrap p0.Act.Kind, IntKind.u8.wrap p0.Act.Port] : List Int).map c_u8) rfl rfl ?_
      intro a w ν h
      obtain ⟨x8, hx8, hH⟩ := bnd hH
      refine s_app4 (l0 := x7) (m := ([IntKind.u8.wrap p0.P.Len, IntKind.u8.wrap (IntKind.i64.wrap (p0.In + 1)), IntKind.u8.wrap p0.Prio, IntKind.u8.wrap p0.Act.Kind, IntKind.u8.wrap p0.Act.Port] : List Int)) (c := c_u8) [14104] [] 14106 hτ h (wanted_none rfl) rfl rfl rfl rfl rfl rfl (by decide) by5 rfl ⟨rfl, rfl⟩ (.keep 14105 _ rfl (map_pls (fun _ => rfl))) rfl hx8 rfl ?_
      intro a w ν h
      refine pures [0, 0, 0] hτ h rfl ?_
      intro a h
      refine k_end ?_
      refine wp_ret ?_
      have h := h.sw_ 14106 14900 rfl
      cases hH
      have h := h.pick_ [2, 3] [14900] rfl rfl rfl
      exact r_ret hτ [14900] h rfl rfl rfl
/-! ### wayfinder/msg.Put -/
inductive msg_Put.R where
  | o0 (y0 : Int)
  | o1 (y0 : Int) (y1 : (List Int))
  deriving Inhabited
def msg_Put.rd (p0 : Msg) : msg_Put.R → DV
  | .o0 y0 => .tup [.v (.slice none 0 0), i64 y0]
  | .o1 y0 y1 => .tup [.own 4900, i64 y0]
def msg_Put.rh (p0 : Msg) : msg_Put.R → Hp
  | .o0 y0 => []
  | .o1 y0 y1 => [(4900, .row 5 1 (y1.map c_u8))]
def msg_Put (p0 : Msg) : Option msg_Put.R := (msg_May p0 >>= fun q1 => match q1 with | .o0 x2 => (if !x2 then some (msg_Put.R.o0 1) else (octets_PutAll [p0.Kind, p0.Epoch, p0.Seq, p0.Tag] [1, 3, 3, 2] >>= fun q3 => match q3 with | .o0 x4 => (gd (!(x4 != 0)) (at_ kindsT p0.Kind) default >>= fun x5 => (if ((x4 != 0) || (!x5.rule_)) then some (msg_Put.R.o0 x4) else (rule_Put p0.R >>= fun q6 => match q6 with | .o0 x7 => (room 1 (([] : List Int) ++ ([] : List Int)) >>= fun x8 => some (msg_Put.R.o1 x7 x8)) | .o1 x9 x10 => (room 1 (([] : List Int) ++ x10) >>= fun x11 => some (msg_Put.R.o1 x9 x11))))) | .o1 x12 x13 => (gd (!(x12 != 0)) (at_ kindsT p0.Kind) default >>= fun x14 => (if ((x12 != 0) || (!x14.rule_)) then some (msg_Put.R.o1 x12 x13) else (rule_Put p0.R >>= fun q15 => match q15 with | .o0 x16 => (room 1 (x13 ++ ([] : List Int)) >>= fun x17 => some (msg_Put.R.o1 x16 x17)) | .o1 x18 x19 => (room 1 (x13 ++ x19) >>= fun x20 => some (msg_Put.R.o1 x18 x20))))))))
theorem fn36 : Go.Proofs.YtjjmoihpjmojiaaDoor.D.Fn Tryd.prog 36 := ⟨Tryd.f36, Tryd.func36, by kernel_rfl, rfl⟩
set_option maxRecDepth 100000 in
theorem msg_Put.ok (p0 : Msg) (r : msg_Put.R) (hH : msg_Put p0 = some r) : Con Tryd.prog 36 [.agg [i64 p0.Kind, i64 p0.Epoch, i64 p0.Seq, i64 p0.Tag, i64 p0.R.P.Addr, i64 p0.R.P.Len, i64 p0.R.In, i64 p0.R.Prio, i64 p0.R.Act.Kind, i64 p0.R.Act.Port]] [] (msg_Put.rd p0 r) (msg_Put.rh p0 r) := by
  refine con_of Tryd.f36 46 (c := _) Tryd.func36 rfl rfl rfl ?_
  intro w a ν X h
  unfold msg_Put at hH
  refine k_reg ?_
  refine s_new h (wanted_none rfl) rfl rfl (e_box (r := 4101) (g := none) h.f h.o rfl trivial rfl rfl) ?_
  intro a w ν h
  refine pures [0, 0] hτ h rfl ?_
  intro a h
  refine k_end ?_
  refine k_seq ?_
  refine k_reg ?_
  refine pures [0] hτ h rfl ?_
  intro a h
  obtain ⟨q1, hq1, hH⟩ := bnd hH
  obtain ⟨x2⟩ := q1
  refine s_call1 fn87 (msg_May.ok p0 _ hq1) [] h (wanted_none rfl) rfl rfl rfl rfl rfl ?_
  intro a w ν h
  refine pures [0] hτ h rfl ?_
  intro a h
  refine k_end ?_
  refine k_ifH hH h rfl (fun hb hH => ?_) (fun hb hH => ?_)
  · refine k_reg ?_
    refine pures [0, 0] hτ h rfl ?_
    intro a h
    refine k_end ?_
    refine wp_ret ?_
    cases hH
    exact r_ret hτ [] h rfl rfl rfl
  · refine k_skip ?_
    refine t_then ?_
    refine k_reg ?_
    refine pures [0, 0, 0, 0, 0, 0, 0, 0] hτ h rfl ?_
    intro a h
    refine s_lit 4102 [] hτ h (wanted_none rfl) rfl rfl rfl rfl rfl rfl (by decide) rfl rfl rfl (es := ([p0.Kind, p0.Epoch, p0.Seq, p0.Tag] : List Int).map c_i64) rfl rfl ?_
    intro a w ν h
    refine s_lit 4103 [] hτ h (wanted_none rfl) rfl rfl rfl rfl rfl rfl (by decide) rfl rfl rfl (es := ([1, 3, 3, 2] : List Int).map c_i64) rfl rfl ?_
    intro a w ν h
    have h := h.frzH (q := 4102) rfl (fzn_map (fun _ => rfl))
    have h := h.frzH (q := 4103) rfl (fzn_map (fun _ => rfl))
    obtain ⟨q3, hq3, hH⟩ := bnd hH
    cases q3 with
    | o0 x4 =>
      refine s_call1 fn88 (octets_PutAll.ok [p0.Kind, p0.Epoch, p0.Seq, p0.Tag] [1, 3, 3, 2] _ hq3) [] h (wanted_none rfl) rfl rfl rfl rfl rfl ?_
      intro a w ν h
      refine pures [0, 0, 0, 0, 0] hτ h rfl ?_
      intro a h
      refine k_end ?_
      refine k_seq ?_
      refine k_reg ?_
      refine pures [0, 0, 0, 1, 1] hτ h rfl ?_
      intro a h
      obtain ⟨x5, hx5, hH⟩ := bnd hH
      refine s_gd h [] rfl rfl rfl rfl rfl rfl (fun hbu => p_of0 rfl fun w a ν X hO hF hg => e_idxG hτ hF hO hg rfl rfl rfl (at_map ((of_gd hx5).1 (by first | exact hbu | exact nt_ hbu)) c_Told).1 (at_map ((of_gd hx5).1 (by first | exact hbu | exact nt_ hbu)) c_Told).2) ?_
      intro a w ν h
      refine pures [1, 1, 1, 0] hτ h rfl ?_
      intro a h
      refine k_end ?_
      refine k_ifH hH h rfl (fun hb hH => ?_) (fun hb hH => ?_)
      · refine k_reg ?_
        refine pures [0, 0, 0, 0] hτ h rfl ?_
        intro a h
        refine k_end ?_
        refine wp_ret ?_
        cases hH
        exact r_ret hτ [] h rfl rfl rfl
      · refine k_skip ?_
        refine t_then ?_
        refine k_reg ?_
        refine pures [0, 0] hτ h rfl ?_
        intro a h
        obtain ⟨q6, hq6, hH⟩ := bnd hH
        cases q6 with
        | o0 x7 =>
          refine s_call1 fn89 (rule_Put.ok p0.R _ hq6) [] h (wanted_none rfl) rfl rfl rfl rfl rfl ?_
          intro a w ν h
          refine pures [0, 0, 0, 0, 0] hτ h rfl ?_
          intro a h
          refine k_end ?_
          refine k_reg ?_
          refine pures [0, 0] hτ h rfl ?_
          intro a h
          obtain ⟨x8, hx8, hH⟩ := bnd hH
          refine s_app4 (l0 := ([] : List Int)) (m := ([] : List Int)) (c := c_u8) [] [] 4104 hτ h (wanted_none rfl) rfl rfl rfl rfl rfl rfl (by decide) by5 rfl ⟨rfl, rfl⟩ (.nil) rfl hx8 rfl ?_
          intro a w ν h
          refine pures [0, 0, 0] hτ h rfl ?_
          intro a h
          refine k_end ?_
          refine wp_ret ?_
          have h := h.sw_ 4104 4900 rfl
          cases hH
          have h := h.pick_ [2, 3] [4900] rfl rfl rfl
          exact r_ret hτ [4900] h rfl rfl rfl
        | o1 x9 x10 =>
          refine s_call fn89 ((rule_Put.ok p0.R _ hq6).sw_ 14900 4105) [] [4105] [] h (wanted_none rfl) rfl rfl rfl rfl rfl rfl ?_
          intro a w ν h
          refine pures [0, 0, 0, 0, 0] hτ h rfl ?_
          intro a h
          refine k_end ?_
          refine k_reg ?_
          refine pures [0, 0] hτ h rfl ?_
          intro a h
          obtain ⟨x11, hx11, hH⟩ := bnd hH
          refine s_app4 (l0 := ([] : List Int)) (m := x10) (c := c_u8) [] [] 4106 hτ h (wanted_none rfl) rfl rfl rfl rfl rfl rfl (by decide) by5 rfl ⟨rfl, rfl⟩ (.keep 4105 _ rfl (map_pls (fun _ => rfl))) rfl hx11 rfl ?_
          intro a w ν h
          refine pures [0, 0, 0] hτ h rfl ?_
          intro a h
          refine k_end ?_
          refine wp_ret ?_
          have h := h.sw_ 4106 4900 rfl
          cases hH
          have h := h.pick_ [2, 3] [4900] rfl rfl rfl
          exact r_ret hτ [4900] h rfl rfl rfl
    | o1 x12 x13 =>
      refine s_call fn88 ((octets_PutAll.ok [p0.Kind, p0.Epoch, p0.Seq, p0.Tag] [1, 3, 3, 2] _ hq3).sw_ 11900 4107) [] [4107] [] h (wanted_none rfl) rfl rfl rfl rfl rfl rfl ?_
      intro a w ν h
      refine pures [0, 0, 0, 0, 0] hτ h rfl ?_
      intro a h
      refine k_end ?_
      refine k_seq ?_
      refine k_reg ?_
      refine pures [0, 0, 0, 1, 1] hτ h rfl ?_
      intro a h
      obtain ⟨x14, hx14, hH⟩ := bnd hH
      refine s_gd h [] rfl rfl rfl rfl rfl rfl (fun hbu => p_of0 rfl fun w a ν X hO hF hg => e_idxG hτ hF hO hg rfl rfl rfl (at_map ((of_gd hx14).1 (by first | exact hbu | exact nt_ hbu)) c_Told).1 (at_map ((of_gd hx14).1 (by first | exact hbu | exact nt_ hbu)) c_Told).2) ?_
      intro a w ν h
      refine pures [1, 1, 1, 0] hτ h rfl ?_
      intro a h
      refine k_end ?_
      refine k_ifH hH h rfl (fun hb hH => ?_) (fun hb hH => ?_)
      · refine k_reg ?_
        refine pures [0, 0, 0, 0] hτ h rfl ?_
        intro a h
        refine k_end ?_
        refine wp_ret ?_
        have h := h.sw_ 4107 4900 rfl
        cases hH
        have h := h.pick_ [2, 3] [4900] rfl rfl rfl
        exact r_ret hτ [4900] h rfl rfl rfl
      · refine k_skip ?_
        refine t_then ?_
        refine k_reg ?_
        refine pures [0, 0] hτ h rfl ?_
        intro a h
        obtain ⟨q15, hq15, hH⟩ := bnd hH
        cases q15 with
        | o0 x16 =>
          refine s_call1 fn89 (rule_Put.ok p0.R _ hq15) [] h (wanted_none rfl) rfl rfl rfl rfl rfl ?_
          intro a w ν h
          refine pures [0, 0, 0, 0, 0] hτ h rfl ?_
          intro a h
          refine k_end ?_
          refine k_reg ?_
          refine pures [0, 0] hτ h rfl ?_
          intro a h
          obtain ⟨x17, hx17, hH⟩ := bnd hH
          refine s_app4 (l0 := x13) (m := ([] : List Int)) (c := c_u8) [4107] [] 4108 hτ h (wanted_none rfl) rfl rfl rfl rfl rfl rfl (by decide) by5 rfl ⟨rfl, rfl⟩ (.nil) rfl hx17 rfl ?_
          intro a w ν h
          refine pures [0, 0, 0] hτ h rfl ?_
          intro a h
          refine k_end ?_
          refine wp_ret ?_
          have h := h.sw_ 4108 4900 rfl
          cases hH
          have h := h.pick_ [2, 3] [4900] rfl rfl rfl
          exact r_ret hτ [4900] h rfl rfl rfl
        | o1 x18 x19 =>
          refine s_call fn89 ((rule_Put.ok p0.R _ hq15).sw_ 14900 4109) [] [4109] [] h (wanted_none rfl) rfl rfl rfl rfl rfl rfl ?_
          intro a w ν h
          refine pures [0, 0, 0, 0, 0] hτ h rfl ?_
          intro a h
          refine k_end ?_
          refine k_reg ?_
          refine pures [0, 0] hτ h rfl ?_
          intro a h
          obtain ⟨x20, hx20, hH⟩ := bnd hH
          refine s_app4 (l0 := x13) (m := x19) (c := c_u8) [4107] [] 4110 hτ h (wanted_none rfl) rfl rfl rfl rfl rfl rfl (by decide) by5 rfl ⟨rfl, rfl⟩ (.keep 4109 _ rfl (map_pls (fun _ => rfl))) rfl hx20 rfl ?_
          intro a w ν h
          refine pures [0, 0, 0] hτ h rfl ?_
          intro a h
          refine k_end ?_
          refine wp_ret ?_
          have h := h.sw_ 4110 4900 rfl
          cases hH
          have h := h.pick_ [2, 3] [4900] rfl rfl rfl
          exact r_ret hτ [4900] h rfl rfl rfl
/-! ### wayfinder/octets.Sum -/
structure octets_Sum.R where
  o0 ::
  y0 : Int
  deriving Inhabited
def octets_Sum.rd (p0 : (List Int)) (r : octets_Sum.R) : DV := i64 r.y0
def octets_Sum.rh (p0 : (List Int)) (r : octets_Sum.R) : Hp := [(15000, .row 5 1 (p0.map c_u8))]
def octets_Sum.l0 (p0 : (List Int)) (s1 : Int × Int) : Option (Int) := (if decide (s1.2 < (lenc c_u8 p0)) then (at_ p0 s1.2 >>= fun x5 => (nat_ (IntKind.i64.wrap (8 * ((IntKind.i64.wrap (s1.2 + 1)).tmod 2))) >>= fun x6 => octets_Sum.l0 p0 (IntKind.i64.wrap (s1.1 + (shl_ .i64 (IntKind.i64.wrap x5) x6)), IntKind.i64.wrap (s1.2 + 1)))) else some s1.1)
  partial_fixpoint
def octets_Sum.l1 (s2 : Int) : Option octets_Sum.R := (if decide (s2 > 65535) then octets_Sum.l1 (IntKind.i64.wrap ((shr_ .i64 s2 16) + (Go.bits .and .i64 s2 65535))) else some (octets_Sum.R.o0 (IntKind.i64.wrap (65535 - s2))))
  partial_fixpoint
def octets_Sum.l2 (p0 : (List Int)) (s3 : Int × Int) : Option (Int) := (if decide (s3.2 < (lenc c_u8 p0)) then (at_ p0 s3.2 >>= fun x11 => (nat_ (IntKind.i64.wrap (8 * ((IntKind.i64.wrap (s3.2 + 1)).tmod 2))) >>= fun x12 => octets_Sum.l2 p0 (IntKind.i64.wrap (s3.1 + (shl_ .i64 (IntKind.i64.wrap x11) x12)), IntKind.i64.wrap (s3.2 + 1)))) else some s3.1)
  partial_fixpoint
def octets_Sum (p0 : (List Int)) : Option octets_Sum.R := (octets_Sum.l2 p0 (0, 0) >>= fun z3 => octets_Sum.l1 z3)
theorem fn37 : Go.Proofs.YtjjmoihpjmojiaaDoor.D.Fn Tryd.prog 37 := ⟨Tryd.f37, Tryd.func37, by kernel_rfl, rfl⟩
set_option maxRecDepth 100000 in
theorem octets_Sum.ok (p0 : (List Int)) (r : octets_Sum.R) (hH : octets_Sum p0 = some r) : Con Tryd.prog 37 [.own 15000] [(15000, .row 5 1 (p0.map c_u8))] (octets_Sum.rd p0 r) (octets_Sum.rh p0 r) := by
  refine con_of Tryd.f37 32 (c := _) Tryd.func37 rfl rfl rfl ?_
  intro w a ν X h
  unfold octets_Sum at hH
  refine k_reg ?_
  refine pures [0] hτ h rfl ?_
  intro a h
  refine k_end ?_
  refine k_scope h (octets_Sum.l1.partial_correctness) 0 rfl (fun (s2 : Int) => [(3, none, i64 s2)]) (fun (s2 : Int) => [(15000, .row 5 1 (p0.map c_u8))]) (fun _ => True) (o := r) trivial ?_ (fun g s2 hH a w ν h => ?_)
  · refine k_reg ?_
    refine pures [0] hτ h rfl ?_
    intro a h
    refine k_end ?_
    refine k_seq ?_
    refine k_reg ?_
    refine pures [0, 0, 0] hτ h rfl ?_
    intro a h
    refine k_end ?_
    have h := h.pick_ [3, 6, 7, 8] [15000] rfl rfl rfl
    refine k_cut0 h hH (fun (z3 : Int) => [(3, none, i64 z3)]) (fun (z3 : Int) => [(15000, .row 5 1 (p0.map c_u8))]) (fun o ho => ?_) (fun z3 a w ν hH h => ?_)
    · refine k_blk ?_
      refine k_loopC0 (octets_Sum.l2.partial_correctness p0) (fun (s3 : Int × Int) => [(3, none, i64 s3.1), (6, none, .own 15000), (7, none, i64 (lenc c_u8 p0)), (8, none, i64 s3.2)]) (fun (s3 : Int × Int) => [(15000, .row 5 1 (p0.map c_u8))]) ho h ?_
      intro g s3 o hH a w ν h
      refine k_reg ?_
      refine pures [0] hτ h rfl ?_
      intro a h
      refine k_end ?_
      refine k_seq ?_
      refine k_ifH hH h rfl (fun hb hH => ?_) (fun hb hH => ?_)
      · refine k_skip ?_
        refine t_then ?_
        refine k_seq ?_
        refine k_blk ?_
        refine k_reg ?_
        refine pures [0] hτ h rfl ?_
        intro a h
        obtain ⟨x11, hx11, hH⟩ := bnd hH
        have hx11_e := (at_map hx11 c_u8).2
        refine s_idxR hτ h (wanted_none rfl) rfl rfl rfl rfl (at_map hx11 c_u8).1 hx11_e ?_
        intro a w ν h
        refine s_ldR (k := 0) hτ h (wanted_none rfl) rfl rfl rfl rfl hx11_e rfl rfl ?_
        intro a w ν h
        refine pures [0, 0] hτ h rfl ?_
        intro a h
        refine k_end ?_
        refine k_reg1 ?_
        refine pures [0, 0, 0, 0, 0, 0, 0] hτ h rfl ?_
        intro a h
        obtain ⟨x12, hx12, hH⟩ := bnd hH
        refine s_pv0 h [] (wanted_none rfl) rfl rfl (p_of0 rfl fun w a ν X hO hF hg => e_sh hF hO hg rfl (of_nat hx12) rfl) ?_
        intro a w ν h
        refine pures [0, 0] hτ h rfl ?_
        intro a h
        refine k_end1 ?_
        refine t_blk ?_
        refine t_then ?_
        refine k_reg1 ?_
        refine pures [0, 0] hτ h rfl ?_
        intro a h
        refine k_end1 ?_
        have h := h.pick_ [3, 6, 7, 8] [15000] rfl rfl rfl
        exact ⟨_, _, hH, h.pick_ [3, 6, 7, 8] [15000] rfl rfl rfl⟩
      · refine wp_exit ?_
        refine t_te ?_
        refine t_te ?_
        refine t_exit ?_
        have h := h.pick_ [3] [15000] rfl rfl rfl
        cases hH
        exact ⟨_, h.pick_ [3] [15000] rfl rfl rfl⟩
    · refine t_then ?_
      refine k_seq ?_
      refine wp_label ?_
      have h := h.pick_ [3] [15000] rfl rfl rfl
      rw [octets_Sum.l1] at hH
      refine t_then ?_
      refine k_seq ?_
      refine k_reg ?_
      refine pures [0, 0] hτ h rfl ?_
      intro a h
      refine k_end ?_
      refine k_ifH hH h rfl (fun hb hH => ?_) (fun hb hH => ?_)
      · refine k_reg ?_
        refine pures [0, 0, 0, 0, 0, 0] hτ h rfl ?_
        intro a h
        refine k_end ?_
        refine wp_goto ?_
        refine t_tg ?_
        have h := h.pick_ [3] [15000] rfl rfl rfl
        exact j_goto hH (h.pick_ [3] [15000] rfl rfl rfl)
      · refine k_skip ?_
        refine t_then ?_
        refine k_reg ?_
        refine pures [0, 0, 0] hτ h rfl ?_
        intro a h
        refine k_end ?_
        refine wp_ret ?_
        cases hH
        have h := h.pick_ [2] [15000] rfl rfl rfl
        exact r_ret hτ [15000] h rfl rfl rfl
  · refine k_seq ?_
    refine k_skip ?_
    refine t_then ?_
    refine k_seq ?_
    refine k_reg ?_
    refine pures [0, 0] hτ h rfl ?_
    intro a h
    refine k_end ?_
    refine k_ifH hH h rfl (fun hb hH => ?_) (fun hb hH => ?_)
    · refine k_reg ?_
      refine pures [0, 0, 0, 0, 0, 0] hτ h rfl ?_
      intro a h
      refine k_end ?_
      refine wp_goto ?_
      refine t_tg ?_
      have h := h.pick_ [3] [15000] rfl rfl rfl
      exact j_goto hH (h.pick_ [3] [15000] rfl rfl rfl)
    · refine k_skip ?_
      refine t_then ?_
      refine k_reg ?_
      refine pures [0, 0, 0] hτ h rfl ?_
      intro a h
      refine k_end ?_
      refine wp_ret ?_
      cases hH
      have h := h.pick_ [2] [15000] rfl rfl rfl
      exact r_ret hτ [15000] h rfl rfl rfl
/-! ### wayfinder/frame.Seal -/
inductive frame_Seal.R where
  | o0 (y0 : Int)
  | o1 (y0 : (List Int)) (y1 : Int)
  deriving Inhabited
def frame_Seal.rd (p0 : Msg) : frame_Seal.R → DV
  | .o0 y0 => .tup [.v (.slice none 0 0), i64 y0]
  | .o1 y0 y1 => .tup [.sl (y0.map c_u8), i64 y1]
def frame_Seal.rh (p0 : Msg) : frame_Seal.R → Hp
  | .o0 y0 => []
  | .o1 y0 y1 => []
def frame_Seal (p0 : Msg) : Option frame_Seal.R := (msg_Put p0 >>= fun q1 => match q1 with | .o0 x2 => (if (x2 != 0) then some (frame_Seal.R.o0 x2) else (room 1 (([197, 0] : List Int) ++ ([] : List Int)) >>= fun x3 => (octets_Sum x3 >>= fun q4 => match q4 with | .o0 x5 => (room 1 (x3 ++ ([IntKind.u8.wrap (shr_ .i64 x5 8), IntKind.u8.wrap x5] : List Int)) >>= fun x6 => some (frame_Seal.R.o1 x6 0))))) | .o1 x7 x8 => (if (x7 != 0) then some (frame_Seal.R.o0 x7) else (room 1 (([197, IntKind.u8.wrap (lenc c_u8 x8)] : List Int) ++ x8) >>= fun x9 => (if (((lenc c_u8 x8).tmod 2) == 1) then (room 1 (x9 ++ ([0] : List Int)) >>= fun x10 => (octets_Sum x10 >>= fun q11 => match q11 with | .o0 x12 => (room 1 (x10 ++ ([IntKind.u8.wrap (shr_ .i64 x12 8), IntKind.u8.wrap x12] : List Int)) >>= fun x13 => some (frame_Seal.R.o1 x13 0)))) else (octets_Sum x9 >>= fun q14 => match q14 with | .o0 x15 => (room 1 (x9 ++ ([IntKind.u8.wrap (shr_ .i64 x15 8), IntKind.u8.wrap x15] : List Int)) >>= fun x16 => some (frame_Seal.R.o1 x16 0)))))))
theorem fn14 : Go.Proofs.YtjjmoihpjmojiaaDoor.D.Fn Tryd.prog 14 := ⟨Tryd.f14, Tryd.func14, by kernel_rfl, rfl⟩
set_option maxRecDepth 100000 in
theorem frame_Seal.ok (p0 : Msg) (r : frame_Seal.R) (hH : frame_Seal p0 = some r) : Con Tryd.prog 14 [.agg [i64 p0.Kind, i64 p0.Epoch, i64 p0.Seq, i64 p0.Tag, i64 p0.R.P.Addr, i64 p0.R.P.Len, i64 p0.R.In, i64 p0.R.Prio, i64 p0.R.Act.Kind, i64 p0.R.Act.Port]] [] (frame_Seal.rd p0 r) (frame_Seal.rh p0 r) := by
  refine con_of Tryd.f14 39 (c := _) Tryd.func14 rfl rfl rfl ?_
  intro w a ν X h
  unfold frame_Seal at hH
  refine k_reg ?_
  refine s_new h (wanted_none rfl) rfl rfl (e_box (r := 3101) (g := none) h.f h.o rfl trivial rfl rfl) ?_
  intro a w ν h
  refine pures [0, 0] hτ h rfl ?_
  intro a h
  refine k_end ?_
  refine k_reg ?_
  refine pures [0] hτ h rfl ?_
  intro a h
  obtain ⟨q1, hq1, hH⟩ := bnd hH
  cases q1 with
  | o0 x2 =>
    refine s_call1 fn36 (msg_Put.ok p0 _ hq1) [] h (wanted_none rfl) rfl rfl rfl rfl rfl ?_
    intro a w ν h
    refine pures [0, 0, 0, 0, 0] hτ h rfl ?_
    intro a h
    refine k_end ?_
    refine k_seq ?_
    refine k_reg ?_
    refine pures [0, 0] hτ h rfl ?_
    intro a h
    refine k_end ?_
    refine k_ifH hH h rfl (fun hb hH => ?_) (fun hb hH => ?_)
    · refine k_reg ?_
      refine pures [0, 0, 0] hτ h rfl ?_
      intro a h
      refine k_end ?_
      refine wp_ret ?_
      cases hH
      exact r_ret hτ [] h rfl rfl rfl
    · refine k_skip ?_
      refine t_then ?_
      refine k_reg ?_
      refine pures [0, 0, 0] hτ h rfl ?_
      intro a h
      refine s_lit 3102 [] hτ h (wanted_none rfl) rfl rfl rfl rfl rfl rfl (by decide) rfl rfl rfl (es := ([197, 0] : List Int).map c_u8) rfl rfl ?_
      intro a w ν h
      refine pures [0] hτ h rfl ?_
      intro a h
      obtain ⟨x3, hx3, hH⟩ := bnd hH
      refine s_app4 (l0 := ([197, 0] : List Int)) (m := ([] : List Int)) (c := c_u8) [3102] [] 3103 hτ h (wanted_none rfl) rfl rfl rfl rfl rfl rfl (by decide) by5 rfl ⟨rfl, rfl⟩ (.nil) rfl hx3 rfl ?_
      intro a w ν h
      refine pures [0] hτ h rfl ?_
      intro a h
      refine k_end ?_
      refine k_seq ?_
      refine k_reg ?_
      refine pures [0, 0, 0, 0] hτ h rfl ?_
      intro a h
      refine k_end ?_
      refine k_ifF h rfl ?_
      refine k_skip ?_
      refine t_then ?_
      refine k_reg ?_
      refine pures [0] hτ h rfl ?_
      intro a h
      obtain ⟨q4, hq4, hH⟩ := bnd hH
      obtain ⟨x5⟩ := q4
      refine s_call fn37 ((octets_Sum.ok x3 _ hq4).sw_ 15000 3103) [3103] [] [] h (wanted_none rfl) rfl rfl rfl rfl rfl rfl ?_
      intro a w ν h
      refine pures [0] hτ h rfl ?_
      intro a h
      refine k_end ?_
      refine k_reg ?_
      refine pures [0, 0, 0, 0, 0, 0] hτ h rfl ?_
      intro a h
      refine s_lit 3104 [] hτ h (wanted_none rfl) rfl rfl rfl rfl rfl rfl (by decide) rfl rfl rfl (es := ([IntKind.u8.wrap (shr_ .i64 x5 8), IntKind.u8.wrap x5] : List Int).map c_u8) rfl rfl ?_
      intro a w ν h
      obtain ⟨x6, hx6, hH⟩ := bnd hH
      refine s_app4 (l0 := x3) (m := ([IntKind.u8.wrap (shr_ .i64 x5 8), IntKind.u8.wrap x5] : List Int)) (c := c_u8) [3103] [] 3105 hτ h (wanted_none rfl) rfl rfl rfl rfl rfl rfl (by decide) by5 rfl ⟨rfl, rfl⟩ (.keep 3104 _ rfl (map_pls (fun _ => rfl))) rfl hx6 rfl ?_
      intro a w ν h
      refine pures [0, 0] hτ h rfl ?_
      intro a h
      refine k_end ?_
      refine wp_ret ?_
      have h := h.frzH (q := 3105) rfl (fzn_map (fun _ => rfl))
      cases hH
      exact r_ret hτ [] h rfl rfl rfl
  | o1 x7 x8 =>
    refine s_call fn36 ((msg_Put.ok p0 _ hq1).sw_ 4900 3106) [] [3106] [] h (wanted_none rfl) rfl rfl rfl rfl rfl rfl ?_
    intro a w ν h
    refine pures [0, 0, 0, 0, 0] hτ h rfl ?_
    intro a h
    refine k_end ?_
    refine k_seq ?_
    refine k_reg ?_
    refine pures [0, 0] hτ h rfl ?_
    intro a h
    refine k_end ?_
    refine k_ifH hH h rfl (fun hb hH => ?_) (fun hb hH => ?_)
    · refine k_reg ?_
      refine pures [0, 0, 0] hτ h rfl ?_
      intro a h
      refine k_end ?_
      refine wp_ret ?_
      cases hH
      exact r_ret hτ [] h rfl rfl rfl
    · refine k_skip ?_
      refine t_then ?_
      refine k_reg ?_
      refine pures [0, 0, 0] hτ h rfl ?_
      intro a h
      refine s_lit 3107 [] hτ h (wanted_none rfl) rfl rfl rfl rfl rfl rfl (by decide) rfl rfl rfl (es := ([197, IntKind.u8.wrap (lenc c_u8 x8)] : List Int).map c_u8) rfl rfl ?_
      intro a w ν h
      refine pures [0] hτ h rfl ?_
      intro a h
      obtain ⟨x9, hx9, hH⟩ := bnd hH
      refine s_app4 (l0 := ([197, IntKind.u8.wrap (lenc c_u8 x8)] : List Int)) (m := x8) (c := c_u8) [3107] [] 3108 hτ h (wanted_none rfl) rfl rfl rfl rfl rfl rfl (by decide) by5 rfl ⟨rfl, rfl⟩ (.keep 3106 _ rfl (map_pls (fun _ => rfl))) rfl hx9 rfl ?_
      intro a w ν h
      refine pures [0] hτ h rfl ?_
      intro a h
      refine k_end ?_
      refine k_seq ?_
      refine k_reg ?_
      refine pures [0, 0, 0, 0] hτ h rfl ?_
      intro a h
      refine k_end ?_
      refine k_ifH hH h rfl (fun hb hH => ?_) (fun hb hH => ?_)
      · refine k_reg1 ?_
        refine pures [0] hτ h rfl ?_
        intro a h
        refine s_lit 3109 [] hτ h (wanted_none rfl) rfl rfl rfl rfl rfl rfl (by decide) rfl rfl rfl (es := ([0] : List Int).map c_u8) rfl rfl ?_
        intro a w ν h
        obtain ⟨x10, hx10, hH⟩ := bnd hH
        refine s_app4 (l0 := x9) (m := ([0] : List Int)) (c := c_u8) [3108] [] 3110 hτ h (wanted_none rfl) rfl rfl rfl rfl rfl rfl (by decide) by5 rfl ⟨rfl, rfl⟩ (.keep 3109 _ rfl (map_pls (fun _ => rfl))) rfl hx10 rfl ?_
        intro a w ν h
        refine pures [0] hτ h rfl ?_
        intro a h
        refine k_end1 ?_
        refine t_then ?_
        refine k_reg ?_
        refine pures [0] hτ h rfl ?_
        intro a h
        obtain ⟨q11, hq11, hH⟩ := bnd hH
        obtain ⟨x12⟩ := q11
        refine s_call fn37 ((octets_Sum.ok x10 _ hq11).sw_ 15000 3110) [3110] [] [] h (wanted_none rfl) rfl rfl rfl rfl rfl rfl ?_
        intro a w ν h
        refine pures [0] hτ h rfl ?_
        intro a h
        refine k_end ?_
        refine k_reg ?_
        refine pures [0, 0, 0, 0, 0, 0] hτ h rfl ?_
        intro a h
        refine s_lit 3111 [] hτ h (wanted_none rfl) rfl rfl rfl rfl rfl rfl (by decide) rfl rfl rfl (es := ([IntKind.u8.wrap (shr_ .i64 x12 8), IntKind.u8.wrap x12] : List Int).map c_u8) rfl rfl ?_
        intro a w ν h
        obtain ⟨x13, hx13, hH⟩ := bnd hH
        refine s_app4 (l0 := x10) (m := ([IntKind.u8.wrap (shr_ .i64 x12 8), IntKind.u8.wrap x12] : List Int)) (c := c_u8) [3110] [] 3112 hτ h (wanted_none rfl) rfl rfl rfl rfl rfl rfl (by decide) by5 rfl ⟨rfl, rfl⟩ (.keep 3111 _ rfl (map_pls (fun _ => rfl))) rfl hx13 rfl ?_
        intro a w ν h
        refine pures [0, 0] hτ h rfl ?_
        intro a h
        refine k_end ?_
        refine wp_ret ?_
        have h := h.frzH (q := 3112) rfl (fzn_map (fun _ => rfl))
        cases hH
        exact r_ret hτ [] h rfl rfl rfl
      · refine k_skip ?_
        refine t_then ?_
        refine k_reg ?_
        refine pures [0] hτ h rfl ?_
        intro a h
        obtain ⟨q14, hq14, hH⟩ := bnd hH
        obtain ⟨x15⟩ := q14
        refine s_call fn37 ((octets_Sum.ok x9 _ hq14).sw_ 15000 3108) [3108] [] [] h (wanted_none rfl) rfl rfl rfl rfl rfl rfl ?_
        intro a w ν h
        refine pures [0] hτ h rfl ?_
        intro a h
        refine k_end ?_
        refine k_reg ?_
        refine pures [0, 0, 0, 0, 0, 0] hτ h rfl ?_
        intro a h
        refine s_lit 3113 [] hτ h (wanted_none rfl) rfl rfl rfl rfl rfl rfl (by decide) rfl rfl rfl (es := ([IntKind.u8.wrap (shr_ .i64 x15 8), IntKind.u8.wrap x15] : List Int).map c_u8) rfl rfl ?_
        intro a w ν h
        obtain ⟨x16, hx16, hH⟩ := bnd hH
        refine s_app4 (l0 := x9) (m := ([IntKind.u8.wrap (shr_ .i64 x15 8), IntKind.u8.wrap x15] : List Int)) (c := c_u8) [3108] [] 3114 hτ h (wanted_none rfl) rfl rfl rfl rfl rfl rfl (by decide) by5 rfl ⟨rfl, rfl⟩ (.keep 3113 _ rfl (map_pls (fun _ => rfl))) rfl hx16 rfl ?_
        intro a w ν h
        refine pures [0, 0] hτ h rfl ?_
        intro a h
        refine k_end ?_
        refine wp_ret ?_
        have h := h.frzH (q := 3114) rfl (fzn_map (fun _ => rfl))
        cases hH
        exact r_ret hτ [] h rfl rfl rfl
/-! ### wayfinder/agent.New -/
structure agent_New.R where
  o0 ::
  y0 : Int
  y1 : Int
  y2 : Bool
  y3 : Int
  y4 : Int
  y5 : Int
  deriving Inhabited
def agent_New.rd (r : agent_New.R) : DV := .agg [i64 r.y0, i64 r.y1, bo r.y2, i64 r.y3, i64 r.y4, .v (.slice none 0 0), i64 r.y5]
def agent_New.rh (r : agent_New.R) : Hp := []
def agent_New : Option agent_New.R := some (agent_New.R.o0 1 0 false 0 0 0)
theorem fn17 : Go.Proofs.YtjjmoihpjmojiaaDoor.D.Fn Tryd.prog 17 := ⟨Tryd.f17, Tryd.func17, by kernel_rfl, rfl⟩
set_option maxRecDepth 100000 in
theorem agent_New.ok (r : agent_New.R) (hH : agent_New = some r) : Con Tryd.prog 17 [] [] (agent_New.rd r) (agent_New.rh r) := by
  refine con_of Tryd.f17 2 (c := _) Tryd.func17 rfl rfl rfl ?_
  intro w a ν X h
  unfold agent_New at hH
  refine k_reg ?_
  refine s_new h (wanted_none rfl) rfl rfl (e_alloc (r := 16101) hτ h.o rfl rfl) ?_
  intro a w ν h
  refine k_end ?_
  refine k_reg ?_
  refine pures [0] hτ h rfl ?_
  intro a h
  refine s_store hτ h (wanted_none rfl) rfl rfl rfl rfl rfl ?_
  intro a w ν h
  refine k_end ?_
  refine wp_ret ?_
  cases hH
  exact r_ret hτ [] h rfl rfl rfl
/-! ### slices.Clone[[]wayfinder/api.Rule,wayfinder/api.Rule] -/
structure slices_Clone_api_Rule_api_Rule.R where
  o0 ::
  y0 : (List Rule)
  deriving Inhabited
def slices_Clone_api_Rule_api_Rule.rd (p0 : (List Rule)) (r : slices_Clone_api_Rule_api_Rule.R) : DV := .sl (r.y0.map c_Rule)
def slices_Clone_api_Rule_api_Rule.rh (p0 : (List Rule)) (r : slices_Clone_api_Rule_api_Rule.R) : Hp := []
def slices_Clone_api_Rule_api_Rule (p0 : (List Rule)) : Option slices_Clone_api_Rule_api_Rule.R := (room 48 p0 >>= fun x => some (slices_Clone_api_Rule_api_Rule.R.o0 x))
theorem fn94 : Go.Proofs.YtjjmoihpjmojiaaDoor.D.Fn Tryd.prog 94 := ⟨Tryd.f94, Tryd.func94, by kernel_rfl, rfl⟩
set_option maxRecDepth 100000 in
theorem slices_Clone_api_Rule_api_Rule.ok (p0 : (List Rule)) (r : slices_Clone_api_Rule_api_Rule.R) (hH : slices_Clone_api_Rule_api_Rule p0 = some r) : Con Tryd.prog 94 [.sl (p0.map c_Rule)] [] (slices_Clone_api_Rule_api_Rule.rd p0 r) (slices_Clone_api_Rule_api_Rule.rh p0 r) := by
  refine con_of Tryd.f94 8 (c := _) Tryd.func94 rfl rfl rfl ?_
  intro w a ν X h
  unfold slices_Clone_api_Rule_api_Rule at hH
  obtain ⟨x, hx, hH⟩ := bnd hH
  cases hH
  refine k_reg ?_
  refine pures [0] hτ h rfl ?_
  intro a h
  refine k_end ?_
  refine k_seq ?_
  refine k_reg ?_
  refine pures [0] hτ h rfl ?_
  intro a h
  refine s_nil hτ h (wanted_none rfl) rfl rfl rfl rfl ?_
  intro b hbk a w ν h
  refine k_end ?_
  cases b with
  | true =>
    have hl : p0 = [] := by have := hbk rfl; simpa using this
    obtain ⟨hpx, _⟩ := of_room hx
    rw [hl] at hpx
    subst hl
    subst hpx
    refine k_ifT h rfl ?_
    refine k_reg ?_
    refine pures [0] hτ h rfl ?_
    intro a h
    refine k_end ?_
    refine wp_ret ?_
    have h := h.co_ 2 rfl
    exact r_ret hτ [] h rfl rfl rfl
  | false =>
    refine k_ifF h rfl ?_
    refine k_skip ?_
    refine t_then ?_
    refine k_reg ?_
    refine s_lit 21001 [] hτ h (wanted_none rfl) rfl rfl rfl rfl rfl rfl (by decide) rfl rfl rfl (es := ([] : List Rule).map c_Rule) rfl rfl ?_
    intro a w ν h
    refine pures [0] hτ h rfl ?_
    intro a h
    refine s_app4 (l0 := ([] : List Rule)) (m := p0) (c := c_Rule) [21001] [] 21900 hτ h (wanted_none rfl) rfl rfl rfl rfl rfl rfl (by decide) by30 rfl ⟨rfl, rfl⟩ (.sl _ (map_at (fun _ => rfl))) rfl hx rfl ?_
    intro a w ν h
    refine pures [0] hτ h rfl ?_
    intro a h
    refine k_end ?_
    refine wp_ret ?_
    have h := h.frzH (q := 21900) rfl (fzn_map (fun _ => rfl))
    exact r_ret hτ [] h rfl rfl rfl
/-! ### wayfinder/table.own -/
structure table_own.R where
  o0 ::
  y0 : (List Ver)
  deriving Inhabited
def table_own.rd (p0 : (List Ver)) (r : table_own.R) : DV := .own 20900
def table_own.rh (p0 : (List Ver)) (r : table_own.R) : Hp := [(20900, .row 58 2 (r.y0.map c_Ver))]
def table_own.l0 (p0 : (List Ver)) (s1 : Int × (List Ver)) : Option ((List Ver)) := (if decide (s1.1 < (lenc c_Ver p0)) then (at_ p0 s1.1 >>= fun x10 => (slices_Clone_api_Rule_api_Rule x10.L >>= fun x11 => (room 32 (s1.2 ++ ([(Ver.mk x10.Tag x11.y0)] : List Ver)) >>= fun x12 => table_own.l0 p0 (IntKind.i64.wrap (s1.1 + 1), x12)))) else some s1.2)
  partial_fixpoint
def table_own (p0 : (List Ver)) : Option table_own.R := (table_own.l0 p0 (0, []) >>= fun z1 => some (table_own.R.o0 z1))
theorem fn45 : Go.Proofs.YtjjmoihpjmojiaaDoor.D.Fn Tryd.prog 45 := ⟨Tryd.f45, Tryd.func45, by kernel_rfl, rfl⟩
set_option maxRecDepth 100000 in
theorem table_own.ok (p0 : (List Ver)) (r : table_own.R) (hH : table_own p0 = some r) : Con Tryd.prog 45 [.sl (p0.map c_Ver)] [] (table_own.rd p0 r) (table_own.rh p0 r) := by
  refine con_of Tryd.f45 23 (c := _) Tryd.func45 rfl rfl rfl ?_
  intro w a ν X h
  unfold table_own at hH
  refine k_reg ?_
  refine pures [0] hτ h rfl ?_
  intro a h
  refine k_end ?_
  refine k_reg ?_
  refine pures [0] hτ h rfl ?_
  intro a h
  refine k_end ?_
  refine k_seq ?_
  refine k_reg ?_
  refine pures [0, 0, 0] hτ h rfl ?_
  intro a h
  refine k_end ?_
  obtain ⟨ν, h⟩ := h.nilrow 3 20115 58 2 rfl rfl
  have h := h.pick_ [3, 6, 7, 8] [20115] rfl rfl rfl
  have h := h.sw_ 20115 20105 rfl
  refine k_cut0 h hH (fun (z1 : (List Ver)) => [(3, none, .own 20105)]) (fun (z1 : (List Ver)) => [(20105, .row 58 2 (z1.map c_Ver))]) (fun o ho => ?_) (fun z1 a w ν hH h => ?_)
  · refine k_blk ?_
    refine k_loopC0 (table_own.l0.partial_correctness p0) (fun (s1 : Int × (List Ver)) => [(3, none, .own 20105), (6, none, .sl (p0.map c_Ver)), (7, none, i64 (lenc c_Ver p0)), (8, none, i64 s1.1)]) (fun (s1 : Int × (List Ver)) => [(20105, .row 58 2 (s1.2.map c_Ver))]) ho h ?_
    intro g s1 o hH a w ν h
    refine k_reg ?_
    refine pures [0] hτ h rfl ?_
    intro a h
    refine k_end ?_
    refine k_seq ?_
    refine k_ifH hH h rfl (fun hb hH => ?_) (fun hb hH => ?_)
    · refine k_skip ?_
      refine t_then ?_
      refine k_seq ?_
      refine k_blk ?_
      refine k_reg ?_
      obtain ⟨x10, hx10, hH⟩ := bnd hH
      refine s_idx hτ h (wanted_none rfl) rfl rfl rfl rfl (at_map hx10 c_Ver).1 (at_map hx10 c_Ver).2 ?_
      intro a w ν h
      refine pures [0] hτ h rfl ?_
      intro a h
      refine s_new h (wanted_none rfl) rfl rfl (e_alloc (r := 20112) hτ h.o rfl rfl) ?_
      intro a w ν h
      refine s_store hτ h (wanted_none rfl) rfl rfl rfl rfl rfl ?_
      intro a w ν h
      refine k_end ?_
      refine k_any mixed h ?_
      intro w ν h
      obtain ⟨x11, hx11, hH⟩ := bnd hH
      have h : St _ [(3, none, .own 20105), (5, none, .ptr 20112 0), (6, none, .sl (p0.map c_Ver)), (7, none, i64 (lenc c_Ver p0)), (8, none, i64 s1.1)] [(20112, .blk 58 [i64 x10.Tag, .sl (x10.L.map c_Rule)]), (20105, .row 58 2 (s1.2.map c_Ver))] _ w a ν := h.pickG [3, 5, 6, 7, 8] [20112, 20105] (by kernel_rfl) (by kernel_rfl) (by kernel_rfl)
      refine mid_any (fs := [⟨some (12, none, .own 20105), [], []⟩, ⟨some (13, none, .ptr 20112 0), [], []⟩, ⟨some (14, none, i64 x10.Tag), [], []⟩, ⟨some (15, none, .ptr 20112 1), [], []⟩, ⟨some (16, none, .sl (x10.L.map c_Rule)), [], []⟩, ⟨some (17, none, .sl (x11.y0.map c_Rule)), [], []⟩, ⟨some (18, none, .agg [i64 x10.Tag, .sl (x11.y0.map c_Rule)]), [], []⟩, ⟨some (19, none, .own 20113), [], [(20113, .row 58 2 (([(Ver.mk x10.Tag x11.y0)] : List Ver).map c_Ver))]⟩]) 0 [([], []), ([], []), ([1], [20112]), ([], []), ([3], [20112]), ([4, 3], []), ([2, 5, 1, 3, 4], []), ([6, 1, 2, 3, 4], [])] (by kernel_rfl) h (by kernel_rfl) ⟨ok_plain rfl (p_pure hτ (by kernel_rfl)), ok_plain rfl (p_pure hτ (by kernel_rfl)), ok_plain rfl (p_pure hτ (by kernel_rfl)), ok_plain rfl (p_pure hτ (by kernel_rfl)), ok_plain rfl (p_pure hτ (by kernel_rfl)), ok_plain rfl (p_call1 (ds0 := [.sl (x10.L.map c_Rule)]) fn94 (slices_Clone_api_Rule_api_Rule.ok x10.L _ hx11) [] (by kernel_rfl) (by kernel_rfl) (by kernel_rfl)), ok_plain rfl (p_pure hτ (by kernel_rfl)), ok_plain rfl (p_one [] rfl rfl fun w a ν X hO hF hg => e_lit2 20113 [] hτ hF hO hg rfl rfl rfl rfl (by decide) rfl rfl rfl (es := ([(Ver.mk x10.Tag x11.y0)] : List Ver).map c_Ver) rfl rfl), trivial⟩ ?_
      intro a w ν h
      have h : St _ [(3, none, .own 20105), (6, none, .sl (p0.map c_Ver)), (7, none, i64 (lenc c_Ver p0)), (8, none, i64 s1.1), (12, none, .own 20105), (19, none, .own 20113)] [(20113, .row 58 2 (([(Ver.mk x10.Tag x11.y0)] : List Ver).map c_Ver)), (20112, .blk 58 [i64 x10.Tag, .sl (x10.L.map c_Rule)]), (20105, .row 58 2 (s1.2.map c_Ver))] _ w a ν := h.pickG [3, 6, 7, 8, 12, 19] [20113, 20112, 20105] (by kernel_rfl) (by kernel_rfl) (by kernel_rfl)
      refine mid_list 8 (by kernel_rfl) (by kernel_rfl) ?_
      obtain ⟨x12, hx12, hH⟩ := bnd hH
      refine s_app4 (l0 := s1.2) (m := ([(Ver.mk x10.Tag x11.y0)] : List Ver)) (c := c_Ver) [20105] [] 20114 hτ h (wanted_none rfl) rfl rfl rfl rfl rfl rfl (by decide) by58 rfl ⟨rfl, rfl⟩ (.keep 20113 _ rfl (map_pls (fun _ => rfl))) rfl hx12 rfl ?_
      intro a w ν h
      refine pures [0] hτ h rfl ?_
      intro a h
      refine k_end1 ?_
      refine t_blk ?_
      refine t_then ?_
      refine k_reg1 ?_
      refine pures [0, 0] hτ h rfl ?_
      intro a h
      refine k_end1 ?_
      have h := h.pick_ [3, 6, 7, 8] [20114] rfl rfl rfl
      have h := h.sw_ 20114 20105 rfl
      exact ⟨_, _, hH, h.pick_ [3, 6, 7, 8] [20105] rfl rfl rfl⟩
    · refine wp_exit ?_
      refine t_te ?_
      refine t_te ?_
      refine t_exit ?_
      have h := h.pick_ [3] [20105] rfl rfl rfl
      cases hH
      exact ⟨_, h.pick_ [3] [20105] rfl rfl rfl⟩
  · refine t_then ?_
    refine k_reg ?_
    refine pures [0, 0] hτ h rfl ?_
    intro a h
    refine k_end ?_
    refine wp_ret ?_
    have h := h.sw_ 20105 20900 rfl
    cases hH
    have h := h.pick_ [2] [20900] rfl rfl rfl
    exact r_ret hτ [20900] h rfl rfl rfl
/-! ### wayfinder/table.at$1 -/
structure table_at_1.R where
  o0 ::
  y0 : Bool
  deriving Inhabited
def table_at_1.rd (p0 : Ver) (p1 : Int) (r : table_at_1.R) : DV := bo r.y0
def table_at_1.rh (p0 : Ver) (p1 : Int) (r : table_at_1.R) : Hp := [(25000, .blk 3 [i64 p1])]
def table_at_1 (p0 : Ver) (p1 : Int) : Option table_at_1.R := some (table_at_1.R.o0 (p0.Tag == p1))
theorem fn95 : Go.Proofs.YtjjmoihpjmojiaaDoor.D.Fn Tryd.prog 95 := ⟨Tryd.f95, Tryd.func95, by kernel_rfl, rfl⟩
set_option maxRecDepth 100000 in
theorem table_at_1.ok (p0 : Ver) (p1 : Int) (r : table_at_1.R) (hH : table_at_1 p0 p1 = some r) : Con Tryd.prog 95 [.agg [i64 p0.Tag, .sl (p0.L.map c_Rule)], .ptr 25000 0] [(25000, .blk 3 [i64 p1])] (table_at_1.rd p0 p1 r) (table_at_1.rh p0 p1 r) := by
  refine con_of Tryd.f95 8 (c := _) Tryd.func95 rfl rfl rfl ?_
  intro w a ν X h
  unfold table_at_1 at hH
  refine k_reg ?_
  refine s_new h (wanted_none rfl) rfl rfl (e_box (r := 25101) (g := none) h.f h.o rfl trivial rfl rfl) ?_
  intro a w ν h
  refine pures [0] hτ h rfl ?_
  intro a h
  refine k_end ?_
  refine k_reg ?_
  refine pures [0, 0, 0, 0, 0] hτ h rfl ?_
  intro a h
  refine k_end ?_
  refine wp_ret ?_
  cases hH
  have h := h.pick_ [3] [25000] rfl rfl rfl
  exact r_ret hτ [25000] h rfl rfl rfl
/-! ### slices.IndexFunc[[]wayfinder/api.Ver,wayfinder/api.Ver] -/
structure slices_IndexFunc_api_Ver_api_Ver.R where
  o0 ::
  y0 : Int
  deriving Inhabited
def slices_IndexFunc_api_Ver_api_Ver.rd (p0 : (List Ver)) (p1 : Int) (r : slices_IndexFunc_api_Ver_api_Ver.R) : DV := i64 r.y0
def slices_IndexFunc_api_Ver_api_Ver.rh (p0 : (List Ver)) (p1 : Int) (r : slices_IndexFunc_api_Ver_api_Ver.R) : Hp := [(24000, .blk 3 [i64 p1])]
def slices_IndexFunc_api_Ver_api_Ver.l0 (p0 : (List Ver)) (p1 : Int) (s1 : Int) : Option (Ou (Unit) slices_IndexFunc_api_Ver_api_Ver.R) := (if decide (s1 < (lenc c_Ver p0)) then (at_ p0 s1 >>= fun x7 => (table_at_1 x7 p1 >>= fun q8 => match q8 with | .o0 x9 => (if x9 then some (.ret (slices_IndexFunc_api_Ver_api_Ver.R.o0 s1)) else slices_IndexFunc_api_Ver_api_Ver.l0 p0 p1 (IntKind.i64.wrap (s1 + 1))))) else some (.go ()))
  partial_fixpoint
def slices_IndexFunc_api_Ver_api_Ver (p0 : (List Ver)) (p1 : Int) : Option slices_IndexFunc_api_Ver_api_Ver.R := (slices_IndexFunc_api_Ver_api_Ver.l0 p0 p1 0 >>= fun o => match o with | .ret r => some r | .go z1 => some (slices_IndexFunc_api_Ver_api_Ver.R.o0 (-1)))
theorem fn97 : Go.Proofs.YtjjmoihpjmojiaaDoor.D.Fn Tryd.prog 97 := ⟨Tryd.f97, Tryd.func97, by kernel_rfl, rfl⟩
set_option maxRecDepth 100000 in
theorem slices_IndexFunc_api_Ver_api_Ver.ok (p0 : (List Ver)) (p1 : Int) (r : slices_IndexFunc_api_Ver_api_Ver.R) (hH : slices_IndexFunc_api_Ver_api_Ver p0 p1 = some r) : Con Tryd.prog 97 [.sl (p0.map c_Ver), .fn (.func 95) [] [.ptr 24000 0]] [(24000, .blk 3 [i64 p1])] (slices_IndexFunc_api_Ver_api_Ver.rd p0 p1 r) (slices_IndexFunc_api_Ver_api_Ver.rh p0 p1 r) := by
  refine con_of Tryd.f97 19 (c := _) Tryd.func97 rfl rfl rfl ?_
  intro w a ν X h
  unfold slices_IndexFunc_api_Ver_api_Ver at hH
  refine k_reg ?_
  refine pures [0] hτ h rfl ?_
  intro a h
  refine k_end ?_
  refine k_seq ?_
  refine k_reg ?_
  refine pures [0, 0, 0] hτ h rfl ?_
  intro a h
  refine k_end ?_
  have h := h.pick_ [0, 1, 7, 8] [24000] rfl rfl rfl
  refine k_cut h hH (fun (z1 : Unit) => []) (fun (z1 : Unit) => [(24000, .blk 3 [i64 p1])]) (fun o0 ho hk0 => ?_) (fun z1 a w ν hH h => ?_)
  · refine k_blk ?_
    refine k_loopC (slices_IndexFunc_api_Ver_api_Ver.l0.partial_correctness p0 p1) (fun (s1 : Int) => [(0, none, .sl (p0.map c_Ver)), (1, none, .fn (.func 95) [] [.ptr 24000 0]), (7, none, i64 (lenc c_Ver p0)), (8, none, i64 s1)]) (fun (s1 : Int) => [(24000, .blk 3 [i64 p1])]) ho hk0 h ?_
    intro g s1 o0 hH hk0 a w ν h
    refine k_reg ?_
    refine pures [0] hτ h rfl ?_
    intro a h
    refine k_end ?_
    refine k_seq ?_
    refine k_ifH hH h rfl (fun hb hH => ?_) (fun hb hH => ?_)
    · refine k_skip ?_
      refine t_then ?_
      refine k_seq ?_
      refine k_blk ?_
      refine k_reg ?_
      refine pures [0, 0] hτ h rfl ?_
      intro a h
      refine k_end ?_
      refine k_reg ?_
      refine pures [0, 0, 0] hτ h rfl ?_
      intro a h
      obtain ⟨x7, hx7, hH⟩ := bnd hH
      refine s_idx hτ h (wanted_none rfl) rfl rfl rfl rfl (at_map hx7 c_Ver).1 (at_map hx7 c_Ver).2 ?_
      intro a w ν h
      refine pures [0] hτ h rfl ?_
      intro a h
      obtain ⟨q8, hq8, hH⟩ := bnd hH
      obtain ⟨x9⟩ := q8
      refine s_call fn95 ((table_at_1.ok x7 p1 _ hq8).sw_ 25000 24000) [24000] [] [] h (wanted_none rfl) rfl rfl rfl rfl rfl rfl ?_
      intro a w ν h
      refine k_end ?_
      refine k_ifH hH h rfl (fun hb hH => ?_) (fun hb hH => ?_)
      · refine k_reg ?_
        refine pures [0, 0] hτ h rfl ?_
        intro a h
        refine k_end ?_
        refine wp_ret ?_
        cases hH
        cases Kp.out hk0
        have h := h.pick_ [4] [24000] rfl rfl rfl
        exact r_ret hτ [24000] h rfl rfl rfl
      · refine k_skip ?_
        refine t_blk ?_
        refine t_then ?_
        refine k_reg1 ?_
        refine pures [0, 0] hτ h rfl ?_
        intro a h
        refine k_end1 ?_
        have h := h.pick_ [0, 1, 7, 8] [24000] rfl rfl rfl
        exact ⟨_, _, hH, h.pick_ [0, 1, 7, 8] [24000] rfl rfl rfl⟩
    · refine wp_exit ?_
      refine t_te ?_
      refine t_te ?_
      refine t_exit ?_
      have h := h.pick_ [] [24000] rfl rfl rfl
      cases hH
      exact ⟨_, _, rfl, h.pick_ [] [24000] rfl rfl rfl⟩
  · refine t_then ?_
    refine k_reg ?_
    refine pures [0] hτ h rfl ?_
    intro a h
    refine k_end ?_
    refine wp_ret ?_
    cases hH
    have h := h.pick_ [4] [24000] rfl rfl rfl
    exact r_ret hτ [24000] h rfl rfl rfl
/-! ### wayfinder/table.first[wayfinder/api.Ver] -/
structure table_first_api_Ver.R where
  o0 ::
  y0 : Int
  deriving Inhabited
def table_first_api_Ver.rd (p0 : (List Ver)) (p1 : Int) (r : table_first_api_Ver.R) : DV := i64 r.y0
def table_first_api_Ver.rh (p0 : (List Ver)) (p1 : Int) (r : table_first_api_Ver.R) : Hp := [(23000, .blk 3 [i64 p1])]
def table_first_api_Ver (p0 : (List Ver)) (p1 : Int) : Option table_first_api_Ver.R := (slices_IndexFunc_api_Ver_api_Ver p0 p1 >>= fun q1 => match q1 with | .o0 x2 => (if decide (x2 ≥ 0) then some (table_first_api_Ver.R.o0 x2) else some (table_first_api_Ver.R.o0 (lenc c_Ver p0))))
theorem fn50 : Go.Proofs.YtjjmoihpjmojiaaDoor.D.Fn Tryd.prog 50 := ⟨Tryd.f50, Tryd.func50, by kernel_rfl, rfl⟩
set_option maxRecDepth 100000 in
theorem table_first_api_Ver.ok (p0 : (List Ver)) (p1 : Int) (r : table_first_api_Ver.R) (hH : table_first_api_Ver p0 p1 = some r) : Con Tryd.prog 50 [.sl (p0.map c_Ver), .fn (.func 95) [] [.ptr 23000 0]] [(23000, .blk 3 [i64 p1])] (table_first_api_Ver.rd p0 p1 r) (table_first_api_Ver.rh p0 p1 r) := by
  refine con_of Tryd.f50 14 (c := _) Tryd.func50 rfl rfl rfl ?_
  intro w a ν X h
  unfold table_first_api_Ver at hH
  refine k_reg ?_
  refine pures [0] hτ h rfl ?_
  intro a h
  refine k_end ?_
  refine k_seq ?_
  refine k_reg ?_
  refine pures [0, 0] hτ h rfl ?_
  intro a h
  obtain ⟨q1, hq1, hH⟩ := bnd hH
  obtain ⟨x2⟩ := q1
  refine s_call fn97 ((slices_IndexFunc_api_Ver_api_Ver.ok p0 p1 _ hq1).sw_ 24000 23000) [23000] [] [] h (wanted_none rfl) rfl rfl rfl rfl rfl rfl ?_
  intro a w ν h
  refine pures [0] hτ h rfl ?_
  intro a h
  refine k_end ?_
  refine k_reg ?_
  refine pures [0, 0] hτ h rfl ?_
  intro a h
  refine k_end ?_
  refine k_ifH hH h rfl (fun hb hH => ?_) (fun hb hH => ?_)
  · refine k_reg ?_
    refine pures [0, 0] hτ h rfl ?_
    intro a h
    refine k_end ?_
    refine wp_ret ?_
    cases hH
    have h := h.pick_ [4] [23000] rfl rfl rfl
    exact r_ret hτ [23000] h rfl rfl rfl
  · refine k_skip ?_
    refine t_then ?_
    refine k_reg ?_
    refine pures [0, 0, 0] hτ h rfl ?_
    intro a h
    refine k_end ?_
    refine wp_ret ?_
    cases hH
    have h := h.pick_ [4] [23000] rfl rfl rfl
    exact r_ret hτ [23000] h rfl rfl rfl
/-! ### wayfinder/table.at -/
structure table_at.R where
  o0 ::
  y0 : Int
  deriving Inhabited
def table_at.rd (p0 : (List Ver)) (p1 : Int) (r : table_at.R) : DV := i64 r.y0
def table_at.rh (p0 : (List Ver)) (p1 : Int) (r : table_at.R) : Hp := []
def table_at (p0 : (List Ver)) (p1 : Int) : Option table_at.R := (table_first_api_Ver p0 p1 >>= fun q1 => match q1 with | .o0 x2 => some (table_at.R.o0 x2))
theorem fn46 : Go.Proofs.YtjjmoihpjmojiaaDoor.D.Fn Tryd.prog 46 := ⟨Tryd.f46, Tryd.func46, by kernel_rfl, rfl⟩
set_option maxRecDepth 100000 in
theorem table_at.ok (p0 : (List Ver)) (p1 : Int) (r : table_at.R) (hH : table_at p0 p1 = some r) : Con Tryd.prog 46 [.sl (p0.map c_Ver), i64 p1] [] (table_at.rd p0 p1 r) (table_at.rh p0 p1 r) := by
  refine con_of Tryd.f46 8 (c := _) Tryd.func46 rfl rfl rfl ?_
  intro w a ν X h
  unfold table_at at hH
  refine k_reg ?_
  refine s_new h (wanted_none rfl) rfl rfl (e_box (r := 22101) (g := none) h.f h.o rfl trivial rfl rfl) ?_
  intro a w ν h
  refine pures [0] hτ h rfl ?_
  intro a h
  refine k_end ?_
  refine k_reg ?_
  refine pures [0, 0] hτ h rfl ?_
  intro a h
  obtain ⟨q1, hq1, hH⟩ := bnd hH
  obtain ⟨x2⟩ := q1
  refine s_call fn50 ((table_first_api_Ver.ok p0 p1 _ hq1).sw_ 23000 22101) [22101] [] [] h (wanted_none rfl) rfl rfl rfl rfl rfl rfl ?_
  intro a w ν h
  refine pures [0] hτ h rfl ?_
  intro a h
  refine k_end ?_
  refine wp_ret ?_
  cases hH
  exact r_ret hτ [] h rfl rfl rfl
/-! ### wayfinder/table.Drop -/
structure table_Drop.R where
  o0 ::
  y0 : (List Ver)
  deriving Inhabited
def table_Drop.rd (p0 : (List Ver)) (p1 : Int) (r : table_Drop.R) : DV := .sl (r.y0.map c_Ver)
def table_Drop.rh (p0 : (List Ver)) (p1 : Int) (r : table_Drop.R) : Hp := []
def table_Drop (p0 : (List Ver)) (p1 : Int) : Option table_Drop.R := (table_own p0 >>= fun q1 => match q1 with | .o0 x2 => (table_at x2 p1 >>= fun q3 => match q3 with | .o0 x4 => (if decide (x4 < (lenc c_Ver x2)) then none else some (table_Drop.R.o0 x2))))
theorem fn21 : Go.Proofs.YtjjmoihpjmojiaaDoor.D.Fn Tryd.prog 21 := ⟨Tryd.f21, Tryd.func21, by kernel_rfl, rfl⟩
set_option maxRecDepth 100000 in
theorem table_Drop.ok (p0 : (List Ver)) (p1 : Int) (r : table_Drop.R) (hH : table_Drop p0 p1 = some r) : Con Tryd.prog 21 [.sl (p0.map c_Ver), i64 p1] [] (table_Drop.rd p0 p1 r) (table_Drop.rh p0 p1 r) := by
  refine con_of Tryd.f21 21 (c := _) Tryd.func21 rfl rfl rfl ?_
  intro w a ν X h
  unfold table_Drop at hH
  refine k_reg ?_
  refine pures [0] hτ h rfl ?_
  intro a h
  refine k_end ?_
  refine k_reg ?_
  refine pures [0] hτ h rfl ?_
  intro a h
  obtain ⟨q1, hq1, hH⟩ := bnd hH
  obtain ⟨x2⟩ := q1
  refine s_call fn45 ((table_own.ok p0 _ hq1).sw_ 20900 19101) [] [19101] [] h (wanted_none rfl) rfl rfl rfl rfl rfl rfl ?_
  intro a w ν h
  refine pures [0] hτ h rfl ?_
  intro a h
  refine k_end ?_
  refine k_seq ?_
  refine k_reg ?_
  refine pures [0, 0] hτ h rfl ?_
  intro a h
  have h := h.frzH (q := 19101) rfl (fzn_map (fun _ => rfl))
  obtain ⟨q3, hq3, hH⟩ := bnd hH
  obtain ⟨x4⟩ := q3
  refine s_call1 fn46 (table_at.ok x2 p1 _ hq3) [] h (wanted_none rfl) rfl rfl rfl rfl rfl ?_
  intro a w ν h
  refine pures [0] hτ h rfl ?_
  intro a h
  refine k_end ?_
  refine k_reg ?_
  refine pures [0, 0, 0, 0] hτ h rfl ?_
  intro a h
  refine k_end ?_
  refine k_ifH hH h rfl (fun hb hH => ?_) (fun hb hH => ?_)
  · cases hH
  · refine k_skip ?_
    refine t_then ?_
    refine k_reg ?_
    refine pures [0, 0] hτ h rfl ?_
    intro a h
    refine k_end ?_
    refine wp_ret ?_
    cases hH
    exact r_ret hτ [] h rfl rfl rfl
/-! ### wayfinder/agent.own -/
structure agent_own.R where
  o0 ::
  y0 : Switch
  deriving Inhabited
def agent_own.rd (p0 : Switch) (r : agent_own.R) : DV := .agg [i64 r.y0.Epoch, i64 r.y0.Seen, bo r.y0.Open, i64 r.y0.Stamp, i64 r.y0.Bad, .sl (r.y0.L.map c_Ver), i64 r.y0.Junk]
def agent_own.rh (p0 : Switch) (r : agent_own.R) : Hp := []
def agent_own (p0 : Switch) : Option agent_own.R := (table_Drop p0.L (-1) >>= fun q1 => match q1 with | .o0 x2 => some (agent_own.R.o0 (Switch.mk p0.Epoch p0.Seen p0.Open p0.Stamp p0.Bad x2 p0.Junk)))
theorem fn38 : Go.Proofs.YtjjmoihpjmojiaaDoor.D.Fn Tryd.prog 38 := ⟨Tryd.f38, Tryd.func38, by kernel_rfl, rfl⟩
set_option maxRecDepth 100000 in
theorem agent_own.ok (p0 : Switch) (r : agent_own.R) (hH : agent_own p0 = some r) : Con Tryd.prog 38 [.agg [i64 p0.Epoch, i64 p0.Seen, bo p0.Open, i64 p0.Stamp, i64 p0.Bad, .sl (p0.L.map c_Ver), i64 p0.Junk]] [] (agent_own.rd p0 r) (agent_own.rh p0 r) := by
  refine con_of Tryd.f38 8 (c := _) Tryd.func38 rfl rfl rfl ?_
  intro w a ν X h
  unfold agent_own at hH
  refine k_reg ?_
  refine s_new h (wanted_none rfl) rfl rfl (e_box (r := 18101) (g := none) h.f h.o rfl trivial rfl rfl) ?_
  intro a w ν h
  refine s_new h (wanted_none rfl) rfl rfl (e_alloc (r := 18102) hτ h.o rfl rfl) ?_
  intro a w ν h
  refine k_end ?_
  refine k_reg ?_
  refine pures [0, 0] hτ h rfl ?_
  intro a h
  obtain ⟨q1, hq1, hH⟩ := bnd hH
  obtain ⟨x2⟩ := q1
  refine s_call1 fn21 (table_Drop.ok p0.L (-1) _ hq1) [] h (wanted_none rfl) rfl rfl rfl rfl rfl ?_
  intro a w ν h
  refine pures [0] hτ h rfl ?_
  intro a h
  refine s_store hτ h (wanted_none rfl) rfl rfl rfl rfl rfl ?_
  intro a w ν h
  refine k_end ?_
  refine k_reg ?_
  refine pures [0] hτ h rfl ?_
  intro a h
  refine s_store hτ h (wanted_none rfl) rfl rfl rfl rfl rfl ?_
  intro a w ν h
  refine k_end ?_
  refine wp_ret ?_
  cases hH
  exact r_ret hτ [] h rfl rfl rfl
/-! ### wayfinder/frame.unless -/
structure frame_unless.R where
  o0 ::
  y0 : Int
  deriving Inhabited
def frame_unless.rd (p0 : Bool) (p1 : Int) (r : frame_unless.R) : DV := i64 r.y0
def frame_unless.rh (p0 : Bool) (p1 : Int) (r : frame_unless.R) : Hp := []
def frame_unless (p0 : Bool) (p1 : Int) : Option frame_unless.R := (if p0 then some (frame_unless.R.o0 p1) else some (frame_unless.R.o0 0))
theorem fn80 : Go.Proofs.YtjjmoihpjmojiaaDoor.D.Fn Tryd.prog 80 := ⟨Tryd.f80, Tryd.func80, by kernel_rfl, rfl⟩
set_option maxRecDepth 100000 in
theorem frame_unless.ok (p0 : Bool) (p1 : Int) (r : frame_unless.R) (hH : frame_unless p0 p1 = some r) : Con Tryd.prog 80 [bo p0, i64 p1] [] (frame_unless.rd p0 p1 r) (frame_unless.rh p0 p1 r) := by
  refine con_of Tryd.f80 7 (c := _) Tryd.func80 rfl rfl rfl ?_
  intro w a ν X h
  unfold frame_unless at hH
  refine k_reg ?_
  refine pures [0] hτ h rfl ?_
  intro a h
  refine k_end ?_
  refine k_seq ?_
  refine k_reg ?_
  refine pures [0] hτ h rfl ?_
  intro a h
  refine k_end ?_
  refine k_ifH hH h rfl (fun hb hH => ?_) (fun hb hH => ?_)
  · refine k_reg ?_
    refine pures [0, 0] hτ h rfl ?_
    intro a h
    refine k_end ?_
    refine wp_ret ?_
    cases hH
    exact r_ret hτ [] h rfl rfl rfl
  · refine k_skip ?_
    refine t_then ?_
    refine k_reg ?_
    refine pures [0] hτ h rfl ?_
    intro a h
    refine k_end ?_
    refine wp_ret ?_
    cases hH
    exact r_ret hτ [] h rfl rfl rfl
/-! ### wayfinder/frame.Open$2 -/
structure frame_Open_2.R where
  o0 ::
  y0 : Int
  deriving Inhabited
def frame_Open_2.rd (p0 : (List Int)) (r : frame_Open_2.R) : DV := i64 r.y0
def frame_Open_2.rh (p0 : (List Int)) (r : frame_Open_2.R) : Hp := [(28000, .blk 36 [.sl (p0.map c_u8)])]
def frame_Open_2 (p0 : (List Int)) : Option frame_Open_2.R := (frame_unless (decide ((lenc c_u8 p0) < 4)) 3 >>= fun q1 => match q1 with | .o0 x2 => some (frame_Open_2.R.o0 x2))
theorem fn79 : Go.Proofs.YtjjmoihpjmojiaaDoor.D.Fn Tryd.prog 79 := ⟨Tryd.f79, Tryd.func79, by kernel_rfl, rfl⟩
set_option maxRecDepth 100000 in
theorem frame_Open_2.ok (p0 : (List Int)) (r : frame_Open_2.R) (hH : frame_Open_2 p0 = some r) : Con Tryd.prog 79 [.ptr 28000 0] [(28000, .blk 36 [.sl (p0.map c_u8)])] (frame_Open_2.rd p0 r) (frame_Open_2.rh p0 r) := by
  refine con_of Tryd.f79 6 (c := _) Tryd.func79 rfl rfl rfl ?_
  intro w a ν X h
  unfold frame_Open_2 at hH
  refine k_reg ?_
  refine pures [0] hτ h rfl ?_
  intro a h
  refine k_end ?_
  refine k_reg ?_
  refine pures [0, 0, 0] hτ h rfl ?_
  intro a h
  obtain ⟨q1, hq1, hH⟩ := bnd hH
  obtain ⟨x2⟩ := q1
  refine s_call1 fn80 (frame_unless.ok (decide ((lenc c_u8 p0) < 4)) 3 _ hq1) [] h (wanted_none rfl) rfl rfl rfl rfl rfl ?_
  intro a w ν h
  refine pures [0] hτ h rfl ?_
  intro a h
  refine k_end ?_
  refine wp_ret ?_
  cases hH
  have h := h.pick_ [1] [28000] rfl rfl rfl
  exact r_ret hτ [28000] h rfl rfl rfl
/-! ### wayfinder/frame.Open$3 -/
structure frame_Open_3.R where
  o0 ::
  y0 : Int
  y1 : Int
  deriving Inhabited
def frame_Open_3.rd (p0 : (List Int)) (p1 : Int) (r : frame_Open_3.R) : DV := i64 r.y0
def frame_Open_3.rh (p0 : (List Int)) (p1 : Int) (r : frame_Open_3.R) : Hp := [(30000, .blk 36 [.sl (p0.map c_u8)]), (30001, .blk 3 [i64 r.y1])]
def frame_Open_3 (p0 : (List Int)) (p1 : Int) : Option frame_Open_3.R := (at_ p0 1 >>= fun x1 => (at_ p0 0 >>= fun x2 => (frame_unless (x2 != 197) 2 >>= fun q3 => match q3 with | .o0 x4 => some (frame_Open_3.R.o0 x4 (IntKind.i64.wrap x1)))))
theorem fn81 : Go.Proofs.YtjjmoihpjmojiaaDoor.D.Fn Tryd.prog 81 := ⟨Tryd.f81, Tryd.func81, by kernel_rfl, rfl⟩
set_option maxRecDepth 100000 in
theorem frame_Open_3.ok (p0 : (List Int)) (p1 : Int) (r : frame_Open_3.R) (hH : frame_Open_3 p0 p1 = some r) : Con Tryd.prog 81 [.ptr 30000 0, .ptr 30001 0] [(30000, .blk 36 [.sl (p0.map c_u8)]), (30001, .blk 3 [i64 p1])] (frame_Open_3.rd p0 p1 r) (frame_Open_3.rh p0 p1 r) := by
  refine con_of Tryd.f81 12 (c := _) Tryd.func81 rfl rfl rfl ?_
  intro w a ν X h
  unfold frame_Open_3 at hH
  refine k_reg ?_
  refine pures [0] hτ h rfl ?_
  intro a h
  refine k_end ?_
  refine k_reg ?_
  refine pures [0] hτ h rfl ?_
  intro a h
  obtain ⟨x1, hx1, hH⟩ := bnd hH
  refine s_idx hτ h (wanted_none rfl) rfl rfl rfl rfl (at_map hx1 c_u8).1 (at_map hx1 c_u8).2 ?_
  intro a w ν h
  refine pures [0, 0] hτ h rfl ?_
  intro a h
  refine s_store hτ h (wanted_none rfl) rfl rfl rfl rfl rfl ?_
  intro a w ν h
  refine k_end ?_
  refine k_reg ?_
  refine pures [0] hτ h rfl ?_
  intro a h
  obtain ⟨x2, hx2, hH⟩ := bnd hH
  refine s_idx hτ h (wanted_none rfl) rfl rfl rfl rfl (at_map hx2 c_u8).1 (at_map hx2 c_u8).2 ?_
  intro a w ν h
  refine pures [0, 0] hτ h rfl ?_
  intro a h
  obtain ⟨q3, hq3, hH⟩ := bnd hH
  obtain ⟨x4⟩ := q3
  refine s_call1 fn80 (frame_unless.ok (x2 != 197) 2 _ hq3) [] h (wanted_none rfl) rfl rfl rfl rfl rfl ?_
  intro a w ν h
  refine pures [0] hτ h rfl ?_
  intro a h
  refine k_end ?_
  refine wp_ret ?_
  cases hH
  have h := h.pick_ [2] [30000, 30001] rfl rfl rfl
  exact r_ret hτ [30000, 30001] h rfl rfl rfl
/-! ### wayfinder/frame.Open$1 -/
structure frame_Open_1.R where
  o0 ::
  y0 : Int
  deriving Inhabited
def frame_Open_1.rd (p0 : Int) (r : frame_Open_1.R) : DV := i64 r.y0
def frame_Open_1.rh (p0 : Int) (r : frame_Open_1.R) : Hp := [(32000, .blk 3 [i64 p0])]
def frame_Open_1 (p0 : Int) : Option frame_Open_1.R := some (frame_Open_1.R.o0 (IntKind.i64.wrap ((IntKind.i64.wrap ((IntKind.i64.wrap (2 + p0)) + (p0.tmod 2))) + 2)))
theorem fn78 : Go.Proofs.YtjjmoihpjmojiaaDoor.D.Fn Tryd.prog 78 := ⟨Tryd.f78, Tryd.func78, by kernel_rfl, rfl⟩
set_option maxRecDepth 100000 in
theorem frame_Open_1.ok (p0 : Int) (r : frame_Open_1.R) (hH : frame_Open_1 p0 = some r) : Con Tryd.prog 78 [.ptr 32000 0] [(32000, .blk 3 [i64 p0])] (frame_Open_1.rd p0 r) (frame_Open_1.rh p0 r) := by
  refine con_of Tryd.f78 8 (c := _) Tryd.func78 rfl rfl rfl ?_
  intro w a ν X h
  unfold frame_Open_1 at hH
  refine k_reg ?_
  refine pures [0] hτ h rfl ?_
  intro a h
  refine k_end ?_
  refine k_reg ?_
  refine pures [0, 0, 0, 0, 0, 0, 0] hτ h rfl ?_
  intro a h
  refine k_end ?_
  refine wp_ret ?_
  cases hH
  have h := h.pick_ [1] [32000] rfl rfl rfl
  exact r_ret hτ [32000] h rfl rfl rfl
/-! ### wayfinder/frame.Open$4 -/
structure frame_Open_4.R where
  o0 ::
  y0 : Int
  deriving Inhabited
def frame_Open_4.rd (p0 : (List Int)) (p1 : Int) (r : frame_Open_4.R) : DV := i64 r.y0
def frame_Open_4.rh (p0 : (List Int)) (p1 : Int) (r : frame_Open_4.R) : Hp := [(31000, .blk 36 [.sl (p0.map c_u8)]), (31001, .blk 3 [i64 p1]), (31002, .blk 140 [.fn (.func 78) [] [.ptr 31001 0]])]
def frame_Open_4 (p0 : (List Int)) (p1 : Int) : Option frame_Open_4.R := (frame_Open_1 p1 >>= fun x1 => (frame_unless (decide ((lenc c_u8 p0) < x1.y0)) 3 >>= fun q2 => match q2 with | .o0 x3 => some (frame_Open_4.R.o0 x3)))
theorem fn82 : Go.Proofs.YtjjmoihpjmojiaaDoor.D.Fn Tryd.prog 82 := ⟨Tryd.f82, Tryd.func82, by kernel_rfl, rfl⟩
set_option maxRecDepth 100000 in
theorem frame_Open_4.ok (p0 : (List Int)) (p1 : Int) (r : frame_Open_4.R) (hH : frame_Open_4 p0 p1 = some r) : Con Tryd.prog 82 [.ptr 31000 0, .ptr 31002 0] [(31000, .blk 36 [.sl (p0.map c_u8)]), (31001, .blk 3 [i64 p1]), (31002, .blk 140 [.fn (.func 78) [] [.ptr 31001 0]])] (frame_Open_4.rd p0 p1 r) (frame_Open_4.rh p0 p1 r) := by
  refine con_of Tryd.f82 9 (c := _) Tryd.func82 rfl rfl rfl ?_
  intro w a ν X h
  unfold frame_Open_4 at hH
  refine k_reg ?_
  refine pures [0] hτ h rfl ?_
  intro a h
  refine k_end ?_
  refine k_seq ?_
  refine k_any mixed h ?_
  intro w ν h
  obtain ⟨x1, hx1, hH⟩ := bnd hH
  have h : St _ [(0, none, .ptr 31000 0), (1, none, .ptr 31002 0), (2, none, i64 0)] [(31000, .blk 36 [.sl (p0.map c_u8)]), (31001, .blk 3 [i64 p1]), (31002, .blk 140 [.fn (.func 78) [] [.ptr 31001 0]])] _ w a ν := h.pickG [0, 1, 2] [31000, 31001, 31002] (by kernel_rfl) (by kernel_rfl) (by kernel_rfl)
  refine mid_any (fs := [⟨some (3, none, .sl (p0.map c_u8)), [], []⟩, ⟨some (4, none, i64 (lenc c_u8 p0)), [], []⟩, ⟨some (5, none, .fn (.func 78) [] [.ptr 31001 0]), [], []⟩, ⟨some (6, none, i64 x1.y0), [], []⟩]) 0 [([], [31000]), ([0], []), ([], [31002]), ([2], [31001])] (by kernel_rfl) h (by kernel_rfl) ⟨ok_plain rfl (p_pure hτ (by kernel_rfl)), ok_plain rfl (p_pure hτ (by kernel_rfl)), ok_plain rfl (p_pure hτ (by kernel_rfl)), ok_plain rfl (p_callR (ds0 := [.ptr 31001 0]) fn78 ((frame_Open_1.ok p1 _ hx1).sw_ 32000 31001) [] (by kernel_rfl) (by kernel_rfl) (by kernel_rfl) (by kernel_rfl)), trivial⟩ ?_
  intro a w ν h
  have h : St _ [(2, none, i64 0), (4, none, i64 (lenc c_u8 p0)), (6, none, i64 x1.y0)] [(31000, .blk 36 [.sl (p0.map c_u8)]), (31001, .blk 3 [i64 p1]), (31002, .blk 140 [.fn (.func 78) [] [.ptr 31001 0]])] _ w a ν := h.pickG [2, 4, 6] [31000, 31001, 31002] (by kernel_rfl) (by kernel_rfl) (by kernel_rfl)
  refine mid_list 4 (by kernel_rfl) (by kernel_rfl) ?_
  refine pures [0] hτ h rfl ?_
  intro a h
  obtain ⟨q2, hq2, hH⟩ := bnd hH
  obtain ⟨x3⟩ := q2
  refine s_call1 fn80 (frame_unless.ok (decide ((lenc c_u8 p0) < x1.y0)) 3 _ hq2) [] h (wanted_none rfl) rfl rfl rfl rfl rfl ?_
  intro a w ν h
  refine pures [0] hτ h rfl ?_
  intro a h
  refine k_end1 ?_
  refine t_then ?_
  refine wp_ret ?_
  cases hH
  have h := h.pick_ [2] [31000, 31001, 31002] rfl rfl rfl
  exact r_ret hτ [31000, 31001, 31002] h rfl rfl rfl
/-! ### wayfinder/frame.Open$5 -/
structure frame_Open_5.R where
  o0 ::
  y0 : Int
  deriving Inhabited
def frame_Open_5.rd (p0 : (List Int)) (p1 : Int) (r : frame_Open_5.R) : DV := i64 r.y0
def frame_Open_5.rh (p0 : (List Int)) (p1 : Int) (r : frame_Open_5.R) : Hp := [(33000, .blk 36 [.sl (p0.map c_u8)]), (33001, .blk 3 [i64 p1]), (33002, .blk 140 [.fn (.func 78) [] [.ptr 33001 0]])]
def frame_Open_5 (p0 : (List Int)) (p1 : Int) : Option frame_Open_5.R := (frame_Open_1 p1 >>= fun x1 => (frame_unless (decide ((lenc c_u8 p0) > x1.y0)) 2 >>= fun q2 => match q2 with | .o0 x3 => some (frame_Open_5.R.o0 x3)))
theorem fn83 : Go.Proofs.YtjjmoihpjmojiaaDoor.D.Fn Tryd.prog 83 := ⟨Tryd.f83, Tryd.func83, by kernel_rfl, rfl⟩
set_option maxRecDepth 100000 in
theorem frame_Open_5.ok (p0 : (List Int)) (p1 : Int) (r : frame_Open_5.R) (hH : frame_Open_5 p0 p1 = some r) : Con Tryd.prog 83 [.ptr 33000 0, .ptr 33002 0] [(33000, .blk 36 [.sl (p0.map c_u8)]), (33001, .blk 3 [i64 p1]), (33002, .blk 140 [.fn (.func 78) [] [.ptr 33001 0]])] (frame_Open_5.rd p0 p1 r) (frame_Open_5.rh p0 p1 r) := by
  refine con_of Tryd.f83 9 (c := _) Tryd.func83 rfl rfl rfl ?_
  intro w a ν X h
  unfold frame_Open_5 at hH
  refine k_reg ?_
  refine pures [0] hτ h rfl ?_
  intro a h
  refine k_end ?_
  refine k_seq ?_
  refine k_any mixed h ?_
  intro w ν h
  obtain ⟨x1, hx1, hH⟩ := bnd hH
  have h : St _ [(0, none, .ptr 33000 0), (1, none, .ptr 33002 0), (2, none, i64 0)] [(33000, .blk 36 [.sl (p0.map c_u8)]), (33001, .blk 3 [i64 p1]), (33002, .blk 140 [.fn (.func 78) [] [.ptr 33001 0]])] _ w a ν := h.pickG [0, 1, 2] [33000, 33001, 33002] (by kernel_rfl) (by kernel_rfl) (by kernel_rfl)
  refine mid_any (fs := [⟨some (3, none, .sl (p0.map c_u8)), [], []⟩, ⟨some (4, none, i64 (lenc c_u8 p0)), [], []⟩, ⟨some (5, none, .fn (.func 78) [] [.ptr 33001 0]), [], []⟩, ⟨some (6, none, i64 x1.y0), [], []⟩]) 0 [([], [33000]), ([0], []), ([], [33002]), ([2], [33001])] (by kernel_rfl) h (by kernel_rfl) ⟨ok_plain rfl (p_pure hτ (by kernel_rfl)), ok_plain rfl (p_pure hτ (by kernel_rfl)), ok_plain rfl (p_pure hτ (by kernel_rfl)), ok_plain rfl (p_callR (ds0 := [.ptr 33001 0]) fn78 ((frame_Open_1.ok p1 _ hx1).sw_ 32000 33001) [] (by kernel_rfl) (by kernel_rfl) (by kernel_rfl) (by kernel_rfl)), trivial⟩ ?_
  intro a w ν h
  have h : St _ [(2, none, i64 0), (4, none, i64 (lenc c_u8 p0)), (6, none, i64 x1.y0)] [(33000, .blk 36 [.sl (p0.map c_u8)]), (33001, .blk 3 [i64 p1]), (33002, .blk 140 [.fn (.func 78) [] [.ptr 33001 0]])] _ w a ν := h.pickG [2, 4, 6] [33000, 33001, 33002] (by kernel_rfl) (by kernel_rfl) (by kernel_rfl)
  refine mid_list 4 (by kernel_rfl) (by kernel_rfl) ?_
  refine pures [0] hτ h rfl ?_
  intro a h
  obtain ⟨q2, hq2, hH⟩ := bnd hH
  obtain ⟨x3⟩ := q2
  refine s_call1 fn80 (frame_unless.ok (decide ((lenc c_u8 p0) > x1.y0)) 2 _ hq2) [] h (wanted_none rfl) rfl rfl rfl rfl rfl ?_
  intro a w ν h
  refine pures [0] hτ h rfl ?_
  intro a h
  refine k_end1 ?_
  refine t_then ?_
  refine wp_ret ?_
  cases hH
  have h := h.pick_ [2] [33000, 33001, 33002] rfl rfl rfl
  exact r_ret hτ [33000, 33001, 33002] h rfl rfl rfl
/-! ### wayfinder/octets.Sum -/
structure octets_Sum_1.R where
  o0 ::
  y0 : Int
  deriving Inhabited
def octets_Sum_1.rd (p0 : (List Int)) (r : octets_Sum_1.R) : DV := i64 r.y0
def octets_Sum_1.rh (p0 : (List Int)) (r : octets_Sum_1.R) : Hp := []
def octets_Sum_1.l0 (p0 : (List Int)) (s1 : Int × Int) : Option (Int) := (if decide (s1.2 < (lenc c_u8 p0)) then (at_ p0 s1.2 >>= fun x5 => (nat_ (IntKind.i64.wrap (8 * ((IntKind.i64.wrap (s1.2 + 1)).tmod 2))) >>= fun x6 => octets_Sum_1.l0 p0 (IntKind.i64.wrap (s1.1 + (shl_ .i64 (IntKind.i64.wrap x5) x6)), IntKind.i64.wrap (s1.2 + 1)))) else some s1.1)
  partial_fixpoint
def octets_Sum_1.l1 (s2 : Int) : Option octets_Sum_1.R := (if decide (s2 > 65535) then octets_Sum_1.l1 (IntKind.i64.wrap ((shr_ .i64 s2 16) + (Go.bits .and .i64 s2 65535))) else some (octets_Sum_1.R.o0 (IntKind.i64.wrap (65535 - s2))))
  partial_fixpoint
def octets_Sum_1.l2 (p0 : (List Int)) (s3 : Int × Int) : Option (Int) := (if decide (s3.2 < (lenc c_u8 p0)) then (at_ p0 s3.2 >>= fun x11 => (nat_ (IntKind.i64.wrap (8 * ((IntKind.i64.wrap (s3.2 + 1)).tmod 2))) >>= fun x12 => octets_Sum_1.l2 p0 (IntKind.i64.wrap (s3.1 + (shl_ .i64 (IntKind.i64.wrap x11) x12)), IntKind.i64.wrap (s3.2 + 1)))) else some s3.1)
  partial_fixpoint
def octets_Sum_1 (p0 : (List Int)) : Option octets_Sum_1.R := (octets_Sum_1.l2 p0 (0, 0) >>= fun z3 => octets_Sum_1.l1 z3)
set_option maxRecDepth 100000 in
theorem octets_Sum_1.ok (p0 : (List Int)) (r : octets_Sum_1.R) (hH : octets_Sum_1 p0 = some r) : Con Tryd.prog 37 [.sl (p0.map c_u8)] [] (octets_Sum_1.rd p0 r) (octets_Sum_1.rh p0 r) := by
  refine con_of Tryd.f37 32 (c := _) Tryd.func37 rfl rfl rfl ?_
  intro w a ν X h
  unfold octets_Sum_1 at hH
  refine k_reg ?_
  refine pures [0] hτ h rfl ?_
  intro a h
  refine k_end ?_
  refine k_scope h (octets_Sum_1.l1.partial_correctness) 0 rfl (fun (s2 : Int) => [(3, none, i64 s2)]) (fun (s2 : Int) => []) (fun _ => True) (o := r) trivial ?_ (fun g s2 hH a w ν h => ?_)
  · refine k_reg ?_
    refine pures [0] hτ h rfl ?_
    intro a h
    refine k_end ?_
    refine k_seq ?_
    refine k_reg ?_
    refine pures [0, 0, 0] hτ h rfl ?_
    intro a h
    refine k_end ?_
    have h := h.pick_ [3, 6, 7, 8] [] rfl rfl rfl
    refine k_cut0 h hH (fun (z3 : Int) => [(3, none, i64 z3)]) (fun (z3 : Int) => []) (fun o ho => ?_) (fun z3 a w ν hH h => ?_)
    · refine k_blk ?_
      refine k_loopC0 (octets_Sum_1.l2.partial_correctness p0) (fun (s3 : Int × Int) => [(3, none, i64 s3.1), (6, none, .sl (p0.map c_u8)), (7, none, i64 (lenc c_u8 p0)), (8, none, i64 s3.2)]) (fun (s3 : Int × Int) => []) ho h ?_
      intro g s3 o hH a w ν h
      refine k_reg ?_
      refine pures [0] hτ h rfl ?_
      intro a h
      refine k_end ?_
      refine k_seq ?_
      refine k_ifH hH h rfl (fun hb hH => ?_) (fun hb hH => ?_)
      · refine k_skip ?_
        refine t_then ?_
        refine k_seq ?_
        refine k_blk ?_
        refine k_reg ?_
        refine pures [0] hτ h rfl ?_
        intro a h
        obtain ⟨x11, hx11, hH⟩ := bnd hH
        refine s_idx hτ h (wanted_none rfl) rfl rfl rfl rfl (at_map hx11 c_u8).1 (at_map hx11 c_u8).2 ?_
        intro a w ν h
        refine pures [0, 0, 0] hτ h rfl ?_
        intro a h
        refine k_end ?_
        refine k_reg1 ?_
        refine pures [0, 0, 0, 0, 0, 0, 0] hτ h rfl ?_
        intro a h
        obtain ⟨x12, hx12, hH⟩ := bnd hH
        refine s_pv0 h [] (wanted_none rfl) rfl rfl (p_of0 rfl fun w a ν X hO hF hg => e_sh hF hO hg rfl (of_nat hx12) rfl) ?_
        intro a w ν h
        refine pures [0, 0] hτ h rfl ?_
        intro a h
        refine k_end1 ?_
        refine t_blk ?_
        refine t_then ?_
        refine k_reg1 ?_
        refine pures [0, 0] hτ h rfl ?_
        intro a h
        refine k_end1 ?_
        have h := h.pick_ [3, 6, 7, 8] [] rfl rfl rfl
        exact ⟨_, _, hH, h.pick_ [3, 6, 7, 8] [] rfl rfl rfl⟩
      · refine wp_exit ?_
        refine t_te ?_
        refine t_te ?_
        refine t_exit ?_
        have h := h.pick_ [3] [] rfl rfl rfl
        cases hH
        exact ⟨_, h.pick_ [3] [] rfl rfl rfl⟩
    · refine t_then ?_
      refine k_seq ?_
      refine wp_label ?_
      have h := h.pick_ [3] [] rfl rfl rfl
      rw [octets_Sum_1.l1] at hH
      refine t_then ?_
      refine k_seq ?_
      refine k_reg ?_
      refine pures [0, 0] hτ h rfl ?_
      intro a h
      refine k_end ?_
      refine k_ifH hH h rfl (fun hb hH => ?_) (fun hb hH => ?_)
      · refine k_reg ?_
        refine pures [0, 0, 0, 0, 0, 0] hτ h rfl ?_
        intro a h
        refine k_end ?_
        refine wp_goto ?_
        refine t_tg ?_
        have h := h.pick_ [3] [] rfl rfl rfl
        exact j_goto hH (h.pick_ [3] [] rfl rfl rfl)
      · refine k_skip ?_
        refine t_then ?_
        refine k_reg ?_
        refine pures [0, 0, 0] hτ h rfl ?_
        intro a h
        refine k_end ?_
        refine wp_ret ?_
        cases hH
        exact r_ret hτ [] h rfl rfl rfl
  · refine k_seq ?_
    refine k_skip ?_
    refine t_then ?_
    refine k_seq ?_
    refine k_reg ?_
    refine pures [0, 0] hτ h rfl ?_
    intro a h
    refine k_end ?_
    refine k_ifH hH h rfl (fun hb hH => ?_) (fun hb hH => ?_)
    · refine k_reg ?_
      refine pures [0, 0, 0, 0, 0, 0] hτ h rfl ?_
      intro a h
      refine k_end ?_
      refine wp_goto ?_
      refine t_tg ?_
      have h := h.pick_ [3] [] rfl rfl rfl
      exact j_goto hH (h.pick_ [3] [] rfl rfl rfl)
    · refine k_skip ?_
      refine t_then ?_
      refine k_reg ?_
      refine pures [0, 0, 0] hτ h rfl ?_
      intro a h
      refine k_end ?_
      refine wp_ret ?_
      cases hH
      exact r_ret hτ [] h rfl rfl rfl
/-! ### wayfinder/frame.Open$6 -/
structure frame_Open_6.R where
  o0 ::
  y0 : Int
  deriving Inhabited
def frame_Open_6.rd (p0 : (List Int)) (r : frame_Open_6.R) : DV := i64 r.y0
def frame_Open_6.rh (p0 : (List Int)) (r : frame_Open_6.R) : Hp := [(34000, .blk 36 [.sl (p0.map c_u8)])]
def frame_Open_6 (p0 : (List Int)) : Option frame_Open_6.R := (octets_Sum_1 p0 >>= fun q1 => match q1 with | .o0 x2 => (frame_unless (x2 != 0) 4 >>= fun q3 => match q3 with | .o0 x4 => some (frame_Open_6.R.o0 x4)))
theorem fn84 : Go.Proofs.YtjjmoihpjmojiaaDoor.D.Fn Tryd.prog 84 := ⟨Tryd.f84, Tryd.func84, by kernel_rfl, rfl⟩
set_option maxRecDepth 100000 in
theorem frame_Open_6.ok (p0 : (List Int)) (r : frame_Open_6.R) (hH : frame_Open_6 p0 = some r) : Con Tryd.prog 84 [.ptr 34000 0] [(34000, .blk 36 [.sl (p0.map c_u8)])] (frame_Open_6.rd p0 r) (frame_Open_6.rh p0 r) := by
  refine con_of Tryd.f84 6 (c := _) Tryd.func84 rfl rfl rfl ?_
  intro w a ν X h
  unfold frame_Open_6 at hH
  refine k_reg ?_
  refine pures [0] hτ h rfl ?_
  intro a h
  refine k_end ?_
  refine k_reg ?_
  refine pures [0] hτ h rfl ?_
  intro a h
  obtain ⟨q1, hq1, hH⟩ := bnd hH
  obtain ⟨x2⟩ := q1
  refine s_call1 fn37 (octets_Sum_1.ok p0 _ hq1) [] h (wanted_none rfl) rfl rfl rfl rfl rfl ?_
  intro a w ν h
  refine pures [0] hτ h rfl ?_
  intro a h
  obtain ⟨q3, hq3, hH⟩ := bnd hH
  obtain ⟨x4⟩ := q3
  refine s_call1 fn80 (frame_unless.ok (x2 != 0) 4 _ hq3) [] h (wanted_none rfl) rfl rfl rfl rfl rfl ?_
  intro a w ν h
  refine pures [0] hτ h rfl ?_
  intro a h
  refine k_end ?_
  refine wp_ret ?_
  cases hH
  have h := h.pick_ [1] [34000] rfl rfl rfl
  exact r_ret hτ [34000] h rfl rfl rfl
/-! ### wayfinder/frame.Open$7 -/
structure frame_Open_7.R where
  o0 ::
  y0 : Int
  deriving Inhabited
def frame_Open_7.rd (p0 : (List Int)) (p1 : Int) (r : frame_Open_7.R) : DV := i64 r.y0
def frame_Open_7.rh (p0 : (List Int)) (p1 : Int) (r : frame_Open_7.R) : Hp := [(36000, .blk 36 [.sl (p0.map c_u8)]), (36001, .blk 3 [i64 p1])]
def frame_Open_7 (p0 : (List Int)) (p1 : Int) : Option frame_Open_7.R := (gd ((p1.tmod 2) == 1) (at_ p0 (IntKind.i64.wrap (2 + p1))) default >>= fun x1 => (frame_unless (((p1.tmod 2) == 1) && (x1 != 0)) 2 >>= fun q2 => match q2 with | .o0 x3 => some (frame_Open_7.R.o0 x3)))
theorem fn85 : Go.Proofs.YtjjmoihpjmojiaaDoor.D.Fn Tryd.prog 85 := ⟨Tryd.f85, Tryd.func85, by kernel_rfl, rfl⟩
set_option maxRecDepth 100000 in
theorem frame_Open_7.ok (p0 : (List Int)) (p1 : Int) (r : frame_Open_7.R) (hH : frame_Open_7 p0 p1 = some r) : Con Tryd.prog 85 [.ptr 36001 0, .ptr 36000 0] [(36000, .blk 36 [.sl (p0.map c_u8)]), (36001, .blk 3 [i64 p1])] (frame_Open_7.rd p0 p1 r) (frame_Open_7.rh p0 p1 r) := by
  refine con_of Tryd.f85 15 (c := _) Tryd.func85 rfl rfl rfl ?_
  intro w a ν X h
  unfold frame_Open_7 at hH
  refine k_reg ?_
  refine pures [0] hτ h rfl ?_
  intro a h
  refine k_end ?_
  refine k_reg ?_
  refine pures [0, 0, 0, 0, 1, 1, 1] hτ h rfl ?_
  intro a h
  obtain ⟨x1, hx1, hH⟩ := bnd hH
  refine s_gd h [] rfl rfl rfl rfl rfl rfl (fun hbu => p_of0 rfl fun w a ν X hO hF hg => e_idx hτ hF hO hg rfl rfl (at_map ((of_gd hx1).1 (by first | exact hbu | exact nt_ hbu)) c_u8).1 (at_map ((of_gd hx1).1 (by first | exact hbu | exact nt_ hbu)) c_u8).2) ?_
  intro a w ν h
  refine pures [1, 1, 0] hτ h rfl ?_
  intro a h
  obtain ⟨q2, hq2, hH⟩ := bnd hH
  obtain ⟨x3⟩ := q2
  refine s_call1 fn80 (frame_unless.ok (((p1.tmod 2) == 1) && (x1 != 0)) 2 _ hq2) [] h (wanted_none rfl) rfl rfl rfl rfl rfl ?_
  intro a w ν h
  refine pures [0] hτ h rfl ?_
  intro a h
  refine k_end ?_
  refine wp_ret ?_
  cases hH
  have h := h.pick_ [2] [36000, 36001] rfl rfl rfl
  exact r_ret hτ [36000, 36001] h rfl rfl rfl
/-! ### wayfinder/octets.Get -/
structure octets_Get.R where
  o0 ::
  y0 : Int
  y1 : Int
  deriving Inhabited
def octets_Get.rd (p0 : (List Int)) (p1 : Int) (r : octets_Get.R) : DV := .tup [i64 r.y0, i64 r.y1]
def octets_Get.rh (p0 : (List Int)) (p1 : Int) (r : octets_Get.R) : Hp := []
def octets_Get.l0 (x3 : (List Int)) (s1 : Int × Int) : Option (Int) := (if decide (s1.2 < (lenc c_u8 x3)) then (at_ x3 s1.2 >>= fun x6 => octets_Get.l0 x3 (Go.bits .or .u32 (shl_ .u32 s1.1 8) (IntKind.u32.wrap x6), IntKind.i64.wrap (s1.2 + 1))) else some s1.1)
  partial_fixpoint
def octets_Get (p0 : (List Int)) (p1 : Int) : Option octets_Get.R := (octets_may p1 >>= fun q1 => match q1 with | .o0 x2 => (if !x2 then some (octets_Get.R.o0 0 1) else (if decide ((lenc c_u8 p0) < p1) then some (octets_Get.R.o0 0 3) else (cut_ p0 0 p1 >>= fun x3 => (octets_Get.l0 x3 (0, 0) >>= fun z1 => some (octets_Get.R.o0 (IntKind.i64.wrap z1) 0))))))
theorem fn141 : Go.Proofs.YtjjmoihpjmojiaaDoor.D.Fn Tryd.prog 141 := ⟨Tryd.f141, Tryd.func141, by kernel_rfl, rfl⟩
set_option maxRecDepth 100000 in
theorem octets_Get.ok (p0 : (List Int)) (p1 : Int) (r : octets_Get.R) (hH : octets_Get p0 p1 = some r) : Con Tryd.prog 141 [.sl (p0.map c_u8), i64 p1] [] (octets_Get.rd p0 p1 r) (octets_Get.rh p0 p1 r) := by
  refine con_of Tryd.f141 34 (c := _) Tryd.func141 rfl rfl rfl ?_
  intro w a ν X h
  unfold octets_Get at hH
  refine k_reg ?_
  refine pures [0, 0] hτ h rfl ?_
  intro a h
  refine k_end ?_
  refine k_seq ?_
  refine k_blk ?_
  refine k_reg ?_
  refine pures [0] hτ h rfl ?_
  intro a h
  obtain ⟨q1, hq1, hH⟩ := bnd hH
  obtain ⟨x2⟩ := q1
  refine s_call1 fn142 (octets_may.ok p1 _ hq1) [] h (wanted_none rfl) rfl rfl rfl rfl rfl ?_
  intro a w ν h
  refine pures [0, 0] hτ h rfl ?_
  intro a h
  refine k_end ?_
  refine k_ifH hH h rfl (fun hb hH => ?_) (fun hb hH => ?_)
  · refine k_reg ?_
    refine pures [0, 0] hτ h rfl ?_
    intro a h
    refine k_end ?_
    refine wp_ret ?_
    cases hH
    exact r_ret hτ [] h rfl rfl rfl
  · refine k_reg ?_
    refine pures [0, 0, 0, 0, 0] hτ h rfl ?_
    intro a h
    refine k_end ?_
    refine k_ifH hH h rfl (fun hb hH => ?_) (fun hb hH => ?_)
    · refine k_reg ?_
      refine pures [0, 0] hτ h rfl ?_
      intro a h
      refine k_end ?_
      refine wp_ret ?_
      cases hH
      exact r_ret hτ [] h rfl rfl rfl
    · refine k_skip ?_
      refine t_blk ?_
      refine t_then ?_
      refine k_reg ?_
      refine pures [0] hτ h rfl ?_
      intro a h
      refine k_end ?_
      refine k_seq ?_
      refine k_reg ?_
      refine pures [0, 0] hτ h rfl ?_
      intro a h
      obtain ⟨x3, hx3, hH⟩ := bnd hH
      obtain ⟨c1, c2, c3, c4⟩ := of_cut hx3 c_u8
      refine s_cut hτ h (wanted_none rfl) rfl rfl rfl (map_at (fun _ => rfl)) rfl rfl c1 c2 c3 c4 ?_
      intro a w ν h
      refine pures [0, 0] hτ h rfl ?_
      intro a h
      refine k_end ?_
      have h := h.pick_ [6, 20, 21, 22] [] rfl rfl rfl
      refine k_cut0 h hH (fun (z1 : Int) => [(6, none, u32 z1)]) (fun (z1 : Int) => []) (fun o ho => ?_) (fun z1 a w ν hH h => ?_)
      · refine k_blk ?_
        refine k_loopC0 (octets_Get.l0.partial_correctness x3) (fun (s1 : Int × Int) => [(6, none, u32 s1.1), (20, none, .sl (x3.map c_u8)), (21, none, i64 (lenc c_u8 x3)), (22, none, i64 s1.2)]) (fun (s1 : Int × Int) => []) ho h ?_
        intro g s1 o hH a w ν h
        refine k_reg ?_
        refine pures [0] hτ h rfl ?_
        intro a h
        refine k_end ?_
        refine k_seq ?_
        refine k_ifH hH h rfl (fun hb hH => ?_) (fun hb hH => ?_)
        · refine k_skip ?_
          refine t_then ?_
          refine k_seq ?_
          refine k_blk ?_
          refine k_reg ?_
          obtain ⟨x6, hx6, hH⟩ := bnd hH
          refine s_idx hτ h (wanted_none rfl) rfl rfl rfl rfl (at_map hx6 c_u8).1 (at_map hx6 c_u8).2 ?_
          intro a w ν h
          refine pures [0, 0] hτ h rfl ?_
          intro a h
          refine k_end ?_
          refine k_reg1 ?_
          refine pures [0, 0, 0, 0, 0, 0] hτ h rfl ?_
          intro a h
          refine k_end1 ?_
          refine t_blk ?_
          refine t_then ?_
          refine k_reg1 ?_
          refine pures [0, 0] hτ h rfl ?_
          intro a h
          refine k_end1 ?_
          have h := h.pick_ [6, 20, 21, 22] [] rfl rfl rfl
          exact ⟨_, _, hH, h.pick_ [6, 20, 21, 22] [] rfl rfl rfl⟩
        · refine wp_exit ?_
          refine t_te ?_
          refine t_te ?_
          refine t_exit ?_
          have h := h.pick_ [6] [] rfl rfl rfl
          cases hH
          exact ⟨_, h.pick_ [6] [] rfl rfl rfl⟩
      · refine t_then ?_
        refine k_reg ?_
        refine pures [0, 0, 0, 0] hτ h rfl ?_
        intro a h
        refine k_end ?_
        refine wp_ret ?_
        cases hH
        exact r_ret hτ [] h rfl rfl rfl
/-! ### wayfinder/octets.GetAll -/
inductive octets_GetAll.R where
  | o0 (y0 : Int) (y1 : Int)
  | o1 (y0 : Int) (y1 : Int) (y2 : (List Int))
  deriving Inhabited
def octets_GetAll.rd (p0 : (List Int)) (p1 : (List Int)) : octets_GetAll.R → DV
  | .o0 y0 y1 => .tup [.v (.slice none 0 0), i64 y0, i64 y1]
  | .o1 y0 y1 y2 => .tup [.own 38900, i64 y0, i64 y1]
def octets_GetAll.rh (p0 : (List Int)) (p1 : (List Int)) : octets_GetAll.R → Hp
  | .o0 y0 y1 => []
  | .o1 y0 y1 y2 => [(38900, .row 3 1 (y2.map c_i64))]
def octets_GetAll.l0 (p1 : (List Int)) (s1 : (List Int) × Int × (List Int)) : Option (Ou ((List Int) × (List Int)) octets_GetAll.R) := (if decide (s1.2.1 < (lenc c_i64 p1)) then (at_ p1 s1.2.1 >>= fun x19 => (octets_Get s1.1 x19 >>= fun q20 => match q20 with | .o0 x21 x22 => (if (x22 != 0) then some (.ret (octets_GetAll.R.o0 0 x22)) else (room 8 (s1.2.2 ++ ([x21] : List Int)) >>= fun x23 => (cut_ s1.1 x19 (lenc c_u8 s1.1) >>= fun x24 => octets_GetAll.l0 p1 (x24, IntKind.i64.wrap (s1.2.1 + 1), x23)))))) else some (.go (s1.1, s1.2.2)))
  partial_fixpoint
def octets_GetAll (p0 : (List Int)) (p1 : (List Int)) : Option octets_GetAll.R := (octets_GetAll.l0 p1 (p0, 0, []) >>= fun o => match o with | .ret r => some r | .go z1 => some (octets_GetAll.R.o1 (IntKind.i64.wrap ((lenc c_u8 p0) - (lenc c_u8 z1.1))) 0 z1.2))
theorem fn127 : Go.Proofs.YtjjmoihpjmojiaaDoor.D.Fn Tryd.prog 127 := ⟨Tryd.f127, Tryd.func127, by kernel_rfl, rfl⟩
set_option maxRecDepth 100000 in
theorem octets_GetAll.ok (p0 : (List Int)) (p1 : (List Int)) (r : octets_GetAll.R) (hH : octets_GetAll p0 p1 = some r) : Con Tryd.prog 127 [.sl (p0.map c_u8), .sl (p1.map c_i64)] [] (octets_GetAll.rd p0 p1 r) (octets_GetAll.rh p0 p1 r) := by
  refine con_of Tryd.f127 43 (c := _) Tryd.func127 rfl rfl rfl ?_
  intro w a ν X h
  unfold octets_GetAll at hH
  refine k_reg ?_
  refine pures [0, 0, 0] hτ h rfl ?_
  intro a h
  refine k_end ?_
  refine k_reg ?_
  refine pures [0] hτ h rfl ?_
  intro a h
  refine k_end ?_
  refine k_reg ?_
  refine pures [0, 0] hτ h rfl ?_
  intro a h
  refine k_end ?_
  refine k_seq ?_
  refine k_reg ?_
  refine pures [0, 0, 0] hτ h rfl ?_
  intro a h
  refine k_end ?_
  obtain ⟨ν, h⟩ := h.nilrow 7 38111 3 1 rfl rfl
  have h := h.pick_ [0, 7, 8, 14, 15, 16] [38111] rfl rfl rfl
  have h := h.sw_ 38111 38104 rfl
  refine k_cut h hH (fun (z1 : (List Int) × (List Int)) => [(0, none, .sl (p0.map c_u8)), (7, none, .own 38104), (8, none, .sl (z1.1.map c_u8))]) (fun (z1 : (List Int) × (List Int)) => [(38104, .row 3 1 (z1.2.map c_i64))]) (fun o0 ho hk0 => ?_) (fun z1 a w ν hH h => ?_)
  · refine k_blk ?_
    refine k_loopC (octets_GetAll.l0.partial_correctness p1) (fun (s1 : (List Int) × Int × (List Int)) => [(0, none, .sl (p0.map c_u8)), (7, none, .own 38104), (8, none, .sl (s1.1.map c_u8)), (14, none, .sl (p1.map c_i64)), (15, none, i64 (lenc c_i64 p1)), (16, none, i64 s1.2.1)]) (fun (s1 : (List Int) × Int × (List Int)) => [(38104, .row 3 1 (s1.2.2.map c_i64))]) ho hk0 h ?_
    intro g s1 o0 hH hk0 a w ν h
    refine k_reg ?_
    refine pures [0] hτ h rfl ?_
    intro a h
    refine k_end ?_
    refine k_seq ?_
    refine k_ifH hH h rfl (fun hb hH => ?_) (fun hb hH => ?_)
    · refine k_skip ?_
      refine t_then ?_
      refine k_seq ?_
      refine k_blk ?_
      refine k_reg ?_
      obtain ⟨x19, hx19, hH⟩ := bnd hH
      refine s_idx hτ h (wanted_none rfl) rfl rfl rfl rfl (at_map hx19 c_i64).1 (at_map hx19 c_i64).2 ?_
      intro a w ν h
      refine pures [0, 0] hτ h rfl ?_
      intro a h
      refine k_end ?_
      refine k_reg ?_
      refine pures [0, 0] hτ h rfl ?_
      intro a h
      obtain ⟨q20, hq20, hH⟩ := bnd hH
      obtain ⟨x21, x22⟩ := q20
      refine s_call1 fn141 (octets_Get.ok s1.1 x19 _ hq20) [] h (wanted_none rfl) rfl rfl rfl rfl rfl ?_
      intro a w ν h
      refine pures [0, 0, 0, 0, 0] hτ h rfl ?_
      intro a h
      refine k_end ?_
      refine k_seq ?_
      refine k_reg ?_
      refine pures [0, 0] hτ h rfl ?_
      intro a h
      refine k_end ?_
      refine k_ifH hH h rfl (fun hb hH => ?_) (fun hb hH => ?_)
      · refine k_reg ?_
        refine pures [0, 0, 0, 0] hτ h rfl ?_
        intro a h
        refine k_end ?_
        refine wp_ret ?_
        cases hH
        cases Kp.out hk0
        exact r_ret hτ [] h rfl rfl rfl
      · refine k_skip ?_
        refine t_then ?_
        refine k_any mixed h ?_
        intro w ν h
        obtain ⟨x23, hx23, hH⟩ := bnd hH
        obtain ⟨x24, hx24, hH⟩ := bnd hH
        have h : St _ [(0, none, .sl (p0.map c_u8)), (7, none, .own 38104), (8, none, .sl (s1.1.map c_u8)), (10, none, i64 x19), (11, none, i64 x21), (14, none, .sl (p1.map c_i64)), (15, none, i64 (lenc c_i64 p1)), (16, none, i64 s1.2.1)] [(38104, .row 3 1 (s1.2.2.map c_i64))] _ w a ν := h.pickG [0, 7, 8, 10, 11, 14, 15, 16] [38104] (by kernel_rfl) (by kernel_rfl) (by kernel_rfl)
        refine mid_any (fs := [⟨some (29, none, .own 38104), [], []⟩, ⟨some (30, none, i64 x21), [], []⟩, ⟨some (31, none, .own 38109), [], [(38109, .row 3 1 (([x21] : List Int).map c_i64))]⟩, ⟨some (32, none, .own 38110), [38104], [(38110, .row 3 1 (x23.map c_i64))]⟩, ⟨some (33, none, .sl (s1.1.map c_u8)), [], []⟩, ⟨some (34, none, i64 x19), [], []⟩, ⟨some (35, none, .sl (x24.map c_u8)), [], []⟩, ⟨some (7, none, .own 38110), [], []⟩]) 0 [([], []), ([], []), ([1], []), ([0, 2], [38104, 38109]), ([], []), ([], []), ([4, 5], []), ([3, 3, 3, 0], [])] (by kernel_rfl) h (by kernel_rfl) ⟨ok_plain rfl (p_pure hτ (by kernel_rfl)), ok_plain rfl (p_pure hτ (by kernel_rfl)), ok_plain rfl (p_one [] rfl rfl fun w a ν X hO hF hg => e_lit2 38109 [] hτ hF hO hg rfl rfl rfl rfl (by decide) rfl rfl rfl (es := ([x21] : List Int).map c_i64) rfl rfl), ok_plain rfl (p_one [38104] rfl rfl fun w a ν X hO hF hg => e_app4 (l0 := s1.2.2) (m := ([x21] : List Int)) (c := c_i64) [38104] [] 38110 hτ hF hO hg rfl rfl rfl rfl (by decide) by3 rfl ⟨rfl, rfl⟩ (.keep 38109 _ rfl (map_pls (fun _ => rfl))) rfl hx23 rfl), ok_plain rfl (p_pure hτ (by kernel_rfl)), ok_plain rfl (p_pure hτ (by kernel_rfl)), ok_plain rfl (p_of0 rfl fun w a ν X hO hF hg => e_cut hτ hF hO hg rfl (map_at (fun _ => rfl)) rfl rfl (of_cut hx24 c_u8).1 (of_cut hx24 c_u8).2.1 (of_cut hx24 c_u8).2.2.1 (of_cut hx24 c_u8).2.2.2), ok_plain rfl (p_pure hτ (by kernel_rfl)), trivial⟩ ?_
        intro a w ν h
        have h : St _ [(0, none, .sl (p0.map c_u8)), (7, none, .own 38110), (8, none, .sl (s1.1.map c_u8)), (14, none, .sl (p1.map c_i64)), (15, none, i64 (lenc c_i64 p1)), (16, none, i64 s1.2.1), (35, none, .sl (x24.map c_u8))] [(38110, .row 3 1 (x23.map c_i64)), (38109, .row 3 1 (([x21] : List Int).map c_i64))] _ w a ν := h.pickG [0, 7, 8, 14, 15, 16, 35] [38110, 38109] (by kernel_rfl) (by kernel_rfl) (by kernel_rfl)
        refine mid_list 8 (by kernel_rfl) (by kernel_rfl) ?_
        refine pures [0] hτ h rfl ?_
        intro a h
        refine k_end1 ?_
        refine t_blk ?_
        refine t_then ?_
        refine k_reg1 ?_
        refine pures [0, 0] hτ h rfl ?_
        intro a h
        refine k_end1 ?_
        have h := h.pick_ [0, 7, 8, 14, 15, 16] [38110] rfl rfl rfl
        have h := h.sw_ 38110 38104 rfl
        exact ⟨_, _, hH, h.pick_ [0, 7, 8, 14, 15, 16] [38104] rfl rfl rfl⟩
    · refine wp_exit ?_
      refine t_te ?_
      refine t_te ?_
      refine t_exit ?_
      have h := h.pick_ [0, 7, 8] [38104] rfl rfl rfl
      cases hH
      exact ⟨_, _, rfl, h.pick_ [0, 7, 8] [38104] rfl rfl rfl⟩
  · refine t_then ?_
    refine k_reg ?_
    refine pures [0, 0, 0, 0, 0, 0, 0, 0, 0] hτ h rfl ?_
    intro a h
    refine k_end ?_
    refine wp_ret ?_
    have h := h.sw_ 38104 38900 rfl
    cases hH
    have h := h.pick_ [4, 5, 6] [38900] rfl rfl rfl
    exact r_ret hτ [38900] h rfl rfl rfl
/-! ### wayfinder/rule.Get -/
structure rule_Get.R where
  o0 ::
  y0 : Rule
  y1 : Int
  deriving Inhabited
def rule_Get.rd (p0 : (List Int)) (r : rule_Get.R) : DV := .tup [.agg [i64 r.y0.P.Addr, i64 r.y0.P.Len, i64 r.y0.In, i64 r.y0.Prio, i64 r.y0.Act.Kind, i64 r.y0.Act.Port], i64 r.y1]
def rule_Get.rh (p0 : (List Int)) (r : rule_Get.R) : Hp := []
def rule_Get (p0 : (List Int)) : Option rule_Get.R := (if decide ((lenc c_u8 p0) < 9) then some (rule_Get.R.o0 (Rule.mk (Prefix.mk 0 0) 0 0 (Action.mk 0 0)) 3) else (octets_Get p0 4 >>= fun q1 => match q1 with | .o0 x2 x3 => (at_ p0 4 >>= fun x4 => (at_ p0 5 >>= fun x5 => (at_ p0 6 >>= fun x6 => (at_ p0 7 >>= fun x7 => (at_ p0 8 >>= fun x8 => (gd (!(x3 != 0)) (rule_May (Rule.mk (Prefix.mk x2 (IntKind.i64.wrap x4)) (IntKind.i64.wrap ((IntKind.i64.wrap x5) - 1)) (IntKind.i64.wrap x6) (Action.mk (IntKind.i64.wrap x7) (IntKind.i64.wrap x8)))) default >>= fun x9 => (if ((x3 != 0) || (!x9.y0)) then some (rule_Get.R.o0 (Rule.mk (Prefix.mk 0 0) 0 0 (Action.mk 0 0)) 2) else some (rule_Get.R.o0 (Rule.mk (Prefix.mk x2 (IntKind.i64.wrap x4)) (IntKind.i64.wrap ((IntKind.i64.wrap x5) - 1)) (IntKind.i64.wrap x6) (Action.mk (IntKind.i64.wrap x7) (IntKind.i64.wrap x8))) 0))))))))))
theorem fn128 : Go.Proofs.YtjjmoihpjmojiaaDoor.D.Fn Tryd.prog 128 := ⟨Tryd.f128, Tryd.func128, by kernel_rfl, rfl⟩
set_option maxRecDepth 100000 in
theorem rule_Get.ok (p0 : (List Int)) (r : rule_Get.R) (hH : rule_Get p0 = some r) : Con Tryd.prog 128 [.sl (p0.map c_u8)] [] (rule_Get.rd p0 r) (rule_Get.rh p0 r) := by
  refine con_of Tryd.f128 50 (c := _) Tryd.func128 rfl rfl rfl ?_
  intro w a ν X h
  unfold rule_Get at hH
  refine k_reg ?_
  refine s_new h (wanted_none rfl) rfl rfl (e_alloc (r := 40101) hτ h.o rfl rfl) ?_
  intro a w ν h
  refine pures [0] hτ h rfl ?_
  intro a h
  refine k_end ?_
  refine k_seq ?_
  refine k_reg ?_
  refine pures [0, 0, 0] hτ h rfl ?_
  intro a h
  refine k_end ?_
  refine k_ifH hH h rfl (fun hb hH => ?_) (fun hb hH => ?_)
  · refine k_reg ?_
    refine pures [0] hτ h rfl ?_
    intro a h
    refine s_store hτ h (wanted_none rfl) rfl rfl rfl rfl rfl ?_
    intro a w ν h
    refine pures [0] hτ h rfl ?_
    intro a h
    refine k_end ?_
    refine wp_ret ?_
    cases hH
    exact r_ret hτ [] h rfl rfl rfl
  · refine k_skip ?_
    refine t_then ?_
    refine k_reg ?_
    refine pures [0] hτ h rfl ?_
    intro a h
    obtain ⟨q1, hq1, hH⟩ := bnd hH
    obtain ⟨x2, x3⟩ := q1
    refine s_call1 fn141 (octets_Get.ok p0 4 _ hq1) [] h (wanted_none rfl) rfl rfl rfl rfl rfl ?_
    intro a w ν h
    refine pures [0, 0, 0, 0, 0] hτ h rfl ?_
    intro a h
    refine k_end ?_
    refine k_seq ?_
    refine k_any mixed h ?_
    intro w ν h
    obtain ⟨x4, hx4, hH⟩ := bnd hH
    obtain ⟨x5, hx5, hH⟩ := bnd hH
    obtain ⟨x6, hx6, hH⟩ := bnd hH
    obtain ⟨x7, hx7, hH⟩ := bnd hH
    obtain ⟨x8, hx8, hH⟩ := bnd hH
    have h : St _ [(0, none, .sl (p0.map c_u8)), (2, none, .ptr 40101 0), (4, none, i64 x2), (5, none, i64 x3)] [(40101, .blk 30 [i64 0, i64 0, i64 0, i64 0, i64 0, i64 0])] _ w a ν := h.pickG [0, 2, 4, 5] [40101] (by kernel_rfl) (by kernel_rfl) (by kernel_rfl)
    refine mid_any (fs := [⟨some (16, none, i64 x2), [], []⟩, ⟨some (17, none, .sl (p0.map c_u8)), [], []⟩, ⟨some (18, none, .fat [u8 x4] 0), [], []⟩, ⟨some (19, none, u8 x4), [], []⟩, ⟨some (20, none, i64 (IntKind.i64.wrap x4)), [], []⟩, ⟨some (21, none, .agg [i64 x2, i64 (IntKind.i64.wrap x4)]), [], []⟩, ⟨some (22, none, .sl (p0.map c_u8)), [], []⟩, ⟨some (23, none, .fat [u8 x5] 0), [], []⟩, ⟨some (24, none, u8 x5), [], []⟩, ⟨some (25, none, i64 (IntKind.i64.wrap x5)), [], []⟩, ⟨some (26, none, i64 (IntKind.i64.wrap ((IntKind.i64.wrap x5) - 1))), [], []⟩, ⟨some (27, none, .sl (p0.map c_u8)), [], []⟩, ⟨some (28, none, .fat [u8 x6] 0), [], []⟩, ⟨some (29, none, u8 x6), [], []⟩, ⟨some (30, none, i64 (IntKind.i64.wrap x6)), [], []⟩, ⟨some (31, none, .sl (p0.map c_u8)), [], []⟩, ⟨some (32, none, .fat [u8 x7] 0), [], []⟩, ⟨some (33, none, u8 x7), [], []⟩, ⟨some (34, none, i64 (IntKind.i64.wrap x7)), [], []⟩, ⟨some (35, none, .sl (p0.map c_u8)), [], []⟩, ⟨some (36, none, .fat [u8 x8] 0), [], []⟩, ⟨some (37, none, u8 x8), [], []⟩, ⟨some (38, none, i64 (IntKind.i64.wrap x8)), [], []⟩, ⟨some (39, none, .agg [i64 (IntKind.i64.wrap x7), i64 (IntKind.i64.wrap x8)]), [], []⟩, ⟨some (40, none, .agg [i64 x2, i64 (IntKind.i64.wrap x4), i64 (IntKind.i64.wrap ((IntKind.i64.wrap x5) - 1)), i64 (IntKind.i64.wrap x6), i64 (IntKind.i64.wrap x7), i64 (IntKind.i64.wrap x8)]), [], []⟩, ⟨some (6, none, .ptr 40102 0), [], [(40102, .blk 30 [i64 0, i64 0, i64 0, i64 0, i64 0, i64 0])]⟩]) 0 [([], []), ([], []), ([1], []), ([2], []), ([3], []), ([0, 4], []), ([], []), ([6], []), ([7], []), ([8], []), ([9], []), ([], []), ([11], []), ([12], []), ([13], []), ([], []), ([15], []), ([16], []), ([17], []), ([], []), ([19], []), ([20], []), ([21], []), ([18, 22], []), ([5, 10, 14, 23], []), ([], [])] (by kernel_rfl) h (by kernel_rfl) ⟨ok_plain rfl (p_pure hτ (by kernel_rfl)), ok_plain rfl (p_pure hτ (by kernel_rfl)), ok_plain rfl (p_of0 rfl fun w a ν X hO hF hg => e_idx hτ hF hO hg rfl rfl (at_map hx4 c_u8).1 (at_map hx4 c_u8).2), ok_plain rfl (p_pure hτ (by kernel_rfl)), ok_plain rfl (p_pure hτ (by kernel_rfl)), ok_plain rfl (p_pure hτ (by kernel_rfl)), ok_plain rfl (p_pure hτ (by kernel_rfl)), ok_plain rfl (p_of0 rfl fun w a ν X hO hF hg => e_idx hτ hF hO hg rfl rfl (at_map hx5 c_u8).1 (at_map hx5 c_u8).2), ok_plain rfl (p_pure hτ (by kernel_rfl)), ok_plain rfl (p_pure hτ (by kernel_rfl)), ok_plain rfl (p_pure hτ (by kernel_rfl)), ok_plain rfl (p_pure hτ (by kernel_rfl)), ok_plain rfl (p_of0 rfl fun w a ν X hO hF hg => e_idx hτ hF hO hg rfl rfl (at_map hx6 c_u8).1 (at_map hx6 c_u8).2), ok_plain rfl (p_pure hτ (by kernel_rfl)), ok_plain rfl (p_pure hτ (by kernel_rfl)), ok_plain rfl (p_pure hτ (by kernel_rfl)), ok_plain rfl (p_of0 rfl fun w a ν X hO hF hg => e_idx hτ hF hO hg rfl rfl (at_map hx7 c_u8).1 (at_map hx7 c_u8).2), ok_plain rfl (p_pure hτ (by kernel_rfl)), ok_plain rfl (p_pure hτ (by kernel_rfl)), ok_plain rfl (p_pure hτ (by kernel_rfl)), ok_plain rfl (p_of0 rfl fun w a ν X hO hF hg => e_idx hτ hF hO hg rfl rfl (at_map hx8 c_u8).1 (at_map hx8 c_u8).2), ok_plain rfl (p_pure hτ (by kernel_rfl)), ok_plain rfl (p_pure hτ (by kernel_rfl)), ok_plain rfl (p_pure hτ (by kernel_rfl)), ok_plain rfl (p_pure hτ (by kernel_rfl)), ok_plain rfl (p_of1 rfl fun w a ν X hO hF hg => e_alloc (r := 40102) (z := [.int .i64 0, .int .i64 0, .int .i64 0, .int .i64 0, .int .i64 0, .int .i64 0]) hτ hO rfl rfl), trivial⟩ ?_
    intro a w ν h
    have h : St _ [(2, none, .ptr 40101 0), (5, none, i64 x3), (6, none, .ptr 40102 0), (40, none, .agg [i64 x2, i64 (IntKind.i64.wrap x4), i64 (IntKind.i64.wrap ((IntKind.i64.wrap x5) - 1)), i64 (IntKind.i64.wrap x6), i64 (IntKind.i64.wrap x7), i64 (IntKind.i64.wrap x8)])] [(40102, .blk 30 [i64 0, i64 0, i64 0, i64 0, i64 0, i64 0]), (40101, .blk 30 [i64 0, i64 0, i64 0, i64 0, i64 0, i64 0])] _ w a ν := h.pickG [2, 5, 6, 40] [40102, 40101] (by kernel_rfl) (by kernel_rfl) (by kernel_rfl)
    refine mid_list 26 (by kernel_rfl) (by kernel_rfl) ?_
    refine s_store hτ h (wanted_none rfl) rfl rfl rfl rfl rfl ?_
    intro a w ν h
    refine k_end1 ?_
    refine t_then ?_
    refine k_seq ?_
    refine k_reg ?_
    refine pures [0, 0, 0, 1] hτ h rfl ?_
    intro a h
    obtain ⟨x9, hx9, hH⟩ := bnd hH
    refine s_gd h [] rfl rfl rfl rfl rfl rfl (fun hbu => p_call1 fn24 (rule_May.ok (Rule.mk (Prefix.mk x2 (IntKind.i64.wrap x4)) (IntKind.i64.wrap ((IntKind.i64.wrap x5) - 1)) (IntKind.i64.wrap x6) (Action.mk (IntKind.i64.wrap x7) (IntKind.i64.wrap x8))) _ ((of_gd hx9).1 (by first | exact hbu | exact nt_ hbu))) [] rfl rfl rfl) ?_
    intro a w ν h
    refine pures [1, 0] hτ h rfl ?_
    intro a h
    refine k_end ?_
    refine k_ifH hH h rfl (fun hb hH => ?_) (fun hb hH => ?_)
    · refine k_reg ?_
      refine pures [0] hτ h rfl ?_
      intro a h
      refine s_store hτ h (wanted_none rfl) rfl rfl rfl rfl rfl ?_
      intro a w ν h
      refine pures [0] hτ h rfl ?_
      intro a h
      refine k_end ?_
      refine wp_ret ?_
      cases hH
      exact r_ret hτ [] h rfl rfl rfl
    · refine k_skip ?_
      refine t_then ?_
      refine k_reg ?_
      refine pures [0] hτ h rfl ?_
      intro a h
      refine s_store hτ h (wanted_none rfl) rfl rfl rfl rfl rfl ?_
      intro a w ν h
      refine pures [0] hτ h rfl ?_
      intro a h
      refine k_end ?_
      refine wp_ret ?_
      cases hH
      exact r_ret hτ [] h rfl rfl rfl
/-! ### wayfinder/msg.Get -/
structure msg_Get.R where
  o0 ::
  y0 : Msg
  y1 : Int
  deriving Inhabited
def msg_Get.rd (p0 : (List Int)) (r : msg_Get.R) : DV := .tup [.agg [i64 r.y0.Kind, i64 r.y0.Epoch, i64 r.y0.Seq, i64 r.y0.Tag, i64 r.y0.R.P.Addr, i64 r.y0.R.P.Len, i64 r.y0.R.In, i64 r.y0.R.Prio, i64 r.y0.R.Act.Kind, i64 r.y0.R.Act.Port], i64 r.y1]
def msg_Get.rh (p0 : (List Int)) (r : msg_Get.R) : Hp := []
def msg_Get (p0 : (List Int)) : Option msg_Get.R := (octets_GetAll p0 [1, 3, 3, 2] >>= fun q1 => match q1 with | .o0 x2 x3 => (if (x3 != 0) then some (msg_Get.R.o0 (Msg.mk 0 0 0 0 (Rule.mk (Prefix.mk 0 0) 0 0 (Action.mk 0 0))) x3) else none) | .o1 x4 x5 x6 => (if (x5 != 0) then some (msg_Get.R.o0 (Msg.mk 0 0 0 0 (Rule.mk (Prefix.mk 0 0) 0 0 (Action.mk 0 0))) x5) else (at_ x6 0 >>= fun x7 => (at_ x6 1 >>= fun x8 => (at_ x6 2 >>= fun x9 => (at_ x6 3 >>= fun x10 => (if (x7 == 2) then (if decide ((lenc c_u8 p0) < 18) then some (msg_Get.R.o0 (Msg.mk 0 0 0 0 (Rule.mk (Prefix.mk 0 0) 0 0 (Action.mk 0 0))) 3) else (if decide ((lenc c_u8 p0) > 18) then some (msg_Get.R.o0 (Msg.mk 0 0 0 0 (Rule.mk (Prefix.mk 0 0) 0 0 (Action.mk 0 0))) 2) else (cut_ p0 x4 (lenc c_u8 p0) >>= fun x11 => (rule_Get x11 >>= fun q12 => match q12 with | .o0 x13 x14 => (if (x14 != 0) then some (msg_Get.R.o0 (Msg.mk 0 0 0 0 (Rule.mk (Prefix.mk 0 0) 0 0 (Action.mk 0 0))) 2) else (msg_May (Msg.mk x7 x8 x9 x10 x13) >>= fun q15 => match q15 with | .o0 x16 => (if !x16 then some (msg_Get.R.o0 (Msg.mk 0 0 0 0 (Rule.mk (Prefix.mk 0 0) 0 0 (Action.mk 0 0))) 2) else some (msg_Get.R.o0 (Msg.mk x7 x8 x9 x10 x13) 0)))))))) else (if decide ((lenc c_u8 p0) < 9) then some (msg_Get.R.o0 (Msg.mk 0 0 0 0 (Rule.mk (Prefix.mk 0 0) 0 0 (Action.mk 0 0))) 3) else (if decide ((lenc c_u8 p0) > 9) then some (msg_Get.R.o0 (Msg.mk 0 0 0 0 (Rule.mk (Prefix.mk 0 0) 0 0 (Action.mk 0 0))) 2) else (msg_May (Msg.mk x7 x8 x9 x10 (Rule.mk (Prefix.mk 0 0) 0 0 (Action.mk 0 0))) >>= fun q17 => match q17 with | .o0 x18 => (if !x18 then some (msg_Get.R.o0 (Msg.mk 0 0 0 0 (Rule.mk (Prefix.mk 0 0) 0 0 (Action.mk 0 0))) 2) else some (msg_Get.R.o0 (Msg.mk x7 x8 x9 x10 (Rule.mk (Prefix.mk 0 0) 0 0 (Action.mk 0 0))) 0))))))))))))
theorem fn86 : Go.Proofs.YtjjmoihpjmojiaaDoor.D.Fn Tryd.prog 86 := ⟨Tryd.f86, Tryd.func86, by kernel_rfl, rfl⟩
set_option maxRecDepth 100000 in
theorem msg_Get.ok (p0 : (List Int)) (r : msg_Get.R) (hH : msg_Get p0 = some r) : Con Tryd.prog 86 [.sl (p0.map c_u8)] [] (msg_Get.rd p0 r) (msg_Get.rh p0 r) := by
  refine con_of Tryd.f86 67 (c := _) Tryd.func86 rfl rfl rfl ?_
  intro w a ν X h
  unfold msg_Get at hH
  refine k_reg ?_
  refine s_new h (wanted_none rfl) rfl rfl (e_alloc (r := 37101) hτ h.o rfl rfl) ?_
  intro a w ν h
  refine pures [0] hτ h rfl ?_
  intro a h
  refine k_end ?_
  refine k_reg ?_
  refine pures [0] hτ h rfl ?_
  intro a h
  refine s_lit 37102 [] hτ h (wanted_none rfl) rfl rfl rfl rfl rfl rfl (by decide) rfl rfl rfl (es := ([1, 3, 3, 2] : List Int).map c_i64) rfl rfl ?_
  intro a w ν h
  have h := h.frzH (q := 37102) rfl (fzn_map (fun _ => rfl))
  obtain ⟨q1, hq1, hH⟩ := bnd hH
  cases q1 with
  | o0 x2 x3 =>
    refine s_call1 fn127 (octets_GetAll.ok p0 [1, 3, 3, 2] _ hq1) [] h (wanted_none rfl) rfl rfl rfl rfl rfl ?_
    intro a w ν h
    refine pures [0, 0, 0, 0, 0, 0, 0] hτ h rfl ?_
    intro a h
    refine k_end ?_
    refine k_seq ?_
    refine k_reg ?_
    refine pures [0, 0] hτ h rfl ?_
    intro a h
    refine k_end ?_
    refine k_ifH hH h rfl (fun hb hH => ?_) (fun hb hH => ?_)
    · refine k_reg ?_
      refine pures [0, 0] hτ h rfl ?_
      intro a h
      refine s_store hτ h (wanted_none rfl) rfl rfl rfl rfl rfl ?_
      intro a w ν h
      refine pures [0] hτ h rfl ?_
      intro a h
      refine k_end ?_
      refine wp_ret ?_
      cases hH
      exact r_ret hτ [] h rfl rfl rfl
    · cases hH
  | o1 x4 x5 x6 =>
    refine s_call fn127 ((octets_GetAll.ok p0 [1, 3, 3, 2] _ hq1).sw_ 38900 37103) [] [37103] [] h (wanted_none rfl) rfl rfl rfl rfl rfl rfl ?_
    intro a w ν h
    refine pures [0, 0, 0, 0, 0, 0, 0] hτ h rfl ?_
    intro a h
    refine k_end ?_
    refine k_seq ?_
    refine k_reg ?_
    refine pures [0, 0] hτ h rfl ?_
    intro a h
    refine k_end ?_
    refine k_ifH hH h rfl (fun hb hH => ?_) (fun hb hH => ?_)
    · refine k_reg ?_
      refine pures [0, 0] hτ h rfl ?_
      intro a h
      refine s_store hτ h (wanted_none rfl) rfl rfl rfl rfl rfl ?_
      intro a w ν h
      refine pures [0] hτ h rfl ?_
      intro a h
      refine k_end ?_
      refine wp_ret ?_
      cases hH
      exact r_ret hτ [] h rfl rfl rfl
    · refine k_skip ?_
      refine t_then ?_
      refine k_seq ?_
      refine k_any mixed h ?_
      intro w ν h
      obtain ⟨x7, hx7, hH⟩ := bnd hH
      obtain ⟨x8, hx8, hH⟩ := bnd hH
      obtain ⟨x9, hx9, hH⟩ := bnd hH
      obtain ⟨x10, hx10, hH⟩ := bnd hH
      have hx7_e := (at_map hx7 c_i64).2
      have hx8_e := (at_map hx8 c_i64).2
      have hx9_e := (at_map hx9 c_i64).2
      have hx10_e := (at_map hx10 c_i64).2
      have h : St _ [(0, none, .sl (p0.map c_u8)), (2, none, .ptr 37101 0), (4, none, .own 37103), (5, none, i64 x4)] [(37103, .row 3 1 (x6.map c_i64)), (37101, .blk 32 [i64 0, i64 0, i64 0, i64 0, i64 0, i64 0, i64 0, i64 0, i64 0, i64 0])] _ w a ν := h.pickG [0, 2, 4, 5] [37103, 37101] (by kernel_rfl) (by kernel_rfl) (by kernel_rfl)
      refine mid_any (fs := [⟨some (20, none, .own 37103), [], []⟩, ⟨some (21, none, .ptr 37103 ((0 : Int).toNat * 1)), [], []⟩, ⟨some (22, none, i64 x7), [], []⟩, ⟨some (23, none, .own 37103), [], []⟩, ⟨some (24, none, .ptr 37103 ((1 : Int).toNat * 1)), [], []⟩, ⟨some (25, none, i64 x8), [], []⟩, ⟨some (26, none, .own 37103), [], []⟩, ⟨some (27, none, .ptr 37103 ((2 : Int).toNat * 1)), [], []⟩, ⟨some (28, none, i64 x9), [], []⟩, ⟨some (29, none, .own 37103), [], []⟩, ⟨some (30, none, .ptr 37103 ((3 : Int).toNat * 1)), [], []⟩, ⟨some (31, none, i64 x10), [], []⟩, ⟨some (32, none, .agg [i64 x7, i64 x8, i64 x9, i64 x10, i64 0, i64 0, i64 0, i64 0, i64 0, i64 0]), [], []⟩, ⟨some (7, none, .ptr 37104 0), [], [(37104, .blk 32 [i64 0, i64 0, i64 0, i64 0, i64 0, i64 0, i64 0, i64 0, i64 0, i64 0])]⟩]) 0 [([], []), ([0], [37103]), ([1], [37103]), ([], []), ([3], [37103]), ([4], [37103]), ([], []), ([6], [37103]), ([7], [37103]), ([], []), ([9], [37103]), ([10], [37103]), ([2, 5, 8, 11], []), ([], [])] (by kernel_rfl) h (by kernel_rfl) ⟨ok_plain rfl (p_pure hτ (by kernel_rfl)), ok_plain rfl (p_of0 rfl fun w a ν X hO hF hg => e_idxR hτ hF hO hg rfl rfl (at_map hx7 c_i64).1 hx7_e), ok_plain rfl (p_of0 rfl fun w a ν X hO hF hg => e_ldR (k := 0) hτ hF hO hg rfl rfl hx7_e rfl rfl), ok_plain rfl (p_pure hτ (by kernel_rfl)), ok_plain rfl (p_of0 rfl fun w a ν X hO hF hg => e_idxR hτ hF hO hg rfl rfl (at_map hx8 c_i64).1 hx8_e), ok_plain rfl (p_of0 rfl fun w a ν X hO hF hg => e_ldR (k := 0) hτ hF hO hg rfl rfl hx8_e rfl rfl), ok_plain rfl (p_pure hτ (by kernel_rfl)), ok_plain rfl (p_of0 rfl fun w a ν X hO hF hg => e_idxR hτ hF hO hg rfl rfl (at_map hx9 c_i64).1 hx9_e), ok_plain rfl (p_of0 rfl fun w a ν X hO hF hg => e_ldR (k := 0) hτ hF hO hg rfl rfl hx9_e rfl rfl), ok_plain rfl (p_pure hτ (by kernel_rfl)), ok_plain rfl (p_of0 rfl fun w a ν X hO hF hg => e_idxR hτ hF hO hg rfl rfl (at_map hx10 c_i64).1 hx10_e), ok_plain rfl (p_of0 rfl fun w a ν X hO hF hg => e_ldR (k := 0) hτ hF hO hg rfl rfl hx10_e rfl rfl), ok_plain rfl (p_pure hτ (by kernel_rfl)), ok_plain rfl (p_of1 rfl fun w a ν X hO hF hg => e_alloc (r := 37104) (z := [.int .i64 0, .int .i64 0, .int .i64 0, .int .i64 0, .int .i64 0, .int .i64 0, .int .i64 0, .int .i64 0, .int .i64 0, .int .i64 0]) hτ hO rfl rfl), trivial⟩ ?_
      intro a w ν h
      have h : St _ [(0, none, .sl (p0.map c_u8)), (2, none, .ptr 37101 0), (5, none, i64 x4), (7, none, .ptr 37104 0), (32, none, .agg [i64 x7, i64 x8, i64 x9, i64 x10, i64 0, i64 0, i64 0, i64 0, i64 0, i64 0])] [(37104, .blk 32 [i64 0, i64 0, i64 0, i64 0, i64 0, i64 0, i64 0, i64 0, i64 0, i64 0]), (37103, .row 3 1 (x6.map c_i64)), (37101, .blk 32 [i64 0, i64 0, i64 0, i64 0, i64 0, i64 0, i64 0, i64 0, i64 0, i64 0])] _ w a ν := h.pickG [0, 2, 5, 7, 32] [37104, 37103, 37101] (by kernel_rfl) (by kernel_rfl) (by kernel_rfl)
      refine mid_list 14 (by kernel_rfl) (by kernel_rfl) ?_
      refine s_store hτ h (wanted_none rfl) rfl rfl rfl rfl rfl ?_
      intro a w ν h
      refine k_end1 ?_
      refine t_then ?_
      refine k_reg ?_
      refine pures [0] hτ h rfl ?_
      intro a h
      refine k_end ?_
      refine k_seq ?_
      refine k_reg ?_
      refine pures [0, 0, 0] hτ h rfl ?_
      intro a h
      refine k_end ?_
      refine k_ifH hH h rfl (fun hb hH => ?_) (fun hb hH => ?_)
      · refine k_reg1 ?_
        refine pures [0] hτ h rfl ?_
        intro a h
        refine k_end1 ?_
        refine t_then ?_
        refine k_seq ?_
        refine k_blk ?_
        refine k_reg ?_
        refine pures [0, 0, 0, 0, 0] hτ h rfl ?_
        intro a h
        refine k_end ?_
        refine k_ifH hH h rfl (fun hb hH => ?_) (fun hb hH => ?_)
        · refine k_reg ?_
          refine pures [0] hτ h rfl ?_
          intro a h
          refine s_store hτ h (wanted_none rfl) rfl rfl rfl rfl rfl ?_
          intro a w ν h
          refine pures [0] hτ h rfl ?_
          intro a h
          refine k_end ?_
          refine wp_ret ?_
          cases hH
          exact r_ret hτ [] h rfl rfl rfl
        · refine k_reg ?_
          refine pures [0, 0, 0, 0, 0] hτ h rfl ?_
          intro a h
          refine k_end ?_
          refine k_ifH hH h rfl (fun hb hH => ?_) (fun hb hH => ?_)
          · refine k_reg ?_
            refine pures [0] hτ h rfl ?_
            intro a h
            refine s_store hτ h (wanted_none rfl) rfl rfl rfl rfl rfl ?_
            intro a w ν h
            refine pures [0] hτ h rfl ?_
            intro a h
            refine k_end ?_
            refine wp_ret ?_
            cases hH
            exact r_ret hτ [] h rfl rfl rfl
          · refine k_reg ?_
            refine pures [0, 0, 0] hτ h rfl ?_
            intro a h
            refine k_end ?_
            refine k_ifT h rfl ?_
            refine k_reg ?_
            refine pures [0, 0] hτ h rfl ?_
            intro a h
            obtain ⟨x11, hx11, hH⟩ := bnd hH
            obtain ⟨c1, c2, c3, c4⟩ := of_cut hx11 c_u8
            refine s_cut hτ h (wanted_none rfl) rfl rfl rfl (map_at (fun _ => rfl)) rfl rfl c1 c2 c3 c4 ?_
            intro a w ν h
            obtain ⟨q12, hq12, hH⟩ := bnd hH
            obtain ⟨x13, x14⟩ := q12
            refine s_call1 fn128 (rule_Get.ok x11 _ hq12) [] h (wanted_none rfl) rfl rfl rfl rfl rfl ?_
            intro a w ν h
            refine pures [0, 0, 0, 0] hτ h rfl ?_
            intro a h
            refine s_store hτ h (wanted_none rfl) rfl rfl rfl rfl rfl ?_
            intro a w ν h
            refine pures [0] hτ h rfl ?_
            intro a h
            refine k_end ?_
            refine k_reg ?_
            refine pures [0, 0] hτ h rfl ?_
            intro a h
            refine k_end ?_
            refine k_ifH hH h rfl (fun hb hH => ?_) (fun hb hH => ?_)
            · refine k_reg ?_
              refine pures [0] hτ h rfl ?_
              intro a h
              refine s_store hτ h (wanted_none rfl) rfl rfl rfl rfl rfl ?_
              intro a w ν h
              refine pures [0] hτ h rfl ?_
              intro a h
              refine k_end ?_
              refine wp_ret ?_
              cases hH
              exact r_ret hτ [] h rfl rfl rfl
            · refine k_skip ?_
              refine t_blk ?_
              refine t_then ?_
              refine k_seq ?_
              refine k_reg ?_
              refine pures [0] hτ h rfl ?_
              intro a h
              obtain ⟨q15, hq15, hH⟩ := bnd hH
              obtain ⟨x16⟩ := q15
              refine s_call1 fn87 (msg_May.ok (Msg.mk x7 x8 x9 x10 x13) _ hq15) [] h (wanted_none rfl) rfl rfl rfl rfl rfl ?_
              intro a w ν h
              refine pures [0] hτ h rfl ?_
              intro a h
              refine k_end ?_
              refine k_ifH hH h rfl (fun hb hH => ?_) (fun hb hH => ?_)
              · refine k_reg ?_
                refine pures [0] hτ h rfl ?_
                intro a h
                refine s_store hτ h (wanted_none rfl) rfl rfl rfl rfl rfl ?_
                intro a w ν h
                refine pures [0] hτ h rfl ?_
                intro a h
                refine k_end ?_
                refine wp_ret ?_
                cases hH
                exact r_ret hτ [] h rfl rfl rfl
              · refine k_skip ?_
                refine t_then ?_
                refine k_reg ?_
                refine pures [0] hτ h rfl ?_
                intro a h
                refine s_store hτ h (wanted_none rfl) rfl rfl rfl rfl rfl ?_
                intro a w ν h
                refine pures [0] hτ h rfl ?_
                intro a h
                refine k_end ?_
                refine wp_ret ?_
                cases hH
                exact r_ret hτ [] h rfl rfl rfl
      · refine k_skip ?_
        refine t_then ?_
        refine k_seq ?_
        refine k_blk ?_
        refine k_reg ?_
        refine pures [0, 0, 0, 0, 0] hτ h rfl ?_
        intro a h
        refine k_end ?_
        refine k_ifH hH h rfl (fun hb hH => ?_) (fun hb hH => ?_)
        · refine k_reg ?_
          refine pures [0] hτ h rfl ?_
          intro a h
          refine s_store hτ h (wanted_none rfl) rfl rfl rfl rfl rfl ?_
          intro a w ν h
          refine pures [0] hτ h rfl ?_
          intro a h
          refine k_end ?_
          refine wp_ret ?_
          cases hH
          exact r_ret hτ [] h rfl rfl rfl
        · refine k_reg ?_
          refine pures [0, 0, 0, 0, 0] hτ h rfl ?_
          intro a h
          refine k_end ?_
          refine k_ifH hH h rfl (fun hb hH => ?_) (fun hb hH => ?_)
          · refine k_reg ?_
            refine pures [0] hτ h rfl ?_
            intro a h
            refine s_store hτ h (wanted_none rfl) rfl rfl rfl rfl rfl ?_
            intro a w ν h
            refine pures [0] hτ h rfl ?_
            intro a h
            refine k_end ?_
            refine wp_ret ?_
            cases hH
            exact r_ret hτ [] h rfl rfl rfl
          · refine k_reg ?_
            refine pures [0, 0, 0] hτ h rfl ?_
            intro a h
            refine k_end ?_
            refine k_ifF h rfl ?_
            refine k_skip ?_
            refine t_blk ?_
            refine t_then ?_
            refine k_seq ?_
            refine k_reg ?_
            refine pures [0] hτ h rfl ?_
            intro a h
            obtain ⟨q17, hq17, hH⟩ := bnd hH
            obtain ⟨x18⟩ := q17
            refine s_call1 fn87 (msg_May.ok (Msg.mk x7 x8 x9 x10 (Rule.mk (Prefix.mk 0 0) 0 0 (Action.mk 0 0))) _ hq17) [] h (wanted_none rfl) rfl rfl rfl rfl rfl ?_
            intro a w ν h
            refine pures [0] hτ h rfl ?_
            intro a h
            refine k_end ?_
            refine k_ifH hH h rfl (fun hb hH => ?_) (fun hb hH => ?_)
            · refine k_reg ?_
              refine pures [0] hτ h rfl ?_
              intro a h
              refine s_store hτ h (wanted_none rfl) rfl rfl rfl rfl rfl ?_
              intro a w ν h
              refine pures [0] hτ h rfl ?_
              intro a h
              refine k_end ?_
              refine wp_ret ?_
              cases hH
              exact r_ret hτ [] h rfl rfl rfl
            · refine k_skip ?_
              refine t_then ?_
              refine k_reg ?_
              refine pures [0] hτ h rfl ?_
              intro a h
              refine s_store hτ h (wanted_none rfl) rfl rfl rfl rfl rfl ?_
              intro a w ν h
              refine pures [0] hτ h rfl ?_
              intro a h
              refine k_end ?_
              refine wp_ret ?_
              cases hH
              exact r_ret hτ [] h rfl rfl rfl
/-! ### wayfinder/frame.Open -/
structure frame_Open.R where
  o0 ::
  y0 : Msg
  y1 : Int
  deriving Inhabited
def frame_Open.rd (p0 : (List Int)) (r : frame_Open.R) : DV := .tup [.agg [i64 r.y0.Kind, i64 r.y0.Epoch, i64 r.y0.Seq, i64 r.y0.Tag, i64 r.y0.R.P.Addr, i64 r.y0.R.P.Len, i64 r.y0.R.In, i64 r.y0.R.Prio, i64 r.y0.R.Act.Kind, i64 r.y0.R.Act.Port], i64 r.y1]
def frame_Open.rh (p0 : (List Int)) (r : frame_Open.R) : Hp := []
def frame_Open (p0 : (List Int)) : Option frame_Open.R := (frame_Open_2 p0 >>= fun q1 => match q1 with | .o0 x2 => (if (x2 != 0) then some (frame_Open.R.o0 (Msg.mk 0 0 0 0 (Rule.mk (Prefix.mk 0 0) 0 0 (Action.mk 0 0))) x2) else (frame_Open_3 p0 0 >>= fun q3 => match q3 with | .o0 x4 x5 => (if (x4 != 0) then some (frame_Open.R.o0 (Msg.mk 0 0 0 0 (Rule.mk (Prefix.mk 0 0) 0 0 (Action.mk 0 0))) x4) else (frame_Open_4 p0 x5 >>= fun q6 => match q6 with | .o0 x7 => (if (x7 != 0) then some (frame_Open.R.o0 (Msg.mk 0 0 0 0 (Rule.mk (Prefix.mk 0 0) 0 0 (Action.mk 0 0))) x7) else (frame_Open_5 p0 x5 >>= fun q8 => match q8 with | .o0 x9 => (if (x9 != 0) then some (frame_Open.R.o0 (Msg.mk 0 0 0 0 (Rule.mk (Prefix.mk 0 0) 0 0 (Action.mk 0 0))) x9) else (frame_Open_6 p0 >>= fun q10 => match q10 with | .o0 x11 => (if (x11 != 0) then some (frame_Open.R.o0 (Msg.mk 0 0 0 0 (Rule.mk (Prefix.mk 0 0) 0 0 (Action.mk 0 0))) x11) else (frame_Open_7 p0 x5 >>= fun q12 => match q12 with | .o0 x13 => (if (x13 != 0) then some (frame_Open.R.o0 (Msg.mk 0 0 0 0 (Rule.mk (Prefix.mk 0 0) 0 0 (Action.mk 0 0))) x13) else (cut_ p0 2 (IntKind.i64.wrap (2 + x5)) >>= fun x14 => (msg_Get x14 >>= fun q15 => match q15 with | .o0 x16 x17 => some (frame_Open.R.o0 x16 x17)))))))))))))))
theorem fn35 : Go.Proofs.YtjjmoihpjmojiaaDoor.D.Fn Tryd.prog 35 := ⟨Tryd.f35, Tryd.func35, by kernel_rfl, rfl⟩
set_option maxRecDepth 100000 in
theorem frame_Open.ok (p0 : (List Int)) (r : frame_Open.R) (hH : frame_Open p0 = some r) : Con Tryd.prog 35 [.sl (p0.map c_u8)] [] (frame_Open.rd p0 r) (frame_Open.rh p0 r) := by
  refine con_of Tryd.f35 35 (c := _) Tryd.func35 rfl rfl rfl ?_
  intro w a ν X h
  unfold frame_Open at hH
  refine k_reg ?_
  refine s_new h (wanted_none rfl) rfl rfl (e_box (r := 27101) (g := none) h.f h.o rfl trivial rfl rfl) ?_
  intro a w ν h
  refine s_new h (wanted_none rfl) rfl rfl (e_alloc (r := 27102) hτ h.o rfl rfl) ?_
  intro a w ν h
  refine pures [0] hτ h rfl ?_
  intro a h
  refine k_end ?_
  refine k_reg ?_
  refine s_new h (wanted_none rfl) rfl rfl (e_alloc (r := 27103) hτ h.o rfl rfl) ?_
  intro a w ν h
  refine s_store hτ h (wanted_none rfl) rfl rfl rfl rfl rfl ?_
  intro a w ν h
  refine k_end ?_
  refine k_reg ?_
  refine pures [0] hτ h rfl ?_
  intro a h
  refine s_new h (wanted_none rfl) rfl rfl (e_alloc (r := 27104) hτ h.o rfl rfl) ?_
  intro a w ν h
  refine s_store hτ h (wanted_none rfl) rfl rfl rfl rfl rfl ?_
  intro a w ν h
  refine k_end ?_
  refine k_seq ?_
  refine k_reg ?_
  refine pures [0, 0, 0, 0, 0, 0] hτ h rfl ?_
  intro a h
  refine s_new h (wanted_none rfl) rfl rfl (e_litA (r' := 27105) (g := none) hτ h.f h.o trivial rfl rfl rfl rfl rfl rfl rfl rfl) ?_
  intro a w ν h
  refine pures [0, 0] hτ h rfl ?_
  intro a h
  refine k_end ?_
  refine k_blk ?_
  refine k_unroll0 ?_
  refine k_unroll ?_
  refine k_reg ?_
  refine pures [0] hτ h rfl ?_
  intro a h
  refine k_end ?_
  refine k_seq ?_
  refine k_ifT h rfl ?_
  refine k_skip ?_
  refine t_then ?_
  refine k_seq ?_
  refine k_blk ?_
  refine k_reg ?_
  refine s_pv0 h [27105, 27101, 27103, 27104] (wanted_none rfl) rfl rfl (p_of0 rfl fun w a ν X hO hF hg => e_idxL (off := 0) hτ hF hO hg rfl rfl (by decide) (by decide) rfl) ?_
  intro a w ν h
  refine pures [0, 0] hτ h rfl ?_
  intro a h
  refine k_end ?_
  refine k_reg ?_
  refine pures [0] hτ h rfl ?_
  intro a h
  obtain ⟨q1, hq1, hH⟩ := bnd hH
  obtain ⟨x2⟩ := q1
  refine s_call fn79 ((frame_Open_2.ok p0 _ hq1).sw_ 28000 27101) [27101] [] [] h (wanted_none rfl) rfl rfl rfl rfl rfl rfl ?_
  intro a w ν h
  refine pures [0] hτ h rfl ?_
  intro a h
  refine k_end ?_
  refine k_reg ?_
  refine pures [0, 0] hτ h rfl ?_
  intro a h
  refine k_end ?_
  refine k_ifH hH h rfl (fun hb hH => ?_) (fun hb hH => ?_)
  · refine k_reg ?_
    refine pures [0, 0] hτ h rfl ?_
    intro a h
    refine s_store hτ h (wanted_none rfl) rfl rfl rfl rfl rfl ?_
    intro a w ν h
    refine pures [0] hτ h rfl ?_
    intro a h
    refine k_end ?_
    refine wp_ret ?_
    cases hH
    exact r_ret hτ [] h rfl rfl rfl
  · refine k_skip ?_
    refine t_blk ?_
    refine t_then ?_
    refine k_reg1 ?_
    refine pures [0, 0] hτ h rfl ?_
    intro a h
    refine k_end1 ?_
    have h : St _ [(1, none, .ptr 27101 0), (2, none, .ptr 27102 0), (4, none, .ptr 27103 0), (15, none, .own 27105), (16, none, i64 6), (17, none, i64 1)] [(27101, .blk 36 [.sl (p0.map c_u8)]), (27102, .blk 32 [i64 0, i64 0, i64 0, i64 0, i64 0, i64 0, i64 0, i64 0, i64 0, i64 0]), (27103, .blk 3 [i64 0]), (27105, .lit 142 6 [.fn (.func 79) [] [.ptr 27101 0], .fn (.func 81) [] [.ptr 27101 0, .ptr 27103 0], .fn (.func 82) [] [.ptr 27101 0, .ptr 27104 0], .fn (.func 83) [] [.ptr 27101 0, .ptr 27104 0], .fn (.func 84) [] [.ptr 27101 0], .fn (.func 85) [] [.ptr 27103 0, .ptr 27101 0]]), (27104, .blk 140 [.fn (.func 78) [] [.ptr 27103 0]])] _ w a ν := h.pick_ [1, 2, 4, 15, 16, 17] [27101, 27102, 27103, 27105, 27104] rfl rfl rfl
    refine t_then ?_
    refine k_unroll ?_
    refine k_reg ?_
    refine pures [0] hτ h rfl ?_
    intro a h
    refine k_end ?_
    refine k_seq ?_
    refine k_ifT h rfl ?_
    refine k_skip ?_
    refine t_then ?_
    refine k_seq ?_
    refine k_blk ?_
    refine k_reg ?_
    refine s_pv0 h [27105, 27101, 27103, 27104] (wanted_none rfl) rfl rfl (p_of0 rfl fun w a ν X hO hF hg => e_idxL (off := 1) hτ hF hO hg rfl rfl (by decide) (by decide) rfl) ?_
    intro a w ν h
    refine pures [0, 0] hτ h rfl ?_
    intro a h
    refine k_end ?_
    refine k_reg ?_
    refine pures [0] hτ h rfl ?_
    intro a h
    obtain ⟨q3, hq3, hH⟩ := bnd hH
    obtain ⟨x4, x5⟩ := q3
    refine s_call fn81 (((frame_Open_3.ok p0 0 _ hq3).sw_ 30000 27101).sw_ 30001 27103) [27101, 27103] [] [] h (wanted_none rfl) rfl rfl rfl rfl rfl rfl ?_
    intro a w ν h
    refine pures [0] hτ h rfl ?_
    intro a h
    refine k_end ?_
    refine k_reg ?_
    refine pures [0, 0] hτ h rfl ?_
    intro a h
    refine k_end ?_
    refine k_ifH hH h rfl (fun hb hH => ?_) (fun hb hH => ?_)
    · refine k_reg ?_
      refine pures [0, 0] hτ h rfl ?_
      intro a h
      refine s_store hτ h (wanted_none rfl) rfl rfl rfl rfl rfl ?_
      intro a w ν h
      refine pures [0] hτ h rfl ?_
      intro a h
      refine k_end ?_
      refine wp_ret ?_
      cases hH
      exact r_ret hτ [] h rfl rfl rfl
    · refine k_skip ?_
      refine t_blk ?_
      refine t_then ?_
      refine k_reg1 ?_
      refine pures [0, 0] hτ h rfl ?_
      intro a h
      refine k_end1 ?_
      have h : St _ [(1, none, .ptr 27101 0), (2, none, .ptr 27102 0), (4, none, .ptr 27103 0), (15, none, .own 27105), (16, none, i64 6), (17, none, i64 2)] [(27101, .blk 36 [.sl (p0.map c_u8)]), (27102, .blk 32 [i64 0, i64 0, i64 0, i64 0, i64 0, i64 0, i64 0, i64 0, i64 0, i64 0]), (27103, .blk 3 [i64 x5]), (27105, .lit 142 6 [.fn (.func 79) [] [.ptr 27101 0], .fn (.func 81) [] [.ptr 27101 0, .ptr 27103 0], .fn (.func 82) [] [.ptr 27101 0, .ptr 27104 0], .fn (.func 83) [] [.ptr 27101 0, .ptr 27104 0], .fn (.func 84) [] [.ptr 27101 0], .fn (.func 85) [] [.ptr 27103 0, .ptr 27101 0]]), (27104, .blk 140 [.fn (.func 78) [] [.ptr 27103 0]])] _ w a ν := h.pick_ [1, 2, 4, 15, 16, 17] [27101, 27102, 27103, 27105, 27104] rfl rfl rfl
      refine t_then ?_
      refine k_unroll ?_
      refine k_reg ?_
      refine pures [0] hτ h rfl ?_
      intro a h
      refine k_end ?_
      refine k_seq ?_
      refine k_ifT h rfl ?_
      refine k_skip ?_
      refine t_then ?_
      refine k_seq ?_
      refine k_blk ?_
      refine k_reg ?_
      refine s_pv0 h [27105, 27101, 27103, 27104] (wanted_none rfl) rfl rfl (p_of0 rfl fun w a ν X hO hF hg => e_idxL (off := 2) hτ hF hO hg rfl rfl (by decide) (by decide) rfl) ?_
      intro a w ν h
      refine pures [0, 0] hτ h rfl ?_
      intro a h
      refine k_end ?_
      refine k_reg ?_
      refine pures [0] hτ h rfl ?_
      intro a h
      obtain ⟨q6, hq6, hH⟩ := bnd hH
      obtain ⟨x7⟩ := q6
      refine s_call fn82 ((((frame_Open_4.ok p0 x5 _ hq6).sw_ 31000 27101).sw_ 31001 27103).sw_ 31002 27104) [27101, 27103, 27104] [] [] h (wanted_none rfl) rfl rfl rfl rfl rfl rfl ?_
      intro a w ν h
      refine pures [0] hτ h rfl ?_
      intro a h
      refine k_end ?_
      refine k_reg ?_
      refine pures [0, 0] hτ h rfl ?_
      intro a h
      refine k_end ?_
      refine k_ifH hH h rfl (fun hb hH => ?_) (fun hb hH => ?_)
      · refine k_reg ?_
        refine pures [0, 0] hτ h rfl ?_
        intro a h
        refine s_store hτ h (wanted_none rfl) rfl rfl rfl rfl rfl ?_
        intro a w ν h
        refine pures [0] hτ h rfl ?_
        intro a h
        refine k_end ?_
        refine wp_ret ?_
        cases hH
        exact r_ret hτ [] h rfl rfl rfl
      · refine k_skip ?_
        refine t_blk ?_
        refine t_then ?_
        refine k_reg1 ?_
        refine pures [0, 0] hτ h rfl ?_
        intro a h
        refine k_end1 ?_
        have h : St _ [(1, none, .ptr 27101 0), (2, none, .ptr 27102 0), (4, none, .ptr 27103 0), (15, none, .own 27105), (16, none, i64 6), (17, none, i64 3)] [(27101, .blk 36 [.sl (p0.map c_u8)]), (27102, .blk 32 [i64 0, i64 0, i64 0, i64 0, i64 0, i64 0, i64 0, i64 0, i64 0, i64 0]), (27103, .blk 3 [i64 x5]), (27105, .lit 142 6 [.fn (.func 79) [] [.ptr 27101 0], .fn (.func 81) [] [.ptr 27101 0, .ptr 27103 0], .fn (.func 82) [] [.ptr 27101 0, .ptr 27104 0], .fn (.func 83) [] [.ptr 27101 0, .ptr 27104 0], .fn (.func 84) [] [.ptr 27101 0], .fn (.func 85) [] [.ptr 27103 0, .ptr 27101 0]]), (27104, .blk 140 [.fn (.func 78) [] [.ptr 27103 0]])] _ w a ν := h.pick_ [1, 2, 4, 15, 16, 17] [27101, 27102, 27103, 27105, 27104] rfl rfl rfl
        refine t_then ?_
        refine k_unroll ?_
        refine k_reg ?_
        refine pures [0] hτ h rfl ?_
        intro a h
        refine k_end ?_
        refine k_seq ?_
        refine k_ifT h rfl ?_
        refine k_skip ?_
        refine t_then ?_
        refine k_seq ?_
        refine k_blk ?_
        refine k_reg ?_
        refine s_pv0 h [27105, 27101, 27103, 27104] (wanted_none rfl) rfl rfl (p_of0 rfl fun w a ν X hO hF hg => e_idxL (off := 3) hτ hF hO hg rfl rfl (by decide) (by decide) rfl) ?_
        intro a w ν h
        refine pures [0, 0] hτ h rfl ?_
        intro a h
        refine k_end ?_
        refine k_reg ?_
        refine pures [0] hτ h rfl ?_
        intro a h
        obtain ⟨q8, hq8, hH⟩ := bnd hH
        obtain ⟨x9⟩ := q8
        refine s_call fn83 ((((frame_Open_5.ok p0 x5 _ hq8).sw_ 33000 27101).sw_ 33001 27103).sw_ 33002 27104) [27101, 27103, 27104] [] [] h (wanted_none rfl) rfl rfl rfl rfl rfl rfl ?_
        intro a w ν h
        refine pures [0] hτ h rfl ?_
        intro a h
        refine k_end ?_
        refine k_reg ?_
        refine pures [0, 0] hτ h rfl ?_
        intro a h
        refine k_end ?_
        refine k_ifH hH h rfl (fun hb hH => ?_) (fun hb hH => ?_)
        · refine k_reg ?_
          refine pures [0, 0] hτ h rfl ?_
          intro a h
          refine s_store hτ h (wanted_none rfl) rfl rfl rfl rfl rfl ?_
          intro a w ν h
          refine pures [0] hτ h rfl ?_
          intro a h
          refine k_end ?_
          refine wp_ret ?_
          cases hH
          exact r_ret hτ [] h rfl rfl rfl
        · refine k_skip ?_
          refine t_blk ?_
          refine t_then ?_
          refine k_reg1 ?_
          refine pures [0, 0] hτ h rfl ?_
          intro a h
          refine k_end1 ?_
          have h : St _ [(1, none, .ptr 27101 0), (2, none, .ptr 27102 0), (4, none, .ptr 27103 0), (15, none, .own 27105), (16, none, i64 6), (17, none, i64 4)] [(27101, .blk 36 [.sl (p0.map c_u8)]), (27102, .blk 32 [i64 0, i64 0, i64 0, i64 0, i64 0, i64 0, i64 0, i64 0, i64 0, i64 0]), (27103, .blk 3 [i64 x5]), (27105, .lit 142 6 [.fn (.func 79) [] [.ptr 27101 0], .fn (.func 81) [] [.ptr 27101 0, .ptr 27103 0], .fn (.func 82) [] [.ptr 27101 0, .ptr 27104 0], .fn (.func 83) [] [.ptr 27101 0, .ptr 27104 0], .fn (.func 84) [] [.ptr 27101 0], .fn (.func 85) [] [.ptr 27103 0, .ptr 27101 0]]), (27104, .blk 140 [.fn (.func 78) [] [.ptr 27103 0]])] _ w a ν := h.pick_ [1, 2, 4, 15, 16, 17] [27101, 27102, 27103, 27105, 27104] rfl rfl rfl
          refine t_then ?_
          refine k_unroll ?_
          refine k_reg ?_
          refine pures [0] hτ h rfl ?_
          intro a h
          refine k_end ?_
          refine k_seq ?_
          refine k_ifT h rfl ?_
          refine k_skip ?_
          refine t_then ?_
          refine k_seq ?_
          refine k_blk ?_
          refine k_reg ?_
          refine s_pv0 h [27105, 27101, 27103, 27104] (wanted_none rfl) rfl rfl (p_of0 rfl fun w a ν X hO hF hg => e_idxL (off := 4) hτ hF hO hg rfl rfl (by decide) (by decide) rfl) ?_
          intro a w ν h
          refine pures [0, 0] hτ h rfl ?_
          intro a h
          refine k_end ?_
          refine k_reg ?_
          refine pures [0] hτ h rfl ?_
          intro a h
          obtain ⟨q10, hq10, hH⟩ := bnd hH
          obtain ⟨x11⟩ := q10
          refine s_call fn84 ((frame_Open_6.ok p0 _ hq10).sw_ 34000 27101) [27101] [] [] h (wanted_none rfl) rfl rfl rfl rfl rfl rfl ?_
          intro a w ν h
          refine pures [0] hτ h rfl ?_
          intro a h
          refine k_end ?_
          refine k_reg ?_
          refine pures [0, 0] hτ h rfl ?_
          intro a h
          refine k_end ?_
          refine k_ifH hH h rfl (fun hb hH => ?_) (fun hb hH => ?_)
          · refine k_reg ?_
            refine pures [0, 0] hτ h rfl ?_
            intro a h
            refine s_store hτ h (wanted_none rfl) rfl rfl rfl rfl rfl ?_
            intro a w ν h
            refine pures [0] hτ h rfl ?_
            intro a h
            refine k_end ?_
            refine wp_ret ?_
            cases hH
            exact r_ret hτ [] h rfl rfl rfl
          · refine k_skip ?_
            refine t_blk ?_
            refine t_then ?_
            refine k_reg1 ?_
            refine pures [0, 0] hτ h rfl ?_
            intro a h
            refine k_end1 ?_
            have h : St _ [(1, none, .ptr 27101 0), (2, none, .ptr 27102 0), (4, none, .ptr 27103 0), (15, none, .own 27105), (16, none, i64 6), (17, none, i64 5)] [(27101, .blk 36 [.sl (p0.map c_u8)]), (27102, .blk 32 [i64 0, i64 0, i64 0, i64 0, i64 0, i64 0, i64 0, i64 0, i64 0, i64 0]), (27103, .blk 3 [i64 x5]), (27105, .lit 142 6 [.fn (.func 79) [] [.ptr 27101 0], .fn (.func 81) [] [.ptr 27101 0, .ptr 27103 0], .fn (.func 82) [] [.ptr 27101 0, .ptr 27104 0], .fn (.func 83) [] [.ptr 27101 0, .ptr 27104 0], .fn (.func 84) [] [.ptr 27101 0], .fn (.func 85) [] [.ptr 27103 0, .ptr 27101 0]]), (27104, .blk 140 [.fn (.func 78) [] [.ptr 27103 0]])] _ w a ν := h.pick_ [1, 2, 4, 15, 16, 17] [27101, 27102, 27103, 27105, 27104] rfl rfl rfl
            refine t_then ?_
            refine k_unroll ?_
            refine k_reg ?_
            refine pures [0] hτ h rfl ?_
            intro a h
            refine k_end ?_
            refine k_seq ?_
            refine k_ifT h rfl ?_
            refine k_skip ?_
            refine t_then ?_
            refine k_seq ?_
            refine k_blk ?_
            refine k_reg ?_
            refine s_pv0 h [27105, 27101, 27103, 27104] (wanted_none rfl) rfl rfl (p_of0 rfl fun w a ν X hO hF hg => e_idxL (off := 5) hτ hF hO hg rfl rfl (by decide) (by decide) rfl) ?_
            intro a w ν h
            refine pures [0, 0] hτ h rfl ?_
            intro a h
            refine k_end ?_
            refine k_reg ?_
            refine pures [0] hτ h rfl ?_
            intro a h
            obtain ⟨q12, hq12, hH⟩ := bnd hH
            obtain ⟨x13⟩ := q12
            refine s_call fn85 (((frame_Open_7.ok p0 x5 _ hq12).sw_ 36000 27101).sw_ 36001 27103) [27101, 27103] [] [] h (wanted_none rfl) rfl rfl rfl rfl rfl rfl ?_
            intro a w ν h
            refine pures [0] hτ h rfl ?_
            intro a h
            refine k_end ?_
            refine k_reg ?_
            refine pures [0, 0] hτ h rfl ?_
            intro a h
            refine k_end ?_
            refine k_ifH hH h rfl (fun hb hH => ?_) (fun hb hH => ?_)
            · refine k_reg ?_
              refine pures [0, 0] hτ h rfl ?_
              intro a h
              refine s_store hτ h (wanted_none rfl) rfl rfl rfl rfl rfl ?_
              intro a w ν h
              refine pures [0] hτ h rfl ?_
              intro a h
              refine k_end ?_
              refine wp_ret ?_
              cases hH
              exact r_ret hτ [] h rfl rfl rfl
            · refine k_skip ?_
              refine t_blk ?_
              refine t_then ?_
              refine k_reg1 ?_
              refine pures [0, 0] hτ h rfl ?_
              intro a h
              refine k_end1 ?_
              have h : St _ [(1, none, .ptr 27101 0), (2, none, .ptr 27102 0), (4, none, .ptr 27103 0), (15, none, .own 27105), (16, none, i64 6), (17, none, i64 6)] [(27101, .blk 36 [.sl (p0.map c_u8)]), (27102, .blk 32 [i64 0, i64 0, i64 0, i64 0, i64 0, i64 0, i64 0, i64 0, i64 0, i64 0]), (27103, .blk 3 [i64 x5]), (27105, .lit 142 6 [.fn (.func 79) [] [.ptr 27101 0], .fn (.func 81) [] [.ptr 27101 0, .ptr 27103 0], .fn (.func 82) [] [.ptr 27101 0, .ptr 27104 0], .fn (.func 83) [] [.ptr 27101 0, .ptr 27104 0], .fn (.func 84) [] [.ptr 27101 0], .fn (.func 85) [] [.ptr 27103 0, .ptr 27101 0]]), (27104, .blk 140 [.fn (.func 78) [] [.ptr 27103 0]])] _ w a ν := h.pick_ [1, 2, 4, 15, 16, 17] [27101, 27102, 27103, 27105, 27104] rfl rfl rfl
              refine t_then ?_
              refine k_unroll ?_
              refine k_reg ?_
              refine pures [0] hτ h rfl ?_
              intro a h
              refine k_end ?_
              refine k_seq ?_
              refine k_ifF h rfl ?_
              refine wp_exit ?_
              refine t_te ?_
              refine t_te ?_
              refine t_exit ?_
              refine t_then ?_
              refine k_reg ?_
              refine pures [0, 0, 0] hτ h rfl ?_
              intro a h
              obtain ⟨x14, hx14, hH⟩ := bnd hH
              obtain ⟨c1, c2, c3, c4⟩ := of_cut hx14 c_u8
              refine s_cut hτ h (wanted_none rfl) rfl rfl rfl (map_at (fun _ => rfl)) rfl rfl c1 c2 c3 c4 ?_
              intro a w ν h
              obtain ⟨q15, hq15, hH⟩ := bnd hH
              obtain ⟨x16, x17⟩ := q15
              refine s_call1 fn86 (msg_Get.ok x14 _ hq15) [] h (wanted_none rfl) rfl rfl rfl rfl rfl ?_
              intro a w ν h
              refine pures [0, 0] hτ h rfl ?_
              intro a h
              refine s_store hτ h (wanted_none rfl) rfl rfl rfl rfl rfl ?_
              intro a w ν h
              refine pures [0] hτ h rfl ?_
              intro a h
              refine k_end ?_
              refine wp_ret ?_
              cases hH
              exact r_ret hτ [] h rfl rfl rfl
/-! ### wayfinder/agent.work -/
structure agent_work.R where
  o0 ::
  deriving Inhabited
def agent_work.rd (r : agent_work.R) : DV := .own 41900
def agent_work.rh (r : agent_work.R) : Hp := [(41900, .mp [(.int .i64 2, .v (.func (.func 90) #[] #[])), (.int .i64 3, .v (.func (.func 91) #[] #[])), (.int .i64 4, .v (.func (.func 92) #[] #[])), (.int .i64 5, .v (.func (.func 93) #[] #[]))])]
def agent_work : Option agent_work.R := some (agent_work.R.o0)
theorem fn39 : Go.Proofs.YtjjmoihpjmojiaaDoor.D.Fn Tryd.prog 39 := ⟨Tryd.f39, Tryd.func39, by kernel_rfl, rfl⟩
set_option maxRecDepth 100000 in
theorem agent_work.ok (r : agent_work.R) (hH : agent_work = some r) : Con Tryd.prog 39 [] [] (agent_work.rd r) (agent_work.rh r) := by
  refine con_of Tryd.f39 3 (c := _) Tryd.func39 rfl rfl rfl ?_
  intro w a ν X h
  unfold agent_work at hH
  refine k_reg ?_
  refine pures [0] hτ h rfl ?_
  intro a h
  refine k_end ?_
  refine k_reg ?_
  refine s_new h (wanted_none rfl) rfl rfl (e_mkmap (r' := 41101) h.o rfl rfl) ?_
  intro a w ν h
  refine s_ins mapT92 h (wanted_none rfl) rfl rfl rfl rfl rfl ?_
  intro a w ν h
  refine s_ins mapT92 h (wanted_none rfl) rfl rfl rfl rfl rfl ?_
  intro a w ν h
  refine s_ins mapT92 h (wanted_none rfl) rfl rfl rfl rfl rfl ?_
  intro a w ν h
  refine s_ins mapT92 h (wanted_none rfl) rfl rfl rfl rfl rfl ?_
  intro a w ν h
  refine pures [0, 0] hτ h rfl ?_
  intro a h
  refine k_end ?_
  refine wp_ret ?_
  have h := h.sw_ 41101 41900 rfl
  cases hH
  have h := h.pick_ [0] [41900] rfl rfl rfl
  exact r_ret hτ [41900] h rfl rfl rfl
/-! ### wayfinder/sess.Take -/
structure sess_Take.R where
  o0 ::
  y0 : Int
  deriving Inhabited
def sess_Take.rd (p0 : Int) (p1 : Int) (p2 : Msg) (r : sess_Take.R) : DV := i64 r.y0
def sess_Take.rh (p0 : Int) (p1 : Int) (p2 : Msg) (r : sess_Take.R) : Hp := []
def sess_Take (p0 : Int) (p1 : Int) (p2 : Msg) : Option sess_Take.R := (if (p2.Epoch != p0) then some (sess_Take.R.o0 8) else (if decide (p2.Seq ≤ p1) then some (sess_Take.R.o0 6) else (if decide ((IntKind.i64.wrap (p2.Seq - 1)) > p1) then some (sess_Take.R.o0 3) else some (sess_Take.R.o0 0))))
theorem fn40 : Go.Proofs.YtjjmoihpjmojiaaDoor.D.Fn Tryd.prog 40 := ⟨Tryd.f40, Tryd.func40, by kernel_rfl, rfl⟩
set_option maxRecDepth 100000 in
theorem sess_Take.ok (p0 : Int) (p1 : Int) (p2 : Msg) (r : sess_Take.R) (hH : sess_Take p0 p1 p2 = some r) : Con Tryd.prog 40 [i64 p0, i64 p1, .agg [i64 p2.Kind, i64 p2.Epoch, i64 p2.Seq, i64 p2.Tag, i64 p2.R.P.Addr, i64 p2.R.P.Len, i64 p2.R.In, i64 p2.R.Prio, i64 p2.R.Act.Kind, i64 p2.R.Act.Port]] [] (sess_Take.rd p0 p1 p2 r) (sess_Take.rh p0 p1 p2 r) := by
  refine con_of Tryd.f40 23 (c := _) Tryd.func40 rfl rfl rfl ?_
  intro w a ν X h
  unfold sess_Take at hH
  refine k_reg ?_
  refine s_new h (wanted_none rfl) rfl rfl (e_box (r := 42101) (g := none) h.f h.o rfl trivial rfl rfl) ?_
  intro a w ν h
  refine pures [0] hτ h rfl ?_
  intro a h
  refine k_end ?_
  refine k_seq ?_
  refine k_blk ?_
  refine k_reg ?_
  refine pures [0, 0, 0, 0, 0] hτ h rfl ?_
  intro a h
  refine k_end ?_
  refine k_ifH hH h rfl (fun hb hH => ?_) (fun hb hH => ?_)
  · refine k_reg ?_
    refine pures [0] hτ h rfl ?_
    intro a h
    refine k_end ?_
    refine wp_ret ?_
    cases hH
    exact r_ret hτ [] h rfl rfl rfl
  · refine k_reg ?_
    refine pures [0, 0, 0, 0, 0] hτ h rfl ?_
    intro a h
    refine k_end ?_
    refine k_ifH hH h rfl (fun hb hH => ?_) (fun hb hH => ?_)
    · refine k_reg ?_
      refine pures [0] hτ h rfl ?_
      intro a h
      refine k_end ?_
      refine wp_ret ?_
      cases hH
      exact r_ret hτ [] h rfl rfl rfl
    · refine k_reg ?_
      refine pures [0, 0, 0, 0, 0, 0] hτ h rfl ?_
      intro a h
      refine k_end ?_
      refine k_ifH hH h rfl (fun hb hH => ?_) (fun hb hH => ?_)
      · refine k_reg ?_
        refine pures [0] hτ h rfl ?_
        intro a h
        refine k_end ?_
        refine wp_ret ?_
        cases hH
        exact r_ret hτ [] h rfl rfl rfl
      · refine k_skip ?_
        refine t_blk ?_
        refine t_then ?_
        refine k_reg ?_
        refine pures [0] hτ h rfl ?_
        intro a h
        refine k_end ?_
        refine wp_ret ?_
        cases hH
        exact r_ret hτ [] h rfl rfl rfl
/-! ### wayfinder/agent.Hail -/
inductive agent_Hail.R where
  | o0
  | o1 (y0 : (List Int))
  deriving Inhabited
def agent_Hail.rd (p0 : Switch) : agent_Hail.R → DV
  | .o0 => .v (.slice none 0 0)
  | .o1 y0 => .sl (y0.map c_u8)
def agent_Hail.rh (p0 : Switch) : agent_Hail.R → Hp
  | .o0 => []
  | .o1 y0 => []
def agent_Hail (p0 : Switch) : Option agent_Hail.R := (frame_Seal (Msg.mk 0 p0.Epoch 0 0 (Rule.mk (Prefix.mk 0 0) 0 0 (Action.mk 0 0))) >>= fun q1 => match q1 with | .o0 x2 => some (agent_Hail.R.o0) | .o1 x3 x4 => some (agent_Hail.R.o1 x3))
theorem fn42 : Go.Proofs.YtjjmoihpjmojiaaDoor.D.Fn Tryd.prog 42 := ⟨Tryd.f42, Tryd.func42, by kernel_rfl, rfl⟩
set_option maxRecDepth 100000 in
theorem agent_Hail.ok (p0 : Switch) (r : agent_Hail.R) (hH : agent_Hail p0 = some r) : Con Tryd.prog 42 [.agg [i64 p0.Epoch, i64 p0.Seen, bo p0.Open, i64 p0.Stamp, i64 p0.Bad, .sl (p0.L.map c_Ver), i64 p0.Junk]] [] (agent_Hail.rd p0 r) (agent_Hail.rh p0 r) := by
  refine con_of Tryd.f42 13 (c := _) Tryd.func42 rfl rfl rfl ?_
  intro w a ν X h
  unfold agent_Hail at hH
  refine k_reg ?_
  refine s_new h (wanted_none rfl) rfl rfl (e_box (r := 43101) (g := none) h.f h.o rfl trivial rfl rfl) ?_
  intro a w ν h
  refine pures [0] hτ h rfl ?_
  intro a h
  refine k_end ?_
  refine k_reg ?_
  refine pures [0, 0, 0] hτ h rfl ?_
  intro a h
  obtain ⟨q1, hq1, hH⟩ := bnd hH
  cases q1 with
  | o0 x2 =>
    refine s_call1 fn14 (frame_Seal.ok (Msg.mk 0 p0.Epoch 0 0 (Rule.mk (Prefix.mk 0 0) 0 0 (Action.mk 0 0))) _ hq1) [] h (wanted_none rfl) rfl rfl rfl rfl rfl ?_
    intro a w ν h
    refine pures [0, 0, 0, 0, 0] hτ h rfl ?_
    intro a h
    refine k_end ?_
    refine k_reg ?_
    refine pures [0, 0] hτ h rfl ?_
    intro a h
    refine k_end ?_
    refine wp_ret ?_
    cases hH
    exact r_ret hτ [] h rfl rfl rfl
  | o1 x3 x4 =>
    refine s_call1 fn14 (frame_Seal.ok (Msg.mk 0 p0.Epoch 0 0 (Rule.mk (Prefix.mk 0 0) 0 0 (Action.mk 0 0))) _ hq1) [] h (wanted_none rfl) rfl rfl rfl rfl rfl ?_
    intro a w ν h
    refine pures [0, 0, 0, 0, 0] hτ h rfl ?_
    intro a h
    refine k_end ?_
    refine k_reg ?_
    refine pures [0, 0] hτ h rfl ?_
    intro a h
    refine k_end ?_
    refine wp_ret ?_
    cases hH
    exact r_ret hτ [] h rfl rfl rfl
/-! ### wayfinder/agent.frames -/
structure agent_frames.R where
  o0 ::
  y0 : (List (List Int))
  deriving Inhabited
def agent_frames.rd (p0 : (List Int)) (r : agent_frames.R) : DV := .sl (r.y0.map (c_L c_u8))
def agent_frames.rh (p0 : (List Int)) (r : agent_frames.R) : Hp := []
def agent_frames (p0 : (List Int)) : Option agent_frames.R := (if decide ((lenc c_u8 p0) = 0) then none else some (agent_frames.R.o0 [p0]))
theorem fn41 : Go.Proofs.YtjjmoihpjmojiaaDoor.D.Fn Tryd.prog 41 := ⟨Tryd.f41, Tryd.func41, by kernel_rfl, rfl⟩
set_option maxRecDepth 100000 in
theorem agent_frames.ok (p0 : (List Int)) (r : agent_frames.R) (hH : agent_frames p0 = some r) : Con Tryd.prog 41 [.sl (p0.map c_u8)] [] (agent_frames.rd p0 r) (agent_frames.rh p0 r) := by
  refine con_of Tryd.f41 7 (c := _) Tryd.func41 rfl rfl rfl ?_
  intro w a ν X h
  unfold agent_frames at hH
  refine k_reg ?_
  refine pures [0] hτ h rfl ?_
  intro a h
  refine k_end ?_
  refine k_seq ?_
  refine k_reg ?_
  refine pures [0] hτ h rfl ?_
  intro a h
  rcases b_if hH with ⟨hb, hH⟩ | ⟨hb, hH⟩
  · cases hH
  refine s_nil hτ h (wanted_none rfl) rfl rfl rfl rfl ?_
  intro b hbk a w ν h
  cases b with
  | true => exact absurd (hbk rfl) (by have := of_decide_eq_false hb; simpa [lenc] using this)
  | false =>
    refine k_end ?_
    refine k_ifF h rfl ?_
    refine k_skip ?_
    refine t_then ?_
    refine k_reg ?_
    refine pures [0] hτ h rfl ?_
    intro a h
    refine s_lit 44101 [] hτ h (wanted_none rfl) rfl rfl rfl rfl rfl rfl (by decide) rfl rfl rfl (es := ([p0] : List (List Int)).map (c_L c_u8)) rfl rfl ?_
    intro a w ν h
    refine pures [0] hτ h rfl ?_
    intro a h
    refine k_end ?_
    refine wp_ret ?_
    have h := h.frzH (q := 44101) rfl (fzn_map (fun _ => rfl))
    cases hH
    exact r_ret hτ [] h rfl rfl rfl
/-! ### wayfinder/rule.Alike -/
structure rule_Alike.R where
  o0 ::
  y0 : Bool
  deriving Inhabited
def rule_Alike.rd (p0 : Rule) (p1 : Rule) (r : rule_Alike.R) : DV := bo r.y0
def rule_Alike.rh (p0 : Rule) (p1 : Rule) (r : rule_Alike.R) : Hp := []
def rule_Alike (p0 : Rule) (p1 : Rule) : Option rule_Alike.R := some (rule_Alike.R.o0 ((p0.P.Addr == p1.P.Addr) && ((p0.P.Len == p1.P.Len) && ((p0.In == p1.In) && ((p0.Prio == p1.Prio) && ((0 == 0) && ((0 == 0) && true)))))))
theorem fn25 : Go.Proofs.YtjjmoihpjmojiaaDoor.D.Fn Tryd.prog 25 := ⟨Tryd.f25, Tryd.func25, by kernel_rfl, rfl⟩
set_option maxRecDepth 100000 in
theorem rule_Alike.ok (p0 : Rule) (p1 : Rule) (r : rule_Alike.R) (hH : rule_Alike p0 p1 = some r) : Con Tryd.prog 25 [.agg [i64 p0.P.Addr, i64 p0.P.Len, i64 p0.In, i64 p0.Prio, i64 p0.Act.Kind, i64 p0.Act.Port], .agg [i64 p1.P.Addr, i64 p1.P.Len, i64 p1.In, i64 p1.Prio, i64 p1.Act.Kind, i64 p1.Act.Port]] [] (rule_Alike.rd p0 p1 r) (rule_Alike.rh p0 p1 r) := by
  refine con_of Tryd.f25 12 (c := _) Tryd.func25 rfl rfl rfl ?_
  intro w a ν X h
  unfold rule_Alike at hH
  refine k_reg ?_
  refine s_new h (wanted_none rfl) rfl rfl (e_box (r := 50101) (g := none) h.f h.o rfl trivial rfl rfl) ?_
  intro a w ν h
  refine s_new h (wanted_none rfl) rfl rfl (e_box (r := 50102) (g := none) h.f h.o rfl trivial rfl rfl) ?_
  intro a w ν h
  refine pures [0] hτ h rfl ?_
  intro a h
  refine k_end ?_
  refine k_reg ?_
  refine pures [0, 0, 0] hτ h rfl ?_
  intro a h
  refine s_store hτ h (wanted_none rfl) rfl rfl rfl rfl rfl ?_
  intro a w ν h
  refine pures [0] hτ h rfl ?_
  intro a h
  refine s_store hτ h (wanted_none rfl) rfl rfl rfl rfl rfl ?_
  intro a w ν h
  refine k_end ?_
  refine k_reg ?_
  refine pures [0, 0] hτ h rfl ?_
  intro a h
  refine s_pv0 h [] (wanted_none rfl) rfl rfl (p_of0 rfl fun w a ν X hO hF hg => e_eqA hF hO hg eqA30 rfl) ?_
  intro a w ν h
  refine pures [0] hτ h rfl ?_
  intro a h
  refine k_end ?_
  refine wp_ret ?_
  cases hH
  exact r_ret hτ [] h rfl rfl rfl
/-! ### wayfinder/table.Put$1 -/
structure table_Put_1.R where
  o0 ::
  y0 : Bool
  deriving Inhabited
def table_Put_1.rd (p0 : Rule) (p1 : Rule) (r : table_Put_1.R) : DV := bo r.y0
def table_Put_1.rh (p0 : Rule) (p1 : Rule) (r : table_Put_1.R) : Hp := [(49000, .blk 30 [i64 p1.P.Addr, i64 p1.P.Len, i64 p1.In, i64 p1.Prio, i64 p1.Act.Kind, i64 p1.Act.Port])]
def table_Put_1 (p0 : Rule) (p1 : Rule) : Option table_Put_1.R := (rule_Alike p0 p1 >>= fun q1 => match q1 with | .o0 x2 => some (table_Put_1.R.o0 x2))
theorem fn48 : Go.Proofs.YtjjmoihpjmojiaaDoor.D.Fn Tryd.prog 48 := ⟨Tryd.f48, Tryd.func48, by kernel_rfl, rfl⟩
set_option maxRecDepth 100000 in
theorem table_Put_1.ok (p0 : Rule) (p1 : Rule) (r : table_Put_1.R) (hH : table_Put_1 p0 p1 = some r) : Con Tryd.prog 48 [.agg [i64 p0.P.Addr, i64 p0.P.Len, i64 p0.In, i64 p0.Prio, i64 p0.Act.Kind, i64 p0.Act.Port], .ptr 49000 0] [(49000, .blk 30 [i64 p1.P.Addr, i64 p1.P.Len, i64 p1.In, i64 p1.Prio, i64 p1.Act.Kind, i64 p1.Act.Port])] (table_Put_1.rd p0 p1 r) (table_Put_1.rh p0 p1 r) := by
  refine con_of Tryd.f48 7 (c := _) Tryd.func48 rfl rfl rfl ?_
  intro w a ν X h
  unfold table_Put_1 at hH
  refine k_reg ?_
  refine s_new h (wanted_none rfl) rfl rfl (e_box (r := 49101) (g := none) h.f h.o rfl trivial rfl rfl) ?_
  intro a w ν h
  refine pures [0] hτ h rfl ?_
  intro a h
  refine k_end ?_
  refine k_reg ?_
  refine pures [0, 0] hτ h rfl ?_
  intro a h
  obtain ⟨q1, hq1, hH⟩ := bnd hH
  obtain ⟨x2⟩ := q1
  refine s_call1 fn25 (rule_Alike.ok p0 p1 _ hq1) [] h (wanted_none rfl) rfl rfl rfl rfl rfl ?_
  intro a w ν h
  refine pures [0] hτ h rfl ?_
  intro a h
  refine k_end ?_
  refine wp_ret ?_
  cases hH
  have h := h.pick_ [3] [49000] rfl rfl rfl
  exact r_ret hτ [49000] h rfl rfl rfl
/-! ### slices.IndexFunc[[]wayfinder/api.Rule,wayfinder/api.Rule] -/
structure slices_IndexFunc_api_Rule_api_Rule.R where
  o0 ::
  y0 : Int
  deriving Inhabited
def slices_IndexFunc_api_Rule_api_Rule.rd (p0 : (List Rule)) (p1 : Rule) (r : slices_IndexFunc_api_Rule_api_Rule.R) : DV := i64 r.y0
def slices_IndexFunc_api_Rule_api_Rule.rh (p0 : (List Rule)) (p1 : Rule) (r : slices_IndexFunc_api_Rule_api_Rule.R) : Hp := [(48000, .blk 30 [i64 p1.P.Addr, i64 p1.P.Len, i64 p1.In, i64 p1.Prio, i64 p1.Act.Kind, i64 p1.Act.Port])]
def slices_IndexFunc_api_Rule_api_Rule.l0 (p0 : (List Rule)) (p1 : Rule) (s1 : Int) : Option (Ou (Unit) slices_IndexFunc_api_Rule_api_Rule.R) := (if decide (s1 < (lenc c_Rule p0)) then (at_ p0 s1 >>= fun x7 => (table_Put_1 x7 p1 >>= fun q8 => match q8 with | .o0 x9 => (if x9 then some (.ret (slices_IndexFunc_api_Rule_api_Rule.R.o0 s1)) else slices_IndexFunc_api_Rule_api_Rule.l0 p0 p1 (IntKind.i64.wrap (s1 + 1))))) else some (.go ()))
  partial_fixpoint
def slices_IndexFunc_api_Rule_api_Rule (p0 : (List Rule)) (p1 : Rule) : Option slices_IndexFunc_api_Rule_api_Rule.R := (slices_IndexFunc_api_Rule_api_Rule.l0 p0 p1 0 >>= fun o => match o with | .ret r => some r | .go z1 => some (slices_IndexFunc_api_Rule_api_Rule.R.o0 (-1)))
theorem fn96 : Go.Proofs.YtjjmoihpjmojiaaDoor.D.Fn Tryd.prog 96 := ⟨Tryd.f96, Tryd.func96, by kernel_rfl, rfl⟩
set_option maxRecDepth 100000 in
theorem slices_IndexFunc_api_Rule_api_Rule.ok (p0 : (List Rule)) (p1 : Rule) (r : slices_IndexFunc_api_Rule_api_Rule.R) (hH : slices_IndexFunc_api_Rule_api_Rule p0 p1 = some r) : Con Tryd.prog 96 [.sl (p0.map c_Rule), .fn (.func 48) [] [.ptr 48000 0]] [(48000, .blk 30 [i64 p1.P.Addr, i64 p1.P.Len, i64 p1.In, i64 p1.Prio, i64 p1.Act.Kind, i64 p1.Act.Port])] (slices_IndexFunc_api_Rule_api_Rule.rd p0 p1 r) (slices_IndexFunc_api_Rule_api_Rule.rh p0 p1 r) := by
  refine con_of Tryd.f96 19 (c := _) Tryd.func96 rfl rfl rfl ?_
  intro w a ν X h
  unfold slices_IndexFunc_api_Rule_api_Rule at hH
  refine k_reg ?_
  refine pures [0] hτ h rfl ?_
  intro a h
  refine k_end ?_
  refine k_seq ?_
  refine k_reg ?_
  refine pures [0, 0, 0] hτ h rfl ?_
  intro a h
  refine k_end ?_
  have h := h.pick_ [0, 1, 7, 8] [48000] rfl rfl rfl
  refine k_cut h hH (fun (z1 : Unit) => []) (fun (z1 : Unit) => [(48000, .blk 30 [i64 p1.P.Addr, i64 p1.P.Len, i64 p1.In, i64 p1.Prio, i64 p1.Act.Kind, i64 p1.Act.Port])]) (fun o0 ho hk0 => ?_) (fun z1 a w ν hH h => ?_)
  · refine k_blk ?_
    refine k_loopC (slices_IndexFunc_api_Rule_api_Rule.l0.partial_correctness p0 p1) (fun (s1 : Int) => [(0, none, .sl (p0.map c_Rule)), (1, none, .fn (.func 48) [] [.ptr 48000 0]), (7, none, i64 (lenc c_Rule p0)), (8, none, i64 s1)]) (fun (s1 : Int) => [(48000, .blk 30 [i64 p1.P.Addr, i64 p1.P.Len, i64 p1.In, i64 p1.Prio, i64 p1.Act.Kind, i64 p1.Act.Port])]) ho hk0 h ?_
    intro g s1 o0 hH hk0 a w ν h
    refine k_reg ?_
    refine pures [0] hτ h rfl ?_
    intro a h
    refine k_end ?_
    refine k_seq ?_
    refine k_ifH hH h rfl (fun hb hH => ?_) (fun hb hH => ?_)
    · refine k_skip ?_
      refine t_then ?_
      refine k_seq ?_
      refine k_blk ?_
      refine k_reg ?_
      refine pures [0, 0] hτ h rfl ?_
      intro a h
      refine k_end ?_
      refine k_reg ?_
      refine pures [0, 0, 0] hτ h rfl ?_
      intro a h
      obtain ⟨x7, hx7, hH⟩ := bnd hH
      refine s_idx hτ h (wanted_none rfl) rfl rfl rfl rfl (at_map hx7 c_Rule).1 (at_map hx7 c_Rule).2 ?_
      intro a w ν h
      refine pures [0] hτ h rfl ?_
      intro a h
      obtain ⟨q8, hq8, hH⟩ := bnd hH
      obtain ⟨x9⟩ := q8
      refine s_call fn48 ((table_Put_1.ok x7 p1 _ hq8).sw_ 49000 48000) [48000] [] [] h (wanted_none rfl) rfl rfl rfl rfl rfl rfl ?_
      intro a w ν h
      refine k_end ?_
      refine k_ifH hH h rfl (fun hb hH => ?_) (fun hb hH => ?_)
      · refine k_reg ?_
        refine pures [0, 0] hτ h rfl ?_
        intro a h
        refine k_end ?_
        refine wp_ret ?_
        cases hH
        cases Kp.out hk0
        have h := h.pick_ [4] [48000] rfl rfl rfl
        exact r_ret hτ [48000] h rfl rfl rfl
      · refine k_skip ?_
        refine t_blk ?_
        refine t_then ?_
        refine k_reg1 ?_
        refine pures [0, 0] hτ h rfl ?_
        intro a h
        refine k_end1 ?_
        have h := h.pick_ [0, 1, 7, 8] [48000] rfl rfl rfl
        exact ⟨_, _, hH, h.pick_ [0, 1, 7, 8] [48000] rfl rfl rfl⟩
    · refine wp_exit ?_
      refine t_te ?_
      refine t_te ?_
      refine t_exit ?_
      have h := h.pick_ [] [48000] rfl rfl rfl
      cases hH
      exact ⟨_, _, rfl, h.pick_ [] [48000] rfl rfl rfl⟩
  · refine t_then ?_
    refine k_reg ?_
    refine pures [0] hτ h rfl ?_
    intro a h
    refine k_end ?_
    refine wp_ret ?_
    cases hH
    have h := h.pick_ [4] [48000] rfl rfl rfl
    exact r_ret hτ [48000] h rfl rfl rfl
/-! ### wayfinder/table.first[wayfinder/api.Rule] -/
structure table_first_api_Rule.R where
  o0 ::
  y0 : Int
  deriving Inhabited
def table_first_api_Rule.rd (p0 : (List Rule)) (p1 : Rule) (r : table_first_api_Rule.R) : DV := i64 r.y0
def table_first_api_Rule.rh (p0 : (List Rule)) (p1 : Rule) (r : table_first_api_Rule.R) : Hp := [(47000, .blk 30 [i64 p1.P.Addr, i64 p1.P.Len, i64 p1.In, i64 p1.Prio, i64 p1.Act.Kind, i64 p1.Act.Port])]
def table_first_api_Rule (p0 : (List Rule)) (p1 : Rule) : Option table_first_api_Rule.R := (slices_IndexFunc_api_Rule_api_Rule p0 p1 >>= fun q1 => match q1 with | .o0 x2 => (if decide (x2 ≥ 0) then some (table_first_api_Rule.R.o0 x2) else some (table_first_api_Rule.R.o0 (lenc c_Rule p0))))
theorem fn47 : Go.Proofs.YtjjmoihpjmojiaaDoor.D.Fn Tryd.prog 47 := ⟨Tryd.f47, Tryd.func47, by kernel_rfl, rfl⟩
set_option maxRecDepth 100000 in
theorem table_first_api_Rule.ok (p0 : (List Rule)) (p1 : Rule) (r : table_first_api_Rule.R) (hH : table_first_api_Rule p0 p1 = some r) : Con Tryd.prog 47 [.sl (p0.map c_Rule), .fn (.func 48) [] [.ptr 47000 0]] [(47000, .blk 30 [i64 p1.P.Addr, i64 p1.P.Len, i64 p1.In, i64 p1.Prio, i64 p1.Act.Kind, i64 p1.Act.Port])] (table_first_api_Rule.rd p0 p1 r) (table_first_api_Rule.rh p0 p1 r) := by
  refine con_of Tryd.f47 14 (c := _) Tryd.func47 rfl rfl rfl ?_
  intro w a ν X h
  unfold table_first_api_Rule at hH
  refine k_reg ?_
  refine pures [0] hτ h rfl ?_
  intro a h
  refine k_end ?_
  refine k_seq ?_
  refine k_reg ?_
  refine pures [0, 0] hτ h rfl ?_
  intro a h
  obtain ⟨q1, hq1, hH⟩ := bnd hH
  obtain ⟨x2⟩ := q1
  refine s_call fn96 ((slices_IndexFunc_api_Rule_api_Rule.ok p0 p1 _ hq1).sw_ 48000 47000) [47000] [] [] h (wanted_none rfl) rfl rfl rfl rfl rfl rfl ?_
  intro a w ν h
  refine pures [0] hτ h rfl ?_
  intro a h
  refine k_end ?_
  refine k_reg ?_
  refine pures [0, 0] hτ h rfl ?_
  intro a h
  refine k_end ?_
  refine k_ifH hH h rfl (fun hb hH => ?_) (fun hb hH => ?_)
  · refine k_reg ?_
    refine pures [0, 0] hτ h rfl ?_
    intro a h
    refine k_end ?_
    refine wp_ret ?_
    cases hH
    have h := h.pick_ [4] [47000] rfl rfl rfl
    exact r_ret hτ [47000] h rfl rfl rfl
  · refine k_skip ?_
    refine t_then ?_
    refine k_reg ?_
    refine pures [0, 0, 0] hτ h rfl ?_
    intro a h
    refine k_end ?_
    refine wp_ret ?_
    cases hH
    have h := h.pick_ [4] [47000] rfl rfl rfl
    exact r_ret hτ [47000] h rfl rfl rfl
/-! ### wayfinder/table.Size -/
structure table_Size.R where
  o0 ::
  y0 : Int
  deriving Inhabited
def table_Size.rd (p0 : (List Ver)) (r : table_Size.R) : DV := i64 r.y0
def table_Size.rh (p0 : (List Ver)) (r : table_Size.R) : Hp := []
def table_Size.l0 (p0 : (List Ver)) (s1 : Int × Int) : Option (Int) := (if decide (s1.2 < (lenc c_Ver p0)) then (at_ p0 s1.2 >>= fun x3 => table_Size.l0 p0 (IntKind.i64.wrap (s1.1 + (lenc c_Rule x3.L)), IntKind.i64.wrap (s1.2 + 1))) else some s1.1)
  partial_fixpoint
def table_Size (p0 : (List Ver)) : Option table_Size.R := (table_Size.l0 p0 (0, 0) >>= fun z1 => some (table_Size.R.o0 z1))
theorem fn49 : Go.Proofs.YtjjmoihpjmojiaaDoor.D.Fn Tryd.prog 49 := ⟨Tryd.f49, Tryd.func49, by kernel_rfl, rfl⟩
set_option maxRecDepth 100000 in
theorem table_Size.ok (p0 : (List Ver)) (r : table_Size.R) (hH : table_Size p0 = some r) : Con Tryd.prog 49 [.sl (p0.map c_Ver)] [] (table_Size.rd p0 r) (table_Size.rh p0 r) := by
  refine con_of Tryd.f49 19 (c := _) Tryd.func49 rfl rfl rfl ?_
  intro w a ν X h
  unfold table_Size at hH
  refine k_reg ?_
  refine pures [0] hτ h rfl ?_
  intro a h
  refine k_end ?_
  refine k_reg ?_
  refine pures [0] hτ h rfl ?_
  intro a h
  refine k_end ?_
  refine k_seq ?_
  refine k_reg ?_
  refine pures [0, 0, 0] hτ h rfl ?_
  intro a h
  refine k_end ?_
  have h := h.pick_ [3, 6, 7, 8] [] rfl rfl rfl
  refine k_cut0 h hH (fun (z1 : Int) => [(3, none, i64 z1)]) (fun (z1 : Int) => []) (fun o ho => ?_) (fun z1 a w ν hH h => ?_)
  · refine k_blk ?_
    refine k_loopC0 (table_Size.l0.partial_correctness p0) (fun (s1 : Int × Int) => [(3, none, i64 s1.1), (6, none, .sl (p0.map c_Ver)), (7, none, i64 (lenc c_Ver p0)), (8, none, i64 s1.2)]) (fun (s1 : Int × Int) => []) ho h ?_
    intro g s1 o hH a w ν h
    refine k_reg ?_
    refine pures [0] hτ h rfl ?_
    intro a h
    refine k_end ?_
    refine k_seq ?_
    refine k_ifH hH h rfl (fun hb hH => ?_) (fun hb hH => ?_)
    · refine k_skip ?_
      refine t_then ?_
      refine k_seq ?_
      refine k_blk ?_
      refine k_reg ?_
      obtain ⟨x3, hx3, hH⟩ := bnd hH
      refine s_idx hτ h (wanted_none rfl) rfl rfl rfl rfl (at_map hx3 c_Ver).1 (at_map hx3 c_Ver).2 ?_
      intro a w ν h
      refine pures [0] hτ h rfl ?_
      intro a h
      refine s_new h (wanted_none rfl) rfl rfl (e_alloc (r := 51103) hτ h.o rfl rfl) ?_
      intro a w ν h
      refine s_store hτ h (wanted_none rfl) rfl rfl rfl rfl rfl ?_
      intro a w ν h
      refine k_end ?_
      refine k_reg1 ?_
      refine pures [0, 0, 0, 0, 0, 0] hτ h rfl ?_
      intro a h
      refine k_end1 ?_
      refine t_blk ?_
      refine t_then ?_
      refine k_reg1 ?_
      refine pures [0, 0] hτ h rfl ?_
      intro a h
      refine k_end1 ?_
      have h := h.pick_ [3, 6, 7, 8] [] rfl rfl rfl
      exact ⟨_, _, hH, h.pick_ [3, 6, 7, 8] [] rfl rfl rfl⟩
    · refine wp_exit ?_
      refine t_te ?_
      refine t_te ?_
      refine t_exit ?_
      have h := h.pick_ [3] [] rfl rfl rfl
      cases hH
      exact ⟨_, h.pick_ [3] [] rfl rfl rfl⟩
  · refine t_then ?_
    refine k_reg ?_
    refine pures [0, 0] hτ h rfl ?_
    intro a h
    refine k_end ?_
    refine wp_ret ?_
    cases hH
    exact r_ret hτ [] h rfl rfl rfl
/-! ### wayfinder/table.Put$2 -/
structure table_Put_2.R where
  o0 ::
  y0 : Bool
  deriving Inhabited
def table_Put_2.rd (p0 : Ver) (p1 : Int) (r : table_Put_2.R) : DV := bo r.y0
def table_Put_2.rh (p0 : Ver) (p1 : Int) (r : table_Put_2.R) : Hp := [(54000, .blk 3 [i64 p1])]
def table_Put_2 (p0 : Ver) (p1 : Int) : Option table_Put_2.R := some (table_Put_2.R.o0 (decide (p0.Tag > p1)))
theorem fn51 : Go.Proofs.YtjjmoihpjmojiaaDoor.D.Fn Tryd.prog 51 := ⟨Tryd.f51, Tryd.func51, by kernel_rfl, rfl⟩
set_option maxRecDepth 100000 in
theorem table_Put_2.ok (p0 : Ver) (p1 : Int) (r : table_Put_2.R) (hH : table_Put_2 p0 p1 = some r) : Con Tryd.prog 51 [.agg [i64 p0.Tag, .sl (p0.L.map c_Rule)], .ptr 54000 0] [(54000, .blk 3 [i64 p1])] (table_Put_2.rd p0 p1 r) (table_Put_2.rh p0 p1 r) := by
  refine con_of Tryd.f51 8 (c := _) Tryd.func51 rfl rfl rfl ?_
  intro w a ν X h
  unfold table_Put_2 at hH
  refine k_reg ?_
  refine s_new h (wanted_none rfl) rfl rfl (e_box (r := 54101) (g := none) h.f h.o rfl trivial rfl rfl) ?_
  intro a w ν h
  refine pures [0] hτ h rfl ?_
  intro a h
  refine k_end ?_
  refine k_reg ?_
  refine pures [0, 0, 0, 0, 0] hτ h rfl ?_
  intro a h
  refine k_end ?_
  refine wp_ret ?_
  cases hH
  have h := h.pick_ [3] [54000] rfl rfl rfl
  exact r_ret hτ [54000] h rfl rfl rfl
/-! ### slices.IndexFunc[[]wayfinder/api.Ver,wayfinder/api.Ver] -/
structure slices_IndexFunc_api_Ver_api_Ver_1.R where
  o0 ::
  y0 : Int
  deriving Inhabited
def slices_IndexFunc_api_Ver_api_Ver_1.rd (p0 : (List Ver)) (p1 : Int) (r : slices_IndexFunc_api_Ver_api_Ver_1.R) : DV := i64 r.y0
def slices_IndexFunc_api_Ver_api_Ver_1.rh (p0 : (List Ver)) (p1 : Int) (r : slices_IndexFunc_api_Ver_api_Ver_1.R) : Hp := [(53000, .blk 3 [i64 p1])]
def slices_IndexFunc_api_Ver_api_Ver_1.l0 (p0 : (List Ver)) (p1 : Int) (s1 : Int) : Option (Ou (Unit) slices_IndexFunc_api_Ver_api_Ver_1.R) := (if decide (s1 < (lenc c_Ver p0)) then (at_ p0 s1 >>= fun x7 => (table_Put_2 x7 p1 >>= fun q8 => match q8 with | .o0 x9 => (if x9 then some (.ret (slices_IndexFunc_api_Ver_api_Ver_1.R.o0 s1)) else slices_IndexFunc_api_Ver_api_Ver_1.l0 p0 p1 (IntKind.i64.wrap (s1 + 1))))) else some (.go ()))
  partial_fixpoint
def slices_IndexFunc_api_Ver_api_Ver_1 (p0 : (List Ver)) (p1 : Int) : Option slices_IndexFunc_api_Ver_api_Ver_1.R := (slices_IndexFunc_api_Ver_api_Ver_1.l0 p0 p1 0 >>= fun o => match o with | .ret r => some r | .go z1 => some (slices_IndexFunc_api_Ver_api_Ver_1.R.o0 (-1)))
set_option maxRecDepth 100000 in
theorem slices_IndexFunc_api_Ver_api_Ver_1.ok (p0 : (List Ver)) (p1 : Int) (r : slices_IndexFunc_api_Ver_api_Ver_1.R) (hH : slices_IndexFunc_api_Ver_api_Ver_1 p0 p1 = some r) : Con Tryd.prog 97 [.sl (p0.map c_Ver), .fn (.func 51) [] [.ptr 53000 0]] [(53000, .blk 3 [i64 p1])] (slices_IndexFunc_api_Ver_api_Ver_1.rd p0 p1 r) (slices_IndexFunc_api_Ver_api_Ver_1.rh p0 p1 r) := by
  refine con_of Tryd.f97 19 (c := _) Tryd.func97 rfl rfl rfl ?_
  intro w a ν X h
  unfold slices_IndexFunc_api_Ver_api_Ver_1 at hH
  refine k_reg ?_
  refine pures [0] hτ h rfl ?_
  intro a h
  refine k_end ?_
  refine k_seq ?_
  refine k_reg ?_
  refine pures [0, 0, 0] hτ h rfl ?_
  intro a h
  refine k_end ?_
  have h := h.pick_ [0, 1, 7, 8] [53000] rfl rfl rfl
  refine k_cut h hH (fun (z1 : Unit) => []) (fun (z1 : Unit) => [(53000, .blk 3 [i64 p1])]) (fun o0 ho hk0 => ?_) (fun z1 a w ν hH h => ?_)
  · refine k_blk ?_
    refine k_loopC (slices_IndexFunc_api_Ver_api_Ver_1.l0.partial_correctness p0 p1) (fun (s1 : Int) => [(0, none, .sl (p0.map c_Ver)), (1, none, .fn (.func 51) [] [.ptr 53000 0]), (7, none, i64 (lenc c_Ver p0)), (8, none, i64 s1)]) (fun (s1 : Int) => [(53000, .blk 3 [i64 p1])]) ho hk0 h ?_
    intro g s1 o0 hH hk0 a w ν h
    refine k_reg ?_
    refine pures [0] hτ h rfl ?_
    intro a h
    refine k_end ?_
    refine k_seq ?_
    refine k_ifH hH h rfl (fun hb hH => ?_) (fun hb hH => ?_)
    · refine k_skip ?_
      refine t_then ?_
      refine k_seq ?_
      refine k_blk ?_
      refine k_reg ?_
      refine pures [0, 0] hτ h rfl ?_
      intro a h
      refine k_end ?_
      refine k_reg ?_
      refine pures [0, 0, 0] hτ h rfl ?_
      intro a h
      obtain ⟨x7, hx7, hH⟩ := bnd hH
      refine s_idx hτ h (wanted_none rfl) rfl rfl rfl rfl (at_map hx7 c_Ver).1 (at_map hx7 c_Ver).2 ?_
      intro a w ν h
      refine pures [0] hτ h rfl ?_
      intro a h
      obtain ⟨q8, hq8, hH⟩ := bnd hH
      obtain ⟨x9⟩ := q8
      refine s_call fn51 ((table_Put_2.ok x7 p1 _ hq8).sw_ 54000 53000) [53000] [] [] h (wanted_none rfl) rfl rfl rfl rfl rfl rfl ?_
      intro a w ν h
      refine k_end ?_
      refine k_ifH hH h rfl (fun hb hH => ?_) (fun hb hH => ?_)
      · refine k_reg ?_
        refine pures [0, 0] hτ h rfl ?_
        intro a h
        refine k_end ?_
        refine wp_ret ?_
        cases hH
        cases Kp.out hk0
        have h := h.pick_ [4] [53000] rfl rfl rfl
        exact r_ret hτ [53000] h rfl rfl rfl
      · refine k_skip ?_
        refine t_blk ?_
        refine t_then ?_
        refine k_reg1 ?_
        refine pures [0, 0] hτ h rfl ?_
        intro a h
        refine k_end1 ?_
        have h := h.pick_ [0, 1, 7, 8] [53000] rfl rfl rfl
        exact ⟨_, _, hH, h.pick_ [0, 1, 7, 8] [53000] rfl rfl rfl⟩
    · refine wp_exit ?_
      refine t_te ?_
      refine t_te ?_
      refine t_exit ?_
      have h := h.pick_ [] [53000] rfl rfl rfl
      cases hH
      exact ⟨_, _, rfl, h.pick_ [] [53000] rfl rfl rfl⟩
  · refine t_then ?_
    refine k_reg ?_
    refine pures [0] hτ h rfl ?_
    intro a h
    refine k_end ?_
    refine wp_ret ?_
    cases hH
    have h := h.pick_ [4] [53000] rfl rfl rfl
    exact r_ret hτ [53000] h rfl rfl rfl
/-! ### wayfinder/table.first[wayfinder/api.Ver] -/
structure table_first_api_Ver_1.R where
  o0 ::
  y0 : Int
  deriving Inhabited
def table_first_api_Ver_1.rd (p0 : (List Ver)) (p1 : Int) (r : table_first_api_Ver_1.R) : DV := i64 r.y0
def table_first_api_Ver_1.rh (p0 : (List Ver)) (p1 : Int) (r : table_first_api_Ver_1.R) : Hp := [(52000, .blk 3 [i64 p1])]
def table_first_api_Ver_1 (p0 : (List Ver)) (p1 : Int) : Option table_first_api_Ver_1.R := (slices_IndexFunc_api_Ver_api_Ver_1 p0 p1 >>= fun q1 => match q1 with | .o0 x2 => (if decide (x2 ≥ 0) then some (table_first_api_Ver_1.R.o0 x2) else some (table_first_api_Ver_1.R.o0 (lenc c_Ver p0))))
set_option maxRecDepth 100000 in
theorem table_first_api_Ver_1.ok (p0 : (List Ver)) (p1 : Int) (r : table_first_api_Ver_1.R) (hH : table_first_api_Ver_1 p0 p1 = some r) : Con Tryd.prog 50 [.sl (p0.map c_Ver), .fn (.func 51) [] [.ptr 52000 0]] [(52000, .blk 3 [i64 p1])] (table_first_api_Ver_1.rd p0 p1 r) (table_first_api_Ver_1.rh p0 p1 r) := by
  refine con_of Tryd.f50 14 (c := _) Tryd.func50 rfl rfl rfl ?_
  intro w a ν X h
  unfold table_first_api_Ver_1 at hH
  refine k_reg ?_
  refine pures [0] hτ h rfl ?_
  intro a h
  refine k_end ?_
  refine k_seq ?_
  refine k_reg ?_
  refine pures [0, 0] hτ h rfl ?_
  intro a h
  obtain ⟨q1, hq1, hH⟩ := bnd hH
  obtain ⟨x2⟩ := q1
  refine s_call fn97 ((slices_IndexFunc_api_Ver_api_Ver_1.ok p0 p1 _ hq1).sw_ 53000 52000) [52000] [] [] h (wanted_none rfl) rfl rfl rfl rfl rfl rfl ?_
  intro a w ν h
  refine pures [0] hτ h rfl ?_
  intro a h
  refine k_end ?_
  refine k_reg ?_
  refine pures [0, 0] hτ h rfl ?_
  intro a h
  refine k_end ?_
  refine k_ifH hH h rfl (fun hb hH => ?_) (fun hb hH => ?_)
  · refine k_reg ?_
    refine pures [0, 0] hτ h rfl ?_
    intro a h
    refine k_end ?_
    refine wp_ret ?_
    cases hH
    have h := h.pick_ [4] [52000] rfl rfl rfl
    exact r_ret hτ [52000] h rfl rfl rfl
  · refine k_skip ?_
    refine t_then ?_
    refine k_reg ?_
    refine pures [0, 0, 0] hτ h rfl ?_
    intro a h
    refine k_end ?_
    refine wp_ret ?_
    cases hH
    have h := h.pick_ [4] [52000] rfl rfl rfl
    exact r_ret hτ [52000] h rfl rfl rfl
/-! ### slices.Insert[[]wayfinder/api.Ver,wayfinder/api.Ver] -/
structure slices_Insert_api_Ver_api_Ver.R where
  o0 ::
  y0 : (List Ver)
  deriving Inhabited
def slices_Insert_api_Ver_api_Ver.rd (p0 : (List Ver)) (p1 : Int) (p2 : (List Ver)) (r : slices_Insert_api_Ver_api_Ver.R) : DV := .sl (r.y0.map c_Ver)
def slices_Insert_api_Ver_api_Ver.rh (p0 : (List Ver)) (p1 : Int) (p2 : (List Ver)) (r : slices_Insert_api_Ver_api_Ver.R) : Hp := [(55000, .row 58 2 (p2.map c_Ver))]
def slices_Insert_api_Ver_api_Ver (p0 : (List Ver)) (p1 : Int) (p2 : (List Ver)) : Option slices_Insert_api_Ver_api_Ver.R := (cut_ p0 p1 (lenc c_Ver p0) >>= fun x1 => (if ((lenc c_Ver p2) == 0) then some (slices_Insert_api_Ver_api_Ver.R.o0 p0) else (if (p1 == (lenc c_Ver p0)) then none else none)))
theorem fn52 : Go.Proofs.YtjjmoihpjmojiaaDoor.D.Fn Tryd.prog 52 := ⟨Tryd.f52, Tryd.func52, by kernel_rfl, rfl⟩
set_option maxRecDepth 100000 in
theorem slices_Insert_api_Ver_api_Ver.ok (p0 : (List Ver)) (p1 : Int) (p2 : (List Ver)) (r : slices_Insert_api_Ver_api_Ver.R) (hH : slices_Insert_api_Ver_api_Ver p0 p1 p2 = some r) : Con Tryd.prog 52 [.sl (p0.map c_Ver), i64 p1, .own 55000] [(55000, .row 58 2 (p2.map c_Ver))] (slices_Insert_api_Ver_api_Ver.rd p0 p1 p2 r) (slices_Insert_api_Ver_api_Ver.rh p0 p1 p2 r) := by
  refine con_of Tryd.f52 95 (c := _) Tryd.func52 rfl rfl rfl ?_
  intro w a ν X h
  unfold slices_Insert_api_Ver_api_Ver at hH
  refine k_reg ?_
  refine pures [0] hτ h rfl ?_
  intro a h
  refine k_end ?_
  refine k_reg ?_
  refine pures [0, 0] hτ h rfl ?_
  intro a h
  obtain ⟨x1, hx1, hH⟩ := bnd hH
  obtain ⟨c1, c2, c3, c4⟩ := of_cut hx1 c_Ver
  refine s_cut hτ h (wanted_none rfl) rfl rfl rfl (map_at (fun _ => rfl)) rfl rfl c1 c2 c3 c4 ?_
  intro a w ν h
  refine k_end ?_
  refine k_reg ?_
  refine pures [0, 0, 0] hτ h rfl ?_
  intro a h
  refine k_end ?_
  refine k_seq ?_
  refine k_reg ?_
  refine pures [0, 0] hτ h rfl ?_
  intro a h
  refine k_end ?_
  refine k_ifH hH h rfl (fun hb hH => ?_) (fun hb hH => ?_)
  · refine k_reg ?_
    refine pures [0, 0] hτ h rfl ?_
    intro a h
    refine k_end ?_
    refine wp_ret ?_
    cases hH
    have h := h.pick_ [6] [55000] rfl rfl rfl
    exact r_ret hτ [55000] h rfl rfl rfl
  · refine k_skip ?_
    refine t_then ?_
    refine k_reg ?_
    refine pures [0, 0, 0] hτ h rfl ?_
    intro a h
    refine k_end ?_
    refine k_seq ?_
    refine k_reg ?_
    refine pures [0, 0, 0] hτ h rfl ?_
    intro a h
    refine k_end ?_
    refine k_ifH hH h rfl (fun hb hH => ?_) (fun hb hH => ?_)
    · cases hH
    · cases hH
/-! ### wayfinder/table.Put -/
inductive table_Put.R where
  | o0 (y0 : Int) (y1 : (List Ver))
  | o1 (y0 : (List Ver)) (y1 : Int)
  deriving Inhabited
def table_Put.rd (p0 : (List Ver)) (p1 : Int) (p2 : Rule) (p3 : Int) : table_Put.R → DV
  | .o0 y0 y1 => .tup [.own 46900, i64 y0]
  | .o1 y0 y1 => .tup [.sl (y0.map c_Ver), i64 y1]
def table_Put.rh (p0 : (List Ver)) (p1 : Int) (p2 : Rule) (p3 : Int) : table_Put.R → Hp
  | .o0 y0 y1 => [(46900, .row 58 2 (y1.map c_Ver))]
  | .o1 y0 y1 => []
def table_Put (p0 : (List Ver)) (p1 : Int) (p2 : Rule) (p3 : Int) : Option table_Put.R := (table_own p0 >>= fun q1 => match q1 with | .o0 x2 => (rule_May p2 >>= fun q3 => match q3 with | .o0 x4 => (if (((!x4) || (decide (p1 < 1))) || (decide (p1 > 4095))) then some (table_Put.R.o0 1 x2) else (table_at x2 p1 >>= fun q5 => match q5 with | .o0 x6 => (if decide (x6 < (lenc c_Ver x2)) then (at_ x2 x6 >>= fun x7 => (table_first_api_Rule x7.L p2 >>= fun q8 => match q8 with | .o0 x9 => (if decide (x9 < (lenc c_Rule x7.L)) then none else (table_Size x2 >>= fun q11 => match q11 with | .o0 x12 => (if decide (x12 ≥ p3) then some (table_Put.R.o1 x2 7) else (if decide (x6 < (lenc c_Ver x2)) then none else (table_first_api_Ver_1 x2 p1 >>= fun q16 => match q16 with | .o0 x17 => (slices_Insert_api_Ver_api_Ver x2 x17 [(Ver.mk p1 [p2])] >>= fun q18 => match q18 with | .o0 x19 => some (table_Put.R.o1 x19 0))))))))) else (table_Size x2 >>= fun q20 => match q20 with | .o0 x21 => (if decide (x21 ≥ p3) then some (table_Put.R.o1 x2 7) else (if decide (x6 < (lenc c_Ver x2)) then none else (table_first_api_Ver_1 x2 p1 >>= fun q25 => match q25 with | .o0 x26 => (slices_Insert_api_Ver_api_Ver x2 x26 [(Ver.mk p1 [p2])] >>= fun q27 => match q27 with | .o0 x28 => some (table_Put.R.o1 x28 0)))))))))))
theorem fn20 : Go.Proofs.YtjjmoihpjmojiaaDoor.D.Fn Tryd.prog 20 := ⟨Tryd.f20, Tryd.func20, by kernel_rfl, rfl⟩
set_option maxRecDepth 100000 in
theorem table_Put.ok (p0 : (List Ver)) (p1 : Int) (p2 : Rule) (p3 : Int) (r : table_Put.R) (hH : table_Put p0 p1 p2 p3 = some r) : Con Tryd.prog 20 [.sl (p0.map c_Ver), i64 p1, .agg [i64 p2.P.Addr, i64 p2.P.Len, i64 p2.In, i64 p2.Prio, i64 p2.Act.Kind, i64 p2.Act.Port], i64 p3] [] (table_Put.rd p0 p1 p2 p3 r) (table_Put.rh p0 p1 p2 p3 r) := by
  refine con_of Tryd.f20 107 (c := _) Tryd.func20 rfl rfl rfl ?_
  intro w a ν X h
  unfold table_Put at hH
  refine k_reg ?_
  refine s_new h (wanted_none rfl) rfl rfl (e_box (r := 46101) (g := none) h.f h.o rfl trivial rfl rfl) ?_
  intro a w ν h
  refine s_new h (wanted_none rfl) rfl rfl (e_box (r := 46102) (g := none) h.f h.o rfl trivial rfl rfl) ?_
  intro a w ν h
  refine pures [0, 0] hτ h rfl ?_
  intro a h
  refine k_end ?_
  refine k_reg ?_
  refine pures [0] hτ h rfl ?_
  intro a h
  obtain ⟨q1, hq1, hH⟩ := bnd hH
  obtain ⟨x2⟩ := q1
  refine s_call fn45 ((table_own.ok p0 _ hq1).sw_ 20900 46103) [] [46103] [] h (wanted_none rfl) rfl rfl rfl rfl rfl rfl ?_
  intro a w ν h
  refine pures [0] hτ h rfl ?_
  intro a h
  refine k_end ?_
  refine k_seq ?_
  refine k_reg ?_
  refine pures [0] hτ h rfl ?_
  intro a h
  obtain ⟨q3, hq3, hH⟩ := bnd hH
  obtain ⟨x4⟩ := q3
  refine s_call1 fn24 (rule_May.ok p2 _ hq3) [] h (wanted_none rfl) rfl rfl rfl rfl rfl ?_
  intro a w ν h
  refine pures [0, 0, 1, 1, 0, 0, 1, 1, 0] hτ h rfl ?_
  intro a h
  refine k_end ?_
  refine k_ifH hH h rfl (fun hb hH => ?_) (fun hb hH => ?_)
  · refine k_reg ?_
    refine pures [0, 0, 0] hτ h rfl ?_
    intro a h
    refine k_end ?_
    refine wp_ret ?_
    have h := h.sw_ 46103 46900 rfl
    cases hH
    have h := h.pick_ [8, 9] [46900] rfl rfl rfl
    exact r_ret hτ [46900] h rfl rfl rfl
  · refine k_skip ?_
    refine t_then ?_
    refine k_reg ?_
    refine pures [0, 0] hτ h rfl ?_
    intro a h
    have h := h.frzH (q := 46103) rfl (fzn_map (fun _ => rfl))
    obtain ⟨q5, hq5, hH⟩ := bnd hH
    obtain ⟨x6⟩ := q5
    refine s_call1 fn46 (table_at.ok x2 p1 _ hq5) [] h (wanted_none rfl) rfl rfl rfl rfl rfl ?_
    intro a w ν h
    refine pures [0] hτ h rfl ?_
    intro a h
    refine k_end ?_
    refine k_seq ?_
    refine k_reg ?_
    refine pures [0, 0, 0, 0] hτ h rfl ?_
    intro a h
    refine k_end ?_
    refine k_ifH hH h rfl (fun hb hH => ?_) (fun hb hH => ?_)
    · refine k_reg ?_
      refine pures [0, 0] hτ h rfl ?_
      intro a h
      obtain ⟨x7, hx7, hH⟩ := bnd hH
      refine s_idx hτ h (wanted_none rfl) rfl rfl rfl rfl (at_map hx7 c_Ver).1 (at_map hx7 c_Ver).2 ?_
      intro a w ν h
      refine pures [0] hτ h rfl ?_
      intro a h
      refine k_end ?_
      refine k_reg ?_
      refine pures [0, 0, 0, 0, 0] hτ h rfl ?_
      intro a h
      obtain ⟨q8, hq8, hH⟩ := bnd hH
      obtain ⟨x9⟩ := q8
      refine s_call fn47 ((table_first_api_Rule.ok x7.L p2 _ hq8).sw_ 47000 46102) [46102] [] [] h (wanted_none rfl) rfl rfl rfl rfl rfl rfl ?_
      intro a w ν h
      refine pures [0] hτ h rfl ?_
      intro a h
      refine k_end ?_
      refine k_reg ?_
      refine pures [0, 0, 0, 0, 0, 0, 0] hτ h rfl ?_
      intro a h
      refine k_end ?_
      refine k_ifH hH h rfl (fun hb hH => ?_) (fun hb hH => ?_)
      · cases hH
      · refine k_skip ?_
        refine t_then ?_
        refine k_seq ?_
        refine k_blk ?_
        refine k_reg ?_
        refine pures [0] hτ h rfl ?_
        intro a h
        obtain ⟨q11, hq11, hH⟩ := bnd hH
        obtain ⟨x12⟩ := q11
        refine s_call1 fn49 (table_Size.ok x2 _ hq11) [] h (wanted_none rfl) rfl rfl rfl rfl rfl ?_
        intro a w ν h
        refine pures [0, 0, 0] hτ h rfl ?_
        intro a h
        refine k_end ?_
        refine k_ifH hH h rfl (fun hb hH => ?_) (fun hb hH => ?_)
        · refine k_reg ?_
          refine pures [0, 0, 0] hτ h rfl ?_
          intro a h
          refine k_end ?_
          refine wp_ret ?_
          cases hH
          exact r_ret hτ [] h rfl rfl rfl
        · refine k_reg ?_
          refine pures [0, 0, 0, 0, 0] hτ h rfl ?_
          intro a h
          refine k_end ?_
          refine k_ifH hH h rfl (fun hb hH => ?_) (fun hb hH => ?_)
          · cases hH
          · refine k_skip ?_
            refine t_blk ?_
            refine t_then ?_
            refine k_reg ?_
            refine pures [0, 0] hτ h rfl ?_
            intro a h
            obtain ⟨q16, hq16, hH⟩ := bnd hH
            obtain ⟨x17⟩ := q16
            refine s_call fn50 ((table_first_api_Ver_1.ok x2 p1 _ hq16).sw_ 52000 46101) [46101] [] [] h (wanted_none rfl) rfl rfl rfl rfl rfl rfl ?_
            intro a w ν h
            refine pures [0] hτ h rfl ?_
            intro a h
            refine k_end ?_
            refine k_reg ?_
            refine pures [0, 0, 0, 0] hτ h rfl ?_
            intro a h
            refine s_lit 46104 [] hτ h (wanted_none rfl) rfl rfl rfl rfl rfl rfl (by decide) rfl rfl rfl (es := ([p2] : List Rule).map c_Rule) rfl rfl ?_
            intro a w ν h
            refine pures [0] hτ h rfl ?_
            intro a h
            have h := h.frzH (q := 46104) rfl (fzn_map (fun _ => rfl))
            refine s_lit 46105 [] hτ h (wanted_none rfl) rfl rfl rfl rfl rfl rfl (by decide) rfl rfl rfl (es := ([(Ver.mk p1 [p2])] : List Ver).map c_Ver) rfl rfl ?_
            intro a w ν h
            obtain ⟨q18, hq18, hH⟩ := bnd hH
            obtain ⟨x19⟩ := q18
            refine s_call fn52 ((slices_Insert_api_Ver_api_Ver.ok x2 x17 [(Ver.mk p1 [p2])] _ hq18).sw_ 55000 46105) [46105] [] [] h (wanted_none rfl) rfl rfl rfl rfl rfl rfl ?_
            intro a w ν h
            refine pures [0, 0] hτ h rfl ?_
            intro a h
            refine k_end ?_
            refine wp_ret ?_
            cases hH
            exact r_ret hτ [] h rfl rfl rfl
    · refine k_skip ?_
      refine t_then ?_
      refine k_seq ?_
      refine k_blk ?_
      refine k_reg ?_
      refine pures [0] hτ h rfl ?_
      intro a h
      obtain ⟨q20, hq20, hH⟩ := bnd hH
      obtain ⟨x21⟩ := q20
      refine s_call1 fn49 (table_Size.ok x2 _ hq20) [] h (wanted_none rfl) rfl rfl rfl rfl rfl ?_
      intro a w ν h
      refine pures [0, 0, 0] hτ h rfl ?_
      intro a h
      refine k_end ?_
      refine k_ifH hH h rfl (fun hb hH => ?_) (fun hb hH => ?_)
      · refine k_reg ?_
        refine pures [0, 0, 0] hτ h rfl ?_
        intro a h
        refine k_end ?_
        refine wp_ret ?_
        cases hH
        exact r_ret hτ [] h rfl rfl rfl
      · refine k_reg ?_
        refine pures [0, 0, 0, 0, 0] hτ h rfl ?_
        intro a h
        refine k_end ?_
        refine k_ifH hH h rfl (fun hb hH => ?_) (fun hb hH => ?_)
        · cases hH
        · refine k_skip ?_
          refine t_blk ?_
          refine t_then ?_
          refine k_reg ?_
          refine pures [0, 0] hτ h rfl ?_
          intro a h
          obtain ⟨q25, hq25, hH⟩ := bnd hH
          obtain ⟨x26⟩ := q25
          refine s_call fn50 ((table_first_api_Ver_1.ok x2 p1 _ hq25).sw_ 52000 46101) [46101] [] [] h (wanted_none rfl) rfl rfl rfl rfl rfl rfl ?_
          intro a w ν h
          refine pures [0] hτ h rfl ?_
          intro a h
          refine k_end ?_
          refine k_reg ?_
          refine pures [0, 0, 0, 0] hτ h rfl ?_
          intro a h
          refine s_lit 46106 [] hτ h (wanted_none rfl) rfl rfl rfl rfl rfl rfl (by decide) rfl rfl rfl (es := ([p2] : List Rule).map c_Rule) rfl rfl ?_
          intro a w ν h
          refine pures [0] hτ h rfl ?_
          intro a h
          have h := h.frzH (q := 46106) rfl (fzn_map (fun _ => rfl))
          refine s_lit 46107 [] hτ h (wanted_none rfl) rfl rfl rfl rfl rfl rfl (by decide) rfl rfl rfl (es := ([(Ver.mk p1 [p2])] : List Ver).map c_Ver) rfl rfl ?_
          intro a w ν h
          obtain ⟨q27, hq27, hH⟩ := bnd hH
          obtain ⟨x28⟩ := q27
          refine s_call fn52 ((slices_Insert_api_Ver_api_Ver.ok x2 x26 [(Ver.mk p1 [p2])] _ hq27).sw_ 55000 46107) [46107] [] [] h (wanted_none rfl) rfl rfl rfl rfl rfl rfl ?_
          intro a w ν h
          refine pures [0, 0] hτ h rfl ?_
          intro a h
          refine k_end ?_
          refine wp_ret ?_
          cases hH
          exact r_ret hτ [] h rfl rfl rfl
/-! ### (*wayfinder/agent.worker).add -/
inductive agent_worker_add.R where
  | o0 (y0 : Int) (y1 : Int) (y2 : Bool) (y3 : Int) (y4 : Int) (y5 : Int) (y6 : Int) (y7 : (List Ver))
  | o1 (y0 : Worker)
  deriving Inhabited
def agent_worker_add.rd (p0 : Msg) (p1 : Worker) : agent_worker_add.R → DV
  | .o0 y0 y1 y2 y3 y4 y5 y6 y7 => .tup []
  | .o1 y0 => .tup []
def agent_worker_add.rh (p0 : Msg) (p1 : Worker) : agent_worker_add.R → Hp
  | .o0 y0 y1 y2 y3 y4 y5 y6 y7 => [(45000, .blk 89 [i64 y0, i64 y1, bo y2, i64 y3, i64 y4, .own 45900, i64 y5, i64 y6]), (45900, .row 58 2 (y7.map c_Ver))]
  | .o1 y0 => [(45000, .blk 89 [i64 y0.Switch.Epoch, i64 y0.Switch.Seen, bo y0.Switch.Open, i64 y0.Switch.Stamp, i64 y0.Switch.Bad, .sl (y0.Switch.L.map c_Ver), i64 y0.Switch.Junk, i64 y0.room])]
def agent_worker_add (p0 : Msg) (p1 : Worker) : Option agent_worker_add.R := (table_Put p1.Switch.L p0.Tag p0.R p1.room >>= fun q1 => match q1 with | .o0 x2 x3 => (if (x2 == 7) then some (agent_worker_add.R.o0 p1.Switch.Epoch p1.Switch.Seen p1.Switch.Open p1.Switch.Stamp p0.Tag p1.Switch.Junk p1.room x3) else some (agent_worker_add.R.o0 p1.Switch.Epoch p1.Switch.Seen p1.Switch.Open p1.Switch.Stamp p1.Switch.Bad p1.Switch.Junk p1.room x3)) | .o1 x4 x5 => (if (x5 == 7) then some (agent_worker_add.R.o1 (Worker.mk (Switch.mk p1.Switch.Epoch p1.Switch.Seen p1.Switch.Open p1.Switch.Stamp p0.Tag x4 p1.Switch.Junk) p1.room)) else some (agent_worker_add.R.o1 (Worker.mk (Switch.mk p1.Switch.Epoch p1.Switch.Seen p1.Switch.Open p1.Switch.Stamp p1.Switch.Bad x4 p1.Switch.Junk) p1.room))))
theorem fn90 : Go.Proofs.YtjjmoihpjmojiaaDoor.D.Fn Tryd.prog 90 := ⟨Tryd.f90, Tryd.func90, by kernel_rfl, rfl⟩
set_option maxRecDepth 100000 in
theorem agent_worker_add.ok (p0 : Msg) (p1 : Worker) (r : agent_worker_add.R) (hH : agent_worker_add p0 p1 = some r) : Con Tryd.prog 90 [.ptr 45000 0, .agg [i64 p0.Kind, i64 p0.Epoch, i64 p0.Seq, i64 p0.Tag, i64 p0.R.P.Addr, i64 p0.R.P.Len, i64 p0.R.In, i64 p0.R.Prio, i64 p0.R.Act.Kind, i64 p0.R.Act.Port]] [(45000, .blk 89 [i64 p1.Switch.Epoch, i64 p1.Switch.Seen, bo p1.Switch.Open, i64 p1.Switch.Stamp, i64 p1.Switch.Bad, .sl (p1.Switch.L.map c_Ver), i64 p1.Switch.Junk, i64 p1.room])] (agent_worker_add.rd p0 p1 r) (agent_worker_add.rh p0 p1 r) := by
  refine con_of Tryd.f90 36 (c := _) Tryd.func90 rfl rfl rfl ?_
  intro w a ν X h
  unfold agent_worker_add at hH
  refine k_reg ?_
  refine s_new h (wanted_none rfl) rfl rfl (e_box (r := 45101) (g := none) h.f h.o rfl trivial rfl rfl) ?_
  intro a w ν h
  refine k_end ?_
  refine k_seq ?_
  obtain ⟨q1, hq1, hH⟩ := bnd hH
  cases q1 with
  | o0 x2 x3 =>
    refine k_any mixed h ?_
    intro w ν h
    have h : St _ [(0, none, .ptr 45000 0), (3, none, .ptr 45101 0)] [(45101, .blk 32 [i64 p0.Kind, i64 p0.Epoch, i64 p0.Seq, i64 p0.Tag, i64 p0.R.P.Addr, i64 p0.R.P.Len, i64 p0.R.In, i64 p0.R.Prio, i64 p0.R.Act.Kind, i64 p0.R.Act.Port]), (45000, .blk 89 [i64 p1.Switch.Epoch, i64 p1.Switch.Seen, bo p1.Switch.Open, i64 p1.Switch.Stamp, i64 p1.Switch.Bad, .sl (p1.Switch.L.map c_Ver), i64 p1.Switch.Junk, i64 p1.room])] _ w a ν := h.pickG [0, 3] [45101, 45000] (by kernel_rfl) (by kernel_rfl) (by kernel_rfl)
    refine mid_any (fs := [⟨some (7, none, .ptr 45000 0), [], []⟩, ⟨some (8, none, .ptr 45000 0), [], []⟩, ⟨some (9, none, .ptr 45000 0), [], []⟩, ⟨some (10, none, .ptr 45000 5), [], []⟩, ⟨some (11, none, .sl (p1.Switch.L.map c_Ver)), [], []⟩, ⟨some (12, none, .ptr 45101 3), [], []⟩, ⟨some (13, none, i64 p0.Tag), [], []⟩, ⟨some (14, none, .ptr 45101 4), [], []⟩, ⟨some (15, none, .agg [i64 p0.R.P.Addr, i64 p0.R.P.Len, i64 p0.R.In, i64 p0.R.Prio, i64 p0.R.Act.Kind, i64 p0.R.Act.Port]), [], []⟩, ⟨some (16, none, .ptr 45000 0), [], []⟩, ⟨some (17, none, .ptr 45000 0), [], []⟩, ⟨some (18, none, .ptr 45000 7), [], []⟩, ⟨some (19, none, i64 p1.room), [], []⟩]) 0 [([], []), ([0], []), ([1, 0], []), ([2, 0, 1], []), ([3, 0, 1, 2], [45000]), ([], []), ([5], [45101]), ([], []), ([7], [45101]), ([], []), ([9], []), ([10, 9], []), ([11, 9, 10], [45000])] (by kernel_rfl) h (by kernel_rfl) ⟨ok_plain rfl (p_pure hτ (by kernel_rfl)), ok_plain rfl (p_pure hτ (by kernel_rfl)), ok_plain rfl (p_pure hτ (by kernel_rfl)), ok_plain rfl (p_pure hτ (by kernel_rfl)), ok_plain rfl (p_pure hτ (by kernel_rfl)), ok_plain rfl (p_pure hτ (by kernel_rfl)), ok_plain rfl (p_pure hτ (by kernel_rfl)), ok_plain rfl (p_pure hτ (by kernel_rfl)), ok_plain rfl (p_pure hτ (by kernel_rfl)), ok_plain rfl (p_pure hτ (by kernel_rfl)), ok_plain rfl (p_pure hτ (by kernel_rfl)), ok_plain rfl (p_pure hτ (by kernel_rfl)), ok_plain rfl (p_pure hτ (by kernel_rfl)), trivial⟩ ?_
    intro a w ν h
    have h : St _ [(0, none, .ptr 45000 0), (3, none, .ptr 45101 0), (11, none, .sl (p1.Switch.L.map c_Ver)), (13, none, i64 p0.Tag), (15, none, .agg [i64 p0.R.P.Addr, i64 p0.R.P.Len, i64 p0.R.In, i64 p0.R.Prio, i64 p0.R.Act.Kind, i64 p0.R.Act.Port]), (19, none, i64 p1.room)] [(45101, .blk 32 [i64 p0.Kind, i64 p0.Epoch, i64 p0.Seq, i64 p0.Tag, i64 p0.R.P.Addr, i64 p0.R.P.Len, i64 p0.R.In, i64 p0.R.Prio, i64 p0.R.Act.Kind, i64 p0.R.Act.Port]), (45000, .blk 89 [i64 p1.Switch.Epoch, i64 p1.Switch.Seen, bo p1.Switch.Open, i64 p1.Switch.Stamp, i64 p1.Switch.Bad, .sl (p1.Switch.L.map c_Ver), i64 p1.Switch.Junk, i64 p1.room])] _ w a ν := h.pickG [0, 3, 11, 13, 15, 19] [45101, 45000] (by kernel_rfl) (by kernel_rfl) (by kernel_rfl)
    refine mid_any (fs := [⟨some (20, none, .tup [.own 45102, i64 x2]), [], [(45102, .row 58 2 (x3.map c_Ver))]⟩, ⟨some (6, none, .tup [.own 45102, i64 x2]), [], []⟩, ⟨some (21, none, .own 45102), [], []⟩, ⟨some (22, none, i64 x2), [], []⟩, ⟨some (4, none, .own 45102), [], []⟩]) 13 [([], []), ([13], []), ([14, 13], []), ([14], []), ([15, 15, 13], [])] (by kernel_rfl) h (by kernel_rfl) ⟨ok_plain rfl (p_callN (ds0 := [.sl (p1.Switch.L.map c_Ver), i64 p0.Tag, .agg [i64 p0.R.P.Addr, i64 p0.R.P.Len, i64 p0.R.In, i64 p0.R.Prio, i64 p0.R.Act.Kind, i64 p0.R.Act.Port], i64 p1.room]) fn20 ((table_Put.ok p1.Switch.L p0.Tag p0.R p1.room _ hq1).sw_ 46900 45102) [] (by kernel_rfl) (by kernel_rfl) (by kernel_rfl) (by kernel_rfl)), ok_plain rfl (p_pure hτ (by kernel_rfl)), ok_plain rfl (p_pure hτ (by kernel_rfl)), ok_plain rfl (p_pure hτ (by kernel_rfl)), ok_plain rfl (p_pure hτ (by kernel_rfl)), trivial⟩ ?_
    intro a w ν h
    have h : St _ [(0, none, .ptr 45000 0), (3, none, .ptr 45101 0), (4, none, .own 45102), (22, none, i64 x2)] [(45102, .row 58 2 (x3.map c_Ver)), (45101, .blk 32 [i64 p0.Kind, i64 p0.Epoch, i64 p0.Seq, i64 p0.Tag, i64 p0.R.P.Addr, i64 p0.R.P.Len, i64 p0.R.In, i64 p0.R.Prio, i64 p0.R.Act.Kind, i64 p0.R.Act.Port]), (45000, .blk 89 [i64 p1.Switch.Epoch, i64 p1.Switch.Seen, bo p1.Switch.Open, i64 p1.Switch.Stamp, i64 p1.Switch.Bad, .sl (p1.Switch.L.map c_Ver), i64 p1.Switch.Junk, i64 p1.room])] _ w a ν := h.pickG [0, 3, 4, 22] [45102, 45101, 45000] (by kernel_rfl) (by kernel_rfl) (by kernel_rfl)
    refine mid_list 18 (by kernel_rfl) (by kernel_rfl) ?_
    refine pures [0] hτ h rfl ?_
    intro a h
    refine k_end1 ?_
    refine t_then ?_
    refine k_reg ?_
    refine pures [0, 0, 0, 0, 0] hτ h rfl ?_
    intro a h
    refine s_store hτ h (wanted_none rfl) rfl rfl rfl rfl rfl ?_
    intro a w ν h
    refine k_end ?_
    refine k_reg ?_
    refine pures [0, 0] hτ h rfl ?_
    intro a h
    refine k_end ?_
    refine k_ifH hH h rfl (fun hb hH => ?_) (fun hb hH => ?_)
    · refine k_reg1 ?_
      refine pures [0, 0, 0, 0, 0, 0] hτ h rfl ?_
      intro a h
      refine s_store hτ h (wanted_none rfl) rfl rfl rfl rfl rfl ?_
      intro a w ν h
      refine k_end1 ?_
      have h := h.sw_ 45102 45900 rfl
      cases hH
      have h := h.pick_ [] [45000, 45900] rfl rfl rfl
      exact r_ret hτ [45000, 45900] h rfl rfl rfl
    · refine k_skip ?_
      have h := h.sw_ 45102 45900 rfl
      cases hH
      have h := h.pick_ [] [45000, 45900] rfl rfl rfl
      exact r_ret hτ [45000, 45900] h rfl rfl rfl
  | o1 x4 x5 =>
    refine k_any mixed h ?_
    intro w ν h
    have h : St _ [(0, none, .ptr 45000 0), (3, none, .ptr 45101 0)] [(45101, .blk 32 [i64 p0.Kind, i64 p0.Epoch, i64 p0.Seq, i64 p0.Tag, i64 p0.R.P.Addr, i64 p0.R.P.Len, i64 p0.R.In, i64 p0.R.Prio, i64 p0.R.Act.Kind, i64 p0.R.Act.Port]), (45000, .blk 89 [i64 p1.Switch.Epoch, i64 p1.Switch.Seen, bo p1.Switch.Open, i64 p1.Switch.Stamp, i64 p1.Switch.Bad, .sl (p1.Switch.L.map c_Ver), i64 p1.Switch.Junk, i64 p1.room])] _ w a ν := h.pickG [0, 3] [45101, 45000] (by kernel_rfl) (by kernel_rfl) (by kernel_rfl)
    refine mid_any (fs := [⟨some (7, none, .ptr 45000 0), [], []⟩, ⟨some (8, none, .ptr 45000 0), [], []⟩, ⟨some (9, none, .ptr 45000 0), [], []⟩, ⟨some (10, none, .ptr 45000 5), [], []⟩, ⟨some (11, none, .sl (p1.Switch.L.map c_Ver)), [], []⟩, ⟨some (12, none, .ptr 45101 3), [], []⟩, ⟨some (13, none, i64 p0.Tag), [], []⟩, ⟨some (14, none, .ptr 45101 4), [], []⟩, ⟨some (15, none, .agg [i64 p0.R.P.Addr, i64 p0.R.P.Len, i64 p0.R.In, i64 p0.R.Prio, i64 p0.R.Act.Kind, i64 p0.R.Act.Port]), [], []⟩, ⟨some (16, none, .ptr 45000 0), [], []⟩, ⟨some (17, none, .ptr 45000 0), [], []⟩, ⟨some (18, none, .ptr 45000 7), [], []⟩, ⟨some (19, none, i64 p1.room), [], []⟩]) 0 [([], []), ([0], []), ([1, 0], []), ([2, 0, 1], []), ([3, 0, 1, 2], [45000]), ([], []), ([5], [45101]), ([], []), ([7], [45101]), ([], []), ([9], []), ([10, 9], []), ([11, 9, 10], [45000])] (by kernel_rfl) h (by kernel_rfl) ⟨ok_plain rfl (p_pure hτ (by kernel_rfl)), ok_plain rfl (p_pure hτ (by kernel_rfl)), ok_plain rfl (p_pure hτ (by kernel_rfl)), ok_plain rfl (p_pure hτ (by kernel_rfl)), ok_plain rfl (p_pure hτ (by kernel_rfl)), ok_plain rfl (p_pure hτ (by kernel_rfl)), ok_plain rfl (p_pure hτ (by kernel_rfl)), ok_plain rfl (p_pure hτ (by kernel_rfl)), ok_plain rfl (p_pure hτ (by kernel_rfl)), ok_plain rfl (p_pure hτ (by kernel_rfl)), ok_plain rfl (p_pure hτ (by kernel_rfl)), ok_plain rfl (p_pure hτ (by kernel_rfl)), ok_plain rfl (p_pure hτ (by kernel_rfl)), trivial⟩ ?_
    intro a w ν h
    have h : St _ [(0, none, .ptr 45000 0), (3, none, .ptr 45101 0), (11, none, .sl (p1.Switch.L.map c_Ver)), (13, none, i64 p0.Tag), (15, none, .agg [i64 p0.R.P.Addr, i64 p0.R.P.Len, i64 p0.R.In, i64 p0.R.Prio, i64 p0.R.Act.Kind, i64 p0.R.Act.Port]), (19, none, i64 p1.room)] [(45101, .blk 32 [i64 p0.Kind, i64 p0.Epoch, i64 p0.Seq, i64 p0.Tag, i64 p0.R.P.Addr, i64 p0.R.P.Len, i64 p0.R.In, i64 p0.R.Prio, i64 p0.R.Act.Kind, i64 p0.R.Act.Port]), (45000, .blk 89 [i64 p1.Switch.Epoch, i64 p1.Switch.Seen, bo p1.Switch.Open, i64 p1.Switch.Stamp, i64 p1.Switch.Bad, .sl (p1.Switch.L.map c_Ver), i64 p1.Switch.Junk, i64 p1.room])] _ w a ν := h.pickG [0, 3, 11, 13, 15, 19] [45101, 45000] (by kernel_rfl) (by kernel_rfl) (by kernel_rfl)
    refine mid_any (fs := [⟨some (20, none, .tup [.sl (x4.map c_Ver), i64 x5]), [], []⟩, ⟨some (6, none, .tup [.sl (x4.map c_Ver), i64 x5]), [], []⟩, ⟨some (21, none, .sl (x4.map c_Ver)), [], []⟩, ⟨some (22, none, i64 x5), [], []⟩, ⟨some (4, none, .sl (x4.map c_Ver)), [], []⟩]) 13 [([], []), ([13], []), ([14], []), ([14], []), ([15, 15], [])] (by kernel_rfl) h (by kernel_rfl) ⟨ok_plain rfl (p_call1 (ds0 := [.sl (p1.Switch.L.map c_Ver), i64 p0.Tag, .agg [i64 p0.R.P.Addr, i64 p0.R.P.Len, i64 p0.R.In, i64 p0.R.Prio, i64 p0.R.Act.Kind, i64 p0.R.Act.Port], i64 p1.room]) fn20 (table_Put.ok p1.Switch.L p0.Tag p0.R p1.room _ hq1) [] (by kernel_rfl) (by kernel_rfl) (by kernel_rfl)), ok_plain rfl (p_pure hτ (by kernel_rfl)), ok_plain rfl (p_pure hτ (by kernel_rfl)), ok_plain rfl (p_pure hτ (by kernel_rfl)), ok_plain rfl (p_pure hτ (by kernel_rfl)), trivial⟩ ?_
    intro a w ν h
    have h : St _ [(0, none, .ptr 45000 0), (3, none, .ptr 45101 0), (4, none, .sl (x4.map c_Ver)), (22, none, i64 x5)] [(45101, .blk 32 [i64 p0.Kind, i64 p0.Epoch, i64 p0.Seq, i64 p0.Tag, i64 p0.R.P.Addr, i64 p0.R.P.Len, i64 p0.R.In, i64 p0.R.Prio, i64 p0.R.Act.Kind, i64 p0.R.Act.Port]), (45000, .blk 89 [i64 p1.Switch.Epoch, i64 p1.Switch.Seen, bo p1.Switch.Open, i64 p1.Switch.Stamp, i64 p1.Switch.Bad, .sl (p1.Switch.L.map c_Ver), i64 p1.Switch.Junk, i64 p1.room])] _ w a ν := h.pickG [0, 3, 4, 22] [45101, 45000] (by kernel_rfl) (by kernel_rfl) (by kernel_rfl)
    refine mid_list 18 (by kernel_rfl) (by kernel_rfl) ?_
    refine pures [0] hτ h rfl ?_
    intro a h
    refine k_end1 ?_
    refine t_then ?_
    refine k_reg ?_
    refine pures [0, 0, 0, 0, 0] hτ h rfl ?_
    intro a h
    refine s_store hτ h (wanted_none rfl) rfl rfl rfl rfl rfl ?_
    intro a w ν h
    refine k_end ?_
    refine k_reg ?_
    refine pures [0, 0] hτ h rfl ?_
    intro a h
    refine k_end ?_
    refine k_ifH hH h rfl (fun hb hH => ?_) (fun hb hH => ?_)
    · refine k_reg1 ?_
      refine pures [0, 0, 0, 0, 0, 0] hτ h rfl ?_
      intro a h
      refine s_store hτ h (wanted_none rfl) rfl rfl rfl rfl rfl ?_
      intro a w ν h
      refine k_end1 ?_
      cases hH
      have h := h.pick_ [] [45000] rfl rfl rfl
      exact r_ret hτ [45000] h rfl rfl rfl
    · refine k_skip ?_
      cases hH
      have h := h.pick_ [] [45000] rfl rfl rfl
      exact r_ret hτ [45000] h rfl rfl rfl
/-! ### (*wayfinder/agent.worker).flip -/
structure agent_worker_flip.R where
  o0 ::
  y0 : Worker
  deriving Inhabited
def agent_worker_flip.rd (p0 : Msg) (p1 : Worker) (r : agent_worker_flip.R) : DV := .tup []
def agent_worker_flip.rh (p0 : Msg) (p1 : Worker) (r : agent_worker_flip.R) : Hp := [(56000, .blk 89 [i64 r.y0.Switch.Epoch, i64 r.y0.Switch.Seen, bo r.y0.Switch.Open, i64 r.y0.Switch.Stamp, i64 r.y0.Switch.Bad, .sl (r.y0.Switch.L.map c_Ver), i64 r.y0.Switch.Junk, i64 r.y0.room])]
def agent_worker_flip (p0 : Msg) (p1 : Worker) : Option agent_worker_flip.R := some (agent_worker_flip.R.o0 (Worker.mk (Switch.mk p1.Switch.Epoch p1.Switch.Seen p1.Switch.Open p0.Tag p1.Switch.Bad p1.Switch.L p1.Switch.Junk) p1.room))
theorem fn91 : Go.Proofs.YtjjmoihpjmojiaaDoor.D.Fn Tryd.prog 91 := ⟨Tryd.f91, Tryd.func91, by kernel_rfl, rfl⟩
set_option maxRecDepth 100000 in
theorem agent_worker_flip.ok (p0 : Msg) (p1 : Worker) (r : agent_worker_flip.R) (hH : agent_worker_flip p0 p1 = some r) : Con Tryd.prog 91 [.ptr 56000 0, .agg [i64 p0.Kind, i64 p0.Epoch, i64 p0.Seq, i64 p0.Tag, i64 p0.R.P.Addr, i64 p0.R.P.Len, i64 p0.R.In, i64 p0.R.Prio, i64 p0.R.Act.Kind, i64 p0.R.Act.Port]] [(56000, .blk 89 [i64 p1.Switch.Epoch, i64 p1.Switch.Seen, bo p1.Switch.Open, i64 p1.Switch.Stamp, i64 p1.Switch.Bad, .sl (p1.Switch.L.map c_Ver), i64 p1.Switch.Junk, i64 p1.room])] (agent_worker_flip.rd p0 p1 r) (agent_worker_flip.rh p0 p1 r) := by
  refine con_of Tryd.f91 10 (c := _) Tryd.func91 rfl rfl rfl ?_
  intro w a ν X h
  unfold agent_worker_flip at hH
  refine k_reg ?_
  refine s_new h (wanted_none rfl) rfl rfl (e_box (r := 56101) (g := none) h.f h.o rfl trivial rfl rfl) ?_
  intro a w ν h
  refine k_end ?_
  refine k_reg1 ?_
  refine pures [0, 0, 0, 0, 0, 0] hτ h rfl ?_
  intro a h
  refine s_store hτ h (wanted_none rfl) rfl rfl rfl rfl rfl ?_
  intro a w ν h
  refine k_end1 ?_
  cases hH
  have h := h.pick_ [] [56000] rfl rfl rfl
  exact r_ret hτ [56000] h rfl rfl rfl
/-! ### (*wayfinder/agent.worker).collect -/
structure agent_worker_collect.R where
  o0 ::
  y0 : Worker
  deriving Inhabited
def agent_worker_collect.rd (p0 : Msg) (p1 : Worker) (r : agent_worker_collect.R) : DV := .tup []
def agent_worker_collect.rh (p0 : Msg) (p1 : Worker) (r : agent_worker_collect.R) : Hp := [(57000, .blk 89 [i64 r.y0.Switch.Epoch, i64 r.y0.Switch.Seen, bo r.y0.Switch.Open, i64 r.y0.Switch.Stamp, i64 r.y0.Switch.Bad, .sl (r.y0.Switch.L.map c_Ver), i64 r.y0.Switch.Junk, i64 r.y0.room])]
def agent_worker_collect (p0 : Msg) (p1 : Worker) : Option agent_worker_collect.R := (table_Drop p1.Switch.L p0.Tag >>= fun x1 => (if (p1.Switch.Bad == p0.Tag) then some (agent_worker_collect.R.o0 (Worker.mk (Switch.mk p1.Switch.Epoch p1.Switch.Seen p1.Switch.Open p1.Switch.Stamp 0 x1.y0 p1.Switch.Junk) p1.room)) else some (agent_worker_collect.R.o0 (Worker.mk (Switch.mk p1.Switch.Epoch p1.Switch.Seen p1.Switch.Open p1.Switch.Stamp p1.Switch.Bad x1.y0 p1.Switch.Junk) p1.room))))
theorem fn92 : Go.Proofs.YtjjmoihpjmojiaaDoor.D.Fn Tryd.prog 92 := ⟨Tryd.f92, Tryd.func92, by kernel_rfl, rfl⟩
set_option maxRecDepth 100000 in
theorem agent_worker_collect.ok (p0 : Msg) (p1 : Worker) (r : agent_worker_collect.R) (hH : agent_worker_collect p0 p1 = some r) : Con Tryd.prog 92 [.ptr 57000 0, .agg [i64 p0.Kind, i64 p0.Epoch, i64 p0.Seq, i64 p0.Tag, i64 p0.R.P.Addr, i64 p0.R.P.Len, i64 p0.R.In, i64 p0.R.Prio, i64 p0.R.Act.Kind, i64 p0.R.Act.Port]] [(57000, .blk 89 [i64 p1.Switch.Epoch, i64 p1.Switch.Seen, bo p1.Switch.Open, i64 p1.Switch.Stamp, i64 p1.Switch.Bad, .sl (p1.Switch.L.map c_Ver), i64 p1.Switch.Junk, i64 p1.room])] (agent_worker_collect.rd p0 p1 r) (agent_worker_collect.rh p0 p1 r) := by
  refine con_of Tryd.f92 28 (c := _) Tryd.func92 rfl rfl rfl ?_
  intro w a ν X h
  unfold agent_worker_collect at hH
  refine k_reg ?_
  refine s_new h (wanted_none rfl) rfl rfl (e_box (r := 57101) (g := none) h.f h.o rfl trivial rfl rfl) ?_
  intro a w ν h
  refine k_end ?_
  refine k_seq ?_
  refine k_any mixed h ?_
  intro w ν h
  obtain ⟨x1, hx1, hH⟩ := bnd hH
  have h : St _ [(0, none, .ptr 57000 0), (3, none, .ptr 57101 0)] [(57101, .blk 32 [i64 p0.Kind, i64 p0.Epoch, i64 p0.Seq, i64 p0.Tag, i64 p0.R.P.Addr, i64 p0.R.P.Len, i64 p0.R.In, i64 p0.R.Prio, i64 p0.R.Act.Kind, i64 p0.R.Act.Port]), (57000, .blk 89 [i64 p1.Switch.Epoch, i64 p1.Switch.Seen, bo p1.Switch.Open, i64 p1.Switch.Stamp, i64 p1.Switch.Bad, .sl (p1.Switch.L.map c_Ver), i64 p1.Switch.Junk, i64 p1.room])] _ w a ν := h.pickG [0, 3] [57101, 57000] (by kernel_rfl) (by kernel_rfl) (by kernel_rfl)
  refine mid_any (fs := [⟨some (4, none, .ptr 57000 0), [], []⟩, ⟨some (5, none, .ptr 57000 0), [], []⟩, ⟨some (6, none, .ptr 57000 0), [], []⟩, ⟨some (7, none, .ptr 57000 0), [], []⟩, ⟨some (8, none, .ptr 57000 5), [], []⟩, ⟨some (9, none, .sl (p1.Switch.L.map c_Ver)), [], []⟩, ⟨some (10, none, .ptr 57101 3), [], []⟩, ⟨some (11, none, i64 p0.Tag), [], []⟩, ⟨some (12, none, .sl (x1.y0.map c_Ver)), [], []⟩]) 0 [([], []), ([], []), ([1], []), ([2], []), ([3], []), ([4], [57000]), ([], []), ([6], [57101]), ([5, 7], [])] (by kernel_rfl) h (by kernel_rfl) ⟨ok_plain rfl (p_pure hτ (by kernel_rfl)), ok_plain rfl (p_pure hτ (by kernel_rfl)), ok_plain rfl (p_pure hτ (by kernel_rfl)), ok_plain rfl (p_pure hτ (by kernel_rfl)), ok_plain rfl (p_pure hτ (by kernel_rfl)), ok_plain rfl (p_pure hτ (by kernel_rfl)), ok_plain rfl (p_pure hτ (by kernel_rfl)), ok_plain rfl (p_pure hτ (by kernel_rfl)), ok_plain rfl (p_call1 (ds0 := [.sl (p1.Switch.L.map c_Ver), i64 p0.Tag]) fn21 (table_Drop.ok p1.Switch.L p0.Tag _ hx1) [] (by kernel_rfl) (by kernel_rfl) (by kernel_rfl)), trivial⟩ ?_
  intro a w ν h
  have h : St _ [(0, none, .ptr 57000 0), (3, none, .ptr 57101 0), (4, none, .ptr 57000 0), (12, none, .sl (x1.y0.map c_Ver))] [(57101, .blk 32 [i64 p0.Kind, i64 p0.Epoch, i64 p0.Seq, i64 p0.Tag, i64 p0.R.P.Addr, i64 p0.R.P.Len, i64 p0.R.In, i64 p0.R.Prio, i64 p0.R.Act.Kind, i64 p0.R.Act.Port]), (57000, .blk 89 [i64 p1.Switch.Epoch, i64 p1.Switch.Seen, bo p1.Switch.Open, i64 p1.Switch.Stamp, i64 p1.Switch.Bad, .sl (p1.Switch.L.map c_Ver), i64 p1.Switch.Junk, i64 p1.room])] _ w a ν := h.pickG [0, 3, 4, 12] [57101, 57000] (by kernel_rfl) (by kernel_rfl) (by kernel_rfl)
  refine mid_list 9 (by kernel_rfl) (by kernel_rfl) ?_
  refine pures [0, 0, 0] hτ h rfl ?_
  intro a h
  refine s_store hτ h (wanted_none rfl) rfl rfl rfl rfl rfl ?_
  intro a w ν h
  refine k_end1 ?_
  refine t_then ?_
  refine k_seq ?_
  refine k_any mixed h ?_
  intro w ν h
  have h : St _ [(0, none, .ptr 57000 0), (3, none, .ptr 57101 0)] [(57101, .blk 32 [i64 p0.Kind, i64 p0.Epoch, i64 p0.Seq, i64 p0.Tag, i64 p0.R.P.Addr, i64 p0.R.P.Len, i64 p0.R.In, i64 p0.R.Prio, i64 p0.R.Act.Kind, i64 p0.R.Act.Port]), (57000, .blk 89 [i64 p1.Switch.Epoch, i64 p1.Switch.Seen, bo p1.Switch.Open, i64 p1.Switch.Stamp, i64 p1.Switch.Bad, .sl (x1.y0.map c_Ver), i64 p1.Switch.Junk, i64 p1.room])] _ w a ν := h.pickG [0, 3] [57101, 57000] (by kernel_rfl) (by kernel_rfl) (by kernel_rfl)
  refine mid_any (fs := [⟨some (16, none, .ptr 57000 0), [], []⟩, ⟨some (17, none, .ptr 57000 0), [], []⟩, ⟨some (18, none, .ptr 57000 0), [], []⟩, ⟨some (19, none, .ptr 57000 4), [], []⟩, ⟨some (20, none, i64 p1.Switch.Bad), [], []⟩, ⟨some (21, none, .ptr 57101 3), [], []⟩, ⟨some (22, none, i64 p0.Tag), [], []⟩]) 0 [([], []), ([0], []), ([1, 0], []), ([2, 0, 1], []), ([3, 0, 1, 2], [57000]), ([], []), ([5], [57101])] (by kernel_rfl) h (by kernel_rfl) ⟨ok_plain rfl (p_pure hτ (by kernel_rfl)), ok_plain rfl (p_pure hτ (by kernel_rfl)), ok_plain rfl (p_pure hτ (by kernel_rfl)), ok_plain rfl (p_pure hτ (by kernel_rfl)), ok_plain rfl (p_pure hτ (by kernel_rfl)), ok_plain rfl (p_pure hτ (by kernel_rfl)), ok_plain rfl (p_pure hτ (by kernel_rfl)), trivial⟩ ?_
  intro a w ν h
  have h : St _ [(0, none, .ptr 57000 0), (20, none, i64 p1.Switch.Bad), (22, none, i64 p0.Tag)] [(57101, .blk 32 [i64 p0.Kind, i64 p0.Epoch, i64 p0.Seq, i64 p0.Tag, i64 p0.R.P.Addr, i64 p0.R.P.Len, i64 p0.R.In, i64 p0.R.Prio, i64 p0.R.Act.Kind, i64 p0.R.Act.Port]), (57000, .blk 89 [i64 p1.Switch.Epoch, i64 p1.Switch.Seen, bo p1.Switch.Open, i64 p1.Switch.Stamp, i64 p1.Switch.Bad, .sl (x1.y0.map c_Ver), i64 p1.Switch.Junk, i64 p1.room])] _ w a ν := h.pickG [0, 20, 22] [57101, 57000] (by kernel_rfl) (by kernel_rfl) (by kernel_rfl)
  refine mid_list 7 (by kernel_rfl) (by kernel_rfl) ?_
  refine pures [0] hτ h rfl ?_
  intro a h
  refine k_end1 ?_
  refine t_then ?_
  refine k_ifH hH h rfl (fun hb hH => ?_) (fun hb hH => ?_)
  · refine k_reg1 ?_
    refine pures [0, 0, 0, 0] hτ h rfl ?_
    intro a h
    refine s_store hτ h (wanted_none rfl) rfl rfl rfl rfl rfl ?_
    intro a w ν h
    refine k_end1 ?_
    cases hH
    have h := h.pick_ [] [57000] rfl rfl rfl
    exact r_ret hτ [57000] h rfl rfl rfl
  · refine k_skip ?_
    cases hH
    have h := h.pick_ [] [57000] rfl rfl rfl
    exact r_ret hτ [57000] h rfl rfl rfl
/-! ### (*wayfinder/agent.worker).open -/
structure agent_worker_open.R where
  o0 ::
  y0 : Worker
  deriving Inhabited
def agent_worker_open.rd (p0 : Msg) (p1 : Worker) (r : agent_worker_open.R) : DV := .tup []
def agent_worker_open.rh (p0 : Msg) (p1 : Worker) (r : agent_worker_open.R) : Hp := [(58000, .blk 89 [i64 r.y0.Switch.Epoch, i64 r.y0.Switch.Seen, bo r.y0.Switch.Open, i64 r.y0.Switch.Stamp, i64 r.y0.Switch.Bad, .sl (r.y0.Switch.L.map c_Ver), i64 r.y0.Switch.Junk, i64 r.y0.room])]
def agent_worker_open (p0 : Msg) (p1 : Worker) : Option agent_worker_open.R := some (agent_worker_open.R.o0 (Worker.mk (Switch.mk p1.Switch.Epoch p1.Switch.Seen true p1.Switch.Stamp p1.Switch.Bad p1.Switch.L p1.Switch.Junk) p1.room))
theorem fn93 : Go.Proofs.YtjjmoihpjmojiaaDoor.D.Fn Tryd.prog 93 := ⟨Tryd.f93, Tryd.func93, by kernel_rfl, rfl⟩
set_option maxRecDepth 100000 in
theorem agent_worker_open.ok (p0 : Msg) (p1 : Worker) (r : agent_worker_open.R) (hH : agent_worker_open p0 p1 = some r) : Con Tryd.prog 93 [.ptr 58000 0, .agg [i64 p0.Kind, i64 p0.Epoch, i64 p0.Seq, i64 p0.Tag, i64 p0.R.P.Addr, i64 p0.R.P.Len, i64 p0.R.In, i64 p0.R.Prio, i64 p0.R.Act.Kind, i64 p0.R.Act.Port]] [(58000, .blk 89 [i64 p1.Switch.Epoch, i64 p1.Switch.Seen, bo p1.Switch.Open, i64 p1.Switch.Stamp, i64 p1.Switch.Bad, .sl (p1.Switch.L.map c_Ver), i64 p1.Switch.Junk, i64 p1.room])] (agent_worker_open.rd p0 p1 r) (agent_worker_open.rh p0 p1 r) := by
  refine con_of Tryd.f93 8 (c := _) Tryd.func93 rfl rfl rfl ?_
  intro w a ν X h
  unfold agent_worker_open at hH
  refine k_reg ?_
  refine s_new h (wanted_none rfl) rfl rfl (e_box (r := 58101) (g := none) h.f h.o rfl trivial rfl rfl) ?_
  intro a w ν h
  refine k_end ?_
  refine k_reg1 ?_
  refine pures [0, 0, 0, 0] hτ h rfl ?_
  intro a h
  refine s_store hτ h (wanted_none rfl) rfl rfl rfl rfl rfl ?_
  intro a w ν h
  refine k_end1 ?_
  cases hH
  have h := h.pick_ [] [58000] rfl rfl rfl
  exact r_ret hτ [58000] h rfl rfl rfl
end Go.Proofs.YtjjmoihpjmojiaaDoor.X
