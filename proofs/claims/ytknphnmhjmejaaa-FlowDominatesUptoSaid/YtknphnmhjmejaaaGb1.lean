/- The places and the unfolding equations of these functions (printed by gen.py of this repo): no conditions. -/
import Derived.Test.YtknphnmhjmejaaaGa
namespace Go.Proofs.Ytknphnmhjmejaaa
set_option linter.unusedVariables false
set_option maxRecDepth 100000

/-! gantry/ssa.must -/
abbrev id_ssa_must : FuncId := 72
noncomputable def ssa_must_G : FuncId → Option Callee := fun f => match f with
  | _ => none
def ssa_must_A : Ann := []
def ssa_must_R : List Nat := []
noncomputable def ssa_must_c (k pos : Nat) : St → Cont (ARes × Hp) → Option (ARes × Hp) := acode Try.prog ssa_must_G ssa_must_A ssa_must_R k (cdAt (pathOf pos) (bodyOf Try.f72)) pos
theorem ssa_must_eq (k : Nat) (x0 : Bool) (x1 : Int) (h : Hp) : fnA Try.prog ssa_must_G ssa_must_A ssa_must_R k Try.f72 [(.rv (.bool x0)), (.rv (.int .i64 x1))] h = bsp ((!x0)) (pnc (mkI 32 (.rv (.int .i64 x1))) fun v1 => some (.pan v1, h)) (some (.ret undefA, h)) := nrfl (by kernel_rfl)
theorem ssa_must_good : Good Try.prog ssa_must_G := fun f c hc => by cases hc
noncomputable def F_ssa_must : List RV → Option Res := fun rs => pureR (fnA Try.prog ssa_must_G ssa_must_A ssa_must_R big Try.f72 (rs.map .rv) [])
theorem good_ssa_must : GoodC Try.prog 72 (.pure F_ssa_must) := goodP mixed ssa_must_good (by kernel_rfl : Try.prog.funcs[72]? = some Try.f72) rfl rfl (fun rs r h => ⟨big, h⟩)

/-! (*gantry/ssa.checker).isBlock -/
abbrev id_ssa_checker_isBlock : FuncId := 74
noncomputable def ssa_checker_isBlock_G : FuncId → Option Callee := fun f => match f with
  | _ => none
def ssa_checker_isBlock_A : Ann := [(7, [4])]
def ssa_checker_isBlock_R : List Nat := []
noncomputable def ssa_checker_isBlock_c (k pos : Nat) : St → Cont (ARes × Hp) → Option (ARes × Hp) := acode Try.prog ssa_checker_isBlock_G ssa_checker_isBlock_A ssa_checker_isBlock_R k (cdAt (pathOf pos) (bodyOf Try.f74)) pos
def ssa_checker_isBlock_T7 (x4 : Bool) : List AV := an 4 ((.rv (.bool x4)) :: an 24 ([]))
noncomputable def ssa_checker_isBlock_p7 (k : Nat) (x4 : Bool) (h : Hp) : Option (ARes × Hp) := pnt (ssa_checker_isBlock_c k 7) ⟨ssa_checker_isBlock_T7 x4, h⟩ (finA Try.prog Try.f74)
theorem ssa_checker_isBlock_p7_eq (k : Nat) (x4 : Bool) (h : Hp) : ssa_checker_isBlock_p7 k x4 h = some (.ret (.rv (.bool x4)), h) := nrfl (by kernel_rfl)
theorem ssa_checker_isBlock_eq (k : Nat) (x0 : AV) (x1 : Int) (h : Hp) : fnA Try.prog ssa_checker_isBlock_G ssa_checker_isBlock_A ssa_checker_isBlock_R k Try.f74 [x0, (.rv (.int .i64 x1))] h = bsp ((decide (x1 ≥ 0))) (nck x0 fun v1 => pad v1 2 fun p2 => pad p2 3 fun p3 => ldv h p3 fun v4 => lna v4 fun n5 => bsp ((decide (x1 < n5))) (nck x0 fun v6 => pad v6 2 fun p7 => pad p7 3 fun p8 => ldv h p8 fun v9 => ixa 6 v9 x1 fun p10 => pad p10 0 fun p11 => ldi .i64 h p11 fun n12 => ssa_checker_isBlock_p7 k ((n12 != 0)) (h)) (ssa_checker_isBlock_p7 k (false) (h))) (ssa_checker_isBlock_p7 k (false) (h)) := nrfl (by kernel_rfl)
theorem ssa_checker_isBlock_good : Good Try.prog ssa_checker_isBlock_G := fun f c hc => by cases hc
noncomputable def G_ssa_checker_isBlock : List AV → Hp → Option (ARes × Hp) := fun xs h => fnA Try.prog ssa_checker_isBlock_G ssa_checker_isBlock_A ssa_checker_isBlock_R big Try.f74 xs h
theorem good_ssa_checker_isBlock : GoodC Try.prog 74 (.gen G_ssa_checker_isBlock) := goodG mixed ssa_checker_isBlock_good (by kernel_rfl : Try.prog.funcs[74]? = some Try.f74) rfl rfl (fun xs h x e => ⟨big, e⟩)

/-! gantry/ssa.all closure 1 -/
abbrev id_ssa_all_c1 : FuncId := 80
noncomputable def ssa_all_c1_G : FuncId → Option Callee := fun f => match f with
  | 74 => some (.gen G_ssa_checker_isBlock)
  | _ => none
def ssa_all_c1_A : Ann := []
def ssa_all_c1_R : List Nat := []
noncomputable def ssa_all_c1_c (k pos : Nat) : St → Cont (ARes × Hp) → Option (ARes × Hp) := acode Try.prog ssa_all_c1_G ssa_all_c1_A ssa_all_c1_R k (cdAt (pathOf pos) (bodyOf Try.f80)) pos
theorem ssa_all_c1_eq (k : Nat) (x0 : Int) (x1 : AV) (h : Hp) : fnA Try.prog ssa_all_c1_G ssa_all_c1_A ssa_all_c1_R k Try.f80 [(.rv (.int .i64 x0)), x1] h = ldv h x1 fun v1 => callV ssa_all_c1_G v1 h [(.rv (.int .i64 x0))] (fun r2 h4 => asBool r2 fun b6 => some (.ret (.rv (.bool (!b6))), h4)) (fun q3 h5 => some (.pan q3, h5)) := nrfl (by kernel_rfl)
theorem ssa_all_c1_good : Good Try.prog ssa_all_c1_G := by
  intro f c hc
  unfold ssa_all_c1_G at hc
  split at hc
  · cases hc; exact good_ssa_checker_isBlock
  · cases hc
noncomputable def G_ssa_all_c1 : List AV → Hp → Option (ARes × Hp) := fun xs h => fnA Try.prog ssa_all_c1_G ssa_all_c1_A ssa_all_c1_R big Try.f80 xs h
theorem good_ssa_all_c1 : GoodC Try.prog 80 (.gen G_ssa_all_c1) := goodG mixed ssa_all_c1_good (by kernel_rfl : Try.prog.funcs[80]? = some Try.f80) rfl rfl (fun xs h x e => ⟨big, e⟩)

/-! slices.IndexFunc[[]int,int] -/
abbrev id_slices_IndexFunc_int : FuncId := 65
noncomputable def slices_IndexFunc_int_G : FuncId → Option Callee := fun f => match f with
  | 80 => some (.gen G_ssa_all_c1)
  | _ => none
def slices_IndexFunc_int_A : Ann := [(7, []), (52, [0, 1, 7, 8])]
def slices_IndexFunc_int_R : List Nat := []
noncomputable def slices_IndexFunc_int_c (k pos : Nat) : St → Cont (ARes × Hp) → Option (ARes × Hp) := acode Try.prog slices_IndexFunc_int_G slices_IndexFunc_int_A slices_IndexFunc_int_R k (cdAt (pathOf pos) (bodyOf Try.f65)) pos
noncomputable def slices_IndexFunc_int_K0 (k : Nat) : Cont (ARes × Hp) := seqK (slices_IndexFunc_int_c k 7) true (clrA slices_IndexFunc_int_A 7) (finA Try.prog Try.f65)
noncomputable def slices_IndexFunc_int_K1 (k : Nat) : Cont (ARes × Hp) := blkK 0 (slices_IndexFunc_int_K0 k)
def slices_IndexFunc_int_T52 (x0 : AV) (x1 : AV) (x7 : Int) (x8 : Int) : List AV := x0 :: x1 :: an 5 ((.rv (.int .i64 x7)) :: (.rv (.int .i64 x8)) :: an 10 ([]))
noncomputable def slices_IndexFunc_int_l52 (k : Nat) (N52 M52 : Nat) (x0 : AV) (x1 : AV) (x7 : Int) (x8 : Int) (h : Hp) : Option (ARes × Hp) := aloop (slices_IndexFunc_int_c k 52) (clrA slices_IndexFunc_int_A 52) (trimOf slices_IndexFunc_int_R 52) M52 N52 ⟨slices_IndexFunc_int_T52 x0 x1 x7 x8, h⟩ (slices_IndexFunc_int_K1 k)
def slices_IndexFunc_int_T7  : List AV := an 19 ([])
noncomputable def slices_IndexFunc_int_p7 (k : Nat)  (h : Hp) : Option (ARes × Hp) := pnt (slices_IndexFunc_int_c k 7) ⟨slices_IndexFunc_int_T7 , h⟩ (finA Try.prog Try.f65)
theorem slices_IndexFunc_int_l52_eq (k : Nat) (N52 M52 : Nat) (x0 : AV) (x1 : AV) (x7 : Int) (x8 : Int) (h : Hp) : slices_IndexFunc_int_l52 k (N52 + 1) M52 x0 x1 x7 x8 h = bsp ((decide (x8 < x7))) (ixa 1 x0 x8 fun p2 => ldi .i64 h p2 fun n3 => callV slices_IndexFunc_int_G x1 h [(.rv (.int .i64 n3))] (fun r4 h6 => asBool r4 fun b8 => bsp (b8) (some (.ret (.rv (.int .i64 x8)), h6)) (slices_IndexFunc_int_l52 k N52 M52 x0 x1 (x7) ((wri .i64 (x8 + 1))) (h6))) (fun q5 h7 => some (.pan q5, h7))) (slices_IndexFunc_int_p7 k  (h)) := nrfl (by kernel_rfl)
theorem slices_IndexFunc_int_p7_eq (k : Nat)  (h : Hp) : slices_IndexFunc_int_p7 k  h = some (.ret (.rv (.int .i64 (-1))), h) := nrfl (by kernel_rfl)
theorem slices_IndexFunc_int_eq (k : Nat) (x0 : AV) (x1 : AV) (h : Hp) : fnA Try.prog slices_IndexFunc_int_G slices_IndexFunc_int_A slices_IndexFunc_int_R k Try.f65 [x0, x1] h = lna x0 fun n1 => slices_IndexFunc_int_l52 k k h.length x0 x1 (n1) (0) (h) := nrfl (by kernel_rfl)
theorem slices_IndexFunc_int_good : Good Try.prog slices_IndexFunc_int_G := by
  intro f c hc
  unfold slices_IndexFunc_int_G at hc
  split at hc
  · cases hc; exact good_ssa_all_c1
  · cases hc
noncomputable def G_slices_IndexFunc_int : List AV → Hp → Option (ARes × Hp) := fun xs h => fnA Try.prog slices_IndexFunc_int_G slices_IndexFunc_int_A slices_IndexFunc_int_R big Try.f65 xs h
theorem good_slices_IndexFunc_int : GoodC Try.prog 65 (.gen G_slices_IndexFunc_int) := goodG mixed slices_IndexFunc_int_good (by kernel_rfl : Try.prog.funcs[65]? = some Try.f65) rfl rfl (fun xs h x e => ⟨big, e⟩)

/-! slices.ContainsFunc[[]int,int] -/
abbrev id_slices_ContainsFunc_int : FuncId := 45
noncomputable def slices_ContainsFunc_int_G : FuncId → Option Callee := fun f => match f with
  | 65 => some (.gen G_slices_IndexFunc_int)
  | _ => none
def slices_ContainsFunc_int_A : Ann := []
def slices_ContainsFunc_int_R : List Nat := []
noncomputable def slices_ContainsFunc_int_c (k pos : Nat) : St → Cont (ARes × Hp) → Option (ARes × Hp) := acode Try.prog slices_ContainsFunc_int_G slices_ContainsFunc_int_A slices_ContainsFunc_int_R k (cdAt (pathOf pos) (bodyOf Try.f45)) pos
theorem slices_ContainsFunc_int_eq (k : Nat) (x0 : AV) (x1 : AV) (h : Hp) : fnA Try.prog slices_ContainsFunc_int_G slices_ContainsFunc_int_A slices_ContainsFunc_int_R k Try.f45 [x0, x1] h = callG G_slices_IndexFunc_int h [x0, x1] (fun r1 h3 => asInt .i64 r1 fun n5 => some (.ret (.rv (.bool (decide (n5 ≥ 0)))), h3)) (fun q2 h4 => some (.pan q2, h4)) := nrfl (by kernel_rfl)
theorem slices_ContainsFunc_int_good : Good Try.prog slices_ContainsFunc_int_G := by
  intro f c hc
  unfold slices_ContainsFunc_int_G at hc
  split at hc
  · cases hc; exact good_slices_IndexFunc_int
  · cases hc
noncomputable def G_slices_ContainsFunc_int : List AV → Hp → Option (ARes × Hp) := fun xs h => fnA Try.prog slices_ContainsFunc_int_G slices_ContainsFunc_int_A slices_ContainsFunc_int_R big Try.f45 xs h
theorem good_slices_ContainsFunc_int : GoodC Try.prog 45 (.gen G_slices_ContainsFunc_int) := goodG mixed slices_ContainsFunc_int_good (by kernel_rfl : Try.prog.funcs[45]? = some Try.f45) rfl rfl (fun xs h x e => ⟨big, e⟩)

/-! gantry/ssa.all -/
abbrev id_ssa_all : FuncId := 73
noncomputable def ssa_all_G : FuncId → Option Callee := fun f => match f with
  | 45 => some (.gen G_slices_ContainsFunc_int)
  | _ => none
def ssa_all_A : Ann := []
def ssa_all_R : List Nat := []
noncomputable def ssa_all_c (k pos : Nat) : St → Cont (ARes × Hp) → Option (ARes × Hp) := acode Try.prog ssa_all_G ssa_all_A ssa_all_R k (cdAt (pathOf pos) (bodyOf Try.f73)) pos
theorem ssa_all_eq (k : Nat) (x0 : AV) (x1 : AV) (h : Hp) : fnA Try.prog ssa_all_G ssa_all_A ssa_all_R k Try.f73 [x0, x1] h = nwc 1 (vcells x1) h fun p1 h2 => callG G_slices_ContainsFunc_int h2 [x0, (.func id_ssa_all_c1 [] [p1])] (fun r3 h5 => asBool r3 fun b7 => some (.ret (.rv (.bool (!b7))), h5)) (fun q4 h6 => some (.pan q4, h6)) := nrfl (by kernel_rfl)
theorem ssa_all_good : Good Try.prog ssa_all_G := by
  intro f c hc
  unfold ssa_all_G at hc
  split at hc
  · cases hc; exact good_slices_ContainsFunc_int
  · cases hc
noncomputable def G_ssa_all : List AV → Hp → Option (ARes × Hp) := fun xs h => fnA Try.prog ssa_all_G ssa_all_A ssa_all_R big Try.f73 xs h
theorem good_ssa_all : GoodC Try.prog 73 (.gen G_ssa_all) := goodG mixed ssa_all_good (by kernel_rfl : Try.prog.funcs[73]? = some Try.f73) rfl rfl (fun xs h x e => ⟨big, e⟩)
end Go.Proofs.Ytknphnmhjmejaaa
