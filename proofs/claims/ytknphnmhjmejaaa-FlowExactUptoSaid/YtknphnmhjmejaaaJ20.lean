/- Joined texts: F3. No conditions but those of each. -/
import Derived.Test.YtknphnmhjmejaaaJ17
import Derived.Test.YtknphnmhjmejaaaJ18
/- The places and the unfolding equations of these functions (printed by gen.py of this repo): no conditions. -/
namespace Go.Proofs.Ytknphnmhjmejaaa
set_option linter.unusedVariables false
set_option maxRecDepth 100000

/-! gantry/gantrylaw13.FlowExact -/
abbrev id_w13_FlowExact : FuncId := 5
noncomputable def w13_FlowExact_G : FuncId → Option Callee := fun f => match f with
  | 7 => some (.pure F_w12_Weight)
  | 8 => some (.gen (ownG O_flow_Post))
  | 9 => some (.pure F_r0_CopyCode)
  | 10 => some (.pure F_w13_num)
  | 11 => some (.pure F_r13_Flow)
  | 14 => some (.pure F_w13_wakes)
  | 15 => some (.gen (ownG O_flow_Doms_o))
  | 18 => some (.gen (ownG O_flow_Loops))
  | 19 => some (.pure F_r0_EqCode)
  | 20 => some (.pure F_r0_EqNumbers)
  | 21 => some (.pure F_r13_Post)
  | 22 => some (.pure F_r13_Doms)
  | 23 => some (.pure F_r0_EqLoops)
  | 24 => some (.pure F_r13_Loops)
  | 25 => some (.gen G_w0_Numbers)
  | _ => none
def w13_FlowExact_A : Ann := [(7, []), (52, [0, 3]), (209, [0, 3, 20]), (211, [0, 3]), (107773, [0, 3, 5, 7, 9, 11, 80]), (431101, [0, 3, 5, 7, 9, 119]), (6897660, [0, 3, 9, 12])]
def w13_FlowExact_R : List Nat := []
noncomputable def w13_FlowExact_c (k pos : Nat) : St → Cont (ARes × Hp) → Option (ARes × Hp) := acode Try.prog w13_FlowExact_G w13_FlowExact_A w13_FlowExact_R k (cdAt (pathOf pos) (bodyOf Try.f5)) pos
def w13_FlowExact_T52 (x0 : AV) (x3 : Int) : List AV := x0 :: an 2 ((.rv (.int .i64 x3)) :: an 133 ([]))
def w13_FlowExact_T209 (x0 : AV) (x3 : Int) (x20 : Bool) : List AV := x0 :: an 2 ((.rv (.int .i64 x3)) :: an 16 ((.rv (.bool x20)) :: an 116 ([])))
def w13_FlowExact_T107773 (x0 : AV) (x3 : Int) (x5 : AV) (x7 : AV) (x9 : AV) (x11 : Int) (x80 : Bool) : List AV := x0 :: an 2 ((.rv (.int .i64 x3)) :: an 1 (x5 :: an 1 (x7 :: an 1 (x9 :: an 1 ((.rv (.int .i64 x11)) :: an 68 ((.rv (.bool x80)) :: an 56 ([])))))))
def w13_FlowExact_T7  : List AV := an 137 ([])
def w13_FlowExact_T211 (x0 : AV) (x3 : Int) : List AV := x0 :: an 2 ((.rv (.int .i64 x3)) :: an 133 ([]))
def w13_FlowExact_T431101 (x0 : AV) (x3 : Int) (x5 : AV) (x7 : AV) (x9 : AV) (x119 : Bool) : List AV := x0 :: an 2 ((.rv (.int .i64 x3)) :: an 1 (x5 :: an 1 (x7 :: an 1 (x9 :: an 109 ((.rv (.bool x119)) :: an 17 ([]))))))
def w13_FlowExact_T6897660 (x0 : AV) (x3 : Int) (x9 : AV) (x12 : Int) : List AV := x0 :: an 2 ((.rv (.int .i64 x3)) :: an 5 (x9 :: an 2 ((.rv (.int .i64 x12)) :: an 124 ([]))))
noncomputable def w13_FlowExact_K0 (k : Nat) : Cont (ARes × Hp) := seqK (w13_FlowExact_c k 7) true (clrA w13_FlowExact_A 7) (finA Try.prog Try.f5)
noncomputable def w13_FlowExact_K1 (k : Nat) : Cont (ARes × Hp) := blkK 0 (w13_FlowExact_K0 k)
noncomputable def w13_FlowExact_K2 (k : Nat) (N52 M52 : Nat) : Cont (ARes × Hp) := itK (aloop (w13_FlowExact_c k 52) (clrA w13_FlowExact_A 52) (trimOf w13_FlowExact_R 52) M52 N52) (clrA w13_FlowExact_A 52) (trimOf w13_FlowExact_R 52) M52 (w13_FlowExact_K1 k)
noncomputable def w13_FlowExact_K3 (k : Nat) (N52 M52 : Nat) : Cont (ARes × Hp) := seqK (w13_FlowExact_c k 105) false (clrA w13_FlowExact_A 105) (w13_FlowExact_K2 k N52 M52)
noncomputable def w13_FlowExact_K4 (k : Nat) (N52 M52 : Nat) : Cont (ARes × Hp) := seqK (w13_FlowExact_c k 211) true (clrA w13_FlowExact_A 211) (w13_FlowExact_K2 k N52 M52)
noncomputable def w13_FlowExact_K5 (k : Nat) (N52 M52 : Nat) : Cont (ARes × Hp) := blkK 1 (w13_FlowExact_K4 k N52 M52)
noncomputable def w13_FlowExact_K6 (k : Nat) (N52 M52 : Nat) : Cont (ARes × Hp) := seqK (w13_FlowExact_c k 53887) false (clrA w13_FlowExact_A 53887) (w13_FlowExact_K5 k N52 M52)
noncomputable def w13_FlowExact_K7 (k : Nat) (N52 M52 : Nat) : Cont (ARes × Hp) := seqK (w13_FlowExact_c k 215551) false (clrA w13_FlowExact_A 215551) (w13_FlowExact_K5 k N52 M52)
noncomputable def w13_FlowExact_K8 (k : Nat) (N52 M52 : Nat) : Cont (ARes × Hp) := blkK 2 (w13_FlowExact_K5 k N52 M52)
noncomputable def w13_FlowExact_l52 (k : Nat) (N52 M52 : Nat) (x0 : AV) (x3 : Int) (h : Hp) : Option (ARes × Hp) := aloop (w13_FlowExact_c k 52) (clrA w13_FlowExact_A 52) (trimOf w13_FlowExact_R 52) M52 N52 ⟨w13_FlowExact_T52 x0 x3, h⟩ (w13_FlowExact_K1 k)
noncomputable def w13_FlowExact_p209 (k : Nat) (N52 M52 : Nat) (x0 : AV) (x3 : Int) (x20 : Bool) (h : Hp) : Option (ARes × Hp) := pnt (w13_FlowExact_c k 209) ⟨w13_FlowExact_T209 x0 x3 x20, h⟩ (w13_FlowExact_K3 k N52 M52)
noncomputable def w13_FlowExact_p107773 (k : Nat) (N52 M52 : Nat) (x0 : AV) (x3 : Int) (x5 : AV) (x7 : AV) (x9 : AV) (x11 : Int) (x80 : Bool) (h : Hp) : Option (ARes × Hp) := pnt (w13_FlowExact_c k 107773) ⟨w13_FlowExact_T107773 x0 x3 x5 x7 x9 x11 x80, h⟩ (w13_FlowExact_K6 k N52 M52)
noncomputable def w13_FlowExact_p7 (k : Nat)  (h : Hp) : Option (ARes × Hp) := pnt (w13_FlowExact_c k 7) ⟨w13_FlowExact_T7 , h⟩ (finA Try.prog Try.f5)
noncomputable def w13_FlowExact_p211 (k : Nat) (N52 M52 : Nat) (x0 : AV) (x3 : Int) (h : Hp) : Option (ARes × Hp) := pnt (w13_FlowExact_c k 211) ⟨w13_FlowExact_T211 x0 x3, h⟩ (w13_FlowExact_K2 k N52 M52)
noncomputable def w13_FlowExact_p431101 (k : Nat) (N52 M52 : Nat) (x0 : AV) (x3 : Int) (x5 : AV) (x7 : AV) (x9 : AV) (x119 : Bool) (h : Hp) : Option (ARes × Hp) := pnt (w13_FlowExact_c k 431101) ⟨w13_FlowExact_T431101 x0 x3 x5 x7 x9 x119, h⟩ (w13_FlowExact_K7 k N52 M52)
noncomputable def w13_FlowExact_l6897660 (k : Nat) (N52 M52 : Nat) (N6897660 M6897660 : Nat) (x0 : AV) (x3 : Int) (x9 : AV) (x12 : Int) (h : Hp) : Option (ARes × Hp) := aloop (w13_FlowExact_c k 6897660) (clrA w13_FlowExact_A 6897660) (trimOf w13_FlowExact_R 6897660) M6897660 N6897660 ⟨w13_FlowExact_T6897660 x0 x3 x9 x12, h⟩ (w13_FlowExact_K8 k N52 M52)
theorem w13_FlowExact_l52_eq (k : Nat) (N52 M52 : Nat) (x0 : AV) (x3 : Int) (h : Hp) : w13_FlowExact_l52 k (N52 + 1) M52 x0 x3 h = lna x0 fun n1 => bsp ((decide (x3 < n1))) (w13_FlowExact_p209 k N52 M52 x0 (x3) ((decide (x3 < 10))) (h)) (w13_FlowExact_p209 k N52 M52 x0 (x3) (false) (h)) := nrfl (by kernel_rfl)
theorem w13_FlowExact_p209_eq (k : Nat) (N52 M52 : Nat) (x0 : AV) (x3 : Int) (x20 : Bool) (h : Hp) : w13_FlowExact_p209 k N52 M52 x0 x3 x20 h = bsp (x20) (ixa 4 x0 x3 fun p2 => ldg 4 h p2 fun v3 => bsl 4 1 [(.rv .nils), (.rv .nils), (.rv .nils), (.rv .nils)] [(some (0, 4), v3)] h fun v4 h5 => bld [(.rv .nils), (.rv .nils)] [(some (0, 1), v4)] fun v6 => callP F_w12_Weight h5 [v6, (.rv (.int .i64 2000))] (fun r7 => asInt .i64 r7 fun n9 => bsp ((decide (n9 > 2000))) (some (.ret (.rv (.bool true)), h5)) (ixa 4 x0 x3 fun p10 => ldg 4 h5 p10 fun v11 => callP F_r0_CopyCode h5 [v11] (fun r12 => nwc 1 (some [(.rv .nils), (.rv .nils), (.rv .nils), (.rv .nils)]) h5 fun p14 h15 => stv 4 h15 p14 r12 fun h16 => ldg 4 h16 p14 fun v17 => callG (ownG O_flow_Post) h16 [v17] (fun r18 h20 => xtr r18 0 fun v22 => xtr r18 1 fun v23 => asInt .i64 v23 fun n24 => ldg 4 h20 p14 fun v25 => callG (ownG O_flow_Doms_o) h20 [v25] (fun r26 h28 => xtr r26 0 fun v30 => xtr r26 1 fun v31 => asInt .i64 v31 fun n32 => ldg 4 h28 p14 fun v33 => callG (ownG O_flow_Loops) h28 [v33] (fun r34 h36 => xtr r34 0 fun v38 => xtr r34 1 fun v39 => asInt .i64 v39 fun n40 => ixa 4 x0 x3 fun p41 => ldg 4 h36 p41 fun v42 => callP F_r13_Flow h36 [v42] (fun r43 => asInt .i64 r43 fun n45 => callP F_w13_num h36 [(.rv (.int .i64 n24))] (fun r46 => asInt .i64 r46 fun n48 => bsp ((n48 != n45)) (w13_FlowExact_p107773 k N52 M52 x0 (x3) v22 v30 v38 (n45) (true) (h36)) (callP F_w13_num h36 [(.rv (.int .i64 n32))] (fun r49 => asInt .i64 r49 fun n51 => bsp ((n51 != n45)) (w13_FlowExact_p107773 k N52 M52 x0 (x3) v22 v30 v38 (n45) (true) (h36)) (callP F_w13_num h36 [(.rv (.int .i64 n40))] (fun r52 => asInt .i64 r52 fun n54 => bsp ((n54 != n45)) (w13_FlowExact_p107773 k N52 M52 x0 (x3) v22 v30 v38 (n45) (true) (h36)) (ldg 4 h36 p14 fun v55 => ixa 4 x0 x3 fun p56 => ldg 4 h36 p56 fun v57 => callP F_r0_EqCode h36 [v55, v57] (fun r58 => asBool r58 fun b60 => w13_FlowExact_p107773 k N52 M52 x0 (x3) v22 v30 v38 (n45) ((!b60)) (h36)) (fun q59 => none))) (fun q53 => none))) (fun q50 => none))) (fun q47 => none)) (fun q44 => some (.pan q44, h36))) (fun q35 h37 => some (.pan q35, h37))) (fun q27 h29 => some (.pan q27, h29))) (fun q19 h21 => some (.pan q19, h21))) (fun q13 => some (.pan q13, h5)))) (fun q8 => some (.pan q8, h5))) (w13_FlowExact_p7 k  (h)) := nrfl (by kernel_rfl)
theorem w13_FlowExact_p107773_eq (k : Nat) (N52 M52 : Nat) (x0 : AV) (x3 : Int) (x5 : AV) (x7 : AV) (x9 : AV) (x11 : Int) (x80 : Bool) (h : Hp) : w13_FlowExact_p107773 k N52 M52 x0 x3 x5 x7 x9 x11 x80 h = bsp (x80) (some (.ret (.rv (.bool false)), h)) (bsp ((x11 != 0)) (lna x5 fun n61 => lna x7 fun n62 => lna x9 fun n63 => bsp ((decide ((wri .i64 ((wri .i64 (n61 + n62)) + n63)) > 0))) (some (.ret (.rv (.bool false)), h)) (w13_FlowExact_p211 k N52 M52 x0 (x3) (h))) (ixa 4 x0 x3 fun p64 => ldg 4 h p64 fun v65 => callP F_r13_Post h [v65] (fun r66 => callP F_r0_EqNumbers h [x5, r66] (fun r68 => asBool r68 fun b70 => bsp ((!b70)) (w13_FlowExact_p431101 k N52 M52 x0 (x3) x5 x7 x9 (true) (h)) (ixa 4 x0 x3 fun p71 => ldg 4 h p71 fun v72 => callP F_r13_Doms h [v72] (fun r73 => callP F_r0_EqNumbers h [x7, r73] (fun r75 => asBool r75 fun b77 => bsp ((!b77)) (w13_FlowExact_p431101 k N52 M52 x0 (x3) x5 x7 x9 (true) (h)) (ixa 4 x0 x3 fun p78 => ldg 4 h p78 fun v79 => callP F_r13_Loops h [v79] (fun r80 => callP F_r0_EqLoops h [x9, r80] (fun r82 => asBool r82 fun b84 => w13_FlowExact_p431101 k N52 M52 x0 (x3) x5 x7 x9 ((!b84)) (h)) (fun q83 => some (.pan q83, h))) (fun q81 => some (.pan q81, h)))) (fun q76 => some (.pan q76, h))) (fun q74 => some (.pan q74, h)))) (fun q69 => some (.pan q69, h))) (fun q67 => some (.pan q67, h)))) := nrfl (by kernel_rfl)
theorem w13_FlowExact_p7_eq (k : Nat)  (h : Hp) : w13_FlowExact_p7 k  h = callP F_w13_wakes h [] (fun r85 => asBool r85 fun b87 => some (.ret (.rv (.bool b87)), h)) (fun q86 => some (.pan q86, h)) := nrfl (by kernel_rfl)
theorem w13_FlowExact_p211_eq (k : Nat) (N52 M52 : Nat) (x0 : AV) (x3 : Int) (h : Hp) : w13_FlowExact_p211 k N52 M52 x0 x3 h = w13_FlowExact_l52 k N52 M52 x0 ((wri .i64 (x3 + 1))) (h) := nrfl (by kernel_rfl)
theorem w13_FlowExact_p431101_eq (k : Nat) (N52 M52 : Nat) (x0 : AV) (x3 : Int) (x5 : AV) (x7 : AV) (x9 : AV) (x119 : Bool) (h : Hp) : w13_FlowExact_p431101 k N52 M52 x0 x3 x5 x7 x9 x119 h = bsp (x119) (some (.ret (.rv (.bool false)), h)) (callG G_w0_Numbers h [x5] (fun r88 h90 => callG G_w0_Numbers h90 [x7] (fun r92 h94 => w13_FlowExact_l6897660 k N52 M52 k h94.length x0 (x3) x9 (0) (h94)) (fun q93 h95 => some (.pan q93, h95))) (fun q89 h91 => some (.pan q89, h91))) := nrfl (by kernel_rfl)
theorem w13_FlowExact_l6897660_eq (k : Nat) (N52 M52 : Nat) (N6897660 M6897660 : Nat) (x0 : AV) (x3 : Int) (x9 : AV) (x12 : Int) (h : Hp) : w13_FlowExact_l6897660 k N52 M52 (N6897660 + 1) M6897660 x0 x3 x9 x12 h = lna x9 fun n96 => bsp ((decide (x12 < n96))) (ixa 4 x9 x12 fun p97 => pad p97 3 fun p98 => ldv h p98 fun v99 => callG G_w0_Numbers h [v99] (fun r100 h102 => w13_FlowExact_l6897660 k N52 M52 N6897660 M6897660 x0 (x3) x9 ((wri .i64 (x12 + 1))) (h102)) (fun q101 h103 => some (.pan q101, h103))) (w13_FlowExact_p211 k N52 M52 x0 (x3) (h)) := nrfl (by kernel_rfl)
theorem w13_FlowExact_eq (k : Nat) (x0 : AV) (h : Hp) : fnA Try.prog w13_FlowExact_G w13_FlowExact_A w13_FlowExact_R k Try.f5 [x0] h = w13_FlowExact_l52 k k h.length x0 (0) (h) := nrfl (by kernel_rfl)
theorem w13_FlowExact_good : Good Try.prog w13_FlowExact_G := by
  intro f c hc
  unfold w13_FlowExact_G at hc
  split at hc
  · cases hc; exact good_w12_Weight
  · cases hc; exact good_O_flow_Post
  · cases hc; exact good_r0_CopyCode
  · cases hc; exact good_w13_num
  · cases hc; exact good_r13_Flow
  · cases hc; exact good_w13_wakes
  · cases hc; exact good_O_flow_Doms_o
  · cases hc; exact good_O_flow_Loops
  · cases hc; exact good_r0_EqCode
  · cases hc; exact good_r0_EqNumbers
  · cases hc; exact good_r13_Post
  · cases hc; exact good_r13_Doms
  · cases hc; exact good_r0_EqLoops
  · cases hc; exact good_r13_Loops
  · cases hc; exact good_w0_Numbers
  · cases hc
noncomputable def F_w13_FlowExact : List RV → Option Res := fun rs => pureR (fnA Try.prog w13_FlowExact_G w13_FlowExact_A w13_FlowExact_R big Try.f5 (rs.map .rv) [])
theorem good_w13_FlowExact : GoodC Try.prog 5 (.pure F_w13_FlowExact) := goodP mixed w13_FlowExact_good (by kernel_rfl : Try.prog.funcs[5]? = some Try.f5) rfl rfl (fun rs r h => ⟨big, h⟩)
end Go.Proofs.Ytknphnmhjmejaaa
