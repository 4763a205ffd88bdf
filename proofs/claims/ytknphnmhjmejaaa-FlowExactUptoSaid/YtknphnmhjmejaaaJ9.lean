/- Joined texts: D1. No conditions but those of each. -/
import Derived.Test.YtknphnmhjmejaaaJ8
/- The places and the unfolding equations of these functions (printed by gen.py of this repo): no conditions. -/
namespace Go.Proofs.Ytknphnmhjmejaaa
set_option linter.unusedVariables false
set_option maxRecDepth 100000
abbrev id_slices_Backward_c1_int : FuncId := 76
theorem good_slices_Backward_c1_int : GoodC Try.prog 76 .back :=
  ⟨Go.Proofs.enters_of (by kernel_rfl : Try.prog.funcs[76]? = some Try.f76) rfl rfl, 24, 3, 4, 81, 3, Try.f76, 8, by kernel_rfl, by kernel_rfl, rfl, rfl, by kernel_rfl, by kernel_rfl, by kernel_rfl⟩

/-! gantry/ssa.Post -/
abbrev id_ssa_Post : FuncId := 43
noncomputable def ssa_Post_G : FuncId → Option Callee := fun f => match f with
  | 64 => some (.pure F_ssa_reached)
  | _ => none
def ssa_Post_A : Ann := []
def ssa_Post_R : List Nat := []
noncomputable def ssa_Post_c (k pos : Nat) : St → Cont (ARes × Hp) → Option (ARes × Hp) := acode Try.prog ssa_Post_G ssa_Post_A ssa_Post_R k (cdAt (pathOf pos) (bodyOf Try.f43)) pos
theorem ssa_Post_eq (k : Nat) (x0 : AV) (h : Hp) : fnA Try.prog ssa_Post_G ssa_Post_A ssa_Post_R k Try.f43 [x0] h = nwc 1 (vcells x0) h fun p1 h2 => ldg 4 h2 p1 fun v3 => callP F_ssa_reached h2 [v3] (fun r4 => some (.ret r4, h2)) (fun q5 => some (.pan q5, h2)) := nrfl (by kernel_rfl)
theorem ssa_Post_good : Good Try.prog ssa_Post_G := by
  intro f c hc
  unfold ssa_Post_G at hc
  split at hc
  · cases hc; exact good_ssa_reached
  · cases hc
noncomputable def F_ssa_Post : List RV → Option Res := fun rs => pureR (fnA Try.prog ssa_Post_G ssa_Post_A ssa_Post_R big Try.f43 (rs.map .rv) [])
theorem good_ssa_Post : GoodC Try.prog 43 (.pure F_ssa_Post) := goodP mixed ssa_Post_good (by kernel_rfl : Try.prog.funcs[43]? = some Try.f43) rfl rfl (fun rs r h => ⟨big, h⟩)

/-! slices.Backward[[]int,int] -/
abbrev id_slices_Backward_int : FuncId := 63
noncomputable def slices_Backward_int_G : FuncId → Option Callee := fun f => match f with
  | _ => none
def slices_Backward_int_A : Ann := []
def slices_Backward_int_R : List Nat := []
noncomputable def slices_Backward_int_c (k pos : Nat) : St → Cont (ARes × Hp) → Option (ARes × Hp) := acode Try.prog slices_Backward_int_G slices_Backward_int_A slices_Backward_int_R k (cdAt (pathOf pos) (bodyOf Try.f63)) pos
theorem slices_Backward_int_eq (k : Nat) (x0 : AV) (h : Hp) : fnA Try.prog slices_Backward_int_G slices_Backward_int_A slices_Backward_int_R k Try.f63 [x0] h = nwc 1 (vcells x0) h fun p1 h2 => some (.ret (.func id_slices_Backward_c1_int [] [p1]), h2) := nrfl (by kernel_rfl)
theorem slices_Backward_int_good : Good Try.prog slices_Backward_int_G := fun f c hc => by cases hc
noncomputable def G_slices_Backward_int : List AV → Hp → Option (ARes × Hp) := fun xs h => fnA Try.prog slices_Backward_int_G slices_Backward_int_A slices_Backward_int_R big Try.f63 xs h
theorem good_slices_Backward_int : GoodC Try.prog 63 (.gen G_slices_Backward_int) := goodG mixed slices_Backward_int_good (by kernel_rfl : Try.prog.funcs[63]? = some Try.f63) rfl rfl (fun xs h x e => ⟨big, e⟩)

/-! gantry/ssa.Doms closure 1 -/
abbrev id_ssa_Doms_c1 : FuncId := 62
noncomputable def ssa_Doms_c1_G : FuncId → Option Callee := fun f => match f with
  | _ => none
def ssa_Doms_c1_A : Ann := [(7, [0]), (24, [0, 1, 2, 3]), (197, [0, 1, 2, 3]), (784, [0, 1, 2, 3]), (788, [0, 1, 2, 3])]
def ssa_Doms_c1_R : List Nat := []
noncomputable def ssa_Doms_c1_c (k pos : Nat) : St → Cont (ARes × Hp) → Option (ARes × Hp) := acode Try.prog ssa_Doms_c1_G ssa_Doms_c1_A ssa_Doms_c1_R k (cdAt (pathOf pos) (bodyOf Try.f62)) pos
def ssa_Doms_c1_T24 (x0 : Int) (x1 : Int) (x2 : AV) (x3 : AV) : List AV := (.rv (.int .i64 x0)) :: (.rv (.int .i64 x1)) :: x2 :: x3 :: an 33 ([])
def ssa_Doms_c1_T784 (x0 : Int) (x1 : Int) (x2 : AV) (x3 : AV) : List AV := (.rv (.int .i64 x0)) :: (.rv (.int .i64 x1)) :: x2 :: x3 :: an 33 ([])
def ssa_Doms_c1_T7 (x0 : Int) : List AV := (.rv (.int .i64 x0)) :: an 36 ([])
def ssa_Doms_c1_T197 (x0 : Int) (x1 : Int) (x2 : AV) (x3 : AV) : List AV := (.rv (.int .i64 x0)) :: (.rv (.int .i64 x1)) :: x2 :: x3 :: an 33 ([])
def ssa_Doms_c1_T788 (x0 : Int) (x1 : Int) (x2 : AV) (x3 : AV) : List AV := (.rv (.int .i64 x0)) :: (.rv (.int .i64 x1)) :: x2 :: x3 :: an 33 ([])
noncomputable def ssa_Doms_c1_K0 (k : Nat) : Cont (ARes × Hp) := seqK (ssa_Doms_c1_c k 7) true (clrA ssa_Doms_c1_A 7) (finA Try.prog Try.f62)
noncomputable def ssa_Doms_c1_K1 (k : Nat) : Cont (ARes × Hp) := blkK 0 (ssa_Doms_c1_K0 k)
noncomputable def ssa_Doms_c1_K2 (k : Nat) (N24 M24 : Nat) : Cont (ARes × Hp) := itK (aloop (ssa_Doms_c1_c k 24) (clrA ssa_Doms_c1_A 24) (trimOf ssa_Doms_c1_R 24) M24 N24) (clrA ssa_Doms_c1_A 24) (trimOf ssa_Doms_c1_R 24) M24 (ssa_Doms_c1_K1 k)
noncomputable def ssa_Doms_c1_K3 (k : Nat) (N24 M24 : Nat) : Cont (ARes × Hp) := blkK 1 (ssa_Doms_c1_K2 k N24 M24)
noncomputable def ssa_Doms_c1_K4 (k : Nat) (N24 M24 : Nat) : Cont (ARes × Hp) := seqK (ssa_Doms_c1_c k 197) true (clrA ssa_Doms_c1_A 197) (ssa_Doms_c1_K3 k N24 M24)
noncomputable def ssa_Doms_c1_K5 (k : Nat) (N24 M24 : Nat) : Cont (ARes × Hp) := blkK 2 (ssa_Doms_c1_K4 k N24 M24)
noncomputable def ssa_Doms_c1_K6 (k : Nat) (N24 M24 : Nat) : Cont (ARes × Hp) := blkK 4 (ssa_Doms_c1_K3 k N24 M24)
noncomputable def ssa_Doms_c1_l24 (k : Nat) (N24 M24 : Nat) (x0 : Int) (x1 : Int) (x2 : AV) (x3 : AV) (h : Hp) : Option (ARes × Hp) := aloop (ssa_Doms_c1_c k 24) (clrA ssa_Doms_c1_A 24) (trimOf ssa_Doms_c1_R 24) M24 N24 ⟨ssa_Doms_c1_T24 x0 x1 x2 x3, h⟩ (ssa_Doms_c1_K1 k)
noncomputable def ssa_Doms_c1_l784 (k : Nat) (N24 M24 : Nat) (N784 M784 : Nat) (x0 : Int) (x1 : Int) (x2 : AV) (x3 : AV) (h : Hp) : Option (ARes × Hp) := aloop (ssa_Doms_c1_c k 784) (clrA ssa_Doms_c1_A 784) (trimOf ssa_Doms_c1_R 784) M784 N784 ⟨ssa_Doms_c1_T784 x0 x1 x2 x3, h⟩ (ssa_Doms_c1_K5 k N24 M24)
noncomputable def ssa_Doms_c1_p7 (k : Nat) (x0 : Int) (h : Hp) : Option (ARes × Hp) := pnt (ssa_Doms_c1_c k 7) ⟨ssa_Doms_c1_T7 x0, h⟩ (finA Try.prog Try.f62)
noncomputable def ssa_Doms_c1_p197 (k : Nat) (N24 M24 : Nat) (x0 : Int) (x1 : Int) (x2 : AV) (x3 : AV) (h : Hp) : Option (ARes × Hp) := pnt (ssa_Doms_c1_c k 197) ⟨ssa_Doms_c1_T197 x0 x1 x2 x3, h⟩ (ssa_Doms_c1_K3 k N24 M24)
noncomputable def ssa_Doms_c1_l788 (k : Nat) (N24 M24 : Nat) (N788 M788 : Nat) (x0 : Int) (x1 : Int) (x2 : AV) (x3 : AV) (h : Hp) : Option (ARes × Hp) := aloop (ssa_Doms_c1_c k 788) (clrA ssa_Doms_c1_A 788) (trimOf ssa_Doms_c1_R 788) M788 N788 ⟨ssa_Doms_c1_T788 x0 x1 x2 x3, h⟩ (ssa_Doms_c1_K6 k N24 M24)
theorem ssa_Doms_c1_l24_eq (k : Nat) (N24 M24 : Nat) (x0 : Int) (x1 : Int) (x2 : AV) (x3 : AV) (h : Hp) : ssa_Doms_c1_l24 k (N24 + 1) M24 x0 x1 x2 x3 h = bsp ((x0 != x1)) (ssa_Doms_c1_l784 k N24 M24 k h.length (x0) (x1) x2 x3 (h)) (ssa_Doms_c1_p7 k (x0) (h)) := nrfl (by kernel_rfl)
theorem ssa_Doms_c1_l784_eq (k : Nat) (N24 M24 : Nat) (N784 M784 : Nat) (x0 : Int) (x1 : Int) (x2 : AV) (x3 : AV) (h : Hp) : ssa_Doms_c1_l784 k N24 M24 (N784 + 1) M784 x0 x1 x2 x3 h = ldv h x2 fun v1 => ixa 1 v1 x0 fun p2 => ldi .i64 h p2 fun n3 => ldv h x2 fun v4 => ixa 1 v4 x1 fun p5 => ldi .i64 h p5 fun n6 => bsp ((decide (n3 < n6))) (ldv h x3 fun v7 => ixa 1 v7 x0 fun p8 => ldi .i64 h p8 fun n9 => ssa_Doms_c1_l784 k N24 M24 N784 M784 (n9) (x1) x2 x3 (h)) (ssa_Doms_c1_p197 k N24 M24 (x0) (x1) x2 x3 (h)) := nrfl (by kernel_rfl)
theorem ssa_Doms_c1_p7_eq (k : Nat) (x0 : Int) (h : Hp) : ssa_Doms_c1_p7 k x0 h = some (.ret (.rv (.int .i64 x0)), h) := nrfl (by kernel_rfl)
theorem ssa_Doms_c1_p197_eq (k : Nat) (N24 M24 : Nat) (x0 : Int) (x1 : Int) (x2 : AV) (x3 : AV) (h : Hp) : ssa_Doms_c1_p197 k N24 M24 x0 x1 x2 x3 h = ssa_Doms_c1_l788 k N24 M24 k h.length (x0) (x1) x2 x3 (h) := nrfl (by kernel_rfl)
theorem ssa_Doms_c1_l788_eq (k : Nat) (N24 M24 : Nat) (N788 M788 : Nat) (x0 : Int) (x1 : Int) (x2 : AV) (x3 : AV) (h : Hp) : ssa_Doms_c1_l788 k N24 M24 (N788 + 1) M788 x0 x1 x2 x3 h = ldv h x2 fun v10 => ixa 1 v10 x1 fun p11 => ldi .i64 h p11 fun n12 => ldv h x2 fun v13 => ixa 1 v13 x0 fun p14 => ldi .i64 h p14 fun n15 => bsp ((decide (n12 < n15))) (ldv h x3 fun v16 => ixa 1 v16 x1 fun p17 => ldi .i64 h p17 fun n18 => ssa_Doms_c1_l788 k N24 M24 N788 M788 (x0) (n18) x2 x3 (h)) (ssa_Doms_c1_l24 k N24 M24 (x0) (x1) x2 x3 (h)) := nrfl (by kernel_rfl)
theorem ssa_Doms_c1_eq (k : Nat) (x0 : Int) (x1 : Int) (x2 : AV) (x3 : AV) (h : Hp) : fnA Try.prog ssa_Doms_c1_G ssa_Doms_c1_A ssa_Doms_c1_R k Try.f62 [(.rv (.int .i64 x0)), (.rv (.int .i64 x1)), x2, x3] h = ssa_Doms_c1_l24 k k h.length (x0) (x1) x2 x3 (h) := nrfl (by kernel_rfl)
theorem ssa_Doms_c1_good : Good Try.prog ssa_Doms_c1_G := fun f c hc => by cases hc
noncomputable def G_ssa_Doms_c1 : List AV → Hp → Option (ARes × Hp) := fun xs h => fnA Try.prog ssa_Doms_c1_G ssa_Doms_c1_A ssa_Doms_c1_R big Try.f62 xs h
theorem good_ssa_Doms_c1 : GoodC Try.prog 62 (.gen G_ssa_Doms_c1) := goodG mixed ssa_Doms_c1_good (by kernel_rfl : Try.prog.funcs[62]? = some Try.f62) rfl rfl (fun xs h x e => ⟨big, e⟩)

/-! gantry/ssa.Doms -/
abbrev id_ssa_Doms : FuncId := 42
noncomputable def ssa_Doms_G : FuncId → Option Callee := fun f => match f with
  | 62 => some (.gen G_ssa_Doms_c1)
  | 63 => some (.gen G_slices_Backward_int)
  | 76 => some .back
  | _ => none
def ssa_Doms_A : Ann := [(31, [1, 2, 5, 6]), (63, [1, 2, 5, 6]), (244, [1, 2, 5, 6, 26, 27]), (500, [1, 2, 5, 6, 37, 38, 39]), (511, [6]), (4084, [1, 2, 6, 10, 11]), (261414, [1, 2, 6, 10, 11, 54]), (8365271, [6, 11, 13, 14]), (66922164, [6, 10, 11, 13, 14, 64, 65, 66]), (535377319, [6, 10, 11, 13, 14, 64, 65, 66])]
def ssa_Doms_R : List Nat := []
noncomputable def ssa_Doms_c (k pos : Nat) : St → Cont (ARes × Hp) → Option (ARes × Hp) := acode Try.prog ssa_Doms_G ssa_Doms_A ssa_Doms_R k (cdAt (pathOf pos) (bodyOf Try.f42)) pos
def ssa_Doms_T244 (x1 : AV) (x2 : AV) (x5 : AV) (x6 : AV) (x26 : Int) (x27 : Int) : List AV := an 1 (x1 :: x2 :: an 2 (x5 :: x6 :: an 19 ((.rv (.int .i64 x26)) :: (.rv (.int .i64 x27)) :: an 71 ([]))))
def ssa_Doms_T31 (x1 : AV) (x2 : AV) (x5 : AV) (x6 : AV) : List AV := an 1 (x1 :: x2 :: an 2 (x5 :: x6 :: an 92 ([])))
def ssa_Doms_T500 (x1 : AV) (x2 : AV) (x5 : AV) (x6 : AV) (x37 : AV) (x38 : Int) (x39 : Int) : List AV := an 1 (x1 :: x2 :: an 2 (x5 :: x6 :: an 30 (x37 :: (.rv (.int .i64 x38)) :: (.rv (.int .i64 x39)) :: an 59 ([]))))
def ssa_Doms_T63 (x1 : AV) (x2 : AV) (x5 : AV) (x6 : AV) : List AV := an 1 (x1 :: x2 :: an 2 (x5 :: x6 :: an 92 ([])))
def ssa_Doms_T4084 (x1 : AV) (x2 : AV) (x6 : AV) (x10 : AV) (x11 : AV) : List AV := an 1 (x1 :: x2 :: an 3 (x6 :: an 3 (x10 :: x11 :: an 87 ([]))))
def ssa_Doms_T261414 (x1 : AV) (x2 : AV) (x6 : AV) (x10 : AV) (x11 : AV) (x54 : AV) : List AV := an 1 (x1 :: x2 :: an 3 (x6 :: an 3 (x10 :: x11 :: an 42 (x54 :: an 44 ([])))))
def ssa_Doms_T511 (x6 : AV) : List AV := an 6 (x6 :: an 92 ([]))
def ssa_Doms_T66922164 (x6 : AV) (x10 : AV) (x11 : AV) (x13 : Int) (x14 : Int) (x64 : AV) (x65 : Int) (x66 : Int) : List AV := an 6 (x6 :: an 3 (x10 :: x11 :: an 1 ((.rv (.int .i64 x13)) :: (.rv (.int .i64 x14)) :: an 49 (x64 :: (.rv (.int .i64 x65)) :: (.rv (.int .i64 x66)) :: an 32 ([])))))
def ssa_Doms_T535377319 (x6 : AV) (x10 : AV) (x11 : AV) (x13 : Int) (x14 : Int) (x64 : AV) (x65 : Int) (x66 : Int) : List AV := an 6 (x6 :: an 3 (x10 :: x11 :: an 1 ((.rv (.int .i64 x13)) :: (.rv (.int .i64 x14)) :: an 49 (x64 :: (.rv (.int .i64 x65)) :: (.rv (.int .i64 x66)) :: an 32 ([])))))
def ssa_Doms_T8365271 (x6 : AV) (x11 : AV) (x13 : Int) (x14 : Int) : List AV := an 6 (x6 :: an 4 (x11 :: an 1 ((.rv (.int .i64 x13)) :: (.rv (.int .i64 x14)) :: an 84 ([]))))
noncomputable def ssa_Doms_K0 (k : Nat) : Cont (ARes × Hp) := seqK (ssa_Doms_c k 31) true (clrA ssa_Doms_A 31) (finA Try.prog Try.f42)
noncomputable def ssa_Doms_K1 (k : Nat) : Cont (ARes × Hp) := blkK 0 (ssa_Doms_K0 k)
noncomputable def ssa_Doms_K2 (k : Nat) : Cont (ARes × Hp) := seqK (ssa_Doms_c k 63) true (clrA ssa_Doms_A 63) (finA Try.prog Try.f42)
noncomputable def ssa_Doms_K3 (k : Nat) : Cont (ARes × Hp) := blkK 2 (ssa_Doms_K2 k)
noncomputable def ssa_Doms_K4 (k : Nat) : Cont (ARes × Hp) := seqK (ssa_Doms_c k 511) true (clrA ssa_Doms_A 511) (finA Try.prog Try.f42)
noncomputable def ssa_Doms_K5 (k : Nat) : Cont (ARes × Hp) := blkK 4 (ssa_Doms_K4 k)
noncomputable def ssa_Doms_K6 (k : Nat) (N4084 M4084 : Nat) : Cont (ARes × Hp) := itK (aloop (ssa_Doms_c k 4084) (clrA ssa_Doms_A 4084) (trimOf ssa_Doms_R 4084) M4084 N4084) (clrA ssa_Doms_A 4084) (trimOf ssa_Doms_R 4084) M4084 (ssa_Doms_K5 k)
noncomputable def ssa_Doms_K7 (k : Nat) (N4084 M4084 : Nat) : Cont (ARes × Hp) := seqK (ssa_Doms_c k 16339) false (clrA ssa_Doms_A 16339) (ssa_Doms_K6 k N4084 M4084)
noncomputable def ssa_Doms_K8 (k : Nat) (N4084 M4084 : Nat) : Cont (ARes × Hp) := blkK 5 (ssa_Doms_K7 k N4084 M4084)
noncomputable def ssa_Doms_K9 (k : Nat) (N4084 M4084 : Nat) : Cont (ARes × Hp) := blkK 6 (ssa_Doms_K8 k N4084 M4084)
noncomputable def ssa_Doms_K10 (k : Nat) (N4084 M4084 : Nat) (N261414 : Nat) (P261414 : AV) (y261414_1 : AV) (y261414_2 : AV) (y261414_6 : AV) (y261414_10 : AV) (y261414_11 : AV) (y261414_54 : AV) : Cont (ARes × Hp) := bkK (fun h K => bkl (fun σ K => (ssa_Doms_c k 522828) σ (asgK (ssa_Doms_c k 522829) (hasA ssa_Doms_A 522829) (clrA ssa_Doms_A 522829) K)) P261414 55 56 (ssa_Doms_T261414 y261414_1 y261414_2 y261414_6 y261414_10 y261414_11 y261414_54) N261414 h K) (ssa_Doms_K9 k N4084 M4084)
noncomputable def ssa_Doms_K11 (k : Nat) (N4084 M4084 : Nat) (N261414 : Nat) (P261414 : AV) (y261414_1 : AV) (y261414_2 : AV) (y261414_6 : AV) (y261414_10 : AV) (y261414_11 : AV) (y261414_54 : AV) : Cont (ARes × Hp) := blkK 7 (ssa_Doms_K10 k N4084 M4084 N261414 P261414 y261414_1 y261414_2 y261414_6 y261414_10 y261414_11 y261414_54)
noncomputable def ssa_Doms_K12 (k : Nat) (N4084 M4084 : Nat) (N261414 : Nat) (P261414 : AV) (y261414_1 : AV) (y261414_2 : AV) (y261414_6 : AV) (y261414_10 : AV) (y261414_11 : AV) (y261414_54 : AV) : Cont (ARes × Hp) := seqK (ssa_Doms_c k 8365271) true (clrA ssa_Doms_A 8365271) (ssa_Doms_K11 k N4084 M4084 N261414 P261414 y261414_1 y261414_2 y261414_6 y261414_10 y261414_11 y261414_54)
noncomputable def ssa_Doms_K13 (k : Nat) (N4084 M4084 : Nat) (N261414 : Nat) (P261414 : AV) (y261414_1 : AV) (y261414_2 : AV) (y261414_6 : AV) (y261414_10 : AV) (y261414_11 : AV) (y261414_54 : AV) : Cont (ARes × Hp) := blkK 8 (ssa_Doms_K12 k N4084 M4084 N261414 P261414 y261414_1 y261414_2 y261414_6 y261414_10 y261414_11 y261414_54)
noncomputable def ssa_Doms_K14 (k : Nat) (N4084 M4084 : Nat) (N261414 : Nat) (P261414 : AV) (y261414_1 : AV) (y261414_2 : AV) (y261414_6 : AV) (y261414_10 : AV) (y261414_11 : AV) (y261414_54 : AV) (N66922164 M66922164 : Nat) : Cont (ARes × Hp) := itK (aloop (ssa_Doms_c k 66922164) (clrA ssa_Doms_A 66922164) (trimOf ssa_Doms_R 66922164) M66922164 N66922164) (clrA ssa_Doms_A 66922164) (trimOf ssa_Doms_R 66922164) M66922164 (ssa_Doms_K13 k N4084 M4084 N261414 P261414 y261414_1 y261414_2 y261414_6 y261414_10 y261414_11 y261414_54)
noncomputable def ssa_Doms_l244 (k : Nat) (N244 M244 : Nat) (x1 : AV) (x2 : AV) (x5 : AV) (x6 : AV) (x26 : Int) (x27 : Int) (h : Hp) : Option (ARes × Hp) := aloop (ssa_Doms_c k 244) (clrA ssa_Doms_A 244) (trimOf ssa_Doms_R 244) M244 N244 ⟨ssa_Doms_T244 x1 x2 x5 x6 x26 x27, h⟩ (ssa_Doms_K1 k)
noncomputable def ssa_Doms_p31 (k : Nat) (x1 : AV) (x2 : AV) (x5 : AV) (x6 : AV) (h : Hp) : Option (ARes × Hp) := pnt (ssa_Doms_c k 31) ⟨ssa_Doms_T31 x1 x2 x5 x6, h⟩ (finA Try.prog Try.f42)
noncomputable def ssa_Doms_l500 (k : Nat) (N500 M500 : Nat) (x1 : AV) (x2 : AV) (x5 : AV) (x6 : AV) (x37 : AV) (x38 : Int) (x39 : Int) (h : Hp) : Option (ARes × Hp) := aloop (ssa_Doms_c k 500) (clrA ssa_Doms_A 500) (trimOf ssa_Doms_R 500) M500 N500 ⟨ssa_Doms_T500 x1 x2 x5 x6 x37 x38 x39, h⟩ (ssa_Doms_K3 k)
noncomputable def ssa_Doms_p63 (k : Nat) (x1 : AV) (x2 : AV) (x5 : AV) (x6 : AV) (h : Hp) : Option (ARes × Hp) := pnt (ssa_Doms_c k 63) ⟨ssa_Doms_T63 x1 x2 x5 x6, h⟩ (finA Try.prog Try.f42)
noncomputable def ssa_Doms_l4084 (k : Nat) (N4084 M4084 : Nat) (x1 : AV) (x2 : AV) (x6 : AV) (x10 : AV) (x11 : AV) (h : Hp) : Option (ARes × Hp) := aloop (ssa_Doms_c k 4084) (clrA ssa_Doms_A 4084) (trimOf ssa_Doms_R 4084) M4084 N4084 ⟨ssa_Doms_T4084 x1 x2 x6 x10 x11, h⟩ (ssa_Doms_K5 k)
noncomputable def ssa_Doms_b261414 (k : Nat) (N4084 M4084 : Nat) (N261414 : Nat) (P261414 : AV) (y261414_1 : AV) (y261414_2 : AV) (y261414_6 : AV) (y261414_10 : AV) (y261414_11 : AV) (y261414_54 : AV) (h : Hp) : Option (ARes × Hp) := bkl (fun σ K => (ssa_Doms_c k 522828) σ (asgK (ssa_Doms_c k 522829) (hasA ssa_Doms_A 522829) (clrA ssa_Doms_A 522829) K)) P261414 55 56 (ssa_Doms_T261414 y261414_1 y261414_2 y261414_6 y261414_10 y261414_11 y261414_54) N261414 h (ssa_Doms_K9 k N4084 M4084)
noncomputable def ssa_Doms_p511 (k : Nat) (x6 : AV) (h : Hp) : Option (ARes × Hp) := pnt (ssa_Doms_c k 511) ⟨ssa_Doms_T511 x6, h⟩ (finA Try.prog Try.f42)
noncomputable def ssa_Doms_l66922164 (k : Nat) (N4084 M4084 : Nat) (N261414 : Nat) (P261414 : AV) (y261414_1 : AV) (y261414_2 : AV) (y261414_6 : AV) (y261414_10 : AV) (y261414_11 : AV) (y261414_54 : AV) (N66922164 M66922164 : Nat) (x6 : AV) (x10 : AV) (x11 : AV) (x13 : Int) (x14 : Int) (x64 : AV) (x65 : Int) (x66 : Int) (h : Hp) : Option (ARes × Hp) := aloop (ssa_Doms_c k 66922164) (clrA ssa_Doms_A 66922164) (trimOf ssa_Doms_R 66922164) M66922164 N66922164 ⟨ssa_Doms_T66922164 x6 x10 x11 x13 x14 x64 x65 x66, h⟩ (ssa_Doms_K13 k N4084 M4084 N261414 P261414 y261414_1 y261414_2 y261414_6 y261414_10 y261414_11 y261414_54)
noncomputable def ssa_Doms_p535377319 (k : Nat) (N4084 M4084 : Nat) (N261414 : Nat) (P261414 : AV) (y261414_1 : AV) (y261414_2 : AV) (y261414_6 : AV) (y261414_10 : AV) (y261414_11 : AV) (y261414_54 : AV) (N66922164 M66922164 : Nat) (x6 : AV) (x10 : AV) (x11 : AV) (x13 : Int) (x14 : Int) (x64 : AV) (x65 : Int) (x66 : Int) (h : Hp) : Option (ARes × Hp) := pnt (ssa_Doms_c k 535377319) ⟨ssa_Doms_T535377319 x6 x10 x11 x13 x14 x64 x65 x66, h⟩ (ssa_Doms_K14 k N4084 M4084 N261414 P261414 y261414_1 y261414_2 y261414_6 y261414_10 y261414_11 y261414_54 N66922164 M66922164)
noncomputable def ssa_Doms_p8365271 (k : Nat) (N4084 M4084 : Nat) (N261414 : Nat) (P261414 : AV) (y261414_1 : AV) (y261414_2 : AV) (y261414_6 : AV) (y261414_10 : AV) (y261414_11 : AV) (y261414_54 : AV) (x6 : AV) (x11 : AV) (x13 : Int) (x14 : Int) (h : Hp) : Option (ARes × Hp) := pnt (ssa_Doms_c k 8365271) ⟨ssa_Doms_T8365271 x6 x11 x13 x14, h⟩ (ssa_Doms_K11 k N4084 M4084 N261414 P261414 y261414_1 y261414_2 y261414_6 y261414_10 y261414_11 y261414_54)
theorem ssa_Doms_l244_eq (k : Nat) (N244 M244 : Nat) (x1 : AV) (x2 : AV) (x5 : AV) (x6 : AV) (x26 : Int) (x27 : Int) (h : Hp) : ssa_Doms_l244 k (N244 + 1) M244 x1 x2 x5 x6 x26 x27 h = bsp ((decide (x27 < x26))) (ldv h x5 fun v21 => ldv h x6 fun v22 => ixa 1 v21 x27 fun p23 => stv 1 h p23 (.rv (.int .i64 (-1))) fun h24 => sv1 h24 x6 v22 (ixa 1 v22 x27 fun p25 => stv 1 h24 p25 (.rv (.int .i64 (-1))) fun h26 => ssa_Doms_l244 k N244 M244 x1 x2 x5 x6 (x26) ((wri .i64 (x27 + 1))) (h26))) (ssa_Doms_p31 k x1 x2 x5 x6 (h)) := nrfl (by kernel_rfl)
theorem ssa_Doms_p31_eq (k : Nat) (x1 : AV) (x2 : AV) (x5 : AV) (x6 : AV) (h : Hp) : ssa_Doms_p31 k x1 x2 x5 x6 h = lna x1 fun n27 => ssa_Doms_l500 k k h.length x1 x2 x5 x6 x1 (n27) (0) (h) := nrfl (by kernel_rfl)
theorem ssa_Doms_l500_eq (k : Nat) (N500 M500 : Nat) (x1 : AV) (x2 : AV) (x5 : AV) (x6 : AV) (x37 : AV) (x38 : Int) (x39 : Int) (h : Hp) : ssa_Doms_l500 k (N500 + 1) M500 x1 x2 x5 x6 x37 x38 x39 h = bsp ((decide (x39 < x38))) (ixa 1 x37 x39 fun p28 => ldi .i64 h p28 fun n29 => ldv h x5 fun v30 => ixa 1 v30 n29 fun p31 => stv 1 h p31 (.rv (.int .i64 x39)) fun h32 => ssa_Doms_l500 k N500 M500 x1 x2 x5 x6 x37 (x38) ((wri .i64 (x39 + 1))) (h32)) (ssa_Doms_p63 k x1 x2 x5 x6 (h)) := nrfl (by kernel_rfl)
theorem ssa_Doms_p63_eq (k : Nat) (x1 : AV) (x2 : AV) (x5 : AV) (x6 : AV) (h : Hp) : ssa_Doms_p63 k x1 x2 x5 x6 h = nwc 1 (some [(.rv .nilf)]) h fun p33 h34 => stv 1 h34 p33 (.func id_ssa_Doms_c1 [] [x5, x6]) fun h35 => ldv h35 x6 fun v36 => ixa 1 v36 0 fun p37 => stv 1 h35 p37 (.rv (.int .i64 0)) fun h38 => nwc 1 (some [(.rv (.bool false))]) h38 fun p39 h40 => stv 1 h40 p39 (.rv (.bool true)) fun h41 => ssa_Doms_l4084 k k h41.length x1 x2 x6 p33 p39 (h41) := nrfl (by kernel_rfl)
theorem ssa_Doms_l4084_eq (k : Nat) (N4084 M4084 : Nat) (x1 : AV) (x2 : AV) (x6 : AV) (x10 : AV) (x11 : AV) (h : Hp) : ssa_Doms_l4084 k (N4084 + 1) M4084 x1 x2 x6 x10 x11 h = ldb h x11 fun b42 => bsp (b42) (stv 1 h x11 (.rv (.bool false)) fun h43 => callG G_slices_Backward_int h43 [x1] (fun r44 h46 => rfA ssa_Doms_G r44 fun p48 => ldv h46 p48 fun v49 => bkn v49 fun m50 => ssa_Doms_b261414 k N4084 M4084 m50 p48 x1 x2 x6 x10 x11 r44 (h46)) (fun q45 h47 => some (.pan q45, h47))) (ssa_Doms_p511 k x6 (h)) := nrfl (by kernel_rfl)
theorem ssa_Doms_b261414_nil (k : Nat) (N4084 M4084 : Nat) (P261414 : AV) (y261414_1 : AV) (y261414_2 : AV) (y261414_6 : AV) (y261414_10 : AV) (y261414_11 : AV) (y261414_54 : AV) (h : Hp) : ssa_Doms_b261414 k N4084 M4084 0 P261414 y261414_1 y261414_2 y261414_6 y261414_10 y261414_11 y261414_54 h = ldb h y261414_11 fun b51 => nwc 1 (some [(.rv (.bool false))]) h fun p52 h53 => stv 1 h53 p52 (.rv (.bool b51)) fun h54 => ssa_Doms_l4084 k N4084 M4084 y261414_1 y261414_2 y261414_6 y261414_10 p52 (h54) := nrfl (by kernel_rfl)
theorem ssa_Doms_b261414_eq (k : Nat) (N4084 M4084 : Nat) (N261414 : Nat) (P261414 : AV) (y261414_1 : AV) (y261414_2 : AV) (y261414_6 : AV) (y261414_10 : AV) (y261414_11 : AV) (y261414_54 : AV) (h : Hp) : ssa_Doms_b261414 k N4084 M4084 (N261414 + 1) P261414 y261414_1 y261414_2 y261414_6 y261414_10 y261414_11 y261414_54 h = ldv h P261414 fun v55 => ixa 1 v55 (N261414 : Int) fun p56 => ldi .i64 h p56 fun n57 => bsp ((n57 == 0)) (ssa_Doms_b261414 k N4084 M4084 N261414 P261414 y261414_1 y261414_2 y261414_6 y261414_10 y261414_11 y261414_54 (h)) (pad y261414_2 3 fun p58 => ldv h p58 fun v59 => ixa 6 v59 n57 fun p60 => pad p60 3 fun p61 => ldv h p61 fun v62 => lna v62 fun n63 => ssa_Doms_l66922164 k N4084 M4084 N261414 P261414 y261414_1 y261414_2 y261414_6 y261414_10 y261414_11 y261414_54 k h.length y261414_6 y261414_10 y261414_11 (n57) ((-1)) v62 (n63) (0) (h)) := nrfl (by kernel_rfl)
theorem ssa_Doms_p511_eq (k : Nat) (x6 : AV) (h : Hp) : ssa_Doms_p511 k x6 h = ldv h x6 fun v64 => ixa 1 v64 0 fun p65 => stv 1 h p65 (.rv (.int .i64 (-1))) fun h66 => ldv h66 x6 fun v67 => some (.ret v67, h66) := nrfl (by kernel_rfl)
theorem ssa_Doms_l66922164_eq (k : Nat) (N4084 M4084 : Nat) (N261414 : Nat) (P261414 : AV) (y261414_1 : AV) (y261414_2 : AV) (y261414_6 : AV) (y261414_10 : AV) (y261414_11 : AV) (y261414_54 : AV) (N66922164 M66922164 : Nat) (x6 : AV) (x10 : AV) (x11 : AV) (x13 : Int) (x14 : Int) (x64 : AV) (x65 : Int) (x66 : Int) (h : Hp) : ssa_Doms_l66922164 k N4084 M4084 N261414 P261414 y261414_1 y261414_2 y261414_6 y261414_10 y261414_11 y261414_54 (N66922164 + 1) M66922164 x6 x10 x11 x13 x14 x64 x65 x66 h = bsp ((decide (x66 < x65))) (ixa 1 x64 x66 fun p68 => ldi .i64 h p68 fun n69 => ldv h x6 fun v70 => ixa 1 v70 n69 fun p71 => ldi .i64 h p71 fun n72 => bsp ((decide (n72 < 0))) (ssa_Doms_p535377319 k N4084 M4084 N261414 P261414 y261414_1 y261414_2 y261414_6 y261414_10 y261414_11 y261414_54 N66922164 M66922164 x6 x10 x11 (x13) (x14) x64 (x65) (x66) (h)) (bsp ((decide (x14 < 0))) (ssa_Doms_p535377319 k N4084 M4084 N261414 P261414 y261414_1 y261414_2 y261414_6 y261414_10 y261414_11 y261414_54 N66922164 M66922164 x6 x10 x11 (x13) (n69) x64 (x65) (x66) (h)) (ldv h x10 fun v73 => callV ssa_Doms_G v73 h [(.rv (.int .i64 x14)), (.rv (.int .i64 n69))] (fun r74 h76 => asInt .i64 r74 fun n78 => ssa_Doms_p535377319 k N4084 M4084 N261414 P261414 y261414_1 y261414_2 y261414_6 y261414_10 y261414_11 y261414_54 N66922164 M66922164 x6 x10 x11 (x13) (n78) x64 (x65) (x66) (h76)) (fun q75 h77 => none)))) (ssa_Doms_p8365271 k N4084 M4084 N261414 P261414 y261414_1 y261414_2 y261414_6 y261414_10 y261414_11 y261414_54 x6 x11 (x13) (x14) (h)) := nrfl (by kernel_rfl)
theorem ssa_Doms_p535377319_eq (k : Nat) (N4084 M4084 : Nat) (N261414 : Nat) (P261414 : AV) (y261414_1 : AV) (y261414_2 : AV) (y261414_6 : AV) (y261414_10 : AV) (y261414_11 : AV) (y261414_54 : AV) (N66922164 M66922164 : Nat) (x6 : AV) (x10 : AV) (x11 : AV) (x13 : Int) (x14 : Int) (x64 : AV) (x65 : Int) (x66 : Int) (h : Hp) : ssa_Doms_p535377319 k N4084 M4084 N261414 P261414 y261414_1 y261414_2 y261414_6 y261414_10 y261414_11 y261414_54 N66922164 M66922164 x6 x10 x11 x13 x14 x64 x65 x66 h = ssa_Doms_l66922164 k N4084 M4084 N261414 P261414 y261414_1 y261414_2 y261414_6 y261414_10 y261414_11 y261414_54 N66922164 M66922164 x6 x10 x11 (x13) (x14) x64 (x65) ((wri .i64 (x66 + 1))) (h) := nrfl (by kernel_rfl)
theorem ssa_Doms_p8365271_eq (k : Nat) (N4084 M4084 : Nat) (N261414 : Nat) (P261414 : AV) (y261414_1 : AV) (y261414_2 : AV) (y261414_6 : AV) (y261414_10 : AV) (y261414_11 : AV) (y261414_54 : AV) (x6 : AV) (x11 : AV) (x13 : Int) (x14 : Int) (h : Hp) : ssa_Doms_p8365271 k N4084 M4084 N261414 P261414 y261414_1 y261414_2 y261414_6 y261414_10 y261414_11 y261414_54 x6 x11 x13 x14 h = ldv h x6 fun v79 => ixa 1 v79 x13 fun p80 => ldi .i64 h p80 fun n81 => bsp ((x14 != n81)) (ldv h x6 fun v82 => ixa 1 v82 x13 fun p83 => stv 1 h p83 (.rv (.int .i64 x14)) fun h84 => stv 1 h84 x11 (.rv (.bool true)) fun h85 => ssa_Doms_b261414 k N4084 M4084 N261414 P261414 y261414_1 y261414_2 y261414_6 y261414_10 y261414_11 y261414_54 (h85)) (ssa_Doms_b261414 k N4084 M4084 N261414 P261414 y261414_1 y261414_2 y261414_6 y261414_10 y261414_11 y261414_54 (h)) := nrfl (by kernel_rfl)
theorem ssa_Doms_eq (k : Nat) (x0 : AV) (x1 : AV) (h : Hp) : fnA Try.prog ssa_Doms_G ssa_Doms_A ssa_Doms_R k Try.f42 [x0, x1] h = nwc 1 (vcells x0) h fun p1 h2 => pad p1 3 fun p3 => ldv h2 p3 fun v4 => lna v4 fun n5 => mks 1 8 [(.rv (.int .i64 0))] h2 n5 fun v6 h7 => nwc 1 (some [(.rv .nils)]) h7 fun p8 h9 => stv 1 h9 p8 v6 fun h10 => pad p1 3 fun p11 => ldv h10 p11 fun v12 => lna v12 fun n13 => mks 1 8 [(.rv (.int .i64 0))] h10 n13 fun v14 h15 => nwc 1 (some [(.rv .nils)]) h15 fun p16 h17 => stv 1 h17 p16 v14 fun h18 => ldv h18 p16 fun v19 => lna v19 fun n20 => ssa_Doms_l244 k k h18.length x1 p1 p8 p16 (n20) (0) (h18) := nrfl (by kernel_rfl)
theorem ssa_Doms_good : Good Try.prog ssa_Doms_G := by
  intro f c hc
  unfold ssa_Doms_G at hc
  split at hc
  · cases hc; exact good_ssa_Doms_c1
  · cases hc; exact good_slices_Backward_int
  · cases hc; exact good_slices_Backward_c1_int
  · cases hc
noncomputable def F_ssa_Doms : List RV → Option Res := fun rs => pureR (fnA Try.prog ssa_Doms_G ssa_Doms_A ssa_Doms_R big Try.f42 (rs.map .rv) [])
theorem good_ssa_Doms : GoodC Try.prog 42 (.pure F_ssa_Doms) := goodP mixed ssa_Doms_good (by kernel_rfl : Try.prog.funcs[42]? = some Try.f42) rfl rfl (fun rs r h => ⟨big, h⟩)

/-! gantry/flow.Doms -/
abbrev id_flow_Doms : FuncId := 15
noncomputable def flow_Doms_G : FuncId → Option Callee := fun f => match f with
  | 31 => some (.pure F_ssa_Flow)
  | 42 => some (.pure F_ssa_Doms)
  | 43 => some (.pure F_ssa_Post)
  | _ => none
def flow_Doms_A : Ann := []
def flow_Doms_R : List Nat := []
noncomputable def flow_Doms_c (k pos : Nat) : St → Cont (ARes × Hp) → Option (ARes × Hp) := acode Try.prog flow_Doms_G flow_Doms_A flow_Doms_R k (cdAt (pathOf pos) (bodyOf Try.f15)) pos
theorem flow_Doms_eq (k : Nat) (x0 : AV) (h : Hp) : fnA Try.prog flow_Doms_G flow_Doms_A flow_Doms_R k Try.f15 [x0] h = nwc 1 (vcells x0) h fun p1 h2 => ldg 4 h2 p1 fun v3 => callP F_ssa_Flow h2 [v3] (fun r4 => asInt .i64 r4 fun n6 => bsp ((n6 != 0)) (some (.ret (.tuple [(.rv .nils), (.rv (.int .i64 n6))]), h2)) (ldg 4 h2 p1 fun v7 => ldg 4 h2 p1 fun v8 => callP F_ssa_Post h2 [v8] (fun r9 => callP F_ssa_Doms h2 [v7, r9] (fun r11 => some (.ret (.tuple [r11, (.rv (.int .i64 0))]), h2)) (fun q12 => none)) (fun q10 => none))) (fun q5 => some (.pan q5, h2)) := nrfl (by kernel_rfl)
theorem flow_Doms_good : Good Try.prog flow_Doms_G := by
  intro f c hc
  unfold flow_Doms_G at hc
  split at hc
  · cases hc; exact good_ssa_Flow
  · cases hc; exact good_ssa_Doms
  · cases hc; exact good_ssa_Post
  · cases hc
noncomputable def F_flow_Doms : List RV → Option Res := fun rs => pureR (fnA Try.prog flow_Doms_G flow_Doms_A flow_Doms_R big Try.f15 (rs.map .rv) [])
theorem good_flow_Doms : GoodC Try.prog 15 (.pure F_flow_Doms) := goodP mixed flow_Doms_good (by kernel_rfl : Try.prog.funcs[15]? = some Try.f15) rfl rfl (fun rs r h => ⟨big, h⟩)
end Go.Proofs.Ytknphnmhjmejaaa
