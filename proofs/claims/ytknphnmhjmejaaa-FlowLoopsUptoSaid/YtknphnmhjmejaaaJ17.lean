/- Joined texts: Eh, Ei, Row. No conditions but those of each. -/
import Derived.Test.YtknphnmhjmejaaaJ15
import Derived.Test.YtknphnmhjmejaaaJ16
import Derived.Test.YtknphnmhjmejaaaRows
import Derived.Test.YtknphnmhjmejaaaJ11
import Derived.Test.YtknphnmhjmejaaaJ6
import Derived.ProofKit
import Derived.OpenShut
import Derived.JoinedCond
import Derived.ChangeBook
import Derived.ChangeBears
import Derived.ChangeStays
import Derived.Deep.Slices
/-  The law FlowLoops: what it asks of loops, one by one. No conditions. -/
namespace Go.Proofs.Ytknphnmhjmejaaa
set_option linter.unusedVariables false
theorem In_loop {x : RV} {xs : List Int} (hx : IsInts x xs) (v : Int) (k M : Nat) (h : Hp) : ∀ (m i N : Nat), i + m = xs.length → m < N → r0_In_l52 k N M (.rv x) v i h = some (.ret (ab (decide (v ∈ xs.drop i))), h) := by
  have hs := hx.short
  intro m
  induction m with
  | zero =>
    intro i N hi hN
    obtain ⟨N, rfl⟩ : ∃ q, N = q + 1 := ⟨N - 1, by omega⟩
    rw [r0_In_l52_eq, hx.len, bsp_not (decide_eq_false (by omega)), r0_In_p7_eq, List.drop_eq_nil_of_le (by omega)]
    simp
  | succ m ih =>
    intro i N hi hN
    obtain ⟨N, rfl⟩ : ∃ q, N = q + 1 := ⟨N - 1, by omega⟩
    have hil : i < xs.length := by omega
    rw [r0_In_l52_eq, hx.len, bsp_of (decide_eq_true (by omega)), hx.at hil, List.drop_eq_getElem_cons hil]
    by_cases e : xs[i] = v
    · rw [bsp_of (by simpa using e)]
      simp [e]
    · rw [bsp_not (by simpa using e), wri_succ (by omega), ih (i + 1) N (by omega) (by omega)]
      have h3 : (v ∈ xs[i] :: xs.drop (i + 1)) ↔ v ∈ xs.drop (i + 1) := by
        rw [List.mem_cons]
        exact ⟨fun h => h.resolve_left fun h => e h.symm, .inr⟩
      rw [decide_eq_decide.2 h3]
theorem In_spec {x : RV} {xs : List Int} (hx : IsInts x xs) (v : Int) : F_r0_In [x, I v] = some (.ret (.bool (decide (v ∈ xs)))) := by
  have hs := hx.short
  unfold F_r0_In
  rw [List.map_cons, List.map_cons, List.map_nil, r0_In_eq, show ((0 : Int)) = ((0 : Nat) : Int) from rfl, In_loop hx v big _ _ xs.length 0 big (by omega) (by rw [big_val]; omega), List.drop_zero]
  simp [pureR, toRV, depthA]
theorem blocks_loop {x : RV} {xs : List Int} (hx : IsInts x xs) (n : Int) (hu : ∀ y ∈ xs, (0 : Int) ≤ y ∧ y < n) (k M : Nat) (h : Hp) : ∀ (m i N : Nat), i + m = xs.length → m < N → w13_blocks_l52 k N M (.rv x) n i h = some (.ret (ab true), h) := by
  have hs := hx.short
  intro m
  induction m with
  | zero =>
    intro i N hi hN
    obtain ⟨N, rfl⟩ : ∃ q, N = q + 1 := ⟨N - 1, by omega⟩
    rw [w13_blocks_l52_eq, hx.len, bsp_not (decide_eq_false (by omega)), w13_blocks_p7_eq]
  | succ m ih =>
    intro i N hi hN
    obtain ⟨N, rfl⟩ : ∃ q, N = q + 1 := ⟨N - 1, by omega⟩
    have hil : i < xs.length := by omega
    obtain ⟨h1, h2⟩ := hu _ (List.getElem_mem hil)
    rw [w13_blocks_l52_eq, hx.len, bsp_of (decide_eq_true (by omega)), hx.at hil, bsp_not (decide_eq_false (by omega)), hx.at hil, w13_blocks_p841_eq, bsp_not (decide_eq_false (by omega)), wri_succ (by omega)]
    exact ih (i + 1) N (by omega) (by omega)
theorem blocks_spec {x : RV} {xs : List Int} (hx : IsInts x xs) (n : Int) (hu : ∀ y ∈ xs, (0 : Int) ≤ y ∧ y < n) : F_w13_blocks [x, I n] = some (.ret (.bool true)) := by
  have hs := hx.short
  unfold F_w13_blocks
  rw [List.map_cons, List.map_cons, List.map_nil, w13_blocks_eq, show ((0 : Int)) = ((0 : Nat) : Int) from rfl, blocks_loop hx n hu big _ _ xs.length 0 big (by omega) (by rw [big_val]; omega)]
  simp [pureR, toRV, depthA]
section
variable {G : Gr} {par : Par} {P : List Nat} {n : Nat} {x : RV}
open Classical in
theorem Dominates_loop (kd : Done G par) (g : GrP G P n) (hx : IsInts x (dvs par n)) (d k M : Nat) (h : Hp) : ∀ (m y N : Nat), G.N y → P.length - G.num y ≤ m → m + 1 < N → r13_Dominates_l24 k N M (.rv x) d y h = some (.ret (ab (decide (Anc par y d))), h) := by
  intro m
  induction m with
  | zero =>
    intro y N hy hm
    have h1 := g.le0 hy
    have h2 : G.num 0 < P.length := by rw [g.num]; exact List.idxOf_lt_length_iff.2 ((g.mem 0).1 G.n0)
    omega
  | succ m ih =>
    intro y N hy hm hN
    obtain ⟨N, rfl⟩ : ∃ q, N = q + 1 := ⟨N - 1, by omega⟩
    have hyn := g.lt y ((g.mem y).1 hy)
    have hyl : y < (dvs par n).length := by rw [dvs_len]; exact hyn
    rw [r13_Dominates_l24_eq, bsp_of (decide_eq_true (by omega))]
    by_cases e : y = d
    · subst e
      have : Anc par y y := .refl y
      rw [bsp_of (by simp)]
      simp [this]
    · rw [bsp_not (by rw [beq_eq_false_iff_ne]; omega), hx.at hyl, dvs_get]
      rcases kd.dv_step hy with ⟨rfl, e2⟩ | ⟨h0, y', hp, e2, hy', hlt⟩
      · obtain ⟨N, rfl⟩ : ∃ q, N = q + 1 := ⟨N - 1, by omega⟩
        have : ¬ Anc par 0 d := fun h => e (kd.anc0.1 h).symm
        rw [e2, r13_Dominates_l24_eq, bsp_not (by rfl), r13_Dominates_p7_eq]
        simp [this]
      · rw [e2, ih y' N hy' (by omega) (by omega)]
        have : Anc par y d ↔ Anc par y' d := by rw [anc_step hp]; simp [e]
        simp [this]
open Classical in
theorem Dominates_spec (kd : Done G par) (g : GrP G P n) (hn : n ≤ 4096) (hP : P.length ≤ n) (hx : IsInts x (dvs par n)) (d : Nat) {y : Nat} (hy : G.N y) : F_r13_Dominates [x, I (d : Nat), I (y : Nat)] = some (.ret (.bool (decide (Anc par y d)))) := by
  unfold F_r13_Dominates
  rw [List.map_cons, List.map_cons, List.map_cons, List.map_nil, r13_Dominates_eq, Dominates_loop kd g hx d big _ _ P.length y big hy (by omega) (by rw [big_val]; omega)]
  simp [pureR, toRV, depthA]
theorem rises_chain (kd : Done G par) (g : GrP G P n) (h0m : G.num 0 + 1 = P.length) (hn : n ≤ 4096) (hP : P.length ≤ n) (hx : IsInts x (dvs par n)) (k N1 M1 M j : Nat) (Z : Option (ARes × Hp) → Prop) (h : Hp) (outer : Z (w13_rises_p467 k N1 M1 (.rv x) j h)) :
    ∀ (m y N c : Nat), G.N y → P.length - G.num y ≤ m → m + 1 < N → c + (P.length - G.num y) ≤ n → Z (w13_rises_l14924 k N1 M1 N M (.rv x) j c y h) := by
  intro m
  induction m with
  | zero =>
    intro y N c hy hm
    have := g.le0 hy
    omega
  | succ m ih =>
    intro y N c hy hm hN hc
    obtain ⟨N, rfl⟩ : ∃ q, N = q + 1 := ⟨N - 1, by omega⟩
    have hle := g.le0 hy
    have hyn := g.lt y ((g.mem y).1 hy)
    have hyl : y < (dvs par n).length := by rw [dvs_len]; exact hyn
    rw [w13_rises_l14924_eq, bsp_of (decide_eq_true (by omega)), hx.len, dvs_len, wri_succ (by omega), bsp_not (decide_eq_false (by omega)), hx.at hyl, dvs_get]
    rcases kd.dv_step hy with ⟨rfl, e2⟩ | ⟨h0, y', hp, e2, hy', hlt⟩
    · obtain ⟨N, rfl⟩ : ∃ q, N = q + 1 := ⟨N - 1, by omega⟩
      rw [e2, w13_rises_l14924_eq, bsp_not (by rfl)]
      exact outer
    · rw [e2]
      exact ih y' N (c + 1) hy' (by omega) (by omega) (by omega)
theorem rises_loop (kd : Done G par) (g : GrP G P n) (h0m : G.num 0 + 1 = P.length) (hn : n ≤ 4096) (hP : P.length ≤ n) (hx : IsInts x (dvs par n)) (k M : Nat) (hk : 1000000000 < k) (h : Hp) : ∀ (m j N : Nat), j + m = n → m < N → w13_rises_l116 k N M (.rv x) j h = some (.ret (ab true), h) := by
  intro m
  induction m with
  | zero =>
    intro j N hj hN
    obtain ⟨N, rfl⟩ : ∃ q, N = q + 1 := ⟨N - 1, by omega⟩
    rw [w13_rises_l116_eq, hx.len, dvs_len, bsp_not (decide_eq_false (by omega)), w13_rises_p15_eq]
  | succ m ih =>
    intro j N hj hN
    obtain ⟨N, rfl⟩ : ∃ q, N = q + 1 := ⟨N - 1, by omega⟩
    have next : w13_rises_p467 k N M (.rv x) j h = some (.ret (ab true), h) := by
      rw [w13_rises_p467_eq, wri_succ (by omega)]
      exact ih (j + 1) N (by omega) (by omega)
    rw [w13_rises_l116_eq, hx.len, dvs_len, bsp_of (decide_eq_true (by omega))]
    by_cases hjN : G.N j
    · have hle := g.le0 hjN
      exact rises_chain kd g h0m hn hP hx k N M _ j (fun z => z = some (.ret (ab true), h)) h next P.length j k 0 hjN (by omega) (by omega) (by omega)
    · obtain ⟨k', hk'⟩ : ∃ q, k = q + 1 + 1 := ⟨k - 2, by omega⟩
      have hjl : j < (dvs par n).length := by rw [dvs_len]; omega
      have : w13_rises_l14924 k N M (k' + 1 + 1) h.length (.rv x) j ((0 : Nat) : Int) j h = some (.ret (ab true), h) := by
        rw [w13_rises_l14924_eq, bsp_of (decide_eq_true (by omega)), hx.len, dvs_len, wri_succ (by omega), bsp_not (decide_eq_false (by omega)), hx.at hjl, dvs_get, kd.dv_hole hjN, w13_rises_l14924_eq, bsp_not (by rfl)]
        exact next
      rw [← hk'] at this
      exact this
theorem rises_spec {cs : List RV} {d : Cd} (hd : IsCd cs d) (kd : Done G par) (g : GrP G P d.blocks.length) (h0m : G.num 0 + 1 = P.length) (hn : d.blocks.length ≤ 4096) (hP : P.length ≤ d.blocks.length) (hx : IsInts x (dvs par d.blocks.length)) : F_w13_rises [x, .agg cs] = some (.ret (.bool true)) := by
  obtain ⟨p, r, v, b, rfl, _, _, _, hb⟩ := hd
  unfold F_w13_rises
  rw [List.map_cons, List.map_cons, List.map_nil, w13_rises_eq, box_agg, hx.len, dvs_len, pad_ptr, ldv_at (get_new _) (x := .rv b) rfl, hb.len, bsp_not (by simp), callP_ret (by simp [toRV, depthA]) (ups_spec hx (kd.ups g)) (.inr rfl), asBool_b, w13_rises_p13_eq, bsp_not (by rfl), show ((0 : Int)) = ((0 : Nat) : Int) from rfl,
    rises_loop kd g h0m hn hP hx big _ (by rw [big_val]; omega) _ d.blocks.length 0 big (by omega) (by rw [big_val]; omega)]
  simp [pureR, toRV, depthA]
end
/-! ### Ways within a loop -/
inductive Wp (bs : List Blk) (body : Nat → Prop) (hd : Nat) : Nat → Prop
  | last {x : Nat} (h : hd ∈ sucs bs x) : Wp bs body hd x
  | step {x y : Nat} (h : y ∈ sucs bs x) (b : body y) (r : Wp bs body hd y) : Wp bs body hd x
theorem body_ways {bs : List Blk} {P : List Nat} {par : Par} (hf : formOk bs = true) (hq : FlowOk bs) (hP : IsPost bs P) (kd : Done (grOf hf hq hP) par) {hd : Nat} (hl : hd < bs.length) (hh : IsHead bs par hd) {y : Nat} (hy : InB bs par hd y) : Wp bs (InB bs par hd) hd y := by
  have hhP := hh.inP hf hq hP hl
  have lt := (grP hf hq hP).lt
  have suc : ∀ {a b : Nat}, b ∈ P → a ∈ prd bs b → b ∈ sucs bs a := fun {a b} hb ha => (prd_sucs hf hq (lt a ((grOf hf hq hP).pin b hb a ha)) (lt b hb)).2 ha
  have out : ∀ {a b : Nat}, a ∈ P → b ∈ P → b ∈ sucs bs a → a ∈ prd bs b := fun {a b} ha hb h => (prd_sucs hf hq (lt a ha) (lt b hb)).1 h
  have back : ∀ y, Way (sucs bs) 0 y → InB bs par hd y → Wp bs (InB bs par hd) hd y → Wp bs (InB bs par hd) hd hd := by
    intro y hw
    induction hw with
    | refl =>
      intro hb hw
      have := kd.anc0.1 (InB.over kd hhP hb).2
      rw [this] at hw ⊢
      exact hw
    | @step w y r e ih =>
      intro hb hw
      by_cases h0 : y = hd
      · rw [h0] at hw; exact hw
      · have hyP := (InB.over kd hhP hb).1
        have hwP : w ∈ P := (hP.mem w).2 r
        exact ih (.back hb h0 (out hwP hyP e)) (.step e hb hw)
  have head : Wp bs (InB bs par hd) hd hd := by
    obtain ⟨p, hp, ha⟩ := hh
    have hpP := (grOf hf hq hP).pin hd hhP p hp
    exact back p ((hP.mem p).1 hpP) (.src hp ha) (.last (suc hhP hp))
  induction hy with
  | head => exact head
  | src hp ha => exact .last (suc hhP hp)
  | @back x p r hx hp ih => exact .step (suc (InB.over kd hhP r).1 hp) r ih
/-- What the search within a loop has seen. -/
structure WI (bs : List Blk) (body : List Int) (hd s : Nat) (seen : List Bool) (list : List Nat) (i j : Nat) : Prop where
  len : seen.length = bs.length
  cnt : list.length ≤ 1 + seen.count true
  mem : ∀ x : Nat, seen[x]? = some true → x ∈ list
  lt : ∀ x ∈ list, x < bs.length
  start : s ∈ list
  done : ∀ t x b, t < i → list[t]? = some x → bs[x]? = some b → ∀ n : Nat, (n : Int) ∈ b.succs → n ≠ hd ∧ ((n : Int) ∈ body → n ∈ list)
  cur : ∀ x b, list[i]? = some x → bs[x]? = some b → ∀ q : Nat, q < j → ∀ n : Nat, b.succs[q]? = some (n : Int) → n ≠ hd ∧ ((n : Int) ∈ body → n ∈ list)
section
variable {bs : List Blk} {body : List Int} {hd s : Nat} {seen : List Bool} {list : List Nat} {i j : Nat}
theorem WI.bound (k : WI bs body hd s seen list i j) : list.length ≤ 1 + bs.length := by
  have h1 := k.cnt
  have h2 : seen.count true ≤ seen.length := List.count_le_length
  have h3 := k.len
  omega
theorem WI.next (k : WI bs body hd s seen list i j) {x : Nat} {b : Blk} (hx : list[i]? = some x) (hb : bs[x]? = some b) (hj : b.succs.length ≤ j) : WI bs body hd s seen list (i + 1) 0 :=
  ⟨k.len, k.cnt, k.mem, k.lt, k.start, fun t x' b' ht hx' hb' n hn => by
    by_cases e : t = i
    · subst e
      rw [hx] at hx'
      cases hx'
      rw [hb] at hb'
      cases hb'
      obtain ⟨q, hq, e⟩ := List.getElem_of_mem hn
      exact k.cur x b hx hb q (by omega) n (by rw [List.getElem?_eq_getElem hq, e])
    · exact k.done t x' b' (by omega) hx' hb' n hn, fun x b _ _ q hq => absurd hq (by omega)⟩
theorem WI.skip (k : WI bs body hd s seen list i j) {x : Nat} {b : Blk} (hx : list[i]? = some x) (hb : bs[x]? = some b) {n : Nat} (hn : b.succs[j]? = some (n : Int)) (hne : n ≠ hd) (h : (n : Int) ∈ body → seen[n]? = some true) : WI bs body hd s seen list i (j + 1) :=
  ⟨k.len, k.cnt, k.mem, k.lt, k.start, k.done, fun x' b' hx' hb' q hq n' hn' => by
    rw [hx] at hx'
    cases hx'
    rw [hb] at hb'
    cases hb'
    by_cases e : q = j
    · subst e
      rw [hn] at hn'
      have : n = n' := by
        have := Option.some.inj hn'
        omega
      subst this
      exact ⟨hne, fun hm => k.mem n (h hm)⟩
    · exact k.cur x b hx hb q (by omega) n' hn'⟩
theorem WI.push (k : WI bs body hd s seen list i j) {x : Nat} {b : Blk} (hx : list[i]? = some x) (hb : bs[x]? = some b) {n : Nat} (hn : b.succs[j]? = some (n : Int)) (hne : n ≠ hd) (hnl : n < bs.length) (hs : seen[n]? = some false) : WI bs body hd s (seen.set n true) (list ++ [n]) i (j + 1) := by
  have hil := (List.getElem?_eq_some_iff.1 hx).1
  refine ⟨by rw [List.length_set]; exact k.len, ?_, fun y hy => ?_, fun y hy => ?_, List.mem_append_left _ k.start, fun t x' b' ht hx' hb' n' hn' => ?_, fun x' b' hx' hb' q hq n' hn' => ?_⟩
  · rw [count_set_true _ _ hs, List.length_append]
    have := k.cnt
    simp
    omega
  · rw [List.getElem?_set] at hy
    by_cases e : n = y
    · subst e; simp
    · rw [if_neg e] at hy
      exact List.mem_append_left _ (k.mem y hy)
  · rcases List.mem_append.1 hy with h | h
    · exact k.lt y h
    · have : y = n := by simpa using h
      omega
  · rw [List.getElem?_append_left (by omega)] at hx'
    obtain ⟨h1, h2⟩ := k.done t x' b' ht hx' hb' n' hn'
    exact ⟨h1, fun h => List.mem_append_left _ (h2 h)⟩
  · rw [List.getElem?_append_left hil, hx] at hx'
    cases hx'
    rw [hb] at hb'
    cases hb'
    by_cases e : q = j
    · subst e
      rw [hn] at hn'
      have : n = n' := by
        have := Option.some.inj hn'
        omega
      subst this
      exact ⟨hne, fun _ => by simp⟩
    · obtain ⟨h1, h2⟩ := k.cur x b hx hb q (by omega) n' hn'
      exact ⟨h1, fun h => List.mem_append_left _ (h2 h)⟩
theorem WI.never (hf : formOk bs = true) (k : WI bs body hd s seen list i 0) (hi : list.length ≤ i) {S : Nat → Prop} (hS : ∀ z, S z → (z : Int) ∈ body) {y : Nat} (w : Wp bs S hd y) (hy : y ∈ list) : False := by
  induction w with
  | @last x h =>
    obtain ⟨t, ht, e⟩ := List.getElem_of_mem hy
    have hxl := k.lt x hy
    exact (k.done t x _ (by omega) (by rw [List.getElem?_eq_getElem ht, e]) (List.getElem?_eq_getElem hxl) hd ((sucs_mem hf hxl).1 h)).1 rfl
  | @step x y h b r ih =>
    obtain ⟨t, ht, e⟩ := List.getElem_of_mem hy
    have hxl := k.lt x hy
    exact ih ((k.done t x _ (by omega) (by rw [List.getElem?_eq_getElem ht, e]) (List.getElem?_eq_getElem hxl) y ((sucs_mem hf hxl).1 h)).2 (hS y b))
end
section
variable {p r v b : RV} {d : Cd} {bx : RV} {body : List Int} {hd s : Nat} {oc os ol : Nat} {k' : Nat}
theorem within_inner (hcd : IsCd [p, r, v, b] d) (hsh : d.blocks.length ≤ 4096) (hok : okSuccs d.blocks) (hbx : IsInts bx body) (k N M M' i x : Nat) {q : Blk} {sv : RV} (hq : d.blocks[x]? = some q) (hsv : IsInts sv q.succs)
    (outer : ∀ seen list vl h, RH h oc os ol vl [.rv p, .rv r, .rv v, .rv b] seen list → WI d.blocks body hd s seen list (i + 1) 0 → TR (w13_within_l244 k N M (.rv bx) hd (.ptr oc 0 0) (.sl os 0 0 d.blocks.length) (.sl ol vl 0 list.length) ((i + 1 : Nat) : Int) h)) :
    ∀ (m j N' : Nat) (seen : List Bool) (list : List Nat) (vl : Nat) (h : Hp), j + m = q.succs.length → m < N' → list[i]? = some x → RH h oc os ol vl [.rv p, .rv r, .rv v, .rv b] seen list → WI d.blocks body hd s seen list i j →
      TR (w13_within_l31308 k N M N' M' (.rv bx) hd (.ptr oc 0 0) (.sl os 0 0 d.blocks.length) (.sl ol vl 0 list.length) i (.rv sv) j h) := by
  intro m
  induction m with
  | zero =>
    intro j N' seen list vl h hj hN hx hh hi
    obtain ⟨N', rfl⟩ : ∃ q, N' = q + 1 := ⟨N' - 1, by omega⟩
    have hb := hi.bound
    have hil := (List.getElem?_eq_some_iff.1 hx).1
    rw [w13_within_l31308_eq, hsv.len, bsp_not (decide_eq_false (by omega)), w13_within_p979_eq, wri_succ (by omega)]
    exact outer seen list vl h hh (hi.next hx hq (by omega))
  | succ m ih =>
    intro j N' seen list vl h hj hN hx hh hi
    obtain ⟨N', rfl⟩ : ∃ q, N' = q + 1 := ⟨N' - 1, by omega⟩
    have hjl : j < q.succs.length := by omega
    have hss := hsv.short
    have hbd := hi.bound
    obtain ⟨n, hn, hnl⟩ := hok x q hq q.succs[j] (List.getElem_mem hjl)
    have hsj : q.succs[j]? = some (n : Int) := by rw [List.getElem?_eq_getElem hjl, hn]
    obtain ⟨w, hw⟩ : ∃ w, seen[n]? = some w := ⟨seen[n]'(by rw [hi.len]; exact hnl), List.getElem?_eq_getElem _⟩
    rw [w13_within_l31308_eq, hsv.len, bsp_of (decide_eq_true (by omega)), hsv.at hjl, hn]
    by_cases e : n = hd
    · rw [bsp_of (by simp [e])]
      exact ⟨h, rfl⟩
    · have skip : ((n : Int) ∈ body → seen[n]? = some true) → TR (w13_within_p1001875 k N M N' M' (.rv bx) hd (.ptr oc 0 0) (.sl os 0 0 d.blocks.length) (.sl ol vl 0 list.length) i (.rv sv) j false h) := by
        intro hs
        rw [w13_within_p1001875_eq, bsp_not rfl, w13_within_p125235_eq, wri_succ (by omega)]
        exact ih (j + 1) N' seen list vl h (by omega) (by omega) hx hh (hi.skip hx hq hsj e hs)
      rw [bsp_not (by rw [beq_eq_false_iff_ne]; omega), hsv.at hjl, hn, callP_ret (by simp [toRV, depthA]) (In_spec hbx (n : Int)) (.inr rfl), asBool_b]
      by_cases hin : (n : Int) ∈ body
      · rw [bsp_of (decide_eq_true hin), hsv.at hjl, hn, sl_at hnl, ldb_at (b := w) hh.s (by simp [hw])]
        cases w with
        | true => exact skip fun _ => hw
        | false =>
          rw [show (!false) = true from rfl, w13_within_p1001875_eq, bsp_of rfl, hsv.at hjl, hn, sl_at hnl, stv_at hh.s (by simp; rw [hi.len]; exact hnl) rfl rfl, hsv.at hjl, hn, bsl_one rfl]
          rw [apn_one (get_set_ne hh.sl hh.l) (by simp) (by omega) rfl, w13_within_p125235_eq, wri_succ (by omega)]
          have := ih (j + 1) N' (seen.set n true) (list ++ [n]) (vl + 1) _ (by omega) (by omega) (by rw [List.getElem?_append_left (List.getElem?_eq_some_iff.1 hx).1]; exact hx) (hh.push n) (hi.push hx hq hsj e hnl hw)
          rw [List.length_append] at this
          exact this
      · rw [bsp_not (decide_eq_false hin)]
        exact skip fun h => absurd h hin
theorem within_outer (hcd : IsCd [p, r, v, b] d) (hf : formOk d.blocks = true) (hbx : IsInts bx body) (hk : 1000000000 < k') {S : Nat → Prop} (hS : ∀ z, S z → (z : Int) ∈ body) (hw : Wp d.blocks S hd s) (M : Nat) :
    ∀ (m i N : Nat) (seen : List Bool) (list : List Nat) (vl : Nat) (h : Hp), i + m = 1 + d.blocks.length → m < N → RH h oc os ol vl [.rv p, .rv r, .rv v, .rv b] seen list → WI d.blocks body hd s seen list i 0 →
      TR (w13_within_l244 k' N M (.rv bx) hd (.ptr oc 0 0) (.sl os 0 0 d.blocks.length) (.sl ol vl 0 list.length) i h) := by
  have hsh : d.blocks.length ≤ 4096 := by
    simp only [formOk, Bool.and_eq_true, decide_eq_true_eq] at hf
    exact hf.1.2
  intro m
  induction m with
  | zero =>
    intro i N seen list vl h hi hN hh hb
    exact absurd (hb.never hf (by have := hb.bound; omega) hS hw hb.start) id
  | succ m ih =>
    intro i N seen list vl h hi hN hh hbi
    by_cases hl : list.length ≤ i
    · exact absurd (hbi.never hf hl hS hw hbi.start) id
    · obtain ⟨N, rfl⟩ : ∃ q, N = q + 1 := ⟨N - 1, by omega⟩
      have hil : i < list.length := by omega
      have hd' := hcd
      obtain ⟨p, r, v, b, e, _, _, _, hb⟩ := hcd
      cases e
      have hxl : list[i] < d.blocks.length := hbi.lt _ (List.getElem_mem hil)
      obtain ⟨a, q, t, u, rest, k1, k2, k3, k4, hx⟩ := blk_at (R := ARes × Hp) hb hxl
      have hs3 := k3.short
      rw [w13_within_l244_eq, sl_len, bsp_of (decide_eq_true (by omega)), pad_ptr, ldv_at hh.c rfl, sl_at hil, ldi_at (n := (list[i] : Nat)) hh.l (by simp [hil]), hx, pad_rop4, ldv_rop]
      exact within_inner hd' hsh (formOk_succs hf) hbx k' N M _ i list[i] (List.getElem?_eq_getElem hxl) k3 (fun seen' list' vl' h' hh' hb' => ih (i + 1) N seen' list' vl' h' (by omega) (by omega) hh' hb')
        d.blocks[list[i]].succs.length 0 k' seen list vl h (by omega) (by omega) (List.getElem?_eq_getElem hil) hh hbi
end
theorem within_spec {cs : List RV} {d : Cd} {bx : RV} {body : List Int} {hd s : Nat} (hcd : IsCd cs d) (hf : formOk d.blocks = true) (hbx : IsInts bx body) {S : Nat → Prop} (hS : ∀ z, S z → (z : Int) ∈ body) (hw : Wp d.blocks S hd s) (hs : s < d.blocks.length) :
    F_w13_within [.agg cs, bx, I (s : Nat), I (hd : Nat)] = some (.ret (.bool true)) := by
  have hsh : d.blocks.length ≤ 4096 := by
    simp only [formOk, Bool.and_eq_true, decide_eq_true_eq] at hf
    exact hf.1.2
  have hcd' := hcd
  obtain ⟨p, r, v, b, rfl, _, _, _, hb⟩ := hcd
  have hz : ∀ n : Nat, zrep [ab false] n = (List.replicate n false).map ab := by
    intro n; simp [zrep]
  have rh : RH ([⟨0, 1, [.rv p, .rv r, .rv v, .rv b]⟩, ⟨0, 1, (List.replicate d.blocks.length false).map ab⟩, ⟨0, 1, [an' s]⟩] : Hp) 0 1 2 0 [.rv p, .rv r, .rv v, .rv b] (List.replicate d.blocks.length false) [s] :=
    ⟨rfl, rfl, rfl, by omega, by omega, by omega⟩
  have wi : WI d.blocks body hd s (List.replicate d.blocks.length false) [s] 0 0 := by
    refine ⟨by simp, by simp, fun x hx => ?_, fun x hx => ?_, by simp, fun t x b ht => by omega, fun x b _ _ q hq => by omega⟩
    · rw [List.getElem?_replicate] at hx
      split at hx
      · cases hx
      · cases hx
    · have : x = s := by simpa using hx
      omega
  obtain ⟨h', e⟩ := within_outer (oc := 0) (os := 1) (ol := 2) (k' := big) hcd' hf hbx (by rw [big_val]; omega) hS hw 3 (1 + d.blocks.length) 0 big _ [s] 0 _ (by omega) (by rw [big_val]; omega) rh wi
  unfold F_w13_within
  rw [List.map_cons, List.map_cons, List.map_cons, List.map_cons, List.map_nil, w13_within_eq, box_agg, pad_ptr, ldv_at (get_new _) (x := .rv b) rfl, hb.len, mks_one (by omega) (by omega), bsl_one rfl, hz]
  refine (congrArg pureR e).trans ?_
  simp [pureR, toRV, depthA]
end Go.Proofs.Ytknphnmhjmejaaa
/-  What the law FlowLoops tells: true, whatever the list of codes. No conditions. -/
namespace Go.Proofs.Ytknphnmhjmejaaa
set_option linter.unusedVariables false
theorem Deep.det {outs : Nat → Int} {i d d' : Nat} (h : Deep outs i d) (k : Deep outs i d') : d = d' := by
  induction h generalizing d' with
  | top h =>
    cases k with
    | top => rfl
    | up h' r => rw [h] at h'; omega
  | @up i k0 d h r ih =>
    cases k with
    | top h' => rw [h] at h'; omega
    | @up _ k1 _ h' r' =>
      rw [h] at h'
      have : k0 = k1 := by omega
      subst this
      rw [ih r']
theorem Deep.pos {outs : Nat → Int} {i d : Nat} (h : Deep outs i d) : 1 ≤ d := by
  cases h <;> omega
theorem lp_reads {x : RV} {lps : List Lp} (k : IsRows 4 IsLp x lps) {i : Nat} {lp : Lp} (hi : lps[i]? = some lp) : ∃ bv, IsInts bv lp.body ∧ ∀ (h : Hp),
    (∀ K : Int → Option (ARes × Hp), (ixa 4 (.rv x) i fun q => pad q 0 fun q => ldi .i64 h q K) = K lp.head) ∧ (∀ K : Int → Option (ARes × Hp), (ixa 4 (.rv x) i fun q => pad q 1 fun q => ldi .i64 h q K) = K lp.outer) ∧
    (∀ K : Int → Option (ARes × Hp), (ixa 4 (.rv x) i fun q => pad q 2 fun q => ldi .i64 h q K) = K lp.depth) ∧ (∀ K : AV → Option (ARes × Hp), (ixa 4 (.rv x) i fun q => pad q 3 fun q => ldv h q K) = K (.rv bv)) := by
  obtain ⟨hil, e⟩ := List.getElem?_eq_some_iff.1 hi
  obtain ⟨c, rest, _, ⟨bv, rfl, hb⟩, hx⟩ := k.at hil
  rw [e] at hb hx
  refine ⟨bv, hb, fun h => ⟨fun K => ?_, fun K => ?_, fun K => ?_, fun K => ?_⟩⟩
  · rw [hx]; simp [pad, ldi, ldv, cellAt, asInt0]
  · rw [hx]; simp [pad, ldi, ldv, cellAt, asInt0]
  · rw [hx]; simp [pad, ldi, ldv, cellAt, asInt0]
  · rw [hx]; simp [pad, ldv, cellAt]
theorem wri_pred {t : Nat} (h0 : 0 < t) (h : t < 1000000000) : wri .i64 ((t : Int) - 1) = ((t - 1 : Nat) : Int) := by
  rw [wri_small (by omega) (by omega)]
  omega
section
variable {X : RV} {ds : List Cd} {x4 x6 : RV} {P : List Nat} {i : Nat} {par par1 : Par} {l : List LR} {dep : Nat → Nat}
theorem FL_body (hX : IsRows 4 IsCd X ds) (hi : i < ds.length) (hf : formOk ds[i].blocks = true) (hq : FlowOk ds[i].blocks) (hP : IsPost ds[i].blocks P) (kd1 : Done (grOf hf hq hP) par1) (kd : Done (grOf hf hq hP) par) (hx6 : IsInts x6 (dvs par1 ds[i].blocks.length)) (up : Upto ds[i].blocks par ds[i].blocks.length l)
    (hx4 : IsRows 4 IsLp x4 (lpsOf l dep)) {k : Nat} {lr : LR} (hlr : l[k]? = some lr) (kk N M N1 M1 M3 : Nat) (outer : ∀ h, TR (w13_FlowLoops_p3448723 kk N M N1 M1 (.rv X) i (.rv x4) (.rv x6) k h)) :
    ∀ (m t N3 : Nat) (h : Hp), t + m = lr.body.length → m < N3 → TR (w13_FlowLoops_l27589780 kk N M N1 M1 N3 M3 (.rv X) i (.rv x4) (.rv x6) k t h) := by
  have hl : 0 < ds[i].blocks.length ∧ ds[i].blocks.length ≤ 4096 := by
    simp only [formOk, Bool.and_eq_true, decide_eq_true_eq] at hf
    exact hf.1
  have g := grP hf hq hP
  have hple : P.length ≤ ds[i].blocks.length := nodup_le _ P g.nd g.lt
  obtain ⟨bv, hbv, rd⟩ := lp_reads hx4 (lpsOf_at (dep := dep) hlr)
  simp only at hbv rd
  have hm := List.mem_of_getElem? hlr
  obtain ⟨hbo, hhl, hh⟩ := up.ok lr hm
  have hsh := hbv.short
  obtain ⟨p, r, v, b, rest, hcd, hb, hix⟩ := cd_read hX hi
  intro m
  induction m with
  | zero =>
    intro t N3 h ht hN
    obtain ⟨N3, rfl⟩ : ∃ q, N3 = q + 1 := ⟨N3 - 1, by omega⟩
    obtain ⟨r0, r1, r2, r3⟩ := rd h
    rw [w13_FlowLoops_l27589780_eq, r3, hbv.len, bsp_not (decide_eq_false (by omega))]
    exact outer h
  | succ m ih =>
    intro t N3 h ht hN
    obtain ⟨N3, rfl⟩ : ∃ q, N3 = q + 1 := ⟨N3 - 1, by omega⟩
    obtain ⟨r0, r1, r2, r3⟩ := rd h
    have htl : t < lr.body.length := by omega
    obtain ⟨z, hz, hzP, hzn, hanc⟩ := up.body_lt kd hm (List.getElem_mem htl)
    have hanc1 : Anc par1 z lr.head := (kd1.exact (b := z) (d := lr.head) hzP).2 ((kd.exact (b := z) (d := lr.head) hzP).1 hanc)
    have hD : F_r13_Dominates [x6, I (lr.head : Nat), I (z : Nat)] = some (.ret (.bool true)) := by
      rw [Dominates_spec kd1 g hl.2 hple hx6 lr.head hzP]
      simp [hanc1]
    have hzb : InB ds[i].blocks par lr.head z := by
      obtain ⟨z', e, hz'⟩ := (hbo.mem _).1 (List.getElem_mem htl)
      have : z = z' := by omega
      rw [this]; exact hz'
    have hW : F_w13_within [.agg [p, r, v, b], bv, I (z : Nat), I (lr.head : Nat)] = some (.ret (.bool true)) :=
      within_spec hcd hf hbv (S := InB ds[i].blocks par lr.head) (fun y hy => (hbo.mem _).2 ⟨y, rfl, hy⟩) (body_ways hf hq hP kd hhl hh hzb) hzn
    have next : TR (w13_FlowLoops_p882872979 kk N M N1 M1 N3 M3 (.rv X) i (.rv x4) (.rv x6) k t false h) := by
      rw [w13_FlowLoops_p882872979_eq, bsp_not rfl, wri_succ (by omega)]
      exact ih (t + 1) N3 h (by omega) (by omega)
    rw [w13_FlowLoops_l27589780_eq, r3, hbv.len, bsp_of (decide_eq_true (by omega)), r3, hbv.at htl, hz, r0, callP_ret (by simp [toRV, depthA]) hD (.inr rfl), asBool_b, bsp_not (by rfl)]
    by_cases h0 : 0 < t
    · have htl1 : t - 1 < lr.body.length := by omega
      have hlt : lr.body[t - 1] < (z : Int) := by
        have := List.pairwise_iff_getElem.1 hbo.sorted (t - 1) t htl1 htl (by omega)
        omega
      rw [bsp_of (decide_eq_true (by omega)), r3, wri_pred h0 (by omega), hbv.at htl1, bsp_not (decide_eq_false (by omega)), hix, ldg4, r3, r0, callP_ret (by simp [toRV, depthA]) hW (.inr rfl), asBool_b]
      exact next
    · rw [bsp_not (decide_eq_false (by omega)), hix, ldg4, r3, r0, callP_ret (by simp [toRV, depthA]) hW (.inr rfl), asBool_b]
      exact next
theorem FL_ks (hX : IsRows 4 IsCd X ds) (hi : i < ds.length) (hf : formOk ds[i].blocks = true) (hq : FlowOk ds[i].blocks) (hP : IsPost ds[i].blocks P) (kd1 : Done (grOf hf hq hP) par1) (kd : Done (grOf hf hq hP) par) (hx6 : IsInts x6 (dvs par1 ds[i].blocks.length)) (up : Upto ds[i].blocks par ds[i].blocks.length l)
    (hx4 : IsRows 4 IsLp x4 (lpsOf l dep)) (hdp : ∀ i, i < l.length → Deep (ofin l) i (dep i)) (hdb : ∀ i, i < l.length → dep i < 1000000000) (kk N M M1 : Nat) (hk : 1000000000 < kk) (outer : ∀ h, TR (w13_FlowLoops_p211 kk N M (.rv X) i h)) :
    ∀ (m k N1 : Nat) (h : Hp), k + m = l.length → m < N1 → TR (w13_FlowLoops_l107772 kk N M N1 M1 (.rv X) i (.rv x4) (.rv x6) k h) := by
  have hl : 0 < ds[i].blocks.length ∧ ds[i].blocks.length ≤ 4096 := by
    simp only [formOk, Bool.and_eq_true, decide_eq_true_eq] at hf
    exact hf.1
  have hll := up.len
  obtain ⟨p, r, v, b, rest, hcd, hb, hix⟩ := cd_read hX hi
  intro m
  induction m with
  | zero =>
    intro k N1 h hk' hN
    obtain ⟨N1, rfl⟩ : ∃ q, N1 = q + 1 := ⟨N1 - 1, by omega⟩
    rw [w13_FlowLoops_l107772_eq, hx4.len, lpsOf_len, bsp_not (decide_eq_false (by omega))]
    exact outer h
  | succ m ih =>
    intro k N1 h hk' hN
    obtain ⟨N1, rfl⟩ : ∃ q, N1 = q + 1 := ⟨N1 - 1, by omega⟩
    have hkl : k < l.length := by omega
    have hlr := List.getElem?_eq_getElem hkl
    obtain ⟨bv, hbv, rd⟩ := lp_reads hx4 (lpsOf_at (dep := dep) hlr)
    simp only at hbv rd
    obtain ⟨r0, r1, r2, r3⟩ := rd h
    have hm := List.getElem_mem hkl
    obtain ⟨hbo, hhl, hh⟩ := up.ok _ hm
    have hD := hdp k hkl
    have hpos := hD.pos
    have hof := ofold_ok l k l.length
    have hlt : ofin l k < (l.length : Int) := by
      rcases hof with h | ⟨j, _, _, h, hj, _⟩
      · show ofold l k l.length < _
        omega
      · show ofold l k l.length < _
        omega
    have hB : F_w13_blocks [bv, I ((ds[i].blocks.length : Nat) : Int)] = some (.ret (.bool true)) := blocks_spec hbv _ fun y hy => by
      obtain ⟨z, rfl, _, hz, _⟩ := up.body_lt kd hm hy
      omega
    have hin : (l[k].head : Int) ∈ l[k].body := (hbo.mem _).2 ⟨_, rfl, .head⟩
    have hI : F_r0_In [bv, I (l[k].head : Nat)] = some (.ret (.bool true)) := by rw [In_spec hbv]; simp [hin]
    have tail : ∀ h, TR (w13_FlowLoops_p3448723 kk N M N1 M1 (.rv X) i (.rv x4) (.rv x6) k h) := by
      intro h
      obtain ⟨r0, r1, r2, r3⟩ := rd h
      have next : TR (w13_FlowLoops_p6897447 kk N M N1 M1 (.rv X) i (.rv x4) (.rv x6) k false h) := by
        rw [w13_FlowLoops_p6897447_eq, bsp_not rfl, w13_FlowLoops_p431091_eq, wri_succ (by omega)]
        exact ih (k + 1) N1 h (by omega) (by omega)
      rcases hof with ho | ⟨j, xa, y, ho, hj, hxa, hy, _, hmem⟩
      · have ho : ofin l k = -1 := ho
        have hd1 : dep k = 1 := hD.det (.top ho)
        rw [w13_FlowLoops_p3448723_eq, r1, ho, bsp_not (by rfl), r1, ho, bsp_of (by rfl), r2, hd1]
        exact next
      · have ho : ofin l k = (j : Nat) := ho
        have hd1 : dep k = dep j + 1 := hD.det (.up ho (hdp j hj))
        rw [hlr] at hxa
        cases hxa
        obtain ⟨bw, hbw, rdj⟩ := lp_reads hx4 (lpsOf_at (dep := dep) hy)
        simp only at hbw rdj
        obtain ⟨s0, s1, s2, s3⟩ := rdj h
        have hJ : F_r0_In [bw, I (l[k].head : Nat)] = some (.ret (.bool true)) := by rw [In_spec hbw]; simp [hmem]
        have hjb := hdb j hj
        have e1 : (wri .i64 ((dep j : Int) + 1) != (dep k : Int)) = false := by rw [wri_succ (by omega), hd1, bne_eq_false_iff_eq]
        rw [w13_FlowLoops_p3448723_eq, r1, ho, bsp_of (decide_eq_true (by omega)), r1, ho, s2, r2, bsp_not e1, r1, ho, s3, r0, callP_ret (by simp [toRV, depthA]) hJ (.inr rfl), asBool_b, bsp_not (by rfl), r1, ho, bsp_not (decide_eq_false (by omega))]
        exact next
    have inner : TR (w13_FlowLoops_p3448721 kk N M N1 M1 (.rv X) i (.rv x4) (.rv x6) k false h) := by
      rw [w13_FlowLoops_p3448721_eq, bsp_not rfl, show ((0 : Int)) = ((0 : Nat) : Int) from rfl]
      have := hbv.short
      exact FL_body hX hi hf hq hP kd1 kd hx6 up hx4 hlr kk N M N1 M1 _ tail l[k].body.length 0 kk h (by omega) (by omega)
    have e2 : decide ((dep k : Int) < 1) = false := decide_eq_false (by omega)
    rw [w13_FlowLoops_l107772_eq, hx4.len, lpsOf_len, bsp_of (decide_eq_true (by omega)), hx6.len, dvs_len, hix, pad_rop3, ldv_rop, hb.len, bsp_not (by simp), r1, hx4.len, lpsOf_len, bsp_not (decide_eq_false (by omega)), r3, hx6.len, dvs_len, callP_ret (by simp [toRV, depthA]) hB (.inr rfl), asBool_b, bsp_not (by rfl), r3, r0, callP_ret (by simp [toRV, depthA]) hI (.inr rfl), asBool_b, bsp_not (by rfl)]
    by_cases h0 : 0 < k
    · have hk1 : k - 1 < l.length := by omega
      obtain ⟨bu, hbu, rdp⟩ := lp_reads hx4 (lpsOf_at (dep := dep) (List.getElem?_eq_getElem hk1))
      simp only at hbu rdp
      obtain ⟨u0, u1, u2, u3⟩ := rdp h
      have hup := List.pairwise_iff_getElem.1 up.up (k - 1) k hk1 hkl (by omega)
      rw [bsp_of (decide_eq_true (by omega)), r0, wri_pred h0 (by omega), u0, bsp_not (decide_eq_false (by omega)), r2, e2]
      exact inner
    · rw [bsp_not (decide_eq_false (by omega)), r2, e2]
      exact inner
theorem FL_outer (hX : IsRows 4 IsCd X ds) (k M : Nat) (hk : 1000000000 < k) : ∀ (m i N : Nat) (h : Hp), i + m = ds.length → m < N → TR (w13_FlowLoops_l52 k N M (.rv X) i h) := by
  have hs := hX.short
  have fin : ∀ i N h, TR (w13_FlowLoops_p209 k N M (.rv X) i false h) := by
    intro i N h
    rw [w13_FlowLoops_p209_eq, bsp_not rfl, w13_FlowLoops_p7_eq, callP_ret (by rfl) wakes_spec (.inr rfl), asBool_b]
    exact ⟨h, rfl⟩
  intro m
  induction m with
  | zero =>
    intro i N h hi hN
    obtain ⟨N, rfl⟩ : ∃ q, N = q + 1 := ⟨N - 1, by omega⟩
    rw [w13_FlowLoops_l52_eq, hX.len, bsp_not (decide_eq_false (by omega))]
    exact fin i N h
  | succ m ih =>
    intro i N h hi hN
    obtain ⟨N, rfl⟩ : ∃ q, N = q + 1 := ⟨N - 1, by omega⟩
    have hil : i < ds.length := by omega
    rw [w13_FlowLoops_l52_eq, hX.len, bsp_of (decide_eq_true (by omega))]
    by_cases h10 : i < 10
    · rw [decide_eq_true (by omega : (i : Int) < 10)]
      obtain ⟨p, r, v, b, rest, hcd, hb, hix⟩ := cd_read hX hil
      have next : ∀ h, TR (w13_FlowLoops_p211 k N M (.rv X) i h) := by
        intro h
        rw [w13_FlowLoops_p211_eq, wri_succ (by omega)]
        exact ih (i + 1) N h (by omega) (by omega)
      have hone := hcd
      obtain ⟨p, r, v, b, e, c1, c2, c3, c4⟩ := hone
      cases e
      have e1 : ∀ K : AV → Hp → Option (ARes × Hp), bsl 4 1 [.rv .nils, .rv .nils, .rv .nils, .rv .nils] [(some (0, 4), .agg [.rv p, .rv r, .rv v, .rv b])] h K = K (.sl h.length 0 0 1) (h ++ [⟨0, 4, [.rv p, .rv r, .rv v, .rv b]⟩]) := fun K => rfl
      have e2 : ∀ (y : AV) (K : AV → Option (ARes × Hp)), vcells y = some [y] → bld [.rv .nils, .rv .nils] [(some (0, 1), y)] K = K (.agg [y, .rv .nils]) := by
        intro y K hy
        simp [bld, fillA, hy, setAt]
      have hu : IsUt [.ros [p, r, v, b] 1, .nils] ⟨[ds[i]], 0⟩ := ⟨_, _, rfl, .mk (n := 4) (Q := IsCd) (l := [ds[i]]) (.cons (c := [p, r, v, b]) rfl hcd .nil) (by simp), .inl ⟨rfl, rfl⟩⟩
      obtain ⟨w, hw⟩ := Weight_spec hu 2000
      have hr : [AV.agg [.sl h.length 0 0 1, .rv .nils], .rv (.int .i64 2000)].mapM (toRV (h ++ [⟨0, 4, [.rv p, .rv r, .rv v, .rv b]⟩]) depthA) = some [.agg [.ros [p, r, v, b] 1, .nils], I 2000] := by
        simp [depthA, toRV]
      rw [w13_FlowLoops_p209_eq, bsp_of rfl, hix, ldg4, e1, e2 _ _ rfl, callP_ret hr hw (.inr rfl), asInt_i]
      by_cases hbig : w > 2000
      · rw [bsp_of (decide_eq_true hbig)]
        exact ⟨_, rfl⟩
      · obtain ⟨cs', hc, hcd'⟩ := CopyCode_spec hcd
        have h4 : ∀ (x : RV) (e : Int) (K : AV → Option (ARes × Hp)), xtr (.rv (.tuple [x, I e])) 0 K = K (.rv x) := fun x e K => rfl
        have h5 : ∀ (x : RV) (e : Int) (K : AV → Option (ARes × Hp)), xtr (.rv (.tuple [x, I e])) 1 K = K (.rv (I e)) := fun x e K => rfl
        have skip : ∀ (x y : AV) h, TR (w13_FlowLoops_p13469 k N M (.rv X) i x y true h) := by
          intro x y h
          rw [w13_FlowLoops_p13469_eq, bsp_of rfl]
          exact next h
        have nums := fun e : Int => num_spec e
        by_cases hf : formOk ds[i].blocks = true
        · by_cases hq : FlowOk ds[i].blocks
          · have hl : 0 < ds[i].blocks.length ∧ ds[i].blocks.length ≤ 4096 := by
              simp only [formOk, Bool.and_eq_true, decide_eq_true_eq] at hf
              exact hf.1
            obtain ⟨P, hP⟩ := IsPost.ex (formOk_succs hf) hl.1
            have g := grP hf hq hP
            have hple : P.length ≤ ds[i].blocks.length := nodup_le _ P g.nd g.lt
            obtain ⟨par, l, dep, x4, kd, up, hdp, eL, hx4⟩ := flowLoops_spec hcd' hf hq hP
            obtain ⟨par1, x6, kd1, eD, hx6⟩ := flowDoms_spec hcd' hf hq hP
            have hdb : ∀ i, i < l.length → dep i < 1000000000 := fun t ht => by
              obtain ⟨d', h1, h2⟩ := deep_ex kd up P.length t _ (List.getElem?_eq_getElem ht) (by omega)
              have := (hdp t ht).det h1
              omega
            rw [bsp_not (decide_eq_false hbig), hix, ldg4, callP_ret (by simp [toRV, depthA]) hc (.inl rfl), callP_ret (by simp [toRV, depthA]) eL (.inl rfl), h4, h5, asInt_i, hix, ldg4, callP_ret (by simp [toRV, depthA]) hc (.inl rfl), callP_ret (by simp [toRV, depthA]) eD (.inl rfl), h4, h5, asInt_i, callP_ret (by simp [toRV, depthA]) (nums 0) (.inr rfl), asInt_i, bsp_not (by rfl), callP_ret (by simp [toRV, depthA]) (nums 0) (.inr rfl), asInt_i, bsp_not (by rfl),
              hix, ldg4, callP_ret (by simp [toRV, depthA]) ((Flow_spec hcd).2.1 hf hq) (.inr rfl), asInt_i, w13_FlowLoops_p13469_eq, bsp_not (by rfl), hix, ldg4, callP_ret (by simp [toRV, depthA]) (rises_spec hcd kd1 g (post_num0 hf hq hP) hl.2 hple hx6) (.inr rfl), asBool_b, bsp_not (by rfl), show ((0 : Int)) = ((0 : Nat) : Int) from rfl]
            have hll := up.len
            exact FL_ks hX hil hf hq hP kd1 kd hx6 up hx4 hdp hdb k N M _ hk next l.length 0 k _ (by omega) (by omega)
          · rw [bsp_not (decide_eq_false hbig), hix, ldg4, callP_ret (by simp [toRV, depthA]) hc (.inl rfl), callP_ret (by simp [toRV, depthA]) ((flowLoops_bad hcd').2 hf hq) (.inl rfl), h4, h5, asInt_i, hix, ldg4, callP_ret (by simp [toRV, depthA]) hc (.inl rfl), callP_ret (by simp [toRV, depthA]) ((flowDoms_bad hcd').2 hf hq) (.inl rfl), h4, h5, asInt_i, callP_ret (by simp [toRV, depthA]) (nums 131) (.inr rfl), asInt_i, bsp_of (by rfl)]
            exact skip _ _ _
        · rw [bsp_not (decide_eq_false hbig), hix, ldg4, callP_ret (by simp [toRV, depthA]) hc (.inl rfl), callP_ret (by simp [toRV, depthA]) ((flowLoops_bad hcd').1 (by simpa using hf)) (.inl rfl), h4, h5, asInt_i, hix, ldg4, callP_ret (by simp [toRV, depthA]) hc (.inl rfl), callP_ret (by simp [toRV, depthA]) ((flowDoms_bad hcd').1 (by simpa using hf)) (.inl rfl), h4, h5, asInt_i, callP_ret (by simp [toRV, depthA]) (nums 130) (.inr rfl), asInt_i, bsp_of (by rfl)]
          exact skip _ _ _
    · rw [decide_eq_false (by omega : ¬ (i : Int) < 10)]
      exact fin i N h
end
theorem FlowLoops_spec {X : RV} {ds : List Cd} (hX : IsRows 4 IsCd X ds) : F_w13_FlowLoops [X] = some (.ret (.bool true)) := by
  have hs := hX.short
  obtain ⟨h, e⟩ := FL_outer hX big ([] : Hp).length (by rw [big_val]; omega) ds.length 0 big [] (by omega) (by rw [big_val]; omega)
  unfold F_w13_FlowLoops
  rw [List.map_cons, List.map_nil, w13_FlowLoops_eq, show ((0 : Int)) = ((0 : Nat) : Int) from rfl, e]
  simp [pureR, toRV, depthA]
end Go.Proofs.Ytknphnmhjmejaaa
/-  The rows' frame: what is read of the arguments as values held still; a law's row out of its function's answer. No conditions. -/
namespace Go.Proofs.Ytknphnmhjmejaaa
set_option linter.unusedVariables false
open Go.ChangeShapes Go.WideShapes Go.ChangeAt Go.RowKit Go.Deep
/-! ### The bound -/
theorem bulk_one {H : Type} (d : DataW H) : 1 ≤ Rows.uptoBulk d := by
  cases d with
  | lit l => cases l <;> simp [Rows.uptoBulk]
  | nil => simp [Rows.uptoBulk]
  | ptr d => simp [Rows.uptoBulk]
  | slice elems spare => simp [Rows.uptoBulk]
  | agg parts => simp [Rows.uptoBulk]
  | iface t d => simp [Rows.uptoBulk]
  | map entries => simp [Rows.uptoBulk]
  | held h => simp [Rows.uptoBulk]
theorem bulk_part {H : Type} {d : DataW H} {l : List (DataW H)} (h : d ∈ l) : Rows.uptoBulk d ≤ Rows.uptoBulkAll l := by
  induction l with
  | nil => cases h
  | cons x r ih =>
    simp only [Rows.uptoBulkAll]
    cases List.mem_cons.1 h with
    | inl e => subst e; omega
    | inr e => have := ih e; omega
theorem bulk_len {H : Type} (l : List (DataW H)) : l.length ≤ Rows.uptoBulkAll l := by
  induction l with
  | nil => simp [Rows.uptoBulkAll]
  | cons x r ih => have := bulk_one x; simp only [Rows.uptoBulkAll, List.length_cons]; omega
theorem bulk_slice {H : Type} (elems spare : List (DataW H)) : Rows.uptoBulkAll elems ≤ Rows.uptoBulk (.slice elems spare) := by
  simp only [Rows.uptoBulk]; omega
theorem bulk_agg {H : Type} (ps : List (DataW H)) : Rows.uptoBulkAll ps ≤ Rows.uptoBulk (.agg ps) := by
  simp only [Rows.uptoBulk]; omega
/-! ### Reading -/
section
variable {H : Type} {enc : TypeId × Value → H} {P : Program} {w : World}
/-- All that is there, held still. -/
abbrev MW (w : World) : Mm := fun a => w.cell? a
abbrev trodW (enc : TypeId × Value → H) (P : Program) (w : World) (n : Nat) (t : TypeId) (cs : List Value) (x : DataW H × List MemPlace) : Prop := DataW.trod enc P w 0 (fun _ => true) true n t cs = some x
/-- A type's row of cells is read as something. -/
def Reads (enc : TypeId × Value → H) (P : Program) (w : World) (t : TypeId) {α : Type} (Q : List RV → α → Prop) : Prop :=
  ∀ (n : Nat) (cs : List Value) (x : DataW H × List MemPlace), trodW enc P w n t cs x → Rows.uptoBulk x.1 ≤ 1048576 → ∃ (c : List RV) (a : α), c.length = cs.length ∧ Q c a ∧ VRs (MW w) c (fun i => cs[i]?)
def One {α : Type} (Q : RV → α → Prop) : List RV → α → Prop := fun c a => ∃ x, c = [x] ∧ Q x a
theorem VRs_one {M : Mm} {x : RV} {v : Value} (h : VR M x v) : VRs M [x] (fun i => [v][i]?) := by
  simp only [VRs, and_true]
  exact ⟨v, rfl, h⟩
theorem reads_int {t : TypeId} {k : IntKind} (ht : P.underlying t = some (.int k)) : Reads enc P w t (One fun (x : RV) (n : Int) => x = .int k n) := by
  intro n cs x hx hb
  obtain ⟨m, rfl, rfl, _⟩ := DataW.trod_int ht hx
  exact ⟨[.int k m], m, rfl, ⟨_, rfl, rfl⟩, VRs_one (by simp [VR])⟩
theorem VRs_append {M : Mm} {a b : List RV} {xs ys : List Value} (ha : a.length = xs.length) (h1 : VRs M a (fun i => xs[i]?)) (h2 : VRs M b (fun i => ys[i]?)) : VRs M (a ++ b) (fun i => (xs ++ ys)[i]?) := by
  refine VRs_iff.2 fun i x hx => ?_
  by_cases hi : i < a.length
  · rw [List.getElem?_append_left hi] at hx
    obtain ⟨v, hv, hV⟩ := VRs_iff.1 h1 _ _ hx
    exact ⟨v, by rw [List.getElem?_append_left (by omega)]; exact hv, hV⟩
  · rw [List.getElem?_append_right (by omega)] at hx
    obtain ⟨v, hv, hV⟩ := VRs_iff.1 h2 _ _ hx
    exact ⟨v, by rw [List.getElem?_append_right (by omega), ← ha]; exact hv, hV⟩
theorem rows_of {α : Type} {n : Nat} {Q : List RV → α → Prop} {a : Addr} : ∀ (len k : Nat), (∀ i, i < len → ∃ (c : List RV) (x : α), c.length = n ∧ Q c x ∧ VRs (MW w) c (fun j => w.cell? (a.add ((k + i) * n + j)))) →
    ∃ (cs : List RV) (xs : List α), cs.length = len * n ∧ xs.length = len ∧ Rows n Q cs xs ∧ VRs (MW w) cs (fun j => w.cell? (a.add (k * n + j)))
  | 0, k, _ => ⟨[], [], by simp, rfl, .nil, by simp [VRs]⟩
  | len + 1, k, h => by
    obtain ⟨c, x, hc, hq, hv⟩ := h 0 (by omega)
    obtain ⟨cs, xs, hcs, hxs, hr, hvs⟩ := rows_of len (k + 1) (fun i hi => by
      have := h (i + 1) (by omega)
      rwa [show k + (i + 1) = k + 1 + i by omega] at this)
    refine ⟨c ++ cs, x :: xs, by rw [List.length_append, hc, hcs, Nat.succ_mul]; omega, by simp [hxs], .cons hc hq hr, VRs_iff.2 fun i y hy => ?_⟩
    by_cases hi : i < c.length
    · rw [List.getElem?_append_left hi] at hy
      obtain ⟨v, hv', hV⟩ := VRs_iff.1 hv _ _ hy
      exact ⟨v, by simpa using hv', hV⟩
    · rw [List.getElem?_append_right (by omega)] at hy
      obtain ⟨v, hv', hV⟩ := VRs_iff.1 hvs _ _ hy
      refine ⟨v, ?_, hV⟩
      rw [hc] at hv'
      rw [← hv']
      congr 2
      rw [Nat.succ_mul]
      omega
theorem reads_rows {t e : TypeId} {n : Nat} (ht : P.underlying t = some (.slice e)) (hn : P.cellsOf e = n) {α : Type} {Q : List RV → α → Prop} (hQ : Reads enc P w e Q) : Reads enc P w t (One (IsRows n Q)) := by
  intro m cs x hx hb
  rcases open_slice ht hx with ⟨rfl, rfl⟩ | ⟨a, len, cap, k, m', D, Pl, rfl, _, hl, _, hk, rfl, hel⟩
  · exact ⟨[.nils], [], rfl, ⟨_, rfl, .nil⟩, VRs_one (by simp [VR])⟩
  · have hkc : len ≤ k := by rw [hk]; simpa using hl
    have hbulk : ∀ i, i < len → Rows.uptoBulk (D i) ≤ 1048576 := by
      intro i hi
      have h1 : D i ∈ (List.range len).map D := List.mem_map.2 ⟨i, List.mem_range.2 hi, rfl⟩
      have h2 := bulk_part h1
      have h3 := bulk_slice ((List.range len).map D) ((List.range (k - len)).map fun j => D (len + j))
      simp only at hb
      omega
    have hlen : len ≤ 1048576 := by
      have h2 := bulk_len ((List.range len).map D)
      have h3 := bulk_slice ((List.range len).map D) ((List.range (k - len)).map fun j => D (len + j))
      simp only [List.length_map, List.length_range] at h2
      simp only at hb
      omega
    obtain ⟨cs, xs, hcs, hxs, hr, hv⟩ := rows_of (w := w) (n := n) (Q := Q) (a := a) len 0 (fun i hi => by
      obtain ⟨cs', h1, h2⟩ := hel i (by omega)
      obtain ⟨_, h3, h4⟩ := World.cells?_some h1
      obtain ⟨c, y, h5, h6, h7⟩ := hQ _ _ _ h2 (hbulk i hi)
      refine ⟨c, y, by omega, h6, VRs_iff.2 fun j z hz => ?_⟩
      obtain ⟨v, hv, hV⟩ := VRs_iff.1 h7 _ _ hz
      have hj := (List.getElem?_eq_some_iff.1 hv).1
      refine ⟨v, ?_, hV⟩
      rw [← hv, ← h4 j (by omega), hn, Go.Proofs.Ytknphnmhjmejaaa.add_add, Nat.zero_add])
    subst hxs
    refine ⟨[.ros cs xs.length], xs, rfl, ⟨_, rfl, .mk hr (by omega)⟩, VRs_one ?_⟩
    simp only [VR]
    refine ⟨a, cap, rfl, hl, ?_⟩
    simpa using hv
theorem reads_ints {t e : TypeId} (ht : P.underlying t = some (.slice e)) (he : P.underlying e = some (.int .i64)) (hn : P.cellsOf e = 1) : Reads enc P w t (One IsInts) := by
  intro m cs x hx hb
  obtain ⟨c, a, h1, ⟨X, rfl, h2⟩, h3⟩ := reads_rows ht hn (reads_int he) m cs x hx hb
  refine ⟨[X], a, h1, ⟨X, rfl, ?_⟩, h3⟩
  cases h2 with
  | nil => exact .nil
  | @mk cs _ r hl =>
    have : cs = ints a := by
      clear h3 hl h1
      induction r with
      | nil => rfl
      | cons hc q r ih =>
        obtain ⟨x, rfl, rfl⟩ := q
        rw [ih]
        rfl
    rw [this]
    exact .mk a hl
end
/-! ### Fields -/
section
variable {H : Type} {enc : TypeId × Value → H} {P : Program} {w : World}
/-- A struct's fields, one behind the other. -/
theorem fields_read {t : TypeId} {fs : Array Field} (ht : P.underlying t = some (.struct fs)) {n : Nat} {cs : List Value} {x : DataW H × List MemPlace} (h : trodW enc P w n t cs x) (hb : Rows.uptoBulk x.1 ≤ 1048576) : cs.length = P.cellsOf t ∧
    ∀ (i : Nat) (f : Field), fs[i]? = some f → ∃ m y, trodW enc P w m f.type ((cs.drop f.offset).take (P.cellsOf f.type)) y ∧ Rows.uptoBulk y.1 ≤ 1048576 := by
  obtain ⟨xs, k, rfl, rfl, hl, hxs, hf⟩ := DataW.trod_struct ht h
  refine ⟨hl, fun i f hi => ?_⟩
  have h1 := hf i f hi
  have hlt : i < xs.length := by rw [hxs]; exact (Array.getElem?_eq_some_iff.1 hi).1
  rw [List.getElem?_eq_getElem hlt] at h1
  refine ⟨k, xs[i], h1, ?_⟩
  have h2 : xs[i].1 ∈ xs.map (·.1) := List.mem_map.2 ⟨xs[i], List.getElem_mem hlt, rfl⟩
  have h3 := bulk_part h2
  have h4 := bulk_agg (xs.map (·.1))
  simp only at hb
  omega
/-- One cell, as one field reads it. -/
theorem cell_read {t : TypeId} {α : Type} {Q : RV → α → Prop} (hQ : Reads enc P w t (One Q)) {m : Nat} {cs : List Value} {off : Nat} {y : DataW H × List MemPlace} (h : trodW enc P w m t ((cs.drop off).take 1) y) (hb : Rows.uptoBulk y.1 ≤ 1048576) :
    ∃ v X a, cs[off]? = some v ∧ Q X a ∧ VR (MW w) X v := by
  obtain ⟨c, a, h1, ⟨X, rfl, h2⟩, h3⟩ := hQ _ _ _ h hb
  simp only [VRs, and_true] at h3
  obtain ⟨v, hv, hV⟩ := h3
  refine ⟨v, X, a, ?_, h2, hV⟩
  have := hv
  rw [List.getElem?_take] at this
  simpa using this
theorem VRs_list {M : Mm} : ∀ (c : List RV) (cs : List Value) (k : Nat), (∀ i x, c[i]? = some x → ∃ v, cs[k + i]? = some v ∧ VR M x v) → VRs M c (fun i => cs[k + i]?) := fun c cs k h => VRs_iff.2 h
end
section
variable {H : Type} {enc : TypeId × Value → H} {w : World}
theorem u_int : Try.prog.underlying 3 = some (.int .i64) := by kernel_rfl
theorem u_int64 : Try.prog.underlying 2 = some (.int .i64) := by kernel_rfl
theorem u_bool : Try.prog.underlying 4 = some .bool := by kernel_rfl
theorem u_ints : Try.prog.underlying 24 = some (.slice 3) := by kernel_rfl
theorem u_values : Try.prog.underlying 25 = some (.slice 63) := by kernel_rfl
theorem u_blocks : Try.prog.underlying 26 = some (.slice 40) := by kernel_rfl
theorem u_codes : Try.prog.underlying 22 = some (.slice 28) := by kernel_rfl
theorem c_int : Try.prog.cellsOf 3 = 1 := by kernel_rfl
theorem c_int64 : Try.prog.cellsOf 2 = 1 := by kernel_rfl
theorem c_ints : Try.prog.cellsOf 24 = 1 := by kernel_rfl
theorem c_values : Try.prog.cellsOf 25 = 1 := by kernel_rfl
theorem c_blocks : Try.prog.cellsOf 26 = 1 := by kernel_rfl
theorem c_value : Try.prog.cellsOf 63 = 5 := by kernel_rfl
theorem c_block : Try.prog.cellsOf 40 = 6 := by kernel_rfl
theorem c_code : Try.prog.cellsOf 28 = 4 := by kernel_rfl
noncomputable def fsOf (t : TypeId) : Array Field :=
  match Try.prog.underlying t with
  | some (.struct fs) => fs
  | _ => #[]
theorem u_value : Try.prog.underlying 63 = some (.struct (fsOf 63)) := by kernel_rfl
theorem u_block : Try.prog.underlying 40 = some (.struct (fsOf 40)) := by kernel_rfl
theorem u_code : Try.prog.underlying 28 = some (.struct (fsOf 28)) := by kernel_rfl
/-- A field's type and place. -/
noncomputable def fld (t : TypeId) (i : Nat) : Option (TypeId × Nat) := ((fsOf t)[i]?).map fun f => (f.type, f.offset)
theorem fld_some {t : TypeId} {i : Nat} {ft : TypeId} {off : Nat} (h : fld t i = some (ft, off)) : ∃ f, (fsOf t)[i]? = some f ∧ f.type = ft ∧ f.offset = off := by
  unfold fld at h
  rw [Option.map_eq_some_iff] at h
  obtain ⟨f, h1, h2⟩ := h
  cases h2
  exact ⟨f, h1, rfl, rfl⟩
theorem field_read {t : TypeId} (ht : Try.prog.underlying t = some (.struct (fsOf t))) {n : Nat} {cs : List Value} {x : DataW H × List MemPlace} (h : trodW enc Try.prog w n t cs x) (hb : Rows.uptoBulk x.1 ≤ 1048576) {i : Nat} {ft : TypeId} {off : Nat} (hf : fld t i = some (ft, off))
    (hc : Try.prog.cellsOf ft = 1) {α : Type} {Q : RV → α → Prop} (hQ : Reads enc Try.prog w ft (One Q)) : ∃ v X a, cs[off]? = some v ∧ Q X a ∧ VR (MW w) X v := by
  obtain ⟨f, h1, rfl, rfl⟩ := fld_some hf
  obtain ⟨m, y, h2, h3⟩ := (fields_read ht h hb).2 i f h1
  rw [hc] at h2
  exact cell_read hQ h2 h3
theorem r_ints : Reads enc Try.prog w 24 (One IsInts) := reads_ints u_ints u_int c_int
theorem reads_value : Reads enc Try.prog w 63 IsVl := by
  intro n cs x hx hb
  have hl : cs.length = 5 := by rw [(fields_read u_value hx hb).1, c_value]
  obtain ⟨v0, X0, a0, h0, rfl, k0⟩ := field_read u_value hx hb (i := 0) (ft := 3) (off := 0) (by kernel_rfl) c_int (reads_int u_int)
  obtain ⟨v1, X1, a1, h1, rfl, k1⟩ := field_read u_value hx hb (i := 1) (ft := 3) (off := 1) (by kernel_rfl) c_int (reads_int u_int)
  obtain ⟨v2, X2, a2, h2, q2, k2⟩ := field_read u_value hx hb (i := 2) (ft := 24) (off := 2) (by kernel_rfl) c_ints r_ints
  obtain ⟨v3, X3, a3, h3, rfl, k3⟩ := field_read u_value hx hb (i := 3) (ft := 2) (off := 3) (by kernel_rfl) c_int64 (reads_int u_int64)
  obtain ⟨v4, X4, a4, h4, rfl, k4⟩ := field_read u_value hx hb (i := 4) (ft := 3) (off := 4) (by kernel_rfl) c_int (reads_int u_int)
  refine ⟨[I a0, I a1, X2, I a3, I a4], ⟨a0, a1, a2, a3, a4⟩, by simp [hl], ⟨X2, rfl, q2⟩, ?_⟩
  simp only [VRs, and_true]
  exact ⟨⟨v0, h0, k0⟩, ⟨v1, h1, k1⟩, ⟨v2, h2, k2⟩, ⟨v3, h3, k3⟩, ⟨v4, h4, k4⟩⟩
theorem reads_block : Reads enc Try.prog w 40 IsBlk := by
  intro n cs x hx hb
  have hl : cs.length = 6 := by rw [(fields_read u_block hx hb).1, c_block]
  obtain ⟨v0, X0, a0, h0, rfl, k0⟩ := field_read u_block hx hb (i := 0) (ft := 3) (off := 0) (by kernel_rfl) c_int (reads_int u_int)
  obtain ⟨v1, X1, a1, h1, rfl, k1⟩ := field_read u_block hx hb (i := 1) (ft := 2) (off := 1) (by kernel_rfl) c_int64 (reads_int u_int64)
  obtain ⟨v2, X2, a2, h2, q2, k2⟩ := field_read u_block hx hb (i := 2) (ft := 24) (off := 2) (by kernel_rfl) c_ints r_ints
  obtain ⟨v3, X3, a3, h3, q3, k3⟩ := field_read u_block hx hb (i := 3) (ft := 24) (off := 3) (by kernel_rfl) c_ints r_ints
  obtain ⟨v4, X4, a4, h4, q4, k4⟩ := field_read u_block hx hb (i := 4) (ft := 24) (off := 4) (by kernel_rfl) c_ints r_ints
  obtain ⟨v5, X5, a5, h5, q5, k5⟩ := field_read u_block hx hb (i := 5) (ft := 24) (off := 5) (by kernel_rfl) c_ints r_ints
  refine ⟨[I a0, I a1, X2, X3, X4, X5], ⟨a0, a1, a2, a3, a4, a5⟩, by simp [hl], ⟨X2, X3, X4, X5, rfl, q2, q3, q4, q5⟩, ?_⟩
  simp only [VRs, and_true]
  exact ⟨⟨v0, h0, k0⟩, ⟨v1, h1, k1⟩, ⟨v2, h2, k2⟩, ⟨v3, h3, k3⟩, ⟨v4, h4, k4⟩, ⟨v5, h5, k5⟩⟩
theorem reads_code : Reads enc Try.prog w 28 IsCd := by
  intro n cs x hx hb
  have hl : cs.length = 4 := by rw [(fields_read u_code hx hb).1, c_code]
  obtain ⟨v0, X0, a0, h0, q0, k0⟩ := field_read u_code hx hb (i := 0) (ft := 24) (off := 0) (by kernel_rfl) c_ints r_ints
  obtain ⟨v1, X1, a1, h1, q1, k1⟩ := field_read u_code hx hb (i := 1) (ft := 24) (off := 1) (by kernel_rfl) c_ints r_ints
  obtain ⟨v2, X2, a2, h2, q2, k2⟩ := field_read u_code hx hb (i := 2) (ft := 25) (off := 2) (by kernel_rfl) c_values (reads_rows u_values c_value reads_value)
  obtain ⟨v3, X3, a3, h3, q3, k3⟩ := field_read u_code hx hb (i := 3) (ft := 26) (off := 3) (by kernel_rfl) c_blocks (reads_rows u_blocks c_block reads_block)
  refine ⟨[X0, X1, X2, X3], ⟨a0, a1, a2, a3⟩, by simp [hl], ⟨X0, X1, X2, X3, rfl, q0, q1, q2, q3⟩, ?_⟩
  simp only [VRs, and_true]
  exact ⟨⟨v0, h0, k0⟩, ⟨v1, h1, k1⟩, ⟨v2, h2, k2⟩, ⟨v3, h3, k3⟩⟩
theorem reads_codes : Reads enc Try.prog w 22 (One (IsRows 4 IsCd)) := reads_rows u_codes c_code reads_code
end
/-! ### A law's row -/
theorem own0 : ownKnob Try.prog.godebug = none := by kernel_rfl
theorem laid0 : laidOutB Try.prog = true := by kernel_rfl
section
variable {H : Type} {enc : TypeId × Value → H} {P : Program}
theorem kept_of_fr {W W' : World} (f : Fr (fun _ => False) W W') (may : MemPlace → Prop) : W.keptBut W' may := by
  refine ⟨f.os, f.output, fun i hi => ?_⟩
  rw [f.block i hi (fun h => h)]
  exact (World.keptBut_refl W may).2.2 i hi
theorem post_true {f : Func} {s : ChangeSpec} {t tb : TypeId} {apart fresh handsOn again : Bool} (hl : laidOutB P = true) (hr : P.readableRec t = true) (hrow : t < P.types.size) (hb : P.underlying tb = some .bool) (hpar : f.params.toList = [t]) (hrt : f.resultTypes = #[tb]) (hvar : s.vars = [])
    {W W' : World} {v0 : Value} {d : DataW H} {before : List MemPlace} (hfn : s.fn H ([d] ++ []) = { results := [.lit (.bool true)], args := [d] }) (hW : DataW.Whole enc P f.params.toList s.vars apart W [v0] [d] [] before) (hfr : Fr (fun _ => False) W W') :
    s.post enc P f apart fresh handsOn again W #[v0] (.bool true) W' := by
  have hW' := hW
  obtain ⟨p, q, hA, hV, hpq, hz, hn⟩ := hW
  rw [hpar] at hA
  rw [hvar] at hV
  have hq : q = [] := by simpa [DataW.TrodVars] using hV
  subst hq
  rw [List.append_nil] at hpq
  subst hpq
  obtain ⟨p1, p2, ⟨n, hd⟩, h2, hp⟩ := hA
  have hp2 : p2 = [] := by simpa [DataW.TrodAll] using h2
  subst hp2
  rw [List.append_nil] at hp
  subst hp
  have hlt : ∀ x ∈ before, x.block < W.heap.size := hW'.lt
  have good := DataW.trod_good (kids_book hl hr) (fun h => by cases h) n t _ _ ⟨hrow, book_self t⟩ hd
  have stays : ∀ sp : Nat → Bool, (∀ x ∈ before, sp x.block = true) → DataW.trod enc P W' 0 sp true n t v0.cells.toList = some (d, before) := fun sp hsp =>
    DataW.trod_stays (kids_book hl hr) (book_sized hr) (fun h => by cases h) ⟨hrow, book_self t⟩ hd (fun x hx => by
      have hx' := hlt x hx
      have hb := hfr.block x.block hx' (fun h => h)
      cases x with
      | cell b off => simp only [World.sameAt, World.cell?]; simp only [MemPlace.block] at hb; rw [hb]
      | map b => simp only [World.sameAt]; exact hb) hsp
  have hargs : ∀ sp : Nat → Bool, (∀ x ∈ before, sp x.block = true) → DataW.TrodAll enc P W' 0 sp true f.params.toList [v0] [d] before := by
    intro sp hsp
    rw [hpar]
    exact ⟨before, [], ⟨n, stays sp hsp⟩, rfl, by simp⟩
  have hres : ∀ (b : Nat) (sp : Nat → Bool) (hd : Bool), DataW.TrodAll enc P W' b sp hd f.resultTypes.toList ((Value.bool true).resultList f.resultTypes.size) (s.fn H ([d] ++ [])).results [] := by
    intro b sp hd
    rw [hfn, hrt]
    exact trodAll_cons_mk (shut_bool hb _) trodAll_mk0
  have hold : ∀ x ∈ before, (fun b => decide (b < W.heap.size)) x.block = true := fun x hx => by simpa using hlt x hx
  have hfna : (s.fn H ([d] ++ [])).args = [d] := by rw [hfn]
  have hfnv : (s.fn H ([d] ++ [])).vars = [] := by rw [hfn]
  have hargs0 : ∀ sp : Nat → Bool, (∀ x ∈ before, sp x.block = true) → DataW.TrodAll enc P W' 0 sp true f.params.toList [v0] (s.fn H ([d] ++ [])).args before := fun sp h => by rw [hfna]; exact hargs sp h
  have hvars0 : ∀ sp : Nat → Bool, DataW.TrodVars enc P W' sp s.vars (s.fn H ([d] ++ [])).vars [] := fun sp => by rw [hvar, hfnv]; rfl
  refine ⟨[d], [], before, [], before, [], hW', hres _ _ _, hargs0 _ hold, hvars0 _, World.keptBut_mono (fun x hx => ⟨hx, .inr (by simpa using hx)⟩) (kept_of_fr hfr _), fun _ => ?_⟩
  refine ⟨?_, _, _, ([] ++ before) ++ [], ⟨[] ++ before, [], trodAll_append (hargs0 _ (fun _ _ => rfl)) (hres _ _ _), hvars0 _, rfl, ?_, ?_⟩, ?_⟩
  · exact ok_one hrt rfl (okWide_bool_mk hb _)
  · intro b off hp
    have hp' : MemPlace.cell b off ∈ before := by simpa using hp
    have h1 := hz b off hp'
    have h2 := hfr.block b (hlt _ hp') (fun h => h)
    simp only [World.frozen?] at h1 ⊢
    have h2 : W'.heap[b]? = W.heap[b]? := h2
    rw [h2]
    exact h1
  · intro ha
    simpa using hn ha
  · intro x hx _
    simpa using hx
/-- What a law's function tells of an argument, as its row asks it. -/
theorem row_contract {f : FuncId} {fn : Func} {s : ChangeSpec} {t tb : TypeId} (hl : laidOutB P = true) (hr : P.readableRec t = true) (hrow : t < P.types.size) (hb : P.underlying tb = some .bool) (hpar : fn.params.toList = [t]) (hst : ∃ e, P.underlying t = some (.slice e)) (hrt : fn.resultTypes = #[tb]) (hvar : s.vars = [])
    (hfn : ∀ d : DataW H, s.fn H ([d] ++ []) = { results := [.lit (.bool true)], args := [d] }) {α : Type} {Q : RV → α → Prop} {F : List RV → Option Res} (good : GoodC P f (.pure F)) (hF : ∀ X a, Q X a → F [X] = some (.ret (.bool true)))
    {W : World} {base : Nat} {args : Array Value} {ds gs : List (DataW H)} {before : List MemPlace} (hval : ∀ (j : Nat) t v, fn.params[j]? = some t → args[j]? = some v → Value.okWide P W .any base t v) (hQ : Reads enc P W t (One Q)) (hW : DataW.Whole enc P fn.params.toList s.vars false W args.toList ds gs before) (hk : Rows.uptoSmall H (ds ++ gs) = true) :
    Calls P f args W fun e W' => ∃ v, e = .returned v ∧ s.post enc P fn false true false false W args v W' := by
  have hW' := hW
  obtain ⟨p, q, hA, hV, hpq, hz, hn⟩ := hW
  rw [hpar] at hA
  rw [hvar] at hV
  have hgs : gs = [] := by
    cases gs with
    | nil => rfl
    | cons g gs => simp [DataW.TrodVars] at hV
  subst hgs
  obtain ⟨v0, vs, d, ds', p1, p2, ha, rfl, hp, hd, h2⟩ := trodAll_cons hA
  obtain ⟨rfl, rfl, rfl⟩ := trodAll_nil h2
  have hargs : args = #[v0] := by rw [← Array.toList_inj]; exact ha
  subst hargs
  obtain ⟨n, hd⟩ := hd
  have hbulk : Rows.uptoBulk d ≤ 1048576 := by
    have := of_decide_eq_true hk
    simp only [List.append_nil, Rows.uptoBulkAll] at this
    omega
  obtain ⟨c, a, hc, ⟨X, rfl, hX⟩, hv⟩ := hQ n _ _ hd hbulk
  have hv1 : v0.cells.toList = [v0] := by
    obtain ⟨e, he⟩ := hst
    have hp0 : fn.params[0]? = some t := by rw [← Array.getElem?_toList, hpar]; rfl
    obtain ⟨a, len, cap, rfl⟩ := okWide_slice he (hval 0 t v0 hp0 rfl)
    rfl
  rw [hv1] at hv
  obtain ⟨_, hP⟩ := good
  refine (hP [X] _ (hF X a hX) (MW W) W #[v0] (fun a v h => h) rfl (by simpa using hv)).mono fun e W' ⟨M', _, _, _, hfr, u, he, hu⟩ => ?_
  simp only [VR] at hu
  subst hu
  exact ⟨_, he, post_true hl hr hrow hb hpar hrt hvar (hfn d) hW' hfr⟩
end
end Go.Proofs.Ytknphnmhjmejaaa
