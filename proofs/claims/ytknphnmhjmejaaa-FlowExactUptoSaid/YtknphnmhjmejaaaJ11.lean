/- Joined texts: Hc, Hd, He, Hf, Hg. No conditions but those of each. -/
import Derived.Test.YtknphnmhjmejaaaJ10
import Derived.Test.YtknphnmhjmejaaaJ8
/-  What the program's own search, depth first, tells. No conditions. -/
namespace Go.Proofs.Ytknphnmhjmejaaa
set_option linter.unusedVariables false
def sucs (bs : List Blk) (x : Nat) : List Nat :=
  match bs[x]? with
  | some b => b.succs.map Int.toNat
  | none => []
theorem sucs_at {bs : List Blk} {x : Nat} (hx : x < bs.length) : sucs bs x = bs[x].succs.map Int.toNat := by
  simp [sucs, List.getElem?_eq_getElem hx]
theorem sucs_lt {bs : List Blk} (hok : okSuccs bs) : ∀ x < bs.length, ∀ y ∈ sucs bs x, y < bs.length := by
  intro x hx y hy
  rw [sucs_at hx, List.mem_map] at hy
  obtain ⟨n, hn, rfl⟩ := hy
  obtain ⟨m, rfl, hm⟩ := hok x bs[x] (List.getElem?_eq_getElem hx) n hn
  simpa using hm
/-! ### A list of numbers that a function of ours makes -/
inductive IntsAt (h : Hp) (av : List Nat) : AV → List Int → Prop
  | nil : IntsAt h av (.rv .nils) []
  | mk {o v : Nat} {xs : List Int} (ho : h[o]? = some ⟨v, 1, xs.map ai⟩) (hn : o ∉ av) : IntsAt h av (.sl o v 0 xs.length) xs
theorem IntsAt.done {h : Hp} {av : List Nat} {v : AV} {xs : List Int} (k : IntsAt h av v xs) (hl : xs.length < 1000000000) : ∃ x, toRV h depthA v = some x ∧ IsInts x xs := by
  cases k with
  | nil => exact ⟨.nils, rfl, .nil⟩
  | mk ho hn => exact ⟨_, toRV_ints ho, .mk xs hl⟩
theorem IntsAt.set_ne {h : Hp} {av : List Nat} {v : AV} {xs : List Int} (k : IntsAt h av v xs) {o : Nat} (ho : o ∈ av) (ob : Ob) : IntsAt (h.set o ob) av v xs := by
  cases k with
  | nil => exact .nil
  | mk h1 hn => exact .mk (get_set_ne (fun e => hn (e ▸ ho)) h1) hn
theorem IntsAt.app {h : Hp} {av : List Nat} {v : AV} {xs : List Int} (k : IntsAt h av v xs) (l : Hp) : IntsAt (h ++ l) av v xs := by
  cases k with
  | nil => exact .nil
  | mk h1 hn => exact .mk (get_old h1 l) hn
theorem IntsAt.push {h : Hp} {av : List Nat} {v : AV} {xs : List Int} (k : IntsAt h av v xs) (hl : xs.length < 1000000000) (hav : ∀ o ∈ av, o < h.length) (x : Int) : ∃ w h3, (∀ {R : Type} (K : AV → Hp → Option R),
    (bsl 1 1 [.rv (.int .i64 0)] [(some (0, 1), .rv (.int .i64 x))] h fun u h2 => apn 1 8 h2 v u fun w h3 => K w h3) = K w h3) ∧ IntsAt h3 av w (xs ++ [x]) ∧ h.length ≤ h3.length ∧ ∀ o ∈ av, h3[o]? = h[o]? := by
  cases k with
  | nil =>
    refine ⟨_, _, fun K => by rw [bsl_one rfl, apn_nil rfl], ?_, by simp, fun o ho => ?_⟩
    · have := IntsAt.mk (h := h ++ [⟨0, 1, [ai x]⟩] ++ [⟨0, 1, [ai x]⟩]) (av := av) (o := h.length + 1) (v := 0) (xs := [x]) (by
        have := get_new (h := h ++ [(⟨0, 1, [ai x]⟩ : Ob)]) ⟨0, 1, [ai x]⟩
        rw [List.length_append] at this
        exact this) (fun hn => by have := hav _ hn; omega)
      exact this
    · have := hav o ho
      rw [List.append_assoc, List.getElem?_append_left this]
  | @mk o v xs ho hn =>
    have hlt := get_lt ho
    refine ⟨_, _, fun K => by rw [bsl_one rfl, apn_one ho (by simp) (by omega) rfl], ?_, by simp, fun o' ho' => ?_⟩
    · have := IntsAt.mk (h := (h ++ [(⟨0, 1, [ai x]⟩ : Ob)]).set o ⟨v + 1, 1, xs.map ai ++ [ai x]⟩) (av := av) (o := o) (v := v + 1) (xs := xs ++ [x]) (by
        rw [List.map_append]; exact get_set_eq (get_old ho _)) hn
      rw [List.length_append] at this
      exact this
    · have h1 := hav o' ho'
      have h2 : o ≠ o' := fun e => hn (e ▸ ho')
      rw [List.getElem?_set_ne h2, List.getElem?_append_left h1]
/-! ### The stack -/
theorem Dfs.nil_inv {sc : Nat → List Nat} {S P S' P' : List Nat} (h : Dfs sc [] S P S' P') : S' = S ∧ P' = P := by
  cases h; exact ⟨rfl, rfl⟩
def RunS (sc : Nat → List Nat) : List (Nat × Nat) → List Nat → List Nat → List Nat → List Nat → Prop
  | [], S, P, S', P' => S' = S ∧ P' = P
  | (b, n) :: rest, S, P, S', P' => ∃ S1 P1, Dfs sc ((sc b).drop n) S P S1 P1 ∧ RunS sc rest S1 (P1 ++ [b]) S' P'
theorem RunS.pop {sc : Nat → List Nat} {b n : Nat} {rest : List (Nat × Nat)} {S P S' P' : List Nat} (h : RunS sc ((b, n) :: rest) S P S' P') (hn : (sc b).length ≤ n) : RunS sc rest S (P ++ [b]) S' P' := by
  obtain ⟨S1, P1, h1, h2⟩ := h
  rw [List.drop_eq_nil_of_le hn] at h1
  obtain ⟨rfl, rfl⟩ := h1.nil_inv
  exact h2
theorem RunS.next {sc : Nat → List Nat} {b n s : Nat} {rest : List (Nat × Nat)} {S P S' P' : List Nat} (h : RunS sc ((b, n) :: rest) S P S' P') (hn : (sc b)[n]? = some s) :
    (s ∈ S → RunS sc ((b, n + 1) :: rest) S P S' P') ∧ (s ∉ S → RunS sc ((s, 0) :: (b, n + 1) :: rest) (S ++ [s]) P S' P') := by
  obtain ⟨S1, P1, h1, h2⟩ := h
  obtain ⟨hlt, hs⟩ := List.getElem?_eq_some_iff.1 hn
  rw [List.drop_eq_getElem_cons hlt, hs] at h1
  cases h1 with
  | seen hm r => exact ⟨fun _ => ⟨S1, P1, r, h2⟩, fun h => absurd hm h⟩
  | go hm r1 r2 => exact ⟨fun h => absurd h hm, fun _ => ⟨_, _, by simpa using r1, _, _, r2, h2⟩⟩
def flat (fs : List (Nat × Nat)) : List AV := fs.flatMap fun x => [ai x.1, ai x.2]
theorem flat_length (fs : List (Nat × Nat)) : (flat fs).length = fs.length * 2 := by
  induction fs with
  | nil => rfl
  | cons x fs ih => simp only [flat, List.flatMap_cons, List.length_append, List.length_cons, List.length_nil] at *; omega
theorem flat_rev (b n : Nat) (rest : List (Nat × Nat)) : flat ((b, n) :: rest).reverse = flat rest.reverse ++ [ai b, ai n] := by
  simp [flat]
def fsum (sc : Nat → List Nat) : List (Nat × Nat) → Nat
  | [] => 0
  | (b, n) :: rest => (sc b).length - n + 1 + fsum sc rest
structure RS (h : Hp) (oc os ost vs : Nat) (cells : List AV) (seen : List Bool) (S : List Nat) (fs : List (Nat × Nat)) (n : Nat) : Prop where
  c : h[oc]? = some ⟨0, 1, cells⟩
  s : h[os]? = some ⟨0, 1, seen.map ab⟩
  st : ∃ junk, h[ost]? = some ⟨vs, 2, flat fs.reverse ++ junk⟩
  len : seen.length = n
  mem : ∀ x, seen[x]? = some true ↔ x ∈ S
  nd : S.Nodup
  cs : oc ≠ os
  ct : oc ≠ ost
  sst : os ≠ ost
  fs : ∀ x ∈ fs, x.1 < n
theorem RS.keep {h h' : Hp} {oc os ost vs : Nat} {cells : List AV} {seen : List Bool} {S : List Nat} {fs : List (Nat × Nat)} {n : Nat} (k : RS h oc os ost vs cells seen S fs n) (hk : ∀ o ∈ [oc, os, ost], h'[o]? = h[o]?) : RS h' oc os ost vs cells seen S fs n :=
  ⟨by rw [hk oc (by simp)]; exact k.c, by rw [hk os (by simp)]; exact k.s, by rw [hk ost (by simp)]; exact k.st, k.len, k.mem, k.nd, k.cs, k.ct, k.sst, k.fs⟩
theorem RS.seenlt {h : Hp} {oc os ost vs : Nat} {cells : List AV} {seen : List Bool} {S : List Nat} {fs : List (Nat × Nat)} {n : Nat} (k : RS h oc os ost vs cells seen S fs n) : ∀ x ∈ S, x < n := fun x hx => by
  rw [← k.len]; exact (List.getElem?_eq_some_iff.1 ((k.mem x).2 hx)).1
section
variable {p r v b : RV} {d : Cd} {oc os ost : Nat}
theorem nodup_sub_le : ∀ (A B : List Nat), A.Nodup → (∀ y ∈ A, y ∈ B) → A.length ≤ B.length
  | [], B, _, _ => by simp
  | a :: A, B, hA, hB => by
    have h1 := nodup_sub_le A (B.erase a) (List.nodup_cons.1 hA).2 (fun y hy => by
      have hne : y ≠ a := by rintro rfl; exact (List.nodup_cons.1 hA).1 hy
      exact (List.mem_erase_of_ne hne).2 (hB y (List.mem_cons_of_mem _ hy)))
    have h2 := List.length_erase_of_mem (hB a (by simp))
    have h3 : 0 < B.length := List.length_pos_of_mem (hB a (by simp))
    simp
    omega
theorem nodup_snoc {A : List Nat} {x : Nat} (h : A.Nodup) (hx : x ∉ A) : (A ++ [x]).Nodup := by
  rw [List.nodup_append]
  refine ⟨h, by simp, ?_⟩
  intro a ha b hb e
  simp at hb; subst hb; subst e
  exact hx ha
/-- Where the search stands. -/
structure RQ (sc : Nat → List Nat) (fs : List (Nat × Nat)) (S P : List Nat) : Prop where
  sub : ∀ x ∈ P, x ∈ S
  nd : P.Nodup
  ff : ∀ x ∈ fs, x.1 ∈ S ∧ x.1 ∉ P ∧ x.2 ≤ (sc x.1).length
  fnd : (fs.map (·.1)).Nodup
theorem RQ.pop {sc : Nat → List Nat} {x n : Nat} {rest : List (Nat × Nat)} {S P : List Nat} (k : RQ sc ((x, n) :: rest) S P) : RQ sc rest S (P ++ [x]) := by
  have hfx := k.ff (x, n) (by simp)
  have hfnd := k.fnd
  simp only [List.map_cons, List.nodup_cons] at hfnd
  refine ⟨?_, nodup_snoc k.nd hfx.2.1, ?_, hfnd.2⟩
  · intro y hy
    rcases List.mem_append.1 hy with hy | hy
    · exact k.sub y hy
    · simp at hy; subst hy; exact hfx.1
  · intro y hy
    have := k.ff y (List.mem_cons_of_mem _ hy)
    refine ⟨this.1, fun hyp => ?_, this.2.2⟩
    rcases List.mem_append.1 hyp with h1 | h1
    · exact this.2.1 h1
    · simp at h1
      exact hfnd.1 (by rw [List.mem_map]; exact ⟨y, hy, h1⟩)
theorem RQ.seen {sc : Nat → List Nat} {x n : Nat} {rest : List (Nat × Nat)} {S P : List Nat} (k : RQ sc ((x, n) :: rest) S P) (hn : n < (sc x).length) : RQ sc ((x, n + 1) :: rest) S P := by
  refine ⟨k.sub, k.nd, ?_, k.fnd⟩
  intro y hy
  rcases List.mem_cons.1 hy with rfl | hy
  · have := k.ff (x, n) (by simp)
    exact ⟨this.1, this.2.1, hn⟩
  · exact k.ff y (List.mem_cons_of_mem _ hy)
theorem RQ.push {sc : Nat → List Nat} {x n s : Nat} {rest : List (Nat × Nat)} {S P : List Nat} (k : RQ sc ((x, n) :: rest) S P) (hn : n < (sc x).length) (hs : s ∉ S) : RQ sc ((s, 0) :: (x, n + 1) :: rest) (S ++ [s]) P := by
  have k' := k.seen hn
  refine ⟨fun y hy => List.mem_append.2 (.inl (k.sub y hy)), k.nd, ?_, ?_⟩
  · intro y hy
    rcases List.mem_cons.1 hy with rfl | hy
    · exact ⟨by simp, fun h => hs (k.sub _ h), Nat.zero_le _⟩
    · have := k'.ff y hy
      exact ⟨List.mem_append.2 (.inl this.1), this.2⟩
  · simp only [List.map_cons, List.nodup_cons]
    have := k'.fnd
    simp only [List.map_cons, List.nodup_cons] at this
    refine ⟨fun h => ?_, this⟩
    rcases List.mem_cons.1 h with h | h
    · exact hs (h ▸ (k.ff (x, n) (by simp)).1)
    · rw [List.mem_map] at h
      obtain ⟨y, hy, rfl⟩ := h
      exact hs (k.ff y (List.mem_cons_of_mem _ hy)).1
theorem reached_loop (hd : IsCd [p, r, v, b] d) (hsh : d.blocks.length ≤ 4096) (hok : okSuccs d.blocks) (k M W : Nat) (hW : ∀ y < d.blocks.length, (sucs d.blocks y).length + 2 ≤ W) (S' P' : List Nat) : ∀ (m N : Nat) (fs : List (Nat × Nat)) (S P : List Nat) (seen : List Bool) (vs : Nat) (x2 : AV) (h : Hp),
    (d.blocks.length - S.length) * W + fsum (sucs d.blocks) fs ≤ m → m < N → RS h oc os ost vs [.rv p, .rv r, .rv v, .rv b] seen S fs d.blocks.length → IntsAt h [oc, os, ost] x2 (P.map Int.ofNat) → RQ (sucs d.blocks) fs S P → RunS (sucs d.blocks) fs S P S' P' →
      ∃ w h', ssa_reached_l248 k N M (.ptr oc 0 0) x2 (.sl os 0 0 d.blocks.length) (.sl ost vs 0 fs.length) h = some (.ret w, h') ∧ IntsAt h' [oc, os, ost] w (P'.map Int.ofNat) := by
  obtain ⟨p, r, v, b, e, _, _, _, hb⟩ := hd
  cases e
  intro m
  induction m with
  | zero =>
    intro N fs S P seen vs x2 h hm hN k1 k2 _ hr
    obtain ⟨N, rfl⟩ : ∃ N', N = N' + 1 := ⟨N - 1, by omega⟩
    cases fs with
    | cons x fs => obtain ⟨b, n⟩ := x; simp only [fsum] at hm; omega
    | nil =>
      obtain ⟨rfl, rfl⟩ := hr
      rw [ssa_reached_l248_eq, sl_len, bsp_not (by simp), ssa_reached_p63_eq]
      exact ⟨_, _, rfl, k2⟩
  | succ m ih =>
    intro N fs S P seen vs x2 h hm hN k1 k2 kq hr
    obtain ⟨N, rfl⟩ : ∃ N', N = N' + 1 := ⟨N - 1, by omega⟩
    cases fs with
    | nil =>
      obtain ⟨rfl, rfl⟩ := hr
      rw [ssa_reached_l248_eq, sl_len, bsp_not (by simp), ssa_reached_p63_eq]
      exact ⟨_, _, rfl, k2⟩
    | cons x rest =>
      obtain ⟨x, n⟩ := x
      have hx : x < d.blocks.length := k1.fs (x, n) (by simp)
      obtain ⟨junk, hst⟩ := k1.st
      rw [flat_rev] at hst
      have hSl : S.length ≤ d.blocks.length := nodup_le _ _ k1.nd k1.seenlt
      have hPl := nodup_sub_le _ _ kq.nd kq.sub
      have hfl : ((x, n) :: rest).length ≤ d.blocks.length := by
        have := nodup_le d.blocks.length _ kq.fnd (fun y hy => by
          rw [List.mem_map] at hy
          obtain ⟨z, hz, rfl⟩ := hy
          exact k1.fs z hz)
        simpa using this
      have hfl' : rest.length + 1 ≤ d.blocks.length := by simpa using hfl
      obtain ⟨a, q, s, t, brest, j1, j2, j3, j4, hbx⟩ := blk_at (R := ARes × Hp) hb hx
      have hsl : (sucs d.blocks x).length = d.blocks[x].succs.length := by rw [sucs_at hx]; simp
      have hs3 := j3.short
      have hoc := get_lt k1.c
      have hos := get_lt k1.s
      have host := get_lt hst
      have hav : ∀ o ∈ [oc, os, ost], o < h.length := by
        intro o ho
        simp at ho
        rcases ho with rfl | rfl | rfl <;> assumption
      have hfr : (flat rest.reverse).length = rest.length * 2 := by rw [flat_length]; simp
      have c0 : (flat rest.reverse ++ [ai x, ai n] ++ junk)[rest.length * 2]? = some (ai x) := by
        rw [List.append_assoc, List.getElem?_append_right (by omega), hfr]; simp
      have c1 : (flat rest.reverse ++ [ai x, ai n] ++ junk)[rest.length * 2 + 1]? = some (ai n) := by
        rw [List.append_assoc, List.getElem?_append_right (by omega), hfr, Nat.add_sub_cancel_left]; simp
      have etop : ∀ K : AV → Option (ARes × Hp), ixa 2 (.sl ost vs 0 ((x, n) :: rest).length) (wri .i64 ((((x, n) :: rest).length : Int) - 1)) K = K (.ptr ost vs (rest.length * 2)) := by
        intro K
        rw [List.length_cons, wri_small (n := ((rest.length + 1 : Nat) : Int) - 1) (by omega) (by omega)]
        rw [show ((rest.length + 1 : Nat) : Int) - 1 = (rest.length : Int) by omega]
        have : (rest.length : Int) < ((rest.length + 1 : Nat) : Int) := by omega
        simp only [ixa]
        rw [if_pos ⟨by omega, this⟩]
        simp
      rw [ssa_reached_l248_eq, sl_len, bsp_of (by simp), sl_len, etop, pad_ptr, ldv_at k1.c rfl, nck_ptr, pad_ptr, ldi_at (n := (x : Int)) hst (by rw [Nat.add_zero]; exact c0), hbx, pad_rop4, ldv_rop, nck_ptr, pad_ptr, ldi_at (n := (n : Int)) hst c1, j3.len]
      have hfx := kq.ff (x, n) (by simp)
      simp only [fsum] at hm
      by_cases hn : n = d.blocks[x].succs.length
      · have hr' := hr.pop (by omega)
        rw [bsp_of (by simp [hn]), nck_ptr, pad_ptr, ldi_at (n := (x : Int)) hst (by rw [Nat.add_zero]; exact c0)]
        obtain ⟨w, h3, hK, k2', hle, hkeep⟩ := k2.push (by simp; omega) hav (x : Int)
        rw [hK, sl_len]
        have k1' := k1.keep hkeep
        have hst' : h3[ost]? = some ⟨vs, 2, flat rest.reverse ++ ([ai x, ai n] ++ junk)⟩ := by rw [hkeep ost (by simp), hst, List.append_assoc]
        have esl : ∀ K : AV → Option (ARes × Hp), slc 2 h3 (.sl ost vs 0 ((x, n) :: rest).length) none (some (wri .i64 ((((x, n) :: rest).length : Int) - 1))) K = K (.sl ost vs 0 rest.length) := by
          intro K
          rw [List.length_cons, wri_small (n := ((rest.length + 1 : Nat) : Int) - 1) (by omega) (by omega)]
          rw [show ((rest.length + 1 : Nat) : Int) - 1 = (rest.length : Int) by omega]
          simp only [slc, liveA, hst', Option.getD_some, Option.getD_none]
          rw [if_pos ⟨by simp, by omega, by omega, by omega⟩]
          simp
        rw [esl]
        exact ih N rest S (P ++ [x]) seen vs w h3 (by omega) (by omega) ⟨k1'.c, k1'.s, ⟨_, hst'⟩, k1.len, k1.mem, k1.nd, k1.cs, k1.ct, k1.sst, fun y hy => k1.fs y (List.mem_cons_of_mem _ hy)⟩ (by simpa using k2') kq.pop hr'
      · have hnl : n < (sucs d.blocks x).length := by
          have := hfx.2.2
          simp only at this
          omega
        have hnl' : n < d.blocks[x].succs.length := by omega
        obtain ⟨y, hy, hyl⟩ := hok x d.blocks[x] (List.getElem?_eq_getElem hx) d.blocks[x].succs[n] (List.getElem_mem hnl')
        have hsy : (sucs d.blocks x)[n]? = some y := by
          rw [sucs_at hx, List.getElem?_map, List.getElem?_eq_getElem hnl', hy]; rfl
        have hset : (flat rest.reverse ++ [ai x, ai n] ++ junk).set (rest.length * 2 + 1) (ai ((n + 1 : Nat) : Int)) = flat rest.reverse ++ [ai x, ai ((n + 1 : Nat) : Int)] ++ junk := by
          rw [List.append_assoc, List.set_append_right _ _ (by omega), hfr, Nat.add_sub_cancel_left, List.append_assoc]
          rfl
        have hst1 : (h.set ost ⟨vs, 2, (flat rest.reverse ++ [ai x, ai n] ++ junk).set (rest.length * 2 + 1) (ai ((n + 1 : Nat) : Int))⟩)[ost]? = some ⟨vs, 2, flat ((x, n + 1) :: rest).reverse ++ junk⟩ := by
          rw [hset, flat_rev]; exact get_set_eq hst
        have hs1 : (h.set ost ⟨vs, 2, (flat rest.reverse ++ [ai x, ai n] ++ junk).set (rest.length * 2 + 1) (ai ((n + 1 : Nat) : Int))⟩)[os]? = some ⟨0, 1, seen.map ab⟩ := get_set_ne k1.sst.symm k1.s
        have hc1 : (h.set ost ⟨vs, 2, (flat rest.reverse ++ [ai x, ai n] ++ junk).set (rest.length * 2 + 1) (ai ((n + 1 : Nat) : Int))⟩)[oc]? = some ⟨0, 1, [.rv p, .rv r, .rv v, .rv b]⟩ := get_set_ne k1.ct.symm k1.c
        have k2s : IntsAt (h.set ost ⟨vs, 2, (flat rest.reverse ++ [ai x, ai n] ++ junk).set (rest.length * 2 + 1) (ai ((n + 1 : Nat) : Int))⟩) [oc, os, ost] x2 (P.map Int.ofNat) := k2.set_ne (by simp) _
        rw [bsp_not (by simp; omega), nck_ptr, pad_ptr, ldi_at (n := (n : Int)) hst c1, j3.at hnl', hy, nck_ptr, pad_ptr, ldi_at (n := (n : Int)) hst c1, nck_ptr, pad_ptr, wri_succ (by omega),
          stv_at hst (by simp only [List.length_append, hfr, List.length_cons]; omega) rfl rfl]
        generalize h.set ost ⟨vs, 2, (flat rest.reverse ++ [ai x, ai n] ++ junk).set (rest.length * 2 + 1) (ai ((n + 1 : Nat) : Int))⟩ = h1 at hst1 hs1 hc1 k2s ⊢
        have hsb : ∃ q, seen[y]? = some q := ⟨_, List.getElem?_eq_getElem (by rw [k1.len]; exact hyl)⟩
        obtain ⟨qb, hqb⟩ := hsb
        rw [sl_at hyl, ldb_at (b := qb) hs1 (by simp [hqb])]
        have hfs1 : ∀ z ∈ (x, n + 1) :: rest, z.1 < d.blocks.length := by
          intro z hz
          rcases List.mem_cons.1 hz with rfl | hz
          · exact hx
          · exact k1.fs z (List.mem_cons_of_mem _ hz)
        cases qb with
        | true =>
          rw [bsp_not (by rfl)]
          have := ih N ((x, n + 1) :: rest) S P seen vs x2 h1 (by simp only [fsum]; omega) (by omega) ⟨hc1, hs1, ⟨_, hst1⟩, k1.len, k1.mem, k1.nd, k1.cs, k1.ct, k1.sst, hfs1⟩ k2s (kq.seen hnl) ((hr.next hsy).1 ((k1.mem y).1 hqb))
          exact this
        | false =>
          have hyS : y ∉ S := fun h => by have := (k1.mem y).2 h; rw [hqb] at this; cases this
          have hS1 : (S ++ [y]).length ≤ d.blocks.length := nodup_le _ _ (nodup_snoc k1.nd hyS) (fun z hz => by
            rcases List.mem_append.1 hz with hz | hz
            · exact k1.seenlt z hz
            · simp at hz; subst hz; exact hyl)
          rw [bsp_of (by rfl), sl_at hyl, stv_at hs1 (by simp; rw [k1.len]; exact hyl) rfl rfl]
          have hst2 := get_set_ne (ob := ⟨0, 1, (seen.map ab).set y (ab true)⟩) k1.sst hst1
          have hc2 := get_set_ne (ob := ⟨0, 1, (seen.map ab).set y (ab true)⟩) k1.cs.symm hc1
          have hs2 := get_set_eq (ob := ⟨0, 1, (seen.map ab).set y (ab true)⟩) hs1
          have k2t : IntsAt (h1.set os ⟨0, 1, (seen.map ab).set y (ab true)⟩) [oc, os, ost] x2 (P.map Int.ofNat) := k2s.set_ne (by simp) _
          generalize h1.set os ⟨0, 1, (seen.map ab).set y (ab true)⟩ = h2 at hst2 hc2 hs2 k2t ⊢
          have hnew : ∀ K : AV → Hp → Option (ARes × Hp), (bld [.rv (.int .i64 0), .rv (.int .i64 0)] [(some (0, 1), .rv (.int .i64 y)), (some (1, 1), .rv (.int .i64 0))] fun v52 => bsl 2 1 [.rv (.int .i64 0), .rv (.int .i64 0)] [(some (0, 2), v52)] h2 fun v53 h54 => apn 2 16 h54 (.sl ost vs 0 ((x, n) :: rest).length) v53 fun v55 h56 => K v55 h56) =
              K (.sl ost (vs + 1) 0 ((y, 0) :: (x, n + 1) :: rest).length) ((h2 ++ [(⟨0, 2, [ai y, ai 0]⟩ : Ob)]).set ost ⟨vs + 1, 2, flat ((y, 0) :: (x, n + 1) :: rest).reverse⟩) := by
            intro K
            have e1 := get_old hst2 [⟨0, 2, [ai y, ai 0]⟩]
            have e2 : wcells 2 (h2 ++ [(⟨0, 2, [ai y, ai 0]⟩ : Ob)]) (.sl h2.length 0 0 1) = some (1, [ai y, ai 0]) := by
              simp only [wcells, get_new]
              rw [if_pos (by simp)]
              rfl
            have e3 : (flat ((x, n + 1) :: rest).reverse).length = (rest.length + 1) * 2 := by rw [flat_length]; simp
            have e4 : (flat ((x, n + 1) :: rest).reverse ++ junk).take ((rest.length + 1) * 2) = flat ((x, n + 1) :: rest).reverse := by
              rw [List.take_append_of_le_length (by omega), List.take_of_length_le (by omega)]
            have e5 : ((rest.length + 1 + 1 : Nat) : Int) ≤ room := by simp [room]; omega
            have e6 : ((16 : Nat) : Int) * ((rest.length + 1 + 1 : Nat) : Int) ≤ room := by simp [room]; omega
            show apn 2 16 (h2 ++ [(⟨0, 2, [ai y, ai 0]⟩ : Ob)]) (.sl ost vs 0 (rest.length + 1)) (.sl h2.length 0 0 1) (fun v55 h56 => K v55 h56) = _
            simp only [apn, e2, e1]
            rw [if_pos ⟨trivial, trivial, trivial, by rw [List.length_append, e3]; omega, e5, e6, by simp [oneA]⟩, e4, flat_rev y 0, List.length_cons]
            rfl
          rw [hnew]
          have hcnt := (hr.next hsy).2 hyS
          have hysl := hW y hyl
          refine ih N ((y, 0) :: (x, n + 1) :: rest) (S ++ [y]) P (seen.set y true) (vs + 1) x2 _ ?_ (by omega) ⟨?_, ?_, ⟨[], ?_⟩, by simp [k1.len], ?_, nodup_snoc k1.nd hyS, k1.cs, k1.ct, k1.sst, ?_⟩ ?_ (kq.push hnl hyS) hcnt
          · simp only [fsum, List.length_append, List.length_cons, List.length_nil]
            rw [List.length_append, List.length_cons, List.length_nil] at hS1
            obtain ⟨z, hz⟩ : ∃ z, d.blocks.length - S.length = z + 1 := ⟨d.blocks.length - S.length - 1, by omega⟩
            rw [hz] at hm
            rw [show d.blocks.length - (S.length + (0 + 1)) = z by omega]
            rw [Nat.add_mul, Nat.one_mul] at hm
            omega
          · exact get_set_ne k1.ct.symm (get_old hc2 _)
          · rw [List.map_set]; exact get_set_ne k1.sst.symm (get_old hs2 _)
          · rw [List.append_nil]; exact get_set_eq (get_old hst2 _)
          · intro z
            rw [List.getElem?_set, List.mem_append, List.mem_singleton]
            by_cases e : y = z
            · subst e; simp [k1.len, hyl]
            · rw [if_neg e, k1.mem]
              exact ⟨.inl, fun h => h.resolve_right fun h => e h.symm⟩
          · intro z hz
            rcases List.mem_cons.1 hz with rfl | hz
            · exact hyl
            · exact hfs1 z hz
          · exact (k2t.app _).set_ne (by simp) _
/-- Blocks in postorder. -/
def IsPost (bs : List Blk) (P : List Nat) : Prop := ∃ S, Dfs (sucs bs) [0] [] [] S P
theorem IsPost.ex {bs : List Blk} (hok : okSuccs bs) (h0 : 0 < bs.length) : ∃ P, IsPost bs P := by
  obtain ⟨S, P, h⟩ := Dfs.total (sucs_lt hok) bs.length [0] [] [] (by simp) (by simp) (by simp) (by simpa using h0)
  exact ⟨P, S, h⟩
theorem IsPost.det {bs : List Blk} {P Q : List Nat} (h : IsPost bs P) (k : IsPost bs Q) : P = Q := by
  obtain ⟨S, h⟩ := h
  obtain ⟨T, k⟩ := k
  exact (h.det k).2
theorem IsPost.runS {bs : List Blk} {P : List Nat} (h : IsPost bs P) : ∃ S, RunS (sucs bs) [(0, 0)] [0] [] S P := by
  obtain ⟨S, h⟩ := h
  cases h with
  | seen h => simp at h
  | go _ r1 r2 =>
    obtain ⟨rfl, rfl⟩ := r2.nil_inv
    exact ⟨_, _, _, by simpa using r1, rfl, rfl⟩
theorem IsPost.facts {bs : List Blk} {P : List Nat} (hok : okSuccs bs) (h0 : 0 < bs.length) (h : IsPost bs P) : P.Nodup ∧ (∀ x ∈ P, x < bs.length) ∧ P.length ≤ bs.length := by
  obtain ⟨S, h⟩ := h
  obtain ⟨N, Q, k⟩ := h.found
  have e : P = Q := by rw [k.p]; rfl
  have h1 : ∀ x ∈ P, x < bs.length := by
    intro x hx
    rw [e] at hx
    obtain ⟨y, hy, w⟩ := k.rc x ((k.mem x).2 hx)
    simp at hy
    subst hy
    exact w.lt (sucs_lt hok) h0
  exact ⟨e ▸ k.qd, h1, nodup_le _ _ (e ▸ k.qd) h1⟩
end
theorem reached_spec {cs : List RV} {d : Cd} {P : List Nat} (hd : IsCd cs d) (hl : 0 < d.blocks.length ∧ d.blocks.length ≤ 4096) (hok : okSuccs d.blocks) (hP : IsPost d.blocks P) :
    ∃ x, F_ssa_reached [.agg cs] = some (.ret x) ∧ IsInts x (P.map Int.ofNat) := by
  have hd' := hd
  obtain ⟨p, r, v, b, rfl, _, _, _, hb⟩ := hd
  have ho : ([⟨0, 1, [.rv p, .rv r, .rv v, .rv b]⟩] : Hp)[0]? = some ⟨0, 1, [.rv p, .rv r, .rv v, .rv b]⟩ := rfl
  obtain ⟨S, hr⟩ := hP.runS
  have hz : ∀ n : Nat, zrep [ab false] n = (List.replicate n false).map ab := by
    intro n; simp [zrep]
  obtain ⟨h1, eh1⟩ : ∃ h1 : Hp, h1 = [⟨0, 1, [.rv p, .rv r, .rv v, .rv b]⟩] ++ [⟨0, 1, zrep [ab false] d.blocks.length⟩] := ⟨_, rfl⟩
  have e1 : ∀ K : AV → Hp → Option (ARes × Hp), (bld [.rv (.int .i64 0), .rv (.int .i64 0)] [(some (0, 1), .rv (.int .i64 0)), (some (1, 1), .rv (.int .i64 0))] fun v8 => bsl 2 1 [.rv (.int .i64 0), .rv (.int .i64 0)] [(some (0, 2), v8)] h1 fun v9 h10 => K v9 h10) = K (.sl 2 0 0 1) (h1 ++ [⟨0, 2, [ai 0, ai 0]⟩]) := by
    intro K
    rw [eh1]
    rfl
  have hs2 : (h1 ++ [(⟨0, 2, [ai 0, ai 0]⟩ : Ob)])[1]? = some ⟨0, 1, (List.replicate d.blocks.length false).map ab⟩ := by rw [eh1, hz]; rfl
  obtain ⟨W, eW⟩ : ∃ W : Nat, W = 1000000002 := ⟨_, rfl⟩
  have hW : ∀ y < d.blocks.length, (sucs d.blocks y).length + 2 ≤ W := by
    intro y hy
    obtain ⟨_, _, s', _, _, _, _, j3', _, _⟩ := blk_at (R := ARes × Hp) hb hy
    rw [sucs_at hy, List.length_map]
    have := j3'.short
    omega
  obtain ⟨w, h', e, k2⟩ := reached_loop (oc := 0) (os := 1) (ost := 2) hd' hl.2 hok big ((h1 ++ [(⟨0, 2, [ai 0, ai 0]⟩ : Ob)]).set 1 ⟨0, 1, ((List.replicate d.blocks.length false).map ab).set 0 (ab true)⟩).length W hW S P (10000 * W) big [(0, 0)] [0] [] ((List.replicate d.blocks.length false).set 0 true) 0 (.rv .nils)
    ((h1 ++ [(⟨0, 2, [ai 0, ai 0]⟩ : Ob)]).set 1 ⟨0, 1, ((List.replicate d.blocks.length false).map ab).set 0 (ab true)⟩) (by
      have := hW 0 hl.1
      simp only [fsum, List.length_cons, List.length_nil]
      have : (d.blocks.length - (0 + 1)) * W ≤ 4095 * W := Nat.mul_le_mul_right _ (by omega)
      omega) (by rw [big_val]; omega)
    ⟨by rw [eh1]; rfl, by rw [List.map_set]; exact get_set_eq hs2, ⟨[], by rw [eh1]; rfl⟩, by simp, fun x => by
      rw [List.getElem?_set]
      by_cases e : 0 = x
      · subst e; simp [hl.1]
      · rw [if_neg e, List.getElem?_replicate]
        split <;> simp <;> omega, by simp, by omega, by omega, by omega, by simpa using hl.1⟩ .nil ⟨by simp, by simp, by simp, by simp⟩ hr
  obtain ⟨x, hx, hi⟩ := k2.done (by have := (hP.facts hok hl.1).2.2; simp; omega)
  refine ⟨x, ?_, hi⟩
  unfold F_ssa_reached
  rw [List.map_cons, List.map_nil, ssa_reached_eq, box_agg, List.nil_append, List.length_nil, show List.map AV.rv [p, r, v, b] = [.rv p, .rv r, .rv v, .rv b] from rfl,
    pad_ptr, ldv_at ho rfl, hb.len, mks_one (by omega) (by omega)]
  have hl1 : ([⟨0, 1, [.rv p, .rv r, .rv v, .rv b]⟩] : Hp).length = 1 := rfl
  have e2 : ∀ K : AV → Option (ARes × Hp), ixa 1 (.sl 1 0 0 d.blocks.length) 0 K = K (.ptr 1 0 0) := fun K => sl_at (i := 0) hl.1 K
  rw [hl1, ← eh1, e1, e2, stv_at hs2 (by simp; exact hl.1) rfl rfl]
  simp only [List.length_cons, List.length_nil, Nat.zero_add] at e
  rw [e]
  simp [pureR, hx]
end Go.Proofs.Ytknphnmhjmejaaa
/-  Which blocks lead to which: the program's way to ask, and the page's. Copies, sorted; lists compared. No conditions. -/
namespace Go.Proofs.Ytknphnmhjmejaaa
set_option linter.unusedVariables false
/-! ### Plain -/
/-- From where a block is led to, by blocks in their order, the first i of them. -/
def froms (bs : List Blk) : Nat → Int → List Int
  | 0, _ => []
  | i + 1, n => froms bs i n ++ (match bs[i]? with | some b => List.replicate (b.succs.count n) (i : Int) | none => [])
theorem froms_mem {bs : List Blk} {n : Int} : ∀ {i : Nat} {x : Int}, x ∈ froms bs i n → 0 ≤ x ∧ x < i
  | 0, x, h => by simp [froms] at h
  | i + 1, x, h => by
    simp only [froms, List.mem_append] at h
    rcases h with h | h
    · have := froms_mem h; omega
    · split at h
      · rw [List.mem_replicate] at h; omega
      · simp at h
theorem froms_sorted {bs : List Blk} {n : Int} : ∀ i : Nat, (froms bs i n).Pairwise fun x y => decide (x ≤ y) = true
  | 0 => by simp [froms]
  | i + 1 => by
    simp only [froms]
    rw [List.pairwise_append]
    refine ⟨froms_sorted i, ?_, ?_⟩
    · split
      · rw [List.pairwise_replicate]; right; simp
      · simp
    · intro a ha b hb
      have := froms_mem ha
      split at hb
      · rw [List.mem_replicate] at hb
        simp; omega
      · simp at hb
theorem froms_count {bs : List Blk} {n : Int} {m : Nat} : ∀ {i : Nat}, (froms bs i n).count (m : Int) = if m < i then (match bs[m]? with | some b => b.succs.count n | none => 0) else 0
  | 0 => by simp [froms]
  | i + 1 => by
    simp only [froms, List.count_append, froms_count (i := i)]
    by_cases h : m = i
    · subst h
      rw [if_neg (by omega), if_pos (by omega)]
      cases bs[m]? with
      | none => simp
      | some b => simp
    · have e : (match bs[i]? with | some b => List.replicate (b.succs.count n) (i : Int) | none => []).count (m : Int) = 0 := by
        rw [List.count_eq_zero]
        split
        · rw [List.mem_replicate]; omega
        · simp
      rw [e]
      by_cases h2 : m < i
      · rw [if_pos h2, if_pos (by omega)]; omega
      · rw [if_neg h2, if_neg (by omega)]
def froms' (bs : List Blk) (i j : Nat) (n : Int) : List Int := froms bs i n ++ (match bs[i]? with | some b => List.replicate ((b.succs.take j).count n) (i : Int) | none => [])
theorem froms'_zero {bs : List Blk} {i : Nat} {n : Int} : froms' bs i 0 n = froms bs i n := by
  unfold froms'
  split <;> simp
theorem froms'_end {bs : List Blk} {i j : Nat} {b : Blk} (hb : bs[i]? = some b) (hj : b.succs.length ≤ j) {n : Int} : froms' bs i j n = froms bs (i + 1) n := by
  unfold froms'
  rw [froms, hb]
  simp only
  rw [List.take_of_length_le hj]
theorem froms'_succ {bs : List Blk} {i j : Nat} {b : Blk} {s : Int} (hb : bs[i]? = some b) (hj : b.succs[j]? = some s) {n : Int} : froms' bs i (j + 1) n = if s = n then froms' bs i j n ++ [(i : Int)] else froms' bs i j n := by
  unfold froms'
  rw [hb]
  simp only
  rw [List.take_add_one, hj, List.count_append]
  by_cases h : s = n
  · subst h
    rw [if_pos rfl, List.append_assoc, ← List.replicate_succ']
    simp
  · rw [if_neg h]
    simp [h]
theorem sortL_perm (l : List Int) : (sortL l).Perm l := List.mergeSort_perm l _
theorem sortL_sorted (l : List Int) : (sortL l).Pairwise fun x y => decide (x ≤ y) = true :=
  List.pairwise_mergeSort (fun a b c h1 h2 => by simp at *; omega) (fun a b => by simp; omega) l
theorem sortL_froms {bs : List Blk} {l : List Int} {n : Int} (hl : ∀ x ∈ l, ∃ m : Nat, x = m ∧ m < bs.length) : sortL l = froms bs bs.length n ↔ ∀ (m : Nat) (b : Blk), bs[m]? = some b → l.count (m : Int) = b.succs.count n := by
  constructor
  · intro h m b hb
    rw [← (sortL_perm l).count_eq, h, froms_count, if_pos (List.getElem?_eq_some_iff.1 hb).1, hb]
  · intro h
    refine List.Perm.eq_of_pairwise (le := fun x y : Int => decide (x ≤ y) = true) (fun a b _ _ h1 h2 => by simp at h1 h2; omega) (sortL_sorted l) (froms_sorted _) ((sortL_perm l).trans ?_)
    rw [List.perm_iff_count]
    intro x
    by_cases hx : ∃ m : Nat, x = m ∧ m < bs.length
    · obtain ⟨m, rfl, hm⟩ := hx
      rw [froms_count, if_pos hm, List.getElem?_eq_getElem hm]
      exact h m bs[m] (List.getElem?_eq_getElem hm)
    · rw [List.count_eq_zero.2 (fun hm => hx (hl x hm)), List.count_eq_zero.2 (fun hm => ?_)]
      have := froms_mem hm
      exact hx ⟨x.toNat, by omega, by omega⟩
/-- Where a block leads by its kind. -/
def wants (k : Int) : Int := if k = 1 then 1 else if k = 2 then 2 else 0
/-- What the program asks of the flow of blocks that have the form. -/
structure FlowP (bs : List Blk) (P : List Nat) : Prop where
  head : ∀ b, bs[0]? = some b → b.kind ≠ 0
  succs : ∀ b ∈ bs, (b.succs.length : Int) = wants b.kind
  none : froms bs bs.length 0 = []
  preds : ∀ (n : Nat) (b : Blk), bs[n]? = some b → sortL b.preds = froms bs bs.length n
  all : P.length + bs.countP (fun b => b.kind == 0) = bs.length
theorem formOk_mem {bs : List Blk} (h : formOk bs = true) {b : Blk} (hb : b ∈ bs) : blkOk bs b = true := by
  simp only [formOk, Bool.and_eq_true, List.all_eq_true] at h
  exact h.2 b hb
theorem blkOk_hole {bs : List Blk} {b : Blk} (h : blkOk bs b = true) (hk : b.kind = 0) : b.preds = [] ∧ b.succs = [] := by
  unfold blkOk at h
  rw [if_pos hk] at h
  simpa using h
theorem blkOk_kind {bs : List Blk} {b : Blk} (h : blkOk bs b = true) (hk : b.kind ≠ 0) : succsOf b.kind = wants b.kind := by
  unfold blkOk at h
  rw [if_neg hk] at h
  simp only [Bool.and_eq_true, decide_eq_true_eq] at h
  have := h.1.1
  unfold succsOf at this ⊢
  unfold wants
  split
  · rfl
  · split
    · rfl
    · split
      · rfl
      · rename_i h1 h2 h3
        rw [if_neg h1, if_neg h2, if_neg h3] at this
        omega
theorem okNums_block {bs : List Blk} {l : List Int} (h : okNums bs l = true) : ∀ n ∈ l, ∃ (m : Nat) (b : Blk), n = m ∧ bs[m]? = some b ∧ b.kind ≠ 0 := by
  intro n hn
  simp only [okNums, List.all_eq_true, Bool.and_eq_true, decide_eq_true_eq] at h
  obtain ⟨h0, h1⟩ := h n hn
  cases e : bs[n.toNat]? with
  | none => rw [e] at h1; cases h1
  | some b => rw [e] at h1; exact ⟨n.toNat, b, by omega, e, by simpa using h1⟩
theorem blkOk_nums {bs : List Blk} {b : Blk} (h : blkOk bs b = true) : (∀ n ∈ b.preds, ∃ (m : Nat) (c : Blk), n = m ∧ bs[m]? = some c ∧ c.kind ≠ 0) ∧ (∀ n ∈ b.succs, ∃ (m : Nat) (c : Blk), n = m ∧ bs[m]? = some c ∧ c.kind ≠ 0) := by
  by_cases hk : b.kind = 0
  · obtain ⟨h1, h2⟩ := blkOk_hole h hk
    rw [h1, h2]
    simp
  · unfold blkOk at h
    rw [if_neg hk] at h
    simp only [Bool.and_eq_true] at h
    exact ⟨okNums_block h.1.2, okNums_block h.2⟩
theorem way_rch {bs : List Blk} (hok : okSuccs bs) {x : Nat} (hx : x < bs.length) {y : Nat} : Way (sucs bs) x y ↔ Rch bs (-1) x y := by
  constructor
  · intro w
    have : Rch bs (-1) x y ∧ y < bs.length := by
      induction w with
      | refl => exact ⟨.start, hx⟩
      | @step y z h e ih =>
        obtain ⟨ih1, ih2⟩ := ih
        have hz := sucs_lt hok y ih2 z e
        refine ⟨?_, hz⟩
        rw [sucs_at ih2, List.mem_map] at e
        obtain ⟨n, hn, rfl⟩ := e
        obtain ⟨m, rfl, hm⟩ := hok y bs[y] (List.getElem?_eq_getElem ih2) n hn
        exact .step ih1 (List.getElem?_eq_getElem ih2) (by simpa using hn) (by simp)
    exact this.1
  · intro r
    induction r with
    | start => exact .refl _
    | @step a n b r hb hn hw ih =>
      refine .step ih ?_
      obtain ⟨hl, e⟩ := List.getElem?_eq_some_iff.1 hb
      rw [sucs_at hl, List.mem_map]
      exact ⟨n, by rw [e]; exact hn, by simp⟩
theorem IsPost.mem {bs : List Blk} {P : List Nat} (h : IsPost bs P) (x : Nat) : x ∈ P ↔ Way (sucs bs) 0 x := by
  obtain ⟨S, h⟩ := h
  obtain ⟨N, Q, k⟩ := h.found
  have e : P = Q := by rw [k.p]; rfl
  have eS : S = N := by rw [k.s]; rfl
  constructor
  · intro hx
    obtain ⟨y, hy, w⟩ := k.rc x ((k.mem x).2 (e ▸ hx))
    simp at hy
    exact hy ▸ w
  · intro w
    induction w with
    | refl => rw [e, ← k.mem, ← eS]; exact k.ll 0 (by simp)
    | step _ hz ih => rw [e, ← k.mem, ← eS]; exact k.cl _ (e ▸ ih) _ hz
theorem count_blocks : ∀ (l : List Blk) (k : Nat) (f : Nat → Bool), (∀ i b, l[i]? = some b → f (k + i) = (b.kind != 0)) → ((List.range' k l.length).filter f).length + l.countP (fun b => b.kind == 0) = l.length
  | [], k, f, _ => by simp
  | b :: l, k, f, h => by
    have ih := count_blocks l (k + 1) f (fun i c hc => by
      have := h (i + 1) c (by simpa using hc)
      rwa [show k + (i + 1) = k + 1 + i by omega] at this)
    have h0 := h 0 b rfl
    rw [List.length_cons, List.range'_succ, List.filter_cons, List.countP_cons]
    rw [Nat.add_zero] at h0
    rw [h0]
    by_cases hk : b.kind = 0
    · simp [hk]; omega
    · have e1 : (b.kind != 0) = true := by simpa using hk
      have e2 : (b.kind == 0) = false := by simpa using hk
      rw [e1, e2]
      simp; omega
theorem flowP_iff {bs : List Blk} {P : List Nat} (hf : formOk bs = true) (hP : IsPost bs P) : FlowP bs P ↔ FlowOk bs := by
  have hok := formOk_succs hf
  have hl : 0 < bs.length := by
    simp only [formOk, Bool.and_eq_true, decide_eq_true_eq] at hf
    exact hf.1.1
  have h00 : bs[0]? = some bs[0] := List.getElem?_eq_getElem hl
  obtain ⟨hnd, hlt, _⟩ := hP.facts hok hl
  have mem : ∀ {m : Nat} {b : Blk}, bs[m]? = some b → b ∈ bs := fun h => List.mem_of_getElem? h
  have hpl : ∀ {n : Nat} {b : Blk}, bs[n]? = some b → ∀ x ∈ b.preds, ∃ m : Nat, x = m ∧ m < bs.length := by
    intro n b hb x hx
    obtain ⟨m, c, h1, h2, _⟩ := (blkOk_nums (formOk_mem hf (mem hb))).1 x hx
    exact ⟨m, h1, (List.getElem?_eq_some_iff.1 h2).1⟩
  let f : Nat → Bool := fun i => match bs[i]? with | some b => b.kind != 0 | none => false
  have hcnt := count_blocks bs 0 f (fun i b hb => by simp [f, hb])
  have hsub : bs[0].kind ≠ 0 → ∀ x ∈ P, x ∈ (List.range' 0 bs.length).filter f := by
    intro h0 x hx
    have hxl := hlt x hx
    rw [List.mem_filter, List.mem_range']
    refine ⟨⟨x, hxl, by simp⟩, ?_⟩
    have w := (hP.mem x).1 hx
    cases w with
    | refl => simp only [f, h00]; simpa using h0
    | @step y _ w e =>
      have hyl := w.lt (sucs_lt hok) hl
      rw [sucs_at hyl, List.mem_map] at e
      obtain ⟨n, hn, rfl⟩ := e
      obtain ⟨m, c, rfl, hc, hk⟩ := (blkOk_nums (formOk_mem hf (mem (List.getElem?_eq_getElem hyl)))).2 n hn
      simp only [f, Int.toNat_natCast, hc]
      simpa using hk
  constructor
  · intro k
    have cnt : ∀ (n : Nat) (b : Blk), bs[n]? = some b → ∀ (m : Nat) (c : Blk), bs[m]? = some c → b.preds.count (m : Int) = c.succs.count (n : Int) := fun n b hb => (sortL_froms (hpl hb)).1 (k.preds n b hb)
    refine ⟨fun b hb => ⟨k.head b hb, ?_⟩, fun i b hb hk => ⟨?_, ?_, ?_⟩, fun i b hb hk => ?_⟩
    · have := k.preds 0 b hb
      rw [show ((0 : Nat) : Int) = 0 from rfl, k.none] at this
      have h2 := (sortL_perm b.preds).length_eq
      rw [this] at h2
      exact List.length_eq_zero_iff.1 h2.symm
    · rw [blkOk_kind (formOk_mem hf (mem hb)) hk]
      exact k.succs b (mem hb)
    · intro s hs c hc
      obtain ⟨m, c', rfl, hc', _⟩ := (blkOk_nums (formOk_mem hf (mem hb))).2 s hs
      rw [Int.toNat_natCast] at hc
      exact cnt m c hc i b hb
    · intro p hp c hc
      obtain ⟨m, c', rfl, hc', _⟩ := (blkOk_nums (formOk_mem hf (mem hb))).1 p hp
      rw [Int.toNat_natCast] at hc
      rw [← cnt i b hb m c hc]
      have := List.count_pos_iff.2 hp
      omega
    · refine (way_rch hok hl).1 ((hP.mem i).1 ?_)
      apply Classical.byContradiction
      intro hno
      have h1 := nodup_sub_le (i :: P) ((List.range' 0 bs.length).filter f) (List.nodup_cons.2 ⟨hno, hnd⟩) (fun x hx => by
        rcases List.mem_cons.1 hx with rfl | hx
        · rw [List.mem_filter, List.mem_range']
          exact ⟨⟨_, (List.getElem?_eq_some_iff.1 hb).1, by simp⟩, by simp only [f, hb]; simpa using hk⟩
        · exact hsub (k.head _ h00) x hx)
      have := k.all
      simp at h1
      omega
  · intro k
    have cnt : ∀ (n : Nat) (b : Blk), bs[n]? = some b → ∀ (m : Nat) (c : Blk), bs[m]? = some c → b.preds.count (m : Int) = c.succs.count (n : Int) := by
      intro n b hb m c hc
      by_cases h1 : (n : Int) ∈ c.succs
      · have hk : c.kind ≠ 0 := fun hk => by rw [(blkOk_hole (formOk_mem hf (mem hc)) hk).2] at h1; simp at h1
        exact (k.join m c hc hk).2.1 n h1 b (by simpa using hb)
      · rw [List.count_eq_zero.2 h1, List.count_eq_zero]
        intro h2
        have hk : b.kind ≠ 0 := fun hk => by rw [(blkOk_hole (formOk_mem hf (mem hb)) hk).1] at h2; simp at h2
        exact (k.join n b hb hk).2.2 m h2 c (by simpa using hc) (List.count_eq_zero.2 h1)
    have hpr : ∀ (n : Nat) (b : Blk), bs[n]? = some b → sortL b.preds = froms bs bs.length n := fun n b hb => (sortL_froms (hpl hb)).2 (cnt n b hb)
    refine ⟨fun b hb => (k.head b hb).1, fun b hb => ?_, ?_, hpr, ?_⟩
    · by_cases hk : b.kind = 0
      · rw [(blkOk_hole (formOk_mem hf hb) hk).2, hk]; rfl
      · obtain ⟨i, hi⟩ := List.getElem?_of_mem hb
        rw [← blkOk_kind (formOk_mem hf hb) hk]
        exact (k.join i b hi hk).1
    · rw [show (0 : Int) = ((0 : Nat) : Int) from rfl, ← hpr 0 _ h00, (k.head _ h00).2]
      simp [sortL]
    · have h1 := nodup_sub_le _ _ hnd (hsub (k.head _ h00).1)
      have hnf : ((List.range' 0 bs.length).filter f).Nodup := List.Pairwise.filter _ List.nodup_range'
      have h2 := nodup_sub_le _ P hnf (fun x hx => by
        rw [List.mem_filter, List.mem_range'] at hx
        obtain ⟨⟨y, hy, rfl⟩, hx⟩ := hx
        rw [hP.mem]
        refine (way_rch hok hl).2 ?_
        simp only [f] at hx
        split at hx
        · rename_i b hb
          exact k.reach _ b hb (by simpa using hx)
        · cases hx)
      omega
/-! ### Copies, sorted; lists compared -/
theorem Clone_spec {v : RV} {xs : List Int} (hv : IsInts v xs) (h : Hp) : (v = .nils ∧ G_slices_Clone_int [.rv v] h = some (.ret (.rv .nils), h)) ∨
    ∃ l o ver, G_slices_Clone_int [.rv v] h = some (.ret (.sl o ver 0 xs.length), h ++ l) ∧ (h ++ l)[o]? = some ⟨ver, 1, xs.map ai⟩ ∧ h.length ≤ o := by
  unfold G_slices_Clone_int
  rw [slices_Clone_int_eq]
  cases hv with
  | nil => exact .inl ⟨rfl, rfl⟩
  | mk xs hl =>
    right
    have e1 : ∀ K : AV → Hp → Option (ARes × Hp), bsl 1 0 [.rv (.int .i64 0)] [] h K = K (.sl h.length 0 0 0) (h ++ [⟨0, 1, []⟩]) := fun K => rfl
    have e2 : wcells 1 (h ++ [(⟨0, 1, []⟩ : Ob)]) (.rv (.ros (ints xs) xs.length)) = some (xs.length, xs.map ai) := by
      have hz : (ints xs).length = xs.length := by simp [ints]
      simp only [wcells]
      rw [if_pos (by omega), List.take_of_length_le (by omega)]
      simp [ints]
    have e3 : ((0 + xs.length : Nat) : Int) ≤ room := by simp [room]; omega
    have e4 : ((8 : Nat) : Int) * ((0 + xs.length : Nat) : Int) ≤ room := by simp [room]; omega
    refine ⟨[⟨1, 1, xs.map ai⟩], h.length, 1, ?_, get_new _, Nat.le_refl _⟩
    have e0 : ∀ (K : Bool → Option (ARes × Hp)), nilEq false 2 (.rv (.ros (ints xs) xs.length)) K = K false := fun K => rfl
    rw [e0, bsp_not rfl, e1]
    simp only [apn, e2, get_new]
    rw [if_pos ⟨trivial, trivial, trivial, by simp, e3, e4, by simp [oneA]⟩]
    simp
theorem mapM_ai (zs : List Int) : (zs.map ai).mapM intOf = some zs := by
  induction zs with
  | nil => rfl
  | cons z zs ih => simp only [List.map_cons, List.mapM_cons, intOf, ih]; rfl
theorem Sort_nil (h : Hp) : sortG [.rv .nils] h = some (.ret undefA, h) := rfl
theorem Sort_spec {h : Hp} {o ver : Nat} {xs : List Int} (ho : h[o]? = some ⟨ver, 1, xs.map ai⟩) (hl : xs.length < 1000000000) : sortG [.sl o ver 0 xs.length] h = some (.ret undefA, h.set o ⟨ver, 1, (sortL xs).map ai⟩) := by
  simp only [sortG, ho]
  rw [if_pos ⟨trivial, trivial, by simp, by omega⟩, mapM_ai]
theorem Equal_loop {a b : RV} {xs ys : List Int} (ha : IsInts a xs) (hb : IsInts b ys) (hl : xs.length = ys.length) (k M : Nat) (h : Hp) : ∀ (m i N : Nat), i + m = xs.length → m < N →
    slices_Equal_int_l116 k N M (.rv a) (.rv b) xs.length i h = some (.ret (ab (xs.drop i == ys.drop i)), h) := by
  intro m
  induction m with
  | zero =>
    intro i N hi hN
    obtain ⟨N, rfl⟩ : ∃ N', N = N' + 1 := ⟨N - 1, by omega⟩
    rw [slices_Equal_int_l116_eq, bsp_not (decide_eq_false (by omega)), slices_Equal_int_p15_eq, List.drop_eq_nil_of_le (by omega), List.drop_eq_nil_of_le (by omega)]
    rfl
  | succ m ih =>
    intro i N hi hN
    obtain ⟨N, rfl⟩ : ∃ N', N = N' + 1 := ⟨N - 1, by omega⟩
    have hlt : i < xs.length := by omega
    have hlt' : i < ys.length := by omega
    have hs := ha.short
    rw [slices_Equal_int_l116_eq, bsp_of (decide_eq_true (by omega)), ha.at hlt, hb.at hlt', wri_succ (by omega), ih (i + 1) N (by omega) (by omega), List.drop_eq_getElem_cons hlt, List.drop_eq_getElem_cons hlt']
    rw [show (xs[i] :: xs.drop (i + 1) == ys[i] :: ys.drop (i + 1)) = (xs[i] == ys[i] && xs.drop (i + 1) == ys.drop (i + 1)) from rfl]
    by_cases e : xs[i] = ys[i]
    · rw [bsp_not (by simpa using e), show (xs[i] == ys[i]) = true by simpa using e]
      rfl
    · rw [bsp_of (by simpa using e), show (xs[i] == ys[i]) = false by simpa using e]
      rfl
theorem Equal_spec {a b : RV} {xs ys : List Int} (ha : IsInts a xs) (hb : IsInts b ys) : F_slices_Equal_int [a, b] = some (.ret (.bool (xs == ys))) := by
  have hs := ha.short
  unfold F_slices_Equal_int
  rw [List.map_cons, List.map_cons, List.map_nil, slices_Equal_int_eq, ha.len, hb.len]
  by_cases hl : xs.length = ys.length
  · rw [bsp_not (by simp [hl]), ha.len, show ((0 : Int)) = ((0 : Nat) : Int) from rfl, Equal_loop ha hb hl big _ [] xs.length 0 big (by omega) (by rw [big_val]; omega)]
    simp [pureR, toRV, depthA]
  · rw [bsp_of (by simp; omega)]
    have : (xs == ys) = false := by simp; intro e; rw [e] at hl; exact hl rfl
    simp [pureR, toRV, depthA, this]
end Go.Proofs.Ytknphnmhjmejaaa
/-  What the program's look at the flow of blocks tells. No conditions. -/
namespace Go.Proofs.Ytknphnmhjmejaaa
set_option linter.unusedVariables false
def own : AV → Option Nat
  | .sl o _ _ _ => some o
  | _ => none
theorem IntsAt.lna {R : Type} {h : Hp} {av : List Nat} {v : AV} {xs : List Int} (k : IntsAt h av v xs) (K : Int → Option R) : lna v K = K xs.length := by
  cases k <;> rfl
theorem IntsAt.cells {h : Hp} {av : List Nat} {v : AV} {xs : List Int} (k : IntsAt h av v xs) : vcells v = some [v] ∧ oneA v = true := by
  cases k <;> exact ⟨rfl, rfl⟩
theorem IntsAt.mono {h h' : Hp} {av : List Nat} {v : AV} {xs : List Int} (k : IntsAt h av v xs) (hk : ∀ o, own v = some o → h'[o]? = h[o]?) : IntsAt h' av v xs := by
  cases k with
  | nil => exact .nil
  | mk h1 hn => exact .mk (by rw [hk _ rfl]; exact h1) hn
theorem IntsAt.ownlt {h : Hp} {av : List Nat} {v : AV} {xs : List Int} (k : IntsAt h av v xs) {o : Nat} (ho : own v = some o) : o < h.length := by
  cases k with
  | nil => cases ho
  | mk h1 hn => cases ho; exact get_lt h1
theorem IntsAt.push2 {h : Hp} {v : AV} {xs : List Int} (k : IntsAt h [] v xs) (hl : xs.length < 1000000000) (x : Int) : ∃ w h3, (∀ {R : Type} (K : AV → Hp → Option R),
    (bsl 1 1 [.rv (.int .i64 0)] [(some (0, 1), .rv (.int .i64 x))] h fun u h2 => apn 1 8 h2 v u fun w h3 => K w h3) = K w h3) ∧ IntsAt h3 [] w (xs ++ [x]) ∧ h.length < h3.length ∧ (∀ o, o < h.length → own v ≠ some o → h3[o]? = h[o]?) ∧ (own w = own v ∨ ∃ o, own w = some o ∧ h.length < o) := by
  cases k with
  | nil =>
    refine ⟨_, _, fun K => by rw [bsl_one rfl, apn_nil rfl], ?_, by simp, fun o ho _ => ?_, .inr ⟨_, rfl, by omega⟩⟩
    · have := IntsAt.mk (h := h ++ [⟨0, 1, [ai x]⟩] ++ [⟨0, 1, [ai x]⟩]) (av := []) (o := h.length + 1) (v := 0) (xs := [x]) (by
        have := get_new (h := h ++ [(⟨0, 1, [ai x]⟩ : Ob)]) ⟨0, 1, [ai x]⟩
        rw [List.length_append] at this
        exact this) (by simp)
      exact this
    · rw [List.append_assoc, List.getElem?_append_left ho]
  | @mk o v xs ho hn =>
    have hlt := get_lt ho
    refine ⟨.sl o (v + 1) 0 (xs.length + 1), _, fun K => by rw [bsl_one rfl, apn_one ho (by simp) (by omega) rfl], ?_, by simp, fun o' ho' hne => ?_, .inl rfl⟩
    · have := IntsAt.mk (h := (h ++ [(⟨0, 1, [ai x]⟩ : Ob)]).set o ⟨v + 1, 1, xs.map ai ++ [ai x]⟩) (av := []) (o := o) (v := v + 1) (xs := xs ++ [x]) (by
        rw [List.map_append]; exact get_set_eq (get_old ho _)) hn
      rw [List.length_append] at this
      exact this
    · have h2 : o ≠ o' := fun e => hne (e ▸ rfl)
      rw [List.getElem?_set_ne h2, List.getElem?_append_left ho']
/-- Nothing that was there has turned. -/
structure Wr (h0 h : Hp) : Prop where
  lt : h0.length < h.length
  eq : ∀ o, o < h0.length → h[o]? = h0[o]?
theorem Wr.app {h0 h : Hp} (k : Wr h0 h) (l : Hp) : Wr h0 (h ++ l) := ⟨by rw [List.length_append]; have := k.lt; omega, fun o ho => by rw [List.getElem?_append_left (by have := k.lt; omega)]; exact k.eq o ho⟩
theorem Wr.ge {h0 h : Hp} (k : Wr h0 h) {o : Nat} {ob : Ob} (ho : h0[o]? = some ob) : h[o]? = some ob := by rw [k.eq o (get_lt ho)]; exact ho
/-- A list of lists of numbers that a function of ours makes, each apart. -/
structure FA (h0 h : Hp) (F : Nat → List Int) (n : Nat) (cells : List AV) : Prop where
  ob : h[h0.length]? = some ⟨0, 1, cells⟩
  len : cells.length = n
  ints : ∀ (i : Nat) (v : AV), cells[i]? = some v → IntsAt h [] v (F i)
  dist : ∀ (i j : Nat) (v w : AV), i ≠ j → cells[i]? = some v → cells[j]? = some w → ∀ o, own v = some o → own w ≠ some o
  high : ∀ (i : Nat) (v : AV), cells[i]? = some v → ∀ o, own v = some o → h0.length < o
theorem FA.app {h0 h : Hp} {F : Nat → List Int} {n : Nat} {cells : List AV} (k : FA h0 h F n cells) (l : Hp) : FA h0 (h ++ l) F n cells :=
  ⟨get_old k.ob l, k.len, fun i v hv => (k.ints i v hv).app l, k.dist, k.high⟩
theorem FA.set_high {h0 h : Hp} {F : Nat → List Int} {n : Nat} {cells : List AV} (k : FA h0 h F n cells) (l : Hp) {o : Nat} (ho : h.length ≤ o) (ob : Ob) : FA h0 ((h ++ l).set o ob) F n cells := by
  have hlt := get_lt k.ob
  refine ⟨get_set_ne (by omega) (get_old k.ob l), k.len, fun i v hv => ((k.ints i v hv).app l).mono fun o' ho' => ?_, k.dist, k.high⟩
  have := (k.ints i v hv).ownlt ho'
  rw [List.getElem?_set_ne (by omega)]
theorem Wr.set_high {h0 h : Hp} (k : Wr h0 h) (l : Hp) {o : Nat} (ho : h.length ≤ o) (ob : Ob) : Wr h0 ((h ++ l).set o ob) := by
  have := k.lt
  refine ⟨by simp; omega, fun o' ho' => ?_⟩
  rw [List.getElem?_set_ne (by omega), List.getElem?_append_left (by omega)]
  exact k.eq o' ho'
theorem FA.push {h0 h : Hp} {F : Nat → List Int} {n : Nat} {cells : List AV} (k : FA h0 h F n cells) (w0 : Wr h0 h) {s : Nat} (hs : s < n) (hl : (F s).length < 1000000000) (x : Int) : ∃ h4 cells',
    (∀ {R : Type} (K : Hp → Option R), (ixa 1 (.sl h0.length 0 0 n) s fun p => ldv h p fun v => bsl 1 1 [.rv (.int .i64 0)] [(some (0, 1), .rv (.int .i64 x))] h fun u h2 => apn 1 8 h2 v u fun w h3 => ixa 1 (.sl h0.length 0 0 n) s fun q => stv 1 h3 q w fun h4 => K h4) = K h4) ∧
      Wr h0 h4 ∧ FA h0 h4 (fun i => if s = i then F i ++ [x] else F i) n cells' := by
  obtain ⟨v, hv⟩ : ∃ v, cells[s]? = some v := ⟨_, List.getElem?_eq_getElem (by rw [k.len]; exact hs)⟩
  obtain ⟨w, h3, hK, kw, hlt, hkeep, how⟩ := (k.ints s v hv).push2 hl x
  have hob := k.ob
  have hol := get_lt hob
  have hne : own v ≠ some h0.length := fun e => by have := k.high s v hv _ e; omega
  have hob3 : h3[h0.length]? = some ⟨0, 1, cells⟩ := by rw [hkeep _ hol hne]; exact hob
  have hown : ∀ o, own w = some o → h0.length < o := by
    intro o ho
    rcases how with e | ⟨o', e, hlt'⟩
    · rw [e] at ho; exact k.high s v hv o ho
    · rw [ho] at e; cases e; omega
  have hsl : s < cells.length := by rw [k.len]; exact hs
  refine ⟨h3.set h0.length ⟨0, 1, cells.set s w⟩, cells.set s w, fun K => ?_, ⟨by simp; omega, fun o ho => ?_⟩, ⟨get_set_eq hob3, by simp [k.len], ?_, ?_, ?_⟩⟩
  · rw [sl_at hs, ldv_at hob hv, hK, sl_at hs, stv_at hob3 hsl kw.cells.2 kw.cells.1]
  · rw [List.getElem?_set_ne (by omega), hkeep o (by omega) (fun e => by have := k.high s v hv o e; omega)]
    exact w0.eq o ho
  · intro i u hu
    rw [List.getElem?_set] at hu
    by_cases e : s = i
    · subst e
      rw [if_pos rfl, if_pos hsl] at hu
      cases hu
      simp only [if_true]
      exact kw.mono fun o ho => List.getElem?_set_ne (by have := hown o ho; omega)
    · rw [if_neg e] at hu
      simp only [if_neg e]
      refine (k.ints i u hu).mono fun o ho => ?_
      have h1 := (k.ints i u hu).ownlt ho
      have h2 := k.high i u hu o ho
      rw [List.getElem?_set_ne (by omega), hkeep o h1 (fun e' => k.dist i s u v (Ne.symm e) hu hv o ho e')]
  · intro i j u u' hij hu hu' o ho ho'
    rw [List.getElem?_set] at hu hu'
    by_cases e : s = i
    · subst e
      rw [if_pos rfl, if_pos hsl] at hu
      cases hu
      rw [if_neg hij] at hu'
      rcases how with e | ⟨o2, e, hlt'⟩
      · rw [e] at ho
        exact k.dist s j v u' hij hv hu' o ho ho'
      · rw [ho] at e; cases e
        have := (k.ints j u' hu').ownlt ho'
        omega
    · rw [if_neg e] at hu
      by_cases e2 : s = j
      · subst e2
        rw [if_pos rfl, if_pos hsl] at hu'
        cases hu'
        rcases how with e | ⟨o2, e, hlt'⟩
        · rw [e] at ho'
          exact k.dist s i v u (fun h => hij h.symm) hv hu o ho' ho
        · rw [ho'] at e; cases e
          have := (k.ints i u hu).ownlt ho
          omega
      · rw [if_neg e2] at hu'
        exact k.dist i j u u' hij hu hu' o ho ho'
  · intro i u hu o ho
    rw [List.getElem?_set] at hu
    by_cases e : s = i
    · subst e
      rw [if_pos rfl, if_pos hsl] at hu
      cases hu
      exact hown o ho
    · rw [if_neg e] at hu
      exact k.high i u hu o ho
theorem froms_len {bs : List Blk} {n : Int} : ∀ {i : Nat}, (∀ (m : Nat) (b : Blk), m < i → bs[m]? = some b → b.succs.length ≤ 2) → (froms bs i n).length ≤ 2 * i
  | 0, _ => by simp [froms]
  | i + 1, h => by
    have ih := froms_len (n := n) (i := i) fun m b hm hb => h m b (by omega) hb
    simp only [froms, List.length_append]
    split
    · rename_i b hb
      have h1 := h i b (by omega) hb
      have h2 := List.count_le_length (a := n) (l := b.succs)
      simp; omega
    · simp; omega
theorem froms'_len {bs : List Blk} {n : Int} {i j : Nat} (h : ∀ (m : Nat) (b : Blk), m < i + 1 → bs[m]? = some b → b.succs.length ≤ 2) : (froms' bs i j n).length ≤ 2 * i + 2 := by
  have ih := froms_len (n := n) (i := i) fun m b hm hb => h m b (by omega) hb
  simp only [froms', List.length_append]
  split
  · rename_i b hb
    have h1 := h i b (by omega) hb
    have h2 := List.count_le_length (a := n) (l := b.succs.take j)
    have h3 : (b.succs.take j).length ≤ b.succs.length := by rw [List.length_take]; omega
    simp only [List.length_replicate]
    omega
  · simp; omega
theorem mks_one' {R : Type} {h : Hp} {z : AV} {n : Nat} (hn : n < 4000000000000) (K : AV → Hp → Option R) : mks 1 24 [z] h n K = K (.sl h.length 0 0 n) (h ++ [⟨0, 1, zrep [z] n⟩]) := by
  have h1 : (n : Int) ≤ room := by simp [room]; omega
  have h2 : (24 : Int) * (n : Int) ≤ room := by simp [room]; omega
  simp [mks, h1, h2]
/-- The end of it all. -/
def FEnd (h0 : Hp) (ok : Nat) (cells : List AV) (P : List Nat) (Q : Prop) (o : Option (ARes × Hp)) : Prop :=
  (Q → ∃ h' x, o = some (.ret undefA, h') ∧ IsInts x (P.map Int.ofNat) ∧ h'[ok]? = some ⟨0, 1, cells.set 10 (.rv x)⟩ ∧ ∀ o, o < h0.length → o ≠ ok → h'[o]? = h0[o]?) ∧
  (¬ Q → ∃ h', o = some (.pan (.rv (errA 131)), h') ∧ ∀ o, o < h0.length → o ≠ ok → h'[o]? = h0[o]?)
theorem FEnd.bad {h0 h : Hp} {ok : Nat} {cells : List AV} {P : List Nat} {Q : Prop} (hq : ¬ Q) (w : Wr h0 h) : FEnd h0 ok cells P Q (some (.pan (.rv (errA 131)), h)) :=
  ⟨fun q => absurd q hq, fun _ => ⟨h, rfl, fun o ho _ => w.eq o ho⟩⟩
section
variable {h0 : Hp} {ok : Nat} {ucells : List AV} {p r v b : RV} {d : Cd} {P : List Nat} {tail : List AV}
/-- The checker's cells. -/
abbrev ckCells (u1 u2 : AV) (p r v b : RV) (tail : List AV) : List AV := u1 :: u2 :: .rv p :: .rv r :: .rv v :: .rv b :: tail
theorem flow_count {u1 u2 : AV} (hd : IsCd [p, r, v, b] d) (htl : tail.length = 5) (hsh : d.blocks.length ≤ 4096) (ho0 : h0[ok]? = some ⟨0, 1, ckCells u1 u2 p r v b tail⟩) {x : RV} (hx : IsInts x (P.map Int.ofNat)) (hPl : P.length ≤ d.blocks.length)
    (Q : Prop) (hQ : Q ↔ P.length + d.blocks.countP (fun b => b.kind == 0) = d.blocks.length) (k M : Nat) : ∀ (m i N : Nat) (h : Hp), i + m = d.blocks.length → m < N →
      h[ok]? = some ⟨0, 1, (ckCells u1 u2 p r v b tail).set 10 (.rv x)⟩ → (∀ o, o < h0.length → o ≠ ok → h[o]? = h0[o]?) →
      FEnd h0 ok (ckCells u1 u2 p r v b tail) P Q (ssa_checker_flow_l4084 k N M (.ptr ok 0 0) ((d.blocks.take i).countP (fun b => b.kind == 0) : Nat) (.rv b) d.blocks.length i h) := by
  obtain ⟨p, r, v, b, e, _, _, _, hb⟩ := hd
  cases e
  have c5 : ((ckCells u1 u2 p r v b tail).set 10 (.rv x))[5]? = some (.rv b) := by simp [ckCells]
  have c10 : ((ckCells u1 u2 p r v b tail).set 10 (.rv x))[10]? = some (.rv x) := by
    rw [List.getElem?_set_self (by simp [ckCells, htl])]
  intro m
  induction m with
  | zero =>
    intro i N h hi hN ho hfr
    obtain ⟨N, rfl⟩ : ∃ N', N = N' + 1 := ⟨N - 1, by omega⟩
    have hle : (d.blocks.take i).countP (fun b => b.kind == 0) ≤ 4096 := Nat.le_trans List.countP_le_length (by simp; omega)
    rw [List.take_of_length_le (by omega)] at hle ⊢
    rw [ssa_checker_flow_l4084_eq, bsp_not (decide_eq_false (by omega)), ssa_checker_flow_p511_eq, nck_ptr, pad_ptr, ldv_at ho c10, hx.len, nck_ptr, pad_ptr, pad_ptr, ldv_at ho c5, hb.len, must_call, List.length_map,
      wri_small (n := (P.length : Int) + (d.blocks.countP (fun b => b.kind == 0) : Nat)) (by omega) (by omega)]
    by_cases e : P.length + d.blocks.countP (fun b => b.kind == 0) = d.blocks.length
    · rw [if_pos (by simp; omega)]
      exact ⟨fun _ => ⟨h, x, rfl, hx, ho, hfr⟩, fun hq => absurd (hQ.2 e) hq⟩
    · rw [if_neg (by simp; omega)]
      exact ⟨fun q => absurd (hQ.1 q) e, fun _ => ⟨h, rfl, hfr⟩⟩
  | succ m ih =>
    intro i N h hi hN ho hfr
    obtain ⟨N, rfl⟩ : ∃ N', N = N' + 1 := ⟨N - 1, by omega⟩
    have hlt : i < d.blocks.length := by omega
    obtain ⟨a, q, s, t, k1, k2, k3, k4, hcp⟩ := blk_copy hb hlt
    have hle : (d.blocks.take i).countP (fun b => b.kind == 0) ≤ 4096 := Nat.le_trans List.countP_le_length (by simp; omega)
    have hq := get_new (h := h) ⟨0, 1, blkCells d.blocks[i] a q s t⟩
    have hc : (d.blocks.take (i + 1)).countP (fun b => b.kind == 0) = (d.blocks.take i).countP (fun b => b.kind == 0) + if d.blocks[i].kind = 0 then 1 else 0 := by
      rw [List.take_add_one, List.getElem?_eq_getElem hlt, List.countP_append]
      simp [List.countP_cons]
    have next := ih (i + 1) N (h ++ [⟨0, 1, blkCells d.blocks[i] a q s t⟩]) (by omega) (by omega) (get_old ho _) (fun o ho' hne => by
      rw [← hfr o ho' hne]
      exact List.getElem?_append_left (by
        apply Classical.byContradiction
        intro hge
        have h1 := hfr o ho' hne
        rw [List.getElem?_eq_none (by omega), List.getElem?_eq_getElem ho'] at h1
        cases h1))
    rw [hc] at next
    rw [ssa_checker_flow_l4084_eq, bsp_of (decide_eq_true (by omega)), hcp, pad_ptr, ldi_at hq rfl]
    by_cases e : d.blocks[i].kind = 0
    · rw [if_pos e] at next
      rw [bsp_of (by simpa using e), ssa_checker_flow_p32679_eq, wri_succ (by omega), wri_succ (by omega)]
      exact next
    · rw [if_neg e] at next
      rw [bsp_not (by simpa using e), ssa_checker_flow_p32679_eq, wri_succ (by omega)]
      exact next
theorem flow_preds {u1 u2 : AV} (hd : IsCd [p, r, v, b] d) (htl : tail.length = 5) (hsh : d.blocks.length ≤ 4096) (hsu : ∀ (m : Nat) (b : Blk), m < d.blocks.length → d.blocks[m]? = some b → b.succs.length ≤ 2) (hok : okSuccs d.blocks) (hl0 : 0 < d.blocks.length) (hP : IsPost d.blocks P) (ho0 : h0[ok]? = some ⟨0, 1, ckCells u1 u2 p r v b tail⟩)
    (Q : Prop) (hQ1 : Q → ∀ (n : Nat) (b : Blk), d.blocks[n]? = some b → sortL b.preds = froms d.blocks d.blocks.length n) (k M : Nat) (hk : 1000000000 < k)
    (hQ2 : (∀ (n : Nat) (b : Blk), d.blocks[n]? = some b → sortL b.preds = froms d.blocks d.blocks.length n) → (Q ↔ P.length + d.blocks.countP (fun b => b.kind == 0) = d.blocks.length)) {cells : List AV} :
    ∀ (m i N : Nat) (h : Hp), i + m = d.blocks.length → m < N → Wr h0 h → FA h0 h (fun i => froms d.blocks d.blocks.length i) d.blocks.length cells → (∀ (n : Nat) (b : Blk), n < i → d.blocks[n]? = some b → sortL b.preds = froms d.blocks d.blocks.length n) →
      FEnd h0 ok (ckCells u1 u2 p r v b tail) P Q (ssa_checker_flow_l500 k N M (.ptr ok 0 0) (.sl h0.length 0 0 d.blocks.length) (.rv b) d.blocks.length i h) := by
  have hd' := hd
  obtain ⟨p, r, v, b, e, k1, k2, k3, hb⟩ := hd
  cases e
  intro m
  induction m with
  | zero =>
    intro i N h hi hN w f hp
    obtain ⟨N, rfl⟩ : ∃ N', N = N' + 1 := ⟨N - 1, by omega⟩
    have ho := w.ge ho0
    obtain ⟨x, hx, hix⟩ := reached_spec hd' ⟨hl0, hsh⟩ hok hP
    have hl4 : ldg 4 h (.ptr ok 0 2) = fun K : AV → Option (ARes × Hp) => K (.agg [.rv p, .rv r, .rv v, .rv b]) := by
      funext K
      simp [ldg, cellsN, cellAt, ho, ckCells]
    have hone : oneA (.rv x) = true := hix.one
    rw [ssa_checker_flow_l500_eq, bsp_not (decide_eq_false (by omega)), ssa_checker_flow_p63_eq, nck_ptr, pad_ptr, hl4]
    simp only
    rw [callP_ret (by simp [toRV, depthA]) hx (.inl rfl), nck_ptr, pad_ptr, stv_at ho (by simp [ckCells, htl]) hix.one hix.cells, nck_ptr, pad_ptr, pad_ptr, ldv_at (get_set_eq ho) (x := .rv b) (by simp [ckCells]), hb.len]
    have hall : ∀ (n : Nat) (b : Blk), d.blocks[n]? = some b → sortL b.preds = froms d.blocks d.blocks.length n := fun n b hb => hp n b (by have := (List.getElem?_eq_some_iff.1 hb).1; omega) hb
    have := flow_count hd' htl hsh ho0 hix (hP.facts hok hl0).2.2 Q (hQ2 hall) k (h.set ok ⟨0, 1, (ckCells u1 u2 p r v b tail).set 10 (.rv x)⟩).length d.blocks.length 0 k (h.set ok ⟨0, 1, (ckCells u1 u2 p r v b tail).set 10 (.rv x)⟩) (by omega) (by omega) (get_set_eq ho)
      (fun o ho' hne => by rw [List.getElem?_set_ne (fun e => hne e.symm)]; exact w.eq o ho')
    simpa [ckCells] using this
  | succ m ih =>
    intro i N h hi hN w f hp
    obtain ⟨N, rfl⟩ : ∃ N', N = N' + 1 := ⟨N - 1, by omega⟩
    have hlt : i < d.blocks.length := by omega
    obtain ⟨a, q, s, t, k1, k2, k3, k4, hcp⟩ := blk_copy hb hlt
    have hq := get_new (h := h) ⟨0, 1, blkCells d.blocks[i] a q s t⟩
    rw [ssa_checker_flow_l500_eq, bsp_of (decide_eq_true (by omega)), hcp, pad_ptr, ldv_at hq rfl]
    have w1 := w.app [⟨0, 1, blkCells d.blocks[i] a q s t⟩]
    have f1 := f.app [⟨0, 1, blkCells d.blocks[i] a q s t⟩]
    generalize h ++ [(⟨0, 1, blkCells d.blocks[i] a q s t⟩ : Ob)] = h1 at w1 f1 ⊢
    have hs2 := k2.short
    obtain ⟨vc, hvc⟩ : ∃ vc, cells[i]? = some vc := ⟨_, List.getElem?_eq_getElem (by rw [f.len]; exact hlt)⟩
    have hfl : (froms d.blocks d.blocks.length i).length < 1000000000 := by
      have := froms_len (n := (i : Int)) hsu
      omega
    have tail : ∀ (r62 : AV) (x1 : RV) (h2 : Hp), Wr h0 h2 → FA h0 h2 (fun i => froms d.blocks d.blocks.length i) d.blocks.length cells → toRV h2 depthA r62 = some x1 → IsInts x1 (sortL d.blocks[i].preds) →
        FEnd h0 ok (ckCells u1 u2 p r v b tail) P Q (ixa 1 (.sl h0.length 0 0 d.blocks.length) i fun p70 => ldv h2 p70 fun v71 => callP F_slices_Equal_int h2 [r62, v71] (fun r72 => asBool r72 fun b74 => callP F_ssa_must h2 [(.rv (.bool b74)), (.rv (.int .i64 131))] (fun r75 => ssa_checker_flow_l500 k N M (.ptr ok 0 0) (.sl h0.length 0 0 d.blocks.length) (.rv b) d.blocks.length (wri .i64 ((i : Int) + 1)) h2) (fun q76 => some (.pan q76, h2))) (fun q73 => some (.pan q73, h2))) := by
      intro r62 x1 h2 w2 f2 hr1 hx1
      obtain ⟨x2, hr2, hx2⟩ := (f2.ints i vc hvc).done hfl
      rw [sl_at hlt, ldv_at f2.ob hvc, callP_ret (by simp [hr1, hr2]) (Equal_spec hx1 hx2) (.inr rfl), asBool_b, must_call, wri_succ (by omega)]
      by_cases e : sortL d.blocks[i].preds = froms d.blocks d.blocks.length i
      · rw [if_pos (by simpa using e)]
        refine ih (i + 1) N h2 (by omega) (by omega) w2 f2 fun n c hn hc => ?_
        rcases Nat.lt_or_ge n i with hlt' | hge
        · exact hp n c hlt' hc
        · obtain rfl : n = i := by omega
          rw [List.getElem?_eq_getElem hlt] at hc
          cases hc
          exact e
      · rw [if_neg (by simpa using e)]
        exact .bad (fun q => e (hQ1 q i _ (List.getElem?_eq_getElem hlt))) w2
    rcases Clone_spec k2 h1 with ⟨rfl, hcl⟩ | ⟨l, o, ver, hcl, ho, hge⟩
    · rw [callG_ret hcl, callG_ret (Sort_nil h1)]
      refine tail (.rv .nils) .nils h1 w1 f1 rfl ?_
      have : d.blocks[i].preds = [] := by
        cases hp' : d.blocks[i].preds with
        | nil => rfl
        | cons z zs => rw [hp'] at k2; cases k2
      rw [this]
      simpa [sortL] using IsInts.nil
    · rw [callG_ret hcl, callG_ret (Sort_spec ho hs2)]
      have hlen := sortL_length d.blocks[i].preds
      refine tail _ (.ros (ints (sortL d.blocks[i].preds)) (sortL d.blocks[i].preds).length) _ (w1.set_high l hge _) (f1.set_high l hge _) ?_ (.mk _ (by omega))
      have := toRV_ints (xs := sortL d.blocks[i].preds) (get_set_eq (ob := ⟨ver, 1, (sortL d.blocks[i].preds).map ai⟩) ho)
      rw [hlen] at this ⊢
      exact this
theorem flow_inner {u1 u2 : AV} (hd : IsCd [p, r, v, b] d) (hsh : d.blocks.length ≤ 4096) (hok : okSuccs d.blocks) (Q : Prop) (k N M M' i : Nat) {bi : Blk} (hbi : d.blocks[i]? = some bi) {sv : RV} (hsv : IsInts sv bi.succs)
    (hsu : ∀ (m : Nat) (b : Blk), m < i + 1 → d.blocks[m]? = some b → b.succs.length ≤ 2)
    (outer : ∀ cells h, Wr h0 h → FA h0 h (fun n => froms d.blocks (i + 1) n) d.blocks.length cells → FEnd h0 ok (ckCells u1 u2 p r v b tail) P Q (ssa_checker_flow_l116 k N M (.ptr ok 0 0) (.sl h0.length 0 0 d.blocks.length) (.rv b) d.blocks.length ((i + 1 : Nat) : Int) h)) :
    ∀ (m j N' : Nat) (cells : List AV) (h : Hp), j + m = bi.succs.length → m < N' → Wr h0 h → FA h0 h (fun n => froms' d.blocks i j n) d.blocks.length cells →
      FEnd h0 ok (ckCells u1 u2 p r v b tail) P Q (ssa_checker_flow_l239228 k N M N' M' (.ptr ok 0 0) (.sl h0.length 0 0 d.blocks.length) i (.rv b) d.blocks.length i (.rv sv) bi.succs.length j h) := by
  have hil := (List.getElem?_eq_some_iff.1 hbi).1
  have hs := hsv.short
  intro m
  induction m with
  | zero =>
    intro j N' cells h hj hN w f
    obtain ⟨N', rfl⟩ : ∃ q, N' = q + 1 := ⟨N' - 1, by omega⟩
    rw [ssa_checker_flow_l239228_eq, bsp_not (decide_eq_false (by omega)), ssa_checker_flow_p935_eq, wri_succ (by omega)]
    have : (fun n : Nat => froms' d.blocks i j n) = fun n : Nat => froms d.blocks (i + 1) n := by
      funext n
      exact froms'_end hbi (by omega)
    rw [this] at f
    exact outer cells h w f
  | succ m ih =>
    intro j N' cells h hj hN w f
    obtain ⟨N', rfl⟩ : ∃ q, N' = q + 1 := ⟨N' - 1, by omega⟩
    have hjl : j < bi.succs.length := by omega
    obtain ⟨n, hn, hnl⟩ := hok i bi hbi bi.succs[j] (List.getElem_mem hjl)
    have hlen := froms'_len (n := (n : Int)) (j := j) hsu
    obtain ⟨h4, cells', hK, w', f'⟩ := f.push w hnl (by omega) (i : Int)
    rw [ssa_checker_flow_l239228_eq, bsp_of (decide_eq_true (by omega)), hsv.at hjl, hn, hK, wri_succ (by omega)]
    refine ih (j + 1) N' cells' h4 (by omega) (by omega) w' ?_
    have : (fun q : Nat => froms' d.blocks i (j + 1) q) = fun q : Nat => if n = q then froms' d.blocks i j q ++ [(i : Int)] else froms' d.blocks i j q := by
      funext q
      rw [froms'_succ hbi (show bi.succs[j]? = some (n : Int) by rw [List.getElem?_eq_getElem hjl, hn])]
      by_cases e : n = q
      · subst e; simp
      · rw [if_neg e, if_neg (by omega)]
    rw [this]
    exact f'
theorem flow_outer {u1 u2 : AV} (hd : IsCd [p, r, v, b] d) (htl : tail.length = 5) (hf : formOk d.blocks = true) (hP : IsPost d.blocks P) (hhead : ∀ b, d.blocks[0]? = some b → b.kind ≠ 0) (ho0 : h0[ok]? = some ⟨0, 1, ckCells u1 u2 p r v b tail⟩) (k M : Nat) (hk : 1000000000 < k) :
    ∀ (m i N : Nat) (cells : List AV) (h : Hp), i + m = d.blocks.length → m < N → Wr h0 h → FA h0 h (fun n => froms d.blocks i n) d.blocks.length cells → (∀ (m : Nat) (b : Blk), m < i → d.blocks[m]? = some b → (b.succs.length : Int) = wants b.kind) →
      FEnd h0 ok (ckCells u1 u2 p r v b tail) P (FlowP d.blocks P) (ssa_checker_flow_l116 k N M (.ptr ok 0 0) (.sl h0.length 0 0 d.blocks.length) (.rv b) d.blocks.length i h) := by
  have hd' := hd
  have hok := formOk_succs hf
  have hl : 0 < d.blocks.length ∧ d.blocks.length ≤ 4096 := by
    simp only [formOk, Bool.and_eq_true, decide_eq_true_eq] at hf
    exact hf.1
  have two : ∀ b : Blk, (b.succs.length : Int) = wants b.kind → b.succs.length ≤ 2 := by
    intro b hb
    unfold wants at hb
    split at hb
    · omega
    · split at hb <;> omega
  obtain ⟨p, r, v, b, e, _, _, _, hb⟩ := hd
  cases e
  intro m
  induction m with
  | zero =>
    intro i N cells h hi hN w f hsu
    obtain ⟨N, rfl⟩ : ∃ N', N = N' + 1 := ⟨N - 1, by omega⟩
    obtain rfl : i = d.blocks.length := by omega
    obtain ⟨vc, hvc⟩ : ∃ vc, cells[0]? = some vc := ⟨_, List.getElem?_eq_getElem (by rw [f.len]; exact hl.1)⟩
    have e0 : ∀ K : AV → Option (ARes × Hp), ixa 1 (.sl h0.length 0 0 d.blocks.length) 0 K = K (.ptr h0.length 0 0) := fun K => sl_at (i := 0) hl.1 K
    rw [ssa_checker_flow_l116_eq, bsp_not (decide_eq_false (by omega)), ssa_checker_flow_p15_eq, e0, ldv_at f.ob hvc, (f.ints 0 vc hvc).lna, must_call]
    have hz : ((froms d.blocks d.blocks.length (0 : Nat)).length : Int) == 0 ↔ froms d.blocks d.blocks.length 0 = [] := by
      rw [show ((0 : Nat) : Int) = 0 from rfl, beq_iff_eq]
      rw [← List.length_eq_zero_iff]
      omega
    by_cases e : froms d.blocks d.blocks.length 0 = []
    · have ho := w.ge ho0
      rw [if_pos (hz.2 e), nck_ptr, pad_ptr, pad_ptr, ldv_at ho (x := .rv b) rfl, hb.len, show ((0 : Int)) = ((0 : Nat) : Int) from rfl]
      have hs' : ∀ b ∈ d.blocks, (b.succs.length : Int) = wants b.kind := by
        intro b hb
        obtain ⟨i, hi⟩ := List.getElem?_of_mem hb
        exact hsu i b (List.getElem?_eq_some_iff.1 hi).1 hi
      exact flow_preds hd' htl hl.2 (fun m b hm hb => two b (hsu m b hm hb)) hok hl.1 hP ho0 _ (fun q => q.preds) k h.length hk (fun hp => ⟨fun q => q.all, fun ha => ⟨hhead, hs', e, hp, ha⟩⟩) d.blocks.length 0 k h (by omega) (by omega) w f (fun n b hn => by omega)
    · rw [if_neg (fun h => e (hz.1 h))]
      exact .bad (fun q => e q.none) w
  | succ m ih =>
    intro i N cells h hi hN w f hsu
    obtain ⟨N, rfl⟩ : ∃ N', N = N' + 1 := ⟨N - 1, by omega⟩
    have hlt : i < d.blocks.length := by omega
    have hbi : d.blocks[i]? = some d.blocks[i] := List.getElem?_eq_getElem hlt
    obtain ⟨a, q, s, t, k1, k2, k3, k4, hcp⟩ := blk_copy hb hlt
    have hq := get_new (h := h) ⟨0, 1, blkCells d.blocks[i] a q s t⟩
    have w1 := w.app [⟨0, 1, blkCells d.blocks[i] a q s t⟩]
    have f1 := f.app [⟨0, 1, blkCells d.blocks[i] a q s t⟩]
    rw [ssa_checker_flow_l116_eq, bsp_of (decide_eq_true (by omega)), hcp, pad_ptr, ldi_at hq rfl]
    generalize h.length = oq at hq ⊢
    generalize h ++ [(⟨0, 1, blkCells d.blocks[i] a q s t⟩ : Ob)] = h1 at w1 f1 hq ⊢
    have hs3 := k3.short
    have main : ∀ n : Int, n = wants d.blocks[i].kind → FEnd h0 ok (ckCells u1 u2 p r v b tail) P (FlowP d.blocks P) (ssa_checker_flow_p14951 k N M (.ptr ok 0 0) (.sl h0.length 0 0 d.blocks.length) i (.ptr oq 0 0) n (.rv b) d.blocks.length i h1) := by
      intro n hn
      rw [ssa_checker_flow_p14951_eq, pad_ptr, ldv_at hq rfl, k3.len, must_call]
      by_cases e : (d.blocks[i].succs.length : Int) = n
      · have hsu' : ∀ (m : Nat) (b : Blk), m < i + 1 → d.blocks[m]? = some b → (b.succs.length : Int) = wants b.kind := by
          intro m c hm hc
          rcases Nat.lt_or_ge m i with hlt' | hge
          · exact hsu m c hlt' hc
          · obtain rfl : m = i := by omega
            rw [hbi] at hc
            cases hc
            rw [e, hn]
        rw [if_pos (by simpa using e), pad_ptr, ldv_at hq rfl, k3.len, show ((0 : Int)) = ((0 : Nat) : Int) from rfl]
        refine flow_inner hd' hl.2 hok _ k N M _ i hbi k3 (fun m b hm hb => two b (hsu' m b hm hb)) (fun cells h w f => ih (i + 1) N cells h (by omega) (by omega) w f hsu') d.blocks[i].succs.length 0 k cells h1 (by omega) (by omega) w1 ?_
        have : (fun n : Nat => froms' d.blocks i 0 n) = fun n : Nat => froms d.blocks i n := by
          funext n
          exact froms'_zero
        rw [this]
        exact f1
      · rw [if_neg (by simpa using e)]
        exact .bad (fun q => e (by rw [hn]; exact q.succs _ (List.getElem_mem hlt))) w1
    by_cases g1 : d.blocks[i].kind = 1
    · rw [bsp_of (by simpa using g1)]
      exact main 1 (by unfold wants; rw [if_pos g1])
    · rw [bsp_not (by simpa using g1)]
      by_cases g2 : d.blocks[i].kind = 2
      · rw [bsp_of (by simpa using g2)]
        exact main 2 (by unfold wants; rw [if_neg g1, if_pos g2])
      · rw [bsp_not (by simpa using g2)]
        exact main 0 (by unfold wants; rw [if_neg g1, if_neg g2])
theorem flow_spec {u1 u2 : AV} (hd : IsCd [p, r, v, b] d) (htl : tail.length = 5) (hf : formOk d.blocks = true) (hP : IsPost d.blocks P) (ho0 : h0[ok]? = some ⟨0, 1, ckCells u1 u2 p r v b tail⟩) :
    FEnd h0 ok (ckCells u1 u2 p r v b tail) P (FlowP d.blocks P) (G_ssa_checker_flow [.ptr ok 0 0] h0) := by
  have hd' := hd
  have hl : 0 < d.blocks.length ∧ d.blocks.length ≤ 4096 := by
    simp only [formOk, Bool.and_eq_true, decide_eq_true_eq] at hf
    exact hf.1
  obtain ⟨p, r, v, b, e, _, _, _, hb⟩ := hd
  cases e
  unfold G_ssa_checker_flow
  rw [ssa_checker_flow_eq, callG_ret (isBlock_spec ho0 (b := b) rfl hb 0), asBool_b, must_call]
  have h00 : d.blocks[0]? = some d.blocks[0] := List.getElem?_eq_getElem hl.1
  have e0 : isBlkN d.blocks 0 = (d.blocks[0].kind != 0) := by simp [isBlkN, h00]
  by_cases h0' : d.blocks[0].kind = 0
  · rw [if_neg (by simp [e0, h0'])]
    exact ⟨fun q => absurd h0' (q.head _ h00), fun _ => ⟨h0, rfl, fun _ _ _ => rfl⟩⟩
  · rw [if_pos (by simp [e0, h0']), nck_ptr, pad_ptr, pad_ptr, ldv_at ho0 (x := .rv b) rfl, hb.len, mks_one' (by omega), nck_ptr, pad_ptr, pad_ptr, ldv_at (get_old ho0 _) (x := .rv b) rfl, hb.len, show ((0 : Int)) = ((0 : Nat) : Int) from rfl]
    have hz : zrep [.rv .nils] d.blocks.length = List.replicate d.blocks.length (.rv .nils) := by simp [zrep]
    have hcell : ∀ (i : Nat) (v : AV), (zrep [.rv .nils] d.blocks.length)[i]? = some v → v = .rv .nils := by
      intro i v hv
      rw [hz, List.getElem?_replicate] at hv
      split at hv
      · cases hv; rfl
      · cases hv
    refine flow_outer hd' htl hf hP (fun b hb => by rw [h00] at hb; cases hb; exact h0') ho0 big _ (by rw [big_val]; omega) d.blocks.length 0 big (zrep [.rv .nils] d.blocks.length) _ (by omega) (by rw [big_val]; omega)
      ⟨by simp, fun o ho => List.getElem?_append_left ho⟩ ⟨get_new _, by simp [zrep], ?_, ?_, ?_⟩ (fun m b hm => by omega)
    · intro i v hv
      rw [hcell i v hv]
      exact .nil
    · intro i j v w _ hv _ o ho
      rw [hcell i v hv] at ho
      cases ho
    · intro i v hv o ho
      rw [hcell i v hv] at ho
      cases ho
end
end Go.Proofs.Ytknphnmhjmejaaa
/-  What the program's Flow and its Post tell. No conditions. -/
namespace Go.Proofs.Ytknphnmhjmejaaa
set_option linter.unusedVariables false
theorem caught_none (xs : List AV) (o v off : Nat) (h : Hp) : D_ssa_caught none [.ptr o v off] h = some h := by
  unfold D_ssa_caught
  rw [ssa_caught_eq]
  rfl
theorem caught_some {o v es off : Nat} {cells : List AV} {h : Hp} (ho : h[o]? = some ⟨v, es, cells⟩) (hl : off < cells.length) (e : Int) : D_ssa_caught (some (.rv (errA e))) [.ptr o v off] h = some (h.set o ⟨v, es, cells.set off (ai e)⟩) := by
  have h1 : ∀ (K : Bool → Option Hp), nilEq false 4 (recV (some (.rv (errA e)))) K = K false := fun K => rfl
  have h2 : ∀ (K : AV → Option Hp), tasA 32 (some (.rv (.int .i64 0))) (recV (some (.rv (errA e)))) K = K (.tuple [.rv (I e), ab true]) := fun K => rfl
  have h3 : ∀ (K : AV → Option Hp), xtr (.tuple [.rv (I e), ab true]) 0 K = K (.rv (I e)) := fun K => rfl
  have h4 : ∀ (K : AV → Option Hp), xtr (.tuple [.rv (I e), ab true]) 1 K = K (ab true) := fun K => rfl
  unfold D_ssa_caught
  rw [ssa_caught_eq, h1, bsp_not rfl, h2, h3, asInt_i, h4, asBool_b, bsp_not (by rfl), ssa_caught_p31_eq, nck_ptr, stv_at ho hl rfl rfl]
theorem fdk_some {R : Type} {D : Dfd} {pv : Option AV} {dargs : List AV} {h h' : Hp} (e : D pv dargs h = some h') (K : Hp → Option R) : fdk D pv dargs h K = K h' := by
  simp only [fdk, e]
theorem ssaFlow_spec {cs : List RV} {d : Cd} (hd : IsCd cs d) :
    (formOk d.blocks = false → F_ssa_Flow [.agg cs] = some (.ret (I 130))) ∧ (formOk d.blocks = true → FlowOk d.blocks → F_ssa_Flow [.agg cs] = some (.ret (I 0))) ∧ (formOk d.blocks = true → ¬ FlowOk d.blocks → F_ssa_Flow [.agg cs] = some (.ret (I 131))) := by
  have hd' := hd
  obtain ⟨p, r, v, b, rfl, _, _, _, hb⟩ := hd
  let h8 : Hp := [⟨0, 1, [.rv p, .rv r, .rv v, .rv b]⟩, ⟨0, 1, [ai 0]⟩, ⟨0, 1, ckCells (.rv .nils) (.rv .nils) p r v b [.rv .nils, .rv .nils, .rv .nilp, .rv .nils, .rv .nils]⟩]
  have start : F_ssa_Flow [.agg [p, r, v, b]] = pureR (callG G_ssa_checker_shape h8 [.ptr 2 0 0] (fun r9 h11 => callG G_ssa_checker_flow h11 [.ptr 2 0 0] (fun r13 h15 => stv 1 h15 (.ptr 1 0 0) (.rv (.int .i64 0)) fun h17 => fdk D_ssa_caught none [.ptr 1 0 0] h17 fun h18 => finR ((cellAt h18 (.ptr 1 0 0) 0)) h18)
      (fun q14 h16 => fdk D_ssa_caught (some q14) [.ptr 1 0 0] h16 fun h19 => finR ((cellAt h19 (.ptr 1 0 0) 0)) h19)) (fun q10 h12 => fdk D_ssa_caught (some q10) [.ptr 1 0 0] h12 fun h20 => finR ((cellAt h20 (.ptr 1 0 0) 0)) h20)) := by
    unfold F_ssa_Flow
    rw [List.map_cons, List.map_nil, ssa_Flow_eq]
    rfl
  have ho0 : h8[2]? = some ⟨0, 1, ckCells (.rv .nils) (.rv .nils) p r v b [.rv .nils, .rv .nils, .rv .nilp, .rv .nils, .rv .nils]⟩ := rfl
  obtain ⟨l, hs⟩ := shape_spec (cells := ckCells (.rv .nils) (.rv .nils) p r v b [.rv .nils, .rv .nils, .rv .nilp, .rv .nils, .rv .nils]) rfl hb h8 ho0
  have thrown : ∀ (h : Hp) (e : Int), h[1]? = some ⟨0, 1, [ai 0]⟩ → pureR (fdk D_ssa_caught (some (.rv (errA e))) [.ptr 1 0 0] h fun h19 => finR ((cellAt h19 (.ptr 1 0 0) 0)) h19) = some (.ret (I e)) := by
    intro h e ho
    rw [fdk_some (caught_some ho (by simp) e)]
    simp [cellAt, finR, pureR, toRV, depthA, (List.getElem?_eq_some_iff.1 ho).1]
  rw [start]
  cases hf : formOk d.blocks with
  | false =>
    rw [hf] at hs
    refine ⟨fun _ => ?_, fun h => (by cases h), fun h => (by cases h)⟩
    rw [callG_pan hs]
    exact thrown _ 130 rfl
  | true =>
    rw [hf] at hs
    have hl : 0 < d.blocks.length := by
      simp only [formOk, Bool.and_eq_true, decide_eq_true_eq] at hf
      exact hf.1.1
    obtain ⟨P, hP⟩ := IsPost.ex (formOk_succs hf) hl
    have hfl := flow_spec (h0 := h8 ++ l) hd' rfl hf hP (get_old ho0 l)
    rw [callG_ret hs]
    refine ⟨fun h => (by cases h), fun _ q => ?_, fun _ q => ?_⟩
    · obtain ⟨h', x, e, hx, hok, hfr⟩ := hfl.1 ((flowP_iff hf hP).2 q)
      have h1 : h'[1]? = some ⟨0, 1, [ai 0]⟩ := by rw [hfr 1 (by simp [h8]) (by omega)]; rfl
      rw [callG_ret e, stv_at h1 (by simp) rfl rfl, fdk_some (caught_none [] 1 0 0 _)]
      simp [cellAt, finR, pureR, toRV, depthA, (List.getElem?_eq_some_iff.1 h1).1]
    · obtain ⟨h', e, hfr⟩ := hfl.2 (fun k => q ((flowP_iff hf hP).1 k))
      have h1 : h'[1]? = some ⟨0, 1, [ai 0]⟩ := by rw [hfr 1 (by simp [h8]) (by omega)]; rfl
      rw [callG_pan e]
      exact thrown h' 131 h1
/-! ### A sparse set -/
/-- A list of numbers with some cells behind it. -/
inductive IntsJ (h : Hp) : AV → List Int → Prop
  | nil : IntsJ h (.rv .nils) []
  | mk {o v : Nat} {xs : List Int} {junk : List AV} (ho : h[o]? = some ⟨v, 1, xs.map ai ++ junk⟩) : IntsJ h (.sl o v 0 xs.length) xs
theorem IntsJ.lna {R : Type} {h : Hp} {v : AV} {xs : List Int} (k : IntsJ h v xs) (K : Int → Option R) : lna v K = K xs.length := by
  cases k <;> rfl
theorem IntsJ.mono {h h' : Hp} {v : AV} {xs : List Int} (k : IntsJ h v xs) (hk : ∀ o, own v = some o → h'[o]? = h[o]?) : IntsJ h' v xs := by
  cases k with
  | nil => exact .nil
  | mk h1 => exact .mk (by rw [hk _ rfl]; exact h1)
theorem IntsJ.ownlt {h : Hp} {v : AV} {xs : List Int} (k : IntsJ h v xs) {o : Nat} (ho : own v = some o) : o < h.length := by
  cases k with
  | nil => cases ho
  | mk h1 => cases ho; exact get_lt h1
theorem IntsJ.cells {h : Hp} {v : AV} {xs : List Int} (k : IntsJ h v xs) : vcells v = some [v] ∧ oneA v = true := by
  cases k <;> exact ⟨rfl, rfl⟩
theorem IntsJ.at {R : Type} {h : Hp} {v : AV} {xs : List Int} (k : IntsJ h v xs) {i : Nat} (hi : i < xs.length) (K : Int → Option R) : (ixa 1 v i fun p => ldi .i64 h p K) = K xs[i] := by
  cases k with
  | nil => simp at hi
  | mk ho =>
    rw [sl_at hi, ldi_at (n := xs[i]) ho]
    rw [List.getElem?_append_left (by simpa using hi), List.getElem?_map, List.getElem?_eq_getElem hi]
    rfl
theorem IntsJ.done2 {h : Hp} {v : AV} {xs : List Int} (k : IntsJ h v xs) (hl : xs.length < 1000000000) : ∃ x, (∀ n, toRV h (n + 2) v = some x) ∧ IsInts x xs := by
  cases k with
  | nil => exact ⟨.nils, fun _ => rfl, .nil⟩
  | @mk o v xs junk ho =>
    refine ⟨.ros (ints xs) xs.length, fun n => ?_, .mk xs hl⟩
    have h1 : ((xs.map ai ++ junk).drop 0).take (xs.length * 1) = xs.map ai := by
      rw [List.drop_zero, List.take_append_of_le_length (by simp), List.take_of_length_le (by simp)]
    simp only [toRV, ho]
    rw [if_pos (by simp), h1, show xs.map ai = xs.map (fun x => AV.rv (I x)) from rfl, mapM_ints]
    rfl
theorem IntsJ.done {h : Hp} {v : AV} {xs : List Int} (k : IntsJ h v xs) (hl : xs.length < 1000000000) : ∃ x, toRV h depthA v = some x ∧ IsInts x xs := by
  obtain ⟨x, hx, hi⟩ := k.done2 hl
  exact ⟨x, hx 10, hi⟩
theorem IntsJ.push {h : Hp} {v : AV} {xs : List Int} (k : IntsJ h v xs) (hl : xs.length < 1000000000) (x : Int) : ∃ w h3, (∀ {R : Type} (K : AV → Hp → Option R),
    (bsl 1 1 [.rv (.int .i64 0)] [(some (0, 1), .rv (.int .i64 x))] h fun u h2 => apn 1 8 h2 v u fun w h3 => K w h3) = K w h3) ∧ IntsJ h3 w (xs ++ [x]) ∧ h.length < h3.length ∧ (∀ o, o < h.length → own v ≠ some o → h3[o]? = h[o]?) ∧ (own w = own v ∨ ∃ o, own w = some o ∧ h.length < o) := by
  cases k with
  | nil =>
    refine ⟨_, _, fun K => by rw [bsl_one rfl, apn_nil rfl], ?_, by simp, fun o ho _ => ?_, .inr ⟨_, rfl, by omega⟩⟩
    · have := IntsJ.mk (h := h ++ [⟨0, 1, [ai x]⟩] ++ [⟨0, 1, [ai x]⟩]) (o := h.length + 1) (v := 0) (xs := [x]) (junk := []) (by
        have := get_new (h := h ++ [(⟨0, 1, [ai x]⟩ : Ob)]) ⟨0, 1, [ai x]⟩
        rw [List.length_append] at this
        exact this)
      exact this
    · rw [List.append_assoc, List.getElem?_append_left ho]
  | @mk o v xs junk ho =>
    have hlt := get_lt ho
    have ho1 := get_old ho [⟨0, 1, [ai x]⟩]
    refine ⟨.sl o (v + 1) 0 (xs.length + 1), (h ++ [(⟨0, 1, [ai x]⟩ : Ob)]).set o ⟨v + 1, 1, xs.map ai ++ [ai x]⟩, fun K => ?_, ?_, by simp, fun o' ho' hne => ?_, .inl rfl⟩
    · have h2 : ((xs.length + 1 : Nat) : Int) ≤ room := by simp [room]; omega
      have h3 : ((8 : Nat) : Int) * ((xs.length + 1 : Nat) : Int) ≤ room := by simp [room]; omega
      have h4 : wcells 1 (h ++ [(⟨0, 1, [ai x]⟩ : Ob)]) (.sl h.length 0 0 1) = some (1, [ai x]) := by
        simp only [wcells, get_new]
        rw [if_pos (by simp)]
        rfl
      have h5 : (xs.map ai ++ junk).take (xs.length * 1) = xs.map ai := by
        rw [List.take_append_of_le_length (by simp), List.take_of_length_le (by simp)]
      rw [bsl_one rfl]
      simp only [apn, h4, ho1]
      rw [if_pos ⟨trivial, trivial, trivial, by simp, h2, h3, by simp [oneA]⟩, h5]
    · have := IntsJ.mk (h := (h ++ [(⟨0, 1, [ai x]⟩ : Ob)]).set o ⟨v + 1, 1, xs.map ai ++ [ai x]⟩) (o := o) (v := v + 1) (xs := xs ++ [x]) (junk := []) (by
        rw [List.map_append, List.append_nil]; exact get_set_eq ho1)
      rw [List.length_append] at this
      exact this
    · have h2 : o ≠ o' := fun e => hne (e ▸ rfl)
      rw [List.getElem?_set_ne h2, List.getElem?_append_left ho']
structure SetAt (h : Hp) (os oat n : Nat) (inV : AV) (A : List Int) (S : List Nat) : Prop where
  ob : h[os]? = some ⟨0, 1, [inV, .sl oat 0 0 n]⟩
  ins : IntsJ h inV (S.map Int.ofNat)
  at' : h[oat]? = some ⟨0, 1, A.map ai⟩
  len : A.length = n
  nat : ∀ a ∈ A, 0 ≤ a
  ok : ∀ x ∈ S, ∃ k : Nat, A[x]? = some (k : Int) ∧ S[k]? = some x
  nd : S.Nodup
  lt : ∀ x ∈ S, x < n
  ne : os ≠ oat
  own1 : own inV ≠ some os
  own2 : own inV ≠ some oat
theorem SetAt.mono {h h' : Hp} {os oat n : Nat} {inV : AV} {A : List Int} {S : List Nat} (k : SetAt h os oat n inV A S) (hk : ∀ o, o = os ∨ o = oat ∨ own inV = some o → h'[o]? = h[o]?) : SetAt h' os oat n inV A S :=
  ⟨by rw [hk os (.inl rfl)]; exact k.ob, k.ins.mono fun o ho => hk o (.inr (.inr ho)), by rw [hk oat (.inr (.inl rfl))]; exact k.at', k.len, k.nat, k.ok, k.nd, k.lt, k.ne, k.own1, k.own2⟩
theorem has_spec {h : Hp} {os oat n : Nat} {inV : AV} {A : List Int} {S : List Nat} (k : SetAt h os oat n inV A S) {x : Nat} (hx : x < n) : G_flow_set_has [.ptr os 0 0, ai x] h = some (.ret (ab (decide (x ∈ S))), h) := by
  obtain ⟨a, ha⟩ : ∃ a, A[x]? = some a := ⟨_, List.getElem?_eq_getElem (by rw [k.len]; exact hx)⟩
  have ha0 := k.nat a (List.mem_of_getElem? ha)
  obtain ⟨q, rfl⟩ : ∃ q : Nat, a = q := ⟨a.toNat, by omega⟩
  have hax : (A.map ai)[x]? = some (.rv (.int .i64 (q : Int))) := by rw [List.getElem?_map, ha]; rfl
  unfold G_flow_set_has
  rw [flow_set_has_eq, nck_ptr, pad_ptr, ldv_at k.ob (x := .sl oat 0 0 n) rfl, sl_at hx, ldi_at k.at' hax, nck_ptr, pad_ptr, ldv_at k.ob (x := inV) rfl, k.ins.lna]
  rw [List.length_map]
  by_cases hq : q < S.length
  · rw [bsp_of (decide_eq_true (by omega)), nck_ptr, pad_ptr, ldv_at k.ob (x := inV) rfl, nck_ptr, pad_ptr, ldv_at k.ob (x := .sl oat 0 0 n) rfl, sl_at hx, ldi_at k.at' hax, k.ins.at (by simpa using hq), flow_set_has_p7_eq]
    have : (((S.map Int.ofNat)[q]'(by simpa using hq)) == (x : Int)) = decide (x ∈ S) := by
      rw [List.getElem_map, Bool.eq_iff_iff, beq_iff_eq, decide_eq_true_eq]
      constructor
      · intro e
        have : S[q] = x := by
          have : ((S[q] : Nat) : Int) = x := e
          omega
        exact this ▸ List.getElem_mem hq
      · intro hm
        obtain ⟨q', h1, h2⟩ := k.ok x hm
        rw [ha] at h1
        have : q = q' := by
          have := Option.some.inj h1
          omega
        subst this
        rw [List.getElem?_eq_getElem hq] at h2
        have := Option.some.inj h2
        rw [this]
        rfl
    rw [this]
  · have : decide (x ∈ S) = false := by
      rw [decide_eq_false_iff_not]
      intro hm
      obtain ⟨q', h1, h2⟩ := k.ok x hm
      rw [ha] at h1
      have : q = q' := by
        have := Option.some.inj h1
        omega
      subst this
      exact hq (List.getElem?_eq_some_iff.1 h2).1
    rw [bsp_not (decide_eq_false (by omega)), flow_set_has_p7_eq, this]
/-- What is kept where a set is added to. -/
def Keeps (os oat : Nat) (inV inV' : AV) (h h' : Hp) : Prop := h.length ≤ h'.length ∧ (∀ o, o < h.length → o ≠ os → o ≠ oat → own inV ≠ some o → h'[o]? = h[o]?) ∧ (own inV' = own inV ∨ ∃ o, own inV' = some o ∧ h.length < o)
theorem add_old {h : Hp} {os oat n : Nat} {inV : AV} {A : List Int} {S : List Nat} (k : SetAt h os oat n inV A S) {x : Nat} (hx : x < n) (hm : x ∈ S) : G_flow_set_add [.ptr os 0 0, ai x] h = some (.ret undefA, h) := by
  unfold G_flow_set_add
  rw [flow_set_add_eq, callG_ret (has_spec k hx), asBool_b, decide_eq_true hm, bsp_not (by rfl)]
theorem add_new {h : Hp} {os oat n : Nat} {inV : AV} {A : List Int} {S : List Nat} (k : SetAt h os oat n inV A S) (hn : n < 1000000000) {x : Nat} (hx : x < n) (hm : x ∉ S) :
    ∃ h' inV' A', G_flow_set_add [.ptr os 0 0, ai x] h = some (.ret undefA, h') ∧ SetAt h' os oat n inV' A' (S ++ [x]) ∧ Keeps os oat inV inV' h h' := by
  have hSl : S.length ≤ n := nodup_le _ _ k.nd k.lt
  have hxl : x < A.length := by rw [k.len]; exact hx
  have hob := get_set_ne (ob := ⟨0, 1, (A.map ai).set x (ai S.length)⟩) k.ne.symm k.ob
  have hat := get_set_eq (ob := ⟨0, 1, (A.map ai).set x (ai S.length)⟩) k.at'
  have hin : IntsJ (h.set oat ⟨0, 1, (A.map ai).set x (ai S.length)⟩) inV (S.map Int.ofNat) := k.ins.mono fun o ho => List.getElem?_set_ne (by rintro rfl; exact k.own2 ho)
  have hkp : ∀ o, o ≠ oat → (h.set oat ⟨0, 1, (A.map ai).set x (ai S.length)⟩)[o]? = h[o]? := fun o ho => List.getElem?_set_ne (Ne.symm ho)
  have hlen : (h.set oat ⟨0, 1, (A.map ai).set x (ai S.length)⟩).length = h.length := by simp
  have hol := get_lt k.ob
  have hal := get_lt k.at'
  unfold G_flow_set_add
  rw [flow_set_add_eq, callG_ret (has_spec k hx), asBool_b, decide_eq_false hm, bsp_of (by rfl), nck_ptr, pad_ptr, ldv_at k.ob (x := .sl oat 0 0 n) rfl, nck_ptr, pad_ptr, ldv_at k.ob (x := inV) rfl, k.ins.lna, sl_at hx, List.length_map, stv_at k.at' (by simpa using hxl) rfl rfl,
    nck_ptr, pad_ptr, ldv_at hob (x := inV) rfl]
  generalize h.set oat ⟨0, 1, (A.map ai).set x (ai S.length)⟩ = h1 at hob hat hin hkp hlen ⊢
  obtain ⟨w, h3, hK, kw, hlt, hkeep, how⟩ := hin.push (by simp; omega) (x : Int)
  have hob3 : h3[os]? = some ⟨0, 1, [inV, .sl oat 0 0 n]⟩ := by rw [hkeep os (by omega) k.own1]; exact hob
  have hat3 : h3[oat]? = some ⟨0, 1, (A.map ai).set x (ai S.length)⟩ := by rw [hkeep oat (by omega) k.own2]; exact hat
  have hwne : own w ≠ some os ∧ own w ≠ some oat := by
    rcases how with e | ⟨o, e, hlt'⟩
    · rw [e]; exact ⟨k.own1, k.own2⟩
    · rw [e]
      exact ⟨fun e => by cases e; omega, fun e => by cases e; omega⟩
  rw [hK, nck_ptr, pad_ptr, stv_at hob3 (by simp) kw.cells.2 kw.cells.1]
  refine ⟨_, w, A.set x S.length, rfl, ⟨?_, ?_, ?_, by simp [k.len], ?_, ?_, nodup_snoc k.nd hm, ?_, k.ne, hwne.1, hwne.2⟩, ?_, ?_, ?_⟩
  · exact get_set_eq hob3
  · have := kw.mono (h' := h3.set os ⟨0, 1, [inV, .sl oat 0 0 n].set 0 w⟩) fun o ho => List.getElem?_set_ne (by rintro rfl; exact hwne.1 ho)
    simpa using this
  · rw [List.map_set]; exact get_set_ne k.ne hat3
  · intro a ha
    rcases List.mem_or_eq_of_mem_set ha with h | h
    · exact k.nat a h
    · omega
  · intro y hy
    by_cases e : x = y
    · subst e
      exact ⟨S.length, by rw [List.getElem?_set_self hxl], by simp⟩
    · have hyS : y ∈ S := by
        rcases List.mem_append.1 hy with h | h
        · exact h
        · simp at h; exact absurd h.symm e
      obtain ⟨q, h1, h2⟩ := k.ok y hyS
      exact ⟨q, by rw [List.getElem?_set_ne e]; exact h1, by rw [List.getElem?_append_left (List.getElem?_eq_some_iff.1 h2).1]; exact h2⟩
  · intro y hy
    rcases List.mem_append.1 hy with h | h
    · exact k.lt y h
    · simp at h; subst h; exact hx
  · simp; omega
  · intro o ho h1 h2 h3'
    rw [List.getElem?_set_ne (Ne.symm h1), hkeep o (by omega) h3', hkp o h2]
  · rcases how with e | ⟨o, e, hlt'⟩
    · exact .inl e
    · exact .inr ⟨o, e, by omega⟩
end Go.Proofs.Ytknphnmhjmejaaa
/-  What the program's postorder tells. No conditions. -/
namespace Go.Proofs.Ytknphnmhjmejaaa
set_option linter.unusedVariables false
abbrev walkV : AV := .func id_flow_Post_c1 [] [.ptr 3 0 0, .ptr 0 0 0, .ptr 5 0 0, .ptr 4 0 0]
structure PS (h : Hp) (cells : List AV) (n : Nat) (inV : AV) (A : List Int) (postV : AV) (S P : List Nat) : Prop where
  c : h[0]? = some ⟨0, 1, cells⟩
  set : SetAt h 2 1 n inV A S
  sv : h[3]? = some ⟨0, 1, [.ptr 2 0 0]⟩
  pv : h[4]? = some ⟨0, 1, [postV]⟩
  wv : h[5]? = some ⟨0, 1, [walkV]⟩
  post : IntsJ h postV (P.map Int.ofNat)
  own1 : ∀ o, own inV = some o → 6 ≤ o
  own2 : ∀ o, own postV = some o → 6 ≤ o ∧ own inV ≠ some o
  pl : P.length ≤ S.length
theorem PS.added {h h' : Hp} {cells : List AV} {n : Nat} {inV inV' : AV} {A A' : List Int} {postV : AV} {S P : List Nat} {b : Nat} (k : PS h cells n inV A postV S P) (s : SetAt h' 2 1 n inV' A' (S ++ [b])) (kp : Keeps 2 1 inV inV' h h') : PS h' cells n inV' A' postV (S ++ [b]) P := by
  obtain ⟨hle, hk, how⟩ := kp
  have l0 := get_lt k.c
  have l5 := get_lt k.wv
  have keep : ∀ o, o < 6 → o ≠ 2 → o ≠ 1 → h'[o]? = h[o]? := fun o ho h1 h2 => hk o (by omega) h1 h2 (fun e => by have := k.own1 o e; omega)
  refine ⟨by rw [keep 0 (by omega) (by omega) (by omega)]; exact k.c, s, by rw [keep 3 (by omega) (by omega) (by omega)]; exact k.sv, by rw [keep 4 (by omega) (by omega) (by omega)]; exact k.pv,
    by rw [keep 5 (by omega) (by omega) (by omega)]; exact k.wv, ?_, ?_, ?_, by have := k.pl; simp; omega⟩
  · refine k.post.mono fun o ho => ?_
    obtain ⟨h6, hne⟩ := k.own2 o ho
    exact hk o (k.post.ownlt ho) (by omega) (by omega) hne
  · intro o ho
    rcases how with e | ⟨o', e, hlt⟩
    · rw [e] at ho; exact k.own1 o ho
    · rw [ho] at e; cases e; omega
  · intro o ho
    obtain ⟨h6, hne⟩ := k.own2 o ho
    refine ⟨h6, fun e2 => ?_⟩
    rcases how with e | ⟨o', e, hlt⟩
    · rw [e] at e2; exact hne e2
    · rw [e2] at e; cases e
      have := k.post.ownlt ho
      omega
section
variable {p r v b : RV} {d : Cd}
theorem walk_end {cells : List AV} {n : Nat} {inV : AV} {A : List Int} {postV : AV} {S P : List Nat} {h : Hp} (k : PS h cells n inV A postV S P) (hn : n < 1000000000) (F : List AV → Hp → Option (ARes × Hp)) (kk x : Nat) (hlt : P.length < S.length) :
    ∃ h' inV' A' postV', flow_Post_c1_p7 F kk x (.ptr 4 0 0) h = some (.ret undefA, h') ∧ PS h' cells n inV' A' postV' S (P ++ [x]) := by
  have hSl : S.length ≤ n := nodup_le _ _ k.set.nd k.set.lt
  obtain ⟨w, h3, hK, kw, hl, hkeep, how⟩ := k.post.push (by simp; omega) (x : Int)
  have l5 := get_lt k.wv
  have keep : ∀ o, o < 6 → h3[o]? = h[o]? := fun o ho => hkeep o (by omega) (fun e => by have := (k.own2 o e).1; omega)
  have h4 : h3[4]? = some ⟨0, 1, [postV]⟩ := by rw [keep 4 (by omega)]; exact k.pv
  have ow : ∀ o, own w = some o → 6 ≤ o ∧ own inV ≠ some o := by
    intro o ho
    rcases how with e | ⟨o', e, hlt'⟩
    · rw [e] at ho; exact k.own2 o ho
    · rw [ho] at e; cases e
      exact ⟨by omega, fun e => by have := k.set.ins.ownlt e; omega⟩
  have keep2 : ∀ o, o < 6 → o ≠ 4 → (h3.set 4 ⟨0, 1, [postV].set 0 w⟩)[o]? = h[o]? := fun o ho hne => by rw [List.getElem?_set_ne (Ne.symm hne)]; exact keep o ho
  rw [flow_Post_c1_p7_eq, ldv_at k.pv (x := postV) rfl, hK, stv_at h4 (by simp) kw.cells.2 kw.cells.1]
  refine ⟨_, inV, A, w, rfl, ⟨by rw [keep2 0 (by omega) (by omega)]; exact k.c, ?_, by rw [keep2 3 (by omega) (by omega)]; exact k.sv, ?_, by rw [keep2 5 (by omega) (by omega)]; exact k.wv, ?_, k.own1, ow, by simp; omega⟩⟩
  · refine k.set.mono fun o ho => ?_
    rcases ho with rfl | rfl | ho
    · exact keep2 2 (by omega) (by omega)
    · exact keep2 1 (by omega) (by omega)
    · have h6 := k.own1 o ho
      rw [List.getElem?_set_ne (by omega)]
      exact hkeep o (k.set.ins.ownlt ho) fun e => (k.own2 o e).2 ho
  · exact get_set_eq h4
  · have := kw.mono (h' := h3.set 4 ⟨0, 1, [postV].set 0 w⟩) fun o ho => List.getElem?_set_ne (by have := (ow o ho).1; omega)
    simpa using this
theorem walk_loop (hd : IsCd [p, r, v, b] d) (hsh : d.blocks.length ≤ 4096) (hok : okSuccs d.blocks) (F : List AV → Hp → Option (ARes × Hp)) (n : Nat)
    (rec : ∀ (x : Nat) (S P S1 P1 : List Nat) (inV : AV) (A : List Int) (postV : AV) (h : Hp), d.blocks.length - S.length ≤ n → x < d.blocks.length → x ∉ S → Dfs (sucs d.blocks) (sucs d.blocks x) (S ++ [x]) P S1 P1 → PS h [.rv p, .rv r, .rv v, .rv b] d.blocks.length inV A postV S P →
      ∃ h' inV' A' postV', F [ai x, .ptr 3 0 0, .ptr 0 0 0, .ptr 5 0 0, .ptr 4 0 0] h = some (.ret undefA, h') ∧ PS h' [.rv p, .rv r, .rv v, .rv b] d.blocks.length inV' A' postV' S1 (P1 ++ [x]))
    (k M x : Nat) {sv : RV} (hx : x < d.blocks.length) (hsv : IsInts sv d.blocks[x].succs) (S1 P1 : List Nat) : ∀ (m j N : Nat) (S P : List Nat) (inV : AV) (A : List Int) (postV : AV) (h : Hp), j + m = d.blocks[x].succs.length → m < N → d.blocks.length - S.length ≤ n → P.length < S.length → Dfs (sucs d.blocks) ((sucs d.blocks x).drop j) S P S1 P1 →
      PS h [.rv p, .rv r, .rv v, .rv b] d.blocks.length inV A postV S P → ∃ h' inV' A' postV', flow_Post_c1_l52 F k N M x (.ptr 3 0 0) (.ptr 5 0 0) (.ptr 4 0 0) (.rv sv) d.blocks[x].succs.length j h = some (.ret undefA, h') ∧ PS h' [.rv p, .rv r, .rv v, .rv b] d.blocks.length inV' A' postV' S1 (P1 ++ [x]) := by
  have hs := hsv.short
  intro m
  induction m with
  | zero =>
    intro j N S P inV A postV h hj hN hn hlt hdf hps
    obtain ⟨N, rfl⟩ : ∃ q, N = q + 1 := ⟨N - 1, by omega⟩
    rw [List.drop_eq_nil_of_le (by rw [sucs_at hx, List.length_map]; omega)] at hdf
    obtain ⟨rfl, rfl⟩ := hdf.nil_inv
    rw [flow_Post_c1_l52_eq, bsp_not (decide_eq_false (by omega))]
    exact walk_end hps (by omega) F k x hlt
  | succ m ih =>
    intro j N S P inV A postV h hj hN hn hlt hdf hps
    obtain ⟨N, rfl⟩ : ∃ q, N = q + 1 := ⟨N - 1, by omega⟩
    have hjl : j < d.blocks[x].succs.length := by omega
    obtain ⟨y, hy, hyl⟩ := hok x d.blocks[x] (List.getElem?_eq_getElem hx) d.blocks[x].succs[j] (List.getElem_mem hjl)
    have hsl : j < (sucs d.blocks x).length := by rw [sucs_at hx, List.length_map]; exact hjl
    have hsy : (sucs d.blocks x)[j] = y := by
      have : (sucs d.blocks x)[j]? = some y := by rw [sucs_at hx, List.getElem?_map, List.getElem?_eq_getElem hjl, hy]; rfl
      rw [List.getElem?_eq_getElem hsl] at this
      exact Option.some.inj this
    rw [List.drop_eq_getElem_cons hsl, hsy] at hdf
    rw [flow_Post_c1_l52_eq, bsp_of (decide_eq_true (by omega)), hsv.at hjl, hy, ldv_at hps.sv (x := .ptr 2 0 0) rfl, callG_ret (has_spec hps.set hyl), asBool_b]
    cases hdf with
    | seen hm r =>
      rw [decide_eq_true hm, bsp_not (by rfl), flow_Post_c1_p423_eq, wri_succ (by omega)]
      exact ih (j + 1) N S P inV A postV h (by omega) (by omega) hn hlt r hps
    | @go _ _ _ _ S2 P2 _ _ hm r1 r2 =>
      obtain ⟨h', inV', A', postV', e, hps'⟩ := rec y S P S2 P2 inV A postV h hn hyl hm r1 hps
      rw [decide_eq_false hm, bsp_of (by rfl), ldv_at hps.wv (x := walkV) rfl, callV_gen (Γ := flow_Post_c1_G F) (f := id_flow_Post_c1) (G := F) rfl e, flow_Post_c1_p423_eq, wri_succ (by omega)]
      obtain ⟨NN, Q, kf⟩ := r1.found
      have h1 : S2.length = S.length + 1 + NN.length := by rw [kf.s]; simp; omega
      have h2 : P2.length = P.length + Q.length := by rw [kf.p]; simp
      have h3 := kf.len
      exact ih (j + 1) N S2 (P2 ++ [y]) inV' A' postV' h' (by omega) (by omega) (by omega) (by simp; omega) r2 hps'
theorem walk_spec (hd : IsCd [p, r, v, b] d) (hsh : d.blocks.length ≤ 4096) (hok : okSuccs d.blocks) : ∀ (n x : Nat) (S P S1 P1 : List Nat) (inV : AV) (A : List Int) (postV : AV) (h : Hp), d.blocks.length - S.length ≤ n → x < d.blocks.length → x ∉ S → Dfs (sucs d.blocks) (sucs d.blocks x) (S ++ [x]) P S1 P1 →
    PS h [.rv p, .rv r, .rv v, .rv b] d.blocks.length inV A postV S P → ∃ h' inV' A' postV', GR_flow_Post_c1 n [ai x, .ptr 3 0 0, .ptr 0 0 0, .ptr 5 0 0, .ptr 4 0 0] h = some (.ret undefA, h') ∧ PS h' [.rv p, .rv r, .rv v, .rv b] d.blocks.length inV' A' postV' S1 (P1 ++ [x]) := by
  have hd' := hd
  obtain ⟨p, r, v, b, e, _, _, _, hb⟩ := hd
  cases e
  intro n
  induction n with
  | zero =>
    intro x S P S1 P1 inV A postV h hn hx hxS hdf hps
    have := nodup_le d.blocks.length (S ++ [x]) (nodup_snoc hps.set.nd hxS) (fun y hy => by
      rcases List.mem_append.1 hy with h | h
      · exact hps.set.lt y h
      · simp at h; subst h; exact hx)
    simp at this
    omega
  | succ n ih =>
    intro x S P S1 P1 inV A postV h hn hx hxS hdf hps
    obtain ⟨h1, inV1, A1, e1, s1, k1⟩ := add_new hps.set (by omega) hx hxS
    have hps1 := hps.added s1 k1
    obtain ⟨a, q, s, t, rest, j1, j2, j3, j4, hbx⟩ := blk_at (R := ARes × Hp) hb hx
    have hs := j3.short
    have hpl := hps.pl
    have run : GR_flow_Post_c1 (n + 1) [ai x, .ptr 3 0 0, .ptr 0 0 0, .ptr 5 0 0, .ptr 4 0 0] h = flow_Post_c1_l52 (GR_flow_Post_c1 n) big big h1.length x (.ptr 3 0 0) (.ptr 5 0 0) (.ptr 4 0 0) (.rv s) d.blocks[x].succs.length ((0 : Nat) : Int) h1 := by
      rw [GR_flow_Post_c1_succ, flow_Post_c1_eq, ldv_at hps.sv (x := .ptr 2 0 0) rfl, callG_ret e1, pad_ptr, ldv_at hps1.c (x := .rv b) rfl, hbx, pad_rop4, ldv_rop, j3.len, show ((0 : Int)) = ((0 : Nat) : Int) from rfl]
    rw [run]
    exact walk_loop hd' hsh hok (GR_flow_Post_c1 n) n ih big h1.length x hx j3 S1 P1 d.blocks[x].succs.length 0 big (S ++ [x]) P inV1 A1 postV h1 (by omega) (by rw [big_val]; omega) (by simp; omega) (by simp; omega) (by simpa using hdf) hps1
theorem Post_bad {cs : List RV} {d : Cd} (hd : IsCd cs d) : (formOk d.blocks = false → F_flow_Post [.agg cs] = some (.ret (.tuple [.nils, I 130]))) ∧ (formOk d.blocks = true → ¬ FlowOk d.blocks → F_flow_Post [.agg cs] = some (.ret (.tuple [.nils, I 131]))) := by
  have hd' := hd
  obtain ⟨p, r, v, b, rfl, _, _, _, hb⟩ := hd
  have key : ∀ e : Int, e ≠ 0 → F_ssa_Flow [.agg [p, r, v, b]] = some (.ret (I e)) → F_flow_Post [.agg [p, r, v, b]] = some (.ret (.tuple [.nils, I e])) := by
    intro e he hF
    unfold F_flow_Post
    rw [List.map_cons, List.map_nil, flow_Post_eq, box_agg, List.nil_append, List.length_nil, show List.map AV.rv [p, r, v, b] = [.rv p, .rv r, .rv v, .rv b] from rfl, ldg_at (by rfl) (by rfl), callP_ret (by simp [toRV, depthA]) hF (.inr rfl), asInt_i, bsp_of (by simpa using he)]
    simp [pureR, toRV, depthA]
  exact ⟨fun h => key 130 (by omega) ((ssaFlow_spec hd').1 h), fun h q => key 131 (by omega) ((ssaFlow_spec hd').2.2 h q)⟩
theorem Post_run {cs : List RV} {d : Cd} (hd : IsCd cs d) (hf : formOk d.blocks = true) (hq : FlowOk d.blocks) {P : List Nat} (hP : IsPost d.blocks P) : ∃ v h', fnA Try.prog flow_Post_G flow_Post_A flow_Post_R big Try.f8 ([RV.agg cs].map .rv) [] = some (.ret (.tuple [v, .rv (I 0)]), h') ∧ IntsJ h' v (P.map Int.ofNat) := by
  have hd' := hd
  obtain ⟨p, r, v, b, rfl, _, _, _, hb⟩ := hd
  have hok := formOk_succs hf
  have hl : 0 < d.blocks.length ∧ d.blocks.length ≤ 4096 := by
    simp only [formOk, Bool.and_eq_true, decide_eq_true_eq] at hf
    exact hf.1
  obtain ⟨S, hdf⟩ := hP
  have hdf' : ∃ P0, P = P0 ++ [0] ∧ Dfs (sucs d.blocks) (sucs d.blocks 0) ([] ++ [0]) [] S P0 := by
    cases hdf with
    | seen h => simp at h
    | go _ r1 r2 =>
      obtain ⟨rfl, rfl⟩ := r2.nil_inv
      exact ⟨_, rfl, by simpa using r1⟩
  obtain ⟨P0, hP0, hdf0⟩ := hdf'
  let h0 : Hp := [⟨0, 1, [.rv p, .rv r, .rv v, .rv b]⟩, ⟨0, 1, zrep [ai 0] d.blocks.length⟩, ⟨0, 1, [.rv .nils, .sl 1 0 0 d.blocks.length]⟩, ⟨0, 1, [.ptr 2 0 0]⟩, ⟨0, 1, [.rv .nils]⟩, ⟨0, 1, [walkV]⟩]
  have run : fnA Try.prog flow_Post_G flow_Post_A flow_Post_R big Try.f8 ([RV.agg [p, r, v, b]].map .rv) [] = (callV flow_Post_G walkV h0 [ai 0] (fun r24 h26 => ldv h26 (.ptr 4 0 0) fun v28 => some (.ret (.tuple [v28, (.rv (.int .i64 0))]), h26)) (fun q25 h27 => some (.pan q25, h27))) := by
    rw [List.map_cons, List.map_nil, flow_Post_eq, box_agg, List.nil_append, List.length_nil, show List.map AV.rv [p, r, v, b] = [.rv p, .rv r, .rv v, .rv b] from rfl, ldg_at (by rfl) (by rfl), callP_ret (by simp [toRV, depthA]) ((ssaFlow_spec hd').2.1 hf hq) (.inr rfl), asInt_i, bsp_not (by rfl),
      pad_ptr, ldv_at (by rfl) (x := .rv b) (by rfl), hb.len, mks_one (by omega) (by omega)]
    rfl
  have hz : zrep [ai 0] d.blocks.length = (List.replicate d.blocks.length (0 : Int)).map ai := by simp [zrep]
  have hps : PS h0 [.rv p, .rv r, .rv v, .rv b] d.blocks.length (.rv .nils) (List.replicate d.blocks.length 0) (.rv .nils) [] [] := by
    refine ⟨rfl, ⟨rfl, .nil, ?_, by simp, ?_, by simp, by simp, by simp, by omega, by simp [own], by simp [own]⟩, rfl, rfl, rfl, .nil, by simp [own], by simp [own], by simp⟩
    · show some _ = _
      rw [hz]
    · intro a ha
      rw [List.mem_replicate] at ha
      omega
  have hbig : d.blocks.length - ([] : List Nat).length ≤ big := by
    rw [big_val, List.length_nil]
    omega
  obtain ⟨h', inV', A', postV', e, hps'⟩ := walk_spec hd' hl.2 hok big 0 [] [] S P0 _ _ _ h0 hbig hl.1 (by simp) hdf0 hps
  rw [← hP0] at hps'
  have e' : G_flow_Post_c1 ([] ++ [ai 0] ++ [.ptr 3 0 0, .ptr 0 0 0, .ptr 5 0 0, .ptr 4 0 0]) h0 = some (.ret undefA, h') := by
    rw [G_flow_Post_c1]
    exact e
  refine ⟨postV', h', ?_, hps'.post⟩
  rw [run, callV_gen (Γ := flow_Post_G) (f := id_flow_Post_c1) (G := G_flow_Post_c1) rfl e', ldv_at hps'.pv (x := postV') rfl]
theorem Post_spec {cs : List RV} {d : Cd} (hd : IsCd cs d) (hf : formOk d.blocks = true) (hq : FlowOk d.blocks) {P : List Nat} (hP : IsPost d.blocks P) : ∃ x, F_flow_Post [.agg cs] = some (.ret (.tuple [x, I 0])) ∧ IsInts x (P.map Int.ofNat) := by
  have hl : 0 < d.blocks.length ∧ d.blocks.length ≤ 4096 := by
    simp only [formOk, Bool.and_eq_true, decide_eq_true_eq] at hf
    exact hf.1
  have hnl := (hP.facts (formOk_succs hf) hl.1).2.2
  obtain ⟨v, h', e, hv⟩ := Post_run hd hf hq hP
  obtain ⟨x, hx, hix⟩ := hv.done2 (by simp; omega)
  refine ⟨x, ?_, hix⟩
  unfold F_flow_Post
  rw [e]
  have h1 := hx 9
  simp only [pureR, depthA, toRV, List.mapM_cons, List.mapM_nil, h1]
  rfl
end
end Go.Proofs.Ytknphnmhjmejaaa
