/-  What the program's own search, depth first, tells. No conditions. -/
import Derived.Test.YtknphnmhjmejaaaHb
import Derived.Test.YtknphnmhjmejaaaDfs
namespace Go.Proofs.Ytknphnmhjmejaaa
set_option linter.unusedVariables false
def sucs (bs : List Blk) (x : Nat) : List Nat :=
  match bs[x]? with
  | some b => b.succs.map Int.toNat
  | none => []
theorem sucs_at {bs : List Blk} {x : Nat} (hx : x < bs.length) : sucs bs x = bs[x].succs.map Int.toNat := by
  simp [sucs, List.getElem?_eq_getElem hx]
theorem sucs_lt {bs : List Blk} (hok : okSuccs bs) : ∀ x < bs.length, ∀ y ∈ sucs bs x, y < bs.length := by
  intro x hx y hy
  rw [sucs_at hx, List.mem_map] at hy
  obtain ⟨n, hn, rfl⟩ := hy
  obtain ⟨m, rfl, hm⟩ := hok x bs[x] (List.getElem?_eq_getElem hx) n hn
  simpa using hm
/-! ### A list of numbers that a function of ours makes -/
inductive IntsAt (h : Hp) (av : List Nat) : AV → List Int → Prop
  | nil : IntsAt h av (.rv .nils) []
  | mk {o v : Nat} {xs : List Int} (ho : h[o]? = some ⟨v, 1, xs.map ai⟩) (hn : o ∉ av) : IntsAt h av (.sl o v 0 xs.length) xs
theorem IntsAt.done {h : Hp} {av : List Nat} {v : AV} {xs : List Int} (k : IntsAt h av v xs) (hl : xs.length < 1000000000) : ∃ x, toRV h depthA v = some x ∧ IsInts x xs := by
  cases k with
  | nil => exact ⟨.nils, rfl, .nil⟩
  | mk ho hn => exact ⟨_, toRV_ints ho, .mk xs hl⟩
theorem IntsAt.set_ne {h : Hp} {av : List Nat} {v : AV} {xs : List Int} (k : IntsAt h av v xs) {o : Nat} (ho : o ∈ av) (ob : Ob) : IntsAt (h.set o ob) av v xs := by
  cases k with
  | nil => exact .nil
  | mk h1 hn => exact .mk (get_set_ne (fun e => hn (e ▸ ho)) h1) hn
theorem IntsAt.app {h : Hp} {av : List Nat} {v : AV} {xs : List Int} (k : IntsAt h av v xs) (l : Hp) : IntsAt (h ++ l) av v xs := by
  cases k with
  | nil => exact .nil
  | mk h1 hn => exact .mk (get_old h1 l) hn
theorem IntsAt.push {h : Hp} {av : List Nat} {v : AV} {xs : List Int} (k : IntsAt h av v xs) (hl : xs.length < 1000000000) (hav : ∀ o ∈ av, o < h.length) (x : Int) : ∃ w h3, (∀ {R : Type} (K : AV → Hp → Option R),
    (bsl 1 1 [.rv (.int .i64 0)] [(some (0, 1), .rv (.int .i64 x))] h fun u h2 => apn 1 8 h2 v u fun w h3 => K w h3) = K w h3) ∧ IntsAt h3 av w (xs ++ [x]) ∧ h.length ≤ h3.length ∧ ∀ o ∈ av, h3[o]? = h[o]? := by
  cases k with
  | nil =>
    refine ⟨_, _, fun K => by rw [bsl_one rfl, apn_nil rfl], ?_, by simp, fun o ho => ?_⟩
    · have := IntsAt.mk (h := h ++ [⟨0, 1, [ai x]⟩] ++ [⟨0, 1, [ai x]⟩]) (av := av) (o := h.length + 1) (v := 0) (xs := [x]) (by
        have := get_new (h := h ++ [(⟨0, 1, [ai x]⟩ : Ob)]) ⟨0, 1, [ai x]⟩
        rw [List.length_append] at this
        exact this) (fun hn => by have := hav _ hn; omega)
      exact this
    · have := hav o ho
      rw [List.append_assoc, List.getElem?_append_left this]
  | @mk o v xs ho hn =>
    have hlt := get_lt ho
    refine ⟨_, _, fun K => by rw [bsl_one rfl, apn_one ho (by simp) (by omega) rfl], ?_, by simp, fun o' ho' => ?_⟩
    · have := IntsAt.mk (h := (h ++ [(⟨0, 1, [ai x]⟩ : Ob)]).set o ⟨v + 1, 1, xs.map ai ++ [ai x]⟩) (av := av) (o := o) (v := v + 1) (xs := xs ++ [x]) (by
        rw [List.map_append]; exact get_set_eq (get_old ho _)) hn
      rw [List.length_append] at this
      exact this
    · have h1 := hav o' ho'
      have h2 : o ≠ o' := fun e => hn (e ▸ ho')
      rw [List.getElem?_set_ne h2, List.getElem?_append_left h1]
/-! ### The stack -/
theorem Dfs.nil_inv {sc : Nat → List Nat} {S P S' P' : List Nat} (h : Dfs sc [] S P S' P') : S' = S ∧ P' = P := by
  cases h; exact ⟨rfl, rfl⟩
def RunS (sc : Nat → List Nat) : List (Nat × Nat) → List Nat → List Nat → List Nat → List Nat → Prop
  | [], S, P, S', P' => S' = S ∧ P' = P
  | (b, n) :: rest, S, P, S', P' => ∃ S1 P1, Dfs sc ((sc b).drop n) S P S1 P1 ∧ RunS sc rest S1 (P1 ++ [b]) S' P'
theorem RunS.pop {sc : Nat → List Nat} {b n : Nat} {rest : List (Nat × Nat)} {S P S' P' : List Nat} (h : RunS sc ((b, n) :: rest) S P S' P') (hn : (sc b).length ≤ n) : RunS sc rest S (P ++ [b]) S' P' := by
  obtain ⟨S1, P1, h1, h2⟩ := h
  rw [List.drop_eq_nil_of_le hn] at h1
  obtain ⟨rfl, rfl⟩ := h1.nil_inv
  exact h2
theorem RunS.next {sc : Nat → List Nat} {b n s : Nat} {rest : List (Nat × Nat)} {S P S' P' : List Nat} (h : RunS sc ((b, n) :: rest) S P S' P') (hn : (sc b)[n]? = some s) :
    (s ∈ S → RunS sc ((b, n + 1) :: rest) S P S' P') ∧ (s ∉ S → RunS sc ((s, 0) :: (b, n + 1) :: rest) (S ++ [s]) P S' P') := by
  obtain ⟨S1, P1, h1, h2⟩ := h
  obtain ⟨hlt, hs⟩ := List.getElem?_eq_some_iff.1 hn
  rw [List.drop_eq_getElem_cons hlt, hs] at h1
  cases h1 with
  | seen hm r => exact ⟨fun _ => ⟨S1, P1, r, h2⟩, fun h => absurd hm h⟩
  | go hm r1 r2 => exact ⟨fun h => absurd h hm, fun _ => ⟨_, _, by simpa using r1, _, _, r2, h2⟩⟩
def flat (fs : List (Nat × Nat)) : List AV := fs.flatMap fun x => [ai x.1, ai x.2]
theorem flat_length (fs : List (Nat × Nat)) : (flat fs).length = fs.length * 2 := by
  induction fs with
  | nil => rfl
  | cons x fs ih => simp only [flat, List.flatMap_cons, List.length_append, List.length_cons, List.length_nil] at *; omega
theorem flat_rev (b n : Nat) (rest : List (Nat × Nat)) : flat ((b, n) :: rest).reverse = flat rest.reverse ++ [ai b, ai n] := by
  simp [flat]
def fsum (sc : Nat → List Nat) : List (Nat × Nat) → Nat
  | [] => 0
  | (b, n) :: rest => (sc b).length - n + 1 + fsum sc rest
structure RS (h : Hp) (oc os ost vs : Nat) (cells : List AV) (seen : List Bool) (S : List Nat) (fs : List (Nat × Nat)) (n : Nat) : Prop where
  c : h[oc]? = some ⟨0, 1, cells⟩
  s : h[os]? = some ⟨0, 1, seen.map ab⟩
  st : ∃ junk, h[ost]? = some ⟨vs, 2, flat fs.reverse ++ junk⟩
  len : seen.length = n
  mem : ∀ x, seen[x]? = some true ↔ x ∈ S
  nd : S.Nodup
  cs : oc ≠ os
  ct : oc ≠ ost
  sst : os ≠ ost
  fs : ∀ x ∈ fs, x.1 < n
theorem RS.keep {h h' : Hp} {oc os ost vs : Nat} {cells : List AV} {seen : List Bool} {S : List Nat} {fs : List (Nat × Nat)} {n : Nat} (k : RS h oc os ost vs cells seen S fs n) (hk : ∀ o ∈ [oc, os, ost], h'[o]? = h[o]?) : RS h' oc os ost vs cells seen S fs n :=
  ⟨by rw [hk oc (by simp)]; exact k.c, by rw [hk os (by simp)]; exact k.s, by rw [hk ost (by simp)]; exact k.st, k.len, k.mem, k.nd, k.cs, k.ct, k.sst, k.fs⟩
theorem RS.seenlt {h : Hp} {oc os ost vs : Nat} {cells : List AV} {seen : List Bool} {S : List Nat} {fs : List (Nat × Nat)} {n : Nat} (k : RS h oc os ost vs cells seen S fs n) : ∀ x ∈ S, x < n := fun x hx => by
  rw [← k.len]; exact (List.getElem?_eq_some_iff.1 ((k.mem x).2 hx)).1
section
variable {p r v b : RV} {d : Cd} {oc os ost : Nat}
theorem nodup_sub_le : ∀ (A B : List Nat), A.Nodup → (∀ y ∈ A, y ∈ B) → A.length ≤ B.length
  | [], B, _, _ => by simp
  | a :: A, B, hA, hB => by
    have h1 := nodup_sub_le A (B.erase a) (List.nodup_cons.1 hA).2 (fun y hy => by
      have hne : y ≠ a := by rintro rfl; exact (List.nodup_cons.1 hA).1 hy
      exact (List.mem_erase_of_ne hne).2 (hB y (List.mem_cons_of_mem _ hy)))
    have h2 := List.length_erase_of_mem (hB a (by simp))
    have h3 : 0 < B.length := List.length_pos_of_mem (hB a (by simp))
    simp
    omega
theorem nodup_snoc {A : List Nat} {x : Nat} (h : A.Nodup) (hx : x ∉ A) : (A ++ [x]).Nodup := by
  rw [List.nodup_append]
  refine ⟨h, by simp, ?_⟩
  intro a ha b hb e
  simp at hb; subst hb; subst e
  exact hx ha
/-- Where the search stands. -/
structure RQ (sc : Nat → List Nat) (fs : List (Nat × Nat)) (S P : List Nat) : Prop where
  sub : ∀ x ∈ P, x ∈ S
  nd : P.Nodup
  ff : ∀ x ∈ fs, x.1 ∈ S ∧ x.1 ∉ P ∧ x.2 ≤ (sc x.1).length
  fnd : (fs.map (·.1)).Nodup
theorem RQ.pop {sc : Nat → List Nat} {x n : Nat} {rest : List (Nat × Nat)} {S P : List Nat} (k : RQ sc ((x, n) :: rest) S P) : RQ sc rest S (P ++ [x]) := by
  have hfx := k.ff (x, n) (by simp)
  have hfnd := k.fnd
  simp only [List.map_cons, List.nodup_cons] at hfnd
  refine ⟨?_, nodup_snoc k.nd hfx.2.1, ?_, hfnd.2⟩
  · intro y hy
    rcases List.mem_append.1 hy with hy | hy
    · exact k.sub y hy
    · simp at hy; subst hy; exact hfx.1
  · intro y hy
    have := k.ff y (List.mem_cons_of_mem _ hy)
    refine ⟨this.1, fun hyp => ?_, this.2.2⟩
    rcases List.mem_append.1 hyp with h1 | h1
    · exact this.2.1 h1
    · simp at h1
      exact hfnd.1 (by rw [List.mem_map]; exact ⟨y, hy, h1⟩)
theorem RQ.seen {sc : Nat → List Nat} {x n : Nat} {rest : List (Nat × Nat)} {S P : List Nat} (k : RQ sc ((x, n) :: rest) S P) (hn : n < (sc x).length) : RQ sc ((x, n + 1) :: rest) S P := by
  refine ⟨k.sub, k.nd, ?_, k.fnd⟩
  intro y hy
  rcases List.mem_cons.1 hy with rfl | hy
  · have := k.ff (x, n) (by simp)
    exact ⟨this.1, this.2.1, hn⟩
  · exact k.ff y (List.mem_cons_of_mem _ hy)
theorem RQ.push {sc : Nat → List Nat} {x n s : Nat} {rest : List (Nat × Nat)} {S P : List Nat} (k : RQ sc ((x, n) :: rest) S P) (hn : n < (sc x).length) (hs : s ∉ S) : RQ sc ((s, 0) :: (x, n + 1) :: rest) (S ++ [s]) P := by
  have k' := k.seen hn
  refine ⟨fun y hy => List.mem_append.2 (.inl (k.sub y hy)), k.nd, ?_, ?_⟩
  · intro y hy
    rcases List.mem_cons.1 hy with rfl | hy
    · exact ⟨by simp, fun h => hs (k.sub _ h), Nat.zero_le _⟩
    · have := k'.ff y hy
      exact ⟨List.mem_append.2 (.inl this.1), this.2⟩
  · simp only [List.map_cons, List.nodup_cons]
    have := k'.fnd
    simp only [List.map_cons, List.nodup_cons] at this
    refine ⟨fun h => ?_, this⟩
    rcases List.mem_cons.1 h with h | h
    · exact hs (h ▸ (k.ff (x, n) (by simp)).1)
    · rw [List.mem_map] at h
      obtain ⟨y, hy, rfl⟩ := h
      exact hs (k.ff y (List.mem_cons_of_mem _ hy)).1
theorem reached_loop (hd : IsCd [p, r, v, b] d) (hsh : d.blocks.length ≤ 4096) (hok : okSuccs d.blocks) (k M W : Nat) (hW : ∀ y < d.blocks.length, (sucs d.blocks y).length + 2 ≤ W) (S' P' : List Nat) : ∀ (m N : Nat) (fs : List (Nat × Nat)) (S P : List Nat) (seen : List Bool) (vs : Nat) (x2 : AV) (h : Hp),
    (d.blocks.length - S.length) * W + fsum (sucs d.blocks) fs ≤ m → m < N → RS h oc os ost vs [.rv p, .rv r, .rv v, .rv b] seen S fs d.blocks.length → IntsAt h [oc, os, ost] x2 (P.map Int.ofNat) → RQ (sucs d.blocks) fs S P → RunS (sucs d.blocks) fs S P S' P' →
      ∃ w h', ssa_reached_l248 k N M (.ptr oc 0 0) x2 (.sl os 0 0 d.blocks.length) (.sl ost vs 0 fs.length) h = some (.ret w, h') ∧ IntsAt h' [oc, os, ost] w (P'.map Int.ofNat) := by
  obtain ⟨p, r, v, b, e, _, _, _, hb⟩ := hd
  cases e
  intro m
  induction m with
  | zero =>
    intro N fs S P seen vs x2 h hm hN k1 k2 _ hr
    obtain ⟨N, rfl⟩ : ∃ N', N = N' + 1 := ⟨N - 1, by omega⟩
    cases fs with
    | cons x fs => obtain ⟨b, n⟩ := x; simp only [fsum] at hm; omega
    | nil =>
      obtain ⟨rfl, rfl⟩ := hr
      rw [ssa_reached_l248_eq, sl_len, bsp_not (by simp), ssa_reached_p63_eq]
      exact ⟨_, _, rfl, k2⟩
  | succ m ih =>
    intro N fs S P seen vs x2 h hm hN k1 k2 kq hr
    obtain ⟨N, rfl⟩ : ∃ N', N = N' + 1 := ⟨N - 1, by omega⟩
    cases fs with
    | nil =>
      obtain ⟨rfl, rfl⟩ := hr
      rw [ssa_reached_l248_eq, sl_len, bsp_not (by simp), ssa_reached_p63_eq]
      exact ⟨_, _, rfl, k2⟩
    | cons x rest =>
      obtain ⟨x, n⟩ := x
      have hx : x < d.blocks.length := k1.fs (x, n) (by simp)
      obtain ⟨junk, hst⟩ := k1.st
      rw [flat_rev] at hst
      have hSl : S.length ≤ d.blocks.length := nodup_le _ _ k1.nd k1.seenlt
      have hPl := nodup_sub_le _ _ kq.nd kq.sub
      have hfl : ((x, n) :: rest).length ≤ d.blocks.length := by
        have := nodup_le d.blocks.length _ kq.fnd (fun y hy => by
          rw [List.mem_map] at hy
          obtain ⟨z, hz, rfl⟩ := hy
          exact k1.fs z hz)
        simpa using this
      have hfl' : rest.length + 1 ≤ d.blocks.length := by simpa using hfl
      obtain ⟨a, q, s, t, brest, j1, j2, j3, j4, hbx⟩ := blk_at (R := ARes × Hp) hb hx
      have hsl : (sucs d.blocks x).length = d.blocks[x].succs.length := by rw [sucs_at hx]; simp
      have hs3 := j3.short
      have hoc := get_lt k1.c
      have hos := get_lt k1.s
      have host := get_lt hst
      have hav : ∀ o ∈ [oc, os, ost], o < h.length := by
        intro o ho
        simp at ho
        rcases ho with rfl | rfl | rfl <;> assumption
      have hfr : (flat rest.reverse).length = rest.length * 2 := by rw [flat_length]; simp
      have c0 : (flat rest.reverse ++ [ai x, ai n] ++ junk)[rest.length * 2]? = some (ai x) := by
        rw [List.append_assoc, List.getElem?_append_right (by omega), hfr]; simp
      have c1 : (flat rest.reverse ++ [ai x, ai n] ++ junk)[rest.length * 2 + 1]? = some (ai n) := by
        rw [List.append_assoc, List.getElem?_append_right (by omega), hfr, Nat.add_sub_cancel_left]; simp
      have etop : ∀ K : AV → Option (ARes × Hp), ixa 2 (.sl ost vs 0 ((x, n) :: rest).length) (wri .i64 ((((x, n) :: rest).length : Int) - 1)) K = K (.ptr ost vs (rest.length * 2)) := by
        intro K
        rw [List.length_cons, wri_small (n := ((rest.length + 1 : Nat) : Int) - 1) (by omega) (by omega)]
        rw [show ((rest.length + 1 : Nat) : Int) - 1 = (rest.length : Int) by omega]
        have : (rest.length : Int) < ((rest.length + 1 : Nat) : Int) := by omega
        simp only [ixa]
        rw [if_pos ⟨by omega, this⟩]
        simp
      rw [ssa_reached_l248_eq, sl_len, bsp_of (by simp), sl_len, etop, pad_ptr, ldv_at k1.c rfl, nck_ptr, pad_ptr, ldi_at (n := (x : Int)) hst (by rw [Nat.add_zero]; exact c0), hbx, pad_rop4, ldv_rop, nck_ptr, pad_ptr, ldi_at (n := (n : Int)) hst c1, j3.len]
      have hfx := kq.ff (x, n) (by simp)
      simp only [fsum] at hm
      by_cases hn : n = d.blocks[x].succs.length
      · have hr' := hr.pop (by omega)
        rw [bsp_of (by simp [hn]), nck_ptr, pad_ptr, ldi_at (n := (x : Int)) hst (by rw [Nat.add_zero]; exact c0)]
        obtain ⟨w, h3, hK, k2', hle, hkeep⟩ := k2.push (by simp; omega) hav (x : Int)
        rw [hK, sl_len]
        have k1' := k1.keep hkeep
        have hst' : h3[ost]? = some ⟨vs, 2, flat rest.reverse ++ ([ai x, ai n] ++ junk)⟩ := by rw [hkeep ost (by simp), hst, List.append_assoc]
        have esl : ∀ K : AV → Option (ARes × Hp), slc 2 h3 (.sl ost vs 0 ((x, n) :: rest).length) none (some (wri .i64 ((((x, n) :: rest).length : Int) - 1))) K = K (.sl ost vs 0 rest.length) := by
          intro K
          rw [List.length_cons, wri_small (n := ((rest.length + 1 : Nat) : Int) - 1) (by omega) (by omega)]
          rw [show ((rest.length + 1 : Nat) : Int) - 1 = (rest.length : Int) by omega]
          simp only [slc, liveA, hst', Option.getD_some, Option.getD_none]
          rw [if_pos ⟨by simp, by omega, by omega, by omega⟩]
          simp
        rw [esl]
        exact ih N rest S (P ++ [x]) seen vs w h3 (by omega) (by omega) ⟨k1'.c, k1'.s, ⟨_, hst'⟩, k1.len, k1.mem, k1.nd, k1.cs, k1.ct, k1.sst, fun y hy => k1.fs y (List.mem_cons_of_mem _ hy)⟩ (by simpa using k2') kq.pop hr'
      · have hnl : n < (sucs d.blocks x).length := by
          have := hfx.2.2
          simp only at this
          omega
        have hnl' : n < d.blocks[x].succs.length := by omega
        obtain ⟨y, hy, hyl⟩ := hok x d.blocks[x] (List.getElem?_eq_getElem hx) d.blocks[x].succs[n] (List.getElem_mem hnl')
        have hsy : (sucs d.blocks x)[n]? = some y := by
          rw [sucs_at hx, List.getElem?_map, List.getElem?_eq_getElem hnl', hy]; rfl
        have hset : (flat rest.reverse ++ [ai x, ai n] ++ junk).set (rest.length * 2 + 1) (ai ((n + 1 : Nat) : Int)) = flat rest.reverse ++ [ai x, ai ((n + 1 : Nat) : Int)] ++ junk := by
          rw [List.append_assoc, List.set_append_right _ _ (by omega), hfr, Nat.add_sub_cancel_left, List.append_assoc]
          rfl
        have hst1 : (h.set ost ⟨vs, 2, (flat rest.reverse ++ [ai x, ai n] ++ junk).set (rest.length * 2 + 1) (ai ((n + 1 : Nat) : Int))⟩)[ost]? = some ⟨vs, 2, flat ((x, n + 1) :: rest).reverse ++ junk⟩ := by
          rw [hset, flat_rev]; exact get_set_eq hst
        have hs1 : (h.set ost ⟨vs, 2, (flat rest.reverse ++ [ai x, ai n] ++ junk).set (rest.length * 2 + 1) (ai ((n + 1 : Nat) : Int))⟩)[os]? = some ⟨0, 1, seen.map ab⟩ := get_set_ne k1.sst.symm k1.s
        have hc1 : (h.set ost ⟨vs, 2, (flat rest.reverse ++ [ai x, ai n] ++ junk).set (rest.length * 2 + 1) (ai ((n + 1 : Nat) : Int))⟩)[oc]? = some ⟨0, 1, [.rv p, .rv r, .rv v, .rv b]⟩ := get_set_ne k1.ct.symm k1.c
        have k2s : IntsAt (h.set ost ⟨vs, 2, (flat rest.reverse ++ [ai x, ai n] ++ junk).set (rest.length * 2 + 1) (ai ((n + 1 : Nat) : Int))⟩) [oc, os, ost] x2 (P.map Int.ofNat) := k2.set_ne (by simp) _
        rw [bsp_not (by simp; omega), nck_ptr, pad_ptr, ldi_at (n := (n : Int)) hst c1, j3.at hnl', hy, nck_ptr, pad_ptr, ldi_at (n := (n : Int)) hst c1, nck_ptr, pad_ptr, wri_succ (by omega),
          stv_at hst (by simp only [List.length_append, hfr, List.length_cons]; omega) rfl rfl]
        generalize h.set ost ⟨vs, 2, (flat rest.reverse ++ [ai x, ai n] ++ junk).set (rest.length * 2 + 1) (ai ((n + 1 : Nat) : Int))⟩ = h1 at hst1 hs1 hc1 k2s ⊢
        have hsb : ∃ q, seen[y]? = some q := ⟨_, List.getElem?_eq_getElem (by rw [k1.len]; exact hyl)⟩
        obtain ⟨qb, hqb⟩ := hsb
        rw [sl_at hyl, ldb_at (b := qb) hs1 (by simp [hqb])]
        have hfs1 : ∀ z ∈ (x, n + 1) :: rest, z.1 < d.blocks.length := by
          intro z hz
          rcases List.mem_cons.1 hz with rfl | hz
          · exact hx
          · exact k1.fs z (List.mem_cons_of_mem _ hz)
        cases qb with
        | true =>
          rw [bsp_not (by rfl)]
          have := ih N ((x, n + 1) :: rest) S P seen vs x2 h1 (by simp only [fsum]; omega) (by omega) ⟨hc1, hs1, ⟨_, hst1⟩, k1.len, k1.mem, k1.nd, k1.cs, k1.ct, k1.sst, hfs1⟩ k2s (kq.seen hnl) ((hr.next hsy).1 ((k1.mem y).1 hqb))
          exact this
        | false =>
          have hyS : y ∉ S := fun h => by have := (k1.mem y).2 h; rw [hqb] at this; cases this
          have hS1 : (S ++ [y]).length ≤ d.blocks.length := nodup_le _ _ (nodup_snoc k1.nd hyS) (fun z hz => by
            rcases List.mem_append.1 hz with hz | hz
            · exact k1.seenlt z hz
            · simp at hz; subst hz; exact hyl)
          rw [bsp_of (by rfl), sl_at hyl, stv_at hs1 (by simp; rw [k1.len]; exact hyl) rfl rfl]
          have hst2 := get_set_ne (ob := ⟨0, 1, (seen.map ab).set y (ab true)⟩) k1.sst hst1
          have hc2 := get_set_ne (ob := ⟨0, 1, (seen.map ab).set y (ab true)⟩) k1.cs.symm hc1
          have hs2 := get_set_eq (ob := ⟨0, 1, (seen.map ab).set y (ab true)⟩) hs1
          have k2t : IntsAt (h1.set os ⟨0, 1, (seen.map ab).set y (ab true)⟩) [oc, os, ost] x2 (P.map Int.ofNat) := k2s.set_ne (by simp) _
          generalize h1.set os ⟨0, 1, (seen.map ab).set y (ab true)⟩ = h2 at hst2 hc2 hs2 k2t ⊢
          have hnew : ∀ K : AV → Hp → Option (ARes × Hp), (bld [.rv (.int .i64 0), .rv (.int .i64 0)] [(some (0, 1), .rv (.int .i64 y)), (some (1, 1), .rv (.int .i64 0))] fun v52 => bsl 2 1 [.rv (.int .i64 0), .rv (.int .i64 0)] [(some (0, 2), v52)] h2 fun v53 h54 => apn 2 16 h54 (.sl ost vs 0 ((x, n) :: rest).length) v53 fun v55 h56 => K v55 h56) =
              K (.sl ost (vs + 1) 0 ((y, 0) :: (x, n + 1) :: rest).length) ((h2 ++ [(⟨0, 2, [ai y, ai 0]⟩ : Ob)]).set ost ⟨vs + 1, 2, flat ((y, 0) :: (x, n + 1) :: rest).reverse⟩) := by
            intro K
            have e1 := get_old hst2 [⟨0, 2, [ai y, ai 0]⟩]
            have e2 : wcells 2 (h2 ++ [(⟨0, 2, [ai y, ai 0]⟩ : Ob)]) (.sl h2.length 0 0 1) = some (1, [ai y, ai 0]) := by
              simp only [wcells, get_new]
              rw [if_pos (by simp)]
              rfl
            have e3 : (flat ((x, n + 1) :: rest).reverse).length = (rest.length + 1) * 2 := by rw [flat_length]; simp
            have e4 : (flat ((x, n + 1) :: rest).reverse ++ junk).take ((rest.length + 1) * 2) = flat ((x, n + 1) :: rest).reverse := by
              rw [List.take_append_of_le_length (by omega), List.take_of_length_le (by omega)]
            have e5 : ((rest.length + 1 + 1 : Nat) : Int) ≤ room := by simp [room]; omega
            have e6 : ((16 : Nat) : Int) * ((rest.length + 1 + 1 : Nat) : Int) ≤ room := by simp [room]; omega
            show apn 2 16 (h2 ++ [(⟨0, 2, [ai y, ai 0]⟩ : Ob)]) (.sl ost vs 0 (rest.length + 1)) (.sl h2.length 0 0 1) (fun v55 h56 => K v55 h56) = _
            simp only [apn, e2, e1]
            rw [if_pos ⟨trivial, trivial, trivial, by rw [List.length_append, e3]; omega, e5, e6, by simp [oneA]⟩, e4, flat_rev y 0, List.length_cons]
            rfl
          rw [hnew]
          have hcnt := (hr.next hsy).2 hyS
          have hysl := hW y hyl
          refine ih N ((y, 0) :: (x, n + 1) :: rest) (S ++ [y]) P (seen.set y true) (vs + 1) x2 _ ?_ (by omega) ⟨?_, ?_, ⟨[], ?_⟩, by simp [k1.len], ?_, nodup_snoc k1.nd hyS, k1.cs, k1.ct, k1.sst, ?_⟩ ?_ (kq.push hnl hyS) hcnt
          · simp only [fsum, List.length_append, List.length_cons, List.length_nil]
            rw [List.length_append, List.length_cons, List.length_nil] at hS1
            obtain ⟨z, hz⟩ : ∃ z, d.blocks.length - S.length = z + 1 := ⟨d.blocks.length - S.length - 1, by omega⟩
            rw [hz] at hm
            rw [show d.blocks.length - (S.length + (0 + 1)) = z by omega]
            rw [Nat.add_mul, Nat.one_mul] at hm
            omega
          · exact get_set_ne k1.ct.symm (get_old hc2 _)
          · rw [List.map_set]; exact get_set_ne k1.sst.symm (get_old hs2 _)
          · rw [List.append_nil]; exact get_set_eq (get_old hst2 _)
          · intro z
            rw [List.getElem?_set, List.mem_append, List.mem_singleton]
            by_cases e : y = z
            · subst e; simp [k1.len, hyl]
            · rw [if_neg e, k1.mem]
              exact ⟨.inl, fun h => h.resolve_right fun h => e h.symm⟩
          · intro z hz
            rcases List.mem_cons.1 hz with rfl | hz
            · exact hyl
            · exact hfs1 z hz
          · exact (k2t.app _).set_ne (by simp) _
/-- Blocks in postorder. -/
def IsPost (bs : List Blk) (P : List Nat) : Prop := ∃ S, Dfs (sucs bs) [0] [] [] S P
theorem IsPost.ex {bs : List Blk} (hok : okSuccs bs) (h0 : 0 < bs.length) : ∃ P, IsPost bs P := by
  obtain ⟨S, P, h⟩ := Dfs.total (sucs_lt hok) bs.length [0] [] [] (by simp) (by simp) (by simp) (by simpa using h0)
  exact ⟨P, S, h⟩
theorem IsPost.det {bs : List Blk} {P Q : List Nat} (h : IsPost bs P) (k : IsPost bs Q) : P = Q := by
  obtain ⟨S, h⟩ := h
  obtain ⟨T, k⟩ := k
  exact (h.det k).2
theorem IsPost.runS {bs : List Blk} {P : List Nat} (h : IsPost bs P) : ∃ S, RunS (sucs bs) [(0, 0)] [0] [] S P := by
  obtain ⟨S, h⟩ := h
  cases h with
  | seen h => simp at h
  | go _ r1 r2 =>
    obtain ⟨rfl, rfl⟩ := r2.nil_inv
    exact ⟨_, _, _, by simpa using r1, rfl, rfl⟩
theorem IsPost.facts {bs : List Blk} {P : List Nat} (hok : okSuccs bs) (h0 : 0 < bs.length) (h : IsPost bs P) : P.Nodup ∧ (∀ x ∈ P, x < bs.length) ∧ P.length ≤ bs.length := by
  obtain ⟨S, h⟩ := h
  obtain ⟨N, Q, k⟩ := h.found
  have e : P = Q := by rw [k.p]; rfl
  have h1 : ∀ x ∈ P, x < bs.length := by
    intro x hx
    rw [e] at hx
    obtain ⟨y, hy, w⟩ := k.rc x ((k.mem x).2 hx)
    simp at hy
    subst hy
    exact w.lt (sucs_lt hok) h0
  exact ⟨e ▸ k.qd, h1, nodup_le _ _ (e ▸ k.qd) h1⟩
end
theorem reached_spec {cs : List RV} {d : Cd} {P : List Nat} (hd : IsCd cs d) (hl : 0 < d.blocks.length ∧ d.blocks.length ≤ 4096) (hok : okSuccs d.blocks) (hP : IsPost d.blocks P) :
    ∃ x, F_ssa_reached [.agg cs] = some (.ret x) ∧ IsInts x (P.map Int.ofNat) := by
  have hd' := hd
  obtain ⟨p, r, v, b, rfl, _, _, _, hb⟩ := hd
  have ho : ([⟨0, 1, [.rv p, .rv r, .rv v, .rv b]⟩] : Hp)[0]? = some ⟨0, 1, [.rv p, .rv r, .rv v, .rv b]⟩ := rfl
  obtain ⟨S, hr⟩ := hP.runS
  have hz : ∀ n : Nat, zrep [ab false] n = (List.replicate n false).map ab := by
    intro n; simp [zrep]
  obtain ⟨h1, eh1⟩ : ∃ h1 : Hp, h1 = [⟨0, 1, [.rv p, .rv r, .rv v, .rv b]⟩] ++ [⟨0, 1, zrep [ab false] d.blocks.length⟩] := ⟨_, rfl⟩
  have e1 : ∀ K : AV → Hp → Option (ARes × Hp), (bld [.rv (.int .i64 0), .rv (.int .i64 0)] [(some (0, 1), .rv (.int .i64 0)), (some (1, 1), .rv (.int .i64 0))] fun v8 => bsl 2 1 [.rv (.int .i64 0), .rv (.int .i64 0)] [(some (0, 2), v8)] h1 fun v9 h10 => K v9 h10) = K (.sl 2 0 0 1) (h1 ++ [⟨0, 2, [ai 0, ai 0]⟩]) := by
    intro K
    rw [eh1]
    rfl
  have hs2 : (h1 ++ [(⟨0, 2, [ai 0, ai 0]⟩ : Ob)])[1]? = some ⟨0, 1, (List.replicate d.blocks.length false).map ab⟩ := by rw [eh1, hz]; rfl
  obtain ⟨W, eW⟩ : ∃ W : Nat, W = 1000000002 := ⟨_, rfl⟩
  have hW : ∀ y < d.blocks.length, (sucs d.blocks y).length + 2 ≤ W := by
    intro y hy
    obtain ⟨_, _, s', _, _, _, _, j3', _, _⟩ := blk_at (R := ARes × Hp) hb hy
    rw [sucs_at hy, List.length_map]
    have := j3'.short
    omega
  obtain ⟨w, h', e, k2⟩ := reached_loop (oc := 0) (os := 1) (ost := 2) hd' hl.2 hok big ((h1 ++ [(⟨0, 2, [ai 0, ai 0]⟩ : Ob)]).set 1 ⟨0, 1, ((List.replicate d.blocks.length false).map ab).set 0 (ab true)⟩).length W hW S P (10000 * W) big [(0, 0)] [0] [] ((List.replicate d.blocks.length false).set 0 true) 0 (.rv .nils)
    ((h1 ++ [(⟨0, 2, [ai 0, ai 0]⟩ : Ob)]).set 1 ⟨0, 1, ((List.replicate d.blocks.length false).map ab).set 0 (ab true)⟩) (by
      have := hW 0 hl.1
      simp only [fsum, List.length_cons, List.length_nil]
      have : (d.blocks.length - (0 + 1)) * W ≤ 4095 * W := Nat.mul_le_mul_right _ (by omega)
      omega) (by rw [big_val]; omega)
    ⟨by rw [eh1]; rfl, by rw [List.map_set]; exact get_set_eq hs2, ⟨[], by rw [eh1]; rfl⟩, by simp, fun x => by
      rw [List.getElem?_set]
      by_cases e : 0 = x
      · subst e; simp [hl.1]
      · rw [if_neg e, List.getElem?_replicate]
        split <;> simp <;> omega, by simp, by omega, by omega, by omega, by simpa using hl.1⟩ .nil ⟨by simp, by simp, by simp, by simp⟩ hr
  obtain ⟨x, hx, hi⟩ := k2.done (by have := (hP.facts hok hl.1).2.2; simp; omega)
  refine ⟨x, ?_, hi⟩
  unfold F_ssa_reached
  rw [List.map_cons, List.map_nil, ssa_reached_eq, box_agg, List.nil_append, List.length_nil, show List.map AV.rv [p, r, v, b] = [.rv p, .rv r, .rv v, .rv b] from rfl,
    pad_ptr, ldv_at ho rfl, hb.len, mks_one (by omega) (by omega)]
  have hl1 : ([⟨0, 1, [.rv p, .rv r, .rv v, .rv b]⟩] : Hp).length = 1 := rfl
  have e2 : ∀ K : AV → Option (ARes × Hp), ixa 1 (.sl 1 0 0 d.blocks.length) 0 K = K (.ptr 1 0 0) := fun K => sl_at (i := 0) hl.1 K
  rw [hl1, ← eh1, e1, e2, stv_at hs2 (by simp; exact hl.1) rfl rfl]
  simp only [List.length_cons, List.length_nil, Nat.zero_add] at e
  rw [e]
  simp [pureR, hx]
end Go.Proofs.Ytknphnmhjmejaaa
