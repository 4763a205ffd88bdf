/-  Blocks that are reached, in the order of their distance: plain. No conditions. -/
import Derived.Test.YtknphnmhjmejaaaLib
namespace Go.Proofs.Ytknphnmhjmejaaa
set_option linter.unusedVariables false
/-- What is reached from s by ways that do not come to w. -/
inductive Rch (bs : List Blk) (w : Int) (s : Nat) : Nat → Prop
  | start : Rch bs w s s
  | step {a n : Nat} {b : Blk} (r : Rch bs w s a) (hb : bs[a]? = some b) (hn : (n : Int) ∈ b.succs) (hw : (n : Int) ≠ w) : Rch bs w s n
structure BI (bs : List Blk) (w : Int) (s : Nat) (seen : List Bool) (list : List Nat) (i j : Nat) : Prop where
  len : seen.length = bs.length
  cnt : list.length = seen.count true
  mem : ∀ x, x ∈ list ↔ seen[x]? = some true
  rch : ∀ x, x ∈ list → Rch bs w s x
  start : s ∈ list
  done : ∀ t x b, t < i → list[t]? = some x → bs[x]? = some b → ∀ n : Nat, (n : Int) ∈ b.succs → (n : Int) ≠ w → n ∈ list
  cur : ∀ x b, list[i]? = some x → bs[x]? = some b → ∀ q : Nat, q < j → ∀ n : Nat, b.succs[q]? = some (n : Int) → (n : Int) ≠ w → n ∈ list
section
variable {bs : List Blk} {w : Int} {s : Nat} {seen : List Bool} {list : List Nat} {i j : Nat}
theorem BI.bound (k : BI bs w s seen list i j) : list.length ≤ bs.length := by
  rw [k.cnt, ← k.len]
  exact List.count_le_length
theorem BI.lt (k : BI bs w s seen list i j) {x : Nat} (hx : x ∈ list) : x < bs.length := by
  rw [← k.len]
  exact (List.getElem?_eq_some_iff.1 ((k.mem x).1 hx)).1
theorem count_set_true (l : List Bool) (n : Nat) (hn : l[n]? = some false) : (l.set n true).count true = l.count true + 1 := by
  induction l generalizing n with
  | nil => simp at hn
  | cons b l ih =>
    cases n with
    | zero => simp at hn; subst hn; simp
    | succ n =>
      simp only [List.getElem?_cons_succ] at hn
      simp [List.count_cons, ih n hn]
      omega
theorem BI.init (hs : s < bs.length) : BI bs w s ((List.replicate bs.length false).set s true) [s] 0 0 where
  len := by simp
  cnt := by rw [count_set_true _ _ (by simp [hs])]; simp [List.count_replicate]
  mem := fun x => by
    rw [List.getElem?_set]
    by_cases e : s = x
    · subst e; simp [hs]
    · rw [if_neg e, List.getElem?_replicate]
      split <;> simp <;> omega
  rch := fun x hx => by simp at hx; subst hx; exact .start
  start := by simp
  done := fun t x b ht => by omega
  cur := fun x b _ _ q hq => by omega
theorem BI.skip (k : BI bs w s seen list i j) {x n : Nat} {b : Blk} (hx : list[i]? = some x) (hb : bs[x]? = some b) (hn : b.succs[j]? = some (n : Int)) (h : (n : Int) = w ∨ seen[n]? = some true) : BI bs w s seen list i (j + 1) where
  len := k.len
  cnt := k.cnt
  mem := k.mem
  rch := k.rch
  start := k.start
  done := k.done
  cur := fun x' b' hx' hb' q hq m hm hw => by
    rcases Nat.lt_or_ge q j with hlt | hge
    · exact k.cur x' b' hx' hb' q hlt m hm hw
    · obtain rfl : q = j := by omega
      rw [hx] at hx'; cases hx'
      rw [hb] at hb'; cases hb'
      rw [hn] at hm
      simp only [Option.some.injEq] at hm
      have : n = m := by omega
      subst this
      rcases h with h | h
      · exact absurd h hw
      · exact (k.mem n).2 h
theorem BI.push (k : BI bs w s seen list i j) {x n : Nat} {b : Blk} (hx : list[i]? = some x) (hb : bs[x]? = some b) (hn : b.succs[j]? = some (n : Int)) (hw : (n : Int) ≠ w) (hf : seen[n]? = some false) : BI bs w s (seen.set n true) (list ++ [n]) i (j + 1) where
  len := by simp [k.len]
  cnt := by rw [count_set_true _ _ hf]; simp [k.cnt]
  mem := fun y => by
    have hlt := (List.getElem?_eq_some_iff.1 hf).1
    rw [List.mem_append, k.mem, List.getElem?_set]
    by_cases e : n = y
    · subst e; simp [hlt]
    · rw [if_neg e]
      simp
      omega
  rch := fun y hy => by
    rcases List.mem_append.1 hy with hy | hy
    · exact k.rch y hy
    · simp at hy
      subst hy
      exact .step (k.rch x (List.mem_of_getElem? hx)) hb (List.mem_of_getElem? hn) hw
  start := List.mem_append.2 (.inl k.start)
  done := fun t x' b' ht hx' hb' m hm hmw => by
    have hlt : t < list.length := by have := (List.getElem?_eq_some_iff.1 hx).1; omega
    rw [List.getElem?_append_left hlt] at hx'
    exact List.mem_append.2 (.inl (k.done t x' b' ht hx' hb' m hm hmw))
  cur := fun x' b' hx' hb' q hq m hm hmw => by
    have hlt := (List.getElem?_eq_some_iff.1 hx).1
    rw [List.getElem?_append_left hlt] at hx'
    rcases Nat.lt_or_ge q j with hq' | hge
    · exact List.mem_append.2 (.inl (k.cur x' b' hx' hb' q hq' m hm hmw))
    · obtain rfl : q = j := by omega
      rw [hx] at hx'; cases hx'
      rw [hb] at hb'; cases hb'
      rw [hn] at hm
      simp only [Option.some.injEq] at hm
      have : n = m := by omega
      subst this
      simp
theorem BI.next (k : BI bs w s seen list i j) {x : Nat} {b : Blk} (hx : list[i]? = some x) (hb : bs[x]? = some b) (hj : j = b.succs.length) : BI bs w s seen list (i + 1) 0 where
  len := k.len
  cnt := k.cnt
  mem := k.mem
  rch := k.rch
  start := k.start
  done := fun t x' b' ht hx' hb' m hm hmw => by
    rcases Nat.lt_or_ge t i with hlt | hge
    · exact k.done t x' b' hlt hx' hb' m hm hmw
    · obtain rfl : t = i := by omega
      rw [hx] at hx'; cases hx'
      rw [hb] at hb'; cases hb'
      obtain ⟨q, hq⟩ := List.getElem?_of_mem hm
      exact k.cur x b hx hb q (by rw [hj]; exact (List.getElem?_eq_some_iff.1 hq).1) m hq hmw
  cur := fun x' b' _ _ q hq => by omega
theorem BI.fin (k : BI bs w s seen list i j) (hi : list.length ≤ i) (x : Nat) : seen[x]? = some true ↔ Rch bs w s x := by
  rw [← k.mem]
  constructor
  · exact k.rch x
  · intro r
    induction r with
    | start => exact k.start
    | step r hb hn hw ih =>
      obtain ⟨t, ht⟩ := List.getElem?_of_mem ih
      exact k.done t _ _ (by have := (List.getElem?_eq_some_iff.1 ht).1; omega) ht hb _ hn hw
end
end Go.Proofs.Ytknphnmhjmejaaa
