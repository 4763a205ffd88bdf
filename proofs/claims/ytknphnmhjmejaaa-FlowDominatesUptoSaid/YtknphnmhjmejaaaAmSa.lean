/-  The abstract machine's values and heap against the model's: definitions, and what they bear. No conditions. -/
import Derived.Test.YtknphnmhjmejaaaAm
import Derived.Laws.Rows
import Derived.Laws.Append
namespace Go.Proofs.Ytknphnmhjmejaaa
set_option linter.unusedVariables false

structure JE where
  b : Nat
  n : Nat
  esz : Nat
abbrev Jm := Nat → Nat → Option JE
abbrev Mm := Addr → Option Value

mutual
def VR (M : Mm) : RV → Value → Prop
  | .bool b, v => v = .bool b
  | .int k n, v => v = .int k n
  | .float k b, v => v = .float k b
  | .str s, v => v = .string s
  | .nilp, v => v = .pointer none
  | .nils, v => v = .slice none 0 0
  | .nilf, v => v = .nilFunc
  | .nili, v => v = .nilIface
  | .nilm, v => v = .map none
  | .rop cs, v => ∃ a, v = .pointer (some a) ∧ VRs M cs (fun i => M (a.add i))
  | .ros cs len, v => ∃ a cap, v = .slice (some a) len cap ∧ len ≤ cap ∧ VRs M cs (fun i => M (a.add i))
  | .iface t x, v => ∃ u, v = .iface t u ∧ VR M x u
  | .agg cs, v => ∃ vs : Array Value, v = .agg vs ∧ vs.size = cs.length ∧ VRs M cs (fun i => vs[i]?)
  | .tuple cs, v => ∃ vs : Array Value, v = .tuple vs ∧ vs.size = cs.length ∧ VRs M cs (fun i => vs[i]?)
def VRs (M : Mm) : List RV → (Nat → Option Value) → Prop
  | [], _ => True
  | x :: cs, f => (∃ v, f 0 = some v ∧ VR M x v) ∧ VRs M cs (fun i => f (i + 1))
end
mutual
def V (J : Jm) (M : Mm) : AV → Value → Prop
  | .any, _ => True
  | .rv x, v => VR M x v
  | .ptr o ver off, v => ∃ e, J o ver = some e ∧ v = .pointer (some ⟨e.b, off, none⟩)
  | .sl o ver off len, v => ∃ e, J o ver = some e ∧ ∃ a cap, v = .slice (some a) len cap ∧ len ≤ cap ∧ (cap = 0 ∨ (a = ⟨e.b, off, none⟩ ∧ off + cap * e.esz ≤ e.n))
  | .func f fs cs, v => ∃ us vs : Array Value, v = .func (.func f) us vs ∧ (us.size = fs.length ∧ Vs J M fs (fun i => us[i]?)) ∧ vs.size = cs.length ∧ Vs J M cs (fun i => vs[i]?)
  | .iface t x, v => ∃ u, v = .iface t u ∧ V J M x u
  | .agg cs, v => ∃ vs : Array Value, v = .agg vs ∧ vs.size = cs.length ∧ Vs J M cs (fun i => vs[i]?)
  | .tuple cs, v => ∃ vs : Array Value, v = .tuple vs ∧ vs.size = cs.length ∧ Vs J M cs (fun i => vs[i]?)
def Vs (J : Jm) (M : Mm) : List AV → (Nat → Option Value) → Prop
  | [], _ => True
  | x :: cs, f => (∃ v, f 0 = some v ∧ V J M x v) ∧ Vs J M cs (fun i => f (i + 1))
end

theorem VRs_iff {M : Mm} : ∀ {cs : List RV} {f : Nat → Option Value}, VRs M cs f ↔ ∀ i x, cs[i]? = some x → ∃ v, f i = some v ∧ VR M x v
  | [], f => by simp [VRs]
  | x :: cs, f => by
    simp only [VRs, VRs_iff (cs := cs)]
    constructor
    · rintro ⟨h0, h⟩ i y hy
      cases i with
      | zero => simp at hy; subst hy; exact h0
      | succ i => exact h i y (by simpa using hy)
    · intro h
      exact ⟨h 0 x rfl, fun i y hy => h (i + 1) y (by simpa using hy)⟩
theorem Vs_iff {J : Jm} {M : Mm} : ∀ {cs : List AV} {f : Nat → Option Value}, Vs J M cs f ↔ ∀ i x, cs[i]? = some x → ∃ v, f i = some v ∧ V J M x v
  | [], f => by simp [Vs]
  | x :: cs, f => by
    simp only [Vs, Vs_iff (cs := cs)]
    constructor
    · rintro ⟨h0, h⟩ i y hy
      cases i with
      | zero => simp at hy; subst hy; exact h0
      | succ i => exact h i y (by simpa using hy)
    · intro h
      exact ⟨h 0 x rfl, fun i y hy => h (i + 1) y (by simpa using hy)⟩

def MLe (M M' : Mm) : Prop := ∀ a v, M a = some v → M' a = some v
def JLe (J J' : Jm) : Prop := ∀ o r e, J o r = some e → J' o r = some e
theorem MLe.refl (M : Mm) : MLe M M := fun _ _ h => h
theorem MLe.trans {A B C : Mm} (h : MLe A B) (k : MLe B C) : MLe A C := fun a v x => k a v (h a v x)
theorem JLe.refl (J : Jm) : JLe J J := fun _ _ _ h => h
theorem JLe.trans {A B C : Jm} (h : JLe A B) (k : JLe B C) : JLe A C := fun a v e x => k a v e (h a v e x)

mutual
theorem VR_mono {M M' : Mm} (h : MLe M M') : ∀ (x : RV) (v : Value), VR M x v → VR M' x v
  | .bool _, _, k => by simpa only [VR] using k
  | .int _ _, _, k => by simpa only [VR] using k
  | .float _ _, _, k => by simpa only [VR] using k
  | .str _, _, k => by simpa only [VR] using k
  | .nilp, _, k => by simpa only [VR] using k
  | .nils, _, k => by simpa only [VR] using k
  | .nilf, _, k => by simpa only [VR] using k
  | .nili, _, k => by simpa only [VR] using k
  | .nilm, _, k => by simpa only [VR] using k
  | .rop cs, v, k => by
    simp only [VR] at k ⊢
    obtain ⟨a, e, r⟩ := k
    exact ⟨a, e, VRs_mono h cs _ _ (fun i v hv => h _ _ hv) r⟩
  | .ros cs len, v, k => by
    simp only [VR] at k ⊢
    obtain ⟨a, cap, e, l, r⟩ := k
    exact ⟨a, cap, e, l, VRs_mono h cs _ _ (fun i v hv => h _ _ hv) r⟩
  | .iface t x, v, k => by
    simp only [VR] at k ⊢
    obtain ⟨u, e, r⟩ := k
    exact ⟨u, e, VR_mono h x u r⟩
  | .agg cs, v, k => by
    simp only [VR] at k ⊢
    obtain ⟨vs, e, l, r⟩ := k
    exact ⟨vs, e, l, VRs_mono h cs _ _ (fun i v hv => hv) r⟩
  | .tuple cs, v, k => by
    simp only [VR] at k ⊢
    obtain ⟨vs, e, l, r⟩ := k
    exact ⟨vs, e, l, VRs_mono h cs _ _ (fun i v hv => hv) r⟩
theorem VRs_mono {M M' : Mm} (h : MLe M M') : ∀ (cs : List RV) (f f' : Nat → Option Value), (∀ i v, f i = some v → f' i = some v) → VRs M cs f → VRs M' cs f'
  | [], _, _, _, _ => by simp [VRs]
  | x :: cs, f, f', hf, k => by
    simp only [VRs] at k ⊢
    obtain ⟨⟨v, h0, hv⟩, r⟩ := k
    exact ⟨⟨v, hf _ _ h0, VR_mono h x v hv⟩, VRs_mono h cs _ _ (fun i v hv => hf _ _ hv) r⟩
end
mutual
theorem V_mono {J J' : Jm} {M M' : Mm} (hJ : JLe J J') (h : MLe M M') : ∀ (x : AV) (v : Value), V J M x v → V J' M' x v
  | .any, _, _ => by simp [V]
  | .rv x, v, k => by simp only [V] at k ⊢; exact VR_mono h x v k
  | .ptr o r off, v, k => by
    simp only [V] at k ⊢
    obtain ⟨e, he, hv⟩ := k
    exact ⟨e, hJ _ _ _ he, hv⟩
  | .sl o r off len, v, k => by
    simp only [V] at k ⊢
    obtain ⟨e, he, hv⟩ := k
    exact ⟨e, hJ _ _ _ he, hv⟩
  | .func f fs cs, v, k => by
    simp only [V] at k ⊢
    obtain ⟨us, vs, e, ⟨l1, r1⟩, l, r⟩ := k
    exact ⟨us, vs, e, ⟨l1, Vs_mono hJ h fs _ _ (fun i v hv => hv) r1⟩, l, Vs_mono hJ h cs _ _ (fun i v hv => hv) r⟩
  | .iface t x, v, k => by
    simp only [V] at k ⊢
    obtain ⟨u, e, r⟩ := k
    exact ⟨u, e, V_mono hJ h x u r⟩
  | .agg cs, v, k => by
    simp only [V] at k ⊢
    obtain ⟨vs, e, l, r⟩ := k
    exact ⟨vs, e, l, Vs_mono hJ h cs _ _ (fun i v hv => hv) r⟩
  | .tuple cs, v, k => by
    simp only [V] at k ⊢
    obtain ⟨vs, e, l, r⟩ := k
    exact ⟨vs, e, l, Vs_mono hJ h cs _ _ (fun i v hv => hv) r⟩
theorem Vs_mono {J J' : Jm} {M M' : Mm} (hJ : JLe J J') (h : MLe M M') : ∀ (cs : List AV) (f f' : Nat → Option Value), (∀ i v, f i = some v → f' i = some v) → Vs J M cs f → Vs J' M' cs f'
  | [], _, _, _, _ => by simp [Vs]
  | x :: cs, f, f', hf, k => by
    simp only [Vs] at k ⊢
    obtain ⟨⟨v, h0, hv⟩, r⟩ := k
    exact ⟨⟨v, hf _ _ h0, V_mono hJ h x v hv⟩, Vs_mono hJ h cs _ _ (fun i v hv => hf _ _ hv) r⟩
end
/-- What names no object from n on stands by the smaller map. -/
def cutJ (n : Nat) (J : Jm) : Jm := fun o r => if o < n then J o r else none
mutual
theorem V_cut {J : Jm} {M : Mm} (n : Nat) : ∀ (x : AV) (v : Value), belA n x = true → V J M x v → V (cutJ n J) M x v
  | .any, _, _, _ => by simp [V]
  | .rv x, v, _, k => by simpa only [V] using k
  | .ptr o r off, v, b, k => by
    simp only [belA, decide_eq_true_eq] at b
    simp only [V] at k ⊢
    obtain ⟨e, he, hv⟩ := k
    exact ⟨e, by simp [cutJ, b, he], hv⟩
  | .sl o r off len, v, b, k => by
    simp only [belA, decide_eq_true_eq] at b
    simp only [V] at k ⊢
    obtain ⟨e, he, hv⟩ := k
    exact ⟨e, by simp [cutJ, b, he], hv⟩
  | .func f fs cs, v, b, k => by
    simp only [belA, Bool.and_eq_true] at b
    simp only [V] at k ⊢
    obtain ⟨us, vs, e, ⟨l1, r1⟩, l, r⟩ := k
    exact ⟨us, vs, e, ⟨l1, Vs_cut n fs _ b.1 r1⟩, l, Vs_cut n cs _ b.2 r⟩
  | .iface t x, v, b, k => by
    simp only [belA] at b
    simp only [V] at k ⊢
    obtain ⟨u, e, r⟩ := k
    exact ⟨u, e, V_cut n x u b r⟩
  | .agg cs, v, b, k => by
    simp only [belA] at b
    simp only [V] at k ⊢
    obtain ⟨vs, e, l, r⟩ := k
    exact ⟨vs, e, l, Vs_cut n cs _ b r⟩
  | .tuple cs, v, b, k => by
    simp only [belA] at b
    simp only [V] at k ⊢
    obtain ⟨vs, e, l, r⟩ := k
    exact ⟨vs, e, l, Vs_cut n cs _ b r⟩
theorem Vs_cut {J : Jm} {M : Mm} (n : Nat) : ∀ (cs : List AV) (f : Nat → Option Value), belL n cs = true → Vs J M cs f → Vs (cutJ n J) M cs f
  | [], _, _, _ => by simp [Vs]
  | x :: cs, f, b, k => by
    simp only [belL, Bool.and_eq_true] at b
    simp only [Vs] at k ⊢
    obtain ⟨⟨v, h0, hv⟩, r⟩ := k
    exact ⟨⟨v, h0, V_cut n x v b.1 hv⟩, Vs_cut n cs _ b.2 r⟩
end

/-- The heap: each object lies in a block of its own, none of which is held still. -/
structure HR (J : Jm) (M : Mm) (h : Hp) (w : World) : Prop where
  ob : ∀ o ob, h[o]? = some ob → ∃ e c t, J o ob.ver = some e ∧ e.esz = ob.esz ∧ w.heap[e.b]? = some (.cells c t (0, 0)) ∧ c.size = e.n ∧ Vs J M ob.cells (fun i => c[i]?)
  key : ∀ o r e, J o r = some e → ∃ ob, h[o]? = some ob ∧ r ≤ ob.ver
  inj : ∀ o1 o2 ob1 ob2 e1 e2, h[o1]? = some ob1 → h[o2]? = some ob2 → J o1 ob1.ver = some e1 → J o2 ob2.ver = some e2 → e1.b = e2.b → o1 = o2
  im : ∀ a v, M a = some v → w.cell? a = some v
  sep : ∀ a v o ob e, M a = some v → h[o]? = some ob → J o ob.ver = some e → a.block ≠ e.b
def owned (J : Jm) (h : Hp) (b : Nat) : Prop := ∃ o ob e, h[o]? = some ob ∧ J o ob.ver = some e ∧ e.b = b
/-- Outside some blocks nothing that was there has turned. -/
structure Fr (Own : Nat → Prop) (w w' : World) : Prop where
  os : w'.os = w.os
  tape : w'.tape = w.tape
  output : w'.output = w.output
  size : w.heap.size ≤ w'.heap.size
  block : ∀ b, b < w.heap.size → ¬ Own b → w'.heap[b]? = w.heap[b]?
theorem Fr.refl (Own : Nat → Prop) (w : World) : Fr Own w w := ⟨rfl, rfl, rfl, Nat.le_refl _, fun _ _ _ => rfl⟩
theorem Fr.drew {Own : Nat → Prop} (w : World) : Fr Own w w.drew := ⟨rfl, rfl, rfl, Nat.le_refl _, fun _ _ _ => rfl⟩
/-- From one state to the next: maps grow, the frame. -/
structure Stp (J : Jm) (M : Mm) (h : Hp) (w : World) (J' : Jm) (M' : Mm) (h' : Hp) (w' : World) : Prop where
  jle : JLe J J'
  mle : MLe M M'
  hr : HR J' M' h' w'
  len : h.length ≤ h'.length
  fr : Fr (owned J h) w w'
  mnew : ∀ a v, M' a = some v → M a = some v ∨ owned J h a.block ∨ w.heap.size ≤ a.block
  onew : ∀ b, owned J' h' b → owned J h b ∨ w.heap.size ≤ b
theorem Stp.refl {J : Jm} {M : Mm} {h : Hp} {w : World} (r : HR J M h w) : Stp J M h w J M h w :=
  ⟨JLe.refl J, MLe.refl M, r, Nat.le_refl _, Fr.refl _ w, fun _ _ k => .inl k, fun _ k => .inl k⟩
theorem Stp.trans {J M h w J' M' h' w' J2 M2 h2 w2} (a : Stp J M h w J' M' h' w') (b : Stp J' M' h' w' J2 M2 h2 w2) : Stp J M h w J2 M2 h2 w2 where
  jle := a.jle.trans b.jle
  mle := a.mle.trans b.mle
  hr := b.hr
  len := Nat.le_trans a.len b.len
  fr := by
    refine ⟨b.fr.os.trans a.fr.os, b.fr.tape.trans a.fr.tape, b.fr.output.trans a.fr.output, Nat.le_trans a.fr.size b.fr.size, fun c hc ho => ?_⟩
    rw [b.fr.block c (Nat.lt_of_lt_of_le hc a.fr.size) (fun k => ?_), a.fr.block c hc ho]
    rcases a.onew c k with k | k
    · exact ho k
    · omega
  mnew := by
    intro x v k
    rcases b.mnew x v k with k | k | k
    · exact a.mnew x v k
    · rcases a.onew _ k with k | k
      · exact .inr (.inl k)
      · exact .inr (.inr k)
    · exact .inr (.inr (Nat.le_trans a.fr.size k))
  onew := by
    intro c k
    rcases b.onew c k with k | k
    · exact a.onew c k
    · exact .inr (Nat.le_trans a.fr.size k)
theorem HR.drew {J M h w} (r : HR J M h w) : HR J M h w.drew := ⟨r.ob, r.key, r.inj, r.im, r.sep⟩
theorem Stp.drew {J M h w} (r : HR J M h w) : Stp J M h w J M h w.drew :=
  ⟨JLe.refl J, MLe.refl M, r.drew, Nat.le_refl _, Fr.drew w, fun _ _ k => .inl k, fun _ k => .inl k⟩

/-! ### A new object -/
theorem heap_new (w : World) (o : Obj) : (w.alloc o).heap[w.heap.size]? = some o := by
  show (w.heap.push o)[w.heap.size]? = _
  simp
theorem heap_old (w : World) (o : Obj) {i : Nat} (h : i < w.heap.size) : (w.alloc o).heap[i]? = w.heap[i]? := by
  show (w.heap.push o)[i]? = _
  rw [Array.getElem?_push, if_neg (by omega)]
theorem lt_of_cells {w : World} {b : Nat} {o : Obj} (h : w.heap[b]? = some o) : b < w.heap.size := (Array.getElem?_eq_some_iff.1 h).1
theorem owned_lt {J M h w} (r : HR J M h w) {b : Nat} (k : owned J h b) : b < w.heap.size := by
  obtain ⟨o, ob, e, ho, he, rfl⟩ := k
  obtain ⟨e', c, t, he', _, hb, _⟩ := r.ob o ob ho
  rw [he] at he'
  cases he'
  exact lt_of_cells hb
def newJ (J : Jm) (h : Hp) (e : JE) : Jm := fun o r => if o = h.length ∧ r = 0 then some e else J o r
theorem newJ_le {J M h w} (r : HR J M h w) (e : JE) : JLe J (newJ J h e) := by
  intro o v e' k
  unfold newJ
  rw [if_neg]
  · exact k
  · rintro ⟨rfl, _⟩
    obtain ⟨ob, hb, _⟩ := r.key _ _ _ k
    simp at hb
theorem HR.push {J M h w} (r : HR J M h w) (esz : Nat) (l : List AV) (c : Array Value) (t : TypeId) (hl : Vs J M l (fun i => c[i]?)) :
    Stp J M h w (newJ J h ⟨w.heap.size, c.size, esz⟩) M (h ++ [⟨0, esz, l⟩]) (w.alloc (.cells c t)) := by
  have hle := newJ_le r ⟨w.heap.size, c.size, esz⟩
  have old : ∀ o ob, (h ++ [(⟨0, esz, l⟩ : Ob)])[o]? = some ob → (o < h.length ∧ h[o]? = some ob) ∨ (o = h.length ∧ ob = ⟨0, esz, l⟩) := by
    intro o ob ho
    rcases Nat.lt_or_ge o h.length with hlt | hge
    · exact .inl ⟨hlt, by rwa [List.getElem?_append_left hlt] at ho⟩
    · rw [List.getElem?_append_right hge] at ho
      rcases Nat.eq_or_lt_of_le hge with he | hgt
      · subst he; simp at ho; exact .inr ⟨rfl, ho.symm⟩
      · rw [List.getElem?_eq_none (by simp; omega)] at ho; cases ho
  have jold : ∀ o ob, h[o]? = some ob → newJ J h ⟨w.heap.size, c.size, esz⟩ o ob.ver = J o ob.ver := by
    intro o ob ho
    unfold newJ
    rw [if_neg]
    rintro ⟨rfl, _⟩
    simp at ho
  have jnew : newJ J h ⟨w.heap.size, c.size, esz⟩ h.length 0 = some ⟨w.heap.size, c.size, esz⟩ := by simp [newJ]
  have hr : HR (newJ J h ⟨w.heap.size, c.size, esz⟩) M (h ++ [⟨0, esz, l⟩]) (w.alloc (.cells c t)) := by
    refine ⟨?_, ?_, ?_, ?_, ?_⟩
    · intro o ob ho
      rcases old o ob ho with ⟨hlt, ho⟩ | ⟨rfl, rfl⟩
      · obtain ⟨e, c', t', he, hs, hb, hn, hv⟩ := r.ob o ob ho
        exact ⟨e, c', t', by rw [jold o ob ho]; exact he, hs, by rw [heap_old _ _ (lt_of_cells hb)]; exact hb, hn, Vs_mono hle (MLe.refl M) _ _ _ (fun _ _ k => k) hv⟩
      · exact ⟨_, c, t, jnew, rfl, heap_new _ _, rfl, Vs_mono hle (MLe.refl M) _ _ _ (fun _ _ k => k) hl⟩
    · intro o v e k
      unfold newJ at k
      split at k
      · rename_i hc
        obtain ⟨rfl, rfl⟩ := hc
        exact ⟨⟨0, esz, l⟩, by simp, Nat.le_refl _⟩
      · obtain ⟨ob, hb, hv⟩ := r.key _ _ _ k
        exact ⟨ob, by rw [List.getElem?_append_left (List.getElem?_eq_some_iff.1 hb).1]; exact hb, hv⟩
    · intro o1 o2 ob1 ob2 e1 e2 h1 h2 k1 k2 hb
      rcases old _ _ h1 with ⟨_, h1⟩ | ⟨rfl, rfl⟩ <;> rcases old _ _ h2 with ⟨_, h2⟩ | ⟨rfl, rfl⟩
      · rw [jold _ _ h1] at k1
        rw [jold _ _ h2] at k2
        exact r.inj _ _ _ _ _ _ h1 h2 k1 k2 hb
      · rw [jold _ _ h1] at k1
        rw [jnew] at k2
        cases k2
        have := owned_lt r ⟨_, _, _, h1, k1, rfl⟩
        simp only at hb
        omega
      · rw [jold _ _ h2] at k2
        rw [jnew] at k1
        cases k1
        have := owned_lt r ⟨_, _, _, h2, k2, rfl⟩
        simp only at hb
        omega
      · rfl
    · intro a v k
      have := r.im a v k
      rw [World.cell?_alloc_lt _ _ _ (World.block_lt_of_cell? _ _ this)]
      exact this
    · intro a v o ob e k ho he
      rcases old _ _ ho with ⟨_, ho⟩ | ⟨rfl, rfl⟩
      · rw [jold _ _ ho] at he
        exact r.sep _ _ _ _ _ k ho he
      · rw [jnew] at he
        cases he
        have := World.block_lt_of_cell? _ _ (r.im a v k)
        simp only
        omega
  refine ⟨hle, MLe.refl M, hr, by simp, ⟨rfl, rfl, rfl, by simp, fun b hb _ => heap_old _ _ hb⟩, fun _ _ k => .inl k, ?_⟩
  rintro b ⟨o, ob, e, ho, he, rfl⟩
  rcases old _ _ ho with ⟨_, ho⟩ | ⟨rfl, rfl⟩
  · rw [jold _ _ ho] at he
    exact .inl ⟨o, ob, e, ho, he, rfl⟩
  · rw [jnew] at he
    cases he
    exact .inr (Nat.le_refl _)

/-! ### Reading -/
theorem cell_of_cells {w : World} {b : Nat} {c : Array Value} {t : TypeId} {f : Nat × Nat} (h : w.heap[b]? = some (.cells c t f)) (i : Nat) : w.cell? ⟨b, i, none⟩ = c[i]? := by
  simp [World.cell?, h]
/-- The address of a pointer's j-th cell. -/
def addrOf (v : Value) (j : Nat) : Option Addr :=
  match v with
  | .pointer (some a) => some (a.add j)
  | _ => none
theorem add_none (b off j : Nat) : (⟨b, off, none⟩ : Addr).add j = ⟨b, off + j, none⟩ := by
  unfold Addr.add; split <;> simp_all
theorem add_add (a : Addr) (i j : Nat) : (a.add i).add j = a.add (i + j) := by
  unfold Addr.add
  by_cases hi : i = 0 <;> by_cases hj : j = 0 <;> simp [hi, hj, Nat.add_assoc]
theorem cellAt_sound {J M h w} (r : HR J M h w) {p : AV} {u : Value} (hp : V J M p u) {j : Nat} {x : AV} (hx : cellAt h p j = some x) :
    ∃ a v, u = .pointer (some a) ∧ w.cell? (a.add j) = some v ∧ V J M x v := by
  cases p with
  | ptr o ver off =>
    simp only [cellAt] at hx
    cases ho : h[o]? with
    | none => rw [ho] at hx; cases hx
    | some ob =>
      rw [ho] at hx
      simp only at hx
      split at hx
      · rename_i hv
        subst hv
        simp only [V] at hp
        obtain ⟨e, he, rfl⟩ := hp
        obtain ⟨e', c, t, he', _, hb, hn, hvs⟩ := r.ob o ob ho
        rw [he] at he'
        cases he'
        obtain ⟨v, hv, hV⟩ := Vs_iff.1 hvs _ _ hx
        exact ⟨_, v, rfl, by rw [add_none, cell_of_cells hb]; exact hv, hV⟩
      · cases hx
  | rv y =>
    cases y with
    | rop cs =>
      simp only [cellAt, Option.map_eq_some_iff] at hx
      obtain ⟨y, hy, rfl⟩ := hx
      simp only [V, VR] at hp
      obtain ⟨a, rfl, hs⟩ := hp
      obtain ⟨v, hv, hV⟩ := VRs_iff.1 hs _ _ hy
      exact ⟨a, v, rfl, r.im _ _ hv, by simpa only [V] using hV⟩
    | _ => simp [cellAt] at hx
  | _ => simp [cellAt] at hx
theorem cellsN_sound {J M h w} (r : HR J M h w) {p : AV} {u : Value} (hp : V J M p u) : ∀ (n j : Nat) (l : List AV), cellsN h p j n = some l → (n = 0 ∨ ∃ a, u = .pointer (some a)) ∧ l.length = n ∧ ∀ a, u = .pointer (some a) →
    ∃ vs : List Value, vs.length = n ∧ (∀ i v, vs[i]? = some v → w.cell? (a.add (j + i)) = some v) ∧ Vs J M l (fun i => vs[i]?)
  | 0, j, l, k => by
    simp only [cellsN, Option.some.injEq] at k
    subst k
    exact ⟨.inl rfl, rfl, fun a _ => ⟨[], rfl, by simp, by simp [Vs]⟩⟩
  | n + 1, j, l, k => by
    simp only [cellsN] at k
    cases hx : cellAt h p j with
    | none => rw [hx] at k; cases k
    | some x =>
      rw [hx] at k
      simp only at k
      cases hl : cellsN h p (j + 1) n with
      | none => rw [hl] at k; cases k
      | some l' =>
        rw [hl] at k
        simp only [Option.some.injEq] at k
        subst k
        obtain ⟨a, v, hu, hc, hV⟩ := cellAt_sound r hp hx
        obtain ⟨_, hlen, hrest⟩ := cellsN_sound r hp n (j + 1) l' hl
        refine ⟨.inr ⟨a, hu⟩, by simp [hlen], fun a' ha' => ?_⟩
        rw [hu] at ha'
        cases ha'
        obtain ⟨vs, hvl, hvc, hvV⟩ := hrest a hu
        refine ⟨v :: vs, by simp [hvl], ?_, ?_⟩
        · intro i x hi
          cases i with
          | zero => simp at hi; subst hi; exact hc
          | succ i => have := hvc i x (by simpa using hi); rwa [show j + (i + 1) = j + 1 + i by omega]
        · simp only [Vs]
          exact ⟨⟨v, rfl, hV⟩, by simpa using hvV⟩
theorem vcells_sound {J M} {x : AV} {v : Value} (hV : V J M x v) {l : List AV} (hl : vcells x = some l) : v.cells.size = l.length ∧ Vs J M l (fun i => v.cells[i]?) := by
  have one : ∀ (y : AV) (u : Value), V J M y u → (∀ cs, u ≠ .agg cs) → u.cells.size = 1 ∧ Vs J M [y] (fun i => u.cells[i]?) := by
    intro y u hy hne
    have : u.cells = #[u] := by cases u <;> first | rfl | exact absurd rfl (hne _)
    rw [this]
    exact ⟨rfl, by simp only [Vs]; exact ⟨⟨u, rfl, hy⟩, trivial⟩⟩
  cases x with
  | any => simp [vcells] at hl
  | agg cs =>
    simp only [vcells, Option.some.injEq] at hl
    subst hl
    simp only [V] at hV
    obtain ⟨vs, rfl, hs, hv⟩ := hV
    exact ⟨hs, hv⟩
  | rv y =>
    cases y with
    | agg cs =>
      simp only [vcells, Option.some.injEq] at hl
      subst hl
      simp only [V, VR] at hV
      obtain ⟨vs, rfl, hs, hv⟩ := hV
      refine ⟨by simp [Value.cells, hs], Vs_iff.2 fun i z hz => ?_⟩
      rw [List.getElem?_map, Option.map_eq_some_iff] at hz
      obtain ⟨y, hy, rfl⟩ := hz
      obtain ⟨u, hu, hU⟩ := VRs_iff.1 hv _ _ hy
      exact ⟨u, hu, by simpa only [V] using hU⟩
    | _ =>
      simp only [vcells, Option.some.injEq] at hl
      subst hl
      refine one _ _ hV fun cs e => ?_
      subst e
      simp [V, VR] at hV
  | _ =>
    simp only [vcells, Option.some.injEq] at hl
    subst hl
    refine one _ _ hV fun cs e => ?_
    subst e
    simp [V] at hV
theorem V_ofVal {J M} (v : Value) : V J M (ofVal v) v := by
  unfold ofVal
  split <;> simp [V, VR]
theorem V_toVal {J M} {x : AV} {u v : Value} (hx : toVal x = some u) (hV : V J M x v) : v = u := by
  unfold toVal at hx
  split at hx <;> simp only [Option.some.injEq, reduceCtorEq] at hx <;> subst hx <;> simpa [V, VR] using hV
end Go.Proofs.Ytknphnmhjmejaaa
