/-  The abstract machine's calls and operations against the model's. No conditions. -/
import Derived.Test.YtknphnmhjmejaaaAmSe
namespace Go.Proofs.Ytknphnmhjmejaaa
set_option linter.unusedVariables false

def RelE (J : Jm) (M : Mm) (r : ARes) (e : Ending) : Prop :=
  match r with
  | .ret v => ∃ u, e = .returned u ∧ V J M v u
  | .pan v => ∃ u, e = .panicked [{ v := u, recovered := false }] ∧ V J M v u
def RelP (M : Mm) (r : Res) (e : Ending) : Prop :=
  match r with
  | .ret v => ∃ u, e = .returned u ∧ VR M v u
  | .pan v => ∃ u, e = .panicked [{ v := u, recovered := false }] ∧ VR M v u
/-- What a call of a function does, told of all states that an abstract one stands for. -/
def ACalls (P : Program) (f : FuncId) (args : List AV) (h : Hp) (r : ARes) (h' : Hp) : Prop :=
  ∀ J M w (cargs : Array Value), HR J M h w → cargs.size = args.length → Vs J M args (fun i => cargs[i]?) →
    Calls P f cargs w fun e w' => ∃ J' M', Stp J M h w J' M' h' w' ∧ RelE J' M' r e
def Held (M : Mm) (w : World) : Prop := ∀ a v, M a = some v → w.cell? a = some v
/-- What a call of a function does that writes nothing that was there, told of values held still. -/
def PCalls (P : Program) (f : FuncId) (rs : List RV) (r : Res) : Prop :=
  ∀ M w (cargs : Array Value), Held M w → cargs.size = rs.length → VRs M rs (fun i => cargs[i]?) →
    Calls P f cargs w fun e w' => ∃ M', MLe M M' ∧ Held M' w' ∧ (∀ a v, M' a = some v → M a = some v ∨ w.heap.size ≤ a.block) ∧ Fr (fun _ => False) w w' ∧ RelP M' r e
def Ent (P : Program) (f : FuncId) : Prop := ∀ args w, (callFunc f args).run P w = .ok (.enter f args) w
def bop (d : Tmp) (op : Op) (t : TypeId) (pos : String) (af : Array Edge) : Oper := { dst := some d, op := op, type := t, pos := pos, after := af, guard := none }
/-- The code of what 'slices.Backward' hands back, but for the types' numbers. -/
def backCode (s i b y : TypeId) : Code :=
  .seq (.region 0 #[
      bop 4 (.load s (.tmp 1)) s "iter.go:28" #[],
      bop 5 (.call { callee := .builtin .len, args := #[.tmp 4], argTypes := #[s] }) i "iter.go:28" #[⟨0, .data⟩],
      bop 6 (.binOp .sub i (.tmp 5) (.const (.int .i64 1)) i) i "iter.go:28" #[⟨1, .data⟩],
      bop 3 (.assign (.tmp 6)) i "iter.go:28" #[⟨2, .data⟩, ⟨0, .phase⟩, ⟨1, .phase⟩, ⟨2, .phase⟩]] false)
  (.block 0 (.loop
    (.seq (.seq (.region 1 #[
        bop 7 (.move (.tmp 3)) i "iter.go:28" #[],
        bop 8 (.binOp .geq i (.tmp 7) (.const (.int .i64 0)) i) b "iter.go:28" #[⟨0, .data⟩]] false)
      (.cond (.tmp 8) .skip (.exit 0)))
    (.seq (.block 1 (.seq (.region 3 #[
        bop 11 (.move (.tmp 0)) y "iter.go:29" #[],
        bop 12 (.move (.tmp 3)) i "iter.go:29" #[],
        bop 13 (.load s (.tmp 1)) s "iter.go:29" #[],
        bop 14 (.move (.tmp 3)) i "iter.go:29" #[],
        bop 15 (.indexAddr s (.tmp 13) (.tmp 14)) 0 "iter.go:29" #[⟨2, .data⟩, ⟨3, .data⟩],
        bop 16 (.load i (.tmp 15)) i "iter.go:29" #[⟨4, .data⟩],
        bop 17 (.call { callee := .value (.tmp 11), args := #[.tmp 12, .tmp 16], argTypes := #[i, i] }) b "iter.go:29" #[⟨0, .data⟩, ⟨1, .data⟩, ⟨5, .data⟩],
        bop 18 (.unOp .not b (.tmp 17)) b "iter.go:29" #[⟨6, .data⟩]] false)
      (.cond (.tmp 18) .ret .skip)))
      (.region 2 #[
        bop 9 (.move (.tmp 3)) i "iter.go:28" #[],
        bop 10 (.binOp .sub i (.tmp 9) (.const (.int .i64 1)) i) i "iter.go:28" #[⟨0, .data⟩],
        bop 3 (.assign (.tmp 10)) i "iter.go:28" #[⟨1, .data⟩, ⟨0, .phase⟩, ⟨1, .phase⟩]] false)))))
def BackIs (P : Program) (f : FuncId) (s i b y e : TypeId) (fn : Func) (n : Nat) : Prop :=
  P.funcs[f]? = some fn ∧ fn.body = some (backCode s i b y) ∧ fn.ntmps = 19 ∧ fn.results = #[] ∧ elemSz P s = some (1, n, e) ∧ P.underlying i = some (.int .i64) ∧ P.underlying b = some .bool
def GoodC (P : Program) (f : FuncId) (c : Callee) : Prop :=
  Ent P f ∧ match c with
    | .pure F => ∀ rs r, F rs = some r → PCalls P f rs r
    | .gen G => ∀ args h r h', G args h = some (r, h') → ACalls P f args h r h'
    | .back => ∃ s i b y e fn n, BackIs P f s i b y e fn n
def Good (P : Program) (Γ : FuncId → Option Callee) : Prop := ∀ f c, Γ f = some c → GoodC P f c

theorem HR.fresh {J M h w w'} (r : HR J M h w) (f : Fr (fun _ => False) w w') {M' : Mm} (hle : MLe M M') (him : Held M' w') (hnew : ∀ a v, M' a = some v → M a = some v ∨ w.heap.size ≤ a.block) : HR J M' h w' := by
  refine ⟨?_, r.key, r.inj, him, ?_⟩
  · intro o ob ho
    obtain ⟨e, c, t, he, hs, hb, hn, hv⟩ := r.ob o ob ho
    exact ⟨e, c, t, he, hs, by rw [f.block _ (lt_of_cells hb) (by simp)]; exact hb, hn, Vs_mono (JLe.refl J) hle _ _ _ (fun _ _ k => k) hv⟩
  · intro a v o ob e k ho he
    rcases hnew a v k with k | k
    · exact r.sep _ _ _ _ _ k ho he
    · have := owned_lt r ⟨o, ob, e, ho, he, rfl⟩
      omega
theorem Stp.fresh {J M h w w'} (r : HR J M h w) (f : Fr (fun _ => False) w w') {M' : Mm} (hle : MLe M M') (him : Held M' w') (hnew : ∀ a v, M' a = some v → M a = some v ∨ w.heap.size ≤ a.block) : Stp J M h w J M' h w' :=
  ⟨JLe.refl J, hle, r.fresh f hle him hnew, Nat.le_refl _, ⟨f.os, f.tape, f.output, f.size, fun b hb _ => f.block b hb (by simp)⟩, fun a v k => (hnew a v k).elim .inl fun x => .inr (.inr x), fun _ k => .inl k⟩
open Classical in
/-- All that an object holds, held still as it is. -/
noncomputable def heldM (J : Jm) (M : Mm) (h : Hp) (w : World) : Mm := fun a => match M a with
  | some v => some v
  | none => if owned J h a.block then w.cell? a else none
theorem heldM_le {J M h w} : MLe M (heldM J M h w) := by
  intro a v k
  simp [heldM, k]
theorem heldM_held {J M h w} (r : HR J M h w) : Held (heldM J M h w) w := by
  intro a v k
  unfold heldM at k
  split at k
  · simp only [Option.some.injEq] at k
    subst k
    exact r.im _ _ ‹_›
  · split at k
    · exact k
    · cases k
theorem heldM_own {J M h w} (r : HR J M h w) {o : Nat} {ob : Ob} {e : JE} (ho : h[o]? = some ob) (he : J o ob.ver = some e) (i : Nat) : heldM J M h w ⟨e.b, i, none⟩ = w.cell? ⟨e.b, i, none⟩ := by
  unfold heldM
  split
  · rename_i v k
    exact absurd rfl (r.sep _ _ _ _ _ k ho he)
  · rw [if_pos ⟨o, ob, e, ho, he, rfl⟩]
theorem mapM_some {α β : Type} {f : α → Option β} : ∀ {l : List α} {l' : List β}, l.mapM f = some l' → l'.length = l.length ∧ ∀ (i : Nat) (y : β), l'[i]? = some y → ∃ x : α, l[i]? = some x ∧ f x = some y
  | [], l', h => by
    simp only [List.mapM_nil] at h
    cases h
    simp
  | x :: l, l', h => by
    simp only [List.mapM_cons, Option.bind_eq_bind, Option.bind_eq_some_iff] at h
    obtain ⟨y, hy, ys, hys, h⟩ := h
    cases h
    obtain ⟨h1, h2⟩ := mapM_some hys
    refine ⟨by simp [h1], fun i z hz => ?_⟩
    cases i with
    | zero => simp at hz; subst hz; exact ⟨x, rfl, hy⟩
    | succ i => exact h2 i z (by simpa using hz)
theorem toRV_sound {J M h w} (r : HR J M h w) : ∀ (n : Nat) (x : AV) (y : RV) (v : Value), toRV h n x = some y → V J M x v → VR (heldM J M h w) y v
  | 0, x, y, v, hx, _ => by simp [toRV] at hx
  | n + 1, .rv x, y, v, hx, hV => by
    simp only [toRV, Option.some.injEq] at hx
    subst hx
    simp only [V] at hV
    exact VR_mono heldM_le _ _ hV
  | n + 1, .sl o ver off len, y, v, hx, hV => by
    simp only [toRV] at hx
    split at hx
    case h_2 => cases hx
    rename_i ob hob
    split at hx
    case isFalse => cases hx
    rename_i hc
    obtain ⟨hver, hle⟩ := hc
    rw [Option.map_eq_some_iff] at hx
    obtain ⟨cs, hcs, rfl⟩ := hx
    obtain ⟨hlen, hget⟩ := mapM_some hcs
    simp only [V] at hV
    obtain ⟨e, he, a, cap, rfl, hlc, hcap⟩ := hV
    obtain ⟨e2, c, t, he2, hes, hb, hn, hcv⟩ := r.ob _ _ hob
    have he2' := he2
    rw [hver, he] at he2
    cases he2
    simp only [VR]
    refine ⟨a, cap, rfl, hlc, VRs_iff.2 fun i z hz => ?_⟩
    obtain ⟨x, hxx, hfx⟩ := hget i z hz
    rw [List.getElem?_take] at hxx
    split at hxx
    case isFalse => cases hxx
    rename_i hlt
    rw [List.getElem?_drop] at hxx
    obtain ⟨u, hu, hU⟩ := Vs_iff.1 hcv _ _ hxx
    rcases hcap with h0 | ⟨rfl, _⟩
    · have : len = 0 := by omega
      subst this
      simp at hlt
    · refine ⟨u, ?_, toRV_sound r n x z u hfx hU⟩
      rw [add_none, heldM_own r hob he2', cell_of_cells hb]
      exact hu
  | n + 1, .ptr o ver off, y, v, hx, hV => by
    simp only [toRV] at hx
    split at hx
    case h_2 => cases hx
    rename_i ob hob
    split at hx
    case isFalse => cases hx
    rename_i hver
    rw [Option.map_eq_some_iff] at hx
    obtain ⟨cs, hcs, rfl⟩ := hx
    obtain ⟨hlen, hget⟩ := mapM_some hcs
    simp only [V] at hV
    obtain ⟨e, he, rfl⟩ := hV
    obtain ⟨e2, c, t, he2, hes, hb, hn, hcv⟩ := r.ob _ _ hob
    have he2' := he2
    rw [hver, he] at he2
    cases he2
    simp only [VR]
    refine ⟨_, rfl, VRs_iff.2 fun i z hz => ?_⟩
    obtain ⟨x, hxx, hfx⟩ := hget i z hz
    rw [List.getElem?_drop] at hxx
    obtain ⟨u, hu, hU⟩ := Vs_iff.1 hcv _ _ hxx
    refine ⟨u, ?_, toRV_sound r n x z u hfx hU⟩
    rw [add_none, heldM_own r hob he2', cell_of_cells hb]
    exact hu
  | n + 1, .iface t x, y, v, hx, hV => by
    simp only [toRV, Option.map_eq_some_iff] at hx
    obtain ⟨z, hz, rfl⟩ := hx
    simp only [V] at hV
    obtain ⟨u, rfl, hU⟩ := hV
    simp only [VR]
    exact ⟨u, rfl, toRV_sound r n x z u hz hU⟩
  | n + 1, .agg cs, y, v, hx, hV => by
    simp only [toRV, Option.map_eq_some_iff] at hx
    obtain ⟨zs, hz, rfl⟩ := hx
    obtain ⟨hlen, hget⟩ := mapM_some hz
    simp only [V] at hV
    obtain ⟨vs, rfl, hs, hvs⟩ := hV
    simp only [VR]
    refine ⟨vs, rfl, by rw [hs, hlen], VRs_iff.2 fun i z hz => ?_⟩
    obtain ⟨x, hxx, hfx⟩ := hget i z hz
    obtain ⟨u, hu, hU⟩ := Vs_iff.1 hvs _ _ hxx
    exact ⟨u, hu, toRV_sound r n x z u hfx hU⟩
  | n + 1, .tuple cs, y, v, hx, hV => by
    simp only [toRV, Option.map_eq_some_iff] at hx
    obtain ⟨zs, hz, rfl⟩ := hx
    obtain ⟨hlen, hget⟩ := mapM_some hz
    simp only [V] at hV
    obtain ⟨vs, rfl, hs, hvs⟩ := hV
    simp only [VR]
    refine ⟨vs, rfl, by rw [hs, hlen], VRs_iff.2 fun i z hz => ?_⟩
    obtain ⟨x, hxx, hfx⟩ := hget i z hz
    obtain ⟨u, hu, hU⟩ := Vs_iff.1 hvs _ _ hxx
    exact ⟨u, hu, toRV_sound r n x z u hfx hU⟩
  | n + 1, .any, y, v, hx, _ => by simp [toRV] at hx
  | n + 1, .func .., y, v, hx, _ => by simp [toRV] at hx
theorem allRV_mem : ∀ {cs : List AV} {i : Nat} {x : AV}, allRV cs = true → cs[i]? = some x → isRV x = true
  | y :: cs, i, x, h, hx => by
    simp only [allRV, Bool.and_eq_true] at h
    cases i with
    | zero => simp at hx; subst hx; exact h.1
    | succ i => exact allRV_mem h.2 (by simpa using hx)
theorem toRV_rv {J M h} : ∀ (n : Nat) (x : AV) (y : RV) (v : Value), isRV x = true → toRV h n x = some y → V J M x v → VR M y v
  | 0, x, y, v, _, hx, _ => by simp [toRV] at hx
  | n + 1, .rv x, y, v, _, hx, hV => by
    simp only [toRV, Option.some.injEq] at hx
    subst hx
    simpa only [V] using hV
  | n + 1, .iface t x, y, v, hr, hx, hV => by
    simp only [toRV, Option.map_eq_some_iff] at hx
    obtain ⟨z, hz, rfl⟩ := hx
    simp only [isRV] at hr
    simp only [V] at hV
    obtain ⟨u, rfl, hU⟩ := hV
    simp only [VR]
    exact ⟨u, rfl, toRV_rv n x z u hr hz hU⟩
  | n + 1, .agg cs, y, v, hr, hx, hV => by
    simp only [toRV, Option.map_eq_some_iff] at hx
    obtain ⟨zs, hz, rfl⟩ := hx
    simp only [isRV] at hr
    obtain ⟨hlen, hget⟩ := mapM_some hz
    simp only [V] at hV
    obtain ⟨vs, rfl, hs, hvs⟩ := hV
    simp only [VR]
    refine ⟨vs, rfl, by rw [hs, hlen], VRs_iff.2 fun i z hz => ?_⟩
    obtain ⟨x, hxx, hfx⟩ := hget i z hz
    obtain ⟨u, hu, hU⟩ := Vs_iff.1 hvs _ _ hxx
    exact ⟨u, hu, toRV_rv n x z u (allRV_mem hr hxx) hfx hU⟩
  | n + 1, .tuple cs, y, v, hr, hx, hV => by
    simp only [toRV, Option.map_eq_some_iff] at hx
    obtain ⟨zs, hz, rfl⟩ := hx
    simp only [isRV] at hr
    obtain ⟨hlen, hget⟩ := mapM_some hz
    simp only [V] at hV
    obtain ⟨vs, rfl, hs, hvs⟩ := hV
    simp only [VR]
    refine ⟨vs, rfl, by rw [hs, hlen], VRs_iff.2 fun i z hz => ?_⟩
    obtain ⟨x, hxx, hfx⟩ := hget i z hz
    obtain ⟨u, hu, hU⟩ := Vs_iff.1 hvs _ _ hxx
    exact ⟨u, hu, toRV_rv n x z u (allRV_mem hr hxx) hfx hU⟩
  | n + 1, .any, y, v, _, hx, _ => by simp [toRV] at hx
  | n + 1, .func .., y, v, hr, _, _ => by simp [isRV] at hr
  | n + 1, .ptr .., y, v, hr, _, _ => by simp [isRV] at hr
  | n + 1, .sl .., y, v, hr, _, _ => by simp [isRV] at hr
theorem VR_scal {M M' : Mm} {x : RV} {v : Value} (hx : scalR x = true) (hV : VR M x v) : VR M' x v := by
  cases x <;> simp [scalR] at hx <;> simpa only [VR] using hV
theorem VR_flat {M M' : Mm} {x : RV} {v : Value} (hx : flatR x = true) (hV : VR M x v) : VR M' x v := by
  unfold flatR at hx
  split at hx
  · rename_i cs
    simp only [VR] at hV ⊢
    obtain ⟨vs, rfl, hs, hvs⟩ := hV
    refine ⟨vs, rfl, hs, VRs_iff.2 fun i y hy => ?_⟩
    obtain ⟨u, hu, hU⟩ := VRs_iff.1 hvs _ _ hy
    exact ⟨u, hu, VR_scal (List.all_eq_true.1 hx y (List.mem_of_getElem? hy)) hU⟩
  · simp only [VR] at hV ⊢
    obtain ⟨u, rfl, hU⟩ := hV
    exact ⟨u, rfl, VR_scal hx hU⟩
  · exact VR_scal hx hV

section ops
variable {P : Program} {Γ : FuncId → Option Callee} {R : Type} {o : Oper} {ts : List AV} {h : Hp} {K Kp : AV → Hp → Option R} {r : R}
/-- A call: what it does of all that the state stands for. -/
theorem callP_sound {f : FuncId} {F : List RV → Option Res} (hg : ∀ rs r, F rs = some r → PCalls P f rs r) {args : List AV} {K1 K2 : AV → Option R} (hk : callP F h args K1 K2 = some r) :
    (∃ v, K1 v = some r ∧ ACalls P f args h (.ret v) h) ∨ (∃ v, K2 v = some r ∧ ACalls P f args h (.pan v) h) := by
  unfold callP at hk
  split at hk
  case h_2 => cases hk
  rename_i rs hrs
  have key : ∀ (rr : Res), F rs = some rr → (args.all isRV = true ∨ flatR (match rr with | .ret v => v | .pan v => v) = true) →
      ACalls P f args h (match rr with | .ret v => .ret (.rv v) | .pan v => .pan (.rv v)) h := by
    intro rr hF hcond J M w cargs hr hsz hvs
    obtain ⟨hlen, hget⟩ := mapM_some hrs
    rcases hcond with hall | hflat
    · have hvr : VRs M rs (fun i => cargs[i]?) := by
        refine VRs_iff.2 fun i y hy => ?_
        obtain ⟨x, hx, hfx⟩ := hget i y hy
        obtain ⟨v, hv, hV⟩ := Vs_iff.1 hvs _ _ hx
        have hxr := List.all_eq_true.1 hall x (List.mem_of_getElem? hx)
        exact ⟨v, hv, toRV_rv _ _ _ _ hxr hfx hV⟩
      refine (hg rs rr hF M w cargs hr.im (by rw [hsz, hlen]) hvr).mono fun e w' ⟨M', hle, him, hnew, hfr, hrel⟩ => ⟨J, M', Stp.fresh hr hfr hle him hnew, ?_⟩
      cases rr with
      | ret v => obtain ⟨u, rfl, hV⟩ := hrel; exact ⟨u, rfl, by simpa only [V] using hV⟩
      | pan v => obtain ⟨u, rfl, hV⟩ := hrel; exact ⟨u, rfl, by simpa only [V] using hV⟩
    · have hvr : VRs (heldM J M h w) rs (fun i => cargs[i]?) := by
        refine VRs_iff.2 fun i y hy => ?_
        obtain ⟨x, hx, hfx⟩ := hget i y hy
        obtain ⟨v, hv, hV⟩ := Vs_iff.1 hvs _ _ hx
        exact ⟨v, hv, toRV_sound hr _ _ _ _ hfx hV⟩
      refine (hg rs rr hF _ w cargs (heldM_held hr) (by rw [hsz, hlen]) hvr).mono fun e w' ⟨M', hle, him, hnew, hfr, hrel⟩ =>
        ⟨J, M, Stp.fresh hr hfr (MLe.refl M) (fun a v k => him a v (hle a v (heldM_le a v k))) (fun _ _ k => .inl k), ?_⟩
      cases rr with
      | ret v => obtain ⟨u, rfl, hV⟩ := hrel; exact ⟨u, rfl, by simp only [V]; exact VR_flat hflat hV⟩
      | pan v => obtain ⟨u, rfl, hV⟩ := hrel; exact ⟨u, rfl, by simp only [V]; exact VR_flat hflat hV⟩
  split at hk
  · rename_i v hF
    split at hk
    case isFalse => cases hk
    rename_i hc
    exact .inl ⟨_, hk, key _ hF hc⟩
  · rename_i v hF
    split at hk
    case isFalse => cases hk
    rename_i hc
    exact .inr ⟨_, hk, key _ hF hc⟩
  · cases hk
theorem callC_sound (good : Good P Γ) {f : FuncId} {args : List AV} (hk : callC Γ f h args K Kp = some r) :
    Ent P f ∧ ((∃ v h', K v h' = some r ∧ ACalls P f args h (.ret v) h') ∨ (∃ v h', Kp v h' = some r ∧ ACalls P f args h (.pan v) h')) := by
  unfold callC at hk
  split at hk
  · rename_i F hF
    obtain ⟨hent, hg⟩ := good _ _ hF
    refine ⟨hent, ?_⟩
    rcases callP_sound hg hk with ⟨v, h1, h2⟩ | ⟨v, h1, h2⟩
    · exact .inl ⟨v, h, h1, h2⟩
    · exact .inr ⟨v, h, h1, h2⟩
  · rename_i G hG
    obtain ⟨hent, hg⟩ := good _ _ hG
    refine ⟨hent, ?_⟩
    unfold callG at hk
    split at hk
    · exact .inl ⟨_, _, hk, hg _ _ _ _ ‹_›⟩
    · exact .inr ⟨_, _, hk, hg _ _ _ _ ‹_›⟩
    · cases hk
  · cases hk
theorem Vs_app {J M} {xs ys : List AV} {c d : Array Value} (hc : c.size = xs.length) (h1 : Vs J M xs (fun i => c[i]?)) (h2 : Vs J M ys (fun i => d[i]?)) : Vs J M (xs ++ ys) (fun i => (c ++ d)[i]?) := by
  refine Vs_iff.2 fun i x hx => ?_
  by_cases hi : i < xs.length
  · rw [List.getElem?_append_left hi] at hx
    obtain ⟨v, hv, hV⟩ := Vs_iff.1 h1 _ _ hx
    exact ⟨v, by rw [Array.getElem?_append_left (by omega)]; exact hv, hV⟩
  · rw [List.getElem?_append_right (by omega)] at hx
    obtain ⟨v, hv, hV⟩ := Vs_iff.1 h2 _ _ hx
    exact ⟨v, by rw [Array.getElem?_append_right (by omega), hc]; exact hv, hV⟩
theorem snd_callV (good : Good P Γ) {c : Call} {fo : Operand} (ho : o.op = .call c) (hc : c.callee = .value fo) (hk : callV Γ (aeval ts fo) h (c.args.toList.map (aeval ts)) K Kp = some r) :
    (∃ v h', K v h' = some r ∧ OpRes P o ts h v h') ∨ (∃ v h', Kp v h' = some r ∧ OpPan P o ts h v h') := by
  unfold callV at hk
  split at hk
  case h_2 => cases hk
  rename_i g fst cap hf
  obtain ⟨hent, hcalls⟩ := callC_sound good hk
  have run : ∀ J M w (a : Act), a.tmps.size = ts.length → Vs J M ts (fun i => a.tmps[i]?) → ∃ cargs : Array Value, (execOp a.eval o).run P w = .ok (.enter g cargs) w ∧
      cargs.size = (fst ++ c.args.toList.map (aeval ts) ++ cap).length ∧ Vs J M (fst ++ c.args.toList.map (aeval ts) ++ cap) (fun i => cargs[i]?) := by
    intro J M w a hs hvs
    have hV := eval_rel hs hvs fo
    rw [hf] at hV
    simp only [V] at hV
    obtain ⟨us, vs, hfv, ⟨hus, huv⟩, hcs, hcv⟩ := hV
    refine ⟨us ++ c.args.map a.eval ++ vs, ?_, by simp [hcs, hus], Vs_app (by simp [hus]) (Vs_app hus huv ?_) hcv⟩
    · simp only [execOp, ho, resolve, hc, hfv, Deferred.ofValue, Sem.run_bind, Sem.run_pure, Result.andThen_ok, invoke]
      exact hent (us ++ c.args.map a.eval ++ vs) w
    · have := Vs_map hs hvs c.args.toList
      refine Vs_mono (JLe.refl J) (MLe.refl M) _ _ _ (fun i v hv => ?_) this
      simpa using hv
  rcases hcalls with ⟨v, h', h1, h2⟩ | ⟨v, h', h1, h2⟩
  · refine .inl ⟨v, h', h1, ?_⟩
    intro J M w a hr hs hvs next Q hn
    obtain ⟨cargs, hrun, hsz, hcv⟩ := run J M w a hs hvs
    unfold Oper.wp
    rw [hrun, Oper.upon_enter]
    refine (h2 J M w cargs hr hsz hcv).mono fun e w' ⟨J', M', st, hrel⟩ => ?_
    obtain ⟨u, rfl, hU⟩ := hrel
    exact hn J' M' w' u st hU
  · refine .inr ⟨v, h', h1, ?_⟩
    intro J M w a hr hs hvs next Q hn
    obtain ⟨cargs, hrun, hsz, hcv⟩ := run J M w a hs hvs
    unfold Oper.wp
    rw [hrun, Oper.upon_enter]
    refine (h2 J M w cargs hr hsz hcv).mono fun e w' ⟨J', M', st, hrel⟩ => ?_
    obtain ⟨u, rfl, hU⟩ := hrel
    exact hn J' M' w' u st hU
theorem snd_panic {x : Operand} (ho : o.op = .panic x) (hx : ∃ t y, aeval ts x = .rv (.iface t y) ∨ ∃ y, aeval ts x = .iface t y) : OpPan P o ts h (aeval ts x) h := by
  intro J M w a hr hs hvs next Q hn
  have hV := eval_rel hs hvs x
  have hi : ∃ t u, a.eval x = .iface t u := by
    obtain ⟨t, y, e | ⟨y, e⟩⟩ := hx
    · rw [e] at hV; simp only [V, VR] at hV; obtain ⟨u, hu, _⟩ := hV; exact ⟨t, u, hu⟩
    · rw [e] at hV; simp only [V] at hV; obtain ⟨u, hu, _⟩ := hV; exact ⟨t, u, hu⟩
  obtain ⟨t, u, hu⟩ := hi
  unfold Oper.wp
  have : (execOp a.eval o).run P w = .halt (.panic (.iface t u)) w := by
    simp [execOp, ho, hu, Instr.panic]
  rw [this, Oper.upon_panic, ← hu]
  exact hn J M w _ (Stp.refl hr) hV

/-! ### All operations -/
theorem pnc_inv {x : AV} {K' : AV → Option R} (hk : pnc x K' = some r) : K' x = some r ∧ ∃ t y, x = .rv (.iface t y) ∨ ∃ y, x = .iface t y := by
  unfold pnc at hk
  split at hk
  · exact ⟨hk, _, _, .inl rfl⟩
  · exact ⟨hk, _, .nili, .inr ⟨_, rfl⟩⟩
  · cases hk
abbrev Snd (P : Program) (o : Oper) (ts : List AV) (h : Hp) (K Kp : AV → Hp → Option R) (r : R) : Prop :=
  (∃ v h', K v h' = some r ∧ OpRes P o ts h v h') ∨ (∃ v h', Kp v h' = some r ∧ OpPan P o ts h v h')
theorem Snd.of {v : AV} {h' : Hp} (hk : K v h' = some r) (hs : OpRes P o ts h v h') : Snd P o ts h K Kp r := .inl ⟨v, h', hk, hs⟩
theorem Snd.of1 (x : ∃ v, K v h = some r ∧ OpRes P o ts h v h) : Snd P o ts h K Kp r := .inl (let ⟨v, hk, hs⟩ := x; ⟨v, h, hk, hs⟩)
theorem snd_binK {op : BinOp} {t : TypeId} {x y : Operand} {t2 : TypeId} {K' : AV → Option R} (ho : o.op = .binOp op t x y t2) (hk : binK P op t x y (aeval ts x) (aeval ts y) K' = some r) :
    ∃ v, K' v = some r ∧ OpRes P o ts h v h := by
  unfold binK at hk
  rcases bsq_inv hk with ⟨h0, hk⟩ | ⟨h0, hk⟩
  · clear h0
    split at hk
    case h_14 => exact snd_binA ho hk
    all_goals first
      | (obtain ⟨m, hx, hk⟩ := asInt_inv hk
         obtain ⟨n, hy, hk⟩ := asInt_inv hk
         first
          | (split at hk
             · cases hk
             · rename_i hne
               refine ⟨_, hk, snd_int ho hx hy (fun w => ?_) (fun J M => V_int' _ _)⟩
               simp [Go.binOp, Op.intDiv, hne, wri])
          | (refine ⟨_, hk, snd_int ho hx hy (fun w => ?_) (fun J M => V_int' _ _)⟩
             simp [Go.binOp, Op.intArith, wri]; done)
          | (refine ⟨_, hk, snd_int ho hx hy (fun w => ?_) (fun J M => V_bool' _)⟩
             simp [Go.binOp, Op.intCmp]; done))
      | (have hd : P.underlying t = some .bool := by assumption
         obtain ⟨m, hx, hk⟩ := asBool_inv hk
         obtain ⟨n, hy, hk⟩ := asBool_inv hk
         refine ⟨_, hk, snd_bool ho hx hy (fun w => ?_) (fun J M => V_bool' _)⟩
         have hE : (Op.equal t (.bool m) (.bool n)).run P w = .ok (m == n) w := by
           unfold Op.equal
           rw [show Op.maxDepth = 9999 + 1 from rfl]
           unfold Op.equalIn
           simp [underlying_run hd]
         simp [Go.binOp, hE])
  · rcases bsq_inv hk with ⟨h1, hk⟩ | ⟨_, hk⟩
    case inr => cases hk
    have hn0 : nilConst y ≠ 0 := by
      intro e
      rw [e] at h0
      cases h0
    have he := Nat.eq_of_beq_eq_true h1
    split at hk
    · obtain ⟨c, hk, hs⟩ := snd_nilEq (neg := false) ho rfl he hn0 hk
      exact ⟨_, hk, hs⟩
    · obtain ⟨c, hk, hs⟩ := snd_nilEq (neg := true) ho rfl he hn0 hk
      exact ⟨_, hk, hs⟩
    · cases hk
theorem sameOp_eq {a b : Operand} (hs : sameOp a b = true) : a = b := by
  cases a <;> cases b <;> simp [sameOp] at hs
  rw [hs]
theorem snd_makeSlice {t e : TypeId} {x y : Operand} {sz bytes : Nat} {z : List AV} {n m : Int} (ho : o.op = .makeSlice t x y) (he : elemSz P t = some (sz, bytes, e)) (hz : zeroE P e sz = some z)
    (hx : aeval ts x = .rv (.int .i64 n)) (hy : aeval ts y = .rv (.int .i64 m)) (h0 : 0 ≤ n) (hnm : n ≤ m) (hm : m ≤ room) (hb : bytes * m ≤ room) : OpRes P o ts h (.sl h.length 0 0 n.toNat) (h ++ [⟨0, sz, zrep z n.toNat⟩]) := by
  refine OpRes.new (.inr ⟨_, rfl⟩) fun J M w a hr hs hvs => ?_
  have h1 := eval_rel hs hvs x
  have h2 := eval_rel hs hvs y
  rw [hx] at h1
  rw [hy] at h2
  obtain ⟨c, hc, hsz, hrun⟩ := run_make (P := P) (J := J) (M := M) he hz h0 hnm hm hb w
  exact ⟨c, e, hc, .inr ⟨n.toNat, m.toNat, rfl, by omega, hsz, by simp [execOp, ho, V_int h1, V_int h2, hrun]⟩⟩
theorem aop_sound (good : Good P Γ) (hk : aop P Γ o ⟨ts, h⟩ K Kp = some r) : Snd P o ts h K Kp r := by
  unfold aop at hk
  simp only at hk
  split at hk
  · exact .of hk (snd_move ‹_›)
  · exact .of hk (snd_assign ‹_›)
  · rename_i c a b ho
    obtain ⟨t, hc, hk⟩ := asBool_inv hk
    rcases bsp_inv hk with ⟨rfl, hk⟩ | ⟨rfl, hk⟩
    · exact .of hk (by simpa using snd_pick (P := P) (h := h) ho hc)
    · exact .of hk (by simpa using snd_pick (P := P) (h := h) ho hc)
  · rename_i t ho
    unfold nwc at hk
    split at hk
    · exact .of hk (snd_alloc ho ‹_›)
    · cases hk
  · rename_i t x ho
    unfold nwc at hk
    split at hk
    · exact .of hk (snd_box ho ‹_›)
    · cases hk
  · rename_i t parts ho
    split at hk
    case h_2 => cases hk
    rename_i fs z hd hz
    rcases bsq_inv hk with ⟨hall, hk⟩ | ⟨_, hk⟩
    · exact .of1 (snd_build ho hd hz hall hk)
    · cases hk
  · rename_i t len parts ho
    split at hk
    case h_2 => cases hk
    rename_i sz bytes e he
    split at hk
    case h_2 => cases hk
    rename_i z hz
    rcases bsq_inv hk with ⟨hl, hk⟩ | ⟨_, hk⟩
    · obtain ⟨v, h', h1, h2⟩ := snd_buildSlice ho he hz (Nat.le_of_ble_eq_true hl) hk
      exact .of h1 h2
    · cases hk
  · rename_i t a ho
    split at hk
    · cases hk
    · rename_i fs hd
      rcases bsq_inv hk with ⟨_, hk⟩ | ⟨h0, hk⟩
      · cases hk
      · unfold ldg at hk
        split at hk
        · exact .of hk (snd_loadg ho hd rfl (fun e => by rw [e] at h0; cases h0) ‹_›)
        · cases hk
    · rename_i n el hd
      rcases bsq_inv hk with ⟨_, hk⟩ | ⟨h0, hk⟩
      · cases hk
      · unfold ldg at hk
        split at hk
        · exact .of hk (snd_loadg ho hd rfl (fun e => by rw [e] at h0; cases h0) ‹_›)
        · cases hk
    · rename_i k hd
      unfold ldi at hk
      obtain ⟨x, hx, hk1⟩ := ldv_inv hk
      obtain ⟨n, hxn, hk2⟩ := asInt_inv hk1
      rw [hxn] at hx
      exact .of hk2 (snd_load1 ho hd rfl hx)
    · rename_i hd
      unfold ldb at hk
      obtain ⟨x, hx, hk1⟩ := ldv_inv hk
      obtain ⟨n, hxn, hk2⟩ := asBool_inv hk1
      rw [hxn] at hx
      exact .of hk2 (snd_load1 ho hd rfl hx)
    · rename_i d hn1 hn2 hn3 hn4 hd
      obtain ⟨x, hx, hk⟩ := ldv_inv hk
      exact .of hk (snd_load1 ho hd (by cases d <;> simp_all [isAggD]) hx)
  · rename_i t a x ho
    rcases bsq_inv hk with ⟨hi, hk⟩ | ⟨_, hk⟩
    · obtain ⟨h', h1, h2⟩ := snd_store ho hi hk
      exact .of h1 h2
    · cases hk
  · exact .of1 (snd_nilCheck ‹_› hk)
  · exact .of1 (snd_binK ‹_› hk)
  · exact .of1 (snd_unK ‹_› hk)
  · exact .of1 (snd_cvK ‹_› hk)
  · rename_i t x ho
    split at hk
    · cases hk
    · rename_i d hn hd
      exact .of hk (snd_makeInterface ho hd (fun ms e => hn ms (by rw [e])))
    · cases hk
  · rename_i f first cap ho
    exact .of hk (snd_makeFunc ho)
  · rename_i t a b ho
    split at hk
    case h_2 => cases hk
    rename_i sz bytes e he
    split at hk
    case h_2 => cases hk
    rename_i z hz
    rcases bsq_inv hk with ⟨hs, hk⟩ | ⟨_, hk⟩
    · obtain ⟨n, hx, hk1⟩ := asInt_inv hk
      have hy : aeval ts b = .rv (.int .i64 n) := by rw [← sameOp_eq hs]; exact hx
      unfold mks at hk1
      split at hk1
      · rename_i hc
        exact .of hk1 (snd_makeSlice ho he hz hx hy hc.1 (Int.le_refl _) hc.2.1 hc.2.2)
      · cases hk1
    · obtain ⟨n, hx, hk⟩ := asInt_inv hk
      obtain ⟨m, hy, hk⟩ := asInt_inv hk
      unfold mkc at hk
      split at hk
      · rename_i hc
        exact .of hk (snd_makeSlice ho he hz hx hy hc.1 hc.2.1 hc.2.2.1 hc.2.2.2)
      · cases hk
  · rename_i t x lo hi ho
    split at hk
    case h_2 => cases hk
    rename_i sz bytes e he
    split at hk
    · exact .of1 (snd_slice (li := none) (ui := none) ho he (fun J M a hs hv => rfl) (fun J M a hs hv => rfl) hk)
    · rename_i l
      obtain ⟨n, hx, hk⟩ := asInt_inv hk
      refine .of1 (snd_slice (li := some n) (ui := none) ho he (fun J M a hs hv => ?_) (fun J M a hs hv => rfl) hk)
      have := eval_rel hs hv l
      rw [hx] at this
      simp [V_int this]
    · rename_i u
      obtain ⟨n, hx, hk⟩ := asInt_inv hk
      refine .of1 (snd_slice (li := none) (ui := some n) ho he (fun J M a hs hv => rfl) (fun J M a hs hv => ?_) hk)
      have := eval_rel hs hv u
      rw [hx] at this
      simp [V_int this]
    · rename_i l u
      obtain ⟨n, hx, hk⟩ := asInt_inv hk
      obtain ⟨m, hy, hk⟩ := asInt_inv hk
      refine .of1 (snd_slice (li := some n) (ui := some m) ho he (fun J M a hs hv => ?_) (fun J M a hs hv => ?_) hk)
      · have := eval_rel hs hv l
        rw [hx] at this
        simp [V_int this]
      · have := eval_rel hs hv u
        rw [hy] at this
        simp [V_int this]
  · rename_i t x i ho
    split at hk
    case h_2 => cases hk
    rename_i off ft hf
    rcases bsq_inv hk with ⟨_, hk⟩ | ⟨h0, hk⟩
    · cases hk
    · exact .of1 (snd_fieldAddr ho hf (fun e => by rw [e] at h0; cases h0) hk)
  · rename_i t x i ho
    split at hk
    case h_2 => cases hk
    rename_i off ft hf
    rcases bsq_inv hk with ⟨hd, hk⟩ | ⟨_, hk⟩
    · obtain ⟨v, hk, hs⟩ := snd_field (h := h) ho hf hd hk
      exact .of (castD_inv hk) hs
    · cases hk
  · rename_i t x i ho
    split at hk
    case h_2 => cases hk
    rename_i sz bytes e he
    obtain ⟨n, hx, hk⟩ := asInt_inv hk
    exact .of1 (snd_indexAddr ho he hx hk)
  · rename_i x s t ho
    split at hk
    · cases hk
    · rename_i d hn hd
      exact .of1 (snd_typeAssert ho hd (fun ms e => hn ms (by rw [e])) hk)
    · cases hk
  · rename_i x i ho
    obtain ⟨v, hk, hs⟩ := snd_extract (P := P) (h := h) ho hk
    exact .of (castD_inv hk) hs
  · rename_i c ho
    unfold callO at hk
    split at hk
    · rename_i f hc
      rcases snd_callV good ho hc hk with ⟨v, h', h1, h2⟩ | ⟨v, h', h1, h2⟩
      · exact .inl ⟨v, h', castD_inv h1, h2⟩
      · exact .inr ⟨v, h', h1, h2⟩
    · cases hk
    · rename_i hc
      split at hk
      case h_2 => cases hk
      rename_i x t ha hct
      split at hk
      · rename_i e hd
        obtain ⟨n, hk, hs⟩ := snd_len (h := h) ho hc ha hct hd hk
        exact .of hk hs
      · rename_i hd
        obtain ⟨n, hk, hs⟩ := snd_lens (h := h) ho hc ha hct hd hk
        exact .of hk hs
      · cases hk
    · rename_i hc
      split at hk
      case h_2 => cases hk
      rename_i x y t u ha hct
      split at hk
      case h_2 => cases hk
      rename_i sz bytes e eu he hu
      rcases bsq_inv hk with ⟨hz, hk⟩ | ⟨_, hk⟩
      · obtain ⟨v, h', h1, h2⟩ := snd_append ho hc ha hct he ⟨_, hu⟩ hz hk
        exact .of h1 h2
      · cases hk
    · cases hk
  · rename_i x ho
    obtain ⟨hk, hx⟩ := pnc_inv hk
    exact .inr ⟨_, _, hk, snd_panic ho hx⟩
  · cases hk
end ops
end Go.Proofs.Ytknphnmhjmejaaa
