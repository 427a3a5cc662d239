/- The abstract machine, part 8: what is carried through a loop, or over a cut. No statement of its own. -/
import Derived.Test.YtfhcockdlfidmaaAm20
namespace Go.Am
open Go.Vk Go.RowKit
set_option linter.unusedVariables false
set_option linter.unusedSimpArgs false
variable [Dr]

/-! ### whole values -/
def whole {α : Type} (r : Option (α × List AV)) : Option α :=
  match r with
  | some (y, []) => some y
  | _ => none
def decV (ag : Bool) (T : Ty) (x : AV) : Option T.Den :=
  match ag with
  | true => match x with
    | .agg cs => whole (dec T cs)
    | .val (.agg vs) => whole (dec T (vs.toList.map .val))
    | _ => none
  | false => whole (dec T [x])
def encV (ag : Bool) (T : Ty) (y : T.Den) : AV :=
  match ag with
  | true => .agg (enc T y)
  | false => (enc T y).headD .unk
def RepV (ag : Bool) (T : Ty) (σ : Gh) (w : World) (y : T.Den) (u : Value) : Prop :=
  ∃ cs, repTy T σ w y cs ∧ match ag with
    | true => u = .agg cs.toArray
    | false => cs = [u]

section
variable {P : Program} {E : Env} {σ σ1 : Gh} {τ τ' : Nat → Nat} {w w1 : World} {β β' : List Value} {tm : List AV} {H : List AB} {a : Act}
omit [Dr] in
theorem whole_some {α : Type} {r : Option (α × List AV)} {y : α} (h : whole r = some y) : r = some (y, []) := by
  unfold whole at h
  split at h
  · rw [Option.some.inj h]
  · cases h
theorem dec_whole {T : Ty} {l : List AV} {y : T.Den} {us : List Value} (h : whole (dec T l) = some y) (hr : RelL E σ w β l us) : repTy T σ w y us := by
  obtain ⟨c, d, rfl, h1, h2⟩ := dec_rel T (whole_some h) hr
  simp only [RelL] at h2
  subst h2
  simpa using h1
theorem decV_rel {ag : Bool} {T : Ty} {x : AV} {y : T.Den} {u : Value} (hr : Rel E σ w β x u) (h : decV ag T x = some y) : RepV ag T σ w y u := by
  unfold decV at h
  split at h
  · split at h
    · simp only [Rel] at hr
      obtain ⟨vs, h1, h2⟩ := hr
      exact ⟨vs, dec_whole h h2, h1⟩
    · rename_i vs
      simp only [Rel] at hr
      exact ⟨vs.toList, dec_whole h (relL_vals (E := E) (β := β) _), by simpa using hr⟩
    · cases h
  · exact ⟨[u], dec_whole h (by simp only [RelL]; exact ⟨u, [], rfl, hr, rfl⟩), rfl⟩
theorem encV_rel {ag : Bool} {T : Ty} {y : T.Den} {u : Value} (h : RepV ag T σ w y u) : Rel E σ w β (encV ag T y) u := by
  obtain ⟨cs, h1, h2⟩ := h
  have h3 := enc_rel (E := E) (β := β) T h1
  cases ag with
  | true =>
    simp only at h2
    simp only [encV, Rel]
    exact ⟨cs, h2, h3⟩
  | false =>
    simp only at h2
    subst h2
    simp only [encV]
    cases he : enc T y with
    | nil => rw [he] at h3; simp [RelL] at h3
    | cons z l =>
      rw [he] at h3
      simp only [RelL] at h3
      obtain ⟨v, r, e1, e2, _⟩ := h3
      injection e1 with e1 _
      subst e1
      exact e2

/-! ### lists of relations -/
theorem RelL.of_get : ∀ {xs : List AV} {us : List Value}, us.length = xs.length → (∀ (i : Nat) x u, xs[i]? = some x → us[i]? = some u → Rel E σ w β x u) → RelL E σ w β xs us
  | [], us, hl, _ => by simp only [RelL]; exact List.eq_nil_of_length_eq_zero (by simpa using hl)
  | x :: xs, [], hl, _ => by simp at hl
  | x :: xs, u :: us, hl, h => by
    simp only [RelL]
    exact ⟨u, us, rfl, h 0 x u rfl rfl, RelL.of_get (by simpa using hl) (fun i y v hy hv => h (i + 1) y v (by simpa using hy) (by simpa using hv))⟩
omit [Dr] in
theorem underL_get {n : Nat} : ∀ {xs : List AV}, AV.underL n xs → ∀ {i : Nat} {x : AV}, xs[i]? = some x → x.under n
  | [], _, i, x, h => by simp at h
  | y :: ys, hu, 0, x, h => by
    simp only [List.getElem?_cons_zero, Option.some.injEq] at h
    subst h
    simp only [AV.underL] at hu; exact hu.1
  | y :: ys, hu, i + 1, x, h => by
    simp only [AV.underL] at hu
    exact underL_get hu.2 (by simpa using h)
def AB.under (n : Nat) : AB → Prop
  | .cells _ cs => AV.underL n cs
  | .lock x => x.under n
  | _ => True
theorem BRel.under {t : Nat} {v : Value} {x : AB} (h : BRel E σ w β t v x) : x.under β.length := by
  induction x with
  | cells T cs => obtain ⟨n, vs, _, _, h3⟩ := h; exact RelL.under h3
  | lock x ih => exact ih h
  | _ => trivial
theorem BRel.less {t : Nat} {v : Value} {x : AB} {s : List Value} (h : BRel E σ w (β ++ s) t v x) (hu : x.under β.length) : BRel E σ w β t v x := by
  induction x with
  | cells T cs => obtain ⟨n, vs, h1, h2, h3⟩ := h; exact ⟨n, vs, h1, h2, RelL.less h3 hu⟩
  | lock x ih => exact ih h hu
  | row T e xs => exact h
  | map m xs => exact h
  | gone => trivial

/-- A state that says less. -/
theorem conc_less {β0 s : List Value} {tm1 : List AV} {H1 : List AB} (hC : Conc E σ τ (β0 ++ s) ⟨tm, H⟩ a w) (hl : tm1.length = tm.length) (hH : H1.length = β0.length)
    (ht : ∀ (t : Nat) x, tm1[t]? = some x → x = .unk ∨ (tm[t]? = some x ∧ x.under β0.length))
    (hh : ∀ (i : Nat) x, H1[i]? = some x → x.live = false ∨ (x.under β0.length ∧ ∃ y, H[i]? = some y ∧ (y = x ∨ y = .lock x ∨ x = .lock y))) : Conc E σ τ β0 ⟨tm1, H1⟩ a w := by
  have hlv : ∀ (x y : AB), (y = x ∨ y = .lock x ∨ x = .lock y) → y.live = x.live := by
    rintro x y (rfl | rfl | rfl) <;> rfl
  refine ⟨hC.defers, RelL.of_get (by have := hC.tmps.length; simp only at this ⊢; omega) (fun i x u hx hu => ?_), hH.symm, fun i x v hx hv => ?_, fun i x hx hlx => ?_, fun i j x y hx hy hlx hly he => ?_⟩
  · rcases ht i x hx with rfl | ⟨h1, h2⟩
    · simp [Rel]
    · obtain ⟨u', h3, h4⟩ := RelL.get hC.tmps h1
      rw [hu] at h3
      obtain rfl := Option.some.inj h3
      exact Rel.less h4 h2
  · simp only at hx
    rcases hh i x hx with h1 | ⟨h1, y, h2, h3⟩
    · clear hv hx
      induction x with
      | gone => trivial
      | lock x ih => exact ih h1
      | cells T cs => simp [AB.live] at h1
      | row T e xs => simp [AB.live] at h1
      | map m xs => simp [AB.live] at h1
    · have hb := hC.heap i y v h2 (by rw [List.getElem?_append_left (by rw [← hH]; exact (List.getElem?_eq_some_iff.1 hx).1)]; exact hv)
      have hb : BRel E σ w (β0 ++ s) (τ i) v x := by
        rcases h3 with rfl | rfl | rfl <;> exact hb
      exact hb.less h1
  · simp only at hx
    rcases hh i x hx with h1 | ⟨_, y, h2, h3⟩
    · rw [hlx] at h1; cases h1
    · exact hC.apart i y h2 (by rw [hlv x y h3]; exact hlx)
  · simp only at hx hy
    rcases hh i x hx with h1 | ⟨_, x', h2, h3⟩
    · rw [hlx] at h1; cases h1
    · rcases hh j y hy with k1 | ⟨_, y', k2, k3⟩
      · rw [hly] at k1; cases k1
      · exact hC.inj i j x' y' h2 k2 (by rw [hlv x x' h3]; exact hlx) (by rw [hlv y y' k3]; exact hly) he

/-! ### what is carried -/
inductive Car where
  | sl (t : Tmp) (ag : Bool) (T : Ty)
  | row (t : Tmp) (T : Ty) (e : TypeId)
  | blk (b : Nat) (C : TypeId) (T : Ty)
  /-- a row that stays where it is -/
  | rw (r : Nat) (T : Ty) (e : TypeId)
  /-- a map that stays where it is -/
  | mp (r : Nat) (m : MTy)
  /-- a block of n cells, of which nothing is said yet -/
  | opn (b : Nat) (C : TypeId) (n : Nat)
  /-- cells of such a block -/
  | cl (b off : Nat) (T : Ty)
  /-- a row in a cell of such a block -/
  | crow (b off : Nat) (T : Ty) (e : TypeId)
@[reducible] def Car.Den : Car → Type
  | .sl _ _ T => T.Den
  | .row _ T _ => List T.Den
  | .blk _ _ T => T.Den
  | .rw _ T _ => List T.Den
  | .mp _ m => Mp m.K m.V
  | .opn _ _ _ => Unit
  | .cl _ _ T => T.Den
  | .crow _ _ T _ => List T.Den
@[reducible] def CarsDen : List Car → Type
  | [] => Unit
  | [c] => c.Den
  | c :: d :: l => c.Den × CarsDen (d :: l)
def boolEq (a b : Bool) : Option (PLift (a = b)) := if h : a = b then some ⟨h⟩ else none
def mtyEq (a b : MTy) : Option (PLift (a = b)) :=
  match natEq a.kt b.kt, natEq a.vt b.vt, boolEq a.ka b.ka, tyEq a.K b.K, boolEq a.va b.va, tyEq a.V b.V with
  | some ⟨h1⟩, some ⟨h2⟩, some ⟨h3⟩, some ⟨h4⟩, some ⟨h5⟩, some ⟨h6⟩ => some ⟨by cases a; cases b; simp_all⟩
  | _, _, _, _, _, _ => none
def castM {a b : MTy} (h : a = b) (xs : Mp a.K a.V) : Mp b.K b.V := h ▸ xs
/-- One thing, and what is left of the blocks. -/
def pack1 : (c : Car) → List AV → List AB → Option (c.Den × List AB)
  | .sl t ag T, tm, H => match tm[t]? with
    | some x => match decV ag T x with
      | some y => some (y, H)
      | none => none
    | none => none
  | .row t T e, tm, H => match tm[t]? with
    | some (.val (.slice none 0 0)) => some ([], H)
    | some (.row r) => match H[r]? with
      | some (.row T' e' xs) => match tyEq T' T, natEq e' e with
        | some ⟨h⟩, some _ => some (castL h xs, H.set r .gone)
        | _, _ => none
      | _ => none
    | _ => none
  | .blk b C T, tm, H => match H[b]? with
    | some (.cells C' cs) => match natEq C' C, whole (dec T cs) with
      | some _, some y => some (y, H.set b .gone)
      | _, _ => none
    | _ => none
  | .rw r T e, tm, H => match H[r]? with
    | some (.row T' e' xs) => match tyEq T' T, natEq e' e with
      | some ⟨h⟩, some _ => some (castL h xs, H.set r .gone)
      | _, _ => none
    | _ => none
  | .mp r m, tm, H => match H[r]? with
    | some (.map m' xs) => match mtyEq m' m with
      | some ⟨h⟩ => some (castM h xs, H.set r .gone)
      | none => none
    | _ => none
  | .opn b C n, tm, H => match H[b]? with
    | some (.cells C' cs) => match natEq C' C, Nat.beq cs.length n with
      | some _, true => some ((), H.set b (.lock (.cells C' cs)))
      | _, _ => none
    | _ => none
  | .cl b off T, tm, H => match look H b with
    | some (.cells _ cs) => match whole (dec T ((cs.drop off).take T.sz)) with
      | some y => some (y, H)
      | none => none
    | _ => none
  | .crow b off T e, tm, H => match look H b with
    | some (.cells _ cs) => match cs[off]? with
      | some (.val (.slice none 0 0)) => some ([], H)
      | some (.row r) => match H[r]? with
        | some (.row T' e' xs) => match tyEq T' T, natEq e' e with
          | some ⟨h⟩, some _ => some (castL h xs, H.set r .gone)
          | _, _ => none
        | _ => none
      | _ => none
    | _ => none
def putB (b off : Nat) (ds : List AV) (H : List AB) : List AB :=
  match H[b]? with
  | some (.cells C cs) => H.set b (.cells C (putA cs off ds))
  | _ => H
def packC : (cs : List Car) → List AV → List AB → Option (CarsDen cs)
  | [], _, _ => some ()
  | [c], tm, H => match pack1 c tm H with
    | some (x, _) => some x
    | none => none
  | c :: d :: l, tm, H => match pack1 c tm H with
    | some (x, H') => match packC (d :: l) tm H' with
      | some y => some (x, y)
      | none => none
    | none => none
def unpack1 : (c : Car) → c.Den → List AV × List AB → List AV × List AB
  | .sl t ag T, y, s => (s.1.set t (encV ag T y), s.2)
  | .row t T e, xs, s => (s.1.set t (.row s.2.length), s.2 ++ [.row T e xs])
  | .blk b C T, y, s => (s.1, s.2.set b (.cells C (enc T y)))
  | .rw r T e, xs, s => (s.1, s.2.set r (.row T e xs))
  | .mp r m, xs, s => (s.1, s.2.set r (.map m xs))
  | .opn b C n, _, s => (s.1, s.2.set b (.cells C (List.replicate n .unk)))
  | .cl b off T, y, s => (s.1, putB b off (enc T y) s.2)
  | .crow b off T e, xs, s => (s.1, putB b off [.row s.2.length] (s.2 ++ [.row T e xs]))
def unpackC : (cs : List Car) → CarsDen cs → List AV × List AB → List AV × List AB
  | [], _, s => s
  | [c], x, s => unpack1 c x s
  | c :: d :: l, x, s => unpackC (d :: l) x.2 (unpack1 c x.1 s)

/-- The source and what is made of it: what can be moved still is none of what is made. -/
def Disj (τ τ' : Nat → Nat) (H1 Hs : List AB) : Prop :=
  ∀ (i : Nat) x (j : Nat) y, H1[i]? = some x → x.live = true → Hs[j]? = some y → y.live = true → (∀ b, y ≠ .lock b) → τ i ≠ τ' j
/-- The source, what is made of it, and how they hang together. -/
structure Mid (E E' : Env) (σ : Gh) (w : World) (a : Act) (τ : Nat → Nat) (β : List Value) (tm1 : List AV) (H1 : List AB) (τ' : Nat → Nat) (β' : List Value) (tm : List AV) (Hs : List AB) (n : Nat) : Prop where
  base : Conc E σ τ β ⟨tm1, H1⟩ a w
  sub : ∀ t, E.Kp t → E'.Kp t
  src : Conc E' σ τ' β' ⟨tm, Hs⟩ a w
  disj : Disj τ τ' H1 Hs
  same : ∀ i, i < n → τ i = τ' i ∧ β[i]? = β'[i]?
  blks : ∀ (i : Nat) x, i < n → H1[i]? = some x → x.live = true → ∀ y, Hs[i]? = some y → y.live = true → ∃ b, y = .lock b
  long : n ≤ H1.length

omit [Dr] in
theorem set_same {α : Type} {l : List α} {i : Nat} {x : α} (h : l[i]? = some x) : l.set i x = l := by
  obtain ⟨hi, rfl⟩ := List.getElem?_eq_some_iff.1 h
  exact List.set_getElem_self hi
theorem Conc.setT {t : Nat} {av : AV} {u : Value} (hC : Conc E σ τ β ⟨tm, H⟩ a w) (hu : a.tmps.toList[t]? = some u) (h : Rel E σ w β av u) : Conc E σ τ β ⟨tm.set t av, H⟩ a w :=
  ⟨hC.defers, by have := RelL.set hC.tmps t h; rw [set_same hu] at this; exact this, hC.size, hC.heap, hC.apart, hC.inj⟩
/-- The source with a block that is gone. -/
theorem conc_gone {i : Nat} (hC : Conc E σ τ β ⟨tm, H⟩ a w) : Conc E σ τ β ⟨tm, H.set i .gone⟩ a w := by
  have hg : ∀ (j : Nat) (z : AB), (H.set i .gone)[j]? = some z → z.live = true → H[j]? = some z := fun j z hz hl => by
    rw [List.getElem?_set] at hz
    by_cases hij : i = j
    · rw [if_pos hij] at hz
      split at hz
      · obtain rfl := Option.some.inj hz; cases hl
      · cases hz
    · rwa [if_neg hij] at hz
  refine ⟨hC.defers, hC.tmps, by rw [hC.size]; simp, fun j z u hz hu => ?_, fun j z hz hl => hC.apart j z (hg j z hz hl) hl, fun j k z y hz hy h1 h2 he => hC.inj j k z y (hg j z hz h1) (hg k y hy h2) h1 h2 he⟩
  simp only at hz
  rw [List.getElem?_set] at hz
  by_cases hij : i = j
  · rw [if_pos hij] at hz
    split at hz
    · obtain rfl := Option.some.inj hz; trivial
    · cases hz
  · rw [if_neg hij] at hz; exact hC.heap j z u hz hu
omit [Dr] in
theorem gone_get {i j : Nat} {y : AB} (hy : (H.set i .gone)[j]? = some y) (hl : y.live = true) : H[j]? = some y ∧ j ≠ i := by
  rw [List.getElem?_set] at hy
  by_cases hij : i = j
  · rw [if_pos hij] at hy
    split at hy
    · obtain rfl := Option.some.inj hy; cases hl
    · cases hy
  · rw [if_neg hij] at hy; exact ⟨hy, fun h => hij h.symm⟩
def Car.ok (n : Nat) : Car → Bool
  | .blk b _ _ => Nat.blt b n
  | .rw b _ _ => Nat.blt b n
  | .mp b _ => Nat.blt b n
  | .opn b _ _ => Nat.blt b n
  | .cl b _ _ => Nat.blt b n
  | .crow b _ _ _ => Nat.blt b n
  | _ => true

/-- A block that is made anew where it was. -/
theorem mid_make {E' : Env} {n b : Nat} {tm1 : List AV} {H1 Hs Hs' : List AB} {xS z : AB} (hM : Mid E E' σ w a τ β tm1 H1 τ' β' tm Hs n) (hbn : b < n) (hb : Hs[b]? = some xS) (hlS : xS.live = true) (hnS : ∀ l, xS ≠ .lock l)
    (hrel : ∀ v, β'[b]? = some v → BRel E' σ w β' (τ' b) v xS → BRel E σ w β (τ' b) v z) (hs' : Conc E' σ τ' β' ⟨tm, Hs'⟩ a w)
    (hsub : ∀ (j : Nat) y, Hs'[j]? = some y → y.live = true → (Hs[j]? = some y ∧ j ≠ b) ∨ (j = b ∧ ∃ l, y = .lock l)) :
    Mid E E' σ w a τ β tm1 (H1.set b z) τ' β' tm Hs' n := by
  obtain ⟨s1, s2⟩ := hM.same b hbn
  obtain ⟨v, hv⟩ : ∃ v, β'[b]? = some v := ⟨_, List.getElem?_eq_getElem (by rw [hM.src.size]; exact (List.getElem?_eq_some_iff.1 hb).1)⟩
  have hBR := hrel v hv (hM.src.heap b _ v hb hv)
  have hset : ∀ (i : Nat) (x : AB), (H1.set b z)[i]? = some x → (H1[i]? = some x ∧ i ≠ b) ∨ (i = b ∧ x = z) := by
    intro i x hx
    rw [List.getElem?_set] at hx
    by_cases hij : b = i
    · rw [if_pos hij] at hx
      split at hx
      · exact .inr ⟨hij.symm, (Option.some.inj hx).symm⟩
      · cases hx
    · rw [if_neg hij] at hx
      exact .inl ⟨hx, fun h => hij h.symm⟩
  refine ⟨⟨hM.base.defers, hM.base.tmps, by rw [hM.base.size]; simp, fun i x u hx hu => ?_, fun i x hx hl => ?_, fun i j x u hx hu hl hk he => ?_⟩, hM.sub, hs', fun i x j u hx hl hu hk hnl' => ?_, hM.same, fun i x hi hx hl u hu hk => ?_, by simpa using hM.long⟩
  · rcases hset i x hx with ⟨h1, h2⟩ | ⟨rfl, rfl⟩
    · exact hM.base.heap i x u h1 hu
    · rw [s2, hv] at hu
      obtain rfl := Option.some.inj hu
      rw [s1]; exact hBR
  · rcases hset i x hx with ⟨h1, h2⟩ | ⟨rfl, rfl⟩
    · exact hM.base.apart i x h1 hl
    · rw [s1]; exact fun hp => hM.src.apart _ _ hb hlS (hM.sub _ hp)
  · rcases hset i x hx with ⟨h1, h2⟩ | ⟨rfl, rfl⟩
    · rcases hset j u hu with ⟨k1, k2⟩ | ⟨rfl, rfl⟩
      · exact hM.base.inj i j x u h1 k1 hl hk he
      · rw [s1] at he
        exact absurd he (hM.disj i x _ _ h1 hl hb hlS hnS)
    · rcases hset j u hu with ⟨k1, k2⟩ | ⟨rfl, rfl⟩
      · rw [s1] at he
        exact absurd he.symm (hM.disj j u _ _ k1 hk hb hlS hnS)
      · rfl
  · rcases hsub j u hu hk with ⟨g1, g2⟩ | ⟨rfl, l, rfl⟩
    · rcases hset i x hx with ⟨h1, h2⟩ | ⟨rfl, rfl⟩
      · exact hM.disj i x j u h1 hl g1 hk hnl'
      · rw [s1]; exact fun he => g2 (hM.src.inj _ _ _ _ hb g1 hlS hk he).symm
    · exact absurd rfl (hnl' l)
  · rcases hsub i u hu hk with ⟨g1, g2⟩ | ⟨rfl, l, rfl⟩
    · rcases hset i x hx with ⟨h1, h2⟩ | ⟨rfl, rfl⟩
      · exact hM.blks i x hi h1 hl u g1 hk
      · exact absurd rfl g2
    · exact ⟨l, rfl⟩
/-- Cells of a block that is made, said better. -/
theorem mid_cell {E' : Env} {n b off : Nat} {tm1 : List AV} {H1 Hs : List AB} {ds : List AV} (hM : Mid E E' σ w a τ β tm1 H1 τ' β' tm Hs n)
    (hrel : ∀ v, β[b]? = some v → ∀ (C : TypeId) (cs : List AV), H1[b]? = some (.cells C cs) → BRel E σ w β (τ b) v (.cells C cs) → BRel E σ w β (τ b) v (.cells C (putA cs off ds))) : Mid E E' σ w a τ β tm1 (putB b off ds H1) τ' β' tm Hs n := by
  unfold putB
  split
  case h_2 => exact hM
  rename_i C cs hb
  have hset : ∀ (i : Nat) (x : AB), (H1.set b (.cells C (putA cs off ds)))[i]? = some x → (H1[i]? = some x ∧ i ≠ b) ∨ (i = b ∧ x = .cells C (putA cs off ds)) := by
    intro i x hx
    rw [List.getElem?_set] at hx
    by_cases hij : b = i
    · rw [if_pos hij] at hx
      split at hx
      · exact .inr ⟨hij.symm, (Option.some.inj hx).symm⟩
      · cases hx
    · rw [if_neg hij] at hx
      exact .inl ⟨hx, fun h => hij h.symm⟩
  refine ⟨⟨hM.base.defers, hM.base.tmps, by rw [hM.base.size]; simp, fun i x u hx hu => ?_, fun i x hx hl => ?_, fun i j x u hx hu hl hk he => ?_⟩, hM.sub, hM.src, fun i x j u hx hl hu hk hnl' => ?_, hM.same, fun i x hi hx hl u hu hk => ?_, by simpa using hM.long⟩
  · rcases hset i x hx with ⟨h1, h2⟩ | ⟨rfl, rfl⟩
    · exact hM.base.heap i x u h1 hu
    · exact hrel u hu C cs hb (hM.base.heap _ _ u hb hu)
  · rcases hset i x hx with ⟨h1, h2⟩ | ⟨rfl, rfl⟩
    · exact hM.base.apart i x h1 hl
    · exact hM.base.apart _ _ hb rfl
  · rcases hset i x hx with ⟨h1, h2⟩ | ⟨rfl, rfl⟩
    · rcases hset j u hu with ⟨k1, k2⟩ | ⟨rfl, rfl⟩
      · exact hM.base.inj i j x u h1 k1 hl hk he
      · exact hM.base.inj i _ x _ h1 hb hl rfl he
    · rcases hset j u hu with ⟨k1, k2⟩ | ⟨rfl, rfl⟩
      · exact hM.base.inj _ j _ u hb k1 rfl hk he
      · rfl
  · rcases hset i x hx with ⟨h1, h2⟩ | ⟨rfl, rfl⟩
    · exact hM.disj i x j u h1 hl hu hk hnl'
    · exact hM.disj _ _ j u hb rfl hu hk hnl'
  · rcases hset i x hx with ⟨h1, h2⟩ | ⟨rfl, rfl⟩
    · exact hM.blks i x hi h1 hl u hu hk
    · exact hM.blks _ _ hi hb rfl u hu hk
omit [Dr] in
theorem putCells_self : ∀ (us : List Value) (i : Nat) (vs : Array Value), (∀ (j : Nat) u, us[j]? = some u → vs[i + j]? = some u) → putCells vs i us = vs
  | [], i, vs, _ => rfl
  | u :: us, i, vs, h => by
    have h0 : vs[i]? = some u := h 0 u rfl
    have h1 : vs.setIfInBounds i u = vs := by
      apply Array.ext_getElem?
      intro j
      rw [Array.getElem?_setIfInBounds]
      by_cases hij : i = j
      · subst hij
        rw [if_pos rfl, h0, if_pos (Array.getElem?_eq_some_iff.1 h0).1]
      · rw [if_neg hij]
    simp only [putCells, h1]
    exact putCells_self us (i + 1) vs (fun j u hu => by rw [show i + 1 + j = i + (j + 1) by omega]; exact h (j + 1) u (by simpa using hu))
theorem relL_unk : ∀ {n : Nat} {us : List Value}, us.length = n → RelL E σ w β (List.replicate n .unk) us
  | 0, us, h => by simp only [List.replicate, RelL]; exact List.eq_nil_of_length_eq_zero h
  | n + 1, [], h => by simp at h
  | n + 1, u :: us, h => by simp only [List.replicate, RelL]; exact ⟨u, us, rfl, by simp [Rel], relL_unk (by simpa using h)⟩
theorem mid_step {E' : Env} {n : Nat} {tm1 : List AV} {H1 Hs Hs' : List AB} {c : Car} {x : c.Den} (hM : Mid E E' σ w a τ β tm1 H1 τ' β' tm Hs n) (hok : c.ok n = true) (h : pack1 c tm Hs = some (x, Hs')) :
    ∃ τ2 β2, (∃ s, β2 = β ++ s) ∧ Mid E E' σ w a τ2 β2 (unpack1 c x (tm1, H1)).1 (unpack1 c x (tm1, H1)).2 τ' β' tm Hs' n := by
  have hlen := hM.base.size
  have hlong := hM.long
  simp only at hlen
  cases c with
  | sl t ag T =>
    simp only [pack1] at h
    split at h
    · rename_i z hz
      split at h
      · rename_i y hy
        simp only [Option.some.injEq, Prod.mk.injEq] at h
        obtain ⟨rfl, rfl⟩ := h
        obtain ⟨u, h1, h2⟩ := RelL.get hM.src.tmps hz
        exact ⟨τ, β, ⟨[], by simp⟩, hM.base.setT h1 (encV_rel (decV_rel h2 hy)), hM.sub, hM.src, hM.disj, hM.same, hM.blks, hM.long⟩
      · cases h
    · cases h
  | row t T e =>
    have key : ∀ (xs : List T.Den) (t0 : Nat) (v : Value) (Hs' : List AB), a.tmps.toList[t]? = some v → Own T.kd e σ t0 w v xs → ¬ E.Kp t0 → (∀ (i : Nat) y, H1[i]? = some y → y.live = true → τ i ≠ t0) →
        Conc E' σ τ' β' ⟨tm, Hs'⟩ a w → (∀ (j : Nat) y, Hs'[j]? = some y → y.live = true → Hs[j]? = some y ∧ t0 ≠ τ' j) →
        ∃ τ2 β2, (∃ s, β2 = β ++ s) ∧ Mid E E' σ w a τ2 β2 (tm1.set t (.row H1.length)) (H1 ++ [.row T e xs]) τ' β' tm Hs' n := by
      intro xs t0 v Hs' hv hown hP ht hs' hsub
      obtain ⟨q1, q2⟩ := conc_row hM.base EvT.refl hP ht hown
      refine ⟨_, _, ⟨_, rfl⟩, q1.setT hv q2, hM.sub, hs', fun i y j z hy hl hz hk hnl => ?_, fun i hi => ?_, fun i y hi hy hl z hz hk => ?_, by simp; omega⟩
      · obtain ⟨z1, z2⟩ := hsub j z hz hk
        rcases Nat.lt_or_ge i H1.length with hlt | hge
        · rw [List.getElem?_append_left hlt] at hy
          simp only [updT, Nat.ne_of_lt hlt, if_false]
          exact hM.disj i y j z hy hl z1 hk hnl
        · have h0 : i = H1.length := by
            have := (List.getElem?_eq_some_iff.1 hy).1
            simp at this
            omega
          subst h0
          simp only [updT, if_true]
          exact z2
      · have hlt : i < H1.length := by omega
        obtain ⟨s1, s2⟩ := hM.same i hi
        refine ⟨by simp only [updT, Nat.ne_of_lt hlt, if_false]; exact s1, ?_⟩
        rw [List.getElem?_append_left (by omega)]
        exact s2
      · rw [List.getElem?_append_left (by omega)] at hy
        exact hM.blks i y hi hy hl z (hsub i z hz hk).1 hk
    simp only [pack1] at h
    split at h
    · rename_i hz
      simp only [Option.some.injEq, Prod.mk.injEq] at h
      obtain ⟨rfl, rfl⟩ := h
      obtain ⟨u, h1, h2⟩ := RelL.get hM.src.tmps hz
      simp only [Rel] at h2
      subst h2
      obtain ⟨r1, hr1, hr2⟩ := Gh.fresh τ E.bnd H1.length
      obtain ⟨r2, hr3, hr4⟩ := Gh.fresh τ' r1 Hs.length
      refine key [] r2 _ Hs h1 Own.nil (fun hp => by have := E.low _ hp; omega) (fun i y hy _ he => ?_) hM.src (fun j y hy hl => ⟨hy, fun he => ?_⟩)
      · have := hr2 i (List.getElem?_eq_some_iff.1 hy).1
        omega
      · have := hr4 j (List.getElem?_eq_some_iff.1 hy).1
        omega
    · rename_i r hz
      split at h
      · rename_i T' e' xs hr
        split at h
        · rename_i hT pe _ _
          obtain ⟨hE⟩ := pe
          simp only [Option.some.injEq, Prod.mk.injEq] at h
          obtain ⟨rfl, rfl⟩ := h
          subst hT hE
          obtain ⟨u, h1, h2⟩ := RelL.get hM.src.tmps hz
          simp only [Rel] at h2
          have hown : Own T'.kd e' σ (τ' r) w u xs := hM.src.heap r _ _ hr h2.1
          refine key xs (τ' r) u _ h1 hown (fun hp => hM.src.apart r _ hr rfl (hM.sub _ hp)) (fun i y hy hl he => ?_) (conc_gone hM.src) (fun j y hy hl => ?_)
          · exact hM.disj i y r _ hy hl hr rfl (fun b => by simp) he
          · obtain ⟨g1, g2⟩ := gone_get hy hl
            exact ⟨g1, fun he => g2 (hM.src.inj _ _ _ _ hr g1 rfl hl he).symm⟩
        · cases h
      · cases h
    · cases h
  | blk b C T =>
    simp only [pack1] at h
    split at h
    · rename_i C' cs hb
      split at h
      · rename_i pe y hC' hy
        obtain ⟨hE⟩ := pe
        simp only [Option.some.injEq, Prod.mk.injEq] at h
        obtain ⟨rfl, rfl⟩ := h
        subst hE
        have hbn : b < n := Nat.le_of_ble_eq_true hok
        obtain ⟨s1, s2⟩ := hM.same b hbn
        obtain ⟨v, hv⟩ : ∃ v, β'[b]? = some v := ⟨_, List.getElem?_eq_getElem (by rw [hM.src.size]; exact (List.getElem?_eq_some_iff.1 hb).1)⟩
        obtain ⟨n', vs, e1, e2, e3⟩ := hM.src.heap b _ v hb hv
        have hrep := dec_whole hy e3
        have hnl : ∀ z, H1[b]? = some z → z.live = false := fun z hz => by
          cases hl : z.live with
          | false => rfl
          | true =>
            obtain ⟨b', hb'⟩ := hM.blks b z hbn hz hl _ hb rfl
            cases hb'
        have hset : ∀ (i : Nat) (z : AB), (H1.set b (.cells C' (enc T y)))[i]? = some z → (H1[i]? = some z ∧ i ≠ b) ∨ (i = b ∧ z = .cells C' (enc T y)) := by
          intro i z hz
          rw [List.getElem?_set] at hz
          by_cases hij : b = i
          · rw [if_pos hij] at hz
            split at hz
            · exact .inr ⟨hij.symm, (Option.some.inj hz).symm⟩
            · cases hz
          · rw [if_neg hij] at hz
            exact .inl ⟨hz, fun h => hij h.symm⟩
        refine ⟨τ, β, ⟨[], by simp⟩, ⟨hM.base.defers, hM.base.tmps, by rw [hM.base.size]; simp [unpack1], fun i z u hz hu => ?_, fun i z hz hl => ?_, fun i j z u hz hu hl hk he => ?_⟩, hM.sub, conc_gone hM.src, fun i z j u hz hl hu hk hnl' => ?_, hM.same, fun i z hi hz hl u hu hk => ?_, by simpa [unpack1] using hM.long⟩
        · rcases hset i z hz with ⟨h1, h2⟩ | ⟨rfl, rfl⟩
          · exact hM.base.heap i z u h1 hu
          · rw [s2, hv] at hu
            obtain rfl := Option.some.inj hu
            exact ⟨n', vs, e1, by rw [s1]; exact e2, enc_rel T hrep⟩
        · rcases hset i z hz with ⟨h1, h2⟩ | ⟨rfl, rfl⟩
          · exact hM.base.apart i z h1 hl
          · rw [s1]; exact fun hp => hM.src.apart _ _ hb rfl (hM.sub _ hp)
        · rcases hset i z hz with ⟨h1, h2⟩ | ⟨rfl, rfl⟩
          · rcases hset j u hu with ⟨k1, k2⟩ | ⟨rfl, rfl⟩
            · exact hM.base.inj i j z u h1 k1 hl hk he
            · rw [s1] at he
              exact absurd he (hM.disj i z _ _ h1 hl hb rfl (fun b => by simp))
          · rcases hset j u hu with ⟨k1, k2⟩ | ⟨rfl, rfl⟩
            · rw [s1] at he
              exact absurd he.symm (hM.disj j u _ _ k1 hk hb rfl (fun b => by simp))
            · rfl
        · obtain ⟨g1, g2⟩ := gone_get hu hk
          rcases hset i z hz with ⟨h1, h2⟩ | ⟨rfl, rfl⟩
          · exact hM.disj i z j u h1 hl g1 hk hnl'
          · rw [s1]; exact fun he => g2 (hM.src.inj _ _ _ _ hb g1 rfl hk he).symm
        · obtain ⟨g1, g2⟩ := gone_get hu hk
          rcases hset i z hz with ⟨h1, h2⟩ | ⟨rfl, rfl⟩
          · exact hM.blks i z hi h1 hl u g1 hk
          · exact absurd rfl g2
      · cases h
    · cases h
  | rw r T e =>
    simp only [pack1] at h
    split at h
    · rename_i T' e' xs hr
      split at h
      · rename_i hT pe _ _
        obtain ⟨hE⟩ := pe
        simp only [Option.some.injEq, Prod.mk.injEq] at h
        obtain ⟨rfl, rfl⟩ := h
        subst hT hE
        exact ⟨τ, β, ⟨[], by simp⟩, mid_make hM (Nat.le_of_ble_eq_true hok) hr rfl (fun l => by simp) (fun v _ hB => hB) (conc_gone hM.src) (fun j y hy hl => .inl (gone_get hy hl))⟩
      · cases h
    · cases h
  | mp r m =>
    simp only [pack1] at h
    split at h
    · rename_i m' xs hr
      split at h
      · rename_i hT _
        simp only [Option.some.injEq, Prod.mk.injEq] at h
        obtain ⟨rfl, rfl⟩ := h
        subst hT
        exact ⟨τ, β, ⟨[], by simp⟩, mid_make hM (Nat.le_of_ble_eq_true hok) hr rfl (fun l => by simp) (fun v _ hB => hB) (conc_gone hM.src) (fun j y hy hl => .inl (gone_get hy hl))⟩
      · cases h
    · cases h
  | opn b C m =>
    simp only [pack1] at h
    split at h
    · rename_i C' cs hb
      split at h
      · rename_i pe hC' hlen'
        obtain ⟨hE⟩ := pe
        simp only [Option.some.injEq, Prod.mk.injEq] at h
        obtain ⟨_, rfl⟩ := h
        subst hE
        have hlen' := Nat.eq_of_beq_eq_true hlen'
        have hget : ∀ (j : Nat) (y : AB), (Hs.set b (.lock (.cells C' cs)))[j]? = some y → (Hs[j]? = some y ∧ j ≠ b) ∨ (j = b ∧ y = .lock (.cells C' cs)) := by
          intro j y hy
          rw [List.getElem?_set] at hy
          by_cases hij : b = j
          · rw [if_pos hij] at hy
            split at hy
            · exact .inr ⟨hij.symm, (Option.some.inj hy).symm⟩
            · cases hy
          · rw [if_neg hij] at hy
            exact .inl ⟨hy, fun h => hij h.symm⟩
        have hsrc : Conc E' σ τ' β' ⟨tm, Hs.set b (.lock (.cells C' cs))⟩ a w := by
          refine ⟨hM.src.defers, hM.src.tmps, by rw [hM.src.size]; simp, fun i x u hx hu => ?_, fun i x hx hl => ?_, fun i j x u hx hu hl hk he => ?_⟩
          · rcases hget i x hx with ⟨h1, _⟩ | ⟨rfl, rfl⟩
            · exact hM.src.heap i _ u h1 hu
            · have hq := hM.src.heap _ (.cells C' cs) u hb hu
              exact hq
          · rcases hget i x hx with ⟨h1, _⟩ | ⟨rfl, rfl⟩
            · exact hM.src.apart i _ h1 hl
            · exact hM.src.apart _ _ hb rfl
          · rcases hget i x hx with ⟨h1, _⟩ | ⟨rfl, rfl⟩
            · rcases hget j u hu with ⟨k1, _⟩ | ⟨rfl, rfl⟩
              · exact hM.src.inj i j _ _ h1 k1 hl hk he
              · exact hM.src.inj i _ _ _ h1 hb hl rfl he
            · rcases hget j u hu with ⟨k1, _⟩ | ⟨rfl, rfl⟩
              · exact hM.src.inj _ j _ _ hb k1 rfl hk he
              · rfl
        refine ⟨τ, β, ⟨[], by simp⟩, mid_make hM (Nat.le_of_ble_eq_true hok) hb rfl (fun l => by simp) (fun v _ hB => ?_) hsrc (fun j y hy hl => ?_)⟩
        · obtain ⟨n', vs, e1, e2, e3⟩ := hB
          exact ⟨n', vs, e1, e2, relL_unk (by rw [e3.length, hlen'])⟩
        · rcases hget j y hy with h1 | ⟨h1, h2⟩
          · exact .inl h1
          · exact .inr ⟨h1, _, h2⟩
      · cases h
    · cases h
  | cl b off T =>
    simp only [pack1] at h
    split at h
    · rename_i C' cs hb
      split at h
      · rename_i y hy
        simp only [Option.some.injEq, Prod.mk.injEq] at h
        obtain ⟨rfl, rfl⟩ := h
        obtain ⟨s1, s2⟩ := hM.same b (Nat.le_of_ble_eq_true hok)
        refine ⟨τ, β, ⟨[], by simp⟩, mid_cell hM (fun v hv C cs1 hb1 hB => ?_)⟩
        obtain ⟨n1, vs1, e1, e2, e3⟩ := hB
        obtain ⟨n2, vs2, f1, f2, f3⟩ := hM.src.look hb (by rw [← s2]; exact hv)
        rw [e1] at f1
        simp only [Value.pointer.injEq, Option.some.injEq, Addr.mk.injEq] at f1
        obtain ⟨rfl, _⟩ := f1
        have hvs : vs1 = vs2 := by
          have := e2.2.symm.trans f2.2
          exact (show vs1 = vs2 ∧ C = C' by simpa using this).1
        subst hvs
        refine ⟨n1, vs1, e1, e2, ?_⟩
        have hrep := dec_whole hy (RelL.take T.sz (RelL.drop off f3))
        have h3 := putA_rel (E := E) off (vs := vs1.toArray) (by simpa using e3) (enc_rel (E := E) (β := β) T hrep)
        rw [putCells_self] at h3
        · simpa using h3
        · intro j u hu
          rw [List.getElem?_take] at hu
          split at hu
          · rw [List.getElem?_drop] at hu
            simpa using hu
          · cases hu
      · cases h
    · cases h
  | crow b off T e =>
    obtain ⟨s1, s2⟩ := hM.same b (Nat.le_of_ble_eq_true hok)
    have hbn : b < n := Nat.le_of_ble_eq_true hok
    have key : ∀ (C' : TypeId) (cs : List AV) (xs : List T.Den) (t0 : Nat) (v : Value) (Hs' : List AB), look Hs b = some (.cells C' cs) → (∀ n2 vs2, BRel E' σ w β' (τ' b) (.pointer (some ⟨n2, 0, none⟩)) (.cells C' cs) → Blk σ (τ' b) w n2 C' (List.toArray vs2) → RelL E' σ w β' cs vs2 → vs2[off]? = some v) → Own T.kd e σ t0 w v xs → ¬ E.Kp t0 → (∀ (i : Nat) y, H1[i]? = some y → y.live = true → τ i ≠ t0) →
        Conc E' σ τ' β' ⟨tm, Hs'⟩ a w → (∀ (j : Nat) y, Hs'[j]? = some y → y.live = true → Hs[j]? = some y ∧ t0 ≠ τ' j) →
        ∃ τ2 β2, (∃ s, β2 = β ++ s) ∧ Mid E E' σ w a τ2 β2 tm1 (putB b off [.row H1.length] (H1 ++ [.row T e xs])) τ' β' tm Hs' n := by
      intro C' cs xs t0 v Hs' hlk hcell hown hP ht hs' hsub
      obtain ⟨q1, q2⟩ := conc_row hM.base EvT.refl hP ht hown
      have hM2 : Mid E E' σ w a (updT τ H1.length t0) (β ++ [v]) tm1 (H1 ++ [.row T e xs]) τ' β' tm Hs' n := by
        refine ⟨q1, hM.sub, hs', fun i y j z hy hl hz hk hnl => ?_, fun i hi => ?_, fun i y hi hy hl z hz hk => ?_, by simp; omega⟩
        · obtain ⟨z1, z2⟩ := hsub j z hz hk
          rcases Nat.lt_or_ge i H1.length with hlt | hge
          · rw [List.getElem?_append_left hlt] at hy
            simp only [updT, Nat.ne_of_lt hlt, if_false]
            exact hM.disj i y j z hy hl z1 hk hnl
          · have h0 : i = H1.length := by
              have := (List.getElem?_eq_some_iff.1 hy).1
              simp at this
              omega
            subst h0
            simp only [updT, if_true]
            exact z2
        · have hlt : i < H1.length := by omega
          obtain ⟨s1, s2⟩ := hM.same i hi
          refine ⟨by simp only [updT, Nat.ne_of_lt hlt, if_false]; exact s1, ?_⟩
          rw [List.getElem?_append_left (by omega)]
          exact s2
        · rw [List.getElem?_append_left (by omega)] at hy
          exact hM.blks i y hi hy hl z (hsub i z hz hk).1 hk
      refine ⟨_, _, ⟨_, rfl⟩, mid_cell hM2 (fun v1 hv1 C cs1 hb1 hB => ?_)⟩
      obtain ⟨n1, vs1, e1, e2, e3⟩ := hB
      have hblt : b < β.length := by omega
      rw [List.getElem?_append_left hblt] at hv1
      obtain ⟨n2, vs2, f1, f2, f3⟩ := hM.src.look hlk (by rw [← s2]; exact hv1)
      have hf := hcell n2 vs2 ⟨n2, vs2, rfl, f2, f3⟩ f2 f3
      rw [e1] at f1
      simp only [Value.pointer.injEq, Option.some.injEq, Addr.mk.injEq] at f1
      obtain ⟨rfl, _⟩ := f1
      have hvs : vs1 = vs2 := by
        have := e2.2.symm.trans f2.2
        exact (show vs1 = vs2 ∧ C = C' by simpa using this).1
      subst hvs
      refine ⟨n1, vs1, e1, e2, ?_⟩
      have h3 := putA_rel (E := E) (β := β ++ [v]) off (ds := [.row H1.length]) (us := [v]) (vs := vs1.toArray) (by simpa using e3) (by simp only [RelL]; exact ⟨v, [], rfl, q2, rfl⟩)
      rw [putCells_self] at h3
      · simpa using h3
      · intro j u hu
        cases j with
        | zero =>
          simp only [List.getElem?_cons_zero, Option.some.injEq] at hu
          subst hu
          simpa using hf
        | succ j => simp at hu
    simp only [pack1] at h
    split at h
    · rename_i C' cs hlk
      split at h
      · rename_i hz
        simp only [Option.some.injEq, Prod.mk.injEq] at h
        obtain ⟨rfl, rfl⟩ := h
        obtain ⟨r1, hr1, hr2⟩ := Gh.fresh τ E.bnd H1.length
        obtain ⟨r2, hr3, hr4⟩ := Gh.fresh τ' r1 Hs.length
        refine key C' cs [] r2 _ Hs hlk (fun n2 vs2 _ _ hr => ?_) Own.nil (fun hp => by have := E.low _ hp; omega) (fun i y hy _ he => ?_) hM.src (fun j y hy hl => ⟨hy, fun he => ?_⟩)
        · obtain ⟨u, h1, h2⟩ := RelL.get hr hz
          simp only [Rel] at h2
          rw [h1, h2]
        · have := hr2 i (List.getElem?_eq_some_iff.1 hy).1
          omega
        · have := hr4 j (List.getElem?_eq_some_iff.1 hy).1
          omega
      · rename_i r hz
        split at h
        · rename_i T' e' xs hr
          split at h
          · rename_i hT pe _ _
            obtain ⟨hE⟩ := pe
            simp only [Option.some.injEq, Prod.mk.injEq] at h
            obtain ⟨rfl, rfl⟩ := h
            subst hT hE
            obtain ⟨v, hv⟩ : ∃ v, β'[r]? = some v := ⟨_, List.getElem?_eq_getElem (by rw [hM.src.size]; exact (List.getElem?_eq_some_iff.1 hr).1)⟩
            have hown : Own T'.kd e' σ (τ' r) w v xs := hM.src.heap r _ _ hr hv
            refine key C' cs xs (τ' r) v _ hlk (fun n2 vs2 _ _ hrl => ?_) hown (fun hp => hM.src.apart r _ hr rfl (hM.sub _ hp)) (fun i y hy hl he => ?_) (conc_gone hM.src) (fun j y hy hl => ?_)
            · obtain ⟨u, h1, h2⟩ := RelL.get hrl hz
              simp only [Rel] at h2
              rw [hv] at h2
              rw [h1, Option.some.inj h2.1]
            · exact hM.disj i y r _ hy hl hr rfl (fun b => by simp) he
            · obtain ⟨g1, g2⟩ := gone_get hy hl
              exact ⟨g1, fun he => g2 (hM.src.inj _ _ _ _ hr g1 rfl hl he).symm⟩
          · cases h
        · cases h
      · cases h
    · cases h
theorem mid_all {E' : Env} : ∀ {cs : List Car} {n : Nat} {τ : Nat → Nat} {β : List Value} {tm1 : List AV} {H1 Hs : List AB} {x : CarsDen cs}, Mid E E' σ w a τ β tm1 H1 τ' β' tm Hs n → cs.all (Car.ok n) = true → packC cs tm Hs = some x →
    ∃ τ2 β2, (∃ s, β2 = β ++ s) ∧ Conc E σ τ2 β2 ⟨(unpackC cs x (tm1, H1)).1, (unpackC cs x (tm1, H1)).2⟩ a w
  | [], n, τ, β, tm1, H1, Hs, x, hM, _, _ => ⟨τ, β, ⟨[], by simp⟩, hM.base⟩
  | [c], n, τ, β, tm1, H1, Hs, x, hM, hok, h => by
    simp only [packC] at h
    split at h
    · rename_i y Hs' hp
      obtain rfl := Option.some.inj h
      obtain ⟨τ2, β2, h1, h2⟩ := mid_step hM (by simpa using hok) hp
      exact ⟨τ2, β2, h1, h2.base⟩
    · cases h
  | c :: d :: l, n, τ, β, tm1, H1, Hs, x, hM, hok, h => by
    simp only [packC] at h
    simp only [List.all_cons, Bool.and_eq_true] at hok
    split at h
    · rename_i y Hs' hp
      split at h
      · rename_i z hz
        obtain rfl := Option.some.inj h
        obtain ⟨τ2, β2, h1, h2⟩ := mid_step hM hok.1 hp
        obtain ⟨τ3, β3, h3, h4⟩ := mid_all h2 (by simp only [List.all_cons, Bool.and_eq_true]; exact hok.2) hz
        obtain ⟨s, rfl⟩ := h1
        obtain ⟨s', rfl⟩ := h3
        exact ⟨τ3, _, ⟨s ++ s', by simp⟩, h4⟩
      · cases h
    · cases h
end
end Go.Am
