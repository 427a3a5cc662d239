/- The abstract machine, part 26: what a pointer owns, as one thing. No statement of its own. -/
import Derived.Test.YtfhcockdlfidmaaAm12
namespace Go.Am
open Go.Vk Go.RowKit
set_option linter.unusedVariables false
set_option linter.unusedSimpArgs false

/-- A tag that may be read: a kept one, or a live block's. -/
def Src (E : Env) (τ : Nat → Nat) (H : List AB) (t : Nat) : Prop := E.Pr t ∨ ∃ (i : Nat) (x : AB), H[i]? = some x ∧ x.live = true ∧ τ i = t
theorem bare_live : ∀ {x : AB}, x.bare.live = x.live
  | .lock x => by simp only [AB.bare, AB.live]; exact bare_live
  | .cells .. => rfl
  | .row .. => rfl
  | .map .. => rfl
  | .gone => rfl
theorem look_src {H : List AB} {r : Nat} {T : Ty} {e : TypeId} {xs : List T.Den} {τ : Nat → Nat} (h : look H r = some (.row T e xs)) : ∃ (i : Nat) (x : AB), H[i]? = some x ∧ x.live = true ∧ τ i = τ r := by
  unfold look at h
  split at h
  · rename_i x hx
    have h := Option.some.inj h
    exact ⟨r, x, hx, by rw [← bare_live, h]; rfl, rfl⟩
  · cases h

/-- What a run of cells holds. -/
inductive DT where
  | flat (T : Ty)
  | row (T : Ty) (e : TypeId)
  | map (m : MTy)
  | pair (a b : DT)
  | ptr (C : TypeId) (d : DT)
@[reducible] def DT.Den : DT → Type
  | .flat T => T.Den
  | .row T _ => List T.Den
  | .map m => Mp m.K m.V
  | .pair a b => a.Den × b.Den
  | .ptr _ d => d.Den
def DT.sz : DT → Nat
  | .flat T => T.sz
  | .row _ _ => 1
  | .map _ => 1
  | .pair a b => a.sz + b.sz
  | .ptr _ _ => 1
def packD : (d : DT) → List AV → List AB → Option (d.Den × List AV × List AB)
  | .flat T, cs, H => match dec T cs with
    | some (y, l) => some (y, l, H)
    | none => none
  | .row T e, c :: l, H => match c with
    | .val (.slice none 0 0) => some ([], l, H)
    | .row r => match H[r]? with
      | some (.row T' e' xs) => match tyEq T' T, natEq e' e with
        | some ⟨h⟩, some _ => some (castL h xs, l, H.set r .gone)
        | _, _ => none
      | _ => none
    | _ => none
  | .map m, c :: l, H => match c with
    | .map r => match H[r]? with
      | some (.map m' xs) => match mtyEq m' m with
        | some ⟨h⟩ => some (castM h xs, l, H.set r .gone)
        | none => none
      | _ => none
    | _ => none
  | .pair a b, cs, H => match packD a cs H with
    | some (x, l, H1) => match packD b l H1 with
      | some (y, l', H2) => some ((x, y), l', H2)
      | none => none
    | none => none
  | .ptr C d, c :: l, H => match c with
    | .ptr b 0 => match H[b]? with
      | some (.cells C' cs) => match natEq C' C, packD d cs (H.set b .gone) with
        | some _, some (y, [], H') => some (y, l, H')
        | _, _ => none
      | _ => none
    | _ => none
  | _, _, _ => none
def unpackD : (d : DT) → d.Den → List AB → List AV × List AB
  | .flat T, y, H => (enc T y, H)
  | .row T e, xs, H => ([.row H.length], H ++ [.row T e xs])
  | .map m, xs, H => ([.map H.length], H ++ [.map m xs])
  | .pair a b, y, H => ((unpackD a y.1 H).1 ++ (unpackD b y.2 (unpackD a y.1 H).2).1, (unpackD b y.2 (unpackD a y.1 H).2).2)
  | .ptr C d, y, H => ([.ptr H.length 0], (unpackD d y (H ++ [.cells C (List.replicate d.sz .unk)])).2.set H.length (.cells C (unpackD d y (H ++ [.cells C (List.replicate d.sz .unk)])).1))

/-- What is gone is gone, the rest is as it was. -/
def Gone (H H' : List AB) : Prop := H'.length = H.length ∧ ∀ i : Nat, H'[i]? = H[i]? ∨ (H'[i]? = some AB.gone ∧ ∃ x, H[i]? = some x ∧ ∀ y, x ≠ AB.lock y)
theorem Gone.refl {H : List AB} : Gone H H := ⟨rfl, fun i => .inl rfl⟩
theorem Gone.trans {H H1 H2 : List AB} (h : Gone H H1) (k : Gone H1 H2) : Gone H H2 := by
  refine ⟨k.1.trans h.1, fun i => ?_⟩
  rcases k.2 i with k2 | ⟨k2, x, k3, k4⟩
  · rcases h.2 i with h2 | h2
    · exact .inl (k2.trans h2)
    · exact .inr ⟨k2.trans h2.1, h2.2⟩
  · rcases h.2 i with h2 | h2
    · exact .inr ⟨k2, x, h2 ▸ k3, k4⟩
    · exact .inr ⟨k2, h2.2⟩
theorem Gone.set {H : List AB} {r : Nat} {x : AB} (h : H[r]? = some x) (hl : ∀ y, x ≠ .lock y) : Gone H (H.set r .gone) := by
  refine ⟨by simp, fun i => ?_⟩
  rw [List.getElem?_set]
  by_cases hi : r = i
  · subst hi
    rw [if_pos rfl, if_pos (List.getElem?_eq_some_iff.1 h).1]
    exact .inr ⟨rfl, x, h, hl⟩
  · rw [if_neg hi]; exact .inl rfl
theorem Gone.get {H H' : List AB} (h : Gone H H') {i : Nat} {x : AB} (hx : H'[i]? = some x) (hl : x.live = true) : H[i]? = some x := by
  rcases h.2 i with h2 | ⟨h2, _⟩
  · rw [← h2]; exact hx
  · rw [h2] at hx; obtain rfl := Option.some.inj hx; cases hl
theorem Gone.pres {H H' : List AB} (h : Gone H H') : HPres H H' := by
  refine ⟨Nat.le_of_eq h.1.symm, fun i b hb => ?_⟩
  rcases h.2 i with h2 | ⟨_, x, h3, h4⟩
  · rw [h2]; exact hb
  · rw [hb] at h3; exact absurd (Option.some.inj h3).symm (h4 b)
theorem packD_gone : ∀ {d : DT} {cs l : List AV} {H H' : List AB} {y : d.Den}, packD d cs H = some (y, l, H') → Gone H H'
  | .flat T, cs, l, H, H', y, h => by
    simp only [packD] at h
    split at h
    · simp only [Option.some.injEq, Prod.mk.injEq] at h
      obtain ⟨_, _, rfl⟩ := h
      exact .refl
    · cases h
  | .row T e, [], l, H, H', y, h => by simp [packD] at h
  | .row T e, c :: cs, l, H, H', y, h => by
    simp only [packD] at h
    split at h
    · simp only [Option.some.injEq, Prod.mk.injEq] at h
      obtain ⟨_, _, rfl⟩ := h
      exact .refl
    · split at h
      · rename_i hr
        split at h
        · simp only [Option.some.injEq, Prod.mk.injEq] at h
          obtain ⟨_, _, rfl⟩ := h
          exact .set hr (fun y => by simp)
        · cases h
      · cases h
    · cases h
  | .map m, [], l, H, H', y, h => by simp [packD] at h
  | .map m, c :: cs, l, H, H', y, h => by
    simp only [packD] at h
    split at h
    · split at h
      · rename_i hr
        split at h
        · simp only [Option.some.injEq, Prod.mk.injEq] at h
          obtain ⟨_, _, rfl⟩ := h
          exact .set hr (fun y => by simp)
        · cases h
      · cases h
    · cases h
  | .pair a b, cs, l, H, H', y, h => by
    simp only [packD] at h
    split at h
    · rename_i h1
      split at h
      · rename_i h2
        simp only [Option.some.injEq, Prod.mk.injEq] at h
        obtain ⟨_, _, rfl⟩ := h
        exact (packD_gone h1).trans (packD_gone h2)
      · cases h
    · cases h
  | .ptr C d, [], l, H, H', y, h => by simp [packD] at h
  | .ptr C d, c :: cs, l, H, H', y, h => by
    simp only [packD] at h
    split at h
    · split at h
      · rename_i hr
        split at h
        · rename_i h2
          simp only [Option.some.injEq, Prod.mk.injEq] at h
          obtain ⟨_, _, rfl⟩ := h
          exact (Gone.set hr (fun y => by simp)).trans (packD_gone h2)
        · cases h
      · cases h
    · cases h

variable [Dr]
section
variable {P : Program} {E E' : Env} {σ σ1 : Gh} {τ τ' : Nat → Nat} {w w1 : World} {β β' : List Value} {tm : List AV} {H : List AB} {a : Act}
theorem decBS_rel' {T : Ty} {y : AV} {xs : List T.Den} {u : Value} (hC : Conc E σ τ β ⟨tm, H⟩ a w) (hE : ∀ t, Src E τ H t → E'.Pr t) (hr : Rel E σ w β y u) (h : decBS T H y = some xs) : Rel E' σ w β' (.sv false T xs) u := by
  have fin : ∀ A c t, Src E τ H t → u = .slice A xs.length c → xs.length ≤ c → Rd T.kd σ t w A xs → Rel E' σ w β' (.sv false T xs) u := by
    intro A c t h0 h1 h2 h3
    simp only [Rel]
    exact ⟨A, c, t, h1, h2, hE t h0, (fun h => by cases h), h3⟩
  unfold decBS at h
  split at h
  · obtain rfl := Option.some.inj h
    simp only [Rel] at hr
    exact fin none 0 0 (.inl E.nought) hr (Nat.le_refl _) Rd.nil
  · split at h
    · rename_i hkk _
      obtain rfl := Option.some.inj h
      simp only [Rel] at hr
      obtain ⟨A, c, t, e1, e2, e3, _, e5⟩ := hr
      subst hkk
      exact fin A c t (.inl e3) e1 e2 e5
    · cases h
  · split at h
    · rename_i r _ T' e ys hl
      split at h
      · rename_i hkk _
        obtain rfl := Option.some.inj h
        simp only [Rel] at hr
        subst hkk
        obtain ⟨A, c, e1, e2, _, e5⟩ := (show Own T'.kd e σ (τ r) w u ys from hC.look hl hr.1).rd
        exact fin A c _ (.inr (look_src hl)) e1 e2 e5
      · cases h
    · cases h
  · cases h
theorem decB_rel' (hC : Conc E σ τ β ⟨tm, H⟩ a w) (hE : ∀ t, Src E τ H t → E'.Pr t) : ∀ (T : Ty) {l r : List AV} {x : T.Den} {us : List Value}, decB H T l = some (x, r) → RelL E σ w β l us → ∃ c d, us = c ++ d ∧ RelL E' σ w β' (encB T x) c ∧ RelL E σ w β r d
  | .slice T, [], r, x, us, h, hr => by simp [decB] at h
  | .slice T, y :: l, r, x, us, h, hr => by
    simp only [RelL] at hr
    obtain ⟨v, u, rfl, h2, h3⟩ := hr
    simp only [decB] at h
    split at h
    · rename_i xs hd
      simp only [Option.some.injEq, Prod.mk.injEq] at h
      obtain ⟨rfl, rfl⟩ := h
      refine ⟨[v], u, rfl, ?_, h3⟩
      simp only [encB, RelL]
      exact ⟨v, [], rfl, decBS_rel' hC hE h2 hd, rfl⟩
    · cases h
  | .pair p q, l, r, x, us, h, hr => by
    simp only [decB] at h
    split at h
    · rename_i x1 l1 h1
      split at h
      · rename_i y l2 h2
        simp only [Option.some.injEq, Prod.mk.injEq] at h
        obtain ⟨rfl, rfl⟩ := h
        obtain ⟨c, d, rfl, e2, e3⟩ := decB_rel' hC hE p h1 hr
        obtain ⟨c', d', rfl, e5, e6⟩ := decB_rel' hC hE q h2 e3
        exact ⟨c ++ c', d', by rw [List.append_assoc], RelL.append e2 e5, e6⟩
      · cases h
    · cases h
  | .int k, l, r, x, us, h, hr => by
    simp only [decB] at h
    obtain ⟨c, d, e1, e2, e3⟩ := dec_rel _ h hr
    exact ⟨c, d, e1, encB_rel _ (fun _ h => by cases h) (fun _ _ h => by cases h) e2, e3⟩
  | .bool, l, r, x, us, h, hr => by
    simp only [decB] at h
    obtain ⟨c, d, e1, e2, e3⟩ := dec_rel _ h hr
    exact ⟨c, d, e1, encB_rel _ (fun _ h => by cases h) (fun _ _ h => by cases h) e2, e3⟩
  | .str, l, r, x, us, h, hr => by
    simp only [decB] at h
    obtain ⟨c, d, e1, e2, e3⟩ := dec_rel _ h hr
    exact ⟨c, d, e1, encB_rel _ (fun _ h => by cases h) (fun _ _ h => by cases h) e2, e3⟩
  | .arr k n, l, r, x, us, h, hr => by
    simp only [decB] at h
    obtain ⟨c, d, e1, e2, e3⟩ := dec_rel _ h hr
    exact ⟨c, d, e1, encB_rel _ (fun _ h => by cases h) (fun _ _ h => by cases h) e2, e3⟩
theorem decBV_rel' {ag : Bool} {T : Ty} {x : AV} {y : T.Den} {u : Value} (hC : Conc E σ τ β ⟨tm, H⟩ a w) (hE : ∀ t, Src E τ H t → E'.Pr t) (hr : Rel E σ w β x u) (h : decBV H ag T x = some y) : Rel E' σ w β' (encBV ag T y) u := by
  have hw : ∀ {l : List AV} {us : List Value}, whole (decB H T l) = some y → RelL E σ w β l us → RelL E' σ w β' (encB T y) us := by
    intro l us h1 h2
    obtain ⟨c, d, rfl, h3, h4⟩ := decB_rel' (β' := β') hC hE T (whole_some h1) h2
    simp only [RelL] at h4
    subst h4
    simpa using h3
  unfold decBV at h
  split at h
  · simp only [encBV, Rel]
    split at h
    · simp only [Rel] at hr
      obtain ⟨vs, h1, h2⟩ := hr
      exact ⟨vs, h1, hw h h2⟩
    · rename_i vs
      simp only [Rel] at hr
      exact ⟨vs.toList, by simpa using hr, hw h (relL_vals _)⟩
    · cases h
  · have h3 := hw (us := [u]) h (by simp only [RelL]; exact ⟨u, [], rfl, hr, rfl⟩)
    simp only [encBV]
    cases he : encB T y with
    | nil => rw [he] at h3; simp [RelL] at h3
    | cons z l =>
      rw [he] at h3
      simp only [RelL] at h3
      obtain ⟨v, r, e1, e2, _⟩ := h3
      injection e1 with e1 _
      subst e1
      exact e2
theorem decArgs_rel' (hC : Conc E σ τ β ⟨tm, H⟩ a w) (hE : ∀ t, Src E τ H t → E'.Pr t) : ∀ {ps : List (Bool × Ty)} {l : List AV} {us : List Value} {y : ADen ps}, RelL E σ w β l us → decArgs H ps l = some y → RelL E' σ w β' (encArgs ps y) us
  | [], [], us, y, hr, h => by simp only [RelL] at hr; subst hr; simp [encArgs, RelL]
  | [], x :: xs, us, y, hr, h => by simp [decArgs] at h
  | [p], [], us, y, hr, h => by simp [decArgs] at h
  | [p], [x], us, y, hr, h => by
    simp only [RelL] at hr
    obtain ⟨v, r, rfl, h2, rfl⟩ := hr
    simp only [decArgs] at h
    simp only [encArgs, RelL]
    exact ⟨v, [], rfl, decBV_rel' hC hE h2 h, rfl⟩
  | [p], x :: z :: xs, us, y, hr, h => by simp [decArgs] at h
  | p :: q :: l, [], us, y, hr, h => by simp [decArgs] at h
  | p :: q :: l, x :: xs, us, y, hr, h => by
    simp only [RelL] at hr
    obtain ⟨v, r, rfl, h2, h3⟩ := hr
    simp only [decArgs] at h
    split at h
    · rename_i y1 ys h4 h5
      obtain rfl := Option.some.inj h
      simp only [encArgs, RelL]
      exact ⟨v, r, rfl, decBV_rel' hC hE h2 h4, decArgs_rel' hC hE h3 h5⟩
    · cases h


/-- A source without what is gone. -/
theorem conc_Gone {H' : List AB} (hC : Conc E σ τ β ⟨tm, H⟩ a w) (h : Gone H H') : Conc E σ τ β ⟨tm, H'⟩ a w := by
  refine ⟨hC.defers, hC.tmps, by rw [hC.size]; exact h.1.symm, fun i x v hx hv => ?_, fun i x hx hl => hC.apart i x (h.get hx hl) hl, fun i j x y hx hy h1 h2 he => hC.inj i j x y (h.get hx h1) (h.get hy h2) h1 h2 he⟩
  simp only at hx
  rcases h.2 i with h2 | ⟨h2, _⟩
  · exact hC.heap i x v (by rw [← h2]; exact hx) hv
  · rw [h2] at hx; obtain rfl := Option.some.inj hx; trivial
def Dj (τ : Nat → Nat) (H : List AB) (τ' : Nat → Nat) (H' : List AB) : Prop := ∀ (i : Nat) x (j : Nat) y, H[i]? = some x → x.live = true → H'[j]? = some y → y.live = true → τ i ≠ τ' j
/-- What comes behind a move. -/
structure Mvd (E : Env) (σ : Gh) (w : World) (a : Act) (tm : List AV) (τ : Nat → Nat) (β : List Value) (H : List AB) (τ' : Nat → Nat) (Hs' : List AB) (τ2 : Nat → Nat) (β2 : List Value) (H2 : List AB) : Prop where
  conc : Conc E σ τ2 β2 ⟨tm, H2⟩ a w
  more : ∃ s, β2 = β ++ s
  tags : ∀ i, i < H.length → τ2 i = τ i
  heap : ∀ i, i < H.length → H2[i]? = H[i]?
  long : H.length ≤ H2.length
  disj : Dj τ2 H2 τ' Hs'
theorem Mvd.trans {H1 H2 Hs1 Hs2 : List AB} {τ1 τ2 : Nat → Nat} {β1 β2 : List Value} (h : Mvd E σ w a tm τ β H τ' Hs1 τ1 β1 H1) (k : Mvd E σ w a tm τ1 β1 H1 τ' Hs2 τ2 β2 H2) : Mvd E σ w a tm τ β H τ' Hs2 τ2 β2 H2 :=
  ⟨k.conc, by obtain ⟨s, rfl⟩ := h.more; obtain ⟨s', rfl⟩ := k.more; exact ⟨s ++ s', by simp⟩, fun i hi => (k.tags i (Nat.lt_of_lt_of_le hi h.long)).trans (h.tags i hi), fun i hi => (k.heap i (Nat.lt_of_lt_of_le hi h.long)).trans (h.heap i hi), Nat.le_trans h.long k.long, k.disj⟩
/-- A thing more. -/
theorem mvd_new {x : AB} {v : Value} {t : Nat} {Hs Hs' : List AB} (hC : Conc E σ τ β ⟨tm, H⟩ a w) (hP : ¬ E.Kp t) (ht : ∀ (i : Nat) (y : AB), H[i]? = some y → y.live = true → τ i ≠ t) (hb : BRel E σ w (β ++ [v]) t v x)
    (hd : Dj τ H τ' Hs) (hsub : ∀ (j : Nat) y, Hs'[j]? = some y → y.live = true → Hs[j]? = some y ∧ t ≠ τ' j) : Mvd E σ w a tm τ β H τ' Hs' (updT τ H.length t) (β ++ [v]) (H ++ [x]) := by
  refine ⟨conc_new hC EvT.refl hP ht hb, ⟨_, rfl⟩, fun i hi => by simp only [updT, Nat.ne_of_lt hi, if_false], fun i hi => List.getElem?_append_left hi, by simp, fun i y j z hy hl hz hk => ?_⟩
  obtain ⟨z1, z2⟩ := hsub j z hz hk
  rcases Nat.lt_or_ge i H.length with hlt | hge
  · rw [List.getElem?_append_left hlt] at hy
    simp only [updT, Nat.ne_of_lt hlt, if_false]
    exact hd i y j z hy hl z1 hk
  · have h0 : i = H.length := by
      have := (List.getElem?_eq_some_iff.1 hy).1
      simp at this
      omega
    subst h0
    simp only [updT, if_true]
    exact z2
/-- A block's cells, said better. -/
theorem conc_refine {b n : Nat} {C : TypeId} {cs ds : List AV} {vs : List Value} (hC : Conc E σ τ β ⟨tm, H⟩ a w) (hb : H[b]? = some (.cells C cs)) (hv : β[b]? = some (.pointer (some ⟨n, 0, none⟩))) (hB : Blk σ (τ b) w n C vs.toArray) (hr : RelL E σ w β ds vs) :
    Conc E σ τ β ⟨tm, H.set b (.cells C ds)⟩ a w := by
  have hset : ∀ (i : Nat) (x : AB), (H.set b (.cells C ds))[i]? = some x → (H[i]? = some x ∧ i ≠ b) ∨ (i = b ∧ x = .cells C ds) := by
    intro i x hx
    rw [List.getElem?_set] at hx
    by_cases hij : b = i
    · rw [if_pos hij] at hx
      split at hx
      · exact .inr ⟨hij.symm, (Option.some.inj hx).symm⟩
      · cases hx
    · rw [if_neg hij] at hx
      exact .inl ⟨hx, fun h => hij h.symm⟩
  have hlive : ∀ (i : Nat) (x : AB), (H.set b (.cells C ds))[i]? = some x → x.live = true → ∃ y, H[i]? = some y ∧ y.live = true := fun i x hx hl => by
    rcases hset i x hx with ⟨h1, _⟩ | ⟨rfl, rfl⟩
    · exact ⟨x, h1, hl⟩
    · exact ⟨_, hb, rfl⟩
  refine ⟨hC.defers, hC.tmps, by rw [hC.size]; simp, fun i x u hx hu => ?_, fun i x hx hl => ?_, fun i j x y hx hy hl hk he => ?_⟩
  · rcases hset i x hx with ⟨h1, _⟩ | ⟨rfl, rfl⟩
    · exact hC.heap i x u h1 hu
    · rw [hv] at hu
      obtain rfl := Option.some.inj hu
      exact ⟨n, vs, rfl, hB, hr⟩
  · obtain ⟨y, h1, h2⟩ := hlive i x hx hl
    exact hC.apart i y h1 h2
  · obtain ⟨x', h1, h2⟩ := hlive i x hx hl
    obtain ⟨y', h3, h4⟩ := hlive j y hy hk
    exact hC.inj i j x' y' h1 h3 h2 h4 he
theorem packD_len : ∀ {d : DT} {cs l : List AV} {H H' : List AB} {y : d.Den} {us : List Value}, packD d cs H = some (y, l, H') → RelL E σ w β cs us → ∃ us1 us2, us = us1 ++ us2 ∧ us1.length = d.sz ∧ RelL E σ w β l us2
  | .flat T, cs, l, H, H', y, us, h, hr => by
    simp only [packD] at h
    split at h
    · rename_i hdec
      simp only [Option.some.injEq, Prod.mk.injEq] at h
      obtain ⟨_, rfl, _⟩ := h
      obtain ⟨c, d', rfl, e2, e3⟩ := dec_rel T hdec hr
      exact ⟨c, d', rfl, repTy_len T e2, e3⟩
    · cases h
  | .row T e, [], l, H, H', y, us, h, hr => by simp [packD] at h
  | .row T e, c :: cs, l, H, H', y, us, h, hr => by
    simp only [RelL] at hr
    obtain ⟨u, us, rfl, hu, hr⟩ := hr
    have : cs = l := by
      simp only [packD] at h
      split at h
      · simp only [Option.some.injEq, Prod.mk.injEq] at h; exact h.2.1
      · split at h
        · split at h
          · simp only [Option.some.injEq, Prod.mk.injEq] at h; exact h.2.1
          · cases h
        · cases h
      · cases h
    subst this
    exact ⟨[u], us, rfl, rfl, hr⟩
  | .map m, [], l, H, H', y, us, h, hr => by simp [packD] at h
  | .map m, c :: cs, l, H, H', y, us, h, hr => by
    simp only [RelL] at hr
    obtain ⟨u, us, rfl, hu, hr⟩ := hr
    have : cs = l := by
      simp only [packD] at h
      split at h
      · split at h
        · split at h
          · simp only [Option.some.injEq, Prod.mk.injEq] at h; exact h.2.1
          · cases h
        · cases h
      · cases h
    subst this
    exact ⟨[u], us, rfl, rfl, hr⟩
  | .pair p q, cs, l, H, H', y, us, h, hr => by
    simp only [packD] at h
    split at h
    · rename_i h1
      split at h
      · rename_i h2
        simp only [Option.some.injEq, Prod.mk.injEq] at h
        obtain ⟨_, rfl, _⟩ := h
        obtain ⟨us1, us2, rfl, e1, e2⟩ := packD_len h1 hr
        obtain ⟨us3, us4, rfl, f1, f2⟩ := packD_len h2 e2
        exact ⟨us1 ++ us3, us4, by simp, by simp [DT.sz, e1, f1], f2⟩
      · cases h
    · cases h
  | .ptr C d, [], l, H, H', y, us, h, hr => by simp [packD] at h
  | .ptr C d, c :: cs, l, H, H', y, us, h, hr => by
    simp only [RelL] at hr
    obtain ⟨u, us, rfl, hu, hr⟩ := hr
    have : cs = l := by
      simp only [packD] at h
      split at h
      · split at h
        · split at h
          · simp only [Option.some.injEq, Prod.mk.injEq] at h; exact h.2.1
          · cases h
        · cases h
      · cases h
    subst this
    exact ⟨[u], us, rfl, rfl, hr⟩
/-- What is packed in one place and unpacked in another. -/
theorem moveD {a' : Act} {tms : List AV} : ∀ (d : DT) {cs l : List AV} {us : List Value} {Hs Hs' : List AB} {y : d.Den} {τ : Nat → Nat} {β : List Value} {H : List AB}, packD d cs Hs = some (y, l, Hs') → Conc E' σ τ' β' ⟨tms, Hs⟩ a' w → RelL E' σ w β' cs us → Conc E σ τ β ⟨tm, H⟩ a w → Dj τ H τ' Hs →
    (∀ (j : Nat) x, Hs[j]? = some x → x.live = true → (∀ y, Hs'[j]? = some y → y.live = false) → ¬ E.Kp (τ' j)) →
    ∃ τ2 β2 us1 us2, us = us1 ++ us2 ∧ us1.length = d.sz ∧ RelL E' σ w β' l us2 ∧ Mvd E σ w a tm τ β H τ' Hs' τ2 β2 (unpackD d y H).2 ∧ RelL E σ w β2 (unpackD d y H).1 us1
  | .flat T, cs, l, us, Hs, Hs', y, τ, β, H, h, hS, hr, hC, hd, hap => by
    simp only [packD] at h
    split at h
    · rename_i y' l' hdec
      simp only [Option.some.injEq, Prod.mk.injEq] at h
      obtain ⟨rfl, rfl, rfl⟩ := h
      obtain ⟨c, d', rfl, e2, e3⟩ := dec_rel T hdec hr
      exact ⟨τ, β, c, d', rfl, repTy_len T e2, e3, ⟨hC, ⟨[], by simp⟩, fun _ _ => rfl, fun _ _ => rfl, Nat.le_refl _, hd⟩, enc_rel T e2⟩
    · cases h
  | .row T e, [], l, us, Hs, Hs', y, τ, β, H, h, hS, hr, hC, hd, hap => by simp [packD] at h
  | .row T e, c :: cs, l, us, Hs, Hs', y, τ, β, H, h, hS, hr, hC, hd, hap => by
    simp only [RelL] at hr
    obtain ⟨u, us, rfl, hu, hr⟩ := hr
    simp only [packD] at h
    split at h
    · simp only [Option.some.injEq, Prod.mk.injEq] at h
      obtain ⟨rfl, rfl, rfl⟩ := h
      simp only [Rel] at hu
      subst hu
      obtain ⟨r1, hr1, hr2⟩ := Gh.fresh τ E.bnd H.length
      obtain ⟨r2, hr3, hr4⟩ := Gh.fresh τ' r1 Hs.length
      have ht : ∀ (i : Nat) (y : AB), H[i]? = some y → y.live = true → τ i ≠ r2 := fun i y hy _ he => by
        have := hr2 i (List.getElem?_eq_some_iff.1 hy).1
        omega
      refine ⟨_, _, [_], us, rfl, rfl, hr, mvd_new (x := .row T e []) (v := .slice none 0 0) (t := r2) hC (fun hp => by have := E.low _ hp; omega) ht Own.nil hd (fun j y hy hl => ⟨hy, fun he => ?_⟩), ?_⟩
      · have := hr4 j (List.getElem?_eq_some_iff.1 hy).1
        omega
      · simp only [unpackD, RelL, Rel]
        refine ⟨_, [], rfl, ⟨?_, rfl⟩, rfl⟩
        have hsz := hC.size
        simp only at hsz
        rw [List.getElem?_append_right (by omega), hsz, Nat.sub_self]
        rfl
    · rename_i r
      split at h
      · rename_i T' e' xs hx
        split at h
        · rename_i hT pe _ _
          obtain ⟨hE⟩ := pe
          simp only [Option.some.injEq, Prod.mk.injEq] at h
          obtain ⟨rfl, rfl, rfl⟩ := h
          subst hT hE
          simp only [Rel] at hu
          have hown : Own T'.kd e' σ (τ' r) w u xs := hS.heap r _ _ hx hu.1
          have hgone : ∀ y, (Hs.set r .gone)[r]? = some y → y.live = false := fun y hy => by
            rw [List.getElem?_set, if_pos rfl, if_pos (List.getElem?_eq_some_iff.1 hx).1] at hy
            obtain rfl := Option.some.inj hy
            rfl
          refine ⟨_, _, [u], us, rfl, rfl, hr, mvd_new (x := .row T' e' xs) (v := u) (t := τ' r) hC (hap r _ hx rfl hgone) (fun i y hy hl he => hd i y r _ hy hl hx rfl he) hown hd (fun j y hy hl => ?_), ?_⟩
          · obtain ⟨g1, g2⟩ := gone_get hy hl
            exact ⟨g1, fun he => g2 (hS.inj _ _ _ _ hx g1 rfl hl he).symm⟩
          · simp only [unpackD, RelL, Rel]
            refine ⟨_, [], rfl, ⟨?_, hu.2⟩, rfl⟩
            have hsz := hC.size
            simp only at hsz
            rw [List.getElem?_append_right (by omega), hsz, Nat.sub_self]
            rfl
        · cases h
      · cases h
    · cases h
  | .map m, [], l, us, Hs, Hs', y, τ, β, H, h, hS, hr, hC, hd, hap => by simp [packD] at h
  | .map m, c :: cs, l, us, Hs, Hs', y, τ, β, H, h, hS, hr, hC, hd, hap => by
    simp only [RelL] at hr
    obtain ⟨u, us, rfl, hu, hr⟩ := hr
    simp only [packD] at h
    split at h
    · rename_i r
      split at h
      · rename_i m' xs hx
        split at h
        · rename_i hm _
          simp only [Option.some.injEq, Prod.mk.injEq] at h
          obtain ⟨rfl, rfl, rfl⟩ := h
          subst hm
          simp only [Rel] at hu
          have hown : BRel E' σ w β' (τ' r) u (.map m' xs) := hS.heap r _ _ hx hu.1
          have hgone : ∀ y, (Hs.set r .gone)[r]? = some y → y.live = false := fun y hy => by
            rw [List.getElem?_set, if_pos rfl, if_pos (List.getElem?_eq_some_iff.1 hx).1] at hy
            obtain rfl := Option.some.inj hy
            rfl
          refine ⟨_, _, [u], us, rfl, rfl, hr, mvd_new (x := .map m' xs) (v := u) (t := τ' r) hC (hap r _ hx rfl hgone) (fun i y hy hl he => hd i y r _ hy hl hx rfl he) hown hd (fun j y hy hl => ?_), ?_⟩
          · obtain ⟨g1, g2⟩ := gone_get hy hl
            exact ⟨g1, fun he => g2 (hS.inj _ _ _ _ hx g1 rfl hl he).symm⟩
          · simp only [unpackD, RelL, Rel]
            refine ⟨_, [], rfl, ⟨?_, hu.2⟩, rfl⟩
            have hsz := hC.size
            simp only at hsz
            rw [List.getElem?_append_right (by omega), hsz, Nat.sub_self]
            rfl
        · cases h
      · cases h
    · cases h
  | .pair p q, cs, l, us, Hs, Hs', y, τ, β, H, h, hS, hr, hC, hd, hap => by
    simp only [packD] at h
    split at h
    · rename_i x l1 H1 h1
      split at h
      · rename_i z l2 H2 h2
        simp only [Option.some.injEq, Prod.mk.injEq] at h
        obtain ⟨rfl, rfl, rfl⟩ := h
        have g1 := packD_gone h1
        have g2 := packD_gone h2
        obtain ⟨τ2, β2, us1, us2, rfl, e1, e2, e3, e4⟩ := moveD p h1 hS hr hC hd (fun j x hx hl hg => hap j x hx hl (fun y hy => by
          cases hyl : y.live with
          | false => rfl
          | true => have := hg y (g2.get hy hyl); rw [hyl] at this; cases this))
        obtain ⟨τ3, β3, us3, us4, rfl, f1, f2, f3, f4⟩ := moveD q h2 (conc_Gone hS g1) e2 e3.conc e3.disj (fun j x hx hl hg => hap j x (g1.get hx hl) hl hg)
        refine ⟨τ3, β3, us1 ++ us3, us4, by simp, by simp [DT.sz, e1, f1], f2, e3.trans f3, ?_⟩
        exact RelL.append (RelL.more f3.more e4) f4
      · cases h
    · cases h
  | .ptr C d, [], l, us, Hs, Hs', y, τ, β, H, h, hS, hr, hC, hd, hap => by simp [packD] at h
  | .ptr C d, c :: cs, l, us, Hs, Hs', y, τ, β, H, h, hS, hr, hC, hd, hap => by
    simp only [RelL] at hr
    obtain ⟨u, us, rfl, hu, hr⟩ := hr
    simp only [packD] at h
    split at h
    · rename_i b
      split at h
      · rename_i C' cs1 hx
        split at h
        · rename_i pC y1 H1 _ h2
          obtain ⟨hCC⟩ := pC
          subst hCC
          simp only [Option.some.injEq, Prod.mk.injEq] at h
          obtain ⟨rfl, rfl, rfl⟩ := h
          simp only [Rel] at hu
          obtain ⟨n, hu1, rfl⟩ := hu
          obtain ⟨n', vs, e1, e2, e3⟩ := hS.heap b _ _ hx hu1
          simp only [Value.pointer.injEq, Option.some.injEq, Addr.mk.injEq] at e1
          obtain ⟨rfl, _⟩ := e1
          have g1 : Gone Hs (Hs.set b .gone) := .set hx (fun y => by simp)
          have g2 := packD_gone h2
          have hgone : ∀ y, H1[b]? = some y → y.live = false := fun y hy => by
            cases hyl : y.live with
            | false => rfl
            | true =>
              have := g2.get hy hyl
              rw [List.getElem?_set, if_pos rfl, if_pos (List.getElem?_eq_some_iff.1 hx).1] at this
              obtain rfl := Option.some.inj this
              cases hyl
          have hlen : vs.length = d.sz := by
            obtain ⟨us1, us2, k1, k2, k3⟩ := packD_len h2 e3
            simp only [RelL] at k3
            subst k3
            simpa [k1] using k2
          have hmv := mvd_new (τ' := τ') (Hs := Hs) (Hs' := Hs.set b .gone) (x := .cells C' (List.replicate d.sz .unk)) (v := .pointer (some ⟨n, 0, none⟩)) (t := τ' b) hC (hap b _ hx rfl hgone) (fun i y hy hl he => hd i y b _ hy hl hx rfl he)
            ⟨n, vs, rfl, e2, relL_unk hlen⟩ hd (fun j y hy hl => by
              obtain ⟨g1, g2⟩ := gone_get hy hl
              exact ⟨g1, fun he => g2 (hS.inj _ _ _ _ hx g1 rfl hl he).symm⟩)
          obtain ⟨τ3, β3, us3, us4, k1, f1, f2, f3, f4⟩ := moveD d h2 (conc_Gone hS g1) e3 hmv.conc hmv.disj (fun j x hx hl hg => hap j x (g1.get hx hl) hl hg)
          simp only [RelL] at f2
          subst f2
          rw [List.append_nil] at k1
          subst k1
          have hall := hmv.trans f3
          have hsz := hC.size
          simp only at hsz
          have hlt : H.length < (H ++ [AB.cells C' (List.replicate d.sz .unk)]).length := by simp
          have hb1 : (unpackD d y1 (H ++ [.cells C' (List.replicate d.sz .unk)])).2[H.length]? = some (.cells C' (List.replicate d.sz .unk)) := by
            rw [f3.heap _ hlt, List.getElem?_append_right (Nat.le_refl _), Nat.sub_self]
            rfl
          have hb2 : β3[H.length]? = some (.pointer (some ⟨n, 0, none⟩)) := by
            obtain ⟨s, rfl⟩ := f3.more
            rw [List.append_assoc, List.getElem?_append_right (by omega), hsz, Nat.sub_self]
            rfl
          have hb3 : τ3 H.length = τ' b := by
            rw [f3.tags _ hlt]; simp [updT]
          refine ⟨τ3, β3, [_], us, rfl, rfl, hr, ⟨conc_refine hall.conc hb1 hb2 (by rw [hb3]; exact e2) f4, hall.more, hall.tags, fun i hi => ?_, by simp only [unpackD, List.length_set]; exact hall.long, ?_⟩, ?_⟩
          · simp only [unpackD]
            rw [List.getElem?_set, if_neg (fun h => by omega)]
            exact hall.heap i hi
          · intro i x j z hx' hl' hz hk
            simp only [unpackD] at hx'
            rw [List.getElem?_set] at hx'
            by_cases hi : H.length = i
            · subst hi
              exact hall.disj _ _ j z hb1 rfl hz hk
            · rw [if_neg hi] at hx'
              exact hall.disj i x j z hx' hl' hz hk
          · simp only [unpackD, RelL, Rel]
            exact ⟨_, [], rfl, ⟨n, hb2, rfl⟩, rfl⟩
        · cases h
      · cases h
    · cases h
end
end Go.Am
