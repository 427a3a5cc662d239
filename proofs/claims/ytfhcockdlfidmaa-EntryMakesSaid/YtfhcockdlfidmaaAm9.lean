/- The abstract machine, part 9: code, loops. No statement of its own. -/
import Derived.Test.YtfhcockdlfidmaaAm8
namespace Go.Am
open Go.Vk Go.RowKit
set_option linter.unusedVariables false
set_option linter.unusedSimpArgs false
variable [Dr]

/-- the slots that code sets -/
def asgC : Code → List Tmp
  | .region _ ops _ => dsts ops.toList ops.toList
  | .seq x y => asgC x ++ asgC y
  | .cond c x y => (match c with | .tmp t => [t] | _ => []) ++ (asgC x ++ asgC y)
  | .block _ x => asgC x
  | .loop x => asgC x
  | .scope x => asgC x
  | _ => []
def firstReg : Code → Nat
  | .region id _ _ => id
  | .seq x _ => firstReg x
  | .cond _ x _ => firstReg x
  | .block _ x => firstReg x
  | .loop x => firstReg x
  | .scope x => firstReg x
  | _ => 0

/-- How a loop is left. -/
inductive XK where
  | exit (id : Nat)
  | ret
  | norm
def XK.out : XK → Exit
  | .exit id => .exit id
  | .ret => .ret
  | .norm => .normal
def XK.is : XK → Exit → Bool
  | .exit id, .exit id' => Nat.beq id id'
  | .ret, .ret => true
  | .norm, .normal => true
  | _, _ => false
omit [Dr] in
theorem XK.is_out {x : XK} {e : Exit} (h : x.is e = true) : e = x.out := by
  cases x <;> cases e <;> simp only [XK.is] at h <;> try (cases h; done)
  · rw [Nat.eq_of_beq_eq_true h]; rfl
  · rfl
  · rfl
@[reducible] def ExDen : List (XK × List Car) → Type
  | [] => Empty
  | [x] => CarsDen x.2
  | x :: y :: l => CarsDen x.2 ⊕ ExDen (y :: l)
def packE : (es : List (XK × List Car)) → Exit → List AV → List AB → Option (ExDen es)
  | [], _, _, _ => none
  | [x], e, tm, H => match x.1.is e with
    | true => packC x.2 tm H
    | false => none
  | x :: y :: l, e, tm, H => match x.1.is e with
    | true => match packC x.2 tm H with
      | some z => some (.inl z)
      | none => none
    | false => match packE (y :: l) e tm H with
      | some z => some (.inr z)
      | none => none
def elimE : (es : List (XK × List Car)) → (X : Type) → ExDen es → List AV × List AB → (Exit → List AV → List AB → Option X) → Option X
  | [], _, b, _, _ => nomatch b
  | [x], X, b, s, k => k x.1.out (unpackC x.2 b s).1 (unpackC x.2 b s).2
  | x :: y :: l, X, b, s, k => match b with
    | .inl z => k x.1.out (unpackC x.2 z s).1 (unpackC x.2 z s).2
    | .inr z => elimE (y :: l) X z s k
/-- What is said of a piece of code: what it is (0: a loop, 1: a cond, 2: a block, 3: a region), its number (of a loop: the first region in it; of a cond: its slot; of a block: its own), what is carried, how it is left; un: so often it is gone round at most, each round for itself (0: it is a loop indeed). -/
structure LAnn where
  kind : Nat
  id : Nat
  cs : List Car
  es : List (XK × List Car)
  un : Nat
def findA (kind id : Nat) : List LAnn → Option LAnn
  | [] => none
  | x :: l => match Nat.beq x.kind kind && Nat.beq x.id id with
    | true => some x
    | false => findA kind id l

def killT : List Tmp → List AV → List AV
  | [], tm => tm
  | t :: l, tm => killT l (tm.set t .unk)
def usedC (tm : List AV) (H : List AB) : List Car → List Nat
  | [] => []
  | .row t _ _ :: l => match tm[t]? with
    | some (.row r) => r :: usedC tm H l
    | _ => usedC tm H l
  | .blk b _ _ :: l => b :: usedC tm H l
  | .rw b _ _ :: l => b :: usedC tm H l
  | .mp b _ :: l => b :: usedC tm H l
  | .opn b _ _ :: l => b :: usedC tm H l
  | .cl b _ _ :: l => b :: usedC tm H l
  | .crow b off _ _ :: l => b :: match look H b with
    | some (.cells _ cs) => match cs[off]? with
      | some (.row r) => r :: usedC tm H l
      | _ => usedC tm H l
    | _ => usedC tm H l
  | _ :: l => usedC tm H l
def unlocked (H : List AB) (b : Nat) : Bool :=
  match H[b]? with
  | some (.lock _) => false
  | some _ => true
  | none => false
def isIn (n : Nat) : List Nat → Bool
  | [] => false
  | x :: l => Nat.beq x n || isIn n l
def goneI (us : List Nat) : Nat → List AB → List AB
  | _, [] => []
  | i, x :: l => (match isIn i us with | true => .gone | false => x) :: goneI us (i + 1) l
def lockI (us : List Nat) : Nat → List AB → List AB
  | _, [] => []
  | i, x :: l => (match isIn i us with | true => x | false => .lock x) :: lockI us (i + 1) l
def carOk (n : Nat) (H : List AB) (ds : List Tmp) : Car → Bool
  | .sl t _ _ => isIn t ds
  | .row t _ _ => isIn t ds
  | .blk b _ _ => Nat.blt b n && unlocked H b
  | .rw b _ _ => Nat.blt b n && unlocked H b
  | .mp b _ => Nat.blt b n && unlocked H b
  | .opn b _ _ => Nat.blt b n && unlocked H b
  | .cl b _ _ => Nat.blt b n && unlocked H b
  | .crow b _ _ _ => Nat.blt b n && unlocked H b

/-- A piece whose ends are joined, if it is said so. -/
def joinW (an : List LAnn) (kind key : Nat) (ds : List Tmp) (tm : List AV) (H : List AB) (X : Type) (k : Exit → List AV → List AB → Option X) (body : (Y : Type) → List AB → (Exit → List AV → List AB → Option Y) → Option Y) : Option X :=
  match findA kind key an with
  | none => body X H k
  | some A => match A.es.all (fun e => e.2.all (carOk H.length H ds)), (usedC tm H A.cs).all (unlocked H) with
    | true, true => (body (ExDen A.es) (lockI (usedC tm H A.cs) 0 H) (packE A.es)).bind fun b => elimE A.es X b (killT ds tm, goneI (usedC tm H A.cs) 0 H) k
    | _, _ => none
/-- Rounds, each for itself. -/
def roundsX {X : Type} (f : List AV → List AB → (Exit → List AV → List AB → Option X) → Option X) : Nat → List AV → List AB → (Exit → List AV → List AB → Option X) → Option X
  | 0, _, _, _ => none
  | n + 1, tm, H, k => f tm H fun e tm H => match e with
    | .normal => roundsX f n tm H k
    | e => k e tm H
def condKey : Operand → Nat
  | .tmp t => t
  | _ => 0

noncomputable def exec (P : Program) (hs : List (Hnd P)) (an : List LAnn) (X : Type) : Code → List AV → List AB → (Exit → List AV → List AB → Option X) → Option X
  | .skip, tm, H, k => k .normal tm H
  | .region id ops draw, tm, H, k => joinW an 3 id (dsts ops.toList ops.toList) tm H X k fun Y H k => match draw with
    | false => regX P hs ops.toList Y ops.toList tm H (k .normal)
    | true => regD P hs ops.toList Y tm H (k .normal)
  | .seq x y, tm, H, k => exec P hs an X x tm H fun e tm H => match e with
    | .normal => exec P hs an X y tm H k
    | e => k e tm H
  | .cond c x y, tm, H, k => joinW an 1 (condKey c) (asgC (.cond c x y)) tm H X k fun Y H k => match c with
    | .tmp t => match tm[t]? with
      | some (.val (.bool b)) => bifA b (exec P hs an Y x (tm.set t (.val (.bool true))) H k) (exec P hs an Y y (tm.set t (.val (.bool false))) H k)
      | _ => none
    | .const (.bool b) => bifA b (exec P hs an Y x tm H k) (exec P hs an Y y tm H k)
    | _ => none
  | .block id x, tm, H, k => joinW an 2 id (asgC x) tm H X k fun Y H k => exec P hs an Y x tm H fun e tm H => match e with
    | .exit id' => match Nat.beq id' id with
      | true => k .normal tm H
      | false => k (.exit id') tm H
    | e => k e tm H
  | .exit id, tm, H, k => k (.exit id) tm H
  | .goto l, tm, H, k => k (.goto l) tm H
  | .ret, tm, H, k => k .ret tm H
  | .loop x, tm, H, k => match findA 0 (firstReg x) an with
    | none => none
    | some A => match A.un with
      | n + 1 => roundsX (exec P hs an X x) (n + 1) tm H k
      | 0 =>
        let us := usedC tm H A.cs
        match A.cs.all (carOk H.length H (asgC x)), A.es.all (fun e => e.2.all (carOk H.length H (asgC x))), us.all (unlocked H) with
        | true, true, true => match packC A.cs tm (lockI us 0 H) with
          | none => none
          | some s0 =>
            (loopO (fun s => exec P hs an (CarsDen A.cs ⊕ ExDen A.es) x (unpackC A.cs s (killT (asgC x) tm, (goneI us 0 H).map .lock)).1 (unpackC A.cs s (killT (asgC x) tm, (goneI us 0 H).map .lock)).2
              fun e tm' H' => match e with
                | .normal => match packC A.cs tm' H' with
                  | some s' => some (.inl s')
                  | none => none
                | e => match packE A.es e tm' H' with
                  | some b => some (.inr b)
                  | none => none) s0).bind fun b => elimE A.es X b (killT (asgC x) tm, goneI us 0 H) k
        | _, _, _ => none
  | _, _, _, _ => none

section
variable {P : Program} {E : Env} {σ σ1 : Gh} {τ τ' : Nat → Nat} {w w1 : World} {β β' : List Value} {tm : List AV} {H : List AB} {a : Act}
omit [Dr] in
theorem isIn_mem {n : Nat} : ∀ {l : List Nat}, isIn n l = true ↔ n ∈ l
  | [] => by simp [isIn]
  | x :: l => by
    simp only [isIn, Bool.or_eq_true, List.mem_cons, isIn_mem (l := l)]
    constructor
    · rintro (h | h)
      · exact .inl (Nat.eq_of_beq_eq_true h).symm
      · exact .inr h
    · rintro (rfl | h)
      · exact .inl (by simp)
      · exact .inr h
omit [Dr] in
theorem goneI_len (us : List Nat) : ∀ (l : List AB) (i : Nat), (goneI us i l).length = l.length
  | [], i => rfl
  | x :: l, i => by simp [goneI, goneI_len us l]
omit [Dr] in
theorem lockI_len (us : List Nat) : ∀ (l : List AB) (i : Nat), (lockI us i l).length = l.length
  | [], i => rfl
  | x :: l, i => by simp [lockI, lockI_len us l]
omit [Dr] in
theorem goneI_get (us : List Nat) : ∀ (l : List AB) (i j : Nat), (goneI us i l)[j]? = (l[j]?).map (fun x => if (i + j) ∈ us then .gone else x)
  | [], i, j => by simp [goneI]
  | x :: l, i, 0 => by
    simp only [goneI, List.getElem?_cons_zero, Option.map_some, Nat.add_zero, Option.some.injEq]
    by_cases h : i ∈ us
    · rw [isIn_mem.2 h]; simp [h]
    · have : isIn i us = false := by
        cases hb : isIn i us with
        | false => rfl
        | true => exact absurd (isIn_mem.1 hb) h
      rw [this]; simp [h]
  | x :: l, i, j + 1 => by
    simp only [goneI, List.getElem?_cons_succ]
    rw [goneI_get us l (i + 1) j]
    congr 1
    funext y
    rw [show i + 1 + j = i + (j + 1) by omega]
omit [Dr] in
theorem lockI_get (us : List Nat) : ∀ (l : List AB) (i j : Nat), (lockI us i l)[j]? = (l[j]?).map (fun x => if (i + j) ∈ us then x else .lock x)
  | [], i, j => by simp [lockI]
  | x :: l, i, 0 => by
    simp only [lockI, List.getElem?_cons_zero, Option.map_some, Nat.add_zero, Option.some.injEq]
    by_cases h : i ∈ us
    · rw [isIn_mem.2 h]; simp [h]
    · have : isIn i us = false := by
        cases hb : isIn i us with
        | false => rfl
        | true => exact absurd (isIn_mem.1 hb) h
      rw [this]; simp [h]
  | x :: l, i, j + 1 => by
    simp only [lockI, List.getElem?_cons_succ]
    rw [lockI_get us l (i + 1) j]
    congr 1
    funext y
    rw [show i + 1 + j = i + (j + 1) by omega]
omit [Dr] in
theorem killT_len : ∀ (ks : List Tmp) (tm : List AV), (killT ks tm).length = tm.length
  | [], tm => rfl
  | t :: l, tm => by simp only [killT]; rw [killT_len l]; simp
omit [Dr] in
theorem killT_get : ∀ (ks : List Tmp) (tm : List AV) (t : Nat) (x : AV), (killT ks tm)[t]? = some x → x = .unk ∨ (tm[t]? = some x ∧ t ∉ ks)
  | [], tm, t, x, h => .inr ⟨h, by simp⟩
  | s :: l, tm, t, x, h => by
    simp only [killT] at h
    rcases killT_get l _ t x h with h1 | ⟨h1, h2⟩
    · exact .inl h1
    · rw [List.getElem?_set] at h1
      by_cases hst : s = t
      · rw [if_pos hst] at h1
        split at h1
        · exact .inl (Option.some.inj h1).symm
        · cases h1
      · rw [if_neg hst] at h1
        exact .inr ⟨h1, by simp only [List.mem_cons, not_or]; exact ⟨fun h => hst h.symm, h2⟩⟩

omit [Dr] in
theorem killT_other : ∀ (ks : List Tmp) (tm : List AV) (t : Nat), t ∉ ks → (killT ks tm)[t]? = tm[t]?
  | [], tm, t, _ => rfl
  | s :: l, tm, t, h => by
    simp only [List.mem_cons, not_or] at h
    simp only [killT]
    rw [killT_other l _ t h.2, List.getElem?_set, if_neg (fun e => h.1 e.symm)]
/-- A round's end, or a loop's: what is made of the state there. -/
theorem mid_of {β0 s : List Value} {tm1 : List AV} {H1 : List AB} (hC : Conc E σ τ (β0 ++ s) ⟨tm, H⟩ a w) (hl : tm1.length = tm.length) (hH : H1.length = β0.length)
    (ht : ∀ (t : Nat) x, tm1[t]? = some x → x = .unk ∨ (tm[t]? = some x ∧ x.under β0.length))
    (hh : ∀ (i : Nat) x, H1[i]? = some x → x.live = false ∨ (x.under β0.length ∧ ∃ z, H[i]? = some (.lock z) ∧ (x = .lock z ∨ x = z))) :
    Mid E E σ w a τ β0 tm1 H1 τ (β0 ++ s) tm H β0.length := by
  have hb : Conc E σ τ β0 ⟨tm1, H1⟩ a w := conc_less hC hl hH ht (fun i x hx => by
    rcases hh i x hx with h | ⟨h1, z, h2, h3⟩
    · exact .inl h
    · exact .inr ⟨h1, _, h2, by rcases h3 with rfl | rfl <;> simp⟩)
  refine ⟨hb, fun _ h => h, hC, fun i x j y hx hlx hy hly hnl he => ?_, fun i hi => ⟨rfl, (List.getElem?_append_left hi).symm⟩, fun i x hi hx hlx y hy hly => ?_, by omega⟩
  · rcases hh i x hx with h | ⟨h1, z, h2, h3⟩
    · rw [hlx] at h; cases h
    · have hlz : (AB.lock z).live = true := by rcases h3 with rfl | rfl <;> exact hlx
      have := hC.inj i j _ y h2 hy hlz hly he
      subst this
      rw [h2] at hy
      exact hnl z (Option.some.inj hy).symm
  · rcases hh i x hx with h | ⟨h1, z, h2, h3⟩
    · rw [hlx] at h; cases h
    · rw [h2] at hy
      exact ⟨z, (Option.some.inj hy).symm⟩
/-- A loop's start. -/
theorem mid_in {us : List Nat} {tm1 : List AV} (hC : Conc E σ τ β ⟨tm, H⟩ a w) (hl : tm1.length = tm.length) (ht : ∀ (t : Nat) x, tm1[t]? = some x → x = .unk ∨ tm[t]? = some x) :
    Mid E E σ w a τ β tm1 ((goneI us 0 H).map .lock) τ β tm (lockI us 0 H) β.length := by
  have hC' : Conc E σ τ (β ++ []) ⟨tm, H⟩ a w := by rw [List.append_nil]; exact hC
  have hsz := hC.size
  simp only at hsz
  have hu : ∀ (i : Nat) x, H[i]? = some x → x.under β.length := fun i x hx => by
    obtain ⟨v, hv⟩ : ∃ v, β[i]? = some v := ⟨_, List.getElem?_eq_getElem (by rw [hsz]; exact (List.getElem?_eq_some_iff.1 hx).1)⟩
    exact (hC.heap i x v hx hv).under
  have hut : ∀ (t : Nat) x, tm[t]? = some x → x.under β.length := fun t x hx => underL_get (RelL.under hC.tmps) hx
  have hg : ∀ (i : Nat) x, ((goneI us 0 H).map AB.lock)[i]? = some x → x.live = false ∨ (i ∉ us ∧ ∃ y, H[i]? = some y ∧ x = .lock y) := by
    intro i x hx
    rw [List.getElem?_map, goneI_get, Nat.zero_add] at hx
    cases hy : H[i]? with
    | none => rw [hy] at hx; simp at hx
    | some y =>
      rw [hy] at hx
      simp only [Option.map_some, Option.some.injEq] at hx
      by_cases hi : i ∈ us
      · rw [if_pos hi] at hx; subst hx; exact .inl rfl
      · rw [if_neg hi] at hx; exact .inr ⟨hi, y, rfl, hx.symm⟩
  have hk : ∀ (i : Nat) x, (lockI us 0 H)[i]? = some x → ∃ y, H[i]? = some y ∧ ((i ∈ us ∧ x = y) ∨ (i ∉ us ∧ x = .lock y)) := by
    intro i x hx
    rw [lockI_get, Nat.zero_add] at hx
    cases hy : H[i]? with
    | none => rw [hy] at hx; simp at hx
    | some y =>
      rw [hy] at hx
      simp only [Option.map_some, Option.some.injEq] at hx
      by_cases hi : i ∈ us
      · rw [if_pos hi] at hx; exact ⟨y, rfl, .inl ⟨hi, hx.symm⟩⟩
      · rw [if_neg hi] at hx; exact ⟨y, rfl, .inr ⟨hi, hx.symm⟩⟩
  have h1 : Conc E σ τ β ⟨tm1, (goneI us 0 H).map .lock⟩ a w := conc_less hC' hl (by simp [goneI_len, hsz])
    (fun t x hx => (ht t x hx).imp id (fun h => ⟨h, hut t x h⟩)) (fun i x hx => (hg i x hx).imp id (fun ⟨_, y, h2, h3⟩ => ⟨by rw [h3]; exact hu i y h2, y, h2, .inr (.inr h3)⟩))
  have h2 : Conc E σ τ β ⟨tm, lockI us 0 H⟩ a w := conc_less hC' rfl (by simp [lockI_len, hsz])
    (fun t x hx => .inr ⟨hx, hut t x hx⟩) (fun i x hx => by
      obtain ⟨y, h3, h4⟩ := hk i x hx
      rcases h4 with ⟨_, rfl⟩ | ⟨_, rfl⟩
      · exact .inr ⟨hu i _ h3, _, h3, .inl rfl⟩
      · exact .inr ⟨show y.under β.length from hu i y h3, y, h3, .inr (.inr rfl)⟩)
  refine ⟨h1, fun _ h => h, h2, fun i x j y hx hlx hy hly hnl he => ?_, fun i hi => ⟨rfl, rfl⟩, fun i x hi hx hlx y hy hly => ?_, by simp [goneI_len, hsz]⟩
  · rcases hg i x hx with h | ⟨hi, z, h3, rfl⟩
    · rw [hlx] at h; cases h
    · obtain ⟨u, h4, h5⟩ := hk j y hy
      rcases h5 with ⟨hj, rfl⟩ | ⟨hj, rfl⟩
      · have := hC.inj i j z _ h3 h4 hlx hly he
        subst this
        exact hi hj
      · exact hnl _ rfl
  · rcases hg i x hx with h | ⟨hi', z, h3, rfl⟩
    · rw [hlx] at h; cases h
    · obtain ⟨u, h4, h5⟩ := hk i y hy
      rcases h5 with ⟨hj, rfl⟩ | ⟨hj, rfl⟩
      · exact absurd hj hi'
      · exact ⟨_, rfl⟩
end
end Go.Am
