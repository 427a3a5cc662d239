/- The abstract machine, part 5: typed rows: written out, appended to, cut. No statement of its own. -/
import Derived.Test.YtfhcockdlfidmaaAm4
namespace Go.Am
open Go.Vk Go.RowKit
set_option linter.unusedVariables false
set_option linter.unusedSimpArgs false
variable [Dr]

/-! ### types -/
def kindEq (k k' : IntKind) : Option (PLift (k = k')) := if h : k = k' then some ⟨h⟩ else none
def natEq (k k' : Nat) : Option (PLift (k = k')) := if h : k = k' then some ⟨h⟩ else none
def tyEq : (a b : Ty) → Option (PLift (a = b))
  | .int k, .int k' => match kindEq k k' with
    | some ⟨h⟩ => some ⟨by rw [h]⟩
    | none => none
  | .bool, .bool => some ⟨rfl⟩
  | .str, .str => some ⟨rfl⟩
  | .slice a, .slice b => match tyEq a b with
    | some ⟨h⟩ => some ⟨by rw [h]⟩
    | none => none
  | .pair a b, .pair c d => match tyEq a c, tyEq b d with
    | some ⟨h⟩, some ⟨k⟩ => some ⟨by rw [h, k]⟩
    | _, _ => none
  | .arr k n, .arr k' n' => match kindEq k k', natEq n n' with
    | some ⟨h⟩, some ⟨k⟩ => some ⟨by rw [h, k]⟩
    | _, _ => none
  | _, _ => none
def castL {a b : Ty} (h : a = b) (xs : List a.Den) : List b.Den := h ▸ xs
def structTy (f : TypeId → Option Ty) : List Field → Option Ty
  | [] => none
  | [x] => f x.type
  | x :: y :: r => match f x.type, structTy f (y :: r) with
    | some a, some b => some (.pair a b)
    | _, _ => none
def tyOf (P : Program) : Nat → TypeId → Option Ty
  | 0, _ => none
  | n + 1, t => match P.underlying t with
    | some (.int k) => some (.int k)
    | some .bool => some .bool
    | some .string => some .str
    | some (.slice e) => (tyOf P n e).map .slice
    | some (.struct fs) => structTy (tyOf P n) fs.toList
    | some (.array m e) => match P.underlying e with
      | some (.int k) => some (.arr k m)
      | _ => none
    | _ => none

/-! ### cells to typed values -/
def decInts (k : IntKind) : Nat → List AV → Option (List Int × List AV)
  | 0, l => some ([], l)
  | n + 1, .val (.int k' x) :: l => match kindEq k' k, decInts k n l with
    | some _, some (xs, r) => some (x :: xs, r)
    | _, _ => none
  | _, _ => none
def decSl (T : Ty) : AV → Option (List T.Den)
  | .val (.slice none 0 0) => some []
  | .sv true T' xs => match tyEq T' T with
    | some ⟨h⟩ => some (castL h xs)
    | none => none
  | _ => none
def dec : (T : Ty) → List AV → Option (T.Den × List AV)
  | .int k, .val (.int k' x) :: l => match kindEq k' k with
    | some _ => some (x, l)
    | none => none
  | .bool, .val (.bool x) :: l => some (x, l)
  | .str, .val (.string x) :: l => some (x, l)
  | .slice T, y :: l => match decSl T y with
    | some xs => some (xs, l)
    | none => none
  | .pair a b, l => match dec a l with
    | some (x, l1) => match dec b l1 with
      | some (y, l2) => some ((x, y), l2)
      | none => none
    | none => none
  | .arr k n, l => decInts k n l
  | _, _ => none
def decN (T : Ty) : Nat → List AV → Option (List T.Den × List AV)
  | 0, l => some ([], l)
  | n + 1, l => match dec T l with
    | some (x, l1) => match decN T n l1 with
      | some (xs, r) => some (x :: xs, r)
      | none => none
    | none => none

section
variable {P : Program} {E : Env} {σ σ1 : Gh} {τ : Nat → Nat} {w w1 : World} {β : List Value} {tm : List AV} {H : List AB} {a : Act} {o : Oper}
theorem decInts_rel {k : IntKind} : ∀ {n : Nat} {l r : List AV} {xs : List Int} {us : List Value}, decInts k n l = some (xs, r) → RelL E σ w β l us → ∃ c d, us = c ++ d ∧ c = xs.map (.int k) ∧ xs.length = n ∧ RelL E σ w β r d
  | 0, l, r, xs, us, h, hr => by
    simp only [decInts, Option.some.injEq, Prod.mk.injEq] at h
    obtain ⟨rfl, rfl⟩ := h
    exact ⟨[], us, rfl, rfl, rfl, hr⟩
  | n + 1, [], r, xs, us, h, hr => by simp [decInts] at h
  | n + 1, x :: l, r, xs, us, h, hr => by
    simp only [RelL] at hr
    obtain ⟨v, u, rfl, h2, h3⟩ := hr
    unfold decInts at h
    split at h
    · rename_i heq; cases heq
    · rename_i n' k' y l' he1 he2
      injection he1 with he1
      subst he1
      injection he2 with he3 he4
      subst he3 he4
      split at h
      · rename_i pk ys r' hk hd
        obtain ⟨hkk⟩ := pk
        simp only [Option.some.injEq, Prod.mk.injEq] at h
        obtain ⟨rfl, rfl⟩ := h
        obtain ⟨c, d, e1, e2, e3, e4⟩ := decInts_rel hd h3
        simp only [Rel] at h2
        subst hkk
        exact ⟨v :: c, d, by rw [e1]; rfl, by rw [h2, e2]; rfl, by simp [e3], e4⟩
      · cases h
    · cases h
theorem rd_cast {a b : Ty} (h : a = b) {t : Nat} {A : Option Addr} {xs : List a.Den} (hr : Rd a.kd σ t w A xs) : Rd b.kd σ t w A (castL h xs) := by subst h; exact hr
omit [Dr] in
theorem castL_len {a b : Ty} (h : a = b) (xs : List a.Den) : (castL h xs).length = xs.length := by subst h; rfl
theorem decSl_rel {T : Ty} {y : AV} {xs : List T.Den} {u : Value} (h : decSl T y = some xs) (hr : Rel E σ w β y u) : ∃ A c t, u = .slice A xs.length c ∧ xs.length ≤ c ∧ t = 0 ∧ Rd T.kd σ t w A xs := by
  unfold decSl at h
  split at h
  · simp only [Option.some.injEq] at h
    subst h
    simp only [Rel] at hr
    exact ⟨none, 0, 0, hr, Nat.le_refl _, rfl, Rd.nil⟩
  · rename_i T' ys
    split at h
    · rename_i hkk _
      simp only [Option.some.injEq] at h
      subst h
      simp only [Rel] at hr
      obtain ⟨A, c, t, e1, e2, e3, e4, e5⟩ := hr
      subst hkk
      exact ⟨A, c, t, e1, e2, e4 trivial, e5⟩
    · cases h
  · cases h
theorem dec_rel : ∀ (T : Ty) {l r : List AV} {x : T.Den} {us : List Value}, dec T l = some (x, r) → RelL E σ w β l us → ∃ c d, us = c ++ d ∧ repTy T σ w x c ∧ RelL E σ w β r d
  | .int k, l, r, x, us, h, hr => by
    cases l with
    | nil => simp [dec] at h
    | cons y l =>
      simp only [RelL] at hr
      obtain ⟨v, u, rfl, h2, h3⟩ := hr
      cases y <;> try (simp [dec] at h; done)
      rename_i vv
      cases vv <;> try (simp [dec] at h; done)
      rename_i k' n
      simp only [dec] at h
      split at h
      · rename_i pk _
        obtain ⟨hkk⟩ := pk
        simp only [Option.some.injEq, Prod.mk.injEq] at h
        obtain ⟨rfl, rfl⟩ := h
        simp only [Rel] at h2
        subst hkk
        exact ⟨[v], u, rfl, by rw [h2]; rfl, h3⟩
      · cases h
  | .bool, l, r, x, us, h, hr => by
    cases l with
    | nil => simp [dec] at h
    | cons y l =>
      simp only [RelL] at hr
      obtain ⟨v, u, rfl, h2, h3⟩ := hr
      cases y <;> try (simp [dec] at h; done)
      rename_i vv
      cases vv <;> try (simp [dec] at h; done)
      simp only [dec, Option.some.injEq, Prod.mk.injEq] at h
      obtain ⟨rfl, rfl⟩ := h
      simp only [Rel] at h2
      exact ⟨[v], u, rfl, by rw [h2]; rfl, h3⟩
  | .str, l, r, x, us, h, hr => by
    cases l with
    | nil => simp [dec] at h
    | cons y l =>
      simp only [RelL] at hr
      obtain ⟨v, u, rfl, h2, h3⟩ := hr
      cases y <;> try (simp [dec] at h; done)
      rename_i vv
      cases vv <;> try (simp [dec] at h; done)
      simp only [dec, Option.some.injEq, Prod.mk.injEq] at h
      obtain ⟨rfl, rfl⟩ := h
      simp only [Rel] at h2
      exact ⟨[v], u, rfl, by rw [h2]; rfl, h3⟩
  | .slice T, l, r, x, us, h, hr => by
    cases l with
    | nil => simp [dec] at h
    | cons y l =>
      simp only [RelL] at hr
      obtain ⟨v, u, rfl, h2, h3⟩ := hr
      simp only [dec] at h
      split at h
      · rename_i xs hd
        simp only [Option.some.injEq, Prod.mk.injEq] at h
        obtain ⟨rfl, rfl⟩ := h
        obtain ⟨A, c, t, e1, e2, e3, e4⟩ := decSl_rel hd h2
        subst e3
        exact ⟨[v], u, rfl, ⟨A, c, by rw [e1], e2, e4⟩, h3⟩
      · cases h
  | .pair p q, l, r, x, us, h, hr => by
    simp only [dec] at h
    split at h
    · rename_i x1 l1 h1
      split at h
      · rename_i y l2 h2
        simp only [Option.some.injEq, Prod.mk.injEq] at h
        obtain ⟨rfl, rfl⟩ := h
        obtain ⟨c, d, rfl, e2, e3⟩ := dec_rel p h1 hr
        obtain ⟨c', d', rfl, e5, e6⟩ := dec_rel q h2 e3
        exact ⟨c ++ c', d', by rw [List.append_assoc], ⟨c, c', rfl, e2, e5⟩, e6⟩
      · cases h
    · cases h
  | .arr k n, l, r, x, us, h, hr => by
    simp only [dec] at h
    obtain ⟨c, d, e1, e2, e3, e4⟩ := decInts_rel h hr
    exact ⟨c, d, e1, ⟨e2, e3⟩, e4⟩
theorem decN_rel {T : Ty} : ∀ {n : Nat} {l r : List AV} {xs : List T.Den} {us : List Value}, decN T n l = some (xs, r) → RelL E σ w β l us → ∃ c d, us = c ++ d ∧ Reps T.kd σ w xs c ∧ xs.length = n ∧ RelL E σ w β r d
  | 0, l, r, xs, us, h, hr => by
    simp only [decN, Option.some.injEq, Prod.mk.injEq] at h
    obtain ⟨rfl, rfl⟩ := h
    exact ⟨[], us, rfl, rfl, rfl, hr⟩
  | n + 1, l, r, xs, us, h, hr => by
    simp only [decN] at h
    split at h
    · rename_i x l1 h1
      split at h
      · rename_i ys r' h2
        simp only [Option.some.injEq, Prod.mk.injEq] at h
        obtain ⟨rfl, rfl⟩ := h
        obtain ⟨c, d, rfl, e2, e3⟩ := dec_rel T h1 hr
        obtain ⟨c', d', rfl, e5, e6, e7⟩ := decN_rel h2 e3
        exact ⟨c ++ c', d', by rw [List.append_assoc], ⟨c, c', rfl, e2, e5⟩, by simp [e6], e7⟩
      · cases h
    · cases h

/-! ### a row of its own, new -/
theorem conc_row {T : Ty} {e : TypeId} {v : Value} {xs : List T.Den} {t : Nat} (hC : Conc E σ τ β ⟨tm, H⟩ a w) (hev : EvT (fun t' => t' = t) σ w σ1 w1) (hP : ¬ E.Kp t) (ht : ∀ (i : Nat) (y : AB), H[i]? = some y → y.live = true → τ i ≠ t) (ho : Own T.kd e σ1 t w1 v xs) :
    Conc E σ1 (updT τ H.length t) (β ++ [v]) ⟨tm, H ++ [.row T e xs]⟩ a w1 ∧ Rel E σ1 w1 (β ++ [v]) (.row H.length) v := by
  have hsz := hC.size
  simp only at hsz
  have hone : v.oneCell' = true := by
    obtain ⟨A, c, rfl, _⟩ := ho.rd
    rfl
  refine ⟨conc_new hC hev hP ht ho, ?_⟩
  simp only [Rel]
  refine ⟨?_, hone⟩
  rw [List.getElem?_append_right (by omega), hsz, Nat.sub_self]
  rfl

/-- A row that is written out. -/
def rowX (P : Program) (tm : List AV) (H : List AB) (t : TypeId) (n : Nat) (parts : List (Nat × Operand)) : Option (List AB) :=
  match P.underlying t with
  | some (.slice e) => match P.info? e, tyOf P 20 e with
    | some ie, some T => match ie.zero, Nat.ble (n * ie.size) 65536, Nat.beq (n * ie.size) 0, Nat.ble n 65536 with
      | some z, true, false, true => match partsX tm parts with
        | some ps => match fillA (fun i => some (i * ie.size, ie.size)) (((Array.range (n * ie.size)).map (z.cells[· % z.cells.size]!)).toList.map .val) ps with
          | some cs => match decN T n cs with
            | some (xs, []) => some (H ++ [.row T e xs])
            | _ => none
          | none => none
        | none => none
      | _, _, _, _ => none
    | _, _ => none
  | _ => none
theorem row_sound {t : TypeId} {n : Nat} {parts : Array (Nat × Operand)} {H' : List AB} (hC : Conc E σ τ β ⟨tm, H⟩ a w) (ho : o.op = .buildSlice t n parts) (h : rowX P tm H t n parts.toList = some H') : OpOut P E σ β tm a w o H' (.row H.length) := by
  unfold rowX at h
  split at h
  · rename_i e hu
    split at h
    · rename_i ie T hie hT
      split at h
      · rename_i z hz hle hne hn
        split at h
        · rename_i ps hps
          split at h
          · rename_i cs hf
            split at h
            · rename_i xs hd
              simp only [Option.some.injEq] at h
              subst h
              have hle := Nat.le_of_ble_eq_true hle
              have hn := Nat.le_of_ble_eq_true hn
              have hne := Nat.ne_of_beq_eq_false hne
              obtain ⟨rs, e1, e2⟩ := fillA_rel (partsX_rel hC hps) (relL_vals (E := E) (σ := σ) (w := w) (β := β) ((Array.range (n * ie.size)).map (z.cells[· % z.cells.size]!)).toList) hf
              obtain ⟨c, d, e3, e4, e5, e6⟩ := decN_rel hd e2
              simp only [RelL] at e6
              subst e6
              rw [List.append_nil] at e3
              have hrun := run_buildSlice (P := P) w t e n (parts.map fun (i, x) => (i, a.eval x)) rs ie z hu hie hz (by omega) hne (by rw [Array.toList_map]; exact e1)
              obtain ⟨t0, hP, ht⟩ := conc_fresh hC
              have hev1 : Ev 1 1 σ w (upd σ w.heap.size t0) { w with heap := w.heap.push (.cells rs e) } := ev_alloc σ w _ _ 1 1
              have hev : EvT (fun t => t = t0) σ w (upd σ w.heap.size t0) { w with heap := w.heap.push (.cells rs e) } := EvT.of hev1 (fun t h1 h2 => by omega)
              have hown := own_blk (blk_alloc σ w rs e t0) e5 (by omega) (by rw [e3]; exact e4.ev hev1 (Nat.le_refl 1))
              obtain ⟨q1, q2⟩ := conc_row hC hev hP ht hown
              refine OpGives.val _ ?_ ⟨_, _, ⟨_, rfl⟩, hev.mono (fun t h hp => hP (h ▸ hp)), q1, q2⟩
              simp only [execOp, ho, Sem.run_bind, hrun, Result.andThen_ok, World.alloc]
              rfl
            · cases h
          · cases h
        · cases h
      · cases h
    · cases h
  · cases h
/-- An empty one. -/
def row0X (P : Program) (H : List AB) (t : TypeId) (n : Nat) (parts : List (Nat × Operand)) : Option (List AB) :=
  match P.underlying t with
  | some (.slice e) => match P.info? e, tyOf P 20 e, n, parts with
    | some ie, some T, 0, [] => some (H ++ [.row T e []])
    | _, _, _, _ => none
  | _ => none
theorem row0_sound {t : TypeId} {n : Nat} {parts : Array (Nat × Operand)} {H' : List AB} (hC : Conc E σ τ β ⟨tm, H⟩ a w) (ho : o.op = .buildSlice t n parts) (h : row0X P H t n parts.toList = some H') : OpOut P E σ β tm a w o H' (.row H.length) := by
  unfold row0X at h
  split at h
  · rename_i e hu
    split at h
    · rename_i ie T hie hT hps
      simp only [Option.some.injEq] at h
      subst h
      obtain ⟨t0, hP, ht⟩ := conc_fresh hC
      have hparts : parts = #[] := by cases parts; simp_all
      subst hparts
      have hrun : (Instr.buildSlice t 0 #[]).run P w = .ok (.slice (some ⟨w.heap.size, 0, none⟩) 0 0) { w with heap := w.heap.push (.cells #[] e) } := by
        simp [Instr.buildSlice, run_underlying hu, sizeOf, typeInfo, hie, Instr.fill, newRow, newObj, Sem.run]
        have hz : ∀ f : Nat → Value, Array.map f (Array.range 0) = #[] := fun f => by apply Array.ext' ; simp
        rw [hz]
      have hev1 : Ev 1 1 σ w (upd σ w.heap.size t0) { w with heap := w.heap.push (.cells #[] e) } := ev_alloc σ w _ _ 1 1
      have hev : EvT (fun t => t = t0) σ w (upd σ w.heap.size t0) { w with heap := w.heap.push (.cells #[] e) } := EvT.of hev1 (fun t h1 h2 => by omega)
      have hown := own_blk (K := T.kd) (xs := []) (n := 0) (blk_alloc σ w #[] e t0) rfl (by omega) rfl
      obtain ⟨q1, q2⟩ := conc_row hC hev hP ht hown
      refine OpGives.val _ ?_ ⟨_, _, ⟨_, rfl⟩, hev.mono (fun t h hp => hP (h ▸ hp)), q1, q2⟩
      simp [execOp, ho, hrun]
    · cases h
  · cases h
end
end Go.Am
