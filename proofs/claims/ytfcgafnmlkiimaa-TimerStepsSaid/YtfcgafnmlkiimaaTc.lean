/- Plain laws of the timers: Drop, Due, Next, At, Len, over a sorted list. No statement of its own. -/
import Derived.Test.YtfcgafnmlkiimaaTb
namespace Go.Proofs.Ytfcgafnmlkiimaa.Pure
open Go.Vk Go.Am Go.Pg Go.Hp Go.Proofs.Ytfcgafnmlkiimaa.Y
set_option linter.unusedVariables false
set_option linter.unusedSimpArgs false

theorem drop_l2 (x a0 : Tm) (n : Nat) (h : IntKind.i64.wrap ((x.2.1.length : Int) - 1) = (a0.2.1.length : Int)) : timer_Timers_Drop.l2 x = timer_Timers_Set.l3 a0 := by
  funext s
  unfold timer_Timers_Drop.l2 timer_Timers_Set.l3
  rw [h]
theorem drop_none (x : Tm) (id : Int) (hg : gget KI x.2.2 id = none) : timer_Timers_Drop.f x id = some (x, 7) := by
  unfold timer_Timers_Drop.f
  rw [hg]
  rfl
/-- The last place is taken away. -/
theorem pop_inv {A A' : List It} {ks ks' : List Nat} {M : Gp KI Nat} {k : Nat} {id : Int} (h : Inv (A, (ks, M))) (h2 : Ok A' ks') (h3 : Sm A A') (h4 : ks'.Perm ks) (h5 : Heap ltP (hv A' ks') (ks.length - 1)) (hk : k ∈ ks) (hid : (it A k).1 = id) (hlast : ks'.getD (ks.length - 1) 0 = k) :
    Inv (A', (ks'.take (ks.length - 1), gdel KI M id)) ∧ (els (A', (ks'.take (ks.length - 1), gdel KI M id))).Perm (rm id (els (A, (ks, M)))) := by
  have hpos : 0 < ks.length := List.length_pos_of_mem hk
  have hl := h4.length_eq
  have hsplit : ks' = ks'.take (ks.length - 1) ++ [k] := by
    have e1 := List.take_append_drop (ks.length - 1) ks'
    have e2 : ks'.drop (ks.length - 1) = [k] := by
      rw [List.drop_eq_getElem_cons (by omega)]
      rw [List.getD_eq_getElem?_getD, List.getElem?_eq_getElem (by omega)] at hlast
      simp only [Option.getD_some] at hlast
      rw [hlast, List.drop_of_length_le (by omega)]
    rw [e2] at e1
    exact e1.symm
  generalize hT : ks'.take (ks.length - 1) = T at hsplit ⊢
  have hTl : T.length = ks.length - 1 := by rw [← hT]; simp; omega
  have hp : ks.Perm (T ++ [k]) := by rw [← hsplit]; exact h4.symm
  have hnd : (T ++ [k]).Nodup := hp.nodup_iff.1 h.ok.nd
  have hkT : k ∉ T := fun hm => by
    rw [List.nodup_append] at hnd
    exact hnd.2.2 k hm k (by simp) rfl
  have hget : ∀ i, i < T.length → T.getD i 0 = ks'.getD i 0 := fun i hi => by
    rw [hsplit, List.getD_eq_getElem?_getD, List.getD_eq_getElem?_getD, List.getElem?_append_left hi]
  have hmem : ∀ q, q ∈ T ↔ q ∈ ks ∧ q ≠ k := fun q => by
    rw [hp.mem_iff, List.mem_append, List.mem_singleton]
    constructor
    · intro hq
      exact ⟨.inl hq, fun e => hkT (e ▸ hq)⟩
    · rintro ⟨h1 | h1, h2⟩
      · exact h1
      · exact absurd h1 h2
  have hkm : id ∈ keysG M := by
    refine Classical.byContradiction fun hn => ?_
    have := gget_none.2 hn
    rw [(h.map id k).2 ⟨hk, hid⟩] at this
    cases this
  have hcnt := h.cnt
  simp only at hcnt
  have hg : ∀ q, gget KI (gdel KI M id) q = if q = id then none else gget KI M q := fun q => gget_gdel h.uq
  refine ⟨⟨⟨?_, fun q hq => ?_, fun i hi => ?_, by have := h2.len; simp only; omega⟩, ?_, by have := h.cap; simp only at this ⊢; omega, fun id' q => ?_, ?_, ?_⟩, ?_⟩
  · rw [List.nodup_append] at hnd; exact hnd.1
  · exact h2.lt q (h4.mem_iff.2 ((hmem q).1 hq).1)
  · simp only at hi
    simp only
    rw [hget i hi]
    exact h2.pl i (by omega)
  · simp only
    rw [hTl]
    intro i i0 hi
    have := h5 i i0 hi
    unfold hv at this ⊢
    rw [hget i (by omega), hget _ (by omega)]
    exact this
  · simp only
    rw [hg]
    by_cases e : id' = id
    · subst e
      rw [if_pos rfl]
      constructor
      · intro h; cases h
      · rintro ⟨hq, e2⟩
        obtain ⟨q1, q2⟩ := (hmem q).1 hq
        rw [(it_od (h3.2 q)).1] at e2
        exact absurd (h.one q1 hk (e2.trans hid.symm)) q2
    · rw [if_neg e, h.map id' q]
      simp only
      rw [(it_od (h3.2 q)).1, hmem]
      constructor
      · rintro ⟨q1, q2⟩
        exact ⟨⟨q1, fun e2 => e (by rw [← q2, e2, hid])⟩, q2⟩
      · rintro ⟨⟨q1, _⟩, q2⟩
        exact ⟨q1, q2⟩
  · simp only
    rw [keys_gdel]
    exact h.uq.erase _
  · simp only
    rw [keys_gdel, List.length_erase_of_mem hkm, hcnt, hTl]
  · have e1 : els (A', (T, gdel KI M id)) = T.map (od A) := List.map_congr_left fun q _ => h3.2 q
    rw [e1]
    exact filter_out (g := od A) h.ok.nd hp (fun p : Int × Int => p.2 != id) (fun q hq hqk => by
      simp only [od, bne_iff_ne, ne_eq]
      exact fun e => hqk (h.one hq hk (e.trans hid.symm))) (by simp [od, hid])
theorem drop_ok (x : Tm) (h : Inv x) (id : Int) {k : Nat} (hg : gget KI x.2.2 id = some k) : ∃ x', timer_Timers_Drop.f x id = some (x', 0) ∧ Inv x' ∧ (els x').Perm (rm id (els x)) := by
  obtain ⟨A, ks, M⟩ := x
  obtain ⟨k1, k2, k3, i, k4, k5, k6⟩ := h.at_ hg
  simp only at hg k1 k2 k3 k4 k5 k6
  have hlen := h.ok.len
  have hcap := h.cap
  simp only at hlen hcap
  have hw : IntKind.i64.wrap ((ks.length : Int) - 1) = ((ks.length - 1 : Nat) : Int) := by rw [wr _ (by omega) (by omega)]; omega
  have hpl : (A.getD k (0, (0, 0))).2.2 = (i : Int) := k6
  unfold timer_Timers_Drop.f
  rw [show gget (.int .i64) (A, (ks, M)).2.2 id = some k from hg]
  have hopt : ∀ {X : Type} (f : Nat → Option X) (g : Option X), optS (some k) f g = f k := fun f g => rfl
  rw [hopt]
  simp only [hpl, hw]
  have fin : ∀ (A' : List It) (ks' : List Nat), Ok A' ks' → Sm A A' → ks'.Perm ks → Heap ltP (hv A' ks') (ks.length - 1) → ks'.getD (ks.length - 1) 0 = k →
      ∃ x', (bif (decide (0 ≤ (IntKind.i64.wrap ((ks'.length : Int) - 1))) && decide ((IntKind.i64.wrap ((ks'.length : Int) - 1)) < (ks'.length : Int))) then (bif (decide (0 ≤ (IntKind.i64.wrap ((ks'.length : Int) - 1))) && decide ((IntKind.i64.wrap ((ks'.length : Int) - 1)) ≤ (ks'.length : Int))) then (some ((A', ((ks'.take ((IntKind.i64.wrap ((ks'.length : Int) - 1)) : Int).toNat), (gdel (.int .i64) M id))), (0 : Int))) else none) else none : Option (Tm × Int)) = some (x', 0) ∧ Inv x' ∧ (els x').Perm (rm id (els (A, (ks, M)))) := by
    intro A' ks' h2 h3 h4 h5 h6
    obtain ⟨g1, g2⟩ := pop_inv h h2 h3 h4 h5 k1 k2 h6
    have e1 : (decide (0 ≤ ((ks.length - 1 : Nat) : Int)) && decide (((ks.length - 1 : Nat) : Int) < (ks.length : Int))) = true := by first | (simp; done) | (simp; omega)
    have e2 : (decide (0 ≤ ((ks.length - 1 : Nat) : Int)) && decide (((ks.length - 1 : Nat) : Int) ≤ (ks.length : Int))) = true := by first | (simp; done) | (simp; omega)
    rw [h4.length_eq, hw, e1, e2]
    exact ⟨_, rfl, g1, g2⟩
  by_cases hne : i = ks.length - 1
  · have e1 : (((ks.length - 1 : Nat) : Int) != (i : Int)) = false := by first | (simp; done) | (simp; omega)
    rw [e1]
    simp only [cond_false, Option.bind_some]
    exact fin A ks h.ok (.refl A) (.refl _) (heap_less h.heap (by simp only; omega)) (by rw [← hne]; exact k5)
  · have e1 : (((ks.length - 1 : Nat) : Int) != (i : Int)) = true := by first | (simp; done) | (simp; omega)
    have hin : i < ks.length - 1 := by omega
    have hb1 := inb k4
    have hb2 := inb (show ks.length - 1 < ks.length by omega)
    simp only [e1, List.length_set, hb1, hb2, cond_true, Int.toNat_natCast]
    have hd : timer_Timers_Drop.l2 (A, (ks, M)) = timer_Timers_Set.l3 ([], (List.replicate (ks.length - 1) 0, [])) := drop_l2 _ _ 0 (hw.trans (by simp))
    rw [hd]
    have hso := sw_ok h.ok k4 (show ks.length - 1 < ks.length by omega)
    have hss := sw_sm h.ok k4 (show ks.length - 1 < ks.length by omega)
    have hsp := swK_perm k4 (show ks.length - 1 < ks.length by omega)
    have hsl := swK_len ks i (ks.length - 1)
    have hfix : FixI ltP (hv (swA A ks i (ks.length - 1)) (swK ks i (ks.length - 1))) (ks.length - 1) i := fixI_of ltP_ord h.heap (by simp only; omega) k4 fun j hj hjn => by
      rw [sw_hv h.ok k4 (by simp only; omega)]
      unfold sw
      rw [if_neg hj, if_neg (by omega)]
    obtain ⟨i', A', ks', f1, f2, f3, f4, f5, f6⟩ := dn_loop M ([], (List.replicate (ks.length - 1) 0, [])) (by simp) hso hin (by rw [hsl]; omega) hfix
    have hl0 : (swK ks i (ks.length - 1)).getD (ks.length - 1) 0 = k := by
      rw [swK_get k4 (by omega), if_neg (by omega), if_pos rfl, k5]
    show ∃ x', ((((loopO (timer_Timers_Set.l3 ([], (List.replicate (ks.length - 1) 0, []))) ((i : Int), (swA A ks i (ks.length - 1), (swK ks i (ks.length - 1), M)))).bind fun e15 => ((bif (!(decide (e15.1 > (i : Int)))) then ((loopO (timer_Timers_Drop.l16) ((i : Int), (e15.2.1, (e15.2.2.1, e15.2.2.2)))).bind fun e21 => some (e21.1, (e21.2.1, e21.2.2))) else (some (e15.2.1, (e15.2.2.1, e15.2.2.2)))) : Option Tm).bind fun e22 => some (e22.1, (e22.2.1, e22.2.2))) : Option Tm).bind fun e23 => _) = some (x', 0) ∧ _
    rw [f1]
    simp only [Option.bind_some]
    rcases f6 with ⟨rfl, rfl, rfl, hu⟩ | ⟨hlt, hh⟩
    · have : decide ((i' : Int) > (i' : Int)) = false := by simp
      rw [this, drop_loop_eq]
      obtain ⟨A2, ks2, g1, g2, g3, g4, g5, g6⟩ := up_loop M i' _ _ hso hin (by rw [hsl]; omega) hu
      simp only [Bool.not_false, cond_true, g1, Option.bind_some]
      exact fin A2 ks2 g2 (hss.trans g3) (g4.trans hsp) g5 ((g6 _ hin).trans hl0)
    · have : decide ((i' : Int) > (i : Int)) = true := by first | (simp; done) | (simp; omega)
      rw [this]
      simp only [Bool.not_true, cond_false, Option.bind_some]
      exact fin A' ks' f2 (hss.trans f3) (f4.trans hsp) hh ((f5 _ (Nat.le_refl _)).trans hl0)
/-! ### over a sorted list -/
/-- Times and numbers, in the order in which they are due. -/
structure Srt (S : List (Int × Int)) : Prop where
  lt : S.Pairwise fun a b => ltP a b = true
  ids : (S.map (·.2)).Nodup
structure Rl (x : Tm) (S : List (Int × Int)) : Prop where
  inv : Inv x
  perm : (els x).Perm S
  srt : Srt S
theorem Rl.len {x : Tm} {S : List (Int × Int)} (h : Rl x S) : x.2.1.length = S.length := by rw [← h.perm.length_eq]; simp [els]
theorem Rl.mem {x : Tm} {S : List (Int × Int)} (h : Rl x S) (p : Int × Int) : p ∈ S ↔ ∃ k ∈ x.2.1, od x.1 k = p := by
  rw [← h.perm.mem_iff]; simp [els]
theorem Rl.get {x : Tm} {S : List (Int × Int)} (h : Rl x S) (id : Int) : (∃ k at_, gget KI x.2.2 id = some k ∧ (at_, id) ∈ S ∧ (it x.1 k).2.1 = at_) ∨ (gget KI x.2.2 id = none ∧ ∀ p ∈ S, p.2 ≠ id) := by
  cases hg : gget KI x.2.2 id with
  | some k =>
    obtain ⟨h1, h2⟩ := (h.inv.map id k).1 hg
    exact .inl ⟨k, _, rfl, (h.mem _).2 ⟨k, h1, by unfold od; rw [h2]⟩, rfl⟩
  | none =>
    refine .inr ⟨rfl, fun p hp e => ?_⟩
    obtain ⟨k, hk, rfl⟩ := (h.mem p).1 hp
    exact (h.inv.none hg).2 k hk e
theorem rl_new : Rl ([], ([], [])) [] := ⟨inv_new, .refl _, ⟨List.Pairwise.nil, List.nodup_nil⟩⟩
theorem rm_srt {S : List (Int × Int)} (h : Srt S) (id : Int) : Srt (rm id S) := ⟨h.lt.filter _, (h.ids.sublist ((List.filter_sublist).map _))⟩
/-- One more, in its place. -/
def ins (p : Int × Int) (S : List (Int × Int)) : List (Int × Int) := S.takeWhile (fun q => ltP q p) ++ p :: S.dropWhile (fun q => ltP q p)
theorem ins_perm (p : Int × Int) (S : List (Int × Int)) : (ins p S).Perm (p :: S) := by
  unfold ins
  refine List.perm_middle.trans ?_
  rw [List.takeWhile_append_dropWhile]
theorem dropWhile_head {α : Type} {p : α → Bool} : ∀ {l : List α} {x : α} {r : List α}, l.dropWhile p = x :: r → p x = false
  | [], x, r, h => by simp at h
  | a :: l, x, r, h => by
    rw [List.dropWhile_cons] at h
    split at h
    · exact dropWhile_head h
    · rename_i hp
      obtain ⟨rfl, _⟩ := List.cons.inj h
      simpa using hp
theorem ins_srt {p : Int × Int} {S : List (Int × Int)} (h : Srt S) (hp : p.2 ∉ S.map (·.2)) : Srt (ins p S) := by
  refine ⟨?_, ?_⟩
  · unfold ins
    have hS : (S.takeWhile (fun q => ltP q p) ++ S.dropWhile (fun q => ltP q p)).Pairwise fun a b => ltP a b = true := by rw [List.takeWhile_append_dropWhile]; exact h.lt
    rw [List.pairwise_append] at hS
    have hd : ∀ q ∈ S.dropWhile (fun q => ltP q p), ltP p q = true := by
      intro q hq
      cases hdw : S.dropWhile (fun q => ltP q p) with
      | nil => rw [hdw] at hq; simp at hq
      | cons y r =>
        have hy : ltP y p = false := dropWhile_head (p := fun q => ltP q p) hdw
        have hyS : y ∈ S := (List.dropWhile_sublist _).mem (by rw [hdw]; exact List.mem_cons_self ..)
        have hne : y ≠ p := fun e => hp (List.mem_map.2 ⟨y, hyS, by rw [e]⟩)
        have hpy : ltP p y = true := by
          have h1 : ¬ (y.1 < p.1 ∨ (y.1 = p.1 ∧ y.2 < p.2)) := fun e => by rw [(ltP_iff y p).2 e] at hy; cases hy
          rw [ltP_iff]
          have h2 : y.2 ≠ p.2 := fun e => hp (List.mem_map.2 ⟨y, hyS, e⟩)
          omega
        rw [hdw] at hq hS
        rcases List.mem_cons.1 hq with rfl | hq
        · exact hpy
        · have := hS.2.1
          rw [List.pairwise_cons] at this
          exact ltP_ord.trans _ _ _ hpy (this.1 q hq)
    rw [List.pairwise_append, List.pairwise_cons]
    refine ⟨hS.1, ⟨hd, hS.2.1⟩, fun a ha b hb => ?_⟩
    rcases List.mem_cons.1 hb with rfl | hb
    · have : ∀ {l : List (Int × Int)} {a : Int × Int}, a ∈ l.takeWhile (fun q => ltP q b) → ltP a b = true := fun {l a} h => by
        induction l with
        | nil => simp at h
        | cons y l ih =>
          rw [List.takeWhile_cons] at h
          split at h
          · rename_i hy
            rcases List.mem_cons.1 h with rfl | h
            · exact hy
            · exact ih h
          · simp at h
      exact this ha
    · exact hS.2.2 a ha b hb
  · have := (ins_perm p S).map (·.2)
    rw [this.nodup_iff, List.map_cons, List.nodup_cons]
    exact ⟨hp, h.ids⟩
theorem rm_not (id : Int) (S : List (Int × Int)) : id ∉ (rm id S).map (·.2) := by
  intro h
  obtain ⟨p, hp, e⟩ := List.mem_map.1 h
  have := (List.mem_filter.1 hp).2
  simp [e] at this
/-- Set, as the sorted list says. -/
theorem set_rl {x : Tm} {S : List (Int × Int)} (h : Rl x S) (id at_ : Int) : (inR id at_ = false ∧ timer_Timers_Set.f x id at_ = some (x, 1)) ∨ (inR id at_ = true ∧ (∀ p ∈ S, p.2 ≠ id) ∧ S.length = 1024 ∧ timer_Timers_Set.f x id at_ = some (x, 10)) ∨
    (inR id at_ = true ∧ ((∃ p ∈ S, p.2 = id) ∨ S.length < 1024) ∧ ∃ x', timer_Timers_Set.f x id at_ = some (x', 0) ∧ Rl x' (ins (at_, id) (rm id S))) := by
  cases hr : inR id at_ with
  | false => exact .inl ⟨rfl, set_arg x id at_ hr⟩
  | true =>
    refine .inr ?_
    have fin : ∀ x', Inv x' → (els x').Perm ((at_, id) :: rm id (els x)) → Rl x' (ins (at_, id) (rm id S)) := fun x' h1 h2 =>
      ⟨h1, h2.trans (((h.perm.filter _).cons _).trans (ins_perm _ _).symm), ins_srt (rm_srt h.srt id) (rm_not id S)⟩
    rcases h.get id with ⟨k, t, h1, h2, _⟩ | ⟨h1, h2⟩
    · obtain ⟨x', e1, e2, e3⟩ := set_there x h.inv id at_ hr h1
      exact .inr ⟨rfl, .inl ⟨_, h2, rfl⟩, x', e1, fin x' e2 e3⟩
    · have hcap := h.inv.cap
      rw [h.len] at hcap
      by_cases hc : S.length = 1024
      · exact .inl ⟨rfl, h2, hc, set_full x h.inv id at_ hr h1 (by rw [h.len]; exact hc)⟩
      · obtain ⟨x', e1, e2, e3⟩ := set_new x h.inv id at_ hr h1 (by rw [h.len]; omega)
        exact .inr ⟨rfl, .inr (by omega), x', e1, fin x' e2 e3⟩
theorem drop_rl {x : Tm} {S : List (Int × Int)} (h : Rl x S) (id : Int) : ((∀ p ∈ S, p.2 ≠ id) ∧ timer_Timers_Drop.f x id = some (x, 7)) ∨ ((∃ p ∈ S, p.2 = id) ∧ ∃ x', timer_Timers_Drop.f x id = some (x', 0) ∧ Rl x' (rm id S)) := by
  rcases h.get id with ⟨k, t, h1, h2, _⟩ | ⟨h1, h2⟩
  · obtain ⟨x', e1, e2, e3⟩ := drop_ok x h.inv id h1
    exact .inr ⟨⟨_, h2, rfl⟩, x', e1, e2, e3.trans (h.perm.filter _), rm_srt h.srt id⟩
  · exact .inl ⟨h2, drop_none x id h1⟩
theorem at_rl {x : Tm} {S : List (Int × Int)} (h : Rl x S) (id : Int) : ((∀ p ∈ S, p.2 ≠ id) ∧ timer_Timers_At.f x id = some (x, (0, 7))) ∨ ∃ t, (t, id) ∈ S ∧ timer_Timers_At.f x id = some (x, (t, 0)) := by
  unfold timer_Timers_At.f
  rcases h.get id with ⟨k, t, h1, h2, h3⟩ | ⟨h1, h2⟩
  · rw [show gget (.int .i64) x.2.2 id = some k from h1]
    exact .inr ⟨t, h2, by rw [← h3]; rfl⟩
  · rw [show gget (.int .i64) x.2.2 id = none from h1]
    exact .inl ⟨h2, rfl⟩
theorem len_rl {x : Tm} {S : List (Int × Int)} (h : Rl x S) : timer_Timers_Len.f x = some (x, (S.length : Int)) := by
  unfold timer_Timers_Len.f
  rw [h.len]
/-- The first place has the first one. -/
theorem Rl.head {x : Tm} {p : Int × Int} {S : List (Int × Int)} (h : Rl x (p :: S)) : 0 < x.2.1.length ∧ od x.1 (x.2.1.getD 0 0) = p := by
  have hl := h.len
  simp only [List.length_cons] at hl
  refine ⟨by omega, ?_⟩
  have hs := h.srt.lt
  rw [List.pairwise_cons] at hs
  obtain ⟨k, hk, e⟩ := (h.mem p).1 (List.mem_cons_self ..)
  obtain ⟨i, hi, e2⟩ := List.mem_iff_getElem.1 hk
  have hmin := heap_min ltP_ord _ h.inv.heap i hi
  have hi2 : x.2.1.getD i 0 = k := by rw [List.getD_eq_getElem?_getD, List.getElem?_eq_getElem hi]; exact e2
  unfold hv at hmin
  rw [hi2, e] at hmin
  have h0 := (h.mem (od x.1 (x.2.1.getD 0 0))).2 ⟨_, getD_mem (by omega), rfl⟩
  rcases List.mem_cons.1 h0 with h0 | h0
  · exact h0
  · rw [hs.1 _ h0] at hmin; cases hmin
def nxt : List (Int × Int) → Int × Bool
  | [] => (0, false)
  | p :: _ => (p.1, true)
theorem next_rl {x : Tm} {S : List (Int × Int)} (h : Rl x S) : timer_Timers_Next.f x = some (x, nxt S) := by
  unfold timer_Timers_Next.f
  rw [show ((x.1, (x.2.1, x.2.2)) : Tm) = x from rfl, len_rl h]
  simp only [Option.bind_some]
  cases S with
  | nil => rfl
  | cons p S =>
    have e1 : (((p :: S).length : Int) == 0) = false := by first | (simp; done) | (simp; omega)
    obtain ⟨h1, h2⟩ := h.head
    have e2 : decide ((0 : Int) < (x.2.1.length : Int)) = true := by simpa using h1
    rw [e1, e2]
    unfold nxt
    rw [← h2]
    rfl
/-- One round of Due. -/
theorem due_step (now : Int) {x : Tm} {p : Int × Int} {S : List (Int × Int)} (h : Rl x (p :: S)) (l : List Int) (hl : l.length < 1099511627776) : ∃ x', (p.1 < now → Rl x' S) ∧ timer_Timers_Due.l1 now (l, x) = some (if p.1 < now then .inl (l ++ [p.2], x') else .inr (l, x)) := by
  obtain ⟨h1, h2⟩ := h.head
  have e2 : decide ((0 : Int) < (x.2.1.length : Int)) = true := by simpa using h1
  have e3 : decide (((p :: S).length : Int) > 0) = true := by first | (simp; done) | (simp; omega)
  have hp1 : (x.1.getD (x.2.1.getD 0 0) (0, (0, 0))).2.1 = p.1 := by rw [← h2]; rfl
  have hp2 : (x.1.getD (x.2.1.getD 0 0) (0, (0, 0))).1 = p.2 := by rw [← h2]; rfl
  have e0 : decide ((0 : Nat) ≤ 0) = true := rfl
  unfold timer_Timers_Due.l1
  simp only [show ((x.1, (x.2.1, x.2.2)) : Tm) = x from rfl, len_rl h, Option.bind_some, e0, e2, e3, Bool.and_self, cond_true, hp1, hp2]
  by_cases hn : p.1 < now
  · have e4 : decide (p.1 < now) = true := by simpa using hn
    have hs := h.srt
    have hrm : rm p.2 (p :: S) = S := by
      unfold rm
      rw [List.filter_cons_of_neg (by simp), List.filter_eq_self]
      intro q hq
      have := hs.ids
      rw [List.map_cons, List.nodup_cons] at this
      simp only [bne_iff_ne, ne_eq]
      exact fun e => this.1 (List.mem_map.2 ⟨q, hq, e⟩)
    rcases drop_rl h p.2 with ⟨d1, _⟩ | ⟨_, x', d1, d2⟩
    · exact absurd rfl (d1 p (List.mem_cons_self ..))
    · rw [hrm] at d2
      have e5 : decide (l.length + ([p.2] : List Int).length ≤ 1099511627776) = true := by first | (simp; done) | (simp; omega)
      refine ⟨x', fun _ => d2, ?_⟩
      rw [e4, d1, if_pos hn]
      simp only [cond_true, Option.bind_some, e5]
  · have e4 : decide (p.1 < now) = false := by simpa using hn
    refine ⟨x, fun h => absurd h hn, ?_⟩
    rw [e4, if_neg hn]
    rfl
theorem due_loop (now : Int) : ∀ (S : List (Int × Int)) (x : Tm) (l : List Int), Rl x S → l.length + S.length ≤ 1099511627776 → ∃ x', loopO (timer_Timers_Due.l1 now) (l, x) = some (l ++ (S.takeWhile fun p => decide (p.1 < now)).map (·.2), x') ∧ Rl x' (S.dropWhile fun p => decide (p.1 < now))
  | [], x, l, h, hl => by
    refine ⟨x, ?_, by simpa using h⟩
    have hs : timer_Timers_Due.l1 now (l, x) = some (.inr (l, x)) := by
      unfold timer_Timers_Due.l1
      simp only [show ((x.1, (x.2.1, x.2.2)) : Tm) = x from rfl, len_rl h, Option.bind_some]
      simp
    rw [loopO_eq, hs]
    simp
  | p :: S, x, l, h, hl => by
    simp only [List.length_cons] at hl
    obtain ⟨x', d1, d2⟩ := due_step now h l (by omega)
    rw [loopO_eq, d2]
    by_cases hn : p.1 < now
    · have e4 : decide (p.1 < now) = true := by simpa using hn
      obtain ⟨x2, f1, f2⟩ := due_loop now S x' (l ++ [p.2]) (d1 hn) (by first | (simp; done) | (simp; omega))
      refine ⟨x2, ?_, by simp only [List.dropWhile_cons, e4, if_true]; exact f2⟩
      rw [if_pos hn]
      simp only [Option.bind_some]
      rw [f1]
      simp [List.takeWhile_cons, e4]
    · have e4 : decide (p.1 < now) = false := by simpa using hn
      refine ⟨x, ?_, by simp only [List.dropWhile_cons, e4]; exact h⟩
      rw [if_neg hn]
      simp [List.takeWhile_cons, e4]
theorem due_rl {x : Tm} {S : List (Int × Int)} (h : Rl x S) (now : Int) : ∃ x', timer_Timers_Due.f x now = some (x', (S.takeWhile fun p => decide (p.1 < now)).map (·.2)) ∧ Rl x' (S.dropWhile fun p => decide (p.1 < now)) := by
  have hcap := h.inv.cap
  rw [h.len] at hcap
  obtain ⟨x', f1, f2⟩ := due_loop now S x [] h (by first | (simp; done) | (simp; omega))
  refine ⟨x', ?_, f2⟩
  unfold timer_Timers_Due.f
  rw [show ((x.1, (x.2.1, x.2.2)) : Tm) = x from rfl, f1]
  rfl
end Go.Proofs.Ytfcgafnmlkiimaa.Pure
