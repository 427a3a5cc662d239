/- Plain laws of the timers: the document's list. No statement of its own. -/
import Derived.Test.YtfcgafnmlkiimaaTd
namespace Go.Proofs.Ytfcgafnmlkiimaa.Pure
open Go.Vk Go.Am Go.Pg Go.Hp Go.Proofs.Ytfcgafnmlkiimaa.Y
set_option linter.unusedVariables false
set_option linter.unusedSimpArgs false
/-- number and time, the other way round -/
def fl (p : Int × Int) : Int × Int := (p.2, p.1)
/-- where a number stands; -1 -/
def place (id : Int) (L : List (Int × Int)) : Int := match firstAt (fun p : Int × Int => p.1 == id) L with
  | none => -1
  | some k => (k : Int)
theorem find_loop (L : List (Int × Int)) (id : Int) (hl : L.length ≤ 1099511627776) : ∀ (m i : Nat), i + m = L.length → loopO (purserref19_Timers_Find.l1 L id) (i : Int) = some (match firstAt (fun p : Int × Int => p.1 == id) (L.drop i) with | none => .inr () | some k => .inl (((i + k : Nat)) : Int)) := by
  intro m
  induction m with
  | zero =>
    intro i hi
    obtain rfl : i = L.length := by omega
    have hs : purserref19_Timers_Find.l1 L id (L.length : Int) = some (.inr (.inr ())) := by
      unfold purserref19_Timers_Find.l1
      rw [ige]; rfl
    rw [loopO_eq, hs]
    simp [firstAt]
  | succ m ih =>
    intro i hi
    have hlt : i < L.length := by omega
    rw [List.drop_eq_getElem_cons hlt]
    unfold firstAt
    by_cases he : L[i].1 = id
    · have hs : purserref19_Timers_Find.l1 L id (i : Int) = some (.inr (.inl (i : Int))) := by
        unfold purserref19_Timers_Find.l1
        simp only [ilt hlt, nn, Bool.and_self, cond_true, at_ L i hlt, he, beq_self_eq_true]
      rw [loopO_eq, hs]
      simp [he]
    · have hs : purserref19_Timers_Find.l1 L id (i : Int) = some (.inl ((i + 1 : Nat) : Int)) := by
        unfold purserref19_Timers_Find.l1
        have e1 : (L[i].1 == id) = false := by simpa using he
        simp only [ilt hlt, nn, Bool.and_self, cond_true, at_ L i hlt, e1, cond_false, wrS i (by omega)]
      rw [loopO_eq, hs]
      simp only [Option.bind_some]
      rw [ih (i + 1) (by omega)]
      have e1 : (L[i].1 == id) = false := by simpa using he
      simp only [e1]
      cases firstAt (fun p : Int × Int => p.1 == id) (L.drop (i + 1)) with
      | none => rfl
      | some k => simp; omega
theorem find_eq (L : List (Int × Int)) (id : Int) (hl : L.length ≤ 1099511627776) : purserref19_Timers_Find.f L id = some (L, place id L) := by
  unfold purserref19_Timers_Find.f place
  have := find_loop L id hl L.length 0 (Nat.zero_add _)
  simp only [List.drop_zero, Nat.zero_add] at this
  rw [show ((0 : Int)) = ((0 : Nat) : Int) from rfl, this]
  cases firstAt (fun p : Int × Int => p.1 == id) L <;> rfl
theorem cut_out {id : Int} : ∀ {L : List (Int × Int)} {k : Nat}, (L.map (·.1)).Nodup → firstAt (fun p : Int × Int => p.1 == id) L = some k → k < L.length ∧ L.take k ++ L.drop (k + 1) = L.filter fun p => p.1 != id
  | [], k, _, h => by simp [firstAt] at h
  | p :: L, k, hn, h => by
    rw [List.map_cons, List.nodup_cons] at hn
    unfold firstAt at h
    by_cases he : p.1 = id
    · simp only [he, beq_self_eq_true, if_true, Option.some.injEq] at h
      subst h
      refine ⟨by simp, ?_⟩
      rw [List.filter_cons_of_neg (by simp [he])]
      simp only [List.take_zero, List.nil_append, Nat.zero_add, List.drop_succ_cons, List.drop_zero]
      exact (List.filter_eq_self.2 fun q hq => by
        simp only [bne_iff_ne, ne_eq]
        exact fun e => hn.1 (List.mem_map.2 ⟨q, hq, e.trans he.symm⟩)).symm
    · have e1 : (p.1 == id) = false := by simpa using he
      simp only [e1] at h
      obtain ⟨j, h1, rfl⟩ := Option.map_eq_some_iff.1 h
      obtain ⟨h2, h3⟩ := cut_out hn.2 h1
      refine ⟨by simp; omega, ?_⟩
      rw [List.filter_cons_of_pos (by simpa using he), ← h3]
      rfl
theorem fl_ids (S : List (Int × Int)) : (S.map fl).map (·.1) = S.map (·.2) := by simp [fl, Function.comp_def]
theorem rm_fl (id : Int) (S : List (Int × Int)) : (S.map fl).filter (fun p => p.1 != id) = (rm id S).map fl := by
  unfold rm
  rw [List.filter_map]
  rfl
theorem place_no {id : Int} {S : List (Int × Int)} (h : ∀ p ∈ S, p.2 ≠ id) : firstAt (fun p : Int × Int => p.1 == id) (S.map fl) = none := by
  cases hf : firstAt (fun p : Int × Int => p.1 == id) (S.map fl) with
  | none => rfl
  | some k =>
    obtain ⟨hk, h1, _⟩ := firstAt_some hf
    have hm := List.getElem_mem hk
    obtain ⟨p, hp, e⟩ := List.mem_map.1 hm
    rw [← e] at h1
    exact absurd (by simpa [fl] using h1) (h p hp)
theorem place_yes {id : Int} {S : List (Int × Int)} (hs : Srt S) {p : Int × Int} (hp : p ∈ S) (hid : p.2 = id) : ∃ k, firstAt (fun p : Int × Int => p.1 == id) (S.map fl) = some k ∧ ∃ h : k < (S.map fl).length, (S.map fl)[k] = fl p := by
  cases hf : firstAt (fun p : Int × Int => p.1 == id) (S.map fl) with
  | none =>
    have := firstAt_none hf (fl p) (List.mem_map.2 ⟨p, hp, rfl⟩)
    simp [fl, hid] at this
  | some k =>
    obtain ⟨hk, h1, _⟩ := firstAt_some hf
    refine ⟨k, rfl, hk, ?_⟩
    have hm := List.getElem_mem hk
    obtain ⟨q, hq, e⟩ := List.mem_map.1 hm
    rw [← e] at h1 ⊢
    have h2 : q.2 = id := by simpa [fl] using h1
    have huniq : ∀ {l : List (Int × Int)}, (l.map (·.2)).Nodup → ∀ a ∈ l, ∀ b ∈ l, a.2 = b.2 → a = b := by
      intro l
      induction l with
      | nil => intro _ a ha; simp at ha
      | cons y l ih =>
        intro hn a ha b hb e
        rw [List.map_cons, List.nodup_cons] at hn
        rcases List.mem_cons.1 ha with ha1 | ha1 <;> rcases List.mem_cons.1 hb with hb1 | hb1
        · rw [ha1, hb1]
        · exact absurd (List.mem_map.2 ⟨b, hb1, by rw [← e, ha1]⟩) hn.1
        · exact absurd (List.mem_map.2 ⟨a, ha1, by rw [e, hb1]⟩) hn.1
        · exact ih hn.2 a ha1 b hb1 e
    rw [huniq hs.ids q hq p hp (h2.trans hid.symm)]
theorem docdrop_eq {S : List (Int × Int)} (hs : Srt S) (hc : S.length ≤ 1024) (id : Int) : ((∀ p ∈ S, p.2 ≠ id) ∧ purserref19_Timers_DocDrop.f (S.map fl) id = some (S.map fl, 7)) ∨ ((∃ p ∈ S, p.2 = id) ∧ purserref19_Timers_DocDrop.f (S.map fl) id = some ((rm id S).map fl, 0)) := by
  have hlen : (S.map fl).length ≤ 1024 := by simpa using hc
  by_cases h : ∃ p ∈ S, p.2 = id
  · obtain ⟨p, hp, e⟩ := h
    refine .inr ⟨⟨p, hp, e⟩, ?_⟩
    obtain ⟨k, h1, hk, h2⟩ := place_yes hs hp e
    obtain ⟨_, h3⟩ := cut_out (by rw [fl_ids]; exact hs.ids) h1
    have hpl : place id (S.map fl) = (k : Int) := by unfold place; rw [h1]
    rw [rm_fl] at h3
    unfold purserref19_Timers_DocDrop.f
    rw [find_eq _ _ (by omega), hpl]
    generalize S.map fl = L at *
    have e1 : decide ((k : Int) < 0) = false := by simp
    have e2 : (decide ((0 : Int) ≤ 0) && (decide (0 ≤ (k : Int)) && decide ((k : Int) ≤ (L.length : Int)))) = true := by simp; omega
    have e4 : (decide ((0 : Int) ≤ ((k + 1 : Nat) : Int)) && (decide (((k + 1 : Nat) : Int) ≤ (L.length : Int)) && decide ((L.length : Int) ≤ (L.length : Int)))) = true := by simp; omega
    have e5 : ((L.take k).drop 0).length ≤ 1024 := by simp; omega
    have e6 : ((L.take L.length).drop (k + 1)).length ≤ 1024 := by simp; omega
    simp only [Option.bind_some, e1, cond_false, wrS k (by omega), e2, e4, cond_true, Int.toNat_natCast, Int.toNat_zero]
    have e7 : decide (([] : List (Int × Int)).length + ((L.take k).drop 0).length ≤ 1099511627776) = true := by simp only [List.length_nil, decide_eq_true_eq]; omega
    have e8 : decide ((([] : List (Int × Int)) ++ ((L.take k).drop 0)).length + ((L.take L.length).drop (k + 1)).length ≤ 1099511627776) = true := by simp only [List.nil_append, decide_eq_true_eq]; omega
    rw [e7, e8]
    simp only [cond_true, List.nil_append, List.drop_zero, List.take_length, h3]
  · have h' : ∀ p ∈ S, p.2 ≠ id := fun p hp e => h ⟨p, hp, e⟩
    refine .inl ⟨h', ?_⟩
    unfold purserref19_Timers_DocDrop.f
    rw [find_eq _ _ (by omega)]
    unfold place
    rw [place_no h']
    rfl
/-- which stand ahead of a time and a number -/
def ahd (at_ id : Int) (p : Int × Int) : Bool := decide (p.2 < at_) || (p.2 == at_ && decide (p.1 < id))
theorem ahd_fl (at_ id : Int) (p : Int × Int) : ahd at_ id (fl p) = ltP p (at_, id) := rfl
theorem where_loop (id at_ : Int) (r4 : List (Int × Int) × Int) (hl : r4.1.length ≤ 1099511627776) : ∀ (m i : Nat), i + m = r4.1.length → loopO (purserref19_Timers_DocSet.l5 id at_ r4) (i : Int) = some (((i + ((r4.1.drop i).takeWhile (ahd at_ id)).length : Nat)) : Int) := by
  intro m
  induction m with
  | zero =>
    intro i hi
    obtain rfl : i = r4.1.length := by omega
    have hs : purserref19_Timers_DocSet.l5 id at_ r4 (r4.1.length : Int) = some (.inr (r4.1.length : Int)) := by
      unfold purserref19_Timers_DocSet.l5
      rw [ige]; rfl
    rw [loopO_eq, hs]
    simp
  | succ m ih =>
    intro i hi
    have hlt : i < r4.1.length := by omega
    rw [List.drop_eq_getElem_cons hlt]
    have hs : purserref19_Timers_DocSet.l5 id at_ r4 (i : Int) = some (if ahd at_ id r4.1[i] then .inl ((i + 1 : Nat) : Int) else .inr (i : Int)) := by
      unfold purserref19_Timers_DocSet.l5 ahd
      simp only [ilt hlt, nn, Bool.and_self, cond_true, Go.Pg.at_ r4.1 i hlt, wrS i (by omega)]
      cases decide (r4.1[i].2 < at_) with
      | true => rfl
      | false =>
        cases (r4.1[i].2 == at_) with
        | false => rfl
        | true => cases decide (r4.1[i].1 < id) <;> rfl
    rw [loopO_eq, hs]
    cases ha : ahd at_ id r4.1[i] with
    | true =>
      simp only [if_true, Option.bind_some]
      rw [ih (i + 1) (by omega), List.takeWhile_cons_of_pos ha, List.length_cons]
      congr 2
      omega
    | false =>
      rw [List.takeWhile_cons_of_neg (by simp [ha])]
      simp
theorem take_tw {α : Type} (p : α → Bool) (L : List α) : L.take (L.takeWhile p).length = L.takeWhile p ∧ L.drop (L.takeWhile p).length = L.dropWhile p := by
  have h := List.takeWhile_append_dropWhile (p := p) (l := L)
  constructor
  · have h2 : (L.takeWhile p ++ L.dropWhile p).take (L.takeWhile p).length = L.takeWhile p := List.take_left
    rwa [h] at h2
  · have h2 : (L.takeWhile p ++ L.dropWhile p).drop (L.takeWhile p).length = L.dropWhile p := List.drop_left
    rwa [h] at h2
theorem map_tw (f : Int × Int → Int × Int) (p : Int × Int → Bool) : ∀ S : List (Int × Int), (S.map f).takeWhile p = (S.takeWhile (fun x => p (f x))).map f ∧ (S.map f).dropWhile p = (S.dropWhile (fun x => p (f x))).map f
  | [] => ⟨rfl, rfl⟩
  | a :: S => by
    obtain ⟨h1, h2⟩ := map_tw f p S
    cases h : p (f a) <;> simp [List.takeWhile_cons, List.dropWhile_cons, h, h1, h2]
theorem docset_eq {S : List (Int × Int)} (hs : Srt S) (hc : S.length ≤ 1024) (id at_ : Int) : (inR id at_ = false ∧ purserref19_Timers_DocSet.f (S.map fl) id at_ = some (S.map fl, 1)) ∨ (inR id at_ = true ∧ (∀ p ∈ S, p.2 ≠ id) ∧ S.length = 1024 ∧ purserref19_Timers_DocSet.f (S.map fl) id at_ = some (S.map fl, 10)) ∨
    (inR id at_ = true ∧ ((∃ p ∈ S, p.2 = id) ∨ S.length < 1024) ∧ purserref19_Timers_DocSet.f (S.map fl) id at_ = some ((ins (at_, id) (rm id S)).map fl, 0)) := by
  have hlen : (S.map fl).length ≤ 1024 := by simpa using hc
  have hrl : (rm id S).length ≤ 1024 := Nat.le_trans (List.length_filter_le _ _) hc
  unfold purserref19_Timers_DocSet.f
  rw [rng_eq]
  cases hr : inR id at_ with
  | false =>
    unfold inR at hr
    rw [hr]
    exact .inl ⟨rfl, rfl⟩
  | true =>
    unfold inR at hr
    rw [hr]
    refine .inr ?_
    simp only [Bool.not_true, Option.bind_some, cond_false]
    rw [find_eq _ _ (by omega)]
    simp only [Option.bind_some]
    -- behind the drop
    have fin : ∀ e, purserref19_Timers_DocDrop.f (S.map fl) id = some ((rm id S).map fl, e) → ((purserref19_Timers_DocDrop.f (S.map fl) id).bind fun r4 => (loopO (purserref19_Timers_DocSet.l5 id at_ r4) 0).bind fun e7 => bif (decide ((0 : Int) ≤ 0) && (decide (0 ≤ e7) && decide (e7 ≤ (r4.1.length : Int)))) then (bif (decide ((0 : Int) ≤ e7) && (decide (e7 ≤ (r4.1.length : Int)) && decide ((r4.1.length : Int) ≤ (r4.1.length : Int)))) then (bif decide (([] : List (Int × Int)).length + ((r4.1.take e7.toNat).drop (0 : Int).toNat).length ≤ 1099511627776) then (bif decide ((([] : List (Int × Int)) ++ ((r4.1.take e7.toNat).drop (0 : Int).toNat)).length + ([(id, at_)] : List (Int × Int)).length ≤ 1099511627776) then (bif decide (((([] : List (Int × Int)) ++ ((r4.1.take e7.toNat).drop (0 : Int).toNat)) ++ ([(id, at_)] : List (Int × Int))).length + ((r4.1.take (r4.1.length : Int).toNat).drop (e7 : Int).toNat).length ≤ 1099511627776) then (some ((((([] : List (Int × Int)) ++ ((r4.1.take e7.toNat).drop (0 : Int).toNat)) ++ ([(id, at_)] : List (Int × Int))) ++ ((r4.1.take (r4.1.length : Int).toNat).drop (e7 : Int).toNat)), (0 : Int))) else none) else none) else none) else none) else none : Option (List (Int × Int) × Int)) = some ((ins (at_, id) (rm id S)).map fl, 0) := by
      intro e he
      rw [he]
      simp only [Option.bind_some]
      have hw := where_loop id at_ ((rm id S).map fl, e) (by simp only [List.length_map]; omega) ((rm id S).map fl).length 0 (Nat.zero_add _)
      simp only [List.drop_zero, Nat.zero_add] at hw
      rw [show ((0 : Int)) = ((0 : Nat) : Int) from rfl, hw]
      obtain ⟨t1, t2⟩ := take_tw (ahd at_ id) ((rm id S).map fl)
      have t3 := (List.takeWhile_sublist (ahd at_ id) (l := (rm id S).map fl)).length_le
      have hll : ((rm id S).map fl).length ≤ 1024 := by simpa using hrl
      obtain ⟨m1, m2⟩ := map_tw fl (ahd at_ id) (rm id S)
      generalize hL : (rm id S).map fl = L at *
      generalize hk : (L.takeWhile (ahd at_ id)).length = k at *
      have e2 : (decide (((0 : Nat) : Int) ≤ ((0 : Nat) : Int)) && (decide (((0 : Nat) : Int) ≤ (k : Int)) && decide ((k : Int) ≤ (L.length : Int)))) = true := by simp; omega
      have e4 : (decide (((0 : Nat) : Int) ≤ (k : Int)) && (decide ((k : Int) ≤ (L.length : Int)) && decide ((L.length : Int) ≤ (L.length : Int)))) = true := by simp; omega
      have e5 : ((L.take k).drop 0).length ≤ 1024 := by simp; omega
      have e6 : ((L.take L.length).drop k).length ≤ 1024 := by simp; omega
      simp only [Option.bind_some, e2, e4, cond_true, Int.toNat_natCast]
      have e7 : decide (([] : List (Int × Int)).length + ((L.take k).drop 0).length ≤ 1099511627776) = true := by simp only [List.length_nil, decide_eq_true_eq]; omega
      have e8 : decide ((([] : List (Int × Int)) ++ ((L.take k).drop 0)).length + ([(id, at_)] : List (Int × Int)).length ≤ 1099511627776) = true := by simp only [List.nil_append, decide_eq_true_eq, List.length_cons, List.length_nil]; omega
      have e9 : decide (((([] : List (Int × Int)) ++ ((L.take k).drop 0)) ++ ([(id, at_)] : List (Int × Int))).length + ((L.take L.length).drop k).length ≤ 1099511627776) = true := by simp only [List.nil_append, List.length_append, decide_eq_true_eq, List.length_cons, List.length_nil]; omega
      rw [e7, e8, e9]
      simp only [cond_true, List.nil_append, List.drop_zero, List.take_length, t1, t2, m1, m2]
      unfold ins
      rw [List.map_append, List.map_cons]
      simp only [ahd_fl]
      simp [fl]
    rcases docdrop_eq hs hc id with ⟨h1, h2⟩ | ⟨h1, h2⟩
    · unfold place
      rw [place_no h1]
      simp only [show decide ((-1 : Int) < 0) = true from rfl, cond_true, Option.bind_some, List.length_map]
      by_cases hf : S.length = 1024
      · refine .inl ⟨trivial, h1, hf, ?_⟩
        rw [show decide ((S.length : Int) ≥ 1024) = true by simp; omega]
        rfl
      · refine .inr ⟨trivial, .inr (by omega), ?_⟩
        rw [show decide ((S.length : Int) ≥ 1024) = false by simp; omega]
        simp only [cond_false]
        have := fin 7 (by rw [rm_none h1]; exact h2)
        exact this
    · refine .inr ⟨trivial, .inl h1, ?_⟩
      obtain ⟨p, hp, e⟩ := h1
      obtain ⟨k, k1, _⟩ := place_yes hs hp e
      unfold place
      rw [k1]
      rw [show decide ((k : Int) < 0) = false by simp]
      simp only [cond_false, Option.bind_some]
      exact fin 0 h2
theorem docdue_loop (now : Int) : ∀ (S : List (Int × Int)) (l : List Int), l.length + S.length ≤ 1099511627776 → loopO (purserref19_Timers_DocDue.l1 now) (l, S.map fl) = some (l ++ (S.takeWhile fun p => decide (p.1 < now)).map (·.2), (S.dropWhile fun p => decide (p.1 < now)).map fl)
  | [], l, hl => by
    have hs : purserref19_Timers_DocDue.l1 now (l, []) = some (.inr (l, [])) := rfl
    rw [loopO_eq, show ([] : List (Int × Int)).map fl = [] from rfl, hs]
    simp
  | p :: S, l, hl => by
    simp only [List.length_cons] at hl
    have hs : purserref19_Timers_DocDue.l1 now (l, (p :: S).map fl) = some (if p.1 < now then .inl (l ++ [p.2], S.map fl) else .inr (l, (p :: S).map fl)) := by
      unfold purserref19_Timers_DocDue.l1
      have e1 : decide ((((p :: S).map fl).length : Int) > 0) = true := by first | (simp; done) | (simp; omega)
      have e2 : decide ((0 : Int) < (((p :: S).map fl).length : Int)) = true := by first | (simp; done) | (simp; omega)
      have e3 : ((p :: S).map fl).getD 0 (0, 0) = fl p := rfl
      have e4 : (decide ((0 : Int) ≤ 1) && (decide (1 ≤ (((p :: S).map fl).length : Int)) && decide ((((p :: S).map fl).length : Int) ≤ (((p :: S).map fl).length : Int)))) = true := by first | (simp; done) | (simp; omega)
      have e5 : decide (l.length + ([(fl p).1] : List Int).length ≤ 1099511627776) = true := by first | (simp; done) | (simp; omega)
      simp only [e1, e2, e3, e4, e5, cond_true, show decide ((0 : Nat) ≤ 0) = true from rfl, Bool.and_self, Option.bind_some]
      have e6 : (fl p).2 = p.1 := rfl
      rw [e6]
      by_cases hn : p.1 < now
      · rw [show decide (p.1 < now) = true by simpa using hn, if_pos hn]
        simp only [cond_true, Int.toNat_natCast, List.take_length]
        rfl
      · rw [show decide (p.1 < now) = false by simpa using hn, if_neg hn]
        rfl
    rw [loopO_eq, hs]
    by_cases hn : p.1 < now
    · have e4 : decide (p.1 < now) = true := by simpa using hn
      rw [if_pos hn]
      simp only [Option.bind_some]
      rw [docdue_loop now S (l ++ [p.2]) (by simp; omega)]
      simp [List.takeWhile_cons, List.dropWhile_cons, e4]
    · have e4 : decide (p.1 < now) = false := by simpa using hn
      rw [if_neg hn]
      simp [List.takeWhile_cons, List.dropWhile_cons, e4]
theorem docdue_eq {S : List (Int × Int)} (hs : Srt S) (hc : S.length ≤ 1024) (now : Int) : purserref19_Timers_DocDue.f (S.map fl) now = some ((abv now S).map fl, (bel now S).map (·.2)) := by
  have := docdue_loop now S [] (by simp; omega)
  rw [(due_filter hs now).1, (due_filter hs now).2] at this
  unfold purserref19_Timers_DocDue.f
  rw [this]
  rfl
end Go.Proofs.Ytfcgafnmlkiimaa.Pure
