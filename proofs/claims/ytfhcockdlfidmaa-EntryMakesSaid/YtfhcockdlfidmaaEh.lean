/- Plain laws of entries as bytes, and of the document's Check. No statement of its own. -/
import Derived.Test.YtfhcockdlfidmaaEg
namespace Go.Proofs.Ytfhcockdlfidmaa.Pure
open Go.Vk Go.Am Go.Pg Go.Sort Go.Proofs.Ytfhcockdlfidmaa.Y
set_option linter.unusedVariables false
set_option linter.unusedSimpArgs false

/-! ### the document's Check -/
theorem racc_eq (l : RLeg) : purserref07_account.f l = some (rightB (toL l).1) := by
  obtain ⟨k, n, g, x⟩ := l
  unfold purserref07_account.f rightB toL
  have hn : (bif decide (n ≥ 1) then (some (decide (n ≤ 32))) else (some false)) = some (nodeB n) := by
    unfold nodeB
    by_cases h : n ≥ 1 <;> simp [h]
  dsimp only
  rw [hn]
  simp only [Option.bind_some]
  by_cases h1 : k = 1
  · subst h1; cases n == 0 <;> simp
  by_cases h2 : k = 2
  · subst h2; cases nodeB n <;> simp
  by_cases h3 : k = 3
  · subst h3; cases nodeB n <;> simp
  by_cases h5 : k = 5
  · subst h5; cases nodeB n <;> simp
  by_cases h4 : k = 4
  · subst h4
    cases nodeB n
    · simp
    · by_cases h : g ≥ 1 <;> simp [h]
  · have e1 : (k == 1) = false := by simp [h1]
    have e2 : (k == 2) = false := by simp [h2]
    have e3 : (k == 3) = false := by simp [h3]
    have e4 : (k == 4) = false := by simp [h4]
    have e5 : (k == 5) = false := by simp [h5]
    simp [e1, e2, e3, e4, e5, h1, h2, h3, h4, h5]
open Classical in
theorem rises_eq (a b : RLeg) : purserref07_rises.f a b = some (decide (ltA (toL a).1 (toL b).1)) := by
  obtain ⟨a1, a2, a3, a4⟩ := a
  obtain ⟨b1, b2, b3, b4⟩ := b
  unfold purserref07_rises.f toL ltA
  dsimp only
  by_cases h1 : a1 = b1
  · subst h1
    by_cases h2 : a2 = b2
    · subst h2
      simp
    · have e : (a2 != b2) = true := by simp [h2]
      simp [e, h2]
  · have e : (a1 != b1) = true := by simp [h1]
    simp [e, h1]
theorem not_rises (p x : Acc) : (¬ ltA p x) ↔ ordA p x ≥ 0 := by rw [← ordA_neg]; omega
theorem rcheck_loop (k : Int) (suf : List RLeg) : ∀ (pre : List RLeg) (S : Int), (pre ++ suf).length ≤ 1099511627776 →
    loopO (purserref07_Check.l3 (k, pre ++ suf)) (S, (pre.length : Int)) = some (if chkL (lastA (pre.map toL)) (suf.map toL) ≠ 0 then .inl (chkL (lastA (pre.map toL)) (suf.map toL)) else .inr (wsum S (suf.map toL))) := by
  induction suf with
  | nil =>
    intro pre S _
    rw [loopO_eq]
    simp [purserref07_Check.l3, chkL, wsum]
  | cons x suf ih =>
    intro pre S hl
    have hlt : (pre.length : Int) < ((pre ++ x :: suf).length : Int) := by simp; omega
    have hlp : pre.length + 1 ≤ 1099511627776 := by simp at hl; omega
    rw [loopO_eq]
    have hw : IntKind.i64.wrap ((pre.length : Int) + 1) = ((pre ++ [x]).length : Int) := by rw [wrS _ (by omega)]; simp
    have hp : pre ++ x :: suf = (pre ++ [x]) ++ suf := by simp
    have hstep : purserref07_Check.l3 (k, pre ++ x :: suf) (S, (pre.length : Int)) = some (if legC (lastA (pre.map toL)) (toL x) ≠ 0 then .inr (.inl (legC (lastA (pre.map toL)) (toL x))) else .inl (IntKind.i64.wrap (S + (toL x).2), ((pre ++ [x]).length : Int))) := by
      unfold purserref07_Check.l3
      dsimp only
      rw [decide_eq_true hlt, cond_true, nn, Bool.and_self, cond_true, getD_pre, hw]
      rw [show purserref07_account.f (x.1, x.2.1, x.2.2.1, x.2.2.2) = some (rightB (toL x).1) from racc_eq x, Option.bind_some]
      unfold legC
      cases hr : rightB (toL x).1 with
      | false => rfl
      | true =>
        simp only [Bool.not_true, cond_false, Bool.true_eq_false, if_false]
        have hx2 : (toL x).2 = x.2.2.2 := rfl
        rw [hx2]
        by_cases h0 : x.2.2.2 = 0
        · simp [h0]
        have e0 : (x.2.2.2 == 0) = false := by simp [h0]
        rw [e0]
        by_cases h1 : x.2.2.2 < -9007199254740992
        · simp [h0, h1]
        by_cases h2 : x.2.2.2 > 9007199254740992
        · simp [h0, h1, h2]
        simp only [h0, h1, h2, decide_false, Bool.not_false, cond_true, Option.bind_some, cond_false, or_self, if_false]
        rcases List.eq_nil_or_concat pre with rfl | ⟨pre', p, rfl⟩
        · simp [lastA]
        · simp only [List.concat_eq_append] at *
          have hL : ((pre' ++ [p]).length : Int) = (pre'.length : Int) + 1 := by simp
          have hp' : (pre' ++ [p]) ++ x :: suf = pre' ++ p :: (x :: suf) := by simp
          have hl' : pre'.length + 1 ≤ 1099511627776 := by simp at hlp; omega
          have hw' : IntKind.i64.wrap (((pre' ++ [p]).length : Int) - 1) = (pre'.length : Int) := by rw [hL, wr _ (by omega) (by omega)]; omega
          have hgt : ((pre' ++ [p]).length : Int) > 0 := by rw [hL]; omega
          have hlt2 : (pre'.length : Int) < ((pre' ++ p :: (x :: suf)).length : Int) := by simp; omega
          rw [decide_eq_true hgt, cond_true, hw', nn, hp', decide_eq_true hlt2, Bool.and_self, cond_true, getD_pre]
          rw [show purserref07_rises.f (p.1, p.2.1, p.2.2.1, p.2.2.2) (x.1, x.2.1, x.2.2.1, x.2.2.2) = _ from rises_eq p x, Option.bind_some, List.map_append, List.map_singleton, lastA_snoc]
          simp only [Option.bind_some]
          by_cases h3 : ordA (toL p).1 (toL x).1 ≥ 0
          · have := (not_rises _ _).2 h3
            simp [h3, this]
          · have := mt (not_rises _ _).1 h3
            simp [h3, Classical.not_not.1 this]
    rw [hstep]
    simp only [List.map_cons, chkL, wsum, Option.bind_some]
    by_cases hc : legC (lastA (pre.map toL)) (toL x) = 0
    · simp only [hc, ne_eq, not_true_eq_false, if_false]
      rw [hp, ih (pre ++ [x]) _ (by rw [← hp]; exact hl), List.map_append, List.map_singleton, lastA_snoc]
    · simp only [hc, ne_eq, not_false_eq_true, if_true]
theorem rcheck_eq (k : Int) (l : List RLeg) (hl : l.length ≤ 1099511627776) : purserref07_Check.f (k, l) = some (chk k (l.map toL)) := by
  have h := rcheck_loop k l [] 0 (by simpa using hl)
  simp only [List.nil_append, List.length_nil, List.map_nil] at h
  rw [show ((0 : Nat) : Int) = 0 from rfl] at h
  unfold purserref07_Check.f chk
  simp only [List.length_map]
  by_cases hk1 : k < 1
  · have : ¬ (1 ≤ k ∧ k ≤ 6) := by omega
    simp [hk1, this]
  by_cases hk2 : k > 6
  · have : ¬ (1 ≤ k ∧ k ≤ 6) := by omega
    simp [hk1, hk2, this]
  have hk : 1 ≤ k ∧ k ≤ 6 := by omega
  simp only [hk1, hk2, decide_false, Bool.not_false, cond_true, Option.bind_some, cond_false, hk, and_self, not_true_eq_false, if_false]
  by_cases h1 : l.length < 2
  · have : ((l.length : Int) < 2) := by omega
    simp [h1, this]
  have h1' : ¬ ((l.length : Int) < 2) := by omega
  by_cases h2 : l.length > 64
  · have h2' : ((l.length : Int) > 64) := by omega
    simp [h1, h2, h1', h2']
  have h2' : ¬ ((l.length : Int) > 64) := by omega
  simp only [h1', h2', h1, h2, or_self, decide_false, Bool.not_false, cond_true, Option.bind_some, cond_false, if_false]
  rw [h]
  simp only [Option.bind_some, lastA, List.getLast?_nil, Option.map_none]
  by_cases hc : chkL none (l.map toL) = 0
  · simp only [hc, ne_eq, not_true_eq_false, if_false]
    by_cases hw : wsum 0 (l.map toL) = 0
    · simp [hw]
    · have hw' : (wsum 0 (l.map toL) != 0) = true := by simp [hw]
      simp [hw, hw']
  · simp [hc]

/-! ### what is known of an entry -/
theorem chkL_right : ∀ {l : List Leg} {prev : Option Acc}, chkL prev l = 0 → ∀ x ∈ l, rightB x.1 = true
  | [], _, _, x, hx => by cases hx
  | y :: l, prev, h, x, hx => by
    simp only [chkL] at h
    split at h
    · rename_i hc; exact absurd h hc
    · rename_i hc
      have hc : legC prev y = 0 := Decidable.of_not_not hc
      rcases List.mem_cons.1 hx with rfl | hx
      · unfold legC at hc
        split at hc
        · exact absurd hc (by decide)
        · rename_i h1; simpa using h1
      · exact chkL_right h x hx
/-- Small numbers. -/
def sm (x : Leg) : Prop := (0 ≤ x.1.1 ∧ x.1.1 ≤ 64) ∧ (0 ≤ x.1.2.1 ∧ x.1.2.1 ≤ 64) ∧ (0 ≤ x.1.2.2 ∧ x.1.2.2 ≤ 64) ∧ (-9007199254740992 ≤ x.2 ∧ x.2 ≤ 9007199254740992)
theorem right_sm {a : Acc} (h : rightB a = true) : (0 ≤ a.1 ∧ a.1 ≤ 64) ∧ (0 ≤ a.2.1 ∧ a.2.1 ≤ 64) ∧ (0 ≤ a.2.2 ∧ a.2.2 ≤ 64) := by
  unfold rightB nodeB at h
  split at h
  · simp at h; omega
  · split at h
    · simp at h; omega
    · split at h
      · simp at h; omega
      · cases h
theorem chk_ok {k : Int} {l : List Leg} (h : chk k l = 0) : (1 ≤ k ∧ k ≤ 6) ∧ (2 ≤ l.length ∧ l.length ≤ 64) ∧ ∀ x ∈ l, sm x := by
  unfold chk at h
  split at h
  · exact absurd h (by decide)
  · rename_i hk
    split at h
    · exact absurd h (by decide)
    · rename_i hl
      split at h
      · rename_i h3; exact absurd h h3
      · rename_i h3
        have h3 := Decidable.of_not_not h3
        refine ⟨by omega, by omega, fun x hx => ?_⟩
        obtain ⟨r1, r2, r3⟩ := right_sm (chkL_right h3 x hx)
        exact ⟨r1, r2, r3, (chkL_amt h3 x hx).2⟩

/-! ### bytes -/
def legB (x : Leg) : List Int := gr x.1.1.toNat ++ (gr x.1.2.1.toNat ++ (gr x.1.2.2.toNat ++ gr (zig x.2)))
def entB (k : Int) (l : List Leg) : List Int := gr k.toNat ++ (gr l.length ++ l.flatMap legB)
theorem gr10 {u : Nat} (h : u < 2 ^ 64) : (gr u).length ≤ 10 := gr_len 9 u (Nat.lt_trans h p64)
theorem q64 : (2 : Nat) ^ 64 = 18446744073709551616 := by decide
theorem q63 : (2 : Nat) ^ 63 = 9223372036854775808 := by decide
theorem legB_len {x : Leg} (h : sm x) : (legB x).length ≤ 40 := by
  obtain ⟨h1, h2, h3, h4⟩ := h
  have e1 := gr10 (u := x.1.1.toNat) (by rw [q64]; omega)
  have e2 := gr10 (u := x.1.2.1.toNat) (by rw [q64]; omega)
  have e3 := gr10 (u := x.1.2.2.toNat) (by rw [q64]; omega)
  have e4 := gr10 (u := zig x.2) (zig_lt (by omega) (by omega))
  unfold legB
  simp only [List.length_append]
  omega
theorem flatB_len : ∀ {l : List Leg}, (∀ x ∈ l, sm x) → (l.flatMap legB).length ≤ 40 * l.length
  | [], _ => by simp
  | x :: l, h => by
    have h1 := legB_len (h x (by simp))
    have h2 := flatB_len (fun y hy => h y (by simp [hy]) : ∀ y ∈ l, sm y)
    simp only [List.flatMap_cons, List.length_append, List.length_cons]
    omega
theorem wuint' (n : Int) (b : List Int) (h : 0 ≤ n) (h' : n ≤ 64) (hb : b.length + 10 ≤ 1099511627776) : codec_Writer_Uint.f (b, false) n = some ((b ++ gr n.toNat, false), ()) := by
  have := wuint_eq n.toNat b false (by rw [q63]; omega) hb
  rwa [Int.toNat_of_nonneg h] at this
theorem ruint' (n : Int) (h : 0 ≤ n) (h' : n ≤ 64) : purserref03_Uint.f n = some (bytesS (gr n.toNat)) := by
  have := ruint_eq n.toNat (by rw [q63]; omega)
  rwa [Int.toNat_of_nonneg h] at this
theorem rduint' (n : Int) (rest : List Int) (h : 0 ≤ n) (h' : n ≤ 64) (hb : (gr n.toNat ++ rest).length ≤ 1099511627776) : codec_Reader_Uint.f (gr n.toNat ++ rest, 0) 64 = some ((rest, 0), n) := by
  have := rduint_eq n.toNat 64 rest (by rw [q63]; omega) (by omega) (by decide) hb
  rw [Int.toNat_of_nonneg h] at this
  exact this
/-- A leg is written. -/
theorem write_leg (b : List Int) (x : Leg) (h : sm x) (hb : b.length + 100 ≤ 1099511627776) {R : Type} (K : ((List Int × Bool) × Unit) → Option R) :
    ((codec_Writer_Uint.f (b, false) x.1.1).bind fun r5 => (codec_Writer_Uint.f (r5.1.1, r5.1.2) x.1.2.1).bind fun r6 => (codec_Writer_Uint.f (r6.1.1, r6.1.2) x.1.2.2).bind fun r7 => (codec_Writer_Int.f (r7.1.1, r7.1.2) x.2).bind K) = K ((b ++ legB x, false), ()) := by
  obtain ⟨h1, h2, h3, h4⟩ := h
  have e1 := gr10 (u := x.1.1.toNat) (by rw [q64]; omega)
  have e2 := gr10 (u := x.1.2.1.toNat) (by rw [q64]; omega)
  have e3 := gr10 (u := x.1.2.2.toNat) (by rw [q64]; omega)
  rw [wuint' _ b h1.1 h1.2 (by omega), Option.bind_some]
  dsimp only
  rw [wuint' _ _ h2.1 h2.2 (by rw [List.length_append]; omega), Option.bind_some]
  dsimp only
  rw [wuint' _ _ h3.1 h3.2 (by simp only [List.length_append]; omega), Option.bind_some]
  dsimp only
  rw [wint_eq _ _ false (by omega) (by omega) (by simp only [List.length_append]; omega), Option.bind_some]
  unfold legB
  simp only [List.append_assoc]
theorem flat_snoc (l : List Leg) (i : Nat) (h : i < l.length) : (l.take (i + 1)).flatMap legB = (l.take i).flatMap legB ++ legB l[i] := by
  rw [take_succ l i h, List.flatMap_append]
  simp
theorem write_eq (k : Int) (l : List Leg) (h : chk k l = 0) : entry_Write.f (k, l) = some (entB k l, 0) := by
  obtain ⟨hk, hl, hs⟩ := chk_ok h
  unfold entry_Write.f
  dsimp only
  rw [check_eq k l (by omega), h, Option.bind_some]
  have e1 := gr10 (u := k.toNat) (by rw [q64]; omega)
  have e2 := gr10 (u := l.length) (by rw [q64]; omega)
  rw [show ((0 : Int) != 0) = false from rfl, cond_false, wuint' k [] (by omega) (by omega) (by simp), Option.bind_some]
  dsimp only
  rw [wuint_eq l.length _ false (by rw [q63]; omega) (by simp; omega), Option.bind_some]
  dsimp only
  rw [loop_up (f := entry_Write.l4 (k, l)) (fun i => ((i : Int), (), (([] ++ gr k.toNat) ++ gr l.length) ++ (l.take i).flatMap legB, false)) l.length (b := ((), (([] ++ gr k.toNat) ++ gr l.length) ++ l.flatMap legB, false)) (by simp) ?_ ?_]
  · rw [Option.bind_some]
    dsimp only
    have hf := flatB_len hs
    have hc : decide (((([] ++ gr k.toNat) ++ gr l.length) ++ l.flatMap legB).length ≤ 140737488355328) = true := decide_eq_true (by simp only [List.length_append, List.length_nil]; omega)
    unfold codec_Writer_Bytes.f bytes_Clone.f
    dsimp only
    rw [cond_false, hc, cond_true, Option.bind_some, Option.bind_some]
    unfold entB
    simp
  · intro i hi
    have hm := hs _ (List.getElem_mem hi)
    have hf := flatB_len (l := l.take i) (fun x hx => hs x (List.mem_of_mem_take hx))
    have hti : (l.take i).length = i := by simp; omega
    unfold entry_Write.l4
    dsimp only
    rw [ilt hi, cond_true, nn, Bool.and_self, cond_true, at_ l i hi, write_leg _ _ hm (by simp only [List.length_append, List.length_nil]; omega), wrS i (by omega), flat_snoc l i hi]
    simp
  · unfold entry_Write.l4
    dsimp only
    rw [ige, cond_false, List.take_length]
theorem write_bad (k : Int) (l : List Leg) (hl : l.length ≤ 1099511627776) (h : chk k l ≠ 0) : entry_Write.f (k, l) = some ([], chk k l) := by
  unfold entry_Write.f
  dsimp only
  rw [check_eq k l hl, Option.bind_some]
  have : (chk k l != 0) = true := by simp [h]
  rw [this, cond_true]

/-! ### read again -/
theorem leg_read (x : Leg) (rest : List Int) (h : sm x) (hb : rest.length + 100 ≤ 1099511627776) : entry_leg.f (legB x ++ rest, 0) = some ((rest, 0), x) := by
  obtain ⟨h1, h2, h3, h4⟩ := h
  have e1 := gr10 (u := x.1.1.toNat) (by rw [q64]; omega)
  have e2 := gr10 (u := x.1.2.1.toNat) (by rw [q64]; omega)
  have e3 := gr10 (u := x.1.2.2.toNat) (by rw [q64]; omega)
  have e4 := gr10 (u := zig x.2) (zig_lt (by omega) (by omega))
  unfold entry_leg.f legB
  dsimp only
  rw [List.append_assoc, List.append_assoc, List.append_assoc, rduint' _ _ h1.1 h1.2 (by simp only [List.length_append]; omega), Option.bind_some]
  dsimp only
  rw [rduint' _ _ h2.1 h2.2 (by simp only [List.length_append]; omega), Option.bind_some]
  dsimp only
  rw [rduint' _ _ h3.1 h3.2 (by simp only [List.length_append]; omega), Option.bind_some]
  dsimp only
  rw [rdint_eq _ _ (by omega) (by omega) (by simp only [List.length_append]; omega), Option.bind_some]
theorem read_eq (k : Int) (l : List Leg) (h : chk k l = 0) : entry_Read.f (entB k l) = some ((k, l), 0) := by
  obtain ⟨hk, hl, hs⟩ := chk_ok h
  have e1 := gr10 (u := k.toNat) (by rw [q64]; omega)
  have e2 := gr10 (u := l.length) (by rw [q64]; omega)
  have hf := flatB_len hs
  unfold entry_Read.f bytes_Clone.f
  have hc : decide ((entB k l).length ≤ 140737488355328) = true := decide_eq_true (by unfold entB; simp only [List.length_append]; omega)
  rw [hc, cond_true, Option.bind_some]
  unfold entB
  rw [rduint' k _ (by omega) (by omega) (by simp only [List.length_append]; omega), Option.bind_some]
  dsimp only
  have hln := rduint_eq l.length 64 (l.flatMap legB) (by rw [q63]; omega) hl.2 (by decide) (by simp only [List.length_append]; omega)
  rw [show codec_Reader_Uint.f (gr l.length ++ l.flatMap legB, 0) 64 = _ from hln, Option.bind_some]
  dsimp only
  rw [loop_up (f := entry_Read.l4 ((l.flatMap legB, 0), (l.length : Int))) (fun i => ((i : Int), ((l.drop i).flatMap legB, 0), (), k, l.take i)) l.length (b := (([], 0), (), k, l)) (by simp) ?_ ?_]
  · rw [Option.bind_some]
    dsimp only
    have hend : codec_Reader_End.f ([], 0) = some (([], 0), 0) := by
      unfold codec_Reader_End.f
      rfl
    rw [hend, Option.bind_some]
    dsimp only
    rw [show ((0 : Int) != 0) = false from rfl, cond_false, check_eq k l (by omega), h, Option.bind_some]
    rfl
  · intro i hi
    have hm := hs _ (List.getElem_mem hi)
    have hd : (l.drop i).flatMap legB = legB l[i] ++ (l.drop (i + 1)).flatMap legB := by
      rw [List.drop_eq_getElem_cons hi, List.flatMap_cons]
    have hfd := flatB_len (l := l.drop (i + 1)) (fun x hx => hs x (List.mem_of_mem_drop hx))
    have hdl : (l.drop (i + 1)).length ≤ 64 := by simp; omega
    unfold entry_Read.l4
    dsimp only
    rw [ilt hi, cond_true, hd, leg_read _ _ hm (by omega), Option.bind_some]
    dsimp only
    have hcl : decide ((l.take i).length + ([l[i]] : List Leg).length ≤ 1099511627776) = true := decide_eq_true (by simp; omega)
    rw [hcl, cond_true, wrS i (by omega), take_succ l i hi]
  · unfold entry_Read.l4
    dsimp only
    rw [ige, cond_false, List.take_length, List.drop_length]
    rfl

/-! ### the document's bytes -/
theorem szOk2 (b : List Int) (s : ByteArray) (ys : List Int) (hs : s = bytesS ys) (h : b.length + ys.length ≤ 1099511627776) : decide ((((bytesS b).size + s.size : Nat) : Int) ≤ 9223372036854775807) = true := by
  subst hs; exact szOk b ys h
theorem rwrite_leg (b : List Int) (x : Leg) (h : sm x) (hb : b.length + 100 ≤ 1099511627776) {R : Type} (K : ByteArray → Option R) :
    ((purserref03_Uint.f x.1.1).bind fun r4 => bif decide ((((bytesS b).size + r4.size : Nat) : Int) ≤ 9223372036854775807) then ((purserref03_Uint.f x.1.2.1).bind fun r5 => bif decide (((((bytesS b) ++ r4).size + r5.size : Nat) : Int) ≤ 9223372036854775807) then ((purserref03_Uint.f x.1.2.2).bind fun r6 => bif decide ((((((bytesS b) ++ r4) ++ r5).size + r6.size : Nat) : Int) ≤ 9223372036854775807) then ((purserref03_Int.f x.2).bind fun r7 => bif decide (((((((bytesS b) ++ r4) ++ r5) ++ r6).size + r7.size : Nat) : Int) ≤ 9223372036854775807) then K ((((bytesS b ++ r4) ++ r5) ++ r6) ++ r7) else none) else none) else none) else none) = K (bytesS (b ++ legB x)) := by
  obtain ⟨h1, h2, h3, h4⟩ := h
  have e1 := gr10 (u := x.1.1.toNat) (by rw [q64]; omega)
  have e2 := gr10 (u := x.1.2.1.toNat) (by rw [q64]; omega)
  have e3 := gr10 (u := x.1.2.2.toNat) (by rw [q64]; omega)
  have e4 := gr10 (u := zig x.2) (zig_lt (by omega) (by omega))
  rw [ruint' _ h1.1 h1.2, Option.bind_some, szOk _ _ (by omega), cond_true, ruint' _ h2.1 h2.2, Option.bind_some, ← bytesS_app, szOk _ _ (by simp only [List.length_append]; omega), cond_true, ruint' _ h3.1 h3.2, Option.bind_some, ← bytesS_app, szOk _ _ (by simp only [List.length_append]; omega), cond_true,
    rint_eq _ (by omega) (by omega), Option.bind_some, ← bytesS_app, szOk _ _ (by simp only [List.length_append]; omega), cond_true, ← bytesS_app]
  unfold legB
  simp only [List.append_assoc]
theorem rwrite_eq (k : Int) (l : List RLeg) (h : chk k (l.map toL) = 0) : purserref07_Write.f (k, l) = some (bytesS (entB k (l.map toL))) := by
  obtain ⟨hk, hl, hs⟩ := chk_ok h
  rw [List.length_map] at hl
  have e1 := gr10 (u := k.toNat) (by rw [q64]; omega)
  have e2 := gr10 (u := l.length) (by rw [q64]; omega)
  unfold purserref07_Write.f
  dsimp only
  rw [ruint' k (by omega) (by omega), Option.bind_some, ruint_eq l.length (by rw [q63]; omega), Option.bind_some, szOk _ _ (by omega), cond_true]
  rw [loop_up (f := purserref07_Write.l3 (k, l)) (fun i => (bytesS (gr k.toNat ++ gr l.length ++ ((l.map toL).take i).flatMap legB), (i : Int))) l.length (b := bytesS (entB k (l.map toL))) (by simp [bytesS_app]) ?_ ?_]
  · rw [Option.bind_some]
  · intro i hi
    have hi' : i < (l.map toL).length := by simpa using hi
    have hm := hs _ (List.getElem_mem hi')
    have hf := flatB_len (l := (l.map toL).take i) (fun x hx => hs x (List.mem_of_mem_take hx))
    have hti : ((l.map toL).take i).length = i := by simp; omega
    have hel : (l.map toL)[i] = toL l[i] := by simp
    rw [hel] at hm
    unfold purserref07_Write.l3
    dsimp only
    rw [ilt hi, cond_true, nn, Bool.and_self, cond_true, at_ l i hi]
    refine (rwrite_leg _ (toL l[i]) hm (by simp only [List.length_append]; omega) (R := (ByteArray × Int) ⊕ ByteArray) (fun s => some (Sum.inl (s, IntKind.i64.wrap ((i : Int) + 1))))).trans ?_
    rw [wrS i (by omega), flat_snoc _ i hi', hel]
    simp
  · unfold purserref07_Write.l3
    dsimp only
    rw [ige, cond_false]
    congr 3
    have : (l.map toL).take l.length = l.map toL := by rw [List.take_of_length_le]; simp
    rw [this]
    unfold entB
    simp
end Go.Proofs.Ytfhcockdlfidmaa.Pure
