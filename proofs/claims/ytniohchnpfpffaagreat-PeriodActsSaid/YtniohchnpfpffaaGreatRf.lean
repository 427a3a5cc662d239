/- Plain laws: a purse's book; Roll. No statement of its own. -/
import Derived.Test.YtniohchnpfpffaaGreatRe
set_option linter.unusedSimpArgs false
set_option linter.unusedVariables false
namespace Go.Proofs.YtniohchnpfpffaaGreat.Pure
open Go.Vk Go.Am Go.Pg Go.Sort Go.Proofs.YtniohchnpfpffaaGreat.Y
abbrev zci (B : FB) : List Int := zdp (K := KI) (V := VA) B
theorem zit : zas KI = true := rfl
theorem eqI (a b : Int) : eqT KI a b = decide (a = b) := by
 by_cases h : a = b
 ·subst h; rw [zem (K := KI) rfl, decide_eq_true rfl]
 ·rw [zhk (K := KI) rfl h, decide_eq_false h]
theorem zBz {B : FB} {k : Int} (h : k ∉ zci B) : geA B k = V0 := by
 unfold geA
 rw [zig zit h]
 rfl
theorem zpv {B : FB} (h : (zci B).Nodup) (n : Int) (a : FA) (q : Int) : geA (setA B n a) q = if q = n then a else geA B q := by
 unfold setA
 by_cases ha : a = V0
 ·rw [if_pos ha]
  unfold geA
  rw [zky zit n q h, eqI]
  by_cases hq : q = n
  ·rw [decide_eq_true hq, cond_true, if_pos hq, ha]; rfl
  ·rw [decide_eq_false hq, cond_false, if_neg hq]
 ·rw [if_neg ha]
  exact zmk B n a q
structure BOk (B : FB) (N : Nat) : Prop where
 nod : (zci B).Nodup
 rng : ∀ k ∈ zci B, 1 ≤ k ∧ k ≤ 32
 nz : ∀ k ∈ zci B, geA B k ≠ V0
 ok : ∀ k, OkA (geA B k)
 len : B.length ≤ N
theorem BOk.key {B : FB} {N : Nat} (h : BOk B N) (k : Int) : k ∈ zci B ↔ geA B k ≠ V0 :=
 ⟨h.nz k, fun hz => Classical.byContradiction fun hn => hz (zBz hn)⟩
theorem mdel_len (B : FB) (n : Int) : (zhw KI VA B n).length = B.length := by
 induction B with
 | nil => rfl
 | cons x B ih =>
  cases x with
  | none => simp only [zhw, List.length_cons, ih]
  | some p =>
   obtain ⟨k, v⟩ := p
   simp only [zhw]
   cases eqT KI n k <;> simp [ih]
theorem zym (B : FB) (n : Int) (a : FA) : (zb3 KI VA B n a).length ≤ B.length + 1 := by
 induction B with
 | nil => simp [zb3]
 | cons x B ih =>
  cases x with
  | none => simp only [zb3, List.length_cons]; omega
  | some p =>
   obtain ⟨k, v⟩ := p
   simp only [zb3]
   cases eqT KI n k <;> simp <;> omega
theorem zxt {B : FB} {N : Nat} (h : BOk B N) {n : Int} (hn : 1 ≤ n ∧ n ≤ 32) {a : FA} (ha : OkA a) : BOk (setA B n a) (N + 1) := by
 have hg := zpv h.nod n a
 have hok : ∀ k, OkA (geA (setA B n a) k) := fun k => by
  rw [hg]
  split
  ·exact ha
  ·exact h.ok k
 by_cases hz : a = V0
 ·have hs : setA B n a = zhw KI VA B n := if_pos hz
  have hnod : (zci (zhw KI VA B n)).Nodup := zw3 zit h.nod n
  have hsub : ∀ k ∈ zci (zhw KI VA B n), k ∈ zci B ∧ k ≠ n := by
   intro k hk
   have h1 := (zch (V := VA) zit).2 hk
   rw [zky zit n k h.nod, eqI] at h1
   by_cases hq : k = n
   ·rw [decide_eq_true hq] at h1; simp at h1
   ·rw [decide_eq_false hq] at h1
    exact ⟨(zch (V := VA) zit).1 h1, hq⟩
  refine ⟨by rw [hs]; exact hnod, fun k hk => ?_, fun k hk => ?_, hok, by rw [hs, mdel_len]; have := h.len; omega⟩
  ·rw [hs] at hk; exact h.rng k (hsub k hk).1
  ·rw [hs] at hk
   rw [hg, if_neg (hsub k hk).2]
   exact h.nz k (hsub k hk).1
 ·have hs : setA B n a = zb3 KI VA B n a := if_neg hz
  have hmem : ∀ k ∈ zci (zb3 KI VA B n a), k = n ∨ k ∈ zci B := by
   intro k hk
   have h1 := (zch (V := VA) zit).2 hk
   rw [zk0 (K := KI) rfl, eqI] at h1
   by_cases hq : k = n
   ·exact .inl hq
   ·rw [decide_eq_false hq] at h1
    exact .inr ((zch (V := VA) zit).1 h1)
  refine ⟨by rw [hs]; exact zo7 zit h.nod n a, fun k hk => ?_, fun k hk => ?_, hok, by rw [hs]; have := zym B n a; have := h.len; omega⟩
  ·rw [hs] at hk
   rcases hmem k hk with rfl | hk
   ·exact hn
   ·exact h.rng k hk
  ·rw [hs] at hk
   rw [hg]
   by_cases hq : k = n
   ·rw [if_pos hq]; exact hz
   ·rw [if_neg hq]
    rcases hmem k hk with h1 | h1
    ·exact absurd h1 hq
    ·exact h.nz k h1
theorem BOk.mono {B : FB} {N M : Nat} (h : BOk B N) (hl : N ≤ M) : BOk B M := ⟨h.nod, h.rng, h.nz, h.ok, Nat.le_trans h.len hl⟩
theorem bok_new : BOk [] 0 := ⟨List.nodup_nil, fun k h => by simp [zdp, zk2] at h, fun k h => by simp [zdp, zk2] at h, fun k => okA0, Nat.le_refl _⟩
/-! ### the nodes that have an account -/
def nodes32 : List Int := (List.range 32).map fun i : Nat => ((i : Int) + 1)
theorem zf3 (n : Int) : n ∈ nodes32 ↔ 1 ≤ n ∧ n ≤ 32 := by
 unfold nodes32
 rw [List.mem_map]
 constructor
 ·rintro ⟨i, hi, rfl⟩
  rw [List.mem_range] at hi
  omega
 ·rintro ⟨h1, h2⟩
  exact ⟨(n - 1).toNat, by rw [List.mem_range]; omega, by omega⟩
theorem nodes_sorted : nodes32.Pairwise (fun a b => a ≤ b) := by decide
theorem nodes_nodup : nodes32.Nodup := by decide
def zc7 (B : FB) : List Int := nodes32.filter fun n => decide (geA B n ≠ V0)
theorem ks_mem {B : FB} {n : Int} : n ∈ zc7 B ↔ (1 ≤ n ∧ n ≤ 32) ∧ geA B n ≠ V0 := by
 unfold zc7
 rw [List.mem_filter, zf3, decide_eq_true_iff]
theorem zti {B : FB} {N : Nat} (h : BOk B N) {l1 : List Int} (hp : l1.Perm (zci B)) : (List.mergeSort (l1 : List Int) fun x y => decide (x ≤ y)) = zc7 B := by
 have hperm : (List.mergeSort (l1 : List Int) fun x y => decide (x ≤ y)).Perm (zc7 B) := by
  refine ((List.mergeSort_perm _ _).trans hp).trans ?_
  refine (List.perm_ext_iff_of_nodup h.nod (nodes_nodup.filter _)).2 fun k => ?_
  rw [show k ∈ nodes32.filter (fun n => decide (geA B n ≠ V0)) ↔ _ from ks_mem]
  constructor
  ·exact fun hk => ⟨h.rng k hk, h.nz k hk⟩
  ·exact fun hk => (h.key k).2 hk.2
 have hs1 : (List.mergeSort (l1 : List Int) fun x y => decide (x ≤ y)).Pairwise (fun a b : Int => a ≤ b) := by
  have := List.pairwise_mergeSort (le := fun x y : Int => decide (x ≤ y)) (fun a b c h1 h2 => by simp at *; omega) (fun a b => by simp; omega) l1
  exact this.imp (fun h => by simpa using h)
 exact List.Perm.eq_of_pairwise (le := fun a b : Int => a ≤ b) (fun a b _ _ h1 h2 => by omega) hs1 (nodes_sorted.filter _) hperm
theorem zz7 {B : FB} {N : Nat} (h : BOk B N) : KsOk B (zc7 B) := by
 refine ⟨fun n hn => (ks_mem.1 hn).1, fun n _ => h.ok n, nodes_nodup.filter _, ?_⟩
 have := List.length_filter_le (fun n => decide (geA B n ≠ V0)) nodes32
 exact Nat.le_trans this (by decide)
/-! ### Roll -/
theorem zCc (j : Jn) (h0 : 0 ≤ j.2.1) (h : j.2.1 < 31) (hm : j.2.2.2.length ≤ 1000) : journal_Journal_Close.f j = some ((j.1, (j.2.1 + 1, (j.2.2.1, j.2.2.2 ++ [[]]))), (j.2.1 + 1, 0)) := by
 obtain ⟨L, p, B, M⟩ := j
 simp only at h0 h hm
 unfold journal_Journal_Close.f
 simp only
 rw [wr (p + 1) (by omega) (by omega)]
 have e1 : (p + 1 == 32) = false := by simp; omega
 have e2 : decide (M.length + ([([] : Mp (.pair (.int .i64) (.pair (.int .i64) (.int .i64))) (.int .i64))] : List (Mp (.pair (.int .i64) (.pair (.int .i64) (.int .i64))) (.int .i64))).length ≤ 1099511627776) = true := by simp; omega
 rw [e1, e2]
 rfl
theorem zp1 (c : List Int) (B0 : FB) : ∀ (l : List Int) (B : FB) (N : Nat), BOk B N → (∀ n ∈ l, 1 ≤ n ∧ n ≤ 32) → (∀ n, OkA (geA B0 n)) →
  BOk (l.foldl (fun B' n => setA B' n (zkp (decide (n ∈ c)) (geA B0 n))) B) (N + l.length) ∧ ∀ q, geA (l.foldl (fun B' n => setA B' n (zkp (decide (n ∈ c)) (geA B0 n))) B) q = if q ∈ l then zkp (decide (q ∈ c)) (geA B0 q) else geA B q
 | [], B, N, h, _, _ => ⟨h, fun q => by simp⟩
 | n :: l, B, N, h, hr, ho => by
  obtain ⟨k1, k2⟩ := zp1 c B0 l (setA B n (zkp (decide (n ∈ c)) (geA B0 n))) (N + 1) (zxt h (hr n (by simp)) (rolA_ok (ho n))) (fun m hm => hr m (by simp [hm])) ho
  refine ⟨by rw [show N + (n :: l).length = N + 1 + l.length by simp; omega]; exact k1, fun q => ?_⟩
  rw [List.foldl_cons, k2, zpv h.nod]
  by_cases hq : q ∈ l
  ·rw [if_pos hq, if_pos (by simp [hq])]
  ·rw [if_neg hq]
   by_cases hqn : q = n
   ·subst hqn; rw [if_pos rfl, if_pos (by simp)]
   ·rw [if_neg hqn, if_neg (by simp [hq, hqn])]
theorem zvs (c : List Int) (hc : c.length ≤ 1000000) (B : FB) (N : Nat) (hB : BOk B N) (l16 : List Int) (hk : (List.mergeSort (l16 : List Int) fun x y => decide (x ≤ y)) = zc7 B) :
  za3 (period_Purse_Roll.l17 c l16) (0, 0, (), B) = some (zcj ((zc7 B).map (zbu c B)), (), zhf c B (zc7 B)) := by
 have hK := zz7 hB
 have hgb : ∀ i, i ≤ (zc7 B).length → 0 ≤ zcj (((zc7 B).take i).map (zbu c B)) ∧ zcj (((zc7 B).take i).map (zbu c B)) ≤ 9007199254740992 * (i : Int) := by
  intro i
  induction i with
  | zero => intro _; simp [zcj]
  | succ i ih =>
   intro hi
   have hi' : i < (zc7 B).length := by omega
   obtain ⟨h1, h2⟩ := ih (by omega)
   rw [zad _ i hi', List.map_append, zfd]
   have h3 := (hB.ok (zc7 B)[i]).left
   have h4 := zfo (hB.ok (zc7 B)[i])
   simp only [List.map_cons, List.map_nil, zcj, zbu]
   split <;> omega
 refine zap (fun i => (zcj (((zc7 B).take i).map (zbu c B)), (i : Int), (), zhf c B ((zc7 B).take i))) (zc7 B).length (by simp [zcj, zhf]) (fun i hi => ?_) ?_
 ·have hlen := hK.len
  have hm : (zc7 B)[i] ∈ zc7 B := List.getElem_mem hi
  have hct := zi9 c (zc7 B)[i] hc
  obtain ⟨k1, k2⟩ := zp1 c B ((zc7 B).take i) B N hB (fun n hn => hK.rng n (List.mem_of_mem_take hn)) hB.ok
  have hnt : (zc7 B)[i] ∉ (zc7 B).take i := by
   have h := hK.nod
   rw [← List.take_append_drop i (zc7 B), List.drop_eq_getElem_cons hi, List.nodup_append] at h
   exact fun hin => h.2.2 _ hin _ (List.mem_cons.2 (.inl rfl)) rfl
  have hge : geA (zhf c B ((zc7 B).take i)) (zc7 B)[i] = geA B (zc7 B)[i] := by
   rw [show zhf c B ((zc7 B).take i) = _ from rfl] at *
   have := k2 (zc7 B)[i]
   rw [if_neg hnt] at this
   exact this
  have hb := zCf (zhf c B ((zc7 B).take i)) (zc7 B)[i] (decide ((zc7 B)[i] ∈ c)) (hK.rng _ hm) (by rw [hge]; exact hB.ok _)
  rw [hge] at hb
  obtain ⟨g1, g2⟩ := hgb i (by omega)
  obtain ⟨g3, g4⟩ := hgb (i + 1) (by omega)
  unfold period_Purse_Roll.l17
  simp only [hk]
  rw [ilt hi, nn, Bool.and_self, cond_true, cond_true, at_ _ i hi, hct, Option.bind_some, hb, Option.bind_some]
  have e0 : ((0 : Int) == 0) = true := rfl
  simp only
  rw [e0, cond_true, Option.bind_some, wrS i (by omega)]
  have hs : zcj (((zc7 B).take (i + 1)).map (zbu c B)) = zcj (((zc7 B).take i).map (zbu c B)) + (if decide ((zc7 B)[i] ∈ c) then 0 else zaw (geA B (zc7 B)[i])) := by
   rw [zad _ i hi, List.map_append, zfd]
   simp only [List.map_cons, List.map_nil, zcj, zbu]
   by_cases hin : (zc7 B)[i] ∈ c <;> simp [hin]
  have hr : zhf c B ((zc7 B).take (i + 1)) = setA (zhf c B ((zc7 B).take i)) (zc7 B)[i] (zkp (decide ((zc7 B)[i] ∈ c)) (geA B (zc7 B)[i])) := by
   rw [zad _ i hi]
   unfold zhf
   rw [List.foldl_append]
   rfl
  rw [hr, hs]
  rw [hs] at g3 g4
  rw [wr _ (by omega) (by omega)]
 ·unfold period_Purse_Roll.l17
  simp only [hk, List.take_length]
  rw [ige]
  rfl
theorem roll_p {B : FB} {N : Nat} (hB : BOk B N) (hN : N ≤ 1000000) {j : Jn} {p m : Nat} (hJ : JI p m j) (hm : m ≤ 900000) (hp : p ≤ 31) (c : List Int) (hc : c.length ≤ 1000000) :
  period_Purse_Roll.f (B, j) c = some (if p = 31 ∨ j.1.length + (zae c B (zc7 B)).length > 16384 then ((B, j), (0, 10)) else ((zhf c B (zc7 B), zA3 (zao j (zae c B (zc7 B)))), (zcj ((zc7 B).map (zbu c B)), 0))) := by
 have hble : Nat.ble B.length 1099511627776 = true := Nat.ble_eq_true_of_le (by have := hB.len; omega)
 have hkl : ∀ l1 : List Int, l1.Perm (zci B) → Nat.ble (List.length l1) 1099511627776 = true := fun l1 h => Nat.ble_eq_true_of_le (by
  rw [h.length_eq]
  have : (zci B).length ≤ B.length := by unfold zci zdp zk2; rw [List.length_map]; exact List.length_filterMap_le _ _
  have := hB.len
  omega)
 have hK := zz7 hB
 have hgl : (zae c B (zc7 B)).length ≤ 32 := Nat.le_trans (zdq _ _ _) hK.len
 have hjl := hJ.list
 unfold period_Purse_Roll.f
 simp only
 rw [hble, cond_true]
 refine zdt fun l1 hl1 => ?_
 have hl1 : l1.Perm (zci B) := hl1
 have hs1 := zti hB hl1
 rw [hkl l1 hl1, cond_true, zzg c hc B l1 (zc7 B) hs1 hK, Option.bind_some]
 rw [show journal_Journal_Period.f (j.1, (j.2.1, (j.2.2.1, j.2.2.2))) = some (j, j.2.1) from rfl, Option.bind_some]
 simp only
 rw [hJ.per, wrS p (by omega)]
 by_cases h31 : p = 31
 ·rw [if_pos (.inl h31), show (((p + 1 : Nat) : Int) == 32) = true by simp; omega, Bool.not_true, cond_false, Option.bind_some]
  simp only
  rw [cond_true, ← hJ.per]
 ·rw [show (((p + 1 : Nat) : Int) == 32) = false by simp; omega, Bool.not_false, cond_true]
  rw [show journal_Journal_Len.f (j.1, (((p : Nat) : Int), (j.2.2.1, j.2.2.2))) = some (j, (j.1.length : Int)) by rw [← hJ.per]; rfl, Option.bind_some, Option.bind_some]
  simp only
  rw [show IntKind.i64.wrap ((j.1.length : Int) + ((zae c B (zc7 B)).length : Int)) = ((j.1.length + (zae c B (zc7 B)).length : Nat) : Int) by rw [wr _ (by omega) (by omega)]; omega]
  by_cases hf : j.1.length + (zae c B (zc7 B)).length > 16384
  ·rw [if_pos (.inr hf), show decide (((j.1.length + (zae c B (zc7 B)).length : Nat) : Int) > 16384) = true by simp; omega, cond_true]
  ·rw [if_neg (fun h => by rcases h with h | h; exact h31 h; exact hf h), show decide (((j.1.length + (zae c B (zc7 B)).length : Nat) : Int) > 16384) = false by simp; omega, cond_false]
   rw [zvy (zae c B (zc7 B)) B j hJ (by omega) (fun e he => zwl he), Option.bind_some]
   simp only
   rw [hble, cond_true]
   have hP := zh1 (zae c B (zc7 B)) hJ
   refine zdt fun l16 hl16 => ?_
   have hl16 : l16.Perm (zci B) := hl16
   rw [hkl l16 hl16, cond_true, zvs c hc B N hB l16 (zti hB hl16), Option.bind_some]
   rw [show ((zao j (zae c B (zc7 B))).1, ((zao j (zae c B (zc7 B))).2.1, ((zao j (zae c B (zc7 B))).2.2.1, (zao j (zae c B (zc7 B))).2.2.2))) = zao j (zae c B (zc7 B)) from rfl]
   rw [zCc _ (by rw [hP.per]; omega) (by rw [hP.per]; omega) (by have := hP.mov; omega), Option.bind_some]
   rfl
theorem zCd {p m : Nat} {j : Jn} (h : JI p m j) (hp : p < 31) : JI (p + 1) m (zA3 j) :=
 ⟨by show j.2.1 + 1 = _; rw [h.per]; omega, by show (j.2.2.2 ++ [[]]).length = _; rw [List.length_append, h.mov]; rfl, by omega, h.list⟩
theorem zB4 (c : List Int) {B : FB} {N : Nat} (hB : BOk B N) : BOk (zhf c B (zc7 B)) (N + 32) ∧ ∀ q, geA (zhf c B (zc7 B)) q = if geA B q = V0 then V0 else zkp (decide (q ∈ c)) (geA B q) := by
 have hK := zz7 hB
 obtain ⟨k1, k2⟩ := zp1 c B (zc7 B) B N hB hK.rng hB.ok
 refine ⟨k1.mono (by have := hK.len; omega), fun q => ?_⟩
 rw [show geA (zhf c B (zc7 B)) q = _ from k2 q]
 by_cases hz : geA B q = V0
 ·rw [if_pos hz, if_neg (fun h => (ks_mem.1 h).2 hz), hz]
 ·rw [if_neg hz, if_pos (ks_mem.2 ⟨hB.rng q ((hB.key q).2 hz), hz⟩)]
end Go.Proofs.YtniohchnpfpffaaGreat.Pure
