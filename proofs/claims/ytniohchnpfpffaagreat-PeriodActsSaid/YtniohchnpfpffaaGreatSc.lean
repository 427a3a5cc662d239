/- Plain laws: what Hold, Release, Commit, Refund, TopUp do to the accounts, the program's and the document's. No statement of its own. -/
import Derived.Test.YtniohchnpfpffaaGreatSb
set_option linter.unusedSimpArgs false
set_option linter.unusedVariables false
namespace Go.Proofs.YtniohchnpfpffaaGreat.Pure
open Go.Vk Go.Am Go.Pg Go.Sort Go.Proofs.YtniohchnpfpffaaGreat.Y
/-! ### accounts that are set -/
def zbk (F : Int → FA) (B : FB) (l : List Int) : FB := l.foldl (fun B' n => setA B' n (F n)) B
theorem zeb (F : Int → FA) : ∀ (l : List Int) (B : FB) (N : Nat), BOk B N → (∀ n ∈ l, 1 ≤ n ∧ n ≤ 32) → (∀ n ∈ l, OkA (F n)) →
  BOk (zbk F B l) (N + l.length) ∧ ∀ q, geA (zbk F B l) q = if q ∈ l then F q else geA B q
 | [], B, N, h, _, _ => ⟨h, fun q => by simp [zbk]⟩
 | n :: l, B, N, h, hr, ho => by
  obtain ⟨k1, k2⟩ := zeb F l (setA B n (F n)) (N + 1) (zxt h (hr n (by simp)) (ho n (by simp))) (fun m hm => hr m (by simp [hm])) (fun m hm => ho m (by simp [hm]))
  refine ⟨by rw [show N + (n :: l).length = N + 1 + l.length by simp; omega]; exact k1, fun q => ?_⟩
  show geA (zbk F (setA B n (F n)) l) q = _
  rw [k2, zpv h.nod]
  by_cases hq : q ∈ l
  ·rw [if_pos hq, if_pos (by simp [hq])]
  ·rw [if_neg hq]
   by_cases hqn : q = n
   ·subst hqn; rw [if_pos rfl, if_pos (by simp)]
   ·rw [if_neg hqn, if_neg (by simp [hq, hqn])]
def zai (F : Int → FA) (As : List FA) (l : List Int) : List FA := l.foldl (fun A n => A.set n.toNat (F n)) As
theorem zal (F : Int → FA) : ∀ (l : List Int) (As : List FA), (zai F As l).length = As.length
 | [], As => rfl
 | n :: l, As => by
  show (zai F (As.set n.toNat (F n)) l).length = _
  rw [zal F l, List.length_set]
theorem zdn (F : Int → FA) : ∀ (l : List Int) (As : List FA), As.length = 33 → (∀ n ∈ l, 1 ≤ n ∧ n ≤ 32) → ∀ q : Nat, q < 33 → (zai F As l).getD q V0 = if (q : Int) ∈ l then F (q : Int) else As.getD q V0
 | [], As, h, _, q, hq => by simp [zai]
 | n :: l, As, h, hr, q, hq => by
  show (zai F (As.set n.toNat (F n)) l).getD q V0 = _
  obtain ⟨hn1, hn2⟩ := hr n (by simp)
  rw [zdn F l (As.set n.toNat (F n)) (by rw [List.length_set]; exact h) (fun m hm => hr m (by simp [hm])) q hq]
  by_cases hm : (q : Int) ∈ l
  ·rw [if_pos hm, if_pos (by simp [hm])]
  ·rw [if_neg hm]
   rw [List.getD_eq_getElem?_getD, List.getElem?_set]
   by_cases hqn : (q : Int) = n
   ·subst hqn
    rw [Int.toNat_natCast, if_pos rfl, if_pos (by omega), if_pos (by simp)]
    rfl
   ·rw [if_neg (by omega), if_neg (by simp [hm, hqn]), ← List.getD_eq_getElem?_getD]
def zbb (du dh : Int) (a : FA) : FA := (a.1, a.2.1, a.2.2.1, a.2.2.2.1 + du, a.2.2.2.2 + dh)
structure BRel (N : Nat) (B : FB) (As : List FA) : Prop where
 ok : BOk B N
 len : As.length = 33
 get : ∀ n : Nat, n < 33 → As.getD n V0 = geA B n
theorem BRel.at {N : Nat} {B : FB} {As : List FA} (h : BRel N B As) {n : Int} (hn : 1 ≤ n ∧ n ≤ 32) : As.getD n.toNat V0 = geA B n := by
 rw [h.get n.toNat (by omega), show ((n.toNat : Nat) : Int) = n by omega]
theorem BRel.arr {N : Nat} {B : FB} {As : List FA} (h : BRel N B As) : zaa V0 33 As = As := za5 h.len
theorem BRel.sets {N : Nat} {B : FB} {As : List FA} (h : BRel N B As) {F : Int → FA} {l : List Int} (hr : ∀ n ∈ l, 1 ≤ n ∧ n ≤ 32) (ho : ∀ n ∈ l, OkA (F n)) : BRel (N + l.length) (zbk F B l) (zai F As l) := by
 obtain ⟨k1, k2⟩ := zeb F l B N h.ok hr ho
 refine ⟨k1, by rw [zal]; exact h.len, fun n hn => ?_⟩
 rw [zdn F l As h.len hr n hn, k2, h.get n hn]
theorem zdg {l : List Int} (h : l.Nodup) (i : Nat) (hi : i < l.length) : l[i] ∉ l.take i := by
 rw [← List.take_append_drop i l, List.drop_eq_getElem_cons hi, List.nodup_append] at h
 exact fun hin => h.2.2 _ hin _ (List.mem_cons.2 (.inl rfl)) rfl
theorem zpe {B : FB} {N : Nat} (hB : BOk B N) {l : List Int} (hl : PathP l) (du dh : Int) (ho : ∀ n ∈ l, OkA (zbb du dh (geA B n))) :
  funds_Book_move.f B l (0, (0, (0, (du, dh)))) = some (zbk (fun n => zbb du dh (geA B n)) B l, ()) := by
 unfold funds_Book_move.f
 have hloop : za3 (funds_Book_move.l1 l (0, (0, (0, (du, dh))))) (0, (), B) = some ((), zbk (fun n => zbb du dh (geA B n)) B l) := by
  refine zap (fun i => ((i : Int), (), zbk (fun n => zbb du dh (geA B n)) B (l.take i))) l.length (by simp [zbk]) (fun i hi => ?_) ?_
  ·have hm : l[i] ∈ l := List.getElem_mem hi
   have hlen := hl.len
   obtain ⟨k1, k2⟩ := zeb (fun n => zbb du dh (geA B n)) (l.take i) B N hB (fun n hn => hl.rng n (List.mem_of_mem_take hn)) (fun n hn => ho n (List.mem_of_mem_take hn))
   have hg := k2 l[i]
   rw [if_neg (zdg hl.nod i hi)] at hg
   obtain ⟨o1, o2, o3, o4, o5, o6, o7⟩ := ho _ hm
   simp only [zbb] at o4 o5
   unfold funds_Book_move.l1
   simp only [zaf]
   rw [ilt hi, nn, Bool.and_self, cond_true, cond_true, at_ l i hi]
   rw [show (((zav (.int .i64) (.pair (.int .i64) (.pair (.int .i64) (.pair (.int .i64) (.pair (.int .i64) (.int .i64))))) (zbk (fun n => zbb du dh (geA B n)) B (l.take i)) l[i]).getD ((0, (0, (0, (0, 0)))) : Int × Int × Int × Int × Int))) = geA (zbk (fun n => zbb du dh (geA B n)) B (l.take i)) l[i] from rfl, hg]
   rw [wr _ (by omega) (by omega), wr _ (by omega) (by omega), zqt, Option.bind_some, wrS i (by omega)]
   have hs : zbk (fun n => zbb du dh (geA B n)) B (l.take (i + 1)) = setA (zbk (fun n => zbb du dh (geA B n)) B (l.take i)) l[i] (zbb du dh (geA B l[i])) := by
    rw [zad l i hi]
    unfold zbk
    rw [List.foldl_append]
    rfl
   rw [hs]
   rfl
  ·unfold funds_Book_move.l1
   simp only [List.take_length]
   rw [ige]
   rfl
 rw [hloop]
 rfl
theorem left5 {a : FA} (h : OkA a) : funds_Account_left.f (a.1, (a.2.1, (a.2.2.1, (a.2.2.2.1, a.2.2.2.2)))) = some (zaw a) := zpl h
theorem zy6 {a : FA} (h : OkA a) : purserref14_Account_Left.f (a.1, (a.2.1, (a.2.2.1, (a.2.2.2.1, a.2.2.2.2)))) = some (zaw a) := zpl h
/-! ### Hold -/
def zip (g : Int → FA) (l lim : List Int) (a : Int) (i : Nat) : Option Int :=
 if zaw (g (l.getD i 0)) < a then some 9 else if lim.getD i 0 ≥ 0 ∧ (g (l.getD i 0)).2.2.2.1 + (g (l.getD i 0)).2.2.2.2 + a > lim.getD i 0 then some 18 else none
def zeu (g : Int → FA) (l lim : List Int) (a : Int) : Int := if zjr l lim = true ∧ zbv a = true then (zax (zip g l lim a) 0 l.length).getD 0 else 1
theorem zaz (a : Int) : zbv a = true ↔ 1 ≤ a ∧ a ≤ 9007199254740992 := by simp [zbv]
theorem zth {l lim : List Int} (h : zjr l lim = true) : PathP l ∧ lim.length = l.length ∧ ∀ i, i < l.length → -1 ≤ lim.getD i 0 ∧ lim.getD i 0 ≤ 9007199254740992 := by
 unfold zjr at h
 simp only [Bool.and_eq_true, decide_eq_true_eq, Option.isNone_iff_eq_none] at h
 refine ⟨zcu h.1, h.2.1, fun i hi => ?_⟩
 have := zb4 h.2.2 i (by omega) (by omega)
 unfold zz0 at this
 split at this
 ·cases this
 ·omega
theorem zpq {g : Int → FA} {l lim : List Int} {a : Int} {d i : Nat} {b : Int} (h : zax (zip g l lim a) i d = some b) : b ≠ 0 := by
 obtain ⟨k, _, _, h3⟩ := zca h
 unfold zip at h3
 split at h3
 ·rw [← Option.some.inj h3]; decide
 ·split at h3
  ·rw [← Option.some.inj h3]; decide
  ·cases h3
theorem zpo {B : FB} {N : Nat} (hB : BOk B N) {l lim : List Int} {a : Int} (h : zeu (geA B) l lim a = 0) : PathP l ∧ zjr l lim = true ∧ zbv a = true ∧ zax (zip (geA B) l lim a) 0 l.length = none ∧ ∀ n ∈ l, OkA (zbb 0 a (geA B n)) := by
 unfold zeu at h
 split at h
 ·rename_i hc
  obtain ⟨hP, hll, _⟩ := zth hc.1
  have ha := (zaz a).1 hc.2
  have hn : zax (zip (geA B) l lim a) 0 l.length = none := by
   cases hf : zax (zip (geA B) l lim a) 0 l.length with
   | none => rfl
   | some b => rw [hf] at h; exact absurd h (zpq hf)
  refine ⟨hP, hc.1, hc.2, hn, fun n hn2 => ?_⟩
  obtain ⟨k, hk, rfl⟩ := List.getElem_of_mem hn2
  have h1 := zb4 hn k (by omega) (by omega)
  unfold zip at h1
  rw [zkl l k hk] at h1
  split at h1
  ·cases h1
  ·rename_i hlt
   obtain ⟨o1, o2, o3, o4, o5, o6, o7⟩ := hB.ok l[k]
   unfold zaw at hlt o7
   refine ⟨o1, o2, o3, ?_, ?_, o6, ?_⟩
   ·simp only [zbb]; omega
   ·simp only [zbb]; omega
   ·simp only [zbb, zaw]; omega
 ·cases h
theorem zzd {B : FB} {N : Nat} (hB : BOk B N) (l lim : List Int) (a : Int) :
  funds_Book_Hold.f B l lim a = some (if zeu (geA B) l lim a = 0 then zbk (fun n => zbb 0 a (geA B n)) B l else B, zeu (geA B) l lim a) := by
 unfold funds_Book_Hold.f
 rw [zwe, Option.bind_some]
 simp only [zaf]
 by_cases hc : zjr l lim = true ∧ zbv a = true
 ·obtain ⟨hP, hll, hlr⟩ := zth hc.1
  have ha := (zaz a).1 hc.2
  have hlen := hP.len
  rw [hc.1, Bool.not_true, Bool.not_false, cond_true, zcs, Option.bind_some, hc.2, Option.bind_some]
  simp only [zaf]
  rw [Bool.not_true, cond_false]
  have h1 : za3 (funds_Book_Hold.l4 l lim a (false, (), B)) 0 = some (zaf (zax (zip (geA B) l lim a) 0 l.length)) := by
   refine zbo l.length _ (fun i hi => ?_) ?_
   ·have hok := hB.ok l[i]
    obtain ⟨o1, o2, o3, o4, o5, o6, o7⟩ := hok
    unfold funds_Book_Hold.l4
    simp only [zaf]
    rw [ilt hi, nn, Bool.and_self, cond_true, cond_true, at_ l i hi]
    rw [show (((zav (.int .i64) (.pair (.int .i64) (.pair (.int .i64) (.pair (.int .i64) (.pair (.int .i64) (.int .i64))))) B l[i]).getD ((0, (0, (0, (0, 0)))) : Int × Int × Int × Int × Int))) = geA B l[i] from rfl]
    rw [left5 (hB.ok l[i]), Option.bind_some]
    unfold zip
    rw [zkl l i hi]
    by_cases h9 : zaw (geA B l[i]) < a
    ·rw [decide_eq_true h9, if_pos h9]; rfl
    ·rw [decide_eq_false h9, if_neg h9, cond_false, ilt (show i < lim.length by omega), Bool.and_self, cond_true, Int.toNat_natCast]
     have hli := hlr i hi
     generalize lim.getD i 0 = q at hli ⊢
     by_cases hm : q = -1
     ·rw [show (q != -1) = false by simp [hm], cond_false, Option.bind_some, cond_false, if_neg (by omega), wrS i (by omega)]
     ·rw [show (q != -1) = true by simp [hm], cond_true, cond_true, Option.bind_some]
      rw [wr ((geA B l[i]).2.2.2.1 + (geA B l[i]).2.2.2.2) (by omega) (by omega), wr _ (by omega) (by omega)]
      by_cases h18 : (geA B l[i]).2.2.2.1 + (geA B l[i]).2.2.2.2 + a > q
      ·rw [decide_eq_true h18, if_pos ⟨by omega, h18⟩]; rfl
      ·rw [decide_eq_false h18, if_neg (fun h => h18 h.2), cond_false, wrS i (by omega)]
   ·unfold funds_Book_Hold.l4
    rw [ige]; rfl
  rw [h1, Option.bind_some]
  cases hf : zax (zip (geA B) l lim a) 0 l.length with
  | some b =>
   have he : zeu (geA B) l lim a = b := by unfold zeu; rw [if_pos hc, hf]; rfl
   rw [he, if_neg (zpq hf)]
   rfl
  | none =>
   have he : zeu (geA B) l lim a = 0 := by unfold zeu; rw [if_pos hc, hf]; rfl
   rw [he, if_pos rfl]
   simp only [zaf]
   rw [zpe hB hP 0 a (zpo hB he).2.2.2.2]
   rfl
 ·have he : zeu (geA B) l lim a = 1 := by unfold zeu; rw [if_neg hc]
  rw [he, if_neg (by decide)]
  cases h1 : zjr l lim with
  | false => rfl
  | true =>
   have h2 : zbv a = false := by
    cases h2 : zbv a with
    | false => rfl
    | true => exact absurd ⟨h1, h2⟩ hc
   rw [Bool.not_true, Bool.not_false, cond_true, zcs, Option.bind_some, h2]
   rfl
theorem zlp {n : Int} (h : 1 ≤ n ∧ n ≤ 32) : (decide (0 ≤ n) && decide (n < (33 : Int))) = true := by simp; omega
theorem zpp {N : Nat} {B : FB} {As : List FA} (hR : BRel N B As) (J : RJ) (l lim : List Int) (a : Int) {A2 : List FA} {J2 : RJ} {r : Int} (hA2 : A2.length = 33)
  (hp : purserref15_Purse_post.f (if zeu (geA B) l lim a = 0 then zai (fun n => zbb 0 a (geA B n)) As l else As, J) As (zeu (geA B) l lim a) 2 a l 0 = some ((A2, J2), r)) :
  purserref15_Purse_Hold.f (As, J) l lim a = some ((A2, J2), r) := by
 have hA : zaa V0 33 As = As := hR.arr
 have hA2' : zaa V0 33 A2 = A2 := za5 hA2
 unfold purserref15_Purse_Hold.f
 simp only [zaf]
 rw [zt0, Option.bind_some, hA]
 by_cases hc : zjr l lim = true ∧ zbv a = true
 ·obtain ⟨hP, hll, hlr⟩ := zth hc.1
  have ha := (zaz a).1 hc.2
  have hlen := hP.len
  rw [hc.1, Bool.not_true, Bool.not_false, cond_true, zet, hc.2, Option.bind_some, Bool.not_true, cond_false]
  have h1 : za3 (purserref15_Purse_Hold.l4 (As, J) l lim a) 0 = some (zaf (zax (zip (geA B) l lim a) 0 l.length)) := by
   refine zbo l.length _ (fun i hi => ?_) ?_
   ·have hok := hR.ok.ok l[i]
    have hr := hP.rng _ (List.getElem_mem hi)
    obtain ⟨o1, o2, o3, o4, o5, o6, o7⟩ := hok
    unfold purserref15_Purse_Hold.l4
    simp only [zaf]
    rw [ilt hi, nn, Bool.and_self, cond_true, cond_true, at_ l i hi, zlp hr, cond_true, hA, hR.at hr]
    rw [zy6 (hR.ok.ok l[i]), Option.bind_some]
    unfold zip
    rw [zkl l i hi]
    by_cases h9 : zaw (geA B l[i]) < a
    ·rw [decide_eq_true h9, if_pos h9]; rfl
    ·rw [decide_eq_false h9, if_neg h9, cond_false, ilt (show i < lim.length by omega), Bool.and_self, cond_true, Int.toNat_natCast]
     have hli := hlr i hi
     generalize lim.getD i 0 = q at hli ⊢
     by_cases hm : q = -1
     ·rw [show decide (q ≥ 0) = false by simp; omega, cond_false, Option.bind_some, cond_false, Option.bind_some, if_neg (by omega)]
      simp only [zaf]
      rw [wrS i (by omega)]
     ·rw [show decide (q ≥ 0) = true by simp; omega, cond_true, cond_true, Option.bind_some]
      rw [wr ((geA B l[i]).2.2.2.1 + (geA B l[i]).2.2.2.2) (by omega) (by omega), wr _ (by omega) (by omega)]
      by_cases h18 : (geA B l[i]).2.2.2.1 + (geA B l[i]).2.2.2.2 + a > q
      ·rw [decide_eq_true h18, if_pos ⟨by omega, h18⟩]; rfl
      ·rw [decide_eq_false h18, if_neg (fun h => h18 h.2), cond_false, Option.bind_some]
       simp only [zaf]
       rw [wrS i (by omega)]
   ·unfold purserref15_Purse_Hold.l4
    rw [ige]; rfl
  rw [h1, Option.bind_some]
  cases hf : zax (zip (geA B) l lim a) 0 l.length with
  | some b =>
   have he : zeu (geA B) l lim a = b := by unfold zeu; rw [if_pos hc, hf]; rfl
   rw [he, if_neg (zpq hf)] at hp
   simp only [zaf]
   rw [show ((As, (J.1, (J.2.1, J.2.2))) : List FA × RJ) = (As, J) from rfl, hp, Option.bind_some, Option.bind_some]
   simp only [zaf]
   rw [hA2', hA2']
  | none =>
   have he : zeu (geA B) l lim a = 0 := by unfold zeu; rw [if_pos hc, hf]; rfl
   rw [he, if_pos rfl] at hp
   simp only [zaf]
   have hok := (zpo hR.ok he).2.2.2.2
   have hset : (zai (fun n => zbb 0 a (geA B n)) As l).length = 33 := by rw [zal]; exact hR.len
   have hloop : za3 (purserref15_Purse_Hold.l14 l a) (0, (), As, J.1, J.2.1, J.2.2) = some ((), zai (fun n => zbb 0 a (geA B n)) As l, J.1, J.2.1, J.2.2) := by
    refine zap (fun i => ((i : Int), (), zai (fun n => zbb 0 a (geA B n)) As (l.take i), J.1, J.2.1, J.2.2)) l.length (by simp [zai]) (fun i hi => ?_) ?_
    ·have hr := hP.rng _ (List.getElem_mem hi)
     have hsl : (zai (fun n => zbb 0 a (geA B n)) As (l.take i)).length = 33 := by rw [zal]; exact hR.len
     have hg := zdn (fun n => zbb 0 a (geA B n)) (l.take i) As hR.len (fun n hn => hP.rng n (List.mem_of_mem_take hn)) l[i].toNat (by omega)
     rw [show ((l[i].toNat : Nat) : Int) = l[i] by omega, if_neg (zdg hP.nod i hi), hR.at hr] at hg
     obtain ⟨o1, o2, o3, o4, o5, o6, o7⟩ := hok _ (List.getElem_mem hi)
     simp only [zbb] at o5
     unfold purserref15_Purse_Hold.l14
     simp only [zaf]
     rw [ilt hi, nn, Bool.and_self, cond_true, cond_true, cond_true, at_ l i hi, zlp hr, cond_true, cond_true, za5 hsl, hg]
     rw [za5 (show (List.set _ _ _).length = 33 by rw [List.length_set]; exact hsl), wrS i (by omega), wr _ (by omega) (by omega)]
     have hs : zai (fun n => zbb 0 a (geA B n)) As (l.take (i + 1)) = (zai (fun n => zbb 0 a (geA B n)) As (l.take i)).set l[i].toNat (zbb 0 a (geA B l[i])) := by
      rw [zad l i hi]
      unfold zai
      rw [List.foldl_append]
      rfl
     rw [hs]
     simp only [zbb, Int.add_zero]
    ·unfold purserref15_Purse_Hold.l14
     simp only [List.take_length]
     rw [ige, za5 hset]
     rfl
   rw [hloop, Option.bind_some]
   simp only [zaf]
   rw [za5 hset, show ((zai (fun n => zbb 0 a (geA B n)) As l, (J.1, (J.2.1, J.2.2))) : List FA × RJ) = (zai (fun n => zbb 0 a (geA B n)) As l, J) from rfl, hp, Option.bind_some, Option.bind_some]
   simp only [zaf]
   rw [hA2', hA2']
 ·have he : zeu (geA B) l lim a = 1 := by unfold zeu; rw [if_neg hc]
  rw [he, if_neg (by decide)] at hp
  have hx : (((bif !(!zjr l lim) then (bif !(decide (a < 1)) then (some (decide (a > 9007199254740992))) else (some true)) else (some true)) : Option Bool)) = some true := by
   cases h1 : zjr l lim with
   | false => rfl
   | true =>
    have h2 : zbv a = false := by
     cases h2 : zbv a with
     | false => rfl
     | true => exact absurd ⟨h1, h2⟩ hc
    rw [Bool.not_true, Bool.not_false, cond_true, zet, h2]
    rfl
  rw [hx, Option.bind_some, cond_true, show ((As, (J.1, (J.2.1, J.2.2))) : List FA × RJ) = (As, J) from rfl, hp, Option.bind_some, Option.bind_some]
  simp only [zaf]
  rw [hA2', hA2']
/-! ### Release -/
def zcc (g : Int → FA) (l : List Int) (a : Int) (i : Nat) : Option Int := if (g (l.getD i 0)).2.2.2.2 < a then some 20 else none
def zb7 (g : Int → FA) (l : List Int) (a : Int) : Int := if zbs l = true ∧ zbv a = true then (zax (zcc g l a) 0 l.length).getD 0 else 1
theorem zhp {g : Int → FA} {l : List Int} {a : Int} {d i : Nat} {b : Int} (h : zax (zcc g l a) i d = some b) : b ≠ 0 := by
 obtain ⟨k, _, _, h3⟩ := zca h
 unfold zcc at h3
 split at h3
 ·rw [← Option.some.inj h3]; decide
 ·cases h3
theorem zpi {B : FB} {N : Nat} (hB : BOk B N) {l : List Int} {a : Int} (h : zb7 (geA B) l a = 0) : PathP l ∧ zbs l = true ∧ zbv a = true ∧ zax (zcc (geA B) l a) 0 l.length = none ∧ ∀ n ∈ l, OkA (zbb 0 (-a) (geA B n)) := by
 unfold zb7 at h
 split at h
 ·rename_i hc
  have hP := zcu hc.1
  have ha := (zaz a).1 hc.2
  have hn : zax (zcc (geA B) l a) 0 l.length = none := by
   cases hf : zax (zcc (geA B) l a) 0 l.length with
   | none => rfl
   | some b => rw [hf] at h; exact absurd h (zhp hf)
  refine ⟨hP, hc.1, hc.2, hn, fun n hn2 => ?_⟩
  obtain ⟨k, hk, rfl⟩ := List.getElem_of_mem hn2
  have h1 := zb4 hn k (by omega) (by omega)
  unfold zcc at h1
  rw [zkl l k hk] at h1
  split at h1
  ·cases h1
  ·rename_i hlt
   obtain ⟨o1, o2, o3, o4, o5, o6, o7⟩ := hB.ok l[k]
   unfold zaw at o7
   refine ⟨o1, o2, o3, ?_, ?_, o6, ?_⟩
   ·simp only [zbb]; omega
   ·simp only [zbb]; omega
   ·simp only [zbb, zaw]; omega
 ·cases h
theorem zBj {B : FB} {N : Nat} (hB : BOk B N) (l : List Int) (a : Int) :
  funds_Book_Release.f B l a = some (if zb7 (geA B) l a = 0 then zbk (fun n => zbb 0 (-a) (geA B n)) B l else B, zb7 (geA B) l a) := by
 unfold funds_Book_Release.f
 rw [zlb, Option.bind_some]
 simp only [zaf]
 by_cases hc : zbs l = true ∧ zbv a = true
 ·have hP := zcu hc.1
  have ha := (zaz a).1 hc.2
  have hlen := hP.len
  rw [hc.1, Bool.not_true, Bool.not_false, cond_true, zcs, Option.bind_some, hc.2, Option.bind_some]
  simp only [zaf]
  rw [Bool.not_true, cond_false]
  have h1 : za3 (funds_Book_Release.l4 l a (false, (), B)) 0 = some (zaf (zax (zcc (geA B) l a) 0 l.length)) := by
   refine zbo l.length _ (fun i hi => ?_) ?_
   ·unfold funds_Book_Release.l4
    simp only [zaf]
    rw [ilt hi, nn, Bool.and_self, cond_true, cond_true, at_ l i hi]
    rw [show (((zav (.int .i64) (.pair (.int .i64) (.pair (.int .i64) (.pair (.int .i64) (.pair (.int .i64) (.int .i64))))) B l[i]).getD ((0, (0, (0, (0, 0)))) : Int × Int × Int × Int × Int))) = geA B l[i] from rfl]
    unfold zcc
    rw [zkl l i hi]
    by_cases h9 : (geA B l[i]).2.2.2.2 < a
    ·rw [decide_eq_true h9, if_pos h9]; rfl
    ·rw [decide_eq_false h9, if_neg h9, cond_false, wrS i (by omega)]
   ·unfold funds_Book_Release.l4
    rw [ige]; rfl
  rw [h1, Option.bind_some]
  cases hf : zax (zcc (geA B) l a) 0 l.length with
  | some b =>
   have he : zb7 (geA B) l a = b := by unfold zb7; rw [if_pos hc, hf]; rfl
   rw [he, if_neg (zhp hf)]
   rfl
  | none =>
   have he : zb7 (geA B) l a = 0 := by unfold zb7; rw [if_pos hc, hf]; rfl
   rw [he, if_pos rfl]
   simp only [zaf]
   rw [wr (0 - a) (by omega) (by omega), show 0 - a = -a by omega]
   rw [zpe hB hP 0 (-a) (zpi hB he).2.2.2.2]
   rfl
 ·have he : zb7 (geA B) l a = 1 := by unfold zb7; rw [if_neg hc]
  rw [he, if_neg (by decide)]
  cases h1 : zbs l with
  | false => rfl
  | true =>
   have h2 : zbv a = false := by
    cases h2 : zbv a with
    | false => rfl
    | true => exact absurd ⟨h1, h2⟩ hc
   rw [Bool.not_true, Bool.not_false, cond_true, zcs, Option.bind_some, h2]
   rfl
theorem zqa {N : Nat} {B : FB} {As : List FA} (hR : BRel N B As) (J : RJ) (l : List Int) (a : Int) {A2 : List FA} {J2 : RJ} {r : Int} (hA2 : A2.length = 33)
  (hp : purserref15_Purse_post.f (if zb7 (geA B) l a = 0 then zai (fun n => zbb 0 (-a) (geA B n)) As l else As, J) As (zb7 (geA B) l a) 3 a l 0 = some ((A2, J2), r)) :
  purserref15_Purse_Release.f (As, J) l a = some ((A2, J2), r) := by
 have hA : zaa V0 33 As = As := hR.arr
 have hA2' : zaa V0 33 A2 = A2 := za5 hA2
 unfold purserref15_Purse_Release.f
 simp only [zaf]
 rw [zkv, Option.bind_some, hA]
 by_cases hc : zbs l = true ∧ zbv a = true
 ·have hP := zcu hc.1
  have ha := (zaz a).1 hc.2
  have hlen := hP.len
  rw [hc.1, Bool.not_true, Bool.not_false, cond_true, zet, hc.2, Option.bind_some, Bool.not_true, cond_false]
  have h1 : za3 (purserref15_Purse_Release.l4 (As, J) l a) 0 = some (zaf (zax (zcc (geA B) l a) 0 l.length)) := by
   refine zbo l.length _ (fun i hi => ?_) ?_
   ·have hr := hP.rng _ (List.getElem_mem hi)
    unfold purserref15_Purse_Release.l4
    simp only [zaf]
    rw [ilt hi, nn, Bool.and_self, cond_true, cond_true, at_ l i hi, zlp hr, cond_true, hA, hR.at hr]
    unfold zcc
    rw [zkl l i hi]
    by_cases h9 : (geA B l[i]).2.2.2.2 < a
    ·rw [decide_eq_true h9, if_pos h9]; rfl
    ·rw [decide_eq_false h9, if_neg h9, Bool.not_false, cond_true, wrS i (by omega)]
   ·unfold purserref15_Purse_Release.l4
    rw [ige]; rfl
  rw [h1, Option.bind_some]
  cases hf : zax (zcc (geA B) l a) 0 l.length with
  | some b =>
   have he : zb7 (geA B) l a = b := by unfold zb7; rw [if_pos hc, hf]; rfl
   rw [he, if_neg (zhp hf)] at hp
   simp only [zaf]
   rw [show ((As, (J.1, (J.2.1, J.2.2))) : List FA × RJ) = (As, J) from rfl, hp, Option.bind_some, Option.bind_some]
   simp only [zaf]
   rw [hA2', hA2']
  | none =>
   have he : zb7 (geA B) l a = 0 := by unfold zb7; rw [if_pos hc, hf]; rfl
   rw [he, if_pos rfl] at hp
   simp only [zaf]
   have hok := (zpi hR.ok he).2.2.2.2
   have hset : (zai (fun n => zbb 0 (-a) (geA B n)) As l).length = 33 := by rw [zal]; exact hR.len
   have hloop : za3 (purserref15_Purse_Release.l9 l a) (0, (), As, J.1, J.2.1, J.2.2) = some ((), zai (fun n => zbb 0 (-a) (geA B n)) As l, J.1, J.2.1, J.2.2) := by
    refine zap (fun i => ((i : Int), (), zai (fun n => zbb 0 (-a) (geA B n)) As (l.take i), J.1, J.2.1, J.2.2)) l.length (by simp [zai]) (fun i hi => ?_) ?_
    ·have hr := hP.rng _ (List.getElem_mem hi)
     have hsl : (zai (fun n => zbb 0 (-a) (geA B n)) As (l.take i)).length = 33 := by rw [zal]; exact hR.len
     have hg := zdn (fun n => zbb 0 (-a) (geA B n)) (l.take i) As hR.len (fun n hn => hP.rng n (List.mem_of_mem_take hn)) l[i].toNat (by omega)
     rw [show ((l[i].toNat : Nat) : Int) = l[i] by omega, if_neg (zdg hP.nod i hi), hR.at hr] at hg
     obtain ⟨o1, o2, o3, o4, o5, o6, o7⟩ := hok _ (List.getElem_mem hi)
     simp only [zbb] at o4 o5
     unfold purserref15_Purse_Release.l9
     simp only [zaf]
     rw [ilt hi, nn, Bool.and_self, cond_true, cond_true, cond_true, at_ l i hi, zlp hr, cond_true, cond_true, za5 hsl, hg]
     rw [za5 (show (List.set _ _ _).length = 33 by rw [List.length_set]; exact hsl), wrS i (by omega), wr _ (by omega) (by omega)]
     have hs : zai (fun n => zbb 0 (-a) (geA B n)) As (l.take (i + 1)) = (zai (fun n => zbb 0 (-a) (geA B n)) As (l.take i)).set l[i].toNat (zbb 0 (-a) (geA B l[i])) := by
      rw [zad l i hi]
      unfold zai
      rw [List.foldl_append]
      rfl
     rw [hs]
     simp only [zbb, Int.add_zero, Int.sub_eq_add_neg]
    ·unfold purserref15_Purse_Release.l9
     simp only [List.take_length]
     rw [ige, za5 hset]
     rfl
   rw [hloop, Option.bind_some]
   simp only [zaf]
   rw [za5 hset, show ((zai (fun n => zbb 0 (-a) (geA B n)) As l, (J.1, (J.2.1, J.2.2))) : List FA × RJ) = (zai (fun n => zbb 0 (-a) (geA B n)) As l, J) from rfl, hp, Option.bind_some, Option.bind_some]
   simp only [zaf]
   rw [hA2', hA2']
 ·have he : zb7 (geA B) l a = 1 := by unfold zb7; rw [if_neg hc]
  rw [he, if_neg (by decide)] at hp
  have hx : (((bif !(!zbs l) then (bif !(decide (a < 1)) then (some (decide (a > 9007199254740992))) else (some true)) else (some true)) : Option Bool)) = some true := by
   cases h1 : zbs l with
   | false => rfl
   | true =>
    have h2 : zbv a = false := by
     cases h2 : zbv a with
     | false => rfl
     | true => exact absurd ⟨h1, h2⟩ hc
    rw [Bool.not_true, Bool.not_false, cond_true, zet, h2]
    rfl
  rw [hx, Option.bind_some, cond_true, show ((As, (J.1, (J.2.1, J.2.2))) : List FA × RJ) = (As, J) from rfl, hp, Option.bind_some, Option.bind_some]
  simp only [zaf]
  rw [hA2', hA2']
/-! ### Commit -/
def zd4 (g : Int → FA) (l : List Int) (a : Int) (i : Nat) : Option Int := if (g (l.getD i 0)).2.2.2.2 < a then some 20 else none
def zbz (g : Int → FA) (l : List Int) (a : Int) : Int := if zbs l = true ∧ zbv a = true then (zax (zd4 g l a) 0 l.length).getD 0 else 1
theorem zjd {g : Int → FA} {l : List Int} {a : Int} {d i : Nat} {b : Int} (h : zax (zd4 g l a) i d = some b) : b ≠ 0 := by
 obtain ⟨k, _, _, h3⟩ := zca h
 unfold zd4 at h3
 split at h3
 ·rw [← Option.some.inj h3]; decide
 ·cases h3
theorem zte {B : FB} {N : Nat} (hB : BOk B N) {l : List Int} {a : Int} (h : zbz (geA B) l a = 0) : PathP l ∧ zbs l = true ∧ zbv a = true ∧ zax (zd4 (geA B) l a) 0 l.length = none ∧ ∀ n ∈ l, OkA (zbb a (-a) (geA B n)) := by
 unfold zbz at h
 split at h
 ·rename_i hc
  have hP := zcu hc.1
  have ha := (zaz a).1 hc.2
  have hn : zax (zd4 (geA B) l a) 0 l.length = none := by
   cases hf : zax (zd4 (geA B) l a) 0 l.length with
   | none => rfl
   | some b => rw [hf] at h; exact absurd h (zjd hf)
  refine ⟨hP, hc.1, hc.2, hn, fun n hn2 => ?_⟩
  obtain ⟨k, hk, rfl⟩ := List.getElem_of_mem hn2
  have h1 := zb4 hn k (by omega) (by omega)
  unfold zd4 at h1
  rw [zkl l k hk] at h1
  split at h1
  ·cases h1
  ·rename_i hlt
   obtain ⟨o1, o2, o3, o4, o5, o6, o7⟩ := hB.ok l[k]
   unfold zaw at o7
   refine ⟨o1, o2, o3, ?_, ?_, o6, ?_⟩
   ·simp only [zbb]; omega
   ·simp only [zbb]; omega
   ·simp only [zbb, zaw]; omega
 ·cases h
theorem pCommit {B : FB} {N : Nat} (hB : BOk B N) (l : List Int) (a : Int) :
  funds_Book_Commit.f B l a = some (if zbz (geA B) l a = 0 then zbk (fun n => zbb a (-a) (geA B n)) B l else B, zbz (geA B) l a) := by
 unfold funds_Book_Commit.f
 rw [zlb, Option.bind_some]
 simp only [zaf]
 by_cases hc : zbs l = true ∧ zbv a = true
 ·have hP := zcu hc.1
  have ha := (zaz a).1 hc.2
  have hlen := hP.len
  rw [hc.1, Bool.not_true, Bool.not_false, cond_true, zcs, Option.bind_some, hc.2, Option.bind_some]
  simp only [zaf]
  rw [Bool.not_true, cond_false]
  have h1 : za3 (funds_Book_Commit.l4 l a (false, (), B)) 0 = some (zaf (zax (zd4 (geA B) l a) 0 l.length)) := by
   refine zbo l.length _ (fun i hi => ?_) ?_
   ·unfold funds_Book_Commit.l4
    simp only [zaf]
    rw [ilt hi, nn, Bool.and_self, cond_true, cond_true, at_ l i hi]
    rw [show (((zav (.int .i64) (.pair (.int .i64) (.pair (.int .i64) (.pair (.int .i64) (.pair (.int .i64) (.int .i64))))) B l[i]).getD ((0, (0, (0, (0, 0)))) : Int × Int × Int × Int × Int))) = geA B l[i] from rfl]
    unfold zd4
    rw [zkl l i hi]
    by_cases h9 : (geA B l[i]).2.2.2.2 < a
    ·rw [decide_eq_true h9, if_pos h9]; rfl
    ·rw [decide_eq_false h9, if_neg h9, cond_false, wrS i (by omega)]
   ·unfold funds_Book_Commit.l4
    rw [ige]; rfl
  rw [h1, Option.bind_some]
  cases hf : zax (zd4 (geA B) l a) 0 l.length with
  | some b =>
   have he : zbz (geA B) l a = b := by unfold zbz; rw [if_pos hc, hf]; rfl
   rw [he, if_neg (zjd hf)]
   rfl
  | none =>
   have he : zbz (geA B) l a = 0 := by unfold zbz; rw [if_pos hc, hf]; rfl
   rw [he, if_pos rfl]
   simp only [zaf]
   rw [wr (0 - a) (by omega) (by omega), show 0 - a = -a by omega]
   rw [zpe hB hP a (-a) (zte hB he).2.2.2.2]
   rfl
 ·have he : zbz (geA B) l a = 1 := by unfold zbz; rw [if_neg hc]
  rw [he, if_neg (by decide)]
  cases h1 : zbs l with
  | false => rfl
  | true =>
   have h2 : zbv a = false := by
    cases h2 : zbv a with
    | false => rfl
    | true => exact absurd ⟨h1, h2⟩ hc
   rw [Bool.not_true, Bool.not_false, cond_true, zcs, Option.bind_some, h2]
   rfl
theorem zts {N : Nat} {B : FB} {As : List FA} (hR : BRel N B As) (J : RJ) (l : List Int) (a g : Int) {A2 : List FA} {J2 : RJ} {r : Int} (hA2 : A2.length = 33)
  (hp : purserref15_Purse_post.f (if zbz (geA B) l a = 0 then zai (fun n => zbb a (-a) (geA B n)) As l else As, J) As (zbz (geA B) l a) 4 a l g = some ((A2, J2), r)) :
  purserref15_Purse_Commit.f (As, J) l a g = some ((A2, J2), r) := by
 have hA : zaa V0 33 As = As := hR.arr
 have hA2' : zaa V0 33 A2 = A2 := za5 hA2
 unfold purserref15_Purse_Commit.f
 simp only [zaf]
 rw [zkv, Option.bind_some, hA]
 by_cases hc : zbs l = true ∧ zbv a = true
 ·have hP := zcu hc.1
  have ha := (zaz a).1 hc.2
  have hlen := hP.len
  rw [hc.1, Bool.not_true, Bool.not_false, cond_true, zet, hc.2, Option.bind_some, Bool.not_true, cond_false]
  have h1 : za3 (purserref15_Purse_Commit.l4 (As, J) l a) 0 = some (zaf (zax (zd4 (geA B) l a) 0 l.length)) := by
   refine zbo l.length _ (fun i hi => ?_) ?_
   ·have hr := hP.rng _ (List.getElem_mem hi)
    unfold purserref15_Purse_Commit.l4
    simp only [zaf]
    rw [ilt hi, nn, Bool.and_self, cond_true, cond_true, at_ l i hi, zlp hr, cond_true, hA, hR.at hr]
    unfold zd4
    rw [zkl l i hi]
    by_cases h9 : (geA B l[i]).2.2.2.2 < a
    ·rw [decide_eq_true h9, if_pos h9]; rfl
    ·rw [decide_eq_false h9, if_neg h9, Bool.not_false, cond_true, wrS i (by omega)]
   ·unfold purserref15_Purse_Commit.l4
    rw [ige]; rfl
  rw [h1, Option.bind_some]
  cases hf : zax (zd4 (geA B) l a) 0 l.length with
  | some b =>
   have he : zbz (geA B) l a = b := by unfold zbz; rw [if_pos hc, hf]; rfl
   rw [he, if_neg (zjd hf)] at hp
   simp only [zaf]
   rw [show ((As, (J.1, (J.2.1, J.2.2))) : List FA × RJ) = (As, J) from rfl, hp, Option.bind_some, Option.bind_some]
   simp only [zaf]
   rw [hA2', hA2']
  | none =>
   have he : zbz (geA B) l a = 0 := by unfold zbz; rw [if_pos hc, hf]; rfl
   rw [he, if_pos rfl] at hp
   simp only [zaf]
   have hok := (zte hR.ok he).2.2.2.2
   have hset : (zai (fun n => zbb a (-a) (geA B n)) As l).length = 33 := by rw [zal]; exact hR.len
   have hloop : za3 (purserref15_Purse_Commit.l9 l a) (0, (), As, J.1, J.2.1, J.2.2) = some ((), zai (fun n => zbb a (-a) (geA B n)) As l, J.1, J.2.1, J.2.2) := by
    refine zap (fun i => ((i : Int), (), zai (fun n => zbb a (-a) (geA B n)) As (l.take i), J.1, J.2.1, J.2.2)) l.length (by simp [zai]) (fun i hi => ?_) ?_
    ·have hr := hP.rng _ (List.getElem_mem hi)
     have hsl : (zai (fun n => zbb a (-a) (geA B n)) As (l.take i)).length = 33 := by rw [zal]; exact hR.len
     have hg := zdn (fun n => zbb a (-a) (geA B n)) (l.take i) As hR.len (fun n hn => hP.rng n (List.mem_of_mem_take hn)) l[i].toNat (by omega)
     rw [show ((l[i].toNat : Nat) : Int) = l[i] by omega, if_neg (zdg hP.nod i hi), hR.at hr] at hg
     obtain ⟨o1, o2, o3, o4, o5, o6, o7⟩ := hok _ (List.getElem_mem hi)
     simp only [zbb] at o4 o5
     unfold purserref15_Purse_Commit.l9
     simp only [zaf]
     rw [ilt hi, nn, Bool.and_self, cond_true, cond_true, cond_true, at_ l i hi, zlp hr, cond_true, cond_true, za5 hsl, hg]
     rw [za5 (show (List.set _ _ _).length = 33 by rw [List.length_set]; exact hsl), wrS i (by omega), wr _ (by omega) (by omega), wr _ (by omega) (by omega)]
     have hs : zai (fun n => zbb a (-a) (geA B n)) As (l.take (i + 1)) = (zai (fun n => zbb a (-a) (geA B n)) As (l.take i)).set l[i].toNat (zbb a (-a) (geA B l[i])) := by
      rw [zad l i hi]
      unfold zai
      rw [List.foldl_append]
      rfl
     rw [hs]
     simp only [zbb, Int.add_zero, Int.sub_eq_add_neg]
    ·unfold purserref15_Purse_Commit.l9
     simp only [List.take_length]
     rw [ige, za5 hset]
     rfl
   rw [hloop, Option.bind_some]
   simp only [zaf]
   rw [za5 hset, show ((zai (fun n => zbb a (-a) (geA B n)) As l, (J.1, (J.2.1, J.2.2))) : List FA × RJ) = (zai (fun n => zbb a (-a) (geA B n)) As l, J) from rfl, hp, Option.bind_some, Option.bind_some]
   simp only [zaf]
   rw [hA2', hA2']
 ·have he : zbz (geA B) l a = 1 := by unfold zbz; rw [if_neg hc]
  rw [he, if_neg (by decide)] at hp
  have hx : (((bif !(!zbs l) then (bif !(decide (a < 1)) then (some (decide (a > 9007199254740992))) else (some true)) else (some true)) : Option Bool)) = some true := by
   cases h1 : zbs l with
   | false => rfl
   | true =>
    have h2 : zbv a = false := by
     cases h2 : zbv a with
     | false => rfl
     | true => exact absurd ⟨h1, h2⟩ hc
    rw [Bool.not_true, Bool.not_false, cond_true, zet, h2]
    rfl
  rw [hx, Option.bind_some, cond_true, show ((As, (J.1, (J.2.1, J.2.2))) : List FA × RJ) = (As, J) from rfl, hp, Option.bind_some, Option.bind_some]
  simp only [zaf]
  rw [hA2', hA2']
/-! ### Refund -/
def zd3 (g : Int → FA) (l : List Int) (a : Int) (i : Nat) : Option Int := if (g (l.getD i 0)).2.2.2.1 < a then some 20 else none
def zby (g : Int → FA) (l : List Int) (a : Int) : Int := if zbs l = true ∧ zbv a = true then (zax (zd3 g l a) 0 l.length).getD 0 else 1
theorem zjc {g : Int → FA} {l : List Int} {a : Int} {d i : Nat} {b : Int} (h : zax (zd3 g l a) i d = some b) : b ≠ 0 := by
 obtain ⟨k, _, _, h3⟩ := zca h
 unfold zd3 at h3
 split at h3
 ·rw [← Option.some.inj h3]; decide
 ·cases h3
theorem ztd {B : FB} {N : Nat} (hB : BOk B N) {l : List Int} {a : Int} (h : zby (geA B) l a = 0) : PathP l ∧ zbs l = true ∧ zbv a = true ∧ zax (zd3 (geA B) l a) 0 l.length = none ∧ ∀ n ∈ l, OkA (zbb (-a) 0 (geA B n)) := by
 unfold zby at h
 split at h
 ·rename_i hc
  have hP := zcu hc.1
  have ha := (zaz a).1 hc.2
  have hn : zax (zd3 (geA B) l a) 0 l.length = none := by
   cases hf : zax (zd3 (geA B) l a) 0 l.length with
   | none => rfl
   | some b => rw [hf] at h; exact absurd h (zjc hf)
  refine ⟨hP, hc.1, hc.2, hn, fun n hn2 => ?_⟩
  obtain ⟨k, hk, rfl⟩ := List.getElem_of_mem hn2
  have h1 := zb4 hn k (by omega) (by omega)
  unfold zd3 at h1
  rw [zkl l k hk] at h1
  split at h1
  ·cases h1
  ·rename_i hlt
   obtain ⟨o1, o2, o3, o4, o5, o6, o7⟩ := hB.ok l[k]
   unfold zaw at o7
   refine ⟨o1, o2, o3, ?_, ?_, o6, ?_⟩
   ·simp only [zbb]; omega
   ·simp only [zbb]; omega
   ·simp only [zbb, zaw]; omega
 ·cases h
theorem pRefund {B : FB} {N : Nat} (hB : BOk B N) (l : List Int) (a : Int) :
  funds_Book_Refund.f B l a = some (if zby (geA B) l a = 0 then zbk (fun n => zbb (-a) 0 (geA B n)) B l else B, zby (geA B) l a) := by
 unfold funds_Book_Refund.f
 rw [zlb, Option.bind_some]
 simp only [zaf]
 by_cases hc : zbs l = true ∧ zbv a = true
 ·have hP := zcu hc.1
  have ha := (zaz a).1 hc.2
  have hlen := hP.len
  rw [hc.1, Bool.not_true, Bool.not_false, cond_true, zcs, Option.bind_some, hc.2, Option.bind_some]
  simp only [zaf]
  rw [Bool.not_true, cond_false]
  have h1 : za3 (funds_Book_Refund.l4 l a (false, (), B)) 0 = some (zaf (zax (zd3 (geA B) l a) 0 l.length)) := by
   refine zbo l.length _ (fun i hi => ?_) ?_
   ·unfold funds_Book_Refund.l4
    simp only [zaf]
    rw [ilt hi, nn, Bool.and_self, cond_true, cond_true, at_ l i hi]
    rw [show (((zav (.int .i64) (.pair (.int .i64) (.pair (.int .i64) (.pair (.int .i64) (.pair (.int .i64) (.int .i64))))) B l[i]).getD ((0, (0, (0, (0, 0)))) : Int × Int × Int × Int × Int))) = geA B l[i] from rfl]
    unfold zd3
    rw [zkl l i hi]
    by_cases h9 : (geA B l[i]).2.2.2.1 < a
    ·rw [decide_eq_true h9, if_pos h9]; rfl
    ·rw [decide_eq_false h9, if_neg h9, cond_false, wrS i (by omega)]
   ·unfold funds_Book_Refund.l4
    rw [ige]; rfl
  rw [h1, Option.bind_some]
  cases hf : zax (zd3 (geA B) l a) 0 l.length with
  | some b =>
   have he : zby (geA B) l a = b := by unfold zby; rw [if_pos hc, hf]; rfl
   rw [he, if_neg (zjc hf)]
   rfl
  | none =>
   have he : zby (geA B) l a = 0 := by unfold zby; rw [if_pos hc, hf]; rfl
   rw [he, if_pos rfl]
   simp only [zaf]
   rw [wr (0 - a) (by omega) (by omega), show 0 - a = -a by omega]
   rw [zpe hB hP (-a) 0 (ztd hB he).2.2.2.2]
   rfl
 ·have he : zby (geA B) l a = 1 := by unfold zby; rw [if_neg hc]
  rw [he, if_neg (by decide)]
  cases h1 : zbs l with
  | false => rfl
  | true =>
   have h2 : zbv a = false := by
    cases h2 : zbv a with
    | false => rfl
    | true => exact absurd ⟨h1, h2⟩ hc
   rw [Bool.not_true, Bool.not_false, cond_true, zcs, Option.bind_some, h2]
   rfl
theorem ztr {N : Nat} {B : FB} {As : List FA} (hR : BRel N B As) (J : RJ) (l : List Int) (a g : Int) {A2 : List FA} {J2 : RJ} {r : Int} (hA2 : A2.length = 33)
  (hp : purserref15_Purse_post.f (if zby (geA B) l a = 0 then zai (fun n => zbb (-a) 0 (geA B n)) As l else As, J) As (zby (geA B) l a) 6 a l g = some ((A2, J2), r)) :
  purserref15_Purse_Refund.f (As, J) l a g = some ((A2, J2), r) := by
 have hA : zaa V0 33 As = As := hR.arr
 have hA2' : zaa V0 33 A2 = A2 := za5 hA2
 unfold purserref15_Purse_Refund.f
 simp only [zaf]
 rw [zkv, Option.bind_some, hA]
 by_cases hc : zbs l = true ∧ zbv a = true
 ·have hP := zcu hc.1
  have ha := (zaz a).1 hc.2
  have hlen := hP.len
  rw [hc.1, Bool.not_true, Bool.not_false, cond_true, zet, hc.2, Option.bind_some, Bool.not_true, cond_false]
  have h1 : za3 (purserref15_Purse_Refund.l4 (As, J) l a) 0 = some (zaf (zax (zd3 (geA B) l a) 0 l.length)) := by
   refine zbo l.length _ (fun i hi => ?_) ?_
   ·have hr := hP.rng _ (List.getElem_mem hi)
    unfold purserref15_Purse_Refund.l4
    simp only [zaf]
    rw [ilt hi, nn, Bool.and_self, cond_true, cond_true, at_ l i hi, zlp hr, cond_true, hA, hR.at hr]
    unfold zd3
    rw [zkl l i hi]
    by_cases h9 : (geA B l[i]).2.2.2.1 < a
    ·rw [decide_eq_true h9, if_pos h9]; rfl
    ·rw [decide_eq_false h9, if_neg h9, cond_false, wrS i (by omega)]
   ·unfold purserref15_Purse_Refund.l4
    rw [ige]; rfl
  rw [h1, Option.bind_some]
  cases hf : zax (zd3 (geA B) l a) 0 l.length with
  | some b =>
   have he : zby (geA B) l a = b := by unfold zby; rw [if_pos hc, hf]; rfl
   rw [he, if_neg (zjc hf)] at hp
   simp only [zaf]
   rw [show ((As, (J.1, (J.2.1, J.2.2))) : List FA × RJ) = (As, J) from rfl, hp, Option.bind_some, Option.bind_some]
   simp only [zaf]
   rw [hA2', hA2']
  | none =>
   have he : zby (geA B) l a = 0 := by unfold zby; rw [if_pos hc, hf]; rfl
   rw [he, if_pos rfl] at hp
   simp only [zaf]
   have hok := (ztd hR.ok he).2.2.2.2
   have hset : (zai (fun n => zbb (-a) 0 (geA B n)) As l).length = 33 := by rw [zal]; exact hR.len
   have hloop : za3 (purserref15_Purse_Refund.l9 l a) (0, (), As, J.1, J.2.1, J.2.2) = some ((), zai (fun n => zbb (-a) 0 (geA B n)) As l, J.1, J.2.1, J.2.2) := by
    refine zap (fun i => ((i : Int), (), zai (fun n => zbb (-a) 0 (geA B n)) As (l.take i), J.1, J.2.1, J.2.2)) l.length (by simp [zai]) (fun i hi => ?_) ?_
    ·have hr := hP.rng _ (List.getElem_mem hi)
     have hsl : (zai (fun n => zbb (-a) 0 (geA B n)) As (l.take i)).length = 33 := by rw [zal]; exact hR.len
     have hg := zdn (fun n => zbb (-a) 0 (geA B n)) (l.take i) As hR.len (fun n hn => hP.rng n (List.mem_of_mem_take hn)) l[i].toNat (by omega)
     rw [show ((l[i].toNat : Nat) : Int) = l[i] by omega, if_neg (zdg hP.nod i hi), hR.at hr] at hg
     obtain ⟨o1, o2, o3, o4, o5, o6, o7⟩ := hok _ (List.getElem_mem hi)
     simp only [zbb] at o4 o5
     unfold purserref15_Purse_Refund.l9
     simp only [zaf]
     rw [ilt hi, nn, Bool.and_self, cond_true, cond_true, cond_true, at_ l i hi, zlp hr, cond_true, cond_true, za5 hsl, hg]
     rw [za5 (show (List.set _ _ _).length = 33 by rw [List.length_set]; exact hsl), wrS i (by omega), wr _ (by omega) (by omega)]
     have hs : zai (fun n => zbb (-a) 0 (geA B n)) As (l.take (i + 1)) = (zai (fun n => zbb (-a) 0 (geA B n)) As (l.take i)).set l[i].toNat (zbb (-a) 0 (geA B l[i])) := by
      rw [zad l i hi]
      unfold zai
      rw [List.foldl_append]
      rfl
     rw [hs]
     simp only [zbb, Int.add_zero, Int.sub_eq_add_neg]
    ·unfold purserref15_Purse_Refund.l9
     simp only [List.take_length]
     rw [ige, za5 hset]
     rfl
   rw [hloop, Option.bind_some]
   simp only [zaf]
   rw [za5 hset, show ((zai (fun n => zbb (-a) 0 (geA B n)) As l, (J.1, (J.2.1, J.2.2))) : List FA × RJ) = (zai (fun n => zbb (-a) 0 (geA B n)) As l, J) from rfl, hp, Option.bind_some, Option.bind_some]
   simp only [zaf]
   rw [hA2', hA2']
 ·have he : zby (geA B) l a = 1 := by unfold zby; rw [if_neg hc]
  rw [he, if_neg (by decide)] at hp
  have hx : (((bif !(!zbs l) then (bif !(decide (a < 1)) then (some (decide (a > 9007199254740992))) else (some true)) else (some true)) : Option Bool)) = some true := by
   cases h1 : zbs l with
   | false => rfl
   | true =>
    have h2 : zbv a = false := by
     cases h2 : zbv a with
     | false => rfl
     | true => exact absurd ⟨h1, h2⟩ hc
    rw [Bool.not_true, Bool.not_false, cond_true, zet, h2]
    rfl
  rw [hx, Option.bind_some, cond_true, show ((As, (J.1, (J.2.1, J.2.2))) : List FA × RJ) = (As, J) from rfl, hp, Option.bind_some, Option.bind_some]
  simp only [zaf]
  rw [hA2', hA2']
/-! ### TopUp -/
def ztq (g : Int → FA) (n a : Int) : Int := if zdx n = true ∧ zbv a = true then (if (g n).1 + (g n).2.1 + a > 9007199254740992 then 6 else 0) else 1
def ztt (a : Int) (x : FA) : FA := (x.1 + a, x.2.1, x.2.2.1, x.2.2.2.1, x.2.2.2.2)
theorem mTopUp {B : FB} {N : Nat} (hB : BOk B N) {n a : Int} (h : ztq (geA B) n a = 0) : (1 ≤ n ∧ n ≤ 32) ∧ (1 ≤ a ∧ a ≤ 9007199254740992) ∧ OkA (ztt a (geA B n)) := by
 unfold ztq at h
 split at h
 ·rename_i hc
  have hn := (ze5 n).1 hc.1
  have ha := (zaz a).1 hc.2
  split at h
  ·cases h
  ·obtain ⟨o1, o2, o3, o4, o5, o6, o7⟩ := hB.ok n
   unfold zaw at o7
   exact ⟨hn, ha, ⟨by simp only [ztt]; omega, o2, o3, o4, o5, by simp only [ztt]; omega, by simp only [ztt, zaw]; omega⟩⟩
 ·cases h
theorem pTopUp {B : FB} {N : Nat} (hB : BOk B N) (n a : Int) : funds_Book_TopUp.f B n a = some (if ztq (geA B) n a = 0 then zbk (fun n => ztt a (geA B n)) B [n] else B, ztq (geA B) n a) := by
 unfold funds_Book_TopUp.f
 rw [zt7, Option.bind_some]
 by_cases hc : zdx n = true ∧ zbv a = true
 ·have hn := (ze5 n).1 hc.1
  have ha := (zaz a).1 hc.2
  obtain ⟨o1, o2, o3, o4, o5, o6, o7⟩ := hB.ok n
  rw [hc.1, Bool.not_true, Bool.not_false, cond_true, zcs, Option.bind_some, hc.2, Option.bind_some, Bool.not_true, cond_false]
  rw [show (((zav (.int .i64) (.pair (.int .i64) (.pair (.int .i64) (.pair (.int .i64) (.pair (.int .i64) (.int .i64))))) B n).getD ((0, (0, (0, (0, 0)))) : Int × Int × Int × Int × Int))) = geA B n from rfl]
  rw [wr ((geA B n).1 + (geA B n).2.1) (by omega) (by omega), wr (9007199254740992 - a) (by omega) (by omega)]
  unfold ztq
  rw [if_pos hc]
  by_cases hg : (geA B n).1 + (geA B n).2.1 + a > 9007199254740992
  ·rw [decide_eq_true (show (geA B n).1 + (geA B n).2.1 > 9007199254740992 - a by omega), cond_true, if_pos hg, if_neg (by decide)]
  ·rw [decide_eq_false (show ¬ (geA B n).1 + (geA B n).2.1 > 9007199254740992 - a by omega), cond_false, if_neg hg, if_pos rfl, wr ((geA B n).1 + a) (by omega) (by omega), zqt]
   rfl
 ·have he : ztq (geA B) n a = 1 := by unfold ztq; rw [if_neg hc]
  rw [he, if_neg (by decide)]
  cases h1 : zdx n with
  | false => rfl
  | true =>
   have h2 : zbv a = false := by
    cases h2 : zbv a with
    | false => rfl
    | true => exact absurd ⟨h1, h2⟩ hc
   rw [Bool.not_true, Bool.not_false, cond_true, zcs, Option.bind_some, h2]
   rfl
theorem dTop {N : Nat} {B : FB} {As : List FA} (hR : BRel N B As) (J : RJ) (n a : Int) {A2 : List FA} {J2 : RJ} {r : Int} (hA2 : A2.length = 33)
  (hp : purserref15_Purse_post.f (if ztq (geA B) n a = 0 then zai (fun n => ztt a (geA B n)) As [n] else As, J) As (ztq (geA B) n a) 1 a [n] 0 = some ((A2, J2), r)) :
  purserref15_Purse_Top.f (As, J) n a = some ((A2, J2), r) := by
 have hA : zaa V0 33 As = As := hR.arr
 have hA2' : zaa V0 33 A2 = A2 := za5 hA2
 unfold purserref15_Purse_Top.f
 simp only [zaf]
 rw [zp2, Option.bind_some, hA]
 by_cases hc : zdx n = true ∧ zbv a = true
 ·have hn := (ze5 n).1 hc.1
  have ha := (zaz a).1 hc.2
  obtain ⟨o1, o2, o3, o4, o5, o6, o7⟩ := hR.ok.ok n
  rw [hc.1, Bool.not_true, Bool.not_false, cond_true, zet, hc.2, Option.bind_some, Bool.not_true, cond_false, zlp hn, cond_true, cond_true, hR.at hn]
  rw [wr ((geA B n).1 + (geA B n).2.1) (by omega) (by omega), wr ((geA B n).1 + (geA B n).2.1 + a) (by omega) (by omega)]
  unfold ztq at hp
  rw [if_pos hc] at hp
  by_cases hg : (geA B n).1 + (geA B n).2.1 + a > 9007199254740992
  ·rw [if_pos hg, if_neg (by decide)] at hp
   rw [decide_eq_true hg, cond_true, show ((As, (J.1, (J.2.1, J.2.2))) : List FA × RJ) = (As, J) from rfl, hp, Option.bind_some, Option.bind_some]
   simp only [zaf]
   rw [hA2', hA2']
  ·rw [if_neg hg, if_pos rfl] at hp
   rw [decide_eq_false hg, cond_false, cond_true, cond_true, wr ((geA B n).1 + a) (by omega) (by omega), za5 (show (List.set _ _ _).length = 33 by rw [List.length_set]; exact hR.len)]
   rw [show ((As.set n.toNat ((geA B n).1 + a, ((geA B n).2.1, ((geA B n).2.2.1, ((geA B n).2.2.2.1, (geA B n).2.2.2.2)))), (J.1, (J.2.1, J.2.2))) : List FA × RJ) = (zai (fun n => ztt a (geA B n)) As [n], J) from rfl, hp, Option.bind_some, Option.bind_some]
   simp only [zaf]
   rw [hA2', hA2']
 ·have he : ztq (geA B) n a = 1 := by unfold ztq; rw [if_neg hc]
  rw [he, if_neg (by decide)] at hp
  have hx : (((bif !(!zdx n) then (bif !(decide (a < 1)) then (some (decide (a > 9007199254740992))) else (some true)) else (some true)) : Option Bool)) = some true := by
   cases h1 : zdx n with
   | false => rfl
   | true =>
    have h2 : zbv a = false := by
     cases h2 : zbv a with
     | false => rfl
     | true => exact absurd ⟨h1, h2⟩ hc
    rw [Bool.not_true, Bool.not_false, cond_true, zet, h2]
    rfl
  rw [hx, Option.bind_some, cond_true, show ((As, (J.1, (J.2.1, J.2.2))) : List FA × RJ) = (As, J) from rfl, hp, Option.bind_some, Option.bind_some]
  simp only [zaf]
  rw [hA2', hA2']
end Go.Proofs.YtniohchnpfpffaaGreat.Pure
