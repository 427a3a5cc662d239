/- Plain laws of entries, part 4: when Make takes what it has made; accounts that are summed up. No statement of its own. -/
import Derived.Test.YtfhcockdlfidmaaEc
import Derived.Test.YtfhcockdlfidmaaPureEntrySums
namespace Go.Proofs.Ytfhcockdlfidmaa.Pure
open Go.Vk Go.Am Go.Pg Go.Sort Go.Proofs.Ytfhcockdlfidmaa.Y
set_option linter.unusedVariables false
set_option linter.unusedSimpArgs false

/-- Kinds that go from a node's account to another. -/
def two (k : Int) : Prop := (sidesOf k).1 ≠ 1 ∧ (sidesOf k).2 ≠ 1 ∧ (sidesOf k).1 ≠ (sidesOf k).2
theorem legs_two {k : Int} (h : two k) (a g : Int) (nodes : List Int) : legsOf k a g nodes = nodes.flatMap fun n => [(onA (sidesOf k).1 n g, a), (onA (sidesOf k).2 n g, neg a)] := by
  unfold legsOf
  rw [if_neg h.1, List.nil_append]
  congr 1
  funext n
  unfold legsAt
  rw [if_neg h.1]
  rfl
theorem onA_kind (k n g : Int) : (onA k n g).1 = k := by
  unfold onA
  split
  · rename_i h; rw [h]
  · split
    · rename_i h; rw [h]
    · rfl
theorem onA_node {k : Int} (n g : Int) (h : k ≠ 1) : (onA k n g).2.1 = n := by
  unfold onA
  rw [if_neg h]
  split <;> rfl
theorem acc_nodup {k : Int} (h : two k) (a g : Int) : ∀ (nodes : List Int), nodes.Nodup → ((legsOf k a g nodes).map (·.1)).Nodup := by
  intro nodes hn
  rw [legs_two h]
  induction nodes with
  | nil => simp
  | cons n nodes ih =>
    rw [List.nodup_cons] at hn
    have hmem : ∀ q, q ∈ (nodes.flatMap fun n => [(onA (sidesOf k).1 n g, a), (onA (sidesOf k).2 n g, neg a)]).map (·.1) → q.2.1 ∈ nodes := by
      intro q hq
      obtain ⟨x, hx, rfl⟩ := List.mem_map.1 hq
      obtain ⟨n', hn', hx⟩ := List.mem_flatMap.1 hx
      simp only [List.mem_cons, List.not_mem_nil, or_false] at hx
      rcases hx with rfl | rfl
      · rw [onA_node _ _ h.1]; exact hn'
      · rw [onA_node _ _ h.2.1]; exact hn'
    simp only [List.flatMap_cons, List.map_append, List.map_cons, List.map_nil, List.cons_append, List.nil_append, List.nodup_cons, List.mem_cons, not_or]
    refine ⟨⟨fun e => ?_, fun hm => ?_⟩, fun hm => ?_, ih hn.2⟩
    · have := congrArg Prod.fst e
      rw [onA_kind, onA_kind] at this
      exact h.2.2 this
    · have := hmem _ hm
      rw [onA_node _ _ h.1] at this
      exact hn.1 this
    · have := hmem _ hm
      rw [onA_node _ _ h.2.1] at this
      exact hn.1 this
/-- What is sorted, and has no account twice, is strictly so. -/
theorem strict {ys zs : List Leg} (hp : ys.Perm zs) (hs : ys.Pairwise (fun x y => ¬ ltA y.1 x.1)) (hn : (zs.map (·.1)).Nodup) : ys.Pairwise (fun x y => ltA x.1 y.1) := by
  have hn' : (ys.map (·.1)).Nodup := (hp.map (·.1)).nodup_iff.2 hn
  rw [List.nodup_iff_pairwise_ne, List.pairwise_map] at hn'
  refine List.Pairwise.imp₂ (fun x y h1 h2 => ?_) hs hn'
  rcases ltA_tri x.1 y.1 with h | h | h
  · exact h
  · exact absurd h h1
  · exact absurd h h2
theorem chkL_strict : ∀ {l : List Leg} {prev : Option Acc}, l.Pairwise (fun x y => ltA x.1 y.1) → (∀ p x, prev = some p → x ∈ l → ltA p x.1) → (∀ x ∈ l, x.2 ≠ 0 ∧ -9007199254740992 ≤ x.2 ∧ x.2 ≤ 9007199254740992) → chkL prev l = if ∀ x ∈ l, rightB x.1 = true then 0 else 1
  | [], _, _, _, _ => by simp [chkL]
  | x :: l, prev, hs, hp, ha => by
    rw [List.pairwise_cons] at hs
    have hx := ha x (by simp)
    have hl : legC prev x = if rightB x.1 = true then 0 else 1 := by
      unfold legC
      cases hr : rightB x.1 with
      | false => simp
      | true =>
        simp only [Bool.true_eq_false, if_false, if_true]
        rw [if_neg (by omega)]
        cases prev with
        | none => rfl
        | some p =>
          have := (ordA_neg p x.1).2 (hp p x rfl (by simp))
          simp only
          rw [if_neg (by omega)]
    have ih := chkL_strict (l := l) (prev := some x.1) hs.2 (fun p y e hy => by obtain rfl := Option.some.inj e; exact hs.1 y hy) (fun y hy => ha y (by simp [hy]))
    simp only [chkL, hl, ih]
    cases hr : rightB x.1 with
    | false => simp [hr]
    | true =>
      have hiff : (∀ y ∈ x :: l, rightB y.1 = true) ↔ (∀ y ∈ l, rightB y.1 = true) := ⟨fun h y hy => h y (by simp [hy]), fun h y hy => by
        rcases List.mem_cons.1 hy with rfl | hy
        · exact hr
        · exact h y hy⟩
      by_cases hall : ∀ y ∈ l, rightB y.1 = true
      · rw [if_pos (hiff.2 hall), if_pos hall]; simp
      · rw [if_neg (fun h => hall (hiff.1 h)), if_neg hall]; simp
theorem amt_app (l l' : List Leg) : amt (l ++ l') = amt l + amt l' := by unfold amt; rw [List.map_append, sumL_app]
theorem amt_two {k : Int} (h : two k) {a : Int} (h1 : 1 ≤ a) (h2 : a ≤ 9007199254740992) (g : Int) (nodes : List Int) : amt (legsOf k a g nodes) = 0 := by
  rw [legs_two h]
  induction nodes with
  | nil => rfl
  | cons n nodes ih =>
    rw [List.flatMap_cons, amt_app, ih]
    simp only [amt, List.map_cons, List.map_nil, sumL]
    rw [neg_eq (by omega) (by omega)]
    omega
theorem two_amts {k : Int} (h : two k) {a : Int} (h1 : 1 ≤ a) (h2 : a ≤ 9007199254740992) (g : Int) (nodes : List Int) : ∀ x ∈ legsOf k a g nodes, x.2 ≠ 0 ∧ -9007199254740992 ≤ x.2 ∧ x.2 ≤ 9007199254740992 := by
  intro x hx
  rw [legs_two h] at hx
  obtain ⟨n, _, hx⟩ := List.mem_flatMap.1 hx
  simp only [List.mem_cons, List.not_mem_nil, or_false] at hx
  have hneg : neg a = -a := neg_eq (by omega) (by omega)
  rcases hx with rfl | rfl
  · dsimp only; omega
  · dsimp only; omega
theorem two_len {k : Int} (h : two k) (a g : Int) (nodes : List Int) : (legsOf k a g nodes).length = 2 * nodes.length := by
  rw [legs_two h]
  induction nodes with
  | nil => rfl
  | cons n nodes ih => simp only [List.flatMap_cons, List.length_append, ih, List.length_cons, List.length_nil]; omega
/-- All accounts of the legs are ones. -/
def okB (k g : Int) (nodes : List Int) : Prop := ∀ n ∈ nodes, rightB (onA (sidesOf k).1 n g) = true ∧ rightB (onA (sidesOf k).2 n g) = true
theorem sumL_perm' {l l' : List Leg} (h : l.Perm l') : amt l = amt l' := sumL_perm (h.map _)
open Classical in
/-- What Make answers for such a kind. -/
theorem make_two {k : Int} (hk : 1 ≤ k ∧ k ≤ 6) (h : two k) {a : Int} {nodes : List Int} (ha : 1 ≤ a ∧ a ≤ 9007199254740992 ∧ pathB nodes = true) (g : Int) : ∃ ys : List Leg, ys.Perm (legsOf k a g nodes) ∧ ys.Pairwise (fun x y => ltA x.1 y.1) ∧
    entry_Make.f k a nodes g = some (if okB k g nodes then ((k, ys), 0) else ((0, []), 1)) := by
  obtain ⟨ys, hp, hs, hm⟩ := make_ok k a nodes g hk ha
  have hnd : nodes.Nodup := by have := ha.2.2; unfold pathB at this; simp at this; exact this.2.2
  have hst := strict hp hs (acc_nodup h a g nodes hnd)
  have hpl := path_len ha.2.2
  have hyl : ys.length = 2 * nodes.length := by rw [hp.length_eq, two_len h]
  have hamt : ∀ x ∈ ys, x.2 ≠ 0 ∧ -9007199254740992 ≤ x.2 ∧ x.2 ≤ 9007199254740992 := fun x hx => two_amts h ha.1 ha.2.1 g nodes x (hp.mem_iff.1 hx)
  have hchk : chk k ys = if okB k g nodes then 0 else 1 := by
    unfold chk
    rw [if_neg (by simpa using hk), if_neg (by omega), chkL_strict hst (fun p x e => by cases e) hamt]
    have hiff : (∀ x ∈ ys, rightB x.1 = true) ↔ okB k g nodes := by
      constructor
      · intro hall n hn
        have hm : ∀ x ∈ legsOf k a g nodes, rightB x.1 = true := fun x hx => hall x (hp.mem_iff.2 hx)
        rw [legs_two h] at hm
        exact ⟨hm (onA (sidesOf k).1 n g, a) (List.mem_flatMap.2 ⟨n, hn, by simp⟩), hm (onA (sidesOf k).2 n g, neg a) (List.mem_flatMap.2 ⟨n, hn, by simp⟩)⟩
      · intro hok x hx
        have hx := hp.mem_iff.1 hx
        rw [legs_two h] at hx
        obtain ⟨n, hn, hx⟩ := List.mem_flatMap.1 hx
        simp only [List.mem_cons, List.not_mem_nil, or_false] at hx
        rcases hx with rfl | rfl
        · exact (hok n hn).1
        · exact (hok n hn).2
    by_cases hok : okB k g nodes
    · rw [if_pos (hiff.2 hok), if_pos hok, if_neg (by simp), wsum0 ys (fun x hx => (hamt x hx).2) (by omega), sumL_perm' hp, amt_two h ha.1 ha.2.1, if_neg (by simp)]
    · rw [if_neg (fun hh => hok (hiff.1 hh)), if_neg hok, if_pos (by decide)]
  refine ⟨ys, hp, hst, ?_⟩
  rw [hm, hchk]
  by_cases hok : okB k g nodes
  · simp [hok]
  · simp [hok]

/-! ### summed up -/
abbrev AK : Ty := .pair (.int .i64) (.pair (.int .i64) (.int .i64))
def val (m : Mp AK (.int .i64)) (A : Acc) : Int := (mget AK (.int .i64) m A).getD (0 : Int)
theorem val_set (m : Mp AK (.int .i64)) (A : Acc) (v : Int) (B : Acc) : val (mset AK (.int .i64) m A v) B = if B = A then v else val m B := by
  unfold val
  rw [get_set rfl]
  by_cases h : B = A
  · subst h
    have : eqT AK B B = true := (eqT_iff rfl).2 rfl
    rw [this, if_pos rfl]; rfl
  · have : eqT AK B A = false := by
      cases he : eqT AK B A with
      | false => rfl
      | true => exact absurd ((eqT_iff rfl).1 he) h
    rw [this, if_neg h]; rfl
def addA (m : Mp AK (.int .i64)) (x : Leg) : Mp AK (.int .i64) := mset AK (.int .i64) m x.1 (IntKind.i64.wrap (val m x.1 + x.2))
def sumA (A : Acc) : List Leg → Int
  | [] => 0
  | x :: l => (if A = x.1 then x.2 else 0) + sumA A l
theorem sumA_app (A : Acc) : ∀ (l l' : List Leg), sumA A (l ++ l') = sumA A l + sumA A l'
  | [], l' => by simp [sumA]
  | x :: l, l' => by simp only [List.cons_append, sumA, sumA_app A l l']; omega
theorem sumA_perm (A : Acc) {l l' : List Leg} (h : l.Perm l') : sumA A l = sumA A l' := by
  induction h with
  | nil => rfl
  | cons x _ ih => simp only [sumA, ih]
  | swap x y l => simp only [sumA]; omega
  | trans _ _ h1 h2 => exact h1.trans h2
theorem fold_val (A : Acc) : ∀ (l : List Leg) (m : Mp AK (.int .i64)), (∀ x ∈ l, -9007199254740992 ≤ x.2 ∧ x.2 ≤ 9007199254740992) → l.length ≤ 64 → (∀ B, -(9007199254740992 * (100 - l.length)) ≤ val m B ∧ val m B ≤ 9007199254740992 * (100 - l.length)) →
    val (l.foldl addA m) A = val m A + sumA A l ∧ ∀ B, -(9007199254740992 * 100) ≤ val (l.foldl addA m) B ∧ val (l.foldl addA m) B ≤ 9007199254740992 * 100
  | [], m, _, _, hb => ⟨by simp [sumA], fun B => by simpa using hb B⟩
  | x :: l, m, hx, hl, hb => by
    have h0 := hx x (by simp)
    simp only [List.length_cons] at hl hb
    have hw : IntKind.i64.wrap (val m x.1 + x.2) = val m x.1 + x.2 := by have := hb x.1; exact wr _ (by omega) (by omega)
    have hv : ∀ B, val (addA m x) B = if B = x.1 then val m x.1 + x.2 else val m B := fun B => by unfold addA; rw [hw, val_set]
    obtain ⟨h1, h2⟩ := fold_val A l (addA m x) (fun y hy => hx y (by simp [hy])) (by omega) (fun B => by
      rw [hv]
      have h3 := hb B
      have h4 := hb x.1
      split <;> omega)
    refine ⟨?_, h2⟩
    simp only [List.foldl_cons, sumA]
    rw [h1, hv]
    split
    · rename_i h; rw [← h]; omega
    · omega
theorem sumA_flat (A : Acc) (f : Int → List Leg) (n c : Int) : ∀ (nodes : List Int), nodes.Nodup → (∀ q, sumA A (f q) = if q = n then c else 0) → sumA A (nodes.flatMap f) = if n ∈ nodes then c else 0
  | [], _, _ => by simp [sumA]
  | q :: nodes, hn, hf => by
    rw [List.nodup_cons] at hn
    rw [List.flatMap_cons, sumA_app, hf q, sumA_flat A f n c nodes hn.2 hf]
    by_cases hq : q = n
    · subst hq
      rw [if_pos rfl, if_neg hn.1, if_pos (by simp)]
      omega
    · rw [if_neg hq]
      by_cases hm : n ∈ nodes
      · rw [if_pos hm, if_pos (by simp [hm])]; omega
      · rw [if_neg hm, if_neg (by simp [hm]; exact fun h => hq h.symm)]; rfl
/-- What a kind's legs put on an account. -/
theorem sum_two {k : Int} (h : two k) {a : Int} (g : Int) {nodes : List Int} (hn : nodes.Nodup) (kk n gg : Int) (hm : n ∈ nodes) (hkk : kk ≠ 1) (hgg : gg = if kk = 4 then g else 0) :
    sumA (kk, n, gg) (legsOf k a g nodes) = if kk = (sidesOf k).1 then a else if kk = (sidesOf k).2 then neg a else 0 := by
  rw [legs_two h, sumA_flat (kk, n, gg) _ n (if kk = (sidesOf k).1 then a else if kk = (sidesOf k).2 then neg a else 0) nodes hn (fun q => ?_), if_pos hm]
  have key : ∀ s, s ≠ 1 → (((kk, n, gg) : Acc) = onA s q g ↔ (kk = s ∧ q = n)) := by
    intro s hs
    unfold onA
    rw [if_neg hs]
    by_cases h4 : s = 4
    · rw [if_pos h4]
      simp only [Prod.mk.injEq]
      constructor
      · rintro ⟨e1, e2, e3⟩; exact ⟨e1.trans h4.symm, e2.symm⟩
      · rintro ⟨e1, e2⟩; exact ⟨e1.trans h4, e2.symm, by rw [hgg, if_pos (e1.trans h4)]⟩
    · rw [if_neg h4]
      simp only [Prod.mk.injEq]
      constructor
      · rintro ⟨e1, e2, e3⟩; exact ⟨e1, e2.symm⟩
      · rintro ⟨e1, e2⟩; exact ⟨e1, e2.symm, by rw [hgg, if_neg (by rw [e1]; exact h4)]⟩
  simp only [sumA]
  have k1 := key _ h.1
  have k2 := key _ h.2.1
  by_cases hq : q = n
  · rw [if_pos hq]
    by_cases c1 : kk = (sidesOf k).1
    · have c2 : ¬ kk = (sidesOf k).2 := fun e => h.2.2 (c1.symm.trans e)
      rw [if_pos (k1.2 ⟨c1, hq⟩), if_neg (fun e => c2 (k2.1 e).1), if_pos c1]; omega
    · rw [if_neg (fun e => c1 (k1.1 e).1), if_neg c1]
      by_cases c2 : kk = (sidesOf k).2
      · rw [if_pos (k2.2 ⟨c2, hq⟩), if_pos c2]; omega
      · rw [if_neg (fun e => c2 (k2.1 e).1), if_neg c2]; rfl
  · rw [if_neg hq, if_neg (fun e => hq (k1.1 e).2), if_neg (fun e => hq (k2.1 e).2)]; rfl
end Go.Proofs.Ytfhcockdlfidmaa.Pure
