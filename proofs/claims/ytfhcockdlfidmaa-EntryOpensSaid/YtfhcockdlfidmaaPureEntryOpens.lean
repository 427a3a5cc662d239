/- The plain law of EntryOpens: what the law computes is true, whatever the input. -/
import Derived.Test.YtfhcockdlfidmaaEd
namespace Go.Proofs.Ytfhcockdlfidmaa.Pure
open Go.Vk Go.Am Go.Pg Go.Sort Go.Proofs.Ytfhcockdlfidmaa.Y
set_option linter.unusedVariables false
set_option linter.unusedSimpArgs false

theorem two2 : two 2 := by unfold two; decide
theorem two3 : two 3 := by unfold two; decide
theorem two4 : two 4 := by unfold two; decide
theorem two6 : two 6 := by unfold two; decide
theorem rightN (kk n g : Int) (h : kk = 2 ∨ kk = 3) : rightB (onA kk n g) = nodeB n := by
  rcases h with rfl | rfl
  · simp [onA, rightB]
  · simp [onA, rightB]
theorem rightG (n g : Int) : rightB (onA 4 n g) = (nodeB n && decide (1 ≤ g ∧ g ≤ 8)) := by simp [onA, rightB]
def goodN (nodes : List Int) : Prop := ∀ n ∈ nodes, nodeB n = true
theorem ok2 (g : Int) (nodes : List Int) : okB 2 g nodes ↔ goodN nodes := by
  unfold okB goodN
  have e1 : (sidesOf 2).1 = 2 := rfl
  have e2 : (sidesOf 2).2 = 3 := rfl
  simp only [e1, e2, rightN 2 _ _ (.inl rfl), rightN 3 _ _ (.inr rfl), and_self]
theorem ok3 (g : Int) (nodes : List Int) : okB 3 g nodes ↔ goodN nodes := by
  unfold okB goodN
  have e1 : (sidesOf 3).1 = 3 := rfl
  have e2 : (sidesOf 3).2 = 2 := rfl
  simp only [e1, e2, rightN 2 _ _ (.inl rfl), rightN 3 _ _ (.inr rfl), and_self]
theorem ok46 (g : Int) (nodes : List Int) : okB 4 g nodes ↔ okB 6 g nodes := by
  unfold okB
  have e1 : (sidesOf 4).1 = 3 := rfl
  have e2 : (sidesOf 4).2 = 4 := rfl
  have e3 : (sidesOf 6).1 = 4 := rfl
  have e4 : (sidesOf 6).2 = 2 := rfl
  simp only [e1, e2, e3, e4, rightN 2 _ _ (.inl rfl), rightN 3 _ _ (.inr rfl), rightG]
  constructor
  · intro h n hn
    exact ⟨(h n hn).2, (h n hn).1⟩
  · intro h n hn
    exact ⟨(h n hn).2, (h n hn).1⟩

/-- A loop that adds legs up. -/
theorem loop12 (k : Int) (l : List Leg) (f : Int) (m : Mp AK (.int .i64)) (hl : l.length ≤ 64) : loopO (purserlaw07_EntryOpens.l12 ((k, l), f)) (0, m) = some (l.foldl addA m) := by
  refine loop_up (fun i => ((i : Int), (l.take i).foldl addA m)) l.length rfl ?_ ?_
  · intro i hi
    have hf : (l.take (i + 1)).foldl addA m = addA ((l.take i).foldl addA m) l[i] := by rw [take_succ l i hi, List.foldl_append]; rfl
    have h1 := has_set (K := AK) (V := .int .i64) ((l.take i).foldl addA m) (l[i].1.1, l[i].1.2.1, l[i].1.2.2) ((mget AK (.int .i64) ((l.take i).foldl addA m) (l[i].1.1, l[i].1.2.1, l[i].1.2.2)).getD (0 : Int)) rfl
    have h2 := fun u => put_set (K := AK) (V := .int .i64) ((l.take i).foldl addA m) (l[i].1.1, l[i].1.2.1, l[i].1.2.2) ((mget AK (.int .i64) ((l.take i).foldl addA m) (l[i].1.1, l[i].1.2.1, l[i].1.2.2)).getD (0 : Int)) u rfl
    rw [hf]
    simp only [purserlaw07_EntryOpens.l12, ilt hi, nn, at_ l i hi, cond_true, Bool.and_self, wrS i (by omega)]
    simp only [Int.toNat_natCast, h1, h2, Bool.and_self, cond_true]
    rfl
  · simp only [purserlaw07_EntryOpens.l12, ige, cond_false, List.take_length]
theorem loop14 : purserlaw07_EntryOpens.l14 = purserlaw07_EntryOpens.l12 := rfl
theorem loop16 : purserlaw07_EntryOpens.l16 = purserlaw07_EntryOpens.l12 := rfl
theorem loop18 (a1 : List Int) (g : Int) (m : Mp AK (.int .i64)) (nodes : List Int) (hn : (a1.take (if (3 : Int) < (a1.length : Int) then 3 else (a1.length : Int)).toNat).drop (0 : Int).toNat = nodes) (hl : nodes.length ≤ 3)
    (hz : ∀ n ∈ nodes, val m (2, n, 0) = 0 ∧ val m (3, n, 0) = 0 ∧ val m (4, n, g) = 0) : loopO (purserlaw07_EntryOpens.l18 a1 g m) 0 = some (.inr ()) := by
  refine loop_up (fun i => (i : Int)) nodes.length rfl ?_ ?_
  · intro i hi
    obtain ⟨h1, h2, h3⟩ := hz nodes[i] (List.getElem_mem hi)
    unfold val at h1 h2 h3
    simp only [purserlaw07_EntryOpens.l18, hn, ilt hi, nn, at_ nodes i hi, cond_true, Bool.and_self, h1, h2, h3, wrS i (by omega)]
    rfl
  · simp only [purserlaw07_EntryOpens.l18, hn, ige, cond_false]

theorem val_nil (A : Acc) : val [] A = 0 := rfl
/-- Three rows of legs, added up. -/
theorem val_three (A : Acc) (x y z : List Leg) (h : ∀ q ∈ x ++ y ++ z, -9007199254740992 ≤ q.2 ∧ q.2 ≤ 9007199254740992) (hl : (x ++ y ++ z).length ≤ 64) : val (z.foldl addA (y.foldl addA (x.foldl addA []))) A = sumA A x + sumA A y + sumA A z := by
  rw [← List.foldl_append, ← List.foldl_append]
  rw [show x ++ (y ++ z) = x ++ y ++ z by simp]
  rw [(fold_val A (x ++ y ++ z) [] h hl (fun B => by rw [val_nil]; omega)).1, val_nil, sumA_app, sumA_app]
  omega
theorem flat_perm {f f' : Int → List Leg} (h : ∀ n, (f n).Perm (f' n)) : ∀ (nodes : List Int), (nodes.flatMap f).Perm (nodes.flatMap f')
  | [] => .refl _
  | n :: nodes => by rw [List.flatMap_cons, List.flatMap_cons]; exact (h n).append (flat_perm h nodes)
theorem opens_same {a : Int} {nodes : List Int} (g g' : Int) (ha : 1 ≤ a ∧ a ≤ 9007199254740992) {y2 y3 : List Leg} (p2 : y2.Perm (legsOf 2 a g nodes)) (s2 : y2.Pairwise (fun x y => ltA x.1 y.1)) (p3 : y3.Perm (legsOf 3 a g' nodes)) (s3 : y3.Pairwise (fun x y => ltA x.1 y.1)) : y2.map opL = y3 := by
  have hneg : neg a = -a := neg_eq (by omega) (by omega)
  have hneg2 : neg (-a) = a := by rw [neg_eq (by omega) (by omega)]; omega
  refine sort_fix ?_ ?_ s3
  · refine (p2.map opL).trans (List.Perm.trans ?_ p3.symm)
    rw [legs_two two2, legs_two two3, List.map_flatMap]
    refine flat_perm (fun n => ?_) nodes
    have e : [(onA (sidesOf 2).1 n g, a), (onA (sidesOf 2).2 n g, neg a)].map opL = [((2, n, 0), -a), ((3, n, 0), a)] := by
      simp only [List.map_cons, List.map_nil, opL, hneg, hneg2]
      rfl
    have e' : ([(onA (sidesOf 3).1 n g', a), (onA (sidesOf 3).2 n g', neg a)] : List Leg) = [((3, n, 0), a), ((2, n, 0), -a)] := by
      simp only [hneg]
      rfl
    rw [e, e']
    exact .swap _ _ _
  · rw [List.pairwise_map]
    exact s2.imp fun {x y} h k => ltA_irrefl _ (ltA_trans h k)
/-- In the end all is nought. -/
theorem opens_zero {a g : Int} {nodes : List Int} (ha : 1 ≤ a ∧ a ≤ 9007199254740992) (hn : nodes.Nodup) (hl : nodes.length ≤ 3) {x y z : List Leg} (px : x.Perm (legsOf 2 a 0 nodes)) (py : y.Perm (legsOf 4 a g nodes)) (pz : z.Perm (legsOf 6 a g nodes)) :
    ∀ n ∈ nodes, val (z.foldl addA (y.foldl addA (x.foldl addA []))) (2, n, 0) = 0 ∧ val (z.foldl addA (y.foldl addA (x.foldl addA []))) (3, n, 0) = 0 ∧ val (z.foldl addA (y.foldl addA (x.foldl addA []))) (4, n, g) = 0 := by
  intro n hm
  have hneg : neg a = -a := neg_eq (by omega) (by omega)
  have hb : ∀ q ∈ x ++ y ++ z, -9007199254740992 ≤ q.2 ∧ q.2 ≤ 9007199254740992 := by
    intro q hq
    simp only [List.mem_append] at hq
    rcases hq with (hq | hq) | hq
    · exact (two_amts two2 ha.1 ha.2 0 nodes q (px.mem_iff.1 hq)).2
    · exact (two_amts two4 ha.1 ha.2 g nodes q (py.mem_iff.1 hq)).2
    · exact (two_amts two6 ha.1 ha.2 g nodes q (pz.mem_iff.1 hq)).2
  have hlen : (x ++ y ++ z).length ≤ 64 := by
    simp only [List.length_append, px.length_eq, py.length_eq, pz.length_eq, two_len two2, two_len two4, two_len two6]
    omega
  have hv : ∀ A, val (z.foldl addA (y.foldl addA (x.foldl addA []))) A = sumA A (legsOf 2 a 0 nodes) + sumA A (legsOf 4 a g nodes) + sumA A (legsOf 6 a g nodes) := fun A => by
    rw [val_three A x y z hb hlen, sumA_perm A px, sumA_perm A py, sumA_perm A pz]
  have e1 : (sidesOf 2).1 = 2 := rfl
  have e2 : (sidesOf 2).2 = 3 := rfl
  have e3 : (sidesOf 4).1 = 3 := rfl
  have e4 : (sidesOf 4).2 = 4 := rfl
  have e5 : (sidesOf 6).1 = 4 := rfl
  have e6 : (sidesOf 6).2 = 2 := rfl
  refine ⟨?_, ?_, ?_⟩
  · rw [hv, sum_two two2 0 hn 2 n 0 hm (by decide) rfl, sum_two two4 g hn 2 n 0 hm (by decide) rfl, sum_two two6 g hn 2 n 0 hm (by decide) rfl, e1, e3, e4, e5, e6, hneg]
    simp
    omega
  · rw [hv, sum_two two2 0 hn 3 n 0 hm (by decide) rfl, sum_two two4 g hn 3 n 0 hm (by decide) rfl, sum_two two6 g hn 3 n 0 hm (by decide) rfl, e1, e2, e3, e5, e6, hneg]
    simp
    omega
  · rw [hv, sum_two two4 g hn 4 n g hm (by decide) rfl, sum_two two6 g hn 4 n g hm (by decide) rfl, e3, e4, e5, hneg]
    have h2 : sumA (4, n, g) (legsOf 2 a 0 nodes) = 0 := by
      rw [legs_two two2, sumA_flat (4, n, g) _ n 0 nodes hn (fun q => ?_)]
      · split <;> rfl
      · simp only [sumA, e1, e2]
        rw [if_neg, if_neg]
        · split <;> rfl
        · intro e; have := congrArg Prod.fst e; rw [onA_kind] at this; exact absurd (show (4 : Int) = _ from this) (by decide)
        · intro e; have := congrArg Prod.fst e; rw [onA_kind] at this; exact absurd (show (4 : Int) = _ from this) (by decide)
    rw [h2]
    simp
    omega

theorem EntryOpens (a : Int) (l0 : List Int) (g : Int) (_ : wfTy (.int .i64) a) (_ : wfTy (.slice (.int .i64)) l0) (_ : wfTy (.int .i64) g) : purserlaw07_EntryOpens.f a l0 g = some true := by
  unfold purserlaw07_EntryOpens.f
  generalize hN : (l0.take (if (3 : Int) < (l0.length : Int) then 3 else (l0.length : Int)).toNat).drop (0 : Int).toNat = nodes
  have hN' : l0.take 3 = nodes := by rw [← hN]; exact (cut_eq l0 3).symm
  have hc : (decide ((0 : Int) ≤ 0) && (decide ((0 : Int) ≤ (if (3 : Int) < (l0.length : Int) then (3 : Int) else (l0.length : Int))) && decide ((if (3 : Int) < (l0.length : Int) then (3 : Int) else (l0.length : Int)) ≤ (l0.length : Int)))) = true := cut_ok l0 3
  rw [hc, cond_true]
  have hnl : nodes.length ≤ 3 := by rw [← hN']; simp; omega
  by_cases ha : 1 ≤ a ∧ a ≤ 9007199254740992 ∧ pathB nodes = true
  · obtain ⟨y2, p2, s2, m2⟩ := make_two (k := 2) (by decide) two2 ha 0
    obtain ⟨y3, p3, s3, m3⟩ := make_two (k := 3) (by decide) two3 ha 0
    obtain ⟨y4, p4, s4, m4⟩ := make_two (k := 4) (by decide) two4 ha g
    obtain ⟨y6, p6, s6, m6⟩ := make_two (k := 6) (by decide) two6 ha g
    have hnd : nodes.Nodup := by have := ha.2.2; unfold pathB at this; simp at this; exact this.2.2
    have l2 : y2.length ≤ 6 := by rw [p2.length_eq, two_len two2]; omega
    have l3 : y3.length ≤ 6 := by rw [p3.length_eq, two_len two3]; omega
    have l4 : y4.length ≤ 6 := by rw [p4.length_eq, two_len two4]; omega
    have l6 : y6.length ≤ 6 := by rw [p6.length_eq, two_len two6]; omega
    by_cases h2 : goodN nodes
    · have hop : entry_Opposite.f (2, y2) = some (2, y3) := by rw [op_eq 2 y2 (by omega), opens_same 0 0 ⟨ha.1, ha.2.1⟩ p2 s2 p3 s3]
      have hfr : purserlaw07_from.f (2, y3) = some (2, y3.map frL) := from_eq 2 y3 (by omega)
      have hfr3 : purserlaw07_from.f (3, y3) = some (3, y3.map frL) := from_eq 3 y3 (by omega)
      have hsame : purserref07_Same.f (2, y3.map frL) (2, y3.map frL) = some true := same_refl (2, y3.map frL) (by simp; omega)
      rw [if_pos ((ok2 0 nodes).2 h2)] at m2
      rw [if_pos ((ok3 0 nodes).2 h2)] at m3
      by_cases h6 : okB 6 g nodes
      · rw [if_pos ((ok46 g nodes).2 h6)] at m4
        rw [if_pos h6] at m6
        simp only [m2, m3, m4, m6, entries_eq, Bool.not_true, Bool.not_false, cond_true, bne_self_eq_false, cond_false, Option.bind_some, hop, hfr, hfr3, hsame]
        rw [loop14, loop16, loop12 2 y2 0 [] (by omega)]
        simp only [Option.bind_some]
        rw [loop12 4 y4 0 _ (by omega)]
        simp only [Option.bind_some]
        rw [loop12 6 y6 0 _ (by omega)]
        simp only [Option.bind_some]
        rw [loop18 l0 g _ nodes hN hnl (opens_zero ⟨ha.1, ha.2.1⟩ hnd hnl p2 p4 p6)]
        rfl
      · rw [if_neg (fun h => h6 ((ok46 g nodes).1 h))] at m4
        rw [if_neg h6] at m6
        simp only [m2, m3, m4, m6, entries_eq, Bool.not_true, Bool.not_false, cond_true, bne_self_eq_false, cond_false, Option.bind_some, hop, hfr, hfr3, hsame]
        rfl
    · rw [if_neg (fun h => h2 ((ok2 0 nodes).1 h))] at m2
      rw [if_neg (fun h => h2 ((ok3 0 nodes).1 h))] at m3
      by_cases h6 : okB 6 g nodes
      · rw [if_pos ((ok46 g nodes).2 h6)] at m4
        rw [if_pos h6] at m6
        simp [m2, m3, m4, m6, entries_eq]
      · rw [if_neg (fun h => h6 ((ok46 g nodes).1 h))] at m4
        rw [if_neg h6] at m6
        simp [m2, m3, m4, m6, entries_eq]
  · rw [make_arg 2 a nodes 0 (by decide) ha, make_arg 3 a nodes 0 (by decide) ha, make_arg 4 a nodes g (by decide) ha, make_arg 6 a nodes g (by decide) ha]
    simp [entries_eq]
end Go.Proofs.Ytfhcockdlfidmaa.Pure
