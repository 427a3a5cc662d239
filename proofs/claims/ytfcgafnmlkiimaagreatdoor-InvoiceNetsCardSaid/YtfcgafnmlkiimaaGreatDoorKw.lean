/- Loops over a map inside an iterator (maps.Keys): what is left. No statement of its own. -/
import Derived.Maps.RangeRun
import Derived.Sort.MapsRangeIn
import Derived.RangeFuncBox
import Derived.RangeFuncLeaves
import Derived.Test.YtfcgafnmlkiimaaGreatDoorAmE
set_option linter.unusedSimpArgs false
set_option linter.unusedVariables false
namespace Go.Am
open Go.Vk Go.RowKit Go.Maps
structure MR(W:World)(b r:Nat)(es:Array MapEntry)(clock:Nat)(left:List MapEntry):Prop where
 map:W.heap[b]? =some (.map es clock)
 iter: ∃since seen c0,W.heap[r]? =some (.mapIter (some b) since seen c0)∧(∀x∈es.toList,x.born<since)∧since≤c0∧since≤clock∧(leftOf es seen).toList=left
theorem MR.walks{W W':World}{b r clock:Nat}{es:Array MapEntry}{left:List MapEntry}(h:MR W b r es clock left)(hk:KeepsWalks W W'):MR W' b r es clock left:=by
 obtain⟨h1,since,seen,c0,h2,h3⟩:=h
 exact⟨hk.same b _ h1 rfl,since,seen,c0,hk.same r _ h2 rfl,h3⟩
theorem MR.walk{W:World}{b r clock:Nat}{es:Array MapEntry}{left:List MapEntry}(h:MR W b r es clock left): ∃o:Obj,W.heap[r]? =some o∧o.isWalk=true:=by
 obtain⟨_,since,seen,c0,h2,_⟩:=h
 exact⟨_,h2,rfl⟩
def mrLeft(w:World)(b r:Nat):Nat:=
 match w.heap[b]?,w.heap[r]? with
 |some (.map es _),some (.mapIter _ _ seen _)=>(leftOf es seen).size
 |_,_=>0
theorem MR.left_eq{W:World}{b r clock:Nat}{es:Array MapEntry}{left:List MapEntry}(h:MR W b r es clock left):mrLeft W b r=left.length:=by
 obtain⟨h1,since,seen,c0,h2,_,_,_,h3⟩:=h
 simp only[mrLeft,h1,h2]
 rw[←h3,Array.length_toList]
section
variable {F : Fence} {n : Nat} {P : Program} (w : World) {ops : Array Oper} {rest : List Oper} {o : Oper} {a : Act} {Q : Exit → Act → World → Prop}
theorem wpListIn_range_mr (hg:o.guard=none) (m:Operand) (t:TypeId) (hop:o.op=Op.range t m) (k e:TypeId) (ht:P.underlying t=some (.map k e)) (b clock:Nat) (es:Array MapEntry)
  (hm:a.eval m= .map (some b)) (hb:w.heap[b]? =some (.map es clock)) (hold: ∀x∈es.toList,x.born<clock)
  (hK: ∀w',MR w' b w.heap.size es clock es.toList→w.grownBy w' none→w'.heap.size=w.heap.size+1→wpListIn F n P ops Q rest (a.put o.dst (.pointer (some ⟨w.heap.size,0,none⟩))) w'):
  wpListIn F n P ops Q (o::rest) a w:=by
 refine wpListIn_plain hg fun K' hK'=> ?_
 have hrun:=run_range_map (P:=P) w t k e b es clock ht hb
 have hbl:b<w.heap.size:=(Array.getElem?_eq_some_iff.1 hb).1
 unfold Oper.wpIn
 refine⟨?_,?_⟩
 ·simp[Oper.about,hop]
 ·rw[Oper.semAt_plain F _ _ (by rw[hop];intro c hc';cases hc')]
  simp[execOp,hop,hm,hrun,Result.andThen]
  refine hK' _ _ (hK _ ⟨?_,clock,#[],clock,?_,hold,Nat.le_refl _,Nat.le_refl _,?_⟩ ?_ ?_)
  ·show(w.heap.push _)[b]? =_
   rw[Array.getElem?_push,if_neg (Nat.ne_of_lt hbl)]
   exact hb
  ·show(w.heap.push _)[w.heap.size]? =_
   rw[Array.getElem?_push,if_pos rfl]
  ·simp[leftOf]
  ·exact⟨rfl,rfl,rfl,by show w.heap.size≤(w.heap.push _).size;simp,fun k hk _=>by
    show(w.heap.push _)[k]? =_
    rw[Array.getElem?_push,if_neg (Nat.ne_of_lt hk)]⟩
  ·show(w.heap.push _).size=_
   simp
theorem wpListIn_next_mr (hg:o.guard=none) (it:Operand) (hop:o.op=Op.next it false) (b r clock:Nat) (es:Array MapEntry) (left:List MapEntry)
  (hit:a.eval it= .pointer (some ⟨r,0,none⟩)) (h:MR w b r es clock left) (hn:(es.toList.map (·.born)).Nodup)
  (hDone:left= []→wpListIn F n P ops Q rest (a.put o.dst (.tuple #[.bool false])) w)
  (hMore: ∀(e:MapEntry) (l1 l2:List MapEntry) (w':World),left=l1++e::l2→MR w' b r es clock (l1++l2)→w.grownBy w' (some r)→w'.heap.size=w.heap.size→
   (Instr.entry (.pointer (some ⟨r,0,none⟩))).run P w'= .ok (.tuple #[e.key,e.val]) w'→wpListIn F n P ops Q rest (a.put o.dst (.tuple #[.bool true,e.key,e.val])) w'):
  wpListIn F n P ops Q (o::rest) a w:=by
 refine wpListIn_plain hg fun K' hK'=> ?_
 obtain⟨hb,since,seen,c0,hr,hold,hsc,hscl,hl⟩:=h
 have hrb:r≠b:=fun e=>by rw[e,hb]at hr;cases hr
 have hrl:r<w.heap.size:=(Array.getElem?_eq_some_iff.1 hr).1
 unfold Oper.wpIn
 refine⟨by simp[Oper.about,hop],?_⟩
 rw[Oper.semAt_plain F _ _ (by rw[hop];intro c hc';cases hc')]
 rcases run_next_at (P:=P) w o.type r b since c0 seen es clock hr hb hold hsc with⟨h0,hrun⟩|⟨e,he,w1,hw1,hrun⟩
 ·simp[execOp,hop,hit,hrun,Result.andThen]
  refine hK' _ _ (hDone ?_)
  rw[←hl]
  exact List.eq_nil_of_length_eq_zero (by rw[Array.length_toList];exact h0)
 ·obtain⟨l1,l2,q1,q2⟩:=left_push hn he
  have hh:w1.heap=w.heap:=by rcases hw1 with rfl|rfl<;>rfl
  have hes:e∈es.toList:=by
   have:e∈(leftOf es seen).toList:=he
   simp only[leftOf,Array.toList_filter,List.mem_filter]at this
   exact this.1
  obtain⟨w2,hw2⟩: ∃w2,ChangeMaps.setBlock w1 r (.mapIter (some b) since (seen.push e.born) clock)=w2:=⟨_,rfl⟩
  have hr2:w2.heap[r]? =some (.mapIter (some b) since (seen.push e.born) clock):=by
   rw[←hw2]
   show(w1.heap.setIfInBounds r _)[r]? =_
   rw[Array.getElem?_setIfInBounds,if_pos rfl,if_pos (by rw[hh];exact hrl)]
  have hk2: ∀j,j≠r→w2.heap[j]? =w.heap[j]? :=fun j hj=>by
   rw[←hw2]
   show(w1.heap.setIfInBounds r _)[j]? =_
   rw[Array.getElem?_setIfInBounds,if_neg (fun e=>hj e.symm),hh]
  have hs2:w2.heap.size=w.heap.size:=by
   rw[←hw2]
   show(w1.heap.setIfInBounds r _).size=_
   rw[Array.size_setIfInBounds,hh]
  have hb2:w2.heap[b]? =some (.map es clock):=(hk2 b (fun e=>hrb e.symm)).trans hb
  have hen:=run_entry_at (P:=P) w2 r b since seen es clock e hr2 hb2 hes hn
  rw[hw2]at hrun
  simp[execOp,hop,hit,hrun,Result.andThen]
  refine hK' _ _ (hMore e l1 l2 w2 (hl▸q1) ⟨hb2,since,_,clock,hr2,hold,hscl,hscl,q2⟩ ⟨?_,?_,?_,by omega,fun k _ hk=>hk2 k (fun e=>hk (by rw[e]))⟩ hs2 hen)
  all_goals rw[←hw2];rcases hw1 with rfl|rfl<;>rfl
end
end Go.Am
