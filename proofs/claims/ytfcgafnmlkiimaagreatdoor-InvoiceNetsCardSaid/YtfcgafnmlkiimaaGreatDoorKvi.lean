/- maps.Keys of a map and slices.Collect over it,at this seat: all keys come,each once,in some order. (Turned from the kit's proofs for keys that are ints.) No statement of its own. -/
import Derived.RangeFuncBox
import Derived.RangeFuncLeaves
import Derived.RangeFuncNested
import Derived.Shelf.Abstract
import Derived.WalkKit
import Derived.OwnWalkIn
import Derived.TacticsInMore
import Derived.LoopNIn
import Derived.LoopIn
import Derived.Maps.AppendAt
import Derived.Test.YtfcgafnmlkiimaaGreatDoorKw
import Derived.Test.YtfcgafnmlkiimaaGreatDoorProg
set_option linter.unusedSimpArgs false
set_option linter.unusedVariables false
namespace Go.Proofs.YtfcgafnmlkiimaaGreatDoor.Kv152
open Go.RowKit Go.Shelf Go.Proofs Go.Am Go.Vk
attribute [local go_sem] Oper.semAt_some
abbrev KT:Ty:= .int .i64
def kcs(x:KT.Den):List Value:= [.int .i64 x]
def kv(x:KT.Den):Value:= .int .i64 x
variable {V : Type}
set_option maxRecDepth 100000 in
set_option maxHeartbeats 2000000 in
theorem keys1_in (F:Fence) (n:Nat) (h7:F.fn 152) (hro:F.round=none) (hn:1≤n) (l Bm b clock:Nat) (es:Array MapEntry) (ps:List (KT.Den×V)) (hes:Fa2 (fun e p=>e.key=kv p.1) es.toList ps) (hold: ∀x∈es.toList,x.born<clock) (hnd:(es.toList.map (·.born)).Nodup) (J Jx:List KT.Den→World→Prop)
  (hY: ∀pre x W,J pre W→pre.length<ps.length→YieldAt F (n - 1) Tryz.prog l #[kv x] W fun e W'=>(e= .returned (.bool true)∧J (pre++ [x]) W'∧KeepsWalks W W')∨(e= .returned (.bool false)∧Jx (pre++ [x]) W'))
  (W:World) (hJ:AbidesFrom W.heap.size J) (hm:W.cell? ⟨Bm,0,none⟩=some (.map (some b))) (hb:W.heap[b]? =some (.map es clock)) (h0:J [] W):
  CallsIn F n Tryz.prog 152 #[.func (.yield l) #[] #[],.pointer (some ⟨Bm,0,none⟩)] W fun e W'=>(∃v,e= .returned v)∧((∃ss:List KT.Den,ss.Perm (ps.map (·.1))∧J ss W')∨∃pre,True∧Jx pre W'):=by
 refine callsIn_of_wp Tryz.func152 rfl h7 ?_ hro
 simp only[Tryz.ntmps152,List.size_toArray,List.length_cons,List.length_nil,Nat.reduceAdd,Nat.reduceSub,Array.replicate_succ,Array.replicate_zero,List.push_toArray,List.append_toArray,List.nil_append,List.cons_append]
 gi_wp2_with (first
  |(gi_at_range;refine wpListIn_range_mr _ rfl _ 204 rfl 3 197 Tryz.underlying204 b clock es rfl hb hold ?_;intro w0 hrg0 hg0 hs0)
  |gi_in)
 go_frame
 gi_loopw [3] (fun _ wr=> ∃(left:List MapEntry) (rest:List (KT.Den×V)) (ss:List KT.Den),MR wr b W.heap.size es clock left∧Fa2 (fun e p=>e.key=kv p.1) left rest∧(ss++rest.map (·.1)).Perm (ps.map (·.1))∧J ss wr)
  (fun _ wr=>mrLeft wr b W.heap.size)
 case atStart=>
  exact⟨_,ps,[],hrg0,hes,.refl _,hJ [] W w0 none h0 hg0 (fun r e=>by cases e)⟩
 case round=>
  obtain⟨left,rest,ss,hrg,hfa,hperm,hJs⟩:=hrel
  gi_wp2_with (first
   |(gi_at_next;refine wpListIn_next_mr _ rfl _ rfl b W.heap.size clock es left rfl hrg hnd ?_ ?_)
   |gi_in)
  ·intro hl0
   subst hl0
   cases hfa
   gi_wp2
   go_end0
   exact⟨⟨_,rfl⟩,.inl ⟨ss,by simpa using hperm,hJs⟩⟩
  ·intro e l1 l2 w2 hl hrg2 hg2 hs2 hen
   subst hl
   obtain⟨r1,x,r2,rfl,hx,hfa2⟩:=Fa2.split hfa
   obtain⟨ek,ev,eb⟩:=e
   have hx:ek=kv x.1:=hx
   subst hx
   have hJ2:J ss w2:=hJ ss wr w2 (some W.heap.size) hJs hg2 (fun r e=>by cases e;exact⟨Nat.le_refl _,hrg.walk⟩)
   have hlen:ss.length<ps.length:=by have:=hperm.length_eq;simp at this;omega
   have hkv: ∀x:KT.Den,kv x= .int .i64 x:=fun _=>rfl
   obtain⟨x,xv⟩:=x
   obtain⟨fn,tmps,assign,body,hy,hR⟩:=hY ss x _ hJ2 hlen
   simp only[hkv]at hen hrg hy
   gi_wp2
   refine hR.mono ?_
   rintro e W4 (⟨rfl,hJ4,hk4⟩|⟨rfl,hJx4⟩)
   ·gi_wp2
    have hrg3:=hrg2.walks hk4
    go_roundw
    case rel=>
     refine⟨_,r1++r2,ss++ [x],hrg3,hfa2,List.Perm.trans ?_ hperm,hJ4⟩
     simp only[List.map_append,List.map_cons,List.append_assoc,List.singleton_append]
     exact List.Perm.append_left _ List.perm_middle.symm
    case measure=>rw[hrg3.left_eq,hrg.left_eq];simp
   ·gi_wp2
    refine bodyPost_ret (results_none rfl _ _ _) rfl ?_
    exact⟨⟨_,rfl⟩,.inr ⟨_,trivial,hJx4⟩⟩
theorem keys_stops (F:Fence) (n:Nat) (h7:F.fn 152) (hro:F.round=none) (hn:1≤n) (Bm b clock:Nat) (es:Array MapEntry) (ps:List (KT.Den×V)) (hes:Fa2 (fun e p=>e.key=kv p.1) es.toList ps) (hold: ∀x∈es.toList,x.born<clock) (hnd:(es.toList.map (·.born)).Nodup) (w:World) (hBs:Bm<w.heap.size) (hbs:b<w.heap.size)
  (hm:w.cell? ⟨Bm,0,none⟩=some (.map (some b))) (hb:w.heap[b]? =some (.map es clock)):
  SeqStopsK F n Tryz.prog 152 #[.pointer (some ⟨Bm,0,none⟩)] (fun x:KT.Den=> #[kv x]) KeepsWalks (fun ss=>ss.Perm (ps.map (·.1))) (fun _=>True) ps.length w:=fun l J Jx W hW hJ _ hY h0=>by
 have hm':=(hW.cell (p:=⟨Bm,0,none⟩) hBs).trans hm
 exact keys1_in F n h7 hro hn l Bm b clock es ps hes hold hnd J Jx hY W hJ hm' ((hW.block b hbs).trans hb) h0
theorem infoI:(Tryz.prog.info? 3).map (fun i=>(i.zero,i.size,i.bytes))=some (some (.int .i64 0),1,8):=by kernel_rfl
theorem kcs_one(x:KT.Den): ∀u∈kcs x,u.oneCell'=true:=by
 intro u hu
 simp only[kcs,List.mem_cons,List.not_mem_nil,or_false]at hu
 rcases hu with rfl<;>rfl
theorem cells_new(w:World)(cs:List Value)(t:TypeId): ∀j u,cs[j]? =some u→(w.alloc (.cells cs.toArray t)).cell? ((⟨w.heap.size,0,none⟩:Addr).add j)=some u:=by
 intro j u hj
 have h:=World.alloc_heap_new w (.cells cs.toArray t)
 have e:((⟨w.heap.size,0,none⟩:Addr).add j)=⟨w.heap.size,j,none⟩:=by
  unfold Addr.add
  split
  ·rename_i h0;subst h0;rfl
  ·simp
 rw[e]
 unfold World.cell?
 simp only[h]
 simpa using hj
set_option maxRecDepth 100000 in
set_option maxHeartbeats 2000000 in
theorem appendSeq_of(F:Fence)(n:Nat)(h3:F.fn 143)(h7:F.fn 152)(hro:F.round=none)(hn:3≤n)(Bm N:Nat)(Dn:List KT.Den→Prop)(hlen:N≤maxLen)(hbytes:N*8≤140737488351232)(w:World)(hS: ∀m,1≤m→SeqStopsK F m Tryz.prog 152 #[.pointer (some ⟨Bm,0,none⟩)] (fun x:KT.Den=> #[kv x]) KeepsWalks Dn (fun _=>True) N w):
  CallsIn F n Tryz.prog 143 #[.slice none 0 0,.func (.func 152) #[] #[.pointer (some ⟨Bm,0,none⟩)]] w fun e W'=> ∃v ss,e= .returned v∧Dn ss∧W'.ownsRow w.heap.size 3 1 v ss.length (ss.flatMap kcs)∧(v= .slice none 0 0↔ss= [])∧Below w.heap.size w W':=by
 have h1:1≤n:=by omega
 obtain⟨i0,hi,hz0,hz1,hz2⟩:=info_parts infoI
 refine callsIn_of_wp_marks Tryz.func143 rfl h3 ?_ hro
 simp only[Tryz.ntmps143,List.size_toArray,List.length_cons,List.length_nil,Nat.reduceAdd,Nat.reduceSub,Array.replicate_succ,Array.replicate_zero,List.push_toArray,List.append_toArray,List.nil_append,List.cons_append]
 gi_wp2
 have bO:=Boxed.new w 49 (.slice none 0 0)
 have hB0:Below w.heap.size w (w.alloc (.cells #[.slice none 0 0] 49)):=(Below.refl _ w).alloc (Nat.le_refl _) _
 have hkv: ∀x:KT.Den,kv x= .int .i64 x:=fun _=>rfl
 refine wpIn_rangeFunc_ownH hro h1 (gf:=152) (lb:= #[.pointer (some ⟨Bm,0,none⟩)]) rfl h7 (enters_of Tryz.func152 (by kernel_rfl) rfl)
  (hS (n - 1) (by omega)) walksK_t walksK_b hB0 (fun _=>rfl)
  (fun pre W=>(∃v,Boxed W w.heap.size 49 v∧W.ownsRow w.heap.size 3 1 v pre.length (pre.flatMap kcs)∧(v= .slice none 0 0↔pre= []))∧Below w.heap.size w W)
  (fun _ _ _=>False) (OwnFrom.and (Own.from (holdsRow_own w.heap.size w.heap.size 49 3 1 (fun pre:List KT.Den=>pre.length) (fun pre=>pre.flatMap kcs) (fun pre v=>v= .slice none 0 0↔pre= [])) _) (ownFrom_below (Nat.le_refl _) (by simp))) (fun _ _ _ _ _ hs _ _=>hs)
  ⟨⟨_,bO,World.ownsRow_nil _ _ _ _,by simp⟩,hB0⟩
  (fun x a' W=>a'={tmps:= #[.slice none 0 0,.func (.func 152) #[] #[.pointer (some ⟨Bm,0,none⟩)],.pointer (some ⟨w.heap.size,0,none⟩),undef,.slice none 0 0,kv x,.func (.func 152) #[] #[.pointer (some ⟨Bm,0,none⟩)],kv x,undef,undef,undef,undef,undef],defers:= []})
  ?own ?assign ?body ?done ?stop
 case own=>
  rintro x a' s X Y row rfl hg hrow
  rfl
 case assign=>
  intro l pre x W K hi hK
  simp only[hkv]
  gi_wp2
  exact hK _ _ (KeepsFrom.of_grownBy (World.grownBy.refl W none) (fun _ h=>by cases h)) (KeepsWalks.refl _) hi rfl
 case body=>
  rintro l pre x a' W hl _ ⟨⟨v,hv,hrow,hnil⟩,hB⟩ rfl hlt
  have hc:=hv.cell
  simp only[hkv]
  gi_wp2_with (gi_at_builtin;refine wpListIn_append_own _ rfl _ _ 49 rfl w.heap.size 3 i0 _ 1 8 Tryz.underlying49 hi hz0 hz1 hz2 rfl (by decide) _ _ _ rfl (hrow.alloc _) ⟨W.heap.size,0,none⟩ 1 1 (kcs x) rfl rfl (cells_new _ _ _) (kcs_one x) (by omega) (by omega) (by have:=hB.size;simp;omega) ?_;intro v' w1 hown' hgrow _;obtain⟨g',cap',rfl⟩:=ownsRow_succ hown';obtain⟨hv1,hv2,hr2,hk2,hb2⟩:=hv.appended (by decide) hrow hB.size (Nat.le_refl _) hown' hgrow;have hc1:=hv1.cell;have hf1:=hv1.frozen)
  exact⟨hk2.from _,hk2.walks,⟨_,hv2,by simpa using hr2,by simp⟩,hB.trans hb2⟩
 case done=>
  rintro D ys W hD hp ⟨⟨v,hv,hrow,hnil⟩,hB⟩ hK
  have hc:=hv.cell
  gi_wp2
  refine⟨by simp,.inl ⟨_,_,rfl,run_takeDeferred hK,?_⟩⟩
  exact⟨_,results_tmp rfl _ _ _,v,ys,rfl,hp,ownsRow_putObj hrow _ hK rfl,hnil,hB.trans (belowK_b (w:=w) (Nat.le_refl _) W D _ _ (by simp at hD;omega) hK rfl rfl)⟩
 case stop=>
  rintro D c pre W _ _ h _
  exact h.elim
set_option maxHeartbeats 1000000 in
theorem collect_of(F:Fence)(n:Nat)(h2:F.fn 110)(h3:F.fn 143)(h7:F.fn 152)(hro:F.round=none)(hn:4≤n)(Bm N:Nat)(Dn:List KT.Den→Prop)(hlen:N≤maxLen)(hbytes:N*8≤140737488351232)(w:World)(hS: ∀m,1≤m→SeqStopsK F m Tryz.prog 152 #[.pointer (some ⟨Bm,0,none⟩)] (fun x:KT.Den=> #[kv x]) KeepsWalks Dn (fun _=>True) N w):
  CallsIn F n Tryz.prog 110 #[.func (.func 152) #[] #[.pointer (some ⟨Bm,0,none⟩)]] w fun e W'=> ∃v ss,e= .returned v∧Dn ss∧W'.ownsRow w.heap.size 3 1 v ss.length (ss.flatMap kcs)∧(v= .slice none 0 0↔ss= [])∧Below w.heap.size w W':=by
 have h1:1≤n:=by omega
 refine callsIn_of_wp Tryz.func110 rfl h2 ?_ hro
 simp only[Tryz.ntmps110,List.size_toArray,List.length_cons,List.length_nil,Nat.reduceAdd,Nat.reduceSub,Array.replicate_succ,Array.replicate_zero,List.push_toArray,List.append_toArray,List.nil_append,List.cons_append]
 gi_wp2_with (gi_at_call 143;refine(appendSeq_of F (n - 1) h3 h7 hro (by omega) Bm N Dn hlen hbytes w hS).mono ?_;rintro e w' ⟨v,ss,rfl,hp,hrow,hnil,hb⟩)
 go_ret
 exact⟨v,ss,rfl,hp,hrow,hnil,hb⟩
theorem collect_in (F:Fence) (n:Nat) (h2:F.fn 110) (h3:F.fn 143) (h7:F.fn 152) (hro:F.round=none) (hn:4≤n) (Bm b clock:Nat) (es:Array MapEntry) (ps:List (KT.Den×V)) (hes:Fa2 (fun e p=>e.key=kv p.1) es.toList ps) (hold: ∀x∈es.toList,x.born<clock) (hnd:(es.toList.map (·.born)).Nodup) (hlen:ps.length≤maxLen) (hbytes:ps.length*8≤140737488351232) (w:World) (hBs:Bm<w.heap.size) (hbs:b<w.heap.size)
  (hm:w.cell? ⟨Bm,0,none⟩=some (.map (some b))) (hb:w.heap[b]? =some (.map es clock)):
  CallsIn F n Tryz.prog 110 #[.func (.func 152) #[] #[.pointer (some ⟨Bm,0,none⟩)]] w fun e W'=> ∃v ss,e= .returned v∧ss.Perm (ps.map (·.1))∧W'.ownsRow w.heap.size 3 1 v ss.length (ss.flatMap kcs)∧(v= .slice none 0 0↔ss= [])∧Below w.heap.size w W':=
 collect_of F n h2 h3 h7 hro hn Bm ps.length (fun ss=>ss.Perm (ps.map (·.1))) hlen hbytes w fun m h=>keys_stops F m h7 hro h Bm b clock es ps hes hold hnd w hBs hbs hm hb
/-! ### the keys of a map that is nil: none -/
section
variable {F : Fence} {n : Nat} {P : Program} (w : World) {ops : Array Oper} {rest : List Oper} {o : Oper} {a : Act} {Q : Exit → Act → World → Prop}
theorem wpListIn_range_none (hg:o.guard=none) (m:Operand) (t:TypeId) (hop:o.op=Op.range t m) (k e:TypeId) (ht:P.underlying t=some (.map k e)) (hm:a.eval m= .map none)
  (hK: ∀w',w'.heap[w.heap.size]? =some (.mapIter none 0 #[] 0)→w.grownBy w' none→wpListIn F n P ops Q rest (a.put o.dst (.pointer (some ⟨w.heap.size,0,none⟩))) w'):
  wpListIn F n P ops Q (o::rest) a w:=by
 refine wpListIn_plain hg fun K' hK'=> ?_
 have hrun:=run_range_nilMap (P:=P) w t k e ht
 unfold Oper.wpIn
 refine⟨?_,?_⟩
 ·simp[Oper.about,hop]
 ·rw[Oper.semAt_plain F _ _ (by rw[hop];intro c hc';cases hc')]
  simp[execOp,hop,hm,hrun,Result.andThen]
  refine hK' _ _ (hK _ ?_ ?_)
  ·show(w.heap.push _)[w.heap.size]? =_
   rw[Array.getElem?_push,if_pos rfl]
  ·exact⟨rfl,rfl,rfl,by show w.heap.size≤(w.heap.push _).size;simp,fun k hk _=>by
    show(w.heap.push _)[k]? =_
    rw[Array.getElem?_push,if_neg (Nat.ne_of_lt hk)]⟩
theorem wpListIn_next_none (hg:o.guard=none) (it:Operand) (hop:o.op=Op.next it false) (r:Nat) (hit:a.eval it= .pointer (some ⟨r,0,none⟩)) (h:w.heap[r]? =some (.mapIter none 0 #[] 0))
  (hDone:wpListIn F n P ops Q rest (a.put o.dst (.tuple #[.bool false])) w):
  wpListIn F n P ops Q (o::rest) a w:=by
 refine wpListIn_plain hg fun K' hK'=> ?_
 unfold Oper.wpIn
 refine⟨by simp[Oper.about,hop],?_⟩
 rw[Oper.semAt_plain F _ _ (by rw[hop];intro c hc';cases hc')]
 have hrun:(Instr.next (.pointer (some ⟨r,0,none⟩)) false o.type).run P w= .ok (.tuple #[.bool false]) w:=by
  simp only[Instr.next,getObj,Sem.run_bind,Sem.run,h,Result.andThen]
  rfl
 simp[execOp,hop,hit,hrun,Result.andThen]
 exact hK' _ _ hDone
end
set_option maxRecDepth 100000 in
set_option maxHeartbeats 2000000 in
theorem keys1_none (F:Fence) (n:Nat) (h7:F.fn 152) (hro:F.round=none) (hn:1≤n) (l Bm:Nat) (J:List KT.Den→World→Prop)
  (W:World) (hJ:AbidesFrom W.heap.size J) (hm:W.cell? ⟨Bm,0,none⟩=some (.map none)) (h0:J [] W):
  CallsIn F n Tryz.prog 152 #[.func (.yield l) #[] #[],.pointer (some ⟨Bm,0,none⟩)] W fun e W'=>(∃v,e= .returned v)∧J [] W':=by
 refine callsIn_of_wp Tryz.func152 rfl h7 ?_ hro
 simp only[Tryz.ntmps152,List.size_toArray,List.length_cons,List.length_nil,Nat.reduceAdd,Nat.reduceSub,Array.replicate_succ,Array.replicate_zero,List.push_toArray,List.append_toArray,List.nil_append,List.cons_append]
 gi_wp2_with (first
  |(gi_at_range;refine wpListIn_range_none _ rfl _ 204 rfl 3 197 Tryz.underlying204 rfl ?_;intro w0 hr0 hg0)
  |gi_in)
 go_frame
 gi_loopw [3] (fun _ wr=>wr.heap[W.heap.size]? =some (.mapIter none 0 #[] 0)∧J [] wr)
  (fun _ wr=>0)
 case atStart=>
  exact⟨hr0,hJ [] W w0 none h0 hg0 (fun r e=>by cases e)⟩
 case round=>
  obtain⟨hrg,hJs⟩:=hrel
  gi_wp2_with (first
   |(gi_at_next;refine wpListIn_next_none _ rfl _ rfl W.heap.size rfl hrg ?_)
   |gi_in)
  gi_wp2
  go_end0
  exact⟨⟨_,rfl⟩,hJs⟩
theorem keys_none(F:Fence)(n:Nat)(h7:F.fn 152)(hro:F.round=none)(hn:1≤n)(Bm:Nat)(w:World)(hBs:Bm<w.heap.size)(hm:w.cell? ⟨Bm,0,none⟩=some (.map none)):
  SeqStopsK F n Tryz.prog 152 #[.pointer (some ⟨Bm,0,none⟩)] (fun x:KT.Den=> #[kv x]) KeepsWalks (fun ss=>ss= []) (fun _=>True) 0 w:=fun l J Jx W hW hJ _ hY h0=>by
 have hm':=(hW.cell (p:=⟨Bm,0,none⟩) hBs).trans hm
 refine(keys1_none F n h7 hro hn l Bm J W hJ hm' h0).mono ?_
 rintro e W' ⟨h1,h2⟩
 exact⟨h1,.inl ⟨[],rfl,h2⟩⟩
theorem collect_none(F:Fence)(n:Nat)(h2:F.fn 110)(h3:F.fn 143)(h7:F.fn 152)(hro:F.round=none)(hn:4≤n)(Bm:Nat)(w:World)(hBs:Bm<w.heap.size)(hm:w.cell? ⟨Bm,0,none⟩=some (.map none)):
  CallsIn F n Tryz.prog 110 #[.func (.func 152) #[] #[.pointer (some ⟨Bm,0,none⟩)]] w fun e W'=> ∃v ss,e= .returned v∧ss=([]:List KT.Den)∧W'.ownsRow w.heap.size 3 1 v ss.length (ss.flatMap kcs)∧(v= .slice none 0 0↔ss= [])∧Below w.heap.size w W':=
 collect_of F n h2 h3 h7 hro hn Bm 0 (fun ss=>ss= []) (by decide) (by decide) w fun m h=>keys_none F m h7 hro h Bm w hBs hm
end Go.Proofs.YtfcgafnmlkiimaaGreatDoor.Kv152
