/- maps.Keys of a map and slices.Collect over it,at this seat: all keys come,each once,in some order. (Turned from the kit's proofs for keys that are ints.) No statement of its own. -/
import Derived.RangeFuncBox
import Derived.RangeFuncLeaves
import Derived.RangeFuncNested
import Derived.Shelf.Abstract
import Derived.WalkKit
import Derived.OwnWalkIn
import Derived.TacticsInMore
import Derived.LoopNIn
import Derived.LoopIn
import Derived.Maps.AppendAt
import Derived.Test.YtfcgafnmlkiimaaGreatDoorKw
import Derived.Test.YtfcgafnmlkiimaaGreatDoorProg
set_option linter.unusedSimpArgs false
set_option linter.unusedVariables false
namespace Go.Proofs.YtfcgafnmlkiimaaGreatDoor.Kv155
open Go.RowKit Go.Shelf Go.Proofs Go.Am Go.Vk
attribute [local go_sem] Oper.semAt_some
abbrev KT:Ty:= .pair (.int .i64) (.pair (.int .i64) (.pair (.int .i64) (.pair (.int .i64) (.pair (.int .i64) (.int .i64)))))
def kcs(x:KT.Den):List Value:= [.int .i64 x.1,.int .i64 x.2.1,.int .i64 x.2.2.1,.int .i64 x.2.2.2.1,.int .i64 x.2.2.2.2.1,.int .i64 x.2.2.2.2.2]
def kv(x:KT.Den):Value:= .agg #[.int .i64 x.1,.int .i64 x.2.1,.int .i64 x.2.2.1,.int .i64 x.2.2.2.1,.int .i64 x.2.2.2.2.1,.int .i64 x.2.2.2.2.2]
variable {V : Type}
set_option maxRecDepth 100000 in
set_option maxHeartbeats 2000000 in
theorem keys1_in (F:Fence) (n:Nat) (h7:F.fn 155) (hro:F.round=none) (hn:1≤n) (l Bm b clock:Nat) (es:Array MapEntry) (ps:List (KT.Den×V)) (hes:Fa2 (fun e p=>e.key=kv p.1) es.toList ps) (hold: ∀x∈es.toList,x.born<clock) (hnd:(es.toList.map (·.born)).Nodup) (J Jx:List KT.Den→World→Prop)
  (hY: ∀pre x W,J pre W→pre.length<ps.length→YieldAt F (n - 1) Tryz.prog l #[kv x] W fun e W'=>(e= .returned (.bool true)∧J (pre++ [x]) W'∧KeepsWalks W W')∨(e= .returned (.bool false)∧Jx (pre++ [x]) W'))
  (W:World) (hJ:AbidesFrom W.heap.size J) (hm:W.cell? ⟨Bm,0,none⟩=some (.map (some b))) (hb:W.heap[b]? =some (.map es clock)) (h0:J [] W):
  CallsIn F n Tryz.prog 155 #[.func (.yield l) #[] #[],.pointer (some ⟨Bm,0,none⟩)] W fun e W'=>(∃v,e= .returned v)∧((∃ss:List KT.Den,ss.Perm (ps.map (·.1))∧J ss W')∨∃pre,True∧Jx pre W'):=by
 refine callsIn_of_wp Tryz.func155 rfl h7 ?_ hro
 simp only[Tryz.ntmps155,List.size_toArray,List.length_cons,List.length_nil,Nat.reduceAdd,Nat.reduceSub,Array.replicate_succ,Array.replicate_zero,List.push_toArray,List.append_toArray,List.nil_append,List.cons_append]
 gi_wp2_with (first
  |(gi_at_range;refine wpListIn_range_mr _ rfl _ 154 rfl 110 3 Tryz.underlying154 b clock es rfl hb hold ?_;intro w0 hrg0 hg0 hs0)
  |gi_in)
 go_frame
 gi_loopw [3] (fun _ wr=> ∃(left:List MapEntry) (rest:List (KT.Den×V)) (ss:List KT.Den),MR wr b W.heap.size es clock left∧Fa2 (fun e p=>e.key=kv p.1) left rest∧(ss++rest.map (·.1)).Perm (ps.map (·.1))∧J ss wr)
  (fun _ wr=>mrLeft wr b W.heap.size)
 case atStart=>
  exact⟨_,ps,[],hrg0,hes,.refl _,hJ [] W w0 none h0 hg0 (fun r e=>by cases e)⟩
 case round=>
  obtain⟨left,rest,ss,hrg,hfa,hperm,hJs⟩:=hrel
  gi_wp2_with (first
   |(gi_at_next;refine wpListIn_next_mr _ rfl _ rfl b W.heap.size clock es left rfl hrg hnd ?_ ?_)
   |gi_in)
  ·intro hl0
   subst hl0
   cases hfa
   gi_wp2
   go_end0
   exact⟨⟨_,rfl⟩,.inl ⟨ss,by simpa using hperm,hJs⟩⟩
  ·intro e l1 l2 w2 hl hrg2 hg2 hs2 hen
   subst hl
   obtain⟨r1,x,r2,rfl,hx,hfa2⟩:=Fa2.split hfa
   obtain⟨ek,ev,eb⟩:=e
   have hx:ek=kv x.1:=hx
   subst hx
   have hJ2:J ss w2:=hJ ss wr w2 (some W.heap.size) hJs hg2 (fun r e=>by cases e;exact⟨Nat.le_refl _,hrg.walk⟩)
   have hlen:ss.length<ps.length:=by have:=hperm.length_eq;simp at this;omega
   have hkv: ∀x:KT.Den,kv x= .agg #[.int .i64 x.1,.int .i64 x.2.1,.int .i64 x.2.2.1,.int .i64 x.2.2.2.1,.int .i64 x.2.2.2.2.1,.int .i64 x.2.2.2.2.2]:=fun _=>rfl
   obtain⟨x,xv⟩:=x
   have hg3:w2.grownBy (w2.alloc (.cells #[.int .i64 x.1,.int .i64 x.2.1,.int .i64 x.2.2.1,.int .i64 x.2.2.2.1,.int .i64 x.2.2.2.2.1,.int .i64 x.2.2.2.2.2] 110)) none:=⟨rfl,rfl,rfl,by simp,fun k hk _=>Below.heap_alloc _ _ k hk⟩
   have hJ3:=hJ ss w2 _ none hJ2 hg3 (fun r e=>by cases e)
   obtain⟨fn,tmps,assign,body,hy,hR⟩:=hY ss x _ hJ3 hlen
   simp only[hkv]at hen hrg hy
   gi_wp2
   refine hR.mono ?_
   rintro e W4 (⟨rfl,hJ4,hk4⟩|⟨rfl,hJx4⟩)
   ·gi_wp2
    have hrg3:=(hrg2.walks (KeepsWalks.alloc _ _)).walks hk4
    go_roundw
    case rel=>
     refine⟨_,r1++r2,ss++ [x],hrg3,hfa2,List.Perm.trans ?_ hperm,hJ4⟩
     simp only[List.map_append,List.map_cons,List.append_assoc,List.singleton_append]
     exact List.Perm.append_left _ List.perm_middle.symm
    case measure=>rw[hrg3.left_eq,hrg.left_eq];simp
   ·gi_wp2
    refine bodyPost_ret (results_none rfl _ _ _) rfl ?_
    exact⟨⟨_,rfl⟩,.inr ⟨_,trivial,hJx4⟩⟩
theorem keys_stops (F:Fence) (n:Nat) (h7:F.fn 155) (hro:F.round=none) (hn:1≤n) (Bm b clock:Nat) (es:Array MapEntry) (ps:List (KT.Den×V)) (hes:Fa2 (fun e p=>e.key=kv p.1) es.toList ps) (hold: ∀x∈es.toList,x.born<clock) (hnd:(es.toList.map (·.born)).Nodup) (w:World) (hBs:Bm<w.heap.size) (hbs:b<w.heap.size)
  (hm:w.cell? ⟨Bm,0,none⟩=some (.map (some b))) (hb:w.heap[b]? =some (.map es clock)):
  SeqStopsK F n Tryz.prog 155 #[.pointer (some ⟨Bm,0,none⟩)] (fun x:KT.Den=> #[kv x]) KeepsWalks (fun ss=>ss.Perm (ps.map (·.1))) (fun _=>True) ps.length w:=fun l J Jx W hW hJ _ hY h0=>by
 have hm':=(hW.cell (p:=⟨Bm,0,none⟩) hBs).trans hm
 exact keys1_in F n h7 hro hn l Bm b clock es ps hes hold hnd J Jx hY W hJ hm' ((hW.block b hbs).trans hb) h0
theorem infoI:(Tryz.prog.info? 110).map (fun i=>(i.zero,i.size,i.bytes))=some (some (.agg #[.int .i64 0,.int .i64 0,.int .i64 0,.int .i64 0,.int .i64 0,.int .i64 0]),6,48):=by kernel_rfl
theorem kcs_one(x:KT.Den): ∀u∈kcs x,u.oneCell'=true:=by
 intro u hu
 simp only[kcs,List.mem_cons,List.not_mem_nil,or_false]at hu
 rcases hu with rfl|rfl|rfl|rfl|rfl|rfl<;>rfl
theorem cells_new(w:World)(cs:List Value)(t:TypeId): ∀j u,cs[j]? =some u→(w.alloc (.cells cs.toArray t)).cell? ((⟨w.heap.size,0,none⟩:Addr).add j)=some u:=by
 intro j u hj
 have h:=World.alloc_heap_new w (.cells cs.toArray t)
 have e:((⟨w.heap.size,0,none⟩:Addr).add j)=⟨w.heap.size,j,none⟩:=by
  unfold Addr.add
  split
  ·rename_i h0;subst h0;rfl
  ·simp
 rw[e]
 unfold World.cell?
 simp only[h]
 simpa using hj
set_option maxRecDepth 100000 in
set_option maxHeartbeats 2000000 in
theorem appendSeq_in (F:Fence) (n:Nat) (h3:F.fn 178) (h7:F.fn 155) (hro:F.round=none) (hn:3≤n) (Bm b clock:Nat) (es:Array MapEntry) (ps:List (KT.Den×V)) (hes:Fa2 (fun e p=>e.key=kv p.1) es.toList ps) (hold: ∀x∈es.toList,x.born<clock) (hnd:(es.toList.map (·.born)).Nodup) (hlen:ps.length≤maxLen) (hbytes:ps.length*48≤140737488351232) (w:World) (hBs:Bm<w.heap.size) (hbs:b<w.heap.size)
  (hm:w.cell? ⟨Bm,0,none⟩=some (.map (some b))) (hb:w.heap[b]? =some (.map es clock)):
  CallsIn F n Tryz.prog 178 #[.slice none 0 0,.func (.func 155) #[] #[.pointer (some ⟨Bm,0,none⟩)]] w fun e W'=> ∃v ss,e= .returned v∧ss.Perm (ps.map (·.1))∧W'.ownsRow w.heap.size 110 6 v ss.length (ss.flatMap kcs)∧(v= .slice none 0 0↔ss= [])∧Below w.heap.size w W':=by
 have h1:1≤n:=by omega
 obtain⟨i0,hi,hz0,hz1,hz2⟩:=info_parts infoI
 refine callsIn_of_wp_marks Tryz.func178 rfl h3 ?_ hro
 simp only[Tryz.ntmps178,List.size_toArray,List.length_cons,List.length_nil,Nat.reduceAdd,Nat.reduceSub,Array.replicate_succ,Array.replicate_zero,List.push_toArray,List.append_toArray,List.nil_append,List.cons_append]
 gi_wp2
 have bO:=Boxed.new w 108 (.slice none 0 0)
 have hB0:Below w.heap.size w (w.alloc (.cells #[.slice none 0 0] 108)):=(Below.refl _ w).alloc (Nat.le_refl _) _
 have hkv: ∀x:KT.Den,kv x= .agg #[.int .i64 x.1,.int .i64 x.2.1,.int .i64 x.2.2.1,.int .i64 x.2.2.2.1,.int .i64 x.2.2.2.2.1,.int .i64 x.2.2.2.2.2]:=fun _=>rfl
 refine wpIn_rangeFunc_ownH hro h1 (gf:=155) (lb:= #[.pointer (some ⟨Bm,0,none⟩)]) rfl h7 (enters_of Tryz.func155 (by kernel_rfl) rfl)
  (keys_stops F (n - 1) h7 hro (by omega) Bm b clock es ps hes hold hnd w hBs hbs hm hb) walksK_t walksK_b hB0 (fun _=>rfl)
  (fun pre W=>(∃v,Boxed W w.heap.size 108 v∧W.ownsRow w.heap.size 110 6 v pre.length (pre.flatMap kcs)∧(v= .slice none 0 0↔pre= []))∧Below w.heap.size w W)
  (fun _ _ _=>False) (OwnFrom.and (Own.from (holdsRow_own w.heap.size w.heap.size 108 110 6 (fun pre:List KT.Den=>pre.length) (fun pre=>pre.flatMap kcs) (fun pre v=>v= .slice none 0 0↔pre= [])) _) (ownFrom_below (Nat.le_refl _) (by simp))) (fun _ _ _ _ _ hs _ _=>hs)
  ⟨⟨_,bO,World.ownsRow_nil _ _ _ _,by simp⟩,hB0⟩
  (fun x a' W=> ∃B,a'={tmps:= #[.slice none 0 0,.func (.func 155) #[] #[.pointer (some ⟨Bm,0,none⟩)],.pointer (some ⟨w.heap.size,0,none⟩),undef,.slice none 0 0,.pointer (some ⟨B,0,none⟩),.func (.func 155) #[] #[.pointer (some ⟨Bm,0,none⟩)],kv x,undef,undef,undef,undef,undef],defers:= []}∧W.heap[B]? =some (.cells (kcs x).toArray 110 (0,0)))
  ?own ?assign ?body ?done ?stop
 case own=>
  rintro x a' s X Y row ⟨B,rfl,hB⟩ hg hrow
  refine⟨B,rfl,(hg.block B (Array.getElem?_eq_some_iff.1 hB).1 (fun e'=> ?_)).trans hB⟩
  obtain⟨_,o,ho,hc⟩:=hrow B e'.symm
  rw[hB]at ho;cases ho;cases hc
 case assign=>
  intro l pre x W K hi hK
  simp only[hkv]
  gi_wp2
  refine hK _ _ (KeepsFrom.of_grownBy (World.grownBy_alloc _ _ none) (fun _ h=>by cases h)) (KeepsWalks.alloc _ _) ?_ ⟨W.heap.size,rfl,World.alloc_heap_new W _⟩
  obtain⟨⟨v,hv,hrow,hnil⟩,hB⟩:=hi
  exact⟨⟨v,hv.alloc _,hrow.alloc _,hnil⟩,hB.alloc hB.size _⟩
 case body=>
  rintro l pre x a' W hl _ ⟨⟨v,hv,hrow,hnil⟩,hB⟩ ⟨B,rfl,hBx⟩ hlt
  have hc:=hv.cell
  simp only[hkv]
  have hbc0:W.cell? ⟨B,0,none⟩=some (.int .i64 x.1):=by simp[World.cell?,hBx,kcs]
  have hbc1:W.cell? ⟨B,1,none⟩=some (.int .i64 x.2.1):=by simp[World.cell?,hBx,kcs]
  have hbc2:W.cell? ⟨B,2,none⟩=some (.int .i64 x.2.2.1):=by simp[World.cell?,hBx,kcs]
  have hbc3:W.cell? ⟨B,3,none⟩=some (.int .i64 x.2.2.2.1):=by simp[World.cell?,hBx,kcs]
  have hbc4:W.cell? ⟨B,4,none⟩=some (.int .i64 x.2.2.2.2.1):=by simp[World.cell?,hBx,kcs]
  have hbc5:W.cell? ⟨B,5,none⟩=some (.int .i64 x.2.2.2.2.2):=by simp[World.cell?,hBx,kcs]
  gi_wp2_with (gi_at_builtin;refine wpListIn_append_own _ rfl _ _ 108 rfl w.heap.size 110 i0 _ 6 48 Tryz.underlying108 hi hz0 hz1 hz2 rfl (by decide) _ _ _ rfl (hrow.alloc _) ⟨W.heap.size,0,none⟩ 1 1 (kcs x) rfl rfl (cells_new _ _ _) (kcs_one x) (by omega) (by omega) (by have:=hB.size;simp;omega) ?_;intro v' w1 hown' hgrow _;obtain⟨g',cap',rfl⟩:=ownsRow_succ hown';obtain⟨hv1,hv2,hr2,hk2,hb2⟩:=hv.appended (by decide) hrow hB.size (Nat.le_refl _) hown' hgrow;have hc1:=hv1.cell;have hf1:=hv1.frozen)
  exact⟨hk2.from _,hk2.walks,⟨_,hv2,by simpa using hr2,by simp⟩,hB.trans hb2⟩
 case done=>
  rintro D ys W hD hp ⟨⟨v,hv,hrow,hnil⟩,hB⟩ hK
  have hc:=hv.cell
  gi_wp2
  refine⟨by simp,.inl ⟨_,_,rfl,run_takeDeferred hK,?_⟩⟩
  exact⟨_,results_tmp rfl _ _ _,v,ys,rfl,hp,ownsRow_putObj hrow _ hK rfl,hnil,hB.trans (belowK_b (w:=w) (Nat.le_refl _) W D _ _ (by simp at hD;omega) hK rfl rfl)⟩
 case stop=>
  rintro D c pre W _ _ h _
  exact h.elim
set_option maxHeartbeats 1000000 in
theorem collect_in (F:Fence) (n:Nat) (h2:F.fn 153) (h3:F.fn 178) (h7:F.fn 155) (hro:F.round=none) (hn:4≤n) (Bm b clock:Nat) (es:Array MapEntry) (ps:List (KT.Den×V)) (hes:Fa2 (fun e p=>e.key=kv p.1) es.toList ps) (hold: ∀x∈es.toList,x.born<clock) (hnd:(es.toList.map (·.born)).Nodup) (hlen:ps.length≤maxLen) (hbytes:ps.length*48≤140737488351232) (w:World) (hBs:Bm<w.heap.size) (hbs:b<w.heap.size)
  (hm:w.cell? ⟨Bm,0,none⟩=some (.map (some b))) (hb:w.heap[b]? =some (.map es clock)):
  CallsIn F n Tryz.prog 153 #[.func (.func 155) #[] #[.pointer (some ⟨Bm,0,none⟩)]] w fun e W'=> ∃v ss,e= .returned v∧ss.Perm (ps.map (·.1))∧W'.ownsRow w.heap.size 110 6 v ss.length (ss.flatMap kcs)∧(v= .slice none 0 0↔ss= [])∧Below w.heap.size w W':=by
 have h1:1≤n:=by omega
 refine callsIn_of_wp Tryz.func153 rfl h2 ?_ hro
 simp only[Tryz.ntmps153,List.size_toArray,List.length_cons,List.length_nil,Nat.reduceAdd,Nat.reduceSub,Array.replicate_succ,Array.replicate_zero,List.push_toArray,List.append_toArray,List.nil_append,List.cons_append]
 gi_wp2_with (gi_at_call 178;refine(appendSeq_in F (n - 1) h3 h7 hro (by omega) Bm b clock es ps hes hold hnd hlen hbytes w hBs hbs hm hb).mono ?_;rintro e w' ⟨v,ss,rfl,hp,hrow,hnil,hb⟩)
 go_ret
 exact⟨v,ss,rfl,hp,hrow,hnil,hb⟩
end Go.Proofs.YtfcgafnmlkiimaaGreatDoor.Kv155
