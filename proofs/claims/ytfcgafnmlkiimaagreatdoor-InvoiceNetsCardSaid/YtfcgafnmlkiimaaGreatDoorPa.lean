/- entry.path at this seat: one to three nodes,none twice. No statement of its own. -/
import Derived.Sort.OwnSortedInts
import Derived.Lib.SlicesCompact
import Derived.Test.YtfcgafnmlkiimaaGreatDoorSv
set_option linter.unusedSimpArgs false
set_option linter.unusedVariables false
namespace Go.Proofs.YtfcgafnmlkiimaaGreatDoor.Sv
open Go.RowKit Go.Shelf Go.Proofs Go.Sort
attribute [local go_sem] Oper.semAt_some
theorem keeps_adj(zs:List Int)(j:Nat)(hj:j<zs.length)(h0:0<j):Lib.keeps zs.toArray j=true↔zs[j]≠zs[j - 1]:=by
 have e1:zs.toArray[j]! =zs[j]:=by rw[getElem!_pos _ _ (by simpa using hj)];simp
 have e2:zs.toArray[j - 1]! =zs[j - 1]:=by rw[getElem!_pos _ _ (by simp<;>omega)];simp
 simp only[Lib.keeps,e1,e2,decide_eq_true_eq]
 constructor
 ·rintro(h|h)
  ·omega
  ·exact h
 ·exact .inr
theorem compact_sorted(zs:List Int)(hs:zs.Pairwise (· ≤ ·)):(Lib.compact zs).length=zs.length↔zs.Nodup:=by
 constructor
 ·intro h
  have hall: ∀j,j<zs.length→Lib.keeps zs.toArray j=true:=by
   unfold Lib.compact Lib.compactUpTo at h
   rw[List.length_map]at h
   have:=List.length_filter_eq_length_iff.1 (h.trans (List.length_range (n:=zs.length)).symm)
   exact fun j hj=>this j (List.mem_range.2 hj)
  rw[List.nodup_iff_pairwise_ne,List.pairwise_iff_getElem]
  intro i j hi hj hij e
  have h1:=(keeps_adj zs j hj (by omega)).1 (hall j hj)
  have hp:=List.pairwise_iff_getElem.1 hs
  have a1:zs[i]≤zs[j - 1]:=by
   rcases Nat.lt_or_ge i (j - 1)with hl|hl
   ·exact hp i (j - 1) hi (by omega) hl
   ·have:i=j - 1:=by omega
    subst this
    exact Int.le_refl _
  have a2:zs[j - 1]≤zs[j]:=hp (j - 1) j (by omega) hj (by omega)
  exact h1 (Int.le_antisymm (e▸a1) a2)
 ·intro h
  rw[Lib.compact_all]
  intro j hj
  by_cases h0:j=0
  ·subst h0;simp[Lib.keeps]
  ·rw[keeps_adj zs j hj (by omega)]
   rw[List.nodup_iff_pairwise_ne,List.pairwise_iff_getElem]at h
   exact fun e=>h (j - 1) j (by omega) hj (by omega) e.symm
theorem sorted_compact(zs:List Int):(Lib.compact (zs.mergeSort fun x y=>decide (x≤y))).length=zs.length↔zs.Nodup:=by
 have hp:=List.mergeSort_perm zs (fun x y=>decide (x≤y))
 have hs:(zs.mergeSort fun x y=>decide (x≤y)).Pairwise (· ≤ ·):=by
  have:=List.pairwise_mergeSort (le:=fun x y:Int=>decide (x≤y)) (fun a b c h1 h2=>by simp at*;omega) (fun a b=>by simp;omega) zs
  exact this.imp (fun h=>by simpa using h)
 rw[←hp.length_eq,compact_sorted _ hs]
 exact hp.nodup_iff
def SortOk:Prop:= ∀(blk off cap:Nat) (zs:List Int) (w:World),Holds (Value.int .i64) w blk off zs.toArray→blk<w.heap.size→zs.length<4611686018427387904→
 Calls Tryz.prog 111 #[.slice (some ⟨blk,off,none⟩) zs.length cap] w fun e w'=>e= .returned (.tuple #[])∧∃n os,w'=grow (putRow (Value.int .i64) (Sort.ahead w n) blk off (zs.mergeSort fun x y=>decide (x≤y)).toArray) os
def CompactOk:Prop:= ∀(blk off cap:Nat) (zs:List Int) (w:World),Holds (Value.int .i64) w blk off zs.toArray→zs.length≤9223372036854775807→zs.length≤cap→
 Calls Tryz.prog 84 #[.slice (some ⟨blk,off,none⟩) zs.length cap] w fun e w'=>e= .returned (.slice (some ⟨blk,off,none⟩) (Lib.compact zs).length cap)∧∃q,w'=putRow (Value.int .i64) (Sort.ahead w q) blk off (Lib.compact zs++List.replicate (zs.length - (Lib.compact zs).length) 0).toArray
theorem holds_own{W:World}{base g cap n:Nat}{zs:List Int}(h:W.ownsRow base 3 1 (.slice (some ⟨g,0,none⟩) n cap) zs.length (zs.map (Value.int .i64)))(hz:zs≠[]):n=zs.length∧base≤g∧g<W.heap.size∧zs.length≤cap∧cap≤maxLen∧Holds (Value.int .i64) W g 0 zs.toArray:=by
 rcases h.2 with⟨h0,_⟩|⟨g',cap',cur,hv,hg,hb,hn,hcap,hc,ht⟩
 ·cases h0
 cases hv
 refine⟨rfl,hg,(Array.getElem?_eq_some_iff.1 hb).1,hn,hcap,?_⟩
 intro j hj
 simp at hj
 refine⟨?_,by simp[World.frozen?,hb]⟩
 have h1:(cur.toList.take (zs.length*1))[j]? =(zs.map (Value.int .i64))[j]? :=by rw[ht]
 rw[List.getElem?_take_of_lt (by omega)]at h1
 simp only[World.cell?,hb,Nat.zero_add,Option.isSome_none,Bool.false_eq_true,if_false]
 rw[←Array.getElem?_toList,h1]
 simp[hj]
set_option maxRecDepth 100000 in
set_option maxHeartbeats 2000000 in
theorem sorted_in (hsort:SortOk) (F:Fence) (n:Nat) (hF: ∀(n:Nat) (f:FuncId) (args:Array Value) (w:World) (R:Ending→World→Prop),Calls Tryz.prog f args w R→CallsIn F n Tryz.prog f args w R) (hfn: ∀f,F.fn f) (hS:F.fn 82) (hC:F.fn 110) (hSo:F.fn 111) (hro:F.round=none) (hn:6≤n) (Bs n₀:Nat) (sv:Value) (zs:List Int) (hz:zs≠[]) (hlen:zs.length≤maxLen) (hbytes:zs.length*8≤140737488351232) (w:World) (hBs:Bs<w.heap.size) (hn₀:n₀≤w.heap.size)
  (hc:w.cell? ⟨Bs,0,none⟩=some sv) (hI:Ints n₀ w sv zs):
  CallsIn F n Tryz.prog 82 #[.func (.func 112) #[] #[.pointer (some ⟨Bs,0,none⟩)]] w fun e W'=> ∃g cap,e= .returned (.slice (some ⟨g,0,none⟩) zs.length cap)∧w.heap.size≤g∧g<W'.heap.size∧zs.length≤cap∧Holds (Value.int .i64) W' g 0 (zs.mergeSort fun x y=>decide (x≤y)).toArray∧Below w.heap.size w W':=by
 have h1:1≤n:=by omega
 refine callsIn_of_wp Tryz.func82 rfl hS ?_ hro
 simp only[Tryz.ntmps82,List.size_toArray,List.length_cons,List.length_nil,Nat.reduceAdd,Nat.reduceSub,Array.replicate_succ,Array.replicate_zero,List.push_toArray,List.append_toArray,List.nil_append,List.cons_append]
 gi_wp2_with (gi_at_call 110;refine(collect_in F (n - 1) (hfn _) (hfn _) (hfn _) hro (by omega) Bs n₀ sv zs hlen hbytes w hBs hn₀ hc hI).mono ?_;rintro e W ⟨v,rfl,hrow,hnil,hb⟩)
 obtain⟨g,cap,rfl⟩: ∃g cap,v= .slice (some ⟨g,0,none⟩) zs.length cap:=by
  rcases hrow.2 with⟨rfl,_⟩|⟨g',cap',cur,hv,_⟩
  ·exact absurd (hnil.1 rfl) hz
  ·exact⟨g',cap',hv⟩
 obtain⟨_,hg,hgl,hcap,hcm,hH⟩:=holds_own hrow hz
 have cS:=hF (n - 1) _ _ _ _ (hsort g 0 cap zs W hH hgl (by omega))
 have hrow':=hrow
 gi_wp2_with (gi_at_call 111;refine cS.mono ?_;rintro e w' ⟨rfl,nn,os,rfl⟩)
 go_ret
 obtain⟨g2,cap2,cur,hv,_,hbk,q1,q2,q3,q4⟩:=hrow.2.resolve_left (by rintro⟨h,_⟩;cases h)
 cases hv
 have hml:(zs.mergeSort fun x y=>decide (x≤y)).length=zs.length:=List.length_mergeSort _
 have hown2:=ownsRow_sortedI (n:=nn) (os:=os) (ss:=zs) hml hg hbk q1 q2 q3
 rw[←hml]at hown2
 obtain⟨_,_,hgl2,hcap2,_,hH2⟩:=holds_own hown2 (fun h=>hz (List.eq_nil_of_length_eq_zero (by rw[←hml,h];rfl)))
 exact⟨_,_,rfl,hg,hgl2,q1,hH2,hb.grown (grownBy_sortedI _) hb.size (fun j hj=>by cases hj;exact hg)⟩
def pathB(zs:List Int):Bool:=decide (1≤zs.length) && (decide (zs.length≤3) && decide zs.Nodup)
set_option maxRecDepth 100000 in
set_option maxHeartbeats 2000000 in
theorem path_in(hsort:SortOk)(hcompact:CompactOk)(F:Fence)(n:Nat)(hF: ∀(n:Nat) (f:FuncId) (args:Array Value) (w:World) (R:Ending→World→Prop),Calls Tryz.prog f args w R→CallsIn F n Tryz.prog f args w R)(hfn: ∀f,F.fn f)(hP:F.fn 48)(hV:F.fn 83)(hS:F.fn 82)(hCo:F.fn 84)(hro:F.round=none)(hn:8≤n)(a:Option Addr)(cap:Nat)(zs:List Int)(w:World)(hI:zs≠[]→Ints w.heap.size w (.slice a zs.length cap) zs):
  CallsIn F n Tryz.prog 48 #[.slice a zs.length cap] w fun e W'=>e= .returned (.bool (pathB zs))∧Below w.heap.size w W':=by
 have h1:1≤n:=by omega
 refine callsIn_of_wp Tryz.func48 rfl hP ?_ hro
 simp only[Tryz.ntmps48,List.size_toArray,List.length_cons,List.length_nil,Nat.reduceAdd,Nat.reduceSub,Array.replicate_succ,Array.replicate_zero,List.push_toArray,List.append_toArray,List.nil_append,List.cons_append]
 by_cases hlo:zs.length<1
 ·gi_wp2
  go_ret
  exact⟨by simp[pathB];omega,Below.refl _ _⟩
 by_cases hhi:3<zs.length
 ·gi_wp2
  go_ret
  exact⟨by simp[pathB];omega,Below.refl _ _⟩
 have hz:zs≠[]:=by rintro rfl;simp at hlo
 have hml:(zs.mergeSort fun x y=>decide (x≤y)).length=zs.length:=List.length_mergeSort _
 gi_wp2_with (first
  |(gi_at_call 83;refine(values_in F (n - 1) hV hro _ _ _ _).mono ?_;rintro e w' ⟨rfl,rfl⟩)
  |(gi_at_call 82;go_loud (refine(sorted_in hsort F (n - 1) hF hfn (hfn _) (hfn _) (hfn _) hro (by omega) w.heap.size w.heap.size _ zs hz (by unfold maxLen;omega) (by omega) _ (by simp) (by simp<;>omega) (Boxed.new w 49 _).cell ((hI hz).below (((Below.refl w.heap.size w).alloc (Nat.le_refl _) _)))).mono ?_;rintro e W ⟨g,cap',rfl,hg,hgl,hcap,hH,hb⟩;have hco:=hcompact g 0 cap' _ W hH (by omega) (by omega);rw[hml]at hco))
  |(gi_at_call 84;go_loud (refine(hF (n - 1) _ _ _ _ hco).mono ?_;rintro e w' ⟨rfl,q,rfl⟩)))
 go_ret
 have hcl:((Lib.compact (zs.mergeSort fun x y=>decide (x≤y))).length:Int)=zs.length↔zs.Nodup:=by rw[←sorted_compact zs];omega
 refine⟨?_,(((Below.refl w.heap.size w).alloc (Nat.le_refl _) _).trans (hb.mono (by simp))).trans ?_⟩
 ·by_cases hnd:zs.Nodup
  ·have:=hcl.2 hnd
   simp[pathB,hnd,this]
   omega
  ·have: ¬((Lib.compact (zs.mergeSort fun x y=>decide (x≤y))).length:Int)=zs.length:=fun h=>hnd (hcl.1 h)
   simp[pathB,hnd]
   omega
 ·have:=(Below.refl w.heap.size W).grown (grownBy_sortedI (w:=W) (g:=g) (n:=q) (os:= #[]) (Lib.compact (zs.mergeSort fun x y=>decide (x≤y))++List.replicate (zs.length - (Lib.compact (zs.mergeSort fun x y=>decide (x≤y))).length) 0).toArray) (by have:=hb.size;simp at this;omega) (fun j hj=>by cases hj;simp at hg;omega)
  simpa using this
end Go.Proofs.YtfcgafnmlkiimaaGreatDoor.Sv
