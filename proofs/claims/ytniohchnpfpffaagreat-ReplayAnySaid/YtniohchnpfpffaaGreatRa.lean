/- Plain laws of funds: what the book's methods do along a path on which all have the same. No statement of its own. -/
import Derived.Test.YtniohchnpfpffaaGreatQe
set_option linter.unusedSimpArgs false
set_option linter.unusedVariables false
namespace Go.Proofs.YtniohchnpfpffaaGreat.Pure
open Go.Vk Go.Am Go.Pg Go.Sort Go.Proofs.YtniohchnpfpffaaGreat.Y
abbrev KI:Ty:= .int .i64
abbrev VA:Ty:= .pair (.int .i64) (.pair (.int .i64) (.pair (.int .i64) (.pair (.int .i64) (.int .i64))))
abbrev FB:=Mp KI VA
abbrev FA:=Int×Int×Int×Int×Int
def geA(B:FB)(n:Int):FA:=(zbf KI VA B n).getD ((0,(0,(0,(0,0)))):Int×Int×Int×Int×Int)
theorem zno(B:FB)(n:Int)(a:FA)(q:Int):geA (zb0 KI VA B n a) q=if q=n then a else geA B q:=by
 unfold geA
 rw[zkn (K:=KI) rfl]
 by_cases h:q=n
 ·subst h;rw[zjc (K:=KI) rfl,if_pos rfl];rfl
 ·rw[zpq (K:=KI) rfl h,if_neg h];rfl
theorem set_ok(B:FB)(n:Int)(a:FA)(h:a.1≠0):funds_Book_set.f B n a=some (zb0 KI VA B n a,()):=by
 unfold funds_Book_set.f
 have e:(a.1==0)=false:=by simp[h]
 rw[e]
 rfl
def addA(a b:FA):FA:=(a.1,a.2.1,a.2.2.1,IntKind.i64.wrap (a.2.2.2.1+b.2.2.2.1),IntKind.i64.wrap (a.2.2.2.2+b.2.2.2.2))
theorem zvt(l:List Int)(d:FA)(i:Nat)(hi:i<l.length)(hl:l.length≤1000)(B:FB)(h0:(geA B l[i]).1≠0):
  funds_Book_move.l1 l d ((i:Int),(),B)=some (.inl (((i+1:Nat):Int),(),zb0 KI VA B l[i] (addA (geA B l[i]) d))):=by
 unfold funds_Book_move.l1
 simp only
 rw[ilt hi,nn,cond_true,Bool.and_self,cond_true,at_ l i hi,wrS i (by omega)]
 show(funds_Book_set.f B l[i] (addA (geA B l[i]) d)).bind _=_
 rw[set_ok B l[i] (addA (geA B l[i]) d) h0]
 rfl
theorem zp6(d:FA)(t u h u' h':Int)(ht:t≠0)(hu:IntKind.i64.wrap (u+d.2.2.2.1)=u')(hh:IntKind.i64.wrap (h+d.2.2.2.2)=h'): ∀(suf pre:List Int) (B:FB),(pre++suf).length≤1000→suf.Nodup→(∀n∈suf,geA B n=(t,0,0,u,h))→
  ∃B',zac (funds_Book_move.l1 (pre++suf) d) ((pre.length:Int),(),B)=some ((),B')∧(∀n∈suf,geA B' n=(t,0,0,u',h'))∧∀n,n∉suf→geA B' n=geA B n
 | [],pre,B,hl,hn,hs=>by
  refine⟨B,?_,by simp,fun _ _=>rfl⟩
  rw[zae,List.append_nil]
  unfold funds_Book_move.l1
  simp only
  rw[ige]
  rfl
 |n::suf,pre,B,hl,hn,hs=>by
  rw[List.nodup_cons]at hn
  have hi:pre.length< (pre++n::suf).length:=by simp
  have hg:(pre++n::suf)[pre.length]=n:=by simp
  have hB:=hs n (by simp)
  have st:=zvt (pre++n::suf) d pre.length hi hl B (by rw[hg,hB];exact ht)
  rw[hg]at st
  have hadd:addA (geA B n) d=(t,0,0,u',h'):=by rw[hB,←hu,←hh];rfl
  rw[hadd]at st
  obtain⟨B',k1,k2,k3⟩:=zp6 d t u h u' h' ht hu hh suf (pre++ [n]) (zb0 KI VA B n (t,0,0,u',h')) (by simpa using hl) hn.2 (fun m hm=>by
   have hne: ¬m=n:=fun e=>hn.1 (e▸hm)
   rw[zno,if_neg hne]
   exact hs m (by simp[hm]))
  refine⟨B',?_,fun m hm=> ?_,fun m hm=> ?_⟩
  ·rw[zae,st]
   simp only[Option.bind_some]
   have e1:pre++n::suf=(pre++ [n])++suf:=by simp
   have e2:((pre.length+1:Nat):Int)=((pre++ [n]).length:Int):=by simp
   rw[e1,e2]
   exact k1
  ·rcases List.mem_cons.1 hm with rfl|hm
   ·rw[k3 _ hn.1,zno,if_pos rfl]
   ·exact k2 m hm
  ·rw[k3 m (fun h=>hm (by simp[h])),zno,if_neg fun e=>hm (by simp[e])]
theorem move_ok(d:FA)(t u h u' h':Int)(ht:t≠0)(hu:IntKind.i64.wrap (u+d.2.2.2.1)=u')(hh:IntKind.i64.wrap (h+d.2.2.2.2)=h')(l:List Int)(B:FB)(hl:l.length≤1000)(hn:l.Nodup)(hs: ∀n∈l,geA B n=(t,0,0,u,h)):
  ∃B',funds_Book_move.f B l d=some (B',())∧(∀n∈l,geA B' n=(t,0,0,u',h'))∧∀n,n∉l→geA B' n=geA B n:=by
 obtain⟨B',k1,k2,k3⟩:=zp6 d t u h u' h' ht hu hh l [] B hl hn hs
 refine⟨B',?_,k2,k3⟩
 unfold funds_Book_move.f
 have k1':zac (funds_Book_move.l1 l d) (0,(),B)=some ((),B'):=k1
 rw[k1']
 rfl
theorem zqa(a:Int)(h:1≤a∧a≤9007199254740992):funds_amount.f a=some true:=by
 unfold funds_amount.f
 have e1:decide (a≥1)=true:=by simp;omega
 have e2:decide (a≤9007199254740992)=true:=by simp;omega
 rw[e1,e2]
 rfl
theorem left_eq(t u h:Int)(ht:0≤t∧t≤1000000)(hu:0≤u∧u≤1000000)(hh:0≤h∧h≤1000000):funds_Account_left.f (t,0,0,u,h)=some (t - u - h):=by
 unfold funds_Account_left.f
 simp only
 rw[wr (t+0) (by omega) (by omega),wr (t+0 - 0) (by omega) (by omega),wr (t+0 - 0 - u) (by omega) (by omega),wr (t+0 - 0 - u - h) (by omega) (by omega)]
 congr 1;omega
def zsb(l:List Int):Prop:=(∀B,funds_Book_path.f B l=some (B,true))∧l.length≤3∧l.Nodup
theorem path1(n:Int)(h:1≤n∧n≤32):zsb [n]:=by
 refine⟨fun B=> ?_,by simp,by simp⟩
 have hn:funds_node.f n=some true:=by
  unfold funds_node.f
  have e1:decide (n≥1)=true:=by simp;omega
  have e2:decide (n≤32)=true:=by simp;omega
  rw[e1,e2]
  rfl
 have hc:slices_Contains___int_int.f [] n=some false:=by
  unfold slices_Contains___int_int.f slices_Index___int_int.f
  rw[zft (n:=2) (f:=slices_Index___int_int.l1 [] n) (s:=0) (b:= .inr ()) rfl]
  rfl
 have hl:zac (funds_Book_path.l2 [n]) 0=some (.inr ()):=by
  rw[zae]
  have e:funds_Book_path.l2 [n] 0=some (.inl 1):=by
   unfold funds_Book_path.l2
   simp only[List.length_cons,List.length_nil,Int.toNat_zero,List.getD_cons_zero,List.take_zero,List.drop_nil,hn,hc,Option.bind_some]
   rfl
  rw[e]
  simp only[Option.bind_some]
  rw[zae]
  rfl
 unfold funds_Book_path.f
 rw[hl]
 rfl
theorem ztt{l lim:List Int}(hp:zsb l)(hll:lim.length=l.length)(hlim: ∀x∈lim,x= -1)(B:FB):funds_Book_limited.f B l lim=some (B,true):=by
 unfold funds_Book_limited.f
 have e1:((lim.length:Int) !=(l.length:Int))=false:=by simp[hll]
 have h3:=hp.2.1
 have hlp:zac (funds_Book_limited.l3 lim) 0=some (.inr ()):=by
  refine zc5 (fun i=>(i:Int)) lim.length rfl (fun i hi=> ?_) ?_
  ·unfold funds_Book_limited.l3
   rw[ilt hi,nn,cond_true,Bool.and_self,cond_true,at_ lim i hi,wrS i (by omega),hlim lim[i] (List.getElem_mem hi)]
   rfl
  ·unfold funds_Book_limited.l3
   rw[ige]
   rfl
 rw[hp.1 B]
 simp only[Option.bind_some,Bool.not_true,Bool.not_false,cond_true,cond_false,e1]
 rw[hlp]
 rfl
theorem hold_ok{l lim:List Int}(hp:zsb l)(hll:lim.length=l.length)(hlim: ∀x∈lim,x= -1)(B:FB)(t u h a:Int)(ht:1≤t∧t≤10000)(hu:0≤u∧u≤10000)(hh:0≤h∧h≤10000)(ha:1≤a∧a≤t - u - h)(hs: ∀n∈l,geA B n=(t,0,0,u,h)):
  ∃B',funds_Book_Hold.f B l lim a=some (B',0)∧(∀n∈l,geA B' n=(t,0,0,u,h+a))∧∀n,n∉l→geA B' n=geA B n:=by
 have h3:=hp.2.1
 obtain⟨B',k1,k2,k3⟩:=move_ok (0,0,0,0,a) t u h u (h+a) (by omega) (by rw[wr _ (by simp;omega) (by simp;omega)];simp) (by rw[wr _ (by simp;omega) (by simp;omega)]) l B (by omega) hp.2.2 hs
 refine⟨B',?_,k2,k3⟩
 unfold funds_Book_Hold.f
 rw[ztt hp hll hlim B]
 simp only[Option.bind_some,Bool.not_true,Bool.not_false,cond_true,cond_false]
 rw[zqa a (by omega)]
 simp only[Option.bind_some,Bool.not_true,cond_false]
 have hlp:zac (funds_Book_Hold.l4 l lim a (false,(),B)) 0=some (.inr ()):=by
  refine zc5 (fun i=>(i:Int)) l.length rfl (fun i hi=> ?_) ?_
  ·have hi2:i<lim.length:=by omega
   have hB:=hs l[i] (List.getElem_mem hi)
   unfold funds_Book_Hold.l4
   simp only
   rw[ilt hi,ilt hi2,nn,cond_true,Bool.and_self,cond_true,cond_true,at_ l i hi,at_ lim i hi2,wrS i (by omega),hlim lim[i] (List.getElem_mem hi2)]
   have hB':(zbf (.int .i64) (.pair (.int .i64) (.pair (.int .i64) (.pair (.int .i64) (.pair (.int .i64) (.int .i64))))) B l[i]).getD ((0,(0,(0,(0,0)))):Int×Int×Int×Int×Int)=(t,0,0,u,h):=hB
   rw[hB']
   simp only
   rw[left_eq t u h (by omega) (by omega) (by omega),Option.bind_some]
   have e1:decide (t - u - h<a)=false:=by simp;omega
   rw[e1]
   rfl
  ·unfold funds_Book_Hold.l4
   rw[ige]
   rfl
 rw[hlp]
 simp only[Option.bind_some]
 rw[k1]
 rfl
theorem zxv(B:FB)(n a:Int)(hn:1≤n∧n≤32)(ha:1≤a∧a≤10000)(hs:geA B n=(0,0,0,0,0)):funds_Book_TopUp.f B n a=some (zb0 KI VA B n (a,0,0,0,0),0):=by
 have hnn:funds_node.f n=some true:=by
  unfold funds_node.f
  have e1:decide (n≥1)=true:=by simp;omega
  have e2:decide (n≤32)=true:=by simp;omega
  rw[e1,e2]
  rfl
 unfold funds_Book_TopUp.f
 rw[hnn,zqa a (by omega)]
 have hB':(zbf (.int .i64) (.pair (.int .i64) (.pair (.int .i64) (.pair (.int .i64) (.pair (.int .i64) (.int .i64))))) B n).getD ((0,(0,(0,(0,0)))):Int×Int×Int×Int×Int)=(0,0,0,0,0):=hs
 rw[hB']
 simp only[Option.bind_some,Bool.not_true,Bool.not_false,cond_true,cond_false]
 rw[wr (9007199254740992 - a) (by omega) (by omega),wr ((0:Int)+0) (by omega) (by omega),wr (0+a) (by omega) (by omega)]
 have e:decide ((0:Int)+0 >9007199254740992 - a)=false:=by simp;omega
 rw[e,cond_false,set_ok B n (0+a,0,0,0,0) (by show(0:Int)+a≠0;omega)]
 simp only[Option.bind_some,Int.zero_add]
end Go.Proofs.YtniohchnpfpffaaGreat.Pure
