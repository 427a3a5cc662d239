/- Plain laws of the journal: what its methods compute. No statement of its own. -/
import Derived.Test.YtfcgafnmlkiimaaGreatDoorFc
set_option linter.unusedSimpArgs false
set_option linter.unusedVariables false
namespace Go.Proofs.YtfcgafnmlkiimaaGreatDoor.Pure
open Go.Vk Go.Am Go.Pg Go.Sort Go.Proofs.YtfcgafnmlkiimaaGreatDoor.Y
abbrev KA:Ty:= .pair (.int .i64) (.pair (.int .i64) (.int .i64))
abbrev VI:Ty:= .int .i64
abbrev Bk:=Mp KA VI
abbrev Jn:=(List ((Int×List Leg)×Int))×(Int×(Bk×List Bk))
def bal(B:Bk)(k:Acc):Int:=(mget KA VI B k).getD 0
def upd(B:Bk)(l:Leg):Bk:=mset KA VI B l.1 (IntKind.i64.wrap (bal B l.1+l.2))
def addM(B:Bk)(ls:List Leg):Bk:=ls.foldl upd B
def far(B:Bk)(l:Leg):Bool:=decide (IntKind.i64.wrap (bal B l.1+l.2)>1152921504606846976)||decide (IntKind.i64.wrap (bal B l.1+l.2)< -1152921504606846976)
theorem clone_eq(l:List Leg)(h:l.length≤1099511627776):slices_Clone_entry_Leg.f l=some l:=by
 unfold slices_Clone_entry_Leg.f
 have e:decide (([]:List ((Int×Int×Int)×Int)).length+l.length≤1099511627776)=true:=by simpa using h
 rw[e]
 cases l with
 |nil=>simp[agreeO]
 |cons x r=>rfl
theorem copied_eq(e:Int×List Leg)(h:e.2.length≤1099511627776):journal_copied.f e=some e:=by
 unfold journal_copied.f
 rw[clone_eq _ h]
 rfl
theorem new_eq:journal_New.f=some ([],(0,([],[[]]))):=rfl
theorem close_ok(j:Jn)(h0:0≤j.2.1)(h:j.2.1<31)(hm:j.2.2.2.length≤1000):journal_Journal_Close.f j=some ((j.1,(j.2.1+1,(j.2.2.1,j.2.2.2++ [[]]))),(j.2.1+1,0)):=by
 obtain⟨L,p,B,M⟩:=j
 simp only at h0 h hm
 unfold journal_Journal_Close.f
 simp only
 rw[wr (p+1) (by omega) (by omega)]
 have e1:(p+1==32)=false:=by simp;omega
 have e2:decide (M.length+([([]:Mp (.pair (.int .i64) (.pair (.int .i64) (.int .i64))) (.int .i64))]:List (Mp (.pair (.int .i64) (.pair (.int .i64) (.int .i64))) (.int .i64))).length≤1099511627776)=true:=by simp;omega
 rw[e1,e2]
 rfl
theorem period_eq(j:Jn):journal_Journal_Period.f j=some (j,j.2.1):=rfl
theorem bound_loop(j:Jn)(k:Int)(ls:List Leg)(hl:ls.length≤1000):loopO (journal_Journal_Post.l2 j (k,ls)) 0=some (if ls.any (far j.2.2.1)then .inl (0,6)else .inr ()):=by
 have step: ∀(n i:Nat),i+n=ls.length→loopO (journal_Journal_Post.l2 j (k,ls)) (i:Int)=some (if(ls.drop i).any (far j.2.2.1)then .inl (0,6)else .inr ()):=by
  intro n
  induction n with
  |zero=>
   intro i hi
   obtain rfl:i=ls.length:=by omega
   rw[loopO_eq]
   have:journal_Journal_Post.l2 j (k,ls) (ls.length:Int)=some (.inr (.inr ())):=by
    unfold journal_Journal_Post.l2
    simp only
    rw[ige]
    rfl
   rw[this]
   simp
  |succ n ih=>
   intro i hi
   have hlt:i<ls.length:=by omega
   rw[loopO_eq,List.drop_eq_getElem_cons hlt,List.any_cons]
   have hf:journal_Journal_Post.l2 j (k,ls) (i:Int)=some (if far j.2.2.1 ls[i]then .inr (.inl (0,6))else .inl ((i+1:Nat):Int)):=by
    unfold journal_Journal_Post.l2
    simp only
    rw[ilt hlt,nn,cond_true,Bool.and_self,cond_true,at_ ls i hlt,wrS i (by omega),orB]
    have hd:(mget (.pair (.int .i64) (.pair (.int .i64) (.int .i64))) (.int .i64) j.2.2.1 ((ls[i].1).1,(((ls[i].1).2).1,((ls[i].1).2).2))).getD (0:Int)=bal j.2.2.1 ls[i].1:=rfl
    rw[hd,Option.bind_some]
    unfold far
    cases (decide (IntKind.i64.wrap (bal j.2.2.1 ls[i].1+ls[i].2)>1152921504606846976)||decide (IntKind.i64.wrap (bal j.2.2.1 ls[i].1+ls[i].2)< -1152921504606846976))<;>rfl
   rw[hf]
   cases far j.2.2.1 ls[i]with
   |true=>simp
   |false=>
    simp only[Bool.false_or,if_false,Option.bind_some,Bool.false_eq_true]
    exact ih (i+1) (by omega)
 exact step ls.length 0 (by omega)
theorem flatK:flatT KA=true:=rfl
theorem leg_set(B:Bk)(k:Acc)(d v:Int):mput KA VI (mset KA VI B k d) (mpos KA VI B k) v=mset KA VI B k v:=put_set B k d v flatK
theorem leg_has(B:Bk)(k:Acc)(d:Int):mhas KA VI (mset KA VI B k d) (mpos KA VI B k)=true:=has_set B k d flatK
theorem post_step(j:Jn)(k:Int)(ls:List Leg)(i p:Nat)(hi:i<ls.length)(hl:ls.length≤1000)(hp:j.2.1=(p:Int))(B:Bk)(M:List Bk)(hpm:p<M.length):
  journal_Journal_Post.l7 j (k,ls) ((i:Int),B,M)=some (.inl (((i+1:Nat):Int),upd B ls[i],M.set p (upd M[p] ls[i]))):=by
 unfold journal_Journal_Post.l7
 simp only
 rw[ilt hi,nn,cond_true,Bool.and_self,cond_true,at_ ls i hi,wrS i (by omega),hp]
 have e1: ∀(B:Bk) (d:Int),mhas (.pair (.int .i64) (.pair (.int .i64) (.int .i64))) (.int .i64) (mset (.pair (.int .i64) (.pair (.int .i64) (.int .i64))) (.int .i64) B ((ls[i].1).1,(((ls[i].1).2).1,((ls[i].1).2).2)) d) (((mpos (.pair (.int .i64) (.pair (.int .i64) (.int .i64))) (.int .i64) B ((ls[i].1).1,(((ls[i].1).2).1,((ls[i].1).2).2)):Nat):Int)).toNat=true:=fun B d=>leg_has B ls[i].1 d
 have e2: ∀(B:Bk) (d v:Int),mput (.pair (.int .i64) (.pair (.int .i64) (.int .i64))) (.int .i64) (mset (.pair (.int .i64) (.pair (.int .i64) (.int .i64))) (.int .i64) B ((ls[i].1).1,(((ls[i].1).2).1,((ls[i].1).2).2)) d) (((mpos (.pair (.int .i64) (.pair (.int .i64) (.int .i64))) (.int .i64) B ((ls[i].1).1,(((ls[i].1).2).1,((ls[i].1).2).2)):Nat):Int)).toNat v=mset KA VI B ls[i].1 v:=fun B d v=>leg_set B ls[i].1 d v
 have e3:M[((p:Nat):Int).toNat]? =some M[p]:=by rw[Int.toNat_natCast];exact List.getElem?_eq_getElem hpm
 rw[nn,e1,Bool.and_self,cond_true,nn,ilt hpm,Bool.and_self,cond_true,e3]
 simp only[optS]
 rw[nn,e1,Bool.and_self,cond_true,e2,e2,Int.toNat_natCast]
 rfl
theorem post_loop(j:Jn)(k:Int)(ls:List Leg)(p:Nat)(hl:ls.length≤1000)(hp:j.2.1=(p:Int))(hpm:p<j.2.2.2.length):
  loopO (journal_Journal_Post.l7 j (k,ls)) (0,j.2.2.1,j.2.2.2)=some (addM j.2.2.1 ls,j.2.2.2.set p (addM j.2.2.2[p] ls)):=by
 refine loop_up (fun i=>((i:Int),addM j.2.2.1 (ls.take i),j.2.2.2.set p (addM j.2.2.2[p] (ls.take i)))) ls.length ?_ (fun i hi=> ?_) ?_
 ·simp[addM]
 ·have h:=post_step j k ls i p hi hl hp (addM j.2.2.1 (ls.take i)) (j.2.2.2.set p (addM j.2.2.2[p] (ls.take i))) (by simpa using hpm)
  show journal_Journal_Post.l7 j (k,ls) ((i:Int),addM j.2.2.1 (ls.take i),j.2.2.2.set p (addM j.2.2.2[p] (ls.take i)))=_
  rw[h]
  have ht:ls.take (i+1)=ls.take i++ [ls[i]]:=by rw[List.take_add_one,List.getElem?_eq_getElem hi];rfl
  show _=some (Sum.inl (((i+1:Nat):Int),addM j.2.2.1 (ls.take (i+1)),j.2.2.2.set p (addM j.2.2.2[p] (ls.take (i+1)))))
  rw[ht]
  simp only[addM,List.foldl_append,List.foldl_cons,List.foldl_nil,List.set_set,List.getElem_set_self]
 ·unfold journal_Journal_Post.l7
  simp only
  rw[ige]
  simp
def postJ(j:Jn)(e:Int×List Leg):Jn:=(j.1++ [(e,j.2.1)],(j.2.1,(addM j.2.2.1 e.2,j.2.2.2.set j.2.1.toNat (addM (j.2.2.2.getD j.2.1.toNat []) e.2))))
theorem post_eq(j:Jn)(e:Int×List Leg)(p:Nat)(hp:j.2.1=(p:Int))(hpm:p<j.2.2.2.length)(hL:j.1.length≤1000000)(hl:e.2.length≤1000):
  journal_Journal_Post.f j e=some (if chk e.1 e.2≠0 then(j,(0,chk e.1 e.2))else if j.1.length=16384 then(j,(0,10))else if e.2.any (far j.2.2.1)then(j,(0,6))else(postJ j e,((j.1.length:Int),0))):=by
 unfold journal_Journal_Post.f
 rw[show(e.1,e.2)=e from rfl,show entry_Check.f e=some (chk e.1 e.2)from check_eq e.1 e.2 (by omega),Option.bind_some]
 by_cases hc':chk e.1 e.2≠0
 ·have:(chk e.1 e.2 !=0)=true:=by simp[hc']
  rw[this,if_pos hc'];rfl
 have hc:chk e.1 e.2=0:=by omega
 rw[hc,if_neg (by simp)]
 have e0:((0:Int) !=0)=false:=rfl
 rw[e0,cond_false]
 by_cases hf:j.1.length=16384
 ·have:((j.1.length:Int)==16384)=true:=by simp[hf]
  rw[this,if_pos hf];rfl
 have e1:((j.1.length:Int)==16384)=false:=by simp;omega
 rw[e1,cond_false,if_neg hf]
 have hb:=bound_loop j e.1 e.2 hl
 rw[show(e.1,e.2)=e from rfl]at hb
 rw[hb,Option.bind_some]
 cases ha:e.2.any (far j.2.2.1)with
 |true=>rfl
 |false=>
  have hlp:=post_loop j e.1 e.2 p hl hp hpm
  rw[show(e.1,e.2)=e from rfl]at hlp
  simp only[Bool.false_eq_true,if_false]
  rw[hlp,Option.bind_some,copied_eq e (by omega),Option.bind_some]
  have e2:decide (j.1.length+([((e.1,e.2),j.2.1)]:List ((Int×List ((Int×Int×Int)×Int))×Int)).length≤1099511627776)=true:=by simp;omega
  rw[e2,cond_true]
  have e3:IntKind.i64.wrap (((j.1++ [((e.1,e.2),j.2.1)]).length:Int) - 1)=(j.1.length:Int):=by
   rw[List.length_append,List.length_singleton,wr _ (by omega) (by omega)];omega
  rw[e3]
  have e4:j.2.2.2.getD j.2.1.toNat []=j.2.2.2[p]:=by rw[hp,Int.toNat_natCast];simp[hpm]
  unfold postJ
  rw[e4,hp,Int.toNat_natCast]
end Go.Proofs.YtfcgafnmlkiimaaGreatDoor.Pure
