/- Plain laws: one act on a purse and on the document's. No statement of its own. -/
import Derived.Test.YtniohchnpfpffaaGreatTa
set_option linter.unusedSimpArgs false
set_option linter.unusedVariables false
namespace Go.Proofs.YtniohchnpfpffaaGreat.Pure
open Go.Vk Go.Am Go.Pg Go.Sort Go.Proofs.YtniohchnpfpffaaGreat.Y
theorem modK(a:Int)(k:Nat)(hk:0<k)(hk2:k≤1000): ∃n:Nat,n<k∧IntKind.i64.wrap (Int.tmod (IntKind.u64.wrap a) (k:Int))=(n:Int):=by
 have h0:0≤IntKind.u64.wrap a∧IntKind.u64.wrap a<18446744073709551616:=by
  rw[IntKind.wrap_u64];omega
 rw[Int.tmod_eq_emod_of_nonneg h0.1]
 have h1:=Int.emod_nonneg (IntKind.u64.wrap a) (show(k:Int)≠0 by omega)
 have h2:=Int.emod_lt_of_pos (IntKind.u64.wrap a) (show(0:Int)< (k:Int)by omega)
 refine⟨(IntKind.u64.wrap a % (k:Int)).toNat,by omega,?_⟩
 rw[wr _ (by omega) (by omega)]
 omega
theorem PRel.more{p N m c M n d:Nat}{P:FB×Jn}{W:List FA×RJ}(h:PRel p N m c P W)(h1:N≤M)(h2:m≤n)(h3:c≤d):PRel p M n d P W:=⟨h.b.more h1,h.j.more h2 h3⟩
theorem fin2{p N m c:Nat}{P:FB×Jn}{W:List FA×RJ}(h:PRel p N m c P W)(b:Bool)(hb:b=true):
  (some (((P.1,(P.2.1,(P.2.2.1,(P.2.2.2.1,P.2.2.2.2)))),(((zab V0 33 W.1),(W.2.1,(W.2.2.1,W.2.2.2))),())),b):Option (((FB×Jn)×((List FA×RJ)×Unit))×Bool))=some ((P,(W,())),true):=by
 rw[za6 h.b.len,hb]
theorem zz5(l:List Int)(n k:Nat)(h:n≤k):(l.take n).length≤k:=by rw[List.length_take];omega
theorem BalI.more{c d:Nat}{B:FB}{j:Jn}(h:BalI c B j)(hl:c≤d):BalI d B j:=⟨h.left,h.held,h.used,fun k=>by have:=h.mb k;omega⟩
theorem act_eq{p N m c:Nat}{P:FB×Jn}{W:List FA×RJ}(h:PRel p N m c P W)(hN:N≤900000)(hm:m+33≤16384)(hc:c≤100)(a:Int×Int×List Int×List Int×Int×Int×List Int):
  ∃P' W' p',purserlaw15_Act_do.f a P W=some ((P',(W',())),true)∧PRel p' (N+64) (m+32) (c+1) P' W'∧(∀b,b≤100→BalI b P.1 P.2→BalI (b+1) P'.1 P'.2)∧(Rch P.2→Rch P'.2):=by
 obtain⟨B,j⟩:=P
 obtain⟨As,J⟩:=W
 have hA:As.length=33:=h.b.len
 obtain⟨k,hk,hkm⟩:=modK a.1 6 (by omega) (by omega)
 rw[show(((6:Nat):Nat):Int)=6 from rfl]at hkm
 unfold purserlaw15_Act_do.f
 rw[show purserlaw15_few.f a.2.2.1 5=some (a.2.2.1.take 5)from zBh _ 5 (by omega),show purserlaw15_few.f a.2.2.2.1 5=some (a.2.2.2.1.take 5)from zBh _ 5 (by omega),Option.bind_some,Option.bind_some,hkm]
 simp only[za6 hA]
 have hl:=zz5 a.2.2.1 5 64 (by omega)
 have hk6:k=0∨k=1∨k=2∨k=3∨k=4∨k=5:=by omega
 rcases hk6 with rfl|rfl|rfl|rfl|rfl|rfl
 ·obtain⟨P',W',r,h1,h2,h3,h4⟩:=qTopUp h (by omega) a.2.1 a.2.2.2.2.1
  refine⟨P',W',p,?_,h3.more (by omega) (by omega) (by omega),fun b hb hI=>znu h.j hI hb h4 (fun _ ha _ _ _=>fitTop ha),zmb h.j h3.j (by omega) h4⟩
  rw[show((((0:Nat):Nat):Int)==0)=true from rfl,cond_true,h1,Option.bind_some,h2,Option.bind_some]
  exact fin2 h3 _ (beq_self_eq_true r)
 ·obtain⟨P',W',r,h1,h2,h3,h4⟩:=qHold h (by omega) (a.2.2.1.take 5) (a.2.2.2.1.take 5) a.2.2.2.2.1 hl
  refine⟨P',W',p,?_,h3.more (by omega) (by omega) (by omega),fun b hb hI=>znu h.j hI hb h4 (fun _ ha _ _ _=>fitHold ha),zmb h.j h3.j (by omega) h4⟩
  rw[show((((1:Nat):Nat):Int)==0)=false from rfl,cond_false,show((((1:Nat):Nat):Int)==1)=true from rfl,cond_true,h1,Option.bind_some,h2,Option.bind_some]
  exact fin2 h3 _ (beq_self_eq_true r)
 ·obtain⟨P',W',r,h1,h2,h3,h4⟩:=zDf h (by omega) (a.2.2.1.take 5) a.2.2.2.2.1 hl
  refine⟨P',W',p,?_,h3.more (by omega) (by omega) (by omega),fun b hb hI=>znu h.j hI hb h4 (fun _ ha _ _ _=>zy9 ha),zmb h.j h3.j (by omega) h4⟩
  rw[show((((2:Nat):Nat):Int)==0)=false from rfl,cond_false,show((((2:Nat):Nat):Int)==1)=false from rfl,cond_false,show((((2:Nat):Nat):Int)==2)=true from rfl,cond_true,h1,Option.bind_some,h2,Option.bind_some]
  exact fin2 h3 _ (beq_self_eq_true r)
 ·obtain⟨P',W',r,h1,h2,h3,h4⟩:=qCommit h (by omega) (a.2.2.1.take 5) a.2.2.2.2.1 a.2.2.2.2.2.1 hl
  refine⟨P',W',p,?_,h3.more (by omega) (by omega) (by omega),fun b hb hI=>znu h.j hI hb h4 (fun _ ha ys hp hc=>zBf ha (made_g hp hc (.inl rfl))),zmb h.j h3.j (by omega) h4⟩
  rw[show((((3:Nat):Nat):Int)==0)=false from rfl,cond_false,show((((3:Nat):Nat):Int)==1)=false from rfl,cond_false,show((((3:Nat):Nat):Int)==2)=false from rfl,cond_false,show((((3:Nat):Nat):Int)==3)=true from rfl,cond_true,h1,Option.bind_some,h2,Option.bind_some]
  exact fin2 h3 _ (beq_self_eq_true r)
 ·obtain⟨P',W',r,h1,h2,h3,h4⟩:=qRefund h (by omega) (a.2.2.1.take 5) a.2.2.2.2.1 a.2.2.2.2.2.1 hl
  refine⟨P',W',p,?_,h3.more (by omega) (by omega) (by omega),fun b hb hI=>znu h.j hI hb h4 (fun _ ha ys hp hc=>zBe ha (made_g hp hc (.inr rfl))),zmb h.j h3.j (by omega) h4⟩
  rw[show((((4:Nat):Nat):Int)==0)=false from rfl,cond_false,show((((4:Nat):Nat):Int)==1)=false from rfl,cond_false,show((((4:Nat):Nat):Int)==2)=false from rfl,cond_false,show((((4:Nat):Nat):Int)==3)=false from rfl,cond_false,show((((4:Nat):Nat):Int)==4)=true from rfl,cond_true,h1,Option.bind_some,h2,Option.bind_some]
  exact fin2 h3 _ (beq_self_eq_true r)
 ·obtain⟨P',W',r,p',h1,h2,h3,h4⟩:=qRoll h hN hm hc (a.2.2.2.2.2.2.take 40) (zz5 _ 40 _ (by omega))
  refine⟨P',W',p',?_,h3,fun b hb hI=> ?_,zDd h3.j h4⟩
  rotate_left
  ·rcases h4 with rfl|⟨e1,e2⟩
   ·exact hI.more (by omega)
   ·rw[e1,e2];exact(zEh h.b.ok h.j (by omega) hc _ hI).more (by omega)
  rw[show((((5:Nat):Nat):Int)==0)=false from rfl,cond_false,show((((5:Nat):Nat):Int)==1)=false from rfl,cond_false,show((((5:Nat):Nat):Int)==2)=false from rfl,cond_false,show((((5:Nat):Nat):Int)==3)=false from rfl,cond_false,show((((5:Nat):Nat):Int)==4)=false from rfl,cond_false]
  rw[show purserlaw15_few.f a.2.2.2.2.2.2 40=some (a.2.2.2.2.2.2.take 40)from zBh _ 40 (by omega),Option.bind_some,h1,Option.bind_some,h2,Option.bind_some]
  simp only[beq_self_eq_true,cond_true,Option.bind_some]
  exact fin2 h3 _ rfl
end Go.Proofs.YtniohchnpfpffaaGreat.Pure
