/- Plain laws: what is in a list; lists cut short; a book's accounts. No statement of its own. -/
import Derived.Test.YtniohchnpfpffaaGreatRc
set_option linter.unusedSimpArgs false
set_option linter.unusedVariables false
namespace Go.Proofs.YtniohchnpfpffaaGreat.Pure
open Go.Vk Go.Am Go.Pg Go.Sort Go.Proofs.YtniohchnpfpffaaGreat.Y
theorem zpb(l:List Int)(x:Int)(hl:l.length≤1000000): ∀(n i:Nat),i+n=l.length→
  (x∈l.drop i→∃k:Nat,za2 (slices_Index___int_int.l1 l x) (i:Int)=some (.inl (k:Int)))∧(x∉l.drop i→za2 (slices_Index___int_int.l1 l x) (i:Int)=some (.inr ()))
 |0,i,h=>by
  have e:za2 (slices_Index___int_int.l1 l x) (i:Int)=some (.inr ()):=by
   rw[zai]
   unfold slices_Index___int_int.l1
   rw[show l.length=i by omega,ige]
   rfl
  exact⟨fun hx=>by rw[List.drop_of_length_le (by omega)]at hx;simp at hx,fun _=>e⟩
 |n+1,i,h=>by
  have hi:i<l.length:=by omega
  obtain⟨h1,h2⟩:=zpb l x hl n (i+1) (by omega)
  have hd:l.drop i=l[i]::l.drop (i+1):=List.drop_eq_getElem_cons hi
  have hs:slices_Index___int_int.l1 l x (i:Int)=if x=l[i]then some (.inr (.inl (i:Int)))else some (.inl (((i+1:Nat):Nat):Int)):=by
   unfold slices_Index___int_int.l1
   rw[ilt hi,nn,Bool.and_self,cond_true,cond_true,at_ l i hi,wrS i (by omega)]
   by_cases hx:x=l[i]
   ·rw[if_pos hx,show(x==l[i])=true by simp[hx]];rfl
   ·rw[if_neg hx,show(x==l[i])=false by simp[hx]];rfl
  rw[hd,zai,hs]
  by_cases hx:x=l[i]
  ·rw[if_pos hx]
   exact⟨fun _=>⟨i,rfl⟩,fun hn=>absurd (List.mem_cons.2 (.inl hx)) hn⟩
  ·rw[if_neg hx]
   simp only[Option.bind_some]
   exact⟨fun hm=>h1 (by rcases List.mem_cons.1 hm with h|h;exact absurd h hx;exact h),fun hm=>h2 (fun h=>hm (List.mem_cons.2 (.inr h)))⟩
theorem zik(l:List Int)(x:Int)(hl:l.length≤1000000):slices_Contains___int_int.f l x=some (decide (x∈l)):=by
 obtain⟨h1,h2⟩:=zpb l x hl l.length 0 (by omega)
 unfold slices_Contains___int_int.f slices_Index___int_int.f
 by_cases h:x∈l
 ·obtain⟨k,hk⟩:=h1 h
  rw[show((0:Nat):Int)=0 from rfl]at hk
  rw[hk,decide_eq_true h]
  simp
 ·have hk:=h2 h
  rw[show((0:Nat):Int)=0 from rfl]at hk
  rw[hk,decide_eq_false h]
  rfl
def zag(a:FA):Int:=a.1+a.2.1 - a.2.2.1 - a.2.2.2.1 - a.2.2.2.2
structure OkA(a:FA):Prop where
 t:0≤a.1∧a.1≤9007199254740992
 c:0≤a.2.1∧a.2.1≤9007199254740992
 e:0≤a.2.2.1∧a.2.2.1≤9007199254740992
 u:0≤a.2.2.2.1∧a.2.2.2.1≤9007199254740992
 h:0≤a.2.2.2.2∧a.2.2.2.2≤9007199254740992
 tc:a.1+a.2.1≤9007199254740992
 left:0≤zag a
abbrev V0:FA:=(0,0,0,0,0)
theorem okA0:OkA V0:=⟨by decide,by decide,by decide,by decide,by decide,by decide,by decide⟩
theorem zkb{a:FA}(h:OkA a):funds_Account_left.f a=some (zag a):=by
 obtain⟨h1,h2,h3,h4,h5,h6,h7⟩:=h
 unfold zag at h7⊢
 unfold funds_Account_left.f
 rw[wr (a.1+a.2.1) (by omega) (by omega),wr (a.1+a.2.1 - a.2.2.1) (by omega) (by omega),wr (a.1+a.2.1 - a.2.2.1 - a.2.2.2.1) (by omega) (by omega),wr (a.1+a.2.1 - a.2.2.1 - a.2.2.2.1 - a.2.2.2.2) (by omega) (by omega)]
theorem zer{a:FA}(h:OkA a):zag a≤9007199254740992:=by
 obtain⟨h1,h2,h3,h4,h5,h6,h7⟩:=h
 unfold zag at h7⊢
 omega
theorem zwu(B:FB)(n:Int)(h:OkA (geA B n)):funds_Book_Available.f B n=some (B,zag (geA B n)):=by
 unfold funds_Book_Available.f
 rw[show funds_Book_Get.f B n=some (B,geA B n)from rfl]
 simp only[Option.bind_some]
 rw[zkb h]
 rfl
def setA(B:FB)(n:Int)(a:FA):FB:=if a=V0 then zi6 KI VA B n else zaw KI VA B n a
theorem zol(B:FB)(n:Int)(a:FA):funds_Book_set.f B n a=some (setA B n a,()):=by
 unfold funds_Book_set.f setA
 obtain⟨t,c,e,u,h⟩:=a
 by_cases hz:((t,c,e,u,h):FA)=V0
 ·injection hz with h1 h2
  injection h2 with h2 h3
  injection h3 with h3 h4
  injection h4 with h4 h5
  subst h1 h2 h3 h4 h5
  rfl
 ·have e1:((t==0) && ((c==0) && ((e==0) && ((u==0) && ((h==0) && true)))))=false:=by
   rcases Bool.eq_false_or_eq_true ((t==0) && ((c==0) && ((e==0) && ((u==0) && ((h==0) && true)))))with h1|h1
   ·simp only[Bool.and_eq_true,beq_iff_eq]at h1
    obtain⟨rfl,rfl,rfl,rfl,rfl,_⟩:=h1
    exact absurd rfl hz
   ·exact h1
  simp only
  rw[e1,cond_false,if_neg hz]
end Go.Proofs.YtniohchnpfpffaaGreat.Pure
