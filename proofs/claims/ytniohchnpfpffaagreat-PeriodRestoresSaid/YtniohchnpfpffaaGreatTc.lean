/- Plain laws: an account that is set,right or not. No statement of its own. -/
import Derived.Test.YtniohchnpfpffaaGreatSd
set_option linter.unusedSimpArgs false
set_option linter.unusedVariables false
namespace Go.Proofs.YtniohchnpfpffaaGreat.Pure
open Go.Vk Go.Am Go.Pg Go.Sort Go.Proofs.YtniohchnpfpffaaGreat.Y
theorem zog(x:Int): ∃b,funds_within.f x=some b:=by
 unfold funds_within.f
 cases decide (x≥0)with
 |true=>exact⟨_,rfl⟩
 |false=>exact⟨_,rfl⟩
theorem zs6(a:FA): ∃b,funds_Account_right.f a=some b:=by
 have hl:(za2 (funds_Account_right.l1 a) 0=some (.inr ()))∨(za2 (funds_Account_right.l1 a) 0=some (.inl false)):=by
  have key: ∀d i:Nat,i+d=5→(za2 (funds_Account_right.l1 a) (i:Int)=some (.inr ()))∨(za2 (funds_Account_right.l1 a) (i:Int)=some (.inl false)):=by
   intro d
   induction d with
   |zero=>
    intro i hi
    obtain rfl:i=5:=by omega
    left
    rw[zai]
    rfl
   |succ d ih=>
    intro i hi
    obtain⟨b,hb⟩:=zog (([a.1,a.2.1,a.2.2.1,a.2.2.2.1,a.2.2.2.2]:List Int).getD ((i:Int)).toNat 0)
    have hst:funds_Account_right.l1 a (i:Int)=if b=true then some (.inl (((i+1:Nat):Nat):Int))else some (.inr (.inl false)):=by
     unfold funds_Account_right.l1
     rw[show(([a.1,a.2.1,a.2.2.1,a.2.2.2.1,a.2.2.2.2]:List Int).length:Int)=((5:Nat):Int)from rfl,ilt (show i<5 by omega),nn,Bool.and_self,cond_true,cond_true,hb,Option.bind_some,wrS i (by omega)]
     cases b<;>rfl
    rw[zai,hst]
    cases b with
    |true=>rw[if_pos rfl];exact ih (i+1) (by omega)
    |false=>rw[if_neg (by simp)];exact .inr rfl
  exact key 5 0 rfl
 unfold funds_Account_right.f
 rcases hl with hl|hl
 ·obtain⟨b,hb⟩:=zog (IntKind.i64.wrap (a.1+a.2.1))
  rw[hl,Option.bind_some]
  simp only
  rw[hb,Option.bind_some]
  cases b with
  |true=>exact⟨_,rfl⟩
  |false=>exact⟨_,rfl⟩
 ·rw[hl]
  exact⟨_,rfl⟩
theorem Set_b(B:FB){n:Int}(hn:1≤n∧n≤32){a:FA}{b:Bool}(h:funds_Account_right.f a=some b):funds_Book_Set.f B n a=some (if b=true then setA B n a else B,if b=true then 0 else 1):=by
 unfold funds_Book_Set.f
 rw[zqd,(zdp n).2 hn,Option.bind_some,Bool.not_true,Bool.not_false,cond_true]
 rw[show funds_Account_right.f (a.1,(a.2.1,(a.2.2.1,(a.2.2.2.1,a.2.2.2.2))))=some b from h,Option.bind_some,Option.bind_some]
 cases b with
 |true=>
  rw[Bool.not_true,cond_false,show funds_Book_set.f B n (a.1,(a.2.1,(a.2.2.1,(a.2.2.2.1,a.2.2.2.2))))=_ from zol B n a,Option.bind_some]
  rfl
 |false=>rfl
end Go.Proofs.YtniohchnpfpffaaGreat.Pure
