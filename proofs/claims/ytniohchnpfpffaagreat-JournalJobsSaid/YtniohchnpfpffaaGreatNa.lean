/- Plain laws of the document's numbers in parts of 32 bits: what its sums come to. No statement of its own. -/
import Derived.Test.YtniohchnpfpffaaGreatFc
set_option linter.unusedSimpArgs false
set_option linter.unusedVariables false
namespace Go.Proofs.YtniohchnpfpffaaGreat.Pure
open Go.Vk Go.Am Go.Pg Go.Sort Go.Proofs.YtniohchnpfpffaaGreat.Y
theorem zfh(x:Int):Int.fdiv x (2 ^ 32)=x / 4294967296:=by rw[Int.fdiv_eq_ediv_of_nonneg _ (by decide)];rfl
theorem zac{α β:Type}{x:α}{f:α→Option β}{y:Option β}(h: ∀e,e=x→f e=y):(some x).bind f=y:=h x rfl
theorem maskU(x:Int):(((BitVec.ofInt (IntKind.bits .u64) x &&& BitVec.ofInt (IntKind.bits .u64) 4294967295):BitVec (IntKind.bits .u64)).toNat:Int)=x % 4294967296:=by
 have e1:(BitVec.ofInt (IntKind.bits .u64) x).toNat=(x % 18446744073709551616).toNat:=by
  rw[BitVec.toNat_ofInt];rfl
 have e2:(BitVec.ofInt (IntKind.bits .u64) (4294967295:Int)).toNat=2 ^ 32 - 1:=by decide
 rw[BitVec.toNat_and,e1,e2,Nat.and_two_pow_sub_one_eq_mod]
 omega
theorem orU(x y:Int)(hx:0≤x∧x<4294967296)(hy:0≤y∧y<4294967296):(((BitVec.ofInt (IntKind.bits .u64) x|||BitVec.ofInt (IntKind.bits .u64) (y*4294967296)):BitVec (IntKind.bits .u64)).toNat:Int)=x+y*4294967296:=by
 have e0: ∀z:Int,(BitVec.ofInt (IntKind.bits .u64) z).toNat=(z % 18446744073709551616).toNat:=fun z=>by
  rw[BitVec.toNat_ofInt];rfl
 have e1:(BitVec.ofInt (IntKind.bits .u64) x).toNat=x.toNat:=by rw[e0];congr 1;omega
 have e2:(BitVec.ofInt (IntKind.bits .u64) (y*4294967296)).toNat=2 ^ 32*y.toNat:=by rw[e0];omega
 rw[BitVec.toNat_or,e1,e2,Nat.or_comm,←Nat.two_pow_add_eq_or_of_lt (by omega:x.toNat<2 ^ 32)]
 omega
def Lm(m:Int):List Int:= [m % 4294967296,m / 4294967296 % 4294967296,m / 18446744073709551616 % 4294967296,m / 79228162514264337593543950336 % 4294967296,0,0,0,0,0,0]
def Bg(n:Int):List Int×Bool:=(Lm (if n<0 then -n else n),decide (n<0))
theorem zdd(m:Int)(h:0≤m)(h':m<340282366920938463463374607431768211456): ∃a b c d:Int,m % 4294967296=a∧m / 4294967296 % 4294967296=b∧m / 18446744073709551616 % 4294967296=c∧m / 79228162514264337593543950336 % 4294967296=d∧
  (0≤a∧a<4294967296)∧(0≤b∧b<4294967296)∧(0≤c∧c<4294967296)∧(0≤d∧d<4294967296)∧m=a+b*4294967296+c*18446744073709551616+d*79228162514264337593543950336:=
 ⟨_,_,_,_,rfl,rfl,rfl,rfl,by omega,by omega,by omega,by omega,by omega⟩
theorem lm_of(a b c d:Int)(ha:0≤a∧a<4294967296)(hb:0≤b∧b<4294967296)(hc:0≤c∧c<4294967296)(hd:0≤d∧d<4294967296):
  Lm (a+b*4294967296+c*18446744073709551616+d*79228162514264337593543950336)= [a,b,c,d,0,0,0,0,0,0]:=by
 unfold Lm
 simp only[List.cons.injEq,and_true]
 refine⟨by omega,by omega,by omega,by omega⟩
theorem zdo{m:Int}{a b c d:Int}(h:m=a+b*4294967296+c*18446744073709551616+d*79228162514264337593543950336)(ha:0≤a∧a<4294967296)(hb:0≤b∧b<4294967296)(hc:0≤c∧c<4294967296)(hd:0≤d∧d<4294967296):Lm m= [a,b,c,d,0,0,0,0,0,0]:=by
 rw[h];exact lm_of a b c d ha hb hc hd
theorem ztz(n:Int):IntKind.u64.wrap n=n % 18446744073709551616:=IntKind.wrap_u64 n
theorem sa{x y c:Int}(hx:0≤x∧x<4294967296)(hy:0≤y∧y<4294967296)(hc:0≤c∧c≤1):IntKind.u64.wrap (IntKind.u64.wrap (x+y)+c)=x+y+c∧(0≤(x+y+c) / 4294967296∧(x+y+c) / 4294967296≤1):=by
 rw[ztz,ztz];omega
theorem sb{x y c:Int}(hx:0≤x∧x<4294967296)(hy:0≤y∧y<4294967296)(hc:0≤c∧c≤1):IntKind.u64.wrap (IntKind.u64.wrap (IntKind.u64.wrap (x+4294967296) - y) - c)=x+4294967296 - y - c∧IntKind.u64.wrap (1 - (x+4294967296 - y - c) / 4294967296)=1 - (x+4294967296 - y - c) / 4294967296∧(0≤1 - (x+4294967296 - y - c) / 4294967296∧1 - (x+4294967296 - y - c) / 4294967296≤1):=by
 rw[ztz,ztz,ztz,ztz];omega
theorem z01:(0:Int)≤0∧(0:Int)≤1:=by decide
theorem zB:(0:Int)≤0∧(0:Int)<4294967296:=by decide
theorem w32(x:Int):IntKind.u64.wrap (x % 4294967296)=x % 4294967296:=by rw[ztz];omega
theorem modB(x:Int):0≤x % 4294967296∧x % 4294967296<4294967296:=by omega
theorem fin4 {x e1 e2 e3 e4 q1 q2 q3:Int} (h1:q1=e1 / 4294967296) (h2:q2=e2 / 4294967296) (h3:q3=e3 / 4294967296) (h4:0≤e4∧e4<4294967296)
  (hx:x=(e1 - q1*4294967296)+(e2 - q2*4294967296)*4294967296+(e3 - q3*4294967296)*18446744073709551616+e4*79228162514264337593543950336):Lm x= [e1 % 4294967296,e2 % 4294967296,e3 % 4294967296,e4 % 4294967296,0,0,0,0,0,0]:=by
 have g1:e1 - q1*4294967296=e1 % 4294967296:=by omega
 have g2:e2 - q2*4294967296=e2 % 4294967296:=by omega
 have g3:e3 - q3*4294967296=e3 % 4294967296:=by omega
 have g4:e4=e4 % 4294967296:=by omega
 rw[g1,g2,g3]at hx
 rw[hx,lm_of _ _ _ _ (modB _) (modB _) (modB _) h4,←g4]
theorem qr{e q:Int}(h:q=e / 4294967296):0≤e - q*4294967296∧e - q*4294967296<4294967296:=by omega
theorem div0{x:Int}(h:0≤x∧x<4294967296):x / 4294967296=0:=by omega
theorem sub0{x:Int}(h:0≤x - 4294967296∧x - 4294967296<4294967296):1 - x / 4294967296=0:=by omega
theorem modsub(x:Int):(x - 4294967296) % 4294967296=x % 4294967296:=by omega
theorem lin_add(a b c d a' b' c' d' q1 q2 q3:Int):a+b*4294967296+c*18446744073709551616+d*79228162514264337593543950336+(a'+b'*4294967296+c'*18446744073709551616+d'*79228162514264337593543950336)=
 (a+a'+0 - q1*4294967296)+(b+b'+q1 - q2*4294967296)*4294967296+(c+c'+q2 - q3*4294967296)*18446744073709551616+(d+d'+q3)*79228162514264337593543950336:=by omega
theorem lin_sub(a b c d a' b' c' d' q1 q2 q3:Int):a+b*4294967296+c*18446744073709551616+d*79228162514264337593543950336 - (a'+b'*4294967296+c'*18446744073709551616+d'*79228162514264337593543950336)=
 (a+4294967296 - a' - 0 - q1*4294967296)+(b+4294967296 - b' - (1 - q1) - q2*4294967296)*4294967296+(c+4294967296 - c' - (1 - q2) - q3*4294967296)*18446744073709551616+(d+4294967296 - d' - (1 - q3) - 4294967296)*79228162514264337593543950336:=by omega
theorem fin_add {a b c d a' b' c' d' m n e1 e2 e3 e4 q1 q2 q3:Int} (em:m=a+b*4294967296+c*18446744073709551616+d*79228162514264337593543950336) (en:n=a'+b'*4294967296+c'*18446744073709551616+d'*79228162514264337593543950336) (hs:m+n<340282366920938463463374607431768211456)
  (h1:e1=a+a'+0) (h2:e2=b+b'+q1) (h3:e3=c+c'+q2) (h4:e4=d+d'+q3) (k1:0≤e1 - q1*4294967296) (k2:0≤e2 - q2*4294967296) (k3:0≤e3 - q3*4294967296) (hd:0≤d) (hd':0≤d') (hq:0≤q3):
  (0≤e4∧e4<4294967296)∧m+n=(e1 - q1*4294967296)+(e2 - q2*4294967296)*4294967296+(e3 - q3*4294967296)*18446744073709551616+e4*79228162514264337593543950336:=by
 have hx:m+n=(e1 - q1*4294967296)+(e2 - q2*4294967296)*4294967296+(e3 - q3*4294967296)*18446744073709551616+e4*79228162514264337593543950336:=by
  rw[em,en,h1,h2,h3,h4];exact lin_add ..
 refine⟨⟨by omega,?_⟩,hx⟩
 rw[hx]at hs
 generalize e1 - q1*4294967296=x1 at*
 generalize e2 - q2*4294967296=x2 at*
 generalize e3 - q3*4294967296=x3 at*
 clear hx em en h1 h2 h3 h4
 omega
theorem fin_sub {a b c d a' b' c' d' m n e1 e2 e3 e4 q1 q2 q3:Int} (em:m=a+b*4294967296+c*18446744073709551616+d*79228162514264337593543950336) (en:n=a'+b'*4294967296+c'*18446744073709551616+d'*79228162514264337593543950336) (hs:n≤m)
  (h1:e1=a+4294967296 - a' - 0) (h2:e2=b+4294967296 - b' - (1 - q1)) (h3:e3=c+4294967296 - c' - (1 - q2)) (h4:e4=d+4294967296 - d' - (1 - q3)) (k1:e1 - q1*4294967296<4294967296) (k2:e2 - q2*4294967296<4294967296) (k3:e3 - q3*4294967296<4294967296) (hd:d<4294967296) (hd':0≤d') (hq:0≤1 - q3):
  (0≤e4 - 4294967296∧e4 - 4294967296<4294967296)∧m - n=(e1 - q1*4294967296)+(e2 - q2*4294967296)*4294967296+(e3 - q3*4294967296)*18446744073709551616+(e4 - 4294967296)*79228162514264337593543950336:=by
 have hx:m - n=(e1 - q1*4294967296)+(e2 - q2*4294967296)*4294967296+(e3 - q3*4294967296)*18446744073709551616+(e4 - 4294967296)*79228162514264337593543950336:=by
  rw[em,en,h1,h2,h3,h4];exact lin_sub ..
 refine⟨⟨?_,by omega⟩,hx⟩
 have hs':0≤m - n:=by omega
 rw[hx]at hs'
 generalize e1 - q1*4294967296=x1 at*
 generalize e2 - q2*4294967296=x2 at*
 generalize e3 - q3*4294967296=x3 at*
 generalize e4 - 4294967296=x4 at*
 clear hx hs em en h1 h2 h3 h4
 omega
theorem big_add(m n:Int)(s t:Bool)(hm:0≤m)(hn:0≤n)(hs:m+n<340282366920938463463374607431768211456):purserref01_add.f (Lm m,s) (Lm n,t)=some (Lm (m+n),s):=by
 obtain⟨a,b,c,d,_,_,_,_,ha,hb,hc,hd,em⟩:=zdd m hm (by omega)
 obtain⟨a',b',c',d',_,_,_,_,ha',hb',hc',hd',en⟩:=zdd n hn (by omega)
 rw[zdo em ha hb hc hd,zdo en ha' hb' hc' hd']
 unfold purserref01_add.f
 refine zac fun e1 h1=> ?_
 simp only[List.getD_cons_zero,List.getD_cons_succ,zfh]at h1
 have k1:=sa (x:=a) (y:=a') (c:=0) ha ha' z01
 rw[k1.1]at h1
 have r1:0≤e1 / 4294967296∧e1 / 4294967296≤1:=by rw[h1];exact k1.2
 clear k1
 refine zac fun e2 h2=> ?_
 simp only[List.getD_cons_zero,List.getD_cons_succ,zfh]at h2
 have k2:=sa (x:=b) (y:=b') (c:=(e1 / 4294967296)) hb hb' r1
 rw[k2.1]at h2
 have r2:0≤e2 / 4294967296∧e2 / 4294967296≤1:=by rw[h2];exact k2.2
 clear k2
 refine zac fun e3 h3=> ?_
 simp only[List.getD_cons_zero,List.getD_cons_succ,zfh]at h3
 have k3:=sa (x:=c) (y:=c') (c:=(e2 / 4294967296)) hc hc' r2
 rw[k3.1]at h3
 have r3:0≤e3 / 4294967296∧e3 / 4294967296≤1:=by rw[h3];exact k3.2
 clear k3
 refine zac fun e4 h4=> ?_
 simp only[List.getD_cons_zero,List.getD_cons_succ,zfh]at h4
 have k4:=sa (x:=d) (y:=d') (c:=(e3 / 4294967296)) hd hd' r3
 rw[k4.1]at h4
 have r4:0≤e4 / 4294967296∧e4 / 4294967296≤1:=by rw[h4];exact k4.2
 clear k4
 obtain⟨f1,f2⟩:=fin_add em en hs h1 h2 h3 h4 (qr rfl).1 (qr rfl).1 (qr rfl).1 hd.1 hd'.1 r3.1
 have hq:e4 / 4294967296=0:=div0 f1
 have hL:=fin4 (x:=m+n) (e1:=e1) (e2:=e2) (e3:=e3) (e4:=e4) rfl rfl rfl f1 f2
 refine zac fun e5 h5=> ?_
 simp only[List.getD_cons_zero,List.getD_cons_succ,zfh]at h5
 have k5:=sa (x:=0) (y:=0) (c:=(e4 / 4294967296)) zB zB r4
 rw[k5.1]at h5
 have r5:0≤e5 / 4294967296∧e5 / 4294967296≤1:=by rw[h5];exact k5.2
 clear k5
 replace h5:e5=0:=by rw[h5,hq];rfl
 refine zac fun e6 h6=> ?_
 simp only[List.getD_cons_zero,List.getD_cons_succ,zfh]at h6
 have k6:=sa (x:=0) (y:=0) (c:=(e5 / 4294967296)) zB zB r5
 rw[k6.1]at h6
 have r6:0≤e6 / 4294967296∧e6 / 4294967296≤1:=by rw[h6];exact k6.2
 clear k6
 replace h6:e6=0:=by rw[h6,h5];rfl
 refine zac fun e7 h7=> ?_
 simp only[List.getD_cons_zero,List.getD_cons_succ,zfh]at h7
 have k7:=sa (x:=0) (y:=0) (c:=(e6 / 4294967296)) zB zB r6
 rw[k7.1]at h7
 have r7:0≤e7 / 4294967296∧e7 / 4294967296≤1:=by rw[h7];exact k7.2
 clear k7
 replace h7:e7=0:=by rw[h7,h6];rfl
 refine zac fun e8 h8=> ?_
 simp only[List.getD_cons_zero,List.getD_cons_succ,zfh]at h8
 have k8:=sa (x:=0) (y:=0) (c:=(e7 / 4294967296)) zB zB r7
 rw[k8.1]at h8
 have r8:0≤e8 / 4294967296∧e8 / 4294967296≤1:=by rw[h8];exact k8.2
 clear k8
 replace h8:e8=0:=by rw[h8,h7];rfl
 refine zac fun e9 h9=> ?_
 simp only[List.getD_cons_zero,List.getD_cons_succ,zfh]at h9
 have k9:=sa (x:=0) (y:=0) (c:=(e8 / 4294967296)) zB zB r8
 rw[k9.1]at h9
 have r9:0≤e9 / 4294967296∧e9 / 4294967296≤1:=by rw[h9];exact k9.2
 clear k9
 replace h9:e9=0:=by rw[h9,h8];rfl
 refine zac fun e10 h10=> ?_
 simp only[List.getD_cons_zero,List.getD_cons_succ,zfh]at h10
 have k10:=sa (x:=0) (y:=0) (c:=(e9 / 4294967296)) zB zB r9
 rw[k10.1]at h10
 have r10:0≤e10 / 4294967296∧e10 / 4294967296≤1:=by rw[h10];exact k10.2
 clear k10
 replace h10:e10=0:=by rw[h10,h9];rfl
 simp only[zfh,maskU,w32,h5,h6,h7,h8,h9,h10]
 rw[hL]
 rfl
theorem zx6(m n:Int)(s t:Bool)(hm:n≤m)(hn:0≤n)(hs:m<340282366920938463463374607431768211456):purserref01_sub.f (Lm m,s) (Lm n,t)=some (Lm (m - n),s):=by
 obtain⟨a,b,c,d,_,_,_,_,ha,hb,hc,hd,em⟩:=zdd m (by omega) (by omega)
 obtain⟨a',b',c',d',_,_,_,_,ha',hb',hc',hd',en⟩:=zdd n hn (by omega)
 rw[zdo em ha hb hc hd,zdo en ha' hb' hc' hd']
 unfold purserref01_sub.f
 refine zac fun e1 h1=> ?_
 simp only[List.getD_cons_zero,List.getD_cons_succ,zfh]at h1
 have k1:=sb (x:=a) (y:=a') (c:=0) ha ha' z01
 rw[k1.1]at h1
 refine zac fun u1 g1=> ?_
 simp only[zfh]at g1
 rw[h1,k1.2.1]at g1
 have r1:0≤u1∧u1≤1:=by rw[g1];exact k1.2.2
 rw[←h1]at g1
 clear k1
 refine zac fun e2 h2=> ?_
 simp only[List.getD_cons_zero,List.getD_cons_succ,zfh]at h2
 have k2:=sb (x:=b) (y:=b') (c:=u1) hb hb' r1
 rw[k2.1]at h2
 refine zac fun u2 g2=> ?_
 simp only[zfh]at g2
 rw[h2,k2.2.1]at g2
 have r2:0≤u2∧u2≤1:=by rw[g2];exact k2.2.2
 rw[←h2]at g2
 clear k2
 refine zac fun e3 h3=> ?_
 simp only[List.getD_cons_zero,List.getD_cons_succ,zfh]at h3
 have k3:=sb (x:=c) (y:=c') (c:=u2) hc hc' r2
 rw[k3.1]at h3
 refine zac fun u3 g3=> ?_
 simp only[zfh]at g3
 rw[h3,k3.2.1]at g3
 have r3:0≤u3∧u3≤1:=by rw[g3];exact k3.2.2
 rw[←h3]at g3
 clear k3
 refine zac fun e4 h4=> ?_
 simp only[List.getD_cons_zero,List.getD_cons_succ,zfh]at h4
 have k4:=sb (x:=d) (y:=d') (c:=u3) hd hd' r3
 rw[k4.1]at h4
 refine zac fun u4 g4=> ?_
 simp only[zfh]at g4
 rw[h4,k4.2.1]at g4
 have r4:0≤u4∧u4≤1:=by rw[g4];exact k4.2.2
 rw[←h4]at g4
 clear k4
 have v2:=h2;rw[g1]at v2;have v3:=h3;rw[g2]at v3;have v4:=h4;rw[g3]at v4;have v5:=r3.1;rw[g3]at v5
 obtain⟨f1,f2⟩:=fin_sub em en hm h1 v2 v3 v4 (qr rfl).2 (qr rfl).2 (qr rfl).2 hd.2 hd'.1 v5
 have hq:u4=0:=by rw[g4];exact sub0 f1
 have hL:=fin4 (x:=m - n) (e1:=e1) (e2:=e2) (e3:=e3) (e4:=e4 - 4294967296) rfl rfl rfl f1 f2
 have hm4:(e4 - 4294967296) % 4294967296=e4 % 4294967296:=modsub e4
 rw[hm4]at hL
 refine zac fun e5 h5=> ?_
 simp only[List.getD_cons_zero,List.getD_cons_succ,zfh]at h5
 have k5:=sb (x:=0) (y:=0) (c:=u4) zB zB r4
 rw[k5.1]at h5
 refine zac fun u5 g5=> ?_
 simp only[zfh]at g5
 rw[h5,k5.2.1]at g5
 have r5:0≤u5∧u5≤1:=by rw[g5];exact k5.2.2
 rw[←h5]at g5
 clear k5
 replace h5:e5=4294967296:=by rw[h5,hq];rfl
 replace g5:u5=0:=by rw[g5,h5];rfl
 refine zac fun e6 h6=> ?_
 simp only[List.getD_cons_zero,List.getD_cons_succ,zfh]at h6
 have k6:=sb (x:=0) (y:=0) (c:=u5) zB zB r5
 rw[k6.1]at h6
 refine zac fun u6 g6=> ?_
 simp only[zfh]at g6
 rw[h6,k6.2.1]at g6
 have r6:0≤u6∧u6≤1:=by rw[g6];exact k6.2.2
 rw[←h6]at g6
 clear k6
 replace h6:e6=4294967296:=by rw[h6,g5];rfl
 replace g6:u6=0:=by rw[g6,h6];rfl
 refine zac fun e7 h7=> ?_
 simp only[List.getD_cons_zero,List.getD_cons_succ,zfh]at h7
 have k7:=sb (x:=0) (y:=0) (c:=u6) zB zB r6
 rw[k7.1]at h7
 refine zac fun u7 g7=> ?_
 simp only[zfh]at g7
 rw[h7,k7.2.1]at g7
 have r7:0≤u7∧u7≤1:=by rw[g7];exact k7.2.2
 rw[←h7]at g7
 clear k7
 replace h7:e7=4294967296:=by rw[h7,g6];rfl
 replace g7:u7=0:=by rw[g7,h7];rfl
 refine zac fun e8 h8=> ?_
 simp only[List.getD_cons_zero,List.getD_cons_succ,zfh]at h8
 have k8:=sb (x:=0) (y:=0) (c:=u7) zB zB r7
 rw[k8.1]at h8
 refine zac fun u8 g8=> ?_
 simp only[zfh]at g8
 rw[h8,k8.2.1]at g8
 have r8:0≤u8∧u8≤1:=by rw[g8];exact k8.2.2
 rw[←h8]at g8
 clear k8
 replace h8:e8=4294967296:=by rw[h8,g7];rfl
 replace g8:u8=0:=by rw[g8,h8];rfl
 refine zac fun e9 h9=> ?_
 simp only[List.getD_cons_zero,List.getD_cons_succ,zfh]at h9
 have k9:=sb (x:=0) (y:=0) (c:=u8) zB zB r8
 rw[k9.1]at h9
 refine zac fun u9 g9=> ?_
 simp only[zfh]at g9
 rw[h9,k9.2.1]at g9
 have r9:0≤u9∧u9≤1:=by rw[g9];exact k9.2.2
 rw[←h9]at g9
 clear k9
 replace h9:e9=4294967296:=by rw[h9,g8];rfl
 replace g9:u9=0:=by rw[g9,h9];rfl
 refine zac fun e10 h10=> ?_
 simp only[List.getD_cons_zero,List.getD_cons_succ,zfh]at h10
 have k10:=sb (x:=0) (y:=0) (c:=u9) zB zB r9
 rw[k10.1]at h10
 refine zac fun u10 g10=> ?_
 simp only[zfh]at g10
 rw[h10,k10.2.1]at g10
 have r10:0≤u10∧u10≤1:=by rw[g10];exact k10.2.2
 rw[←h10]at g10
 clear k10
 replace h10:e10=4294967296:=by rw[h10,g9];rfl
 replace g10:u10=0:=by rw[g10,h10];rfl
 simp only[zfh,maskU,w32,h5,h6,h7,h8,h9,h10]
 rw[hL]
 rfl
theorem zsg(m:Int)(s:Bool)(hm:0≤m)(h:m<340282366920938463463374607431768211456):purserref01_zero.f (Lm m,s)=some (decide (m=0)):=by
 obtain⟨a,b,c,d,_,_,_,_,ha,hb,hc,hd,em⟩:=zdd m hm h
 rw[zdo em ha hb hc hd]
 simp only[purserref01_zero.f,List.getD_cons_zero,List.getD_cons_succ,Option.some.injEq]
 by_cases h0:m=0
 ·have:a=0∧b=0∧c=0∧d=0:=by omega
  obtain⟨rfl,rfl,rfl,rfl⟩:=this
  simp[h0]
 ·rw[decide_eq_false h0]
  by_cases ea:a=0
  ·by_cases eb:b=0
   ·by_cases ec:c=0
    ·have ed:d≠0:=by omega
     simp[ed]
    ·simp[ec]
   ·simp[eb]
  ·simp[ea]
theorem zz4(m n:Int)(s t:Bool)(hm:0≤m)(hn:0≤n)(h:m<340282366920938463463374607431768211456)(h':n<340282366920938463463374607431768211456):purserref01_less.f (Lm m,s) (Lm n,t)=some (decide (m<n)):=by
 obtain⟨a,b,c,d,_,_,_,_,ha,hb,hc,hd,em⟩:=zdd m hm h
 obtain⟨a',b',c',d',_,_,_,_,ha',hb',hc',hd',en⟩:=zdd n hn h'
 rw[zdo em ha hb hc hd,zdo en ha' hb' hc' hd']
 simp only[purserref01_less.f,List.getD_cons_zero,List.getD_cons_succ,bne_self_eq_false,cond_false]
 by_cases ed:d=d'
 ·by_cases ec:c=c'
  ·by_cases eb:b=b'
   ·by_cases ea:a=a'
    ·have:(a !=a')=false∧(b !=b')=false∧(c !=c')=false∧(d !=d')=false:=by simp[ea,eb,ec,ed]
     simp only[this,cond_false]
     rw[decide_eq_false (by omega)]
    ·have:(a !=a')=true∧(b !=b')=false∧(c !=c')=false∧(d !=d')=false:=by simp[ea,eb,ec,ed]
     simp only[this,cond_false,cond_true]
     congr 1
     rw[decide_eq_decide];omega
   ·have:(b !=b')=true∧(c !=c')=false∧(d !=d')=false:=by simp[eb,ec,ed]
    simp only[this,cond_false,cond_true]
    congr 1
    rw[decide_eq_decide];omega
  ·have:(c !=c')=true∧(d !=d')=false:=by simp[ec,ed]
   simp only[this,cond_false,cond_true]
   congr 1
   rw[decide_eq_decide];omega
 ·have:(d !=d')=true:=by simp[ed]
  simp only[this,cond_true]
  congr 1
  rw[decide_eq_decide];omega
theorem zh1(m:Int):ziy 0 10 (Lm m)=Lm m:=zx7 rfl
theorem zz3(x y:Int)(hx: -85070591730234615865843651857942052864≤x∧x≤85070591730234615865843651857942052864)(hy: -85070591730234615865843651857942052864≤y∧y≤85070591730234615865843651857942052864):purserref01_Plus.f (Bg x) (Bg y)=some (Bg (x+y)):=by
 unfold purserref01_Plus.f Bg
 simp only[zh1]
 have hm:0≤(if x<0 then -x else x)∧(if x<0 then -x else x)≤85070591730234615865843651857942052864:=by split<;>omega
 have hn:0≤(if y<0 then -y else y)∧(if y<0 then -y else y)≤85070591730234615865843651857942052864:=by split<;>omega
 by_cases hs:decide (x<0)=decide (y<0)
 ·have hs':(decide (x<0)==decide (y<0))=true:=by simpa using hs
  rw[hs',cond_true,big_add _ _ _ _ hm.1 hn.1 (by omega)]
  simp only[Option.bind_some,zh1]
  rw[decide_eq_decide]at hs
  congr 2
  ·congr 1
   by_cases h1:x<0
   ·have h2:=hs.1 h1
    rw[if_pos h1,if_pos h2,if_pos (by omega)];omega
   ·have h2: ¬y<0:=fun h=>h1 (hs.2 h)
    rw[if_neg h1,if_neg h2,if_neg (by omega)]
  ·rw[decide_eq_decide]
   constructor
   ·intro h1;have:=hs.1 h1;omega
   ·intro h1
    apply Classical.byContradiction
    intro h2
    have: ¬y<0:=fun h=>h2 (hs.2 h)
    omega
 ·have hs':(decide (x<0)==decide (y<0))=false:=by
   cases h:(decide (x<0)==decide (y<0))with
   |false=>rfl
   |true=>exact absurd (by simpa using h) hs
  have hxy:(x<0∧0≤y)∨(0≤x∧y<0):=by
   by_cases h1:x<0<;>by_cases h2:y<0
   ·exact absurd (by simp[h1,h2]) hs
   ·exact .inl ⟨h1,by omega⟩
   ·exact .inr ⟨by omega,h2⟩
   ·exact absurd (by simp[h1,h2]) hs
  rw[hs',cond_false,zz4 _ _ _ _ hm.1 hn.1 (by omega) (by omega)]
  simp only[Option.bind_some]
  by_cases hl:(if x<0 then -x else x)< (if y<0 then -y else y)
  ·rw[decide_eq_true hl,cond_true]
   simp only[Option.bind_some,zh1]
   rw[zx6 _ _ _ _ (by omega) hm.1 (by omega)]
   simp only[Option.bind_some,zh1]
   rw[zsg _ _ (by omega) (by omega)]
   simp only[Option.bind_some]
   rw[decide_eq_false (by omega),cond_false]
   simp only[Option.bind_some,zh1]
   congr 2
   ·congr 1
    rcases hxy with⟨h1,h2⟩|⟨h1,h2⟩
    ·rw[if_pos h1,if_neg (by omega: ¬y<0)]at hl⊢;rw[if_neg (by omega)];omega
    ·rw[if_neg (by omega: ¬x<0),if_pos h2]at hl⊢;rw[if_pos (by omega)];omega
   ·rw[decide_eq_decide]
    rcases hxy with⟨h1,h2⟩|⟨h1,h2⟩
    ·rw[if_pos h1,if_neg (by omega: ¬y<0)]at hl;omega
    ·rw[if_neg (by omega: ¬x<0),if_pos h2]at hl;omega
  ·rw[decide_eq_false hl,cond_false]
   simp only[Option.bind_some,zh1]
   rw[zx6 _ _ _ _ (by omega) hn.1 (by omega)]
   simp only[Option.bind_some,zh1]
   rw[zsg _ _ (by omega) (by omega)]
   simp only[Option.bind_some]
   by_cases hz:(if x<0 then -x else x) - (if y<0 then -y else y)=0
   ·rw[decide_eq_true hz,cond_true]
    simp only[Option.bind_some,zh1]
    rw[hz]
    have:x+y=0:=by
     rcases hxy with⟨h1,h2⟩|⟨h1,h2⟩
     ·rw[if_pos h1,if_neg (by omega: ¬y<0)]at hz;omega
     ·rw[if_neg (by omega: ¬x<0),if_pos h2]at hz;omega
    rw[this]
    rfl
   ·rw[decide_eq_false hz,cond_false]
    simp only[Option.bind_some,zh1]
    congr 2
    ·congr 1
     rcases hxy with⟨h1,h2⟩|⟨h1,h2⟩
     ·rw[if_pos h1,if_neg (by omega: ¬y<0)]at hl hz⊢;rw[if_pos (by omega)];omega
     ·rw[if_neg (by omega: ¬x<0),if_pos h2]at hl hz⊢;rw[if_neg (by omega)];omega
    ·rw[decide_eq_decide]
     rcases hxy with⟨h1,h2⟩|⟨h1,h2⟩
     ·rw[if_pos h1,if_neg (by omega: ¬y<0)]at hl hz;omega
     ·rw[if_neg (by omega: ¬x<0),if_pos h2]at hl hz;omega
theorem big_of(n:Int)(h: -9223372036854775808≤n∧n≤9223372036854775807):purserref01_Of.f n=some (Bg n):=by
 unfold purserref01_Of.f Bg
 rw[bt,show(List.replicate 10 (0:Int))= [0,0,0,0,0,0,0,0,0,0]from rfl]
 by_cases hn:n<0
 ·rw[if_pos hn,if_pos hn,decide_eq_true hn]
  simp only[Option.bind_some,List.getD_cons_zero,List.getD_cons_succ,ztz,zfh,maskU]
  rw[zdo (m:= -n) (a:= -n % 4294967296) (b:= -n / 4294967296) (c:=0) (d:=0) (by omega) (by omega) (by omega) (by omega) (by omega)]
  simp only[Option.some.injEq,Prod.mk.injEq,List.cons.injEq,and_true]
  refine⟨by omega,by omega⟩
 ·rw[if_neg hn,if_neg hn,decide_eq_false hn]
  simp only[Option.bind_some,List.getD_cons_zero,List.getD_cons_succ,ztz,zfh,maskU]
  rw[zdo (m:=n) (a:=n % 4294967296) (b:=n / 4294967296) (c:=0) (d:=0) (by omega) (by omega) (by omega) (by omega) (by omega)]
  simp only[Option.some.injEq,Prod.mk.injEq,List.cons.injEq,and_true]
  refine⟨by omega,by omega⟩
theorem big_int(n:Int)(h: -170141183460469231731687303715884105728≤n∧n≤170141183460469231731687303715884105728):purserref01_Int.f (Bg n)=some (FI n):=by
 unfold Bg
 have hm:0≤(if n<0 then -n else n)∧(if n<0 then -n else n)≤170141183460469231731687303715884105728:=by split<;>omega
 generalize hM:(if n<0 then -n else n)=m at*
 obtain⟨a,b,c,d,_,_,_,_,ha,hb,hc,hd,em⟩:=zdd m hm.1 (by omega)
 rw[zdo em ha hb hc hd]
 simp only[purserref01_Int.f,List.getD_cons_zero,List.getD_cons_succ,bne_self_eq_false,cond_false]
 unfold FI
 by_cases ec:c=0
 ·by_cases ed:d=0
  ·have h1:(c !=0)=false∧(d !=0)=false:=by simp[ec,ed]
   have p32:(2:Int) ^ 32=4294967296:=by decide
   simp only[h1,cond_false,p32]
   have hw:IntKind.u64.wrap (b*4294967296)=b*4294967296:=by rw[ztz];omega
   rw[hw,orU a b ha hb]
   have hw2:IntKind.u64.wrap (a+b*4294967296)=m:=by rw[ztz];omega
   rw[hw2]
   try simp only[Option.bind_some]
   by_cases hn:n<0
   ·rw[decide_eq_true hn,cond_true,bt]
    rw[if_pos hn]at hM
    by_cases hb2:m >9223372036854775808
    ·rw[if_pos hb2,if_neg (by omega)]
    ·rw[if_neg hb2,if_pos (by omega)]
     try simp only[Option.bind_some]
     rw[ztz,IntKind.wrap_i64]
     congr 2
     omega
   ·rw[decide_eq_false hn,cond_false,bt]
    rw[if_neg hn]at hM
    by_cases hb2:m≥9223372036854775808
    ·rw[if_pos hb2,if_neg (by omega)]
    ·rw[if_neg hb2,if_pos (by omega),wr m (by omega) (by omega),hM]
  ·have h1:(c !=0)=false∧(d !=0)=true:=by simp[ec,ed]
   simp only[h1,cond_false,cond_true]
   rw[if_neg (by split at hM<;>omega)]
 ·have h1:(c !=0)=true:=by simp[ec]
  simp only[h1,cond_true]
  rw[if_neg (by split at hM<;>omega)]
theorem zsh(n:Int):(ziy 0 10 (Bg n).1,(Bg n).2)=Bg n:=by rw[show ziy 0 10 (Bg n).1=(Bg n).1 from zx7 rfl]
theorem zz5(l0:List Int)(suf:List Int): ∀(pre:List Int) (S:Int),l0=pre++suf→l0.length≤1048576→(∀x∈suf,-9223372036854775808≤x∧x≤9223372036854775807)→ -(9223372036854775808* (pre.length:Int))≤S→S≤9223372036854775808* (pre.length:Int)→
  zab (purserref01_Sum.l1 l0) ((pre.length:Int),Bg S)=some (Bg (S+zd9 suf)):=by
 induction suf with
 |nil=>
  intro pre S h hn _ _ _
  rw[zaf]
  simp only[purserref01_Sum.l1,zsh]
  have: ¬((pre.length:Int)< (l0.length:Int)):=by rw[h];simp
  rw[decide_eq_false this]
  simp[zd9]
 |cons x rest ih=>
  intro pre S h hn hx h1 h2
  have hx1:=hx x (by simp)
  have hl:l0.length=pre.length+rest.length+1:=by rw[h];simp;omega
  have hlt:(pre.length:Int)< (l0.length:Int):=by omega
  have g:l0.getD ((pre.length:Int)).toNat 0=x:=by rw[h];exact zdh _ _ _ _
  have e2:IntKind.i64.wrap ((pre.length:Int)+1)=((pre++ [x]).length:Nat):=by rw[wr _ (by omega) (by omega)];simp
  have hp:(pre.length:Int)≤1048576:=by omega
  have hpl:((pre++ [x]).length:Int)=(pre.length:Int)+1:=by simp
  rw[zaf]
  simp only[purserref01_Sum.l1,hlt,g,e2,decide_true,cond_true,Int.natCast_nonneg,Bool.and_self,Option.bind_some,big_of x hx1,zsh]
  rw[zz3 S x (by omega) (by omega)]
  simp only[Option.bind_some,zsh]
  rw[ih (pre++ [x]) (S+x) (by rw[h];simp) hn (fun y hy=>hx y (by simp[hy])) (by rw[hpl];omega) (by rw[hpl];omega)]
  simp only[zd9,Int.add_assoc]
theorem zv4(l:List Int)(hl:l.length≤1048576)(h: ∀x∈l,-9223372036854775808≤x∧x≤9223372036854775807):purserref01_Sum.f l=some (FI (zd9 l)):=by
 have h1:=zz5 l l [] 0 rfl hl h (by simp) (by simp)
 have h1:zab (purserref01_Sum.l1 l) (0,((List.replicate 10 (0:Int)),false))=some (Bg (zd9 l)):=by
  have e:Bg 0=((List.replicate 10 (0:Int)),false):=by decide
  rw[e]at h1
  simpa using h1
 have hb:=zll 9223372036854775808 l (fun x hx=>by have:=h x hx;omega)
 have hbl:(9223372036854775808:Int)*l.length≤9223372036854775808*1048576:=Int.mul_le_mul_of_nonneg_left (by omega) (by decide)
 simp only[purserref01_Sum.f,h1,Option.bind_some,zsh]
 rw[big_int _ (by omega)]
 rfl
end Go.Proofs.YtniohchnpfpffaaGreat.Pure
