/- Plain laws: a purse's book; Roll. No statement of its own. -/
import Derived.Test.YtniohchnpfpffaaGreatRe
set_option linter.unusedSimpArgs false
set_option linter.unusedVariables false
namespace Go.Proofs.YtniohchnpfpffaaGreat.Pure
open Go.Vk Go.Am Go.Pg Go.Sort Go.Proofs.YtniohchnpfpffaaGreat.Y
abbrev zpd(B:FB):List Int:=zda (K:=KI) (V:=VA) B
theorem flatI:zaj KI=true:=rfl
theorem eqI(a b:Int):eqT KI a b=decide (a=b):=by
 by_cases h:a=b
 ·subst h;rw[zjc (K:=KI) rfl,decide_eq_true rfl]
 ·rw[zpq (K:=KI) rfl h,decide_eq_false h]
theorem zz0{B:FB}{k:Int}(h:k∉zpd B):geA B k=V0:=by
 unfold geA
 rw[zk1 flatI h]
 rfl
structure BOk(B:FB)(N:Nat):Prop where
 nod:(zpd B).Nodup
 rng: ∀k∈zpd B,1≤k∧k≤32
 nz: ∀k∈zpd B,geA B k≠V0
 ok: ∀k,OkA (geA B k)
 len:B.length≤N
theorem BOk.key{B:FB}{N:Nat}(h:BOk B N)(k:Int):k∈zpd B↔geA B k≠V0:=
 ⟨h.nz k,fun hz=>Classical.byContradiction fun hn=>hz (zz0 hn)⟩
theorem mdel_len(B:FB)(n:Int):(zlm KI VA B n).length=B.length:=by
 induction B with
 |nil=>rfl
 |cons x B ih=>
  cases x with
  |none=>simp only[zlm,List.length_cons,ih]
  |some p=>
   obtain⟨k,v⟩:=p
   simp only[zlm]
   cases eqT KI n k<;>simp[ih]
theorem BOk.mono{B:FB}{N M:Nat}(h:BOk B N)(hl:N≤M):BOk B M:=⟨h.nod,h.rng,h.nz,h.ok,Nat.le_trans h.len hl⟩
/-! ### the nodes that have an account -/
def nodes32:List Int:=(List.range 32).map fun i:Nat=>((i:Int)+1)
theorem zd7(n:Int):n∈nodes32↔1≤n∧n≤32:=by
 unfold nodes32
 rw[List.mem_map]
 constructor
 ·rintro⟨i,hi,rfl⟩
  rw[List.mem_range]at hi
  omega
 ·rintro⟨h1,h2⟩
  exact⟨(n - 1).toNat,by rw[List.mem_range];omega,by omega⟩
theorem nodes_sorted:nodes32.Pairwise (fun a b=>a≤b):=by decide
theorem nodes_nodup:nodes32.Nodup:=by decide
/-! ### Roll -/
theorem zza(j:Jn)(h0:0≤j.2.1)(h:j.2.1<31)(hm:j.2.2.2.length≤1000):journal_Journal_Close.f j=some ((j.1,(j.2.1+1,(j.2.2.1,j.2.2.2++ [[]]))),(j.2.1+1,0)):=by
 obtain⟨L,p,B,M⟩:=j
 simp only at h0 h hm
 unfold journal_Journal_Close.f
 simp only
 rw[wr (p+1) (by omega) (by omega)]
 have e1:(p+1==32)=false:=by simp;omega
 have e2:decide (M.length+([([]:Mp (.pair (.int .i64) (.pair (.int .i64) (.int .i64))) (.int .i64))]:List (Mp (.pair (.int .i64) (.pair (.int .i64) (.int .i64))) (.int .i64))).length≤1099511627776)=true:=by simp;omega
 rw[e1,e2]
 rfl
end Go.Proofs.YtniohchnpfpffaaGreat.Pure
