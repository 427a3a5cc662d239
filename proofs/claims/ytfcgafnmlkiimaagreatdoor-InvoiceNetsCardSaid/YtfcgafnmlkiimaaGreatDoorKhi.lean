/- The keys of a map,collected,as a call: they come in any order. No statement of its own. -/
import Derived.Test.YtfcgafnmlkiimaaGreatDoorKvi
import Derived.Test.YtfcgafnmlkiimaaGreatDoorSA
import Derived.KernelRfl
set_option linter.unusedSimpArgs false
set_option linter.unusedVariables false
namespace Go.Proofs.YtfcgafnmlkiimaaGreatDoor.Kv152
open Go.RowKit Go.Shelf Go.Proofs Go.Am Go.Vk
def M0:MTy:=⟨3,197,false,KT,true,.pair (.int .i64) (.pair (.int .i64) (.pair (.int .i64) (.pair (.int .i64) .bool)))⟩
noncomputable def keysHdl:Hdl:=fun X args H k=>
 match args with
 | [.clo (.func g) [] [.ptr c 0]]=>match Nat.beq g 152,Am.look H c with
  |true,some (.cells _ [.map b])=>match Am.look H b with
   |some (.map m xs)=>match mtyEq m M0 with
    |some ⟨h⟩=>bifA (Nat.ble (castM h xs).length 1099511627776) (anyOrd (((castM h xs).filterMap id).map (·.1)) fun l=>k (H++ [.row KT 3 l]) (.row H.length)) none
    |none=>none
   |_=>none
  |true,some (.cells _ [.val (.map none)])=>k (H++ [.row KT 3 []]) (.row H.length)
  |_,_=>none
 |_=>none
theorem keys_ok [Dr](hD: ¬Dr.D):HdlOk Tryz.prog 110 keysHdl:=by
 intro X args H k x hx
 unfold keysHdl at hx
 split at hx
 case h_2=>cases hx
 rename_i g c
 split at hx
 case h_3=>cases hx
 ·rename_i T b hg hc
  obtain rfl:=Nat.eq_of_beq_eq_true hg
  split at hx
  case h_2=>cases hx
  rename_i m xs hb
  split at hx
  case h_2=>cases hx
  rename_i hm _
  subst hm
  obtain⟨hlen,hx⟩:=bif_some hx
  have hlen:xs.length≤1099511627776:=Nat.le_of_ble_eq_true hlen
  have hall:=anyOrd_some hx
  intro E σ τ β tm a w us hC hargs
  simp only[RelL,Rel]at hargs
  obtain⟨u,us1,rfl,⟨vs,us2,rfl,rfl,u1,us3,rfl,⟨nb,hβ,rfl⟩,rfl⟩,rfl⟩:=hargs
  obtain⟨n,cs,h1,⟨_,h2⟩,h3⟩:=(show BRel E σ w β (τ c) _ (.cells T [.map b])from hC.look hc hβ)
  cases h1
  simp only[RelL,Rel]at h3
  obtain⟨u,us,rfl,⟨hβb,_⟩,rfl⟩:=h3
  obtain⟨n',es,rfl,hh,_,he⟩:=(show BRel E σ w β (τ b) _ (.map M0 xs)from hC.look hb hβb)
  obtain⟨t0,hP,ht⟩:=conc_fresh hC
  have hfl:=List.length_filterMap_le id xs
  have hml:1099511627776≤maxLen:=by decide
  refine Calls.mono (callsIn_wide.1 (collect_in Fence.wide 8 trivial trivial trivial rfl (by omega) nb n' xs.length es (xs.filterMap id) ?_ ?_ ?_ (Nat.le_trans hfl (Nat.le_trans hlen hml)) (Nat.le_trans (Nat.mul_le_mul_right _ (Nat.le_trans hfl hlen)) (by decide)) w (Array.getElem?_eq_some_iff.1 h2).1 (Array.getElem?_eq_some_iff.1 hh).1 ?_ hh)) ?_
  ·rw[he];exact(ents_fa xs 0).mono fun e p h=>h.1
  ·rw[he];intro e h;have:=(ents_born h).2;omega
  ·rw[he];exact ents_nodup xs 0
  ·simp only[World.cell?,h2];rfl
  ·rintro e w' ⟨v,ss,rfl,hp,ho,_,hb⟩
   let σ':Gh:=fun b=>if b<w.heap.size then σ b else t0
   have hev:EvT (fun t=>t=t0) σ w σ' w':=⟨hb.os,hb.tape,hb.output,fun d=>absurd d hD,hb.size,fun b hbs _=>⟨by simp[σ',hbs],hb.block b hbs⟩⟩
   have hown:Go.Vk.Own KT.kd 3 σ' t0 w' v ss:=by
    refine⟨_,⟨ho.1,ho.2.imp id (fun⟨g,cap,cur,h1,h2,h3⟩=>⟨g,cap,cur,h1,Nat.zero_le _,h3⟩)⟩,fun g hg=> ?_,(reps_flatT rfl ss _).2 rfl⟩
    rcases ho.2 with⟨rfl,_⟩|⟨g',cap,cur,rfl,h2,_⟩
    ·simp[Value.ownBlock]at hg
    ·simp only[Value.ownBlock,Option.some.injEq]at hg
     subst hg
     have: ¬g'<w.heap.size:=by omega
     simp[σ',this]
   obtain⟨p1,p2⟩:=conc_row hC hev hP ht hown
   exact⟨v,σ',rfl,_,_,_,_,hall ss hp,HPres.app H _,⟨_,rfl⟩,hev.mono (fun t h hp=>hP (h▸hp)),p1,p2⟩
 ·rename_i T hg hc
  obtain rfl:=Nat.eq_of_beq_eq_true hg
  intro E σ τ β tm a w us hC hargs
  simp only[RelL,Rel]at hargs
  obtain⟨u,us1,rfl,⟨vs,us2,rfl,rfl,u1,us3,rfl,⟨nb,hβ,rfl⟩,rfl⟩,rfl⟩:=hargs
  obtain⟨n,cs,h1,⟨_,h2⟩,h3⟩:=(show BRel E σ w β (τ c) _ (.cells T [.val (.map none)])from hC.look hc hβ)
  cases h1
  simp only[RelL,Rel]at h3
  obtain⟨u,us,rfl,rfl,rfl⟩:=h3
  obtain⟨t0,hP,ht⟩:=conc_fresh hC
  refine Calls.mono (callsIn_wide.1 (collect_none Fence.wide 8 trivial trivial trivial rfl (by omega) nb w (Array.getElem?_eq_some_iff.1 h2).1 ?_)) ?_
  ·simp only[World.cell?,h2];rfl
  ·rintro e w' ⟨v,ss,rfl,rfl,ho,_,hb⟩
   let σ':Gh:=fun b=>if b<w.heap.size then σ b else t0
   have hev:EvT (fun t=>t=t0) σ w σ' w':=⟨hb.os,hb.tape,hb.output,fun d=>absurd d hD,hb.size,fun b hbs _=>⟨by simp[σ',hbs],hb.block b hbs⟩⟩
   have hown:Go.Vk.Own KT.kd 3 σ' t0 w' v ([]:List KT.Den):=by
    refine⟨_,⟨ho.1,ho.2.imp id (fun⟨g,cap,cur,h1,h2,h3⟩=>⟨g,cap,cur,h1,Nat.zero_le _,h3⟩)⟩,fun g hg=> ?_,(reps_flatT rfl [] _).2 rfl⟩
    rcases ho.2 with⟨rfl,_⟩|⟨g',cap,cur,rfl,h2,_⟩
    ·simp[Value.ownBlock]at hg
    ·simp only[Value.ownBlock,Option.some.injEq]at hg
     subst hg
     have: ¬g'<w.heap.size:=by omega
     simp[σ',this]
   obtain⟨p1,p2⟩:=conc_row hC hev hP ht hown
   exact⟨v,σ',rfl,_,_,_,_,hx,HPres.app H _,⟨_,rfl⟩,hev.mono (fun t h hp=>hP (h▸hp)),p1,p2⟩
end Go.Proofs.YtfcgafnmlkiimaaGreatDoor.Kv152
