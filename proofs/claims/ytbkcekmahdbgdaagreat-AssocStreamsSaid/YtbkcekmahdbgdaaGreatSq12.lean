/- AssocStreams: the engine, contracts and plain laws that its proof leans on, part 12. -/
import Derived.Test.YtbkcekmahdbgdaaGreatSq11
namespace Towline.Ac
open Towline.Hand Towline.Chunk Towline.Store
set_option linter.unusedVariables false
def whM (ms:List Msg) (G:List Nat) (j:Nat):Bool:=(List.range (bk ms j).length).all fun i=>G.contains (st ms j+i)
structure Rcv (base:Int) (ms:List Msg) (a:As) (rd:List Fm) (G dl wl:List Nat):Prop where
 lt:∀k∈G,k<nR ms
 nd:G.Nodup
 got:∃c ks,GotIs base a.g.cum a.g.ab c ks∧∀j,j∈G↔j<c∨j∈ks
 bag:a.bag=(G.filter fun k=>!whM ms G (mi ms k)).map (Qf base ms)
 d:rd++a.inn=dl.map (fmOf base ms)
 w:a.q.w=wl.map (fmOf base ms)
 dnd:(dl++wl).Nodup
 mem:∀j,j∈dl++wl↔j<ms.length∧whM ms G j=true
 wnf:∀j∈wl,(msg ms j).free=false
 nxl:a.q.nx.length=4
 nx:∀s,s<4→∃r:Nat,a.q.nx.getD s default=r∧r≤(Ss ms s).length∧dl.filter (isS ms s)=(Ss ms s).take r∧∀j,(Ss ms s)[r]? = some j→j∉wl
theorem set_idxOf {β:Type} (f:Nat→β) (v:β):∀{ks:List Nat} {y:Nat},ks.Nodup→y∈ks→(ks.map f).set (ks.idxOf y) v=ks.map fun x=>if x=y then v else f x:=by
 intro ks y hn hy
 apply List.ext_getElem
 ·simp
 ·intro i h1 h2
  have hi:i<ks.length:=by simpa using h2
  rw [List.getElem_set,List.getElem_map,List.getElem_map]
  by_cases e:ks[i]=y
  ·rw [if_pos e,if_pos]
   have hlt:=List.idxOf_lt_length_of_mem hy
   have h3:ks[ks.idxOf y]'hlt=y:=List.getElem_idxOf hlt
   exact (List.getElem_inj hn).1 (h3.trans e.symm)
  ·rw [if_neg e,if_neg]
   intro h
   subst h
   exact e (List.getElem_idxOf hi)
theorem getD_idxOf {β:Type} [Inhabited β] (f:Nat→β) {ks:List Nat} {y:Nat} (hy:y∈ks):(ks.map f).getD (ks.idxOf y) default=f y:=by
 have hlt:=List.idxOf_lt_length_of_mem hy
 rw [List.getD_eq_getElem?_getD,List.getElem?_map,List.getElem?_eq_getElem hlt,List.getElem_idxOf hlt];rfl
theorem em_places (Q:Nat→Fp) {ks:List Nat} (hn:ks.Nodup) (A:Nat):∀n,(∀i,i<n→A+i∈ks)→
  Go.Proofs.YtbkcekmahdbgdaaGreat.em (ks.map Q) (placesF ks A n)=ks.map fun x=>if A≤x∧x<A+n then { Q x with text:=[]} else Q x
 |0,_=>by
  show ks.map Q=_
  apply List.map_congr_left
  intro x _
  rw [if_neg (by omega)]
 |n+1,h=>by
  have ih:=em_places Q hn A n fun i hi=>h i (by omega)
  have hy:=h n (by omega)
  rw [placesF_succ]
  unfold Go.Proofs.YtbkcekmahdbgdaaGreat.em at ih ⊢
  rw [List.foldl_append,ih]
  show (ks.map _).set (ks.idxOf (A+n)) _=_
  rw [getD_idxOf _ hy,set_idxOf _ _ hn hy,if_neg (by omega)]
  apply List.map_congr_left
  intro x _
  by_cases e:x=A+n
  ·subst e;rw [if_pos rfl,if_pos (by omega)]
  ·rw [if_neg e]
   by_cases e2:A≤x∧x<A+n
   ·rw [if_pos e2,if_pos (by omega)]
   ·rw [if_neg e2,if_neg (by omega)]
section
variable {base : Int} {ms : List Msg} (H : MsOk 4 ms) {G : List Nat}
include H
theorem wh_part {k:Nat} (hk:k<nR ms) (hkG:k∉G):whM ms G (mi ms k)=false:=by
 cases e:whM ms G (mi ms k) with
 |false=>rfl
 |true=>
  obtain ⟨h1,h2,h3,_⟩:=at_mi H (base:=0) hk
  unfold whM at e
  have:=List.all_eq_true.1 e (k-st ms (mi ms k)) (List.mem_range.2 (by omega))
  rw [show st ms (mi ms k)+(k-st ms (mi ms k))=k from by omega] at this
  exact absurd (List.contains_iff_mem.1 this) hkG
theorem wh_same {k:Nat} {j:Nat} (hj:j<ms.length) (hne:j≠mi ms k):whM ms (G++[k]) j=whM ms G j:=by
 unfold whM
 rw [Bool.eq_iff_iff,List.all_eq_true,List.all_eq_true]
 constructor
 ·intro h i hi
  have hil:=List.mem_range.1 hi
  have:=List.contains_iff_mem.1 (h i hi)
  rcases List.mem_append.1 this with h2|h2
  ·exact List.contains_iff_mem.2 h2
  ·exfalso
   have e:=List.mem_singleton.1 h2
   exact hne (by rw [←e];exact ((mi_at H hj hil).1).symm)
 ·intro h i hi
  exact List.contains_iff_mem.2 (List.mem_append_left _ (List.contains_iff_mem.1 (h i hi)))
omit H in
theorem wh_iff {j:Nat}:whM ms G j=true↔∀x,st ms j≤x→x<st ms j+(bk ms j).length→x∈G:=by
 unfold whM
 rw [List.all_eq_true]
 constructor
 ·intro h x h1 h2
  have:=h (x-st ms j) (List.mem_range.2 (by omega))
  rw [show st ms j+(x-st ms j)=x from by omega] at this
  exact List.contains_iff_mem.1 this
 ·intro h i hi
  exact List.contains_iff_mem.2 (h _ (by omega) (by have:=List.mem_range.1 hi;omega))
theorem in_block {x j:Nat} (hx:x<nR ms) (hj:j<ms.length):(st ms j≤x∧x<st ms j+(bk ms j).length)↔mi ms x=j:=by
 constructor
 ·rintro ⟨h1,h2⟩
  have:=(mi_at H (i:=x-st ms j) hj (by omega)).1
  rwa [show st ms j+(x-st ms j)=x from by omega] at this
 ·rintro rfl
  obtain ⟨h1,h2,h3,_⟩:=at_mi H (base:=0) hx
  exact ⟨h2,h3⟩
theorem Q_text {k:Nat} (hk:k<nR ms):1≤(Qf base ms k).text.length∧(Qf base ms k).text.length≤1000:=by
 obtain ⟨h1,h2,h3,h4⟩:=at_mi H (base:=base) hk
 rw [h4 (by omega)]
 exact (bk_ok H h1).2.txt _ (List.getElem_mem _)
theorem Q_tsn {k:Nat} (hk:k<nR ms):(Qf base ms k).tsn=w32 (base+k):=by
 obtain ⟨h1,h2,h3,h4⟩:=at_mi H (base:=base) hk
 rw [h4 (by omega)];rfl
theorem text_places {ks:List Nat} {j:Nat} (hj:j<ms.length):∀n,n≤(bk ms j).length→(∀i,i<n→st ms j+i∈ks)→
  Go.Proofs.YtbkcekmahdbgdaaGreat.textF (ks.map (Qf base ms)) (placesF ks (st ms j) n)=(((bk ms j).take n).map (·.text)).flatten
 |0,_,_=>by simp [placesF,Go.Proofs.YtbkcekmahdbgdaaGreat.textF]
 |n+1,hn,h=>by
  have ih:=text_places hj n (by omega) fun i hi=>h i (by omega)
  have hy:=h n (by omega)
  unfold Go.Proofs.YtbkcekmahdbgdaaGreat.textF at ih ⊢
  rw [placesF_succ,List.map_append,List.flatten_append,ih,List.take_add_one,List.getElem?_eq_getElem (show n<(bk ms j).length from by omega),List.map_append,List.flatten_append]
  congr 1
  rw [List.map_cons,List.map_nil,List.flatten_singleton,getD_idxOf _ hy,Q_at H hj (by omega)]
  simp [fpP]
theorem whole_places {ks:List Nat} {j:Nat} (hj:j<ms.length) (h:∀i,i<(bk ms j).length→st ms j+i∈ks) :
  Go.Proofs.YtbkcekmahdbgdaaGreat.wholeM (ks.map (Qf base ms)) (placesF ks (st ms j) (bk ms j).length)=fmOf base ms j:=by
 have hp:=bk_pos H hj
 have hb:=(bk_ok H hj).2
 have h0:(placesF ks (st ms j) (bk ms j).length).getD 0 default=ks.idxOf (st ms j+0):=by
  unfold placesF
  rw [List.getD_eq_getElem?_getD,List.getElem?_map,List.getElem?_range hp];rfl
 unfold Go.Proofs.YtbkcekmahdbgdaaGreat.wholeM
 rw [h0,getD_idxOf _ (h 0 hp),Q_at H hj hp,text_places H hj _ (Nat.le_refl _) h,List.take_length,hb.text]
 obtain ⟨k1,k2,k3,k4⟩:=hb.kin _ (List.getElem_mem hp)
 unfold fpP fmOf
 dsimp only
 rw [k1,k2,k3,k4,Nat.add_zero]
theorem fput_law (hn:nR ms≤2147483648) {k:Nat} (hk:k<nR ms) (hkG:k∉G) (hlt:∀x∈G,x<nR ms) (hnd:G.Nodup) :
  (whM ms (G++[k]) (mi ms k)=false∧fputF ((G.filter fun x=>!whM ms G (mi ms x)).map (Qf base ms)) (Qf base ms k)=(((G++[k]).filter fun x=>!whM ms (G++[k]) (mi ms x)).map (Qf base ms),Go.Proofs.YtbkcekmahdbgdaaGreat.fm0,false))∨
  (whM ms (G++[k]) (mi ms k)=true∧fputF ((G.filter fun x=>!whM ms G (mi ms x)).map (Qf base ms)) (Qf base ms k)=(((G++[k]).filter fun x=>!whM ms (G++[k]) (mi ms x)).map (Qf base ms),fmOf base ms (mi ms k),true)):=by
 have M:=msgs_rows (base:=base) H hn
 obtain ⟨hj,ha1,ha2,_⟩:=at_mi H (base:=base) hk
 have hpart:=wh_part H hk hkG
 obtain ⟨ks,hks⟩:∃ks,ks=(G.filter fun x=>!whM ms G (mi ms x))++[k]:=⟨_,rfl⟩
 have hksl:∀x∈ks,x<nR ms:=fun x hx=>by
  rw [hks] at hx
  rcases List.mem_append.1 hx with hx|hx
  ·exact hlt x (List.mem_filter.1 hx).1
  ·rw [List.mem_singleton.1 hx];exact hk
 have hksn:ks.Nodup:=by
  rw [hks,List.nodup_append]
  exact ⟨nodup_filter _ hnd,by simp,fun a ha b hb e=>by rw [List.mem_singleton.1 hb] at e;subst e;exact hkG (List.mem_filter.1 ha).1⟩
 have hrow:=rowF_spec M hksl hksn (p:=k) (by rw [hks];simp)
 have hmem:∀x,mi ms x=mi ms k→x<nR ms→(x∈ks↔x∈G++[k]):=fun x hx hxl=>by
  rw [hks,List.mem_append,List.mem_append,List.mem_filter,hx,hpart];simp
 have hcond:(∀j,st ms (mi ms k)≤j→j<st ms (mi ms k)+(bk ms (mi ms k)).length→j∈ks)↔whM ms (G++[k]) (mi ms k)=true:=by
  rw [wh_iff]
  constructor
  ·intro h x h1 h2
   have hx:x<nR ms:=by have:=(mi_at H (i:=x-st ms (mi ms k)) hj (by omega)).2;omega
   exact (hmem x ((in_block H hx hj).1 ⟨h1,h2⟩) hx).1 (h x h1 h2)
  ·intro h x h1 h2
   have hx:x<nR ms:=by have:=(mi_at H (i:=x-st ms (mi ms k)) hj (by omega)).2;omega
   exact (hmem x ((in_block H hx hj).1 ⟨h1,h2⟩) hx).2 (h x h1 h2)
 have hmap:((G.filter fun x=>!whM ms G (mi ms x)).map (Qf base ms))++[Qf base ms k]=ks.map (Qf base ms):=by rw [hks];simp
 have htx:=Q_text (base:=base) H hk
 have hno:¬((Qf base ms k).text=[]∨(((G.filter fun x=>!whM ms G (mi ms x)).map (Qf base ms)).any fun x=>x.tsn==(Qf base ms k).tsn)=true):=by
  rintro (h|h)
  ·rw [h] at htx;simp at htx
  ·obtain ⟨x,hx,e⟩:=List.any_eq_true.1 h
   obtain ⟨y,hy,rfl⟩:=List.mem_map.1 hx
   have hy:=(List.mem_filter.1 hy).1
   have hyl:=hlt y hy
   have e:=eq_of_beq e
   rw [Q_tsn H hyl,Q_tsn H hk] at e
   have:=w32_inj (base:=base) (by omega) (by omega) e
   subst this
   exact hkG hy
 have hsame:∀x∈G,mi ms x≠mi ms k→whM ms (G++[k]) (mi ms x)=whM ms G (mi ms x):=fun x hx hne=>
  wh_same H (at_mi H (base:=base) (hlt x hx)).1 hne
 unfold fputF
 rw [if_neg hno,hmap,hrow]
 by_cases hc:whM ms (G++[k]) (mi ms k)=true
 ·right
  refine ⟨hc,?_⟩
  have hall:=hcond.2 hc
  rw [if_pos hall]
  dsimp only
  rw [show st ms (mi ms k)+(bk ms (mi ms k)).length-st ms (mi ms k)=(bk ms (mi ms k)).length from by omega]
  rw [whole_places H hj (fun i hi=>hall _ (by omega) (by omega)),em_places _ hksn _ _ (fun i hi=>hall _ (by omega) (by omega))]
  refine Prod.ext ?_ rfl
  dsimp only
  rw [List.filter_map,hks,List.filter_append,List.filter_append,List.filter_filter]
  have e1:List.filter ((fun c=>!Go.Proofs.YtbkcekmahdbgdaaGreat.delT c)∘fun x=>if st ms (mi ms k)≤x∧x<st ms (mi ms k)+(bk ms (mi ms k)).length then { Qf base ms x with text:=[]} else Qf base ms x) [k]=[]:=by
   rw [List.filter_cons,if_neg]
   ·rfl
   ·show ¬(!Go.Proofs.YtbkcekmahdbgdaaGreat.delT (if _ then _ else _))=true
    rw [if_pos ⟨ha1,ha2⟩]
    unfold Go.Proofs.YtbkcekmahdbgdaaGreat.delT;simp
  have e2:List.filter (fun x=>!whM ms (G++[k]) (mi ms x)) [k]=[]:=by rw [List.filter_cons,hc];rfl
  rw [e1,e2,List.append_nil,List.append_nil]
  have e3:(G.filter fun x=>(((fun c=>!Go.Proofs.YtbkcekmahdbgdaaGreat.delT c)∘fun x=>if st ms (mi ms k)≤x∧x<st ms (mi ms k)+(bk ms (mi ms k)).length then { Qf base ms x with text:=[]} else Qf base ms x) x && !whM ms G (mi ms x)))=G.filter fun x=>!whM ms (G++[k]) (mi ms x):=by
   apply List.filter_congr
   intro x hx
   have hxl:=hlt x hx
   show (!Go.Proofs.YtbkcekmahdbgdaaGreat.delT (if _ then _ else _)&&_)=_
   by_cases hm:mi ms x=mi ms k
   ·rw [if_pos ((in_block H hxl hj).2 hm),hm,hc]
    unfold Go.Proofs.YtbkcekmahdbgdaaGreat.delT;simp
   ·rw [if_neg (fun h=>hm ((in_block H hxl hj).1 h)),hsame x hx hm]
    have:=Q_text (base:=base) H hxl
    have:Go.Proofs.YtbkcekmahdbgdaaGreat.delT (Qf base ms x)=false:=by
     unfold Go.Proofs.YtbkcekmahdbgdaaGreat.delT
     rw [beq_eq_false_iff_ne]
     intro e;rw [e] at this;simp at this
    rw [this];simp
  rw [e3]
  apply List.map_congr_left
  intro x hx
  obtain ⟨hx,hw⟩:=List.mem_filter.1 hx
  rw [if_neg]
  intro h
  rw [(in_block H (hlt x hx) hj).1 h,hc] at hw
  simp at hw
 ·left
  have hc':whM ms (G++[k]) (mi ms k)=false:=by simpa using hc
  refine ⟨hc',?_⟩
  rw [if_neg (fun h=>hc (hcond.1 h))]
  dsimp only
  refine Prod.ext ?_ rfl
  dsimp only
  rw [hks,List.filter_append]
  congr 2
  ·apply List.filter_congr
   intro x hx
   by_cases hm:mi ms x=mi ms k
   ·rw [hm,hc',hpart]
   ·rw [hsame x hx hm]
  ·rw [List.filter_cons,hc'];rfl
end
theorem lateO_no {n r:Nat} (h1:r≤n) (h2:n<32768):lateO (n:Int) (r:Int)=false:=by
 unfold lateO
 refine decide_eq_false ?_
 simp only [Go.IntKind.wrap,Go.IntKind.signed,Go.IntKind.bits]
 simp
 omega
theorem nthM_le (ms:List Msg) (j:Nat):nthM ms j≤ms.length:=by
 unfold nthM nth
 split
 ·omega
 ·have h1:=List.length_filter_le (fun x:Msg=>!x.free&&x.stream==(msg ms j).stream) (ms.take j)
  have h2:(ms.take j).length≤ms.length:=by rw [List.length_take];omega
  omega
section
variable {base : Int} {ms : List Msg} (H : MsOk 4 ms) {a : As} {rd : List Fm} {G dl wl : List Nat}
include H
theorem Rcv.put (hn:nR ms≤2147483648) (hfew:ms.length<32768) (h:Rcv base ms a rd G dl wl) {k:Nat} (hk:k<nR ms) (hkG:k∉G) {b:As} (h1:b.bag=a.bag) (h2:b.q=a.q) (h3:b.inn=a.inn)
  (hg:∃c ks,GotIs base b.g.cum b.g.ab c ks∧∀j,j∈G++[k]↔j<c∨j∈ks) {c:Ch} (hc:fpOf c=Qf base ms k):∃dl' wl',Rcv base ms (b.putA c) rd (G++[k]) dl' wl':=by
 have hlt':∀x∈G++[k],x<nR ms:=fun x hx=>by
  rcases List.mem_append.1 hx with hx|hx
  ·exact h.lt x hx
  ·rw [List.mem_singleton.1 hx];exact hk
 have hnd':(G++[k]).Nodup:=by
  rw [List.nodup_append]
  exact ⟨h.nd,by simp,fun x hx y hy e=>by rw [List.mem_singleton.1 hy] at e;subst e;exact hkG hx⟩
 obtain ⟨hj,_,_,_⟩:=at_mi H (base:=base) hk
 have hpart:=wh_part H hk hkG
 unfold As.putA
 rw [hc,h1,h.bag]
 rcases fput_law (base:=base) H hn hk hkG h.lt h.nd with ⟨hw,e⟩|⟨hw,e⟩
 ·rw [e,if_neg (by simp)]
  refine ⟨dl,wl,hlt',hnd',hg,rfl,by rw [←h.d];show rd++b.inn=_;rw [h3],by show b.q.w=_;rw [h2];exact h.w,h.dnd,fun j=>?_,h.wnf,by show b.q.nx.length=4;rw [h2];exact h.nxl,fun s hs=>by show ∃r:Nat,b.q.nx.getD s default=r∧_;rw [h2];exact h.nx s hs⟩
  rw [h.mem j]
  refine and_congr_right fun hjl=>?_
  by_cases hjk:j=mi ms k
  ·rw [hjk,hw,hpart]
  ·rw [wh_same H hjl hjk]
 ·rw [e,if_pos rfl]
  dsimp only
  have hj0:mi ms k∉dl++wl:=fun hm=>by have:=((h.mem _).1 hm).2;rw [hpart] at this;cases this
  have hmem':∀j,(j∈dl++wl∨j=mi ms k)↔j<ms.length∧whM ms (G++[k]) j=true:=fun j=>by
   rw [h.mem j]
   by_cases hjk:j=mi ms k
   ·subst hjk
    exact ⟨fun _=>⟨hj,hw⟩,fun _=>.inr rfl⟩
   ·constructor
    ·rintro (⟨p,q⟩|p)
     ·exact ⟨p,by rw [wh_same H p hjk];exact q⟩
     ·exact absurd p hjk
    ·rintro ⟨p,q⟩
     exact .inl ⟨p,by rw [←wh_same H p hjk];exact q⟩
  have hmsg:msg ms (mi ms k)∈ms:=by unfold msg;rw [List.getD_eq_getElem?_getD,List.getElem?_eq_getElem hj];exact List.getElem_mem hj
  have hst4:(msg ms (mi ms k)).stream<4:=H.st _ hmsg
  generalize hj0e:mi ms k=j0 at *
  rw [h2]
  unfold Qu.put
  rw [if_neg (by rw [h.nxl];show ¬((4:Nat):Int)≤((msg ms j0).stream:Int);omega)]
  cases hf:(fmOf base ms j0).free with
  |true=>
   have hf':(msg ms j0).free=true:=hf
   rw [if_pos rfl]
   dsimp only
   refine ⟨dl++[j0],wl,hlt',hnd',hg,rfl,?_,h.w,?_,fun j=>?_,h.wnf,h.nxl,fun s hs=>?_⟩
   ·show rd++(b.inn++_)=_
    rw [h3,←List.append_assoc,h.d];simp
   ·have hper:((dl++[j0])++wl).Perm (j0::(dl++wl)):=by
     rw [List.append_assoc]
     exact List.perm_middle
    exact hper.nodup_iff.2 (List.nodup_cons.2 ⟨hj0,h.dnd⟩)
   ·rw [←hmem' j];simp only [List.mem_append,List.mem_singleton]
    constructor
    ·rintro ((p|p)|p)
     ·exact .inl (.inl p)
     ·exact .inr p
     ·exact .inl (.inr p)
    ·rintro ((p|p)|p)
     ·exact .inl (.inl p)
     ·exact .inr p
     ·exact .inl (.inr p)
   ·obtain ⟨r,r1,r2,r3,r4⟩:=h.nx s hs
    refine ⟨r,r1,r2,?_,r4⟩
    rw [List.filter_append,r3,List.filter_cons,if_neg (by unfold isS;rw [hf'];simp)];simp
  |false=>
   have hf':(msg ms j0).free=false:=hf
   rw [if_neg (by simp)]
   obtain ⟨s,hs⟩:∃s,s=(msg ms j0).stream:=⟨_,rfl⟩
   have hs4:s<4:=by omega
   have hstr:(fmOf base ms j0).stream=(s:Int):=by show ((msg ms j0).stream:Int)=_;rw [hs]
   have hssn:(fmOf base ms j0).ssn=(nthM ms j0:Int):=rfl
   have his:isS ms s j0=true:=by unfold isS;rw [hf',hs];simp
   obtain ⟨r,r1,r2,r3,r4⟩:=h.nx s hs4
   have hSj:=Ss_get his hj
   have hrn:r≤nthM ms j0:=by
    by_cases hlt:nthM ms j0<r
    ·exfalso
     have:j0∈(Ss ms s).take r:=by
      refine List.mem_of_getElem? (i:=nthM ms j0) ?_
      rw [List.getElem?_take,if_pos hlt];exact hSj
     rw [←r3] at this
     exact hj0 (List.mem_append_left _ (List.mem_filter.1 this).1)
    ·omega
   have hnl:=nthM_le ms j0
   rw [hstr,hssn,tnC,r1,lateO_no hrn (by omega),h.w]
   have hidx:idx (fun x:Fm=>x.stream==(s:Int)&&x.ssn==(nthM ms j0:Int)) (wl.map (fmOf base ms)) = -1:=by
    rcases idx_pos (fun x:Fm=>x.stream==(s:Int)&&x.ssn==(nthM ms j0:Int)) (wl.map (fmOf base ms)) with ⟨e1,_⟩|⟨i,_,e2,e3⟩
    ·exact e1
    ·exfalso
     have hi:i<wl.length:=by simpa using e2
     have hmw:wl[i]∈wl:=List.getElem_mem hi
     rw [List.getElem_map] at e3
     have hwi:=((h.mem _).1 (List.mem_append_right dl hmw)).1
     have:=(fm_match hwi (h.wnf _ hmw)).1 e3
     rw [hSj] at this
     have e4:j0=wl[i]:=by simpa using this
     exact hj0 (List.mem_append_right _ (e4▸hmw))
   rw [hidx,if_neg (by simp)]
   dsimp only
   have hwnd:(wl++[j0]).Nodup:=by
    rw [List.nodup_append]
    exact ⟨(List.nodup_append.1 h.dnd).2.1,by simp,fun x hx y hy e=>by rw [List.mem_singleton.1 hy] at e;subst e;exact hj0 (List.mem_append_right _ hx)⟩
   have hw1:∀j∈wl++[j0],j<ms.length∧(msg ms j).free=false:=fun j hm=>by
    rcases List.mem_append.1 hm with hm|hm
    ·exact ⟨((h.mem j).1 (List.mem_append_right _ hm)).1,h.wnf j hm⟩
    ·rw [List.mem_singleton.1 hm];exact ⟨hj,hf'⟩
   obtain ⟨dl2,wl2,t1,t2,t3,t4⟩:=told_law base ms s hs4 (by omega) ((wl.map (fmOf base ms)).length+1) (wl++[j0]) a.q.nx [] r (by simp) hwnd hw1 h.nxl r1 r2
   rw [show wl.map (fmOf base ms)++[fmOf base ms j0]=(wl++[j0]).map (fmOf base ms) from by simp,t1]
   dsimp only
   have hper:((dl++dl2)++wl2).Perm (j0::(dl++wl)):=by
    rw [List.append_assoc]
    refine (List.Perm.append_left dl t3).trans ?_
    rw [←List.append_assoc]
    exact List.perm_append_comm
   have hdl2:∀j∈dl2,isS ms s j=true:=fun j hm=>by
    rw [t2] at hm
    exact (mem_Ss.1 (List.mem_of_mem_drop (List.mem_of_mem_take hm))).2
   have hwl2:∀j∈wl2,j∈wl++[j0]:=fun j hm=>t3.mem_iff.1 (List.mem_append_right _ hm)
   have hdll:dl2.length≤(Ss ms s).length-r:=by
    have:=congrArg List.length t2
    rw [List.length_take,List.length_drop] at this
    omega
   refine ⟨dl++dl2,wl2,hlt',hnd',hg,rfl,?_,rfl,?_,fun j=>?_,fun j hm=>(hw1 j (hwl2 j hm)).2,by simpa using h.nxl,fun s' hs'=>?_⟩
   ·show rd++(b.inn++([]++_))=_
    rw [h3,←List.append_assoc,h.d];simp
   ·exact hper.nodup_iff.2 (List.nodup_cons.2 ⟨hj0,h.dnd⟩)
   ·rw [←hmem' j,hper.mem_iff,List.mem_cons];exact or_comm
   ·by_cases hss:s'=s
    ·subst hss
     refine ⟨r+dl2.length,?_,by omega,?_,t4⟩
     ·show (a.q.nx.set s' _).getD s' default=_
      rw [List.getD_eq_getElem?_getD,List.getElem?_set_self (by rw [h.nxl];exact hs4)];rfl
     ·rw [List.filter_append,r3,List.filter_eq_self.2 hdl2,List.take_add,←t2]
    ·obtain ⟨r',q1,q2,q3,q4⟩:=h.nx s' hs'
     have hsne:∀j,isS ms s j=true→isS ms s' j=false:=fun j hjs=>by
      unfold isS at hjs ⊢
      have:=(and2 hjs).2
      have e:(msg ms j).stream=s:=by simpa using this
      rw [e]
      have:(s==s')=false:=beq_eq_false_iff_ne.2 fun e=>hss e.symm
      rw [this];simp
     refine ⟨r',?_,q2,?_,fun j hjs hm=>?_⟩
     ·show (a.q.nx.set s _).getD s' default=_
      rw [List.getD_eq_getElem?_getD,List.getElem?_set_ne (fun e=>hss e.symm),←List.getD_eq_getElem?_getD];exact q1
     ·have hne:dl2.filter (isS ms s')=[]:=by
       rw [List.filter_eq_nil_iff]
       intro j hm
       rw [hsne j (hdl2 j hm)];simp
      rw [List.filter_append,q3,hne,List.append_nil]
     ·rcases List.mem_append.1 (hwl2 j hm) with hm|hm
      ·exact q4 j hjs hm
      ·have e:=List.mem_singleton.1 hm
       subst e
       have:=(Ss_nth hjs).2.1
       rw [hsne j his] at this
       cases this
end
end Towline.Ac
namespace Towline.Packet
open Towline Towline.Tlv Towline.Chunk
structure Pk where
 from_:Int
 to_:Int
 tag:Int
 chunks:List Ch
 deriving DecidableEq,Inhabited
def aloneB (k:Int):Bool:=k==1 ||(k==2 ||k==14)
def lastC (l:List Ch):Ch:=l.getD (l.length-1) default
def fitsP (a:List Ch) (c:Ch):Bool:=
 decide (a.length<50)&&(decide (a.length=0) ||(!aloneB c.ty&&(!aloneB (lastC a).ty&&((lastC a).ty != 0 ||c.ty==0))))
end Towline.Packet
namespace Go.Proofs.YtbkcekmahdbgdaaGreat.Pk
open Go Go.RowKit Towline Towline.Tlv Towline.Chunk Towline.Packet Go.Proofs.YtbkcekmahdbgdaaGreat
set_option linter.unusedVariables false
set_option linter.unusedSimpArgs false
set_option maxRecDepth 20000
set_option maxHeartbeats 1000000
theorem getD_end {α:Type} [Inhabited α] (l:List α) (x:α):(l++[x]).getD l.length default=x:=by
 rw [List.getD_eq_getElem?_getD,List.getElem?_append_right (Nat.le_refl _),Nat.sub_self]
 rfl
theorem preB_app (s:List UInt8) (c:Ch):preB s c=s++preB [] c:=by
 unfold preB
 split
 ·simp only [List.append_assoc,List.nil_append]
 ·split
  ·simp only [List.append_assoc,List.nil_append]
  ·split
   ·simp only [List.append_assoc,List.nil_append]
   ·split
    ·simp only [List.nil_append]
    ·simp only [List.append_nil]
theorem valB_app (s:List UInt8) (c:Ch):valB s c=s++valB [] c:=by
 unfold valB
 rw [preB_app s c]
 simp only [List.append_assoc]
theorem build_good {c:Ch} (h:(buildC c).2=0):goodC c=true∧(encC c).length≤1400∧buildC c=(encC c,0):=by
 unfold buildC at h ⊢
 by_cases hg:goodC c=true
 ·rw [if_pos hg] at h ⊢
  by_cases hl:1400<(encC c).length
  ·rw [if_pos hl] at h;cases h
  ·rw [if_neg hl]
   exact ⟨hg,by omega,rfl⟩
 ·rw [if_neg hg] at h;cases h
theorem build_bad {c:Ch} (h:(buildC c).2≠0):(buildC c).1=[]:=by
 unfold buildC at h ⊢
 by_cases hg:goodC c=true
 ·rw [if_pos hg] at h ⊢
  by_cases hl:1400<(encC c).length
  ·rw [if_pos hl]
  ·rw [if_neg hl] at h;exact absurd rfl h
 ·rw [if_neg hg]
theorem enc_parts (c:Ch):encC c=u8 c.ty::u8 c.flags::u8 ((((valB [] c).length+4:Nat):Int).fdiv 256)::u8 (((valB [] c).length+4:Nat):Int)::(valB [] c++List.replicate (padN ((valB [] c).length+4)) 0)∧(encC c).length=(valB [] c).length+4+padN ((valB [] c).length+4):=by
 have hv:valB (headB c) c=headB c++valB [] c:=valB_app _ _
 have hl:(valB (headB c) c).length=(valB [] c).length+4:=by
  rw [hv,List.length_append]
  show 4+_=_
  omega
 refine ⟨?_,by rw [encC_len,hl]⟩
 unfold encC sealB
 rw [hl,hv]
 rfl
theorem size_spec (c:Ch) (h:ChOk c):PSpec Tryz.prog 73 [cA c] (· = tvi (buildC c).1.length):=by
 refine PSpec.run (tysOk) followsB Tryz.func73 (by decide) rfl Tryz.ntmps73 (Nat.le_of_ble_eq_true rfl) rfl fun w0 R0 hGw=>?_
 conv=>whnf
 refine ⟨_,build_spec7 c h,?_⟩
 rintro q rfl
 conv=>whnf
 exact ⟨_,.refl _,rfl,rfl⟩
def sizeC (c:Ch):Nat:=(buildC c).1.length
def allSz (l:List Ch):Nat:=(l.map sizeC).sum
def sizesOk (l:List Ch):Bool:=l.all fun c=>sizeC c != 0
def fitsL (l:List Ch):Bool:=(List.range l.length).all fun i=>fitsP (l.take i) (l.getD i default)
def okPk (p:Pk):Bool:=sizesOk p.chunks&&(p.chunks.length != 0)&&(p.from_ != 0)&&(p.to_ != 0)&&((p.tag==0)==((p.chunks.getD 0 default).ty==1))&&fitsL p.chunks
def shapedP (p:Pk):Int×Bool:=if okPk p=true then (((12+allSz p.chunks:Nat):Int),true) else (0,false)
abbrev pL (p:Pk):List AVal:=[cv16 p.from_,cv16 p.to_,cv32 p.tag,.d (slT 14 encCh p.chunks)]
abbrev pA (p:Pk):AVal:=.agg (pL p)
def encP (p:Pk):List D:=[.i .u16 p.from_,.i .u16 p.to_,.i .u32 p.tag,slT 14 encCh p.chunks]
theorem sizeC_le (c:Ch):sizeC c≤1400:=by
 unfold sizeC
 by_cases he:(buildC c).2=0
 ·obtain ⟨_,h2,h3⟩:=build_good he
  rw [h3];exact h2
 ·rw [build_bad he];simp
theorem alone_spec (k:Int):PSpec Tryz.prog 129 [tvi k] (· = tvb (aloneB k)):=by
 refine PSpec.run (tysOk) followsB Tryz.func129 (by decide) rfl Tryz.ntmps129 (Nat.le_of_ble_eq_true rfl) rfl fun w0 R0 hGw=>?_
 conv=>whnf
 unfold aloneB
 by_cases h1:k=1
 ·subst h1
  conv=>whnf
  exact ⟨_,.refl _,rfl,rfl⟩
 rw [show (k==1)=false from beq_eq_false_iff_ne.2 h1]
 conv=>whnf
 by_cases h2:k=2
 ·subst h2
  conv=>whnf
  exact ⟨_,.refl _,rfl,rfl⟩
 rw [show (k==2)=false from beq_eq_false_iff_ne.2 h2]
 conv=>whnf
 exact ⟨_,.refl _,rfl,rfl⟩
theorem fits8_spec (a:List Ch) (c:Ch) (ha:a.length≤2 ^ 40):PSpec Tryz.prog 74 [.d (slT 14 encCh a),cA c] (· = tvb (fitsP a c)):=by
 refine PSpec.run (tysOk) followsB Tryz.func74 (by decide) rfl Tryz.ntmps74 (Nat.le_of_ble_eq_true rfl) rfl fun w0 R0 hGw=>?_
 conv=>whnf
 by_cases h1:a.length<50
 rotate_left
 ·rw [show decide ((a.length:Int)<50)=false from decide_eq_false (by omega),show fitsP a c=false from by unfold fitsP;rw [decide_eq_false h1];rfl]
  conv=>whnf
  exact ⟨_,.refl _,rfl,rfl⟩
 rw [show decide ((a.length:Int)<50)=true from decide_eq_true (by omega)]
 conv=>whnf
 by_cases h2:a.length=0
 ·rw [show ((a.length:Int)==0)=true from beq_iff_eq.2 (by omega),show fitsP a c=true from by unfold fitsP;rw [decide_eq_true h1,decide_eq_true h2];rfl]
  conv=>whnf
  exact ⟨_,.refl _,rfl,rfl⟩
 rw [show ((a.length:Int)==0)=false from beq_eq_false_iff_ne.2 (by omega)]
 conv=>whnf
 refine ⟨_,alone_spec c.ty,?_⟩
 rintro q rfl
 conv=>whnf
 have hl:Int.toNat ((a.length:Int)-1)=a.length-1:=by omega
 have hf:fitsP a c=(!aloneB c.ty&&(!aloneB (lastC a).ty&&((lastC a).ty != 0 ||c.ty==0))):=by
  unfold fitsP
  rw [decide_eq_true h1,decide_eq_false h2];rfl
 cases hc:aloneB c.ty
 rotate_left
 ·rw [hf,hc]
  conv=>whnf
  exact ⟨_,.refl _,rfl,rfl⟩
 rw [hc] at hf
 conv=>whnf
 refine gO ?_
 conv=>whnf
 refine gO ?_
 conv=>whnf
 rw [hl]
 refine ⟨_,alone_spec (a.getD (a.length-1) default).ty,?_⟩
 rintro q rfl
 conv=>whnf
 cases hd:aloneB (lastC a).ty
 rotate_left
 ·rw [hf,hd,show aloneB (a.getD (a.length-1) default).ty=true from hd]
  conv=>whnf
  exact ⟨_,.refl _,rfl,rfl⟩
 rw [hd] at hf
 rw [show aloneB (a.getD (a.length-1) default).ty=false from hd]
 conv=>whnf
 refine gO ?_
 conv=>whnf
 refine gO ?_
 conv=>whnf
 rw [hl]
 cases he:(lastC a).ty != 0
 rotate_left
 ·rw [hf,he,show ((a.getD (a.length-1) default).ty != 0)=true from he]
  conv=>whnf
  exact ⟨_,.refl _,rfl,rfl⟩
 rw [he] at hf
 rw [hf,show ((a.getD (a.length-1) default).ty != 0)=false from he]
 conv=>whnf
 exact ⟨_,.refl _,rfl,rfl⟩
theorem size_right (c:Ch):(sizeC c != 0)=((buildC c).2==0):=by
 unfold sizeC
 by_cases he:(buildC c).2=0
 ·obtain ⟨_,_,h3⟩:=build_good he
  have:=(enc_parts c).2
  rw [h3]
  simp;intro h;rw [h] at this;simp at this;omega
 ·rw [build_bad he];simp [he]
structure PkOk (p:Pk):Prop where
 from_:p.from_≠0
 to_:p.to_≠0
 pos:0<p.chunks.length
 many:p.chunks.length≤50
 tag:(p.tag==0)=((p.chunks.getD 0 default).ty==1)
 right:∀i,i<p.chunks.length→(buildC (p.chunks.getD i default)).2=0
 alone:1<p.chunks.length→∀i,i<p.chunks.length→aloneB (p.chunks.getD i default).ty=false
 data:∀i j,i<j→j<p.chunks.length→(p.chunks.getD i default).ty=0→(p.chunks.getD j default).ty=0
theorem getD_take {α} [Inhabited α] (l:List α) {i j:Nat} (h:j<i):(l.take i).getD j default=l.getD j default:=by
 rw [List.getD_eq_getElem?_getD,List.getD_eq_getElem?_getD,List.getElem?_take_of_lt h]
theorem fits_take (l:List Ch) (i:Nat) (h:i<l.length):fitsP (l.take i) (l.getD i default)=true↔
  i<50∧(i=0∨(aloneB (l.getD i default).ty=false∧aloneB (l.getD (i-1) default).ty=false∧((l.getD (i-1) default).ty≠0∨(l.getD i default).ty=0))):=by
 have hl:(l.take i).length=i:=by rw [List.length_take];omega
 unfold fitsP lastC
 rw [hl]
 rcases Nat.eq_zero_or_pos i with rfl|hp
 ·simp
 ·rw [getD_take l (show i-1<i from by omega)]
  simp [show ¬i=0 from by omega]
theorem fitsL_iff (l:List Ch):fitsL l=true↔∀i,i<l.length→fitsP (l.take i) (l.getD i default)=true:=by
 unfold fitsL
 rw [List.all_eq_true]
 exact ⟨fun h i hi=>h i (List.mem_range.2 hi),fun h i hi=>h i (List.mem_range.1 hi)⟩
theorem sizesOk_iff (l:List Ch):sizesOk l=true↔∀i,i<l.length→(buildC (l.getD i default)).2=0:=by
 unfold sizesOk
 rw [List.all_eq_true]
 constructor
 ·intro h i hi
  have:=h (l.getD i default) (by rw [List.getD_eq_getElem?_getD,List.getElem?_eq_getElem hi];exact List.getElem_mem hi)
  rw [size_right] at this
  simpa using this
 ·intro h c hc
  obtain ⟨i,hi,rfl⟩:=List.getElem_of_mem hc
  have:=h i hi
  rw [List.getD_eq_getElem?_getD,List.getElem?_eq_getElem hi] at this
  rw [size_right]
  simpa using this
theorem okPk_iff (p:Pk):okPk p=true↔PkOk p:=by
 unfold okPk
 simp only [Bool.and_eq_true,bne_iff_ne,ne_eq,beq_iff_eq,sizesOk_iff,fitsL_iff]
 constructor
 ·rintro ⟨⟨⟨⟨⟨h1,h2⟩,h3⟩,h4⟩,h5⟩,h6⟩
  have hf:∀i,i<p.chunks.length→i<50∧(i=0∨(aloneB (p.chunks.getD i default).ty=false∧aloneB (p.chunks.getD (i-1) default).ty=false∧((p.chunks.getD (i-1) default).ty≠0∨(p.chunks.getD i default).ty=0))):=fun i hi=>(fits_take _ _ hi).1 (h6 i hi)
  refine ⟨h3,h4,by omega,?_,h5,h1,fun hn i hi=>?_,fun i j hij=>?_⟩
  ·have:=(hf (p.chunks.length-1) (by omega)).1
   omega
  ·rcases Nat.eq_zero_or_pos i with rfl|hp
   ·rcases (hf 1 hn).2 with h|h
    ·omega
    ·exact h.2.1
   ·rcases (hf i hi).2 with h|h
    ·omega
    ·exact h.1
  ·induction j with
   |zero=>omega
   |succ j ih=>
    intro hj h0
    have hz:(p.chunks.getD j default).ty=0:=by
     rcases Nat.lt_or_eq_of_le (show i≤j from by omega) with h|rfl
     ·exact ih h (by omega) h0
     ·exact h0
    rcases (hf (j+1) hj).2 with h|h
    ·omega
    ·rcases h.2.2 with h|h
     ·exact (h hz).elim
     ·exact h
 ·intro h
  have hp:=h.pos
  have hm:=h.many
  refine ⟨⟨⟨⟨⟨h.right,by omega⟩,h.from_⟩,h.to_⟩,h.tag⟩,fun i hi=>(fits_take _ _ hi).2 ⟨by omega,?_⟩⟩
  rcases Nat.eq_zero_or_pos i with rfl|hp
  ·exact .inl rfl
  ·refine .inr ⟨h.alone (by omega) i hi,h.alone (by omega) (i-1) (by omega),?_⟩
   by_cases hz:(p.chunks.getD (i-1) default).ty=0
   ·exact .inr (h.data (i-1) i (by omega) hi hz)
   ·exact .inl hz
def lenP (p:Pk):Nat:=12+allSz p.chunks
def encN (n:Nat):List D:=[.i .i64 n]
theorem mem_getD {l:List Ch} {p:Ch→Prop} (h:∀c∈l,p c) {k:Nat} (hk:k<l.length):p (l.getD k default):=by
 rw [List.getD_eq_getElem?_getD,List.getElem?_eq_getElem hk]
 exact h _ (List.getElem_mem hk)
theorem map_getD (l:List Ch) (j:Nat) (hj:j<l.length):(l.map sizeC).getD j default=sizeC (l.getD j default):=by
 rw [List.getD_eq_getElem?_getD,List.getD_eq_getElem?_getD,List.getElem?_map,List.getElem?_eq_getElem hj]
 rfl
abbrev Ssz (l:List Ch) (k:Nat):Env×Heap:=([(8,.d (slT 14 encCh l)),(9,tvi l.length),(10,tvi k),(4,.rsl 1000 1 0 k)],[(1000,.row 3 1 k (fun j=>encN (sizeC (l.getD j default))))])
theorem sizes_yes (l:List Ch) (hk:∀c∈l,ChOk c) (hl:l.length≤2 ^ 30) (h:sizesOk l=true):PSpec Tryz.prog 128 [.d (slT 14 encCh l)] (· = .tup [.d (slT 1 encN (l.map sizeC)),tvb true]):=by
 refine PSpec.run (tysOk) followsB Tryz.func128 (by decide) rfl Tryz.ntmps128 (Nat.le_of_ble_eq_true rfl) rfl fun w0 R0 hGw=>?_
 conv=>whnf
 refine ALoop.adopt 4 1000 1 3 (fun _=>[]) rfl rfl rfl ?_
 refine ALoop.introR tysOk followsB (fun k:{k // k≤l.length}=>Ssz l k.1) (fun k=>l.length-k.1) ⟨0,by omega⟩ ?_ ?_
 ·exact ⟨.refl _,.refl _,.refl _,.refl _,⟨rfl,rfl,rfl,fun _ hj=>by simp at hj⟩,trivial⟩
 rintro ⟨k,hk'⟩
 dsimp only
 conv=>whnf
 split<;>rename_i h1
 ·have hlt:k<l.length:=by simpa using h1
  have hok:=mem_getD hk hlt
  have hz:=(sizesOk_iff l).1 h k hlt
  have hs:=size_right (l.getD k default)
  rw [hz] at hs
  have hne:((buildC (l.getD (Int.toNat k) default)).1.length:Int)≠0:=by
   have:sizeC (l.getD k default)≠0:=by simpa using hs
   unfold sizeC at this
   show ((buildC (l.getD k default)).1.length:Int)≠0
   omega
  conv=>whnf
  refine gO ?_
  conv=>whnf
  refine ⟨_,size_spec (l.getD (Int.toNat k) default) hok,?_⟩
  rintro q rfl
  conv=>whnf
  rw [show (((buildC (l.getD (Int.toNat k) default)).1.length:Int)==0)=false from beq_eq_false_iff_ne.2 hne]
  conv=>whnf
  refine ⟨⟨⟨rfl,by omega,by simp only [ty3];omega⟩,by omega⟩,?_⟩
  conv=>whnf
  conv=>whnf
  refine gO ?_
  conv=>whnf
  refine ⟨⟨k+1,by omega⟩,[(21,1000)],by dsimp only;omega,.refl _,.refl _,.refl _,.refl _,⟨rfl,rfl,rfl,?_⟩,trivial⟩
  intro j hj
  simp only [fcat]
  split
  ·rfl
  ·have:j=k:=by
    have hj:j<k+1:=hj
    omega
   subst this;rw [Nat.sub_self];rfl
 ·have hlt:¬k<l.length:=by simpa using h1
  obtain rfl:k=l.length:=by omega
  conv=>whnf
  try (refine ⟨by omega,?_⟩;conv=>whnf)
  refine ⟨.tup [.d (slT 1 encN (l.map sizeC)),tvb true],.tup ⟨.sl (by simp) fun j hj=>?_,.refl _,trivial⟩,rfl,rfl⟩
  rw [map_getD l j hj]
theorem sizes_no (l:List Ch) (hk:∀c∈l,ChOk c) (hl:l.length≤2 ^ 30) (h:sizesOk l=false):PSpec Tryz.prog 128 [.d (slT 14 encCh l)] (· = .tup [.d (.v (.slice none 0 0)),tvb false]):=by
 refine PSpec.run (tysOk) followsB Tryz.func128 (by decide) rfl Tryz.ntmps128 (Nat.le_of_ble_eq_true rfl) rfl fun w0 R0 hGw=>?_
 conv=>whnf
 refine ALoop.adopt 4 1000 1 3 (fun _=>[]) rfl rfl rfl ?_
 refine ALoop.introR tysOk followsB (fun k:{k // k≤l.length∧∀j,j<k→(buildC (l.getD j default)).2=0}=>Ssz l k.1) (fun k=>l.length-k.1) ⟨0,by omega,fun j hj=>by omega⟩ ?_ ?_
 ·exact ⟨.refl _,.refl _,.refl _,.refl _,⟨rfl,rfl,rfl,fun _ hj=>by simp at hj⟩,trivial⟩
 rintro ⟨k,hk',hj⟩
 dsimp only
 conv=>whnf
 split<;>rename_i h1
 ·have hlt:k<l.length:=by simpa using h1
  have hok:=mem_getD hk hlt
  have hs:=size_right (l.getD k default)
  conv=>whnf
  refine gO ?_
  conv=>whnf
  refine ⟨_,size_spec (l.getD (Int.toNat k) default) hok,?_⟩
  rintro q rfl
  conv=>whnf
  by_cases hz:(buildC (l.getD k default)).2=0
  rotate_left
  ·have hne:((buildC (l.getD (Int.toNat k) default)).1.length:Int)=0:=by
    have h0:((buildC (l.getD k default)).2==0)=false:=beq_eq_false_iff_ne.2 hz
    rw [h0] at hs
    have:sizeC (l.getD k default)=0:=by simpa using hs
    unfold sizeC at this
    show ((buildC (l.getD k default)).1.length:Int)=0
    omega
   rw [show (((buildC (l.getD (Int.toNat k) default)).1.length:Int)==0)=true from beq_iff_eq.2 hne]
   conv=>whnf
   exact ⟨_,.refl _,rfl,rfl⟩
  rw [hz] at hs
  have hne:((buildC (l.getD (Int.toNat k) default)).1.length:Int)≠0:=by
   have:sizeC (l.getD k default)≠0:=by simpa using hs
   unfold sizeC at this
   show ((buildC (l.getD k default)).1.length:Int)≠0
   omega
  rw [show (((buildC (l.getD (Int.toNat k) default)).1.length:Int)==0)=false from beq_eq_false_iff_ne.2 hne]
  conv=>whnf
  refine ⟨⟨⟨rfl,by omega,by simp only [ty3];omega⟩,by omega⟩,?_⟩
  conv=>whnf
  conv=>whnf
  refine gO ?_
  conv=>whnf
  refine ⟨⟨k+1,by omega,fun j hj'=>(Nat.lt_or_eq_of_le (Nat.le_of_lt_succ hj')).elim (hj j) (fun e=>e▸hz)⟩,[(21,1000)],by dsimp only;omega,.refl _,.refl _,.refl _,.refl _,⟨rfl,rfl,rfl,?_⟩,trivial⟩
  intro j hj
  simp only [fcat]
  split
  ·rfl
  ·have:j=k:=by
    have hj:j<k+1:=hj
    omega
   subst this;rw [Nat.sub_self];rfl
 ·have hlt:¬k<l.length:=by simpa using h1
  rw [(sizesOk_iff l).2 fun i hi=>hj i (by omega)] at h
  cases h
theorem all_take (l:List Ch) (k:Nat) (h:k<l.length):allSz (l.take (k+1))=allSz (l.take k)+sizeC (l.getD k default):=by
 unfold allSz
 rw [List.take_add_one,List.map_append,List.sum_append,List.getElem?_eq_getElem h,List.getD_eq_getElem?_getD,List.getElem?_eq_getElem h]
 simp
theorem all_le (l:List Ch):allSz l≤1400*l.length:=by
 induction l with
 |nil=>simp [allSz]
 |cons c l ih=>
  have:=sizeC_le c
  unfold allSz at ih ⊢
  rw [List.map_cons,List.sum_cons,List.length_cons]
  omega
theorem shaped8_spec (p:Pk) (hk:∀c∈p.chunks,ChOk c) (hl:p.chunks.length≤2 ^ 30):PSpec Tryz.prog 72 [pA p] (· = .tup [tvi (shapedP p).1,tvb (shapedP p).2]):=by
 refine PSpec.run (tysOk) followsB Tryz.func72 (by decide) rfl Tryz.ntmps72 (Nat.le_of_ble_eq_true rfl) rfl fun w0 R0 hGw=>?_
 conv=>whnf
 cases hs:sizesOk p.chunks
 ·have hno:okPk p=false:=by unfold okPk;rw [hs];rfl
  refine ⟨_,sizes_no p.chunks hk hl hs,?_⟩
  rintro q rfl
  conv=>whnf
  refine gR ?_
  conv=>whnf
  rw [show shapedP p=(0,false) from by unfold shapedP;rw [if_neg (by rw [hno];simp)]]
  exact ⟨_,.refl _,rfl,rfl⟩
 refine ⟨_,sizes_yes p.chunks hk hl hs,?_⟩
 rintro q rfl
 conv=>whnf
 rw [List.length_map]
 by_cases h1:p.chunks.length=0
 ·have hno:okPk p=false:=by unfold okPk;rw [h1];simp
  rw [show ((p.chunks.length:Int)==0)=true from beq_iff_eq.2 (by omega)]
  conv=>whnf
  refine gR ?_
  conv=>whnf
  rw [show shapedP p=(0,false) from by unfold shapedP;rw [if_neg (by rw [hno];simp)]]
  exact ⟨_,.refl _,rfl,rfl⟩
 rw [show ((p.chunks.length:Int)==0)=false from beq_eq_false_iff_ne.2 (by omega)]
 conv=>whnf
 by_cases h2:p.from_=0
 ·have hno:okPk p=false:=by unfold okPk;rw [h2];simp
  rw [show (p.from_==0)=true from beq_iff_eq.2 h2]
  conv=>whnf
  refine gR ?_
  conv=>whnf
  rw [show shapedP p=(0,false) from by unfold shapedP;rw [if_neg (by rw [hno];simp)]]
  exact ⟨_,.refl _,rfl,rfl⟩
 rw [show (p.from_==0)=false from beq_eq_false_iff_ne.2 h2]
 conv=>whnf
 by_cases h3:p.to_=0
 ·have hno:okPk p=false:=by unfold okPk;rw [h3];simp
  rw [show (p.to_==0)=true from beq_iff_eq.2 h3]
  conv=>whnf
  refine gR ?_
  conv=>whnf
  rw [show shapedP p=(0,false) from by unfold shapedP;rw [if_neg (by rw [hno];simp)]]
  exact ⟨_,.refl _,rfl,rfl⟩
 rw [show (p.to_==0)=false from beq_eq_false_iff_ne.2 h3]
 conv=>whnf
 refine gO ?_
 conv=>whnf
 by_cases h4:(p.tag==0)=((p.chunks.getD 0 default).ty==1)
 rotate_left
 ·have hno:okPk p=false:=by
   cases ho:okPk p with
   |false=>rfl
   |true=>exact (h4 ((okPk_iff p).1 ho).tag).elim
  rw [show ((p.tag==0) != ((p.chunks.getD (Int.toNat 0) default).ty==1))=true from bne_iff_ne.2 h4]
  conv=>whnf
  refine gR ?_
  conv=>whnf
  rw [show shapedP p=(0,false) from by unfold shapedP;rw [if_neg (by rw [hno];simp)]]
  exact ⟨_,.refl _,rfl,rfl⟩
 rw [show ((p.tag==0) != ((p.chunks.getD (Int.toNat 0) default).ty==1))=false from by rw [show (p.tag==0)=((p.chunks.getD (Int.toNat 0) default).ty==1) from h4];simp]
 conv=>whnf
 refine gR ?_
 conv=>whnf
 refine ALoop.introR tysOk followsB (fun k:{k // k≤p.chunks.length∧∀j,j<k→fitsP (p.chunks.take j) (p.chunks.getD j default)=true}=>([(1,.ptr 1 0),(6,tvi ((12+allSz (p.chunks.take k.1):Nat):Int)),(44,.d (.sl 1 p.chunks.length fun k=>encN ((p.chunks.map sizeC).getD k default))),(45,tvi p.chunks.length),(46,tvi k.1)],[(1,.box (pL p) none)])) (fun k=>p.chunks.length-k.1) ⟨0,by omega,fun j hj=>by omega⟩ ?_ ?_
 ·exact ⟨.refl _,.refl _,.refl _,.refl _,.refl _,OLe.refl _,trivial⟩
 rintro ⟨k,hk',hj⟩
 dsimp only
 conv=>whnf
 split<;>rename_i g1
 ·have hlt:k<p.chunks.length:=by simpa using g1
  have hal:=all_le (p.chunks.take k)
  have htl:(p.chunks.take k).length≤k:=by rw [List.length_take];omega
  have hsz:=sizeC_le (p.chunks.getD k default)
  have hcut:(p.chunks.take k).length=k:=by rw [List.length_take];omega
  have hm:=map_getD p.chunks k hlt
  conv=>whnf
  refine gO ?_
  conv=>whnf
  rw [show (p.chunks.map sizeC).getD (Int.toNat k) default=sizeC (p.chunks.getD k default) from hm]
  conv=>whnf
  refine gO ?_
  conv=>whnf
  refine gO ?_
  conv=>whnf
  refine ⟨_,(fits8_spec (p.chunks.take k) (p.chunks.getD (Int.toNat k) default) (by omega)).argsC ⟨.sl (by rw [hcut];rfl) fun j hj=>?_,.refl _,trivial⟩,?_⟩
  ·have hj:j<k:=hj
   rw [getD_take _ hj]
  conv=>whnf
  refine gR ?_
  conv=>whnf
  cases hf:fitsP (p.chunks.take k) (p.chunks.getD k default)
  ·have hno:okPk p=false:=by
    cases ho:okPk p with
    |false=>rfl
    |true=>
     unfold okPk at ho
     simp only [Bool.and_eq_true] at ho
     have:=(fitsL_iff _).1 ho.2 k hlt
     rw [hf] at this;cases this
   rw [show fitsP (p.chunks.take k) (p.chunks.getD (Int.toNat k) default)=false from hf]
   conv=>whnf
   rw [show shapedP p=(0,false) from by unfold shapedP;rw [if_neg (by rw [hno];simp)]]
   exact ⟨_,.refl _,rfl,rfl⟩
  rw [show fitsP (p.chunks.take k) (p.chunks.getD (Int.toNat k) default)=true from hf]
  conv=>whnf
  refine gO ?_
  conv=>whnf
  refine gO ?_
  conv=>whnf
  refine ⟨⟨k+1,by omega,fun j hj'=>(Nat.lt_or_eq_of_le (Nat.le_of_lt_succ hj')).elim (hj j) (fun e=>e▸hf)⟩,[],by dsimp only;omega,.refl _,.of_eq ?_,.refl _,.refl _,.refl _,OLe.refl _,trivial⟩
  dsimp only
  rw [all_take _ k hlt]
  exact congrArg (fun n:Int=>tvi n) (by omega)
 ·have hlt:¬k<p.chunks.length:=by simpa using g1
  obtain rfl:k=p.chunks.length:=by omega
  have hok:okPk p=true:=by
   unfold okPk
   rw [hs,show fitsL p.chunks=true from (fitsL_iff _).2 hj,h4]
   simp [h1,h2,h3]
  rw [List.take_length]
  conv=>whnf
  rw [show shapedP p=(((12+allSz p.chunks:Nat):Int),true) from by unfold shapedP;rw [if_pos hok]]
  exact ⟨_,.refl _,rfl,rfl⟩
theorem shaped_no {p:Pk} (h:okPk p=false):shapedP p=(0,false):=by unfold shapedP;rw [if_neg (by rw [h];simp)]
theorem shaped_yes {p:Pk} (h:okPk p=true):shapedP p=(((lenP p:Nat):Int),true):=by unfold shapedP lenP;rw [if_pos h]
def delB (f t g:Int) (most:Int) (c:Ch):Bool:=!(shapedP ⟨f,t,g,[c]⟩).2 ||decide (most<(shapedP ⟨f,t,g,[c]⟩).1)
def grab (most:Int):List Ch→Nat→List Ch→List Ch×List Ch
 |acc,_,[]=>(acc,[])
 |acc,n,c::r=>if most<((n+sizeC c:Nat):Int)∨fitsP acc c=false then (acc,c::r) else grab most (acc++[c]) (n+sizeC c) r
theorem grab_len (most:Int):∀(l acc:List Ch) (n:Nat),(grab most acc n l).2.length≤l.length
 | [],_,_=>Nat.le_refl _
 |c::r,acc,n=>by
  rw [grab]
  split
  ·exact Nat.le_refl _
  ·have:=grab_len most r (acc++[c]) (n+sizeC c)
   rw [List.length_cons];omega
def packs (f t g:Int) (most:Int):List Ch→List Pk
 | []=>[]
 |c::r=>⟨f,t,g,(grab most [c] (12+sizeC c) r).1⟩::packs f t g most (grab most [c] (12+sizeC c) r).2
termination_by l=>l.length
decreasing_by
 have:=grab_len most r [c] (12+sizeC c)
 rw [List.length_cons];omega
def mostB (most:Int):Int:=max 100 (min most 1500)
def keptL (f t g:Int) (most:Int) (l:List Ch):List Ch:=l.filter fun c=>!delB f t g most c
def bundleL (f t g:Int) (l:List Ch) (most:Int):List Pk:=packs f t g (mostB most) (keptL f t g (mostB most) l)
theorem kept_ok {f t g most:Int} {c:Ch} (h:delB f t g most c=false):PkOk ⟨f,t,g,[c]⟩∧((12+sizeC c:Nat):Int)≤most:=by
 unfold delB at h
 simp only [Bool.or_eq_false_iff,Bool.not_eq_false'] at h
 have ho:okPk ⟨f,t,g,[c]⟩=true:=by
  cases ho:okPk ⟨f,t,g,[c]⟩
  ·rw [shaped_no ho] at h;cases h.1
  ·rfl
 refine ⟨(okPk_iff _).1 ho,?_⟩
 have h2:=of_decide_eq_false h.2
 rw [shaped_yes ho] at h2
 have:lenP ⟨f,t,g,[c]⟩=12+sizeC c:=by simp [lenP,allSz]
 rw [this] at h2
 omega
theorem most_le (most:Int):mostB most≤1500∧100≤mostB most:=by unfold mostB;omega
theorem packs_cons (f t g most:Int) (c:Ch) (r:List Ch):packs f t g most (c::r)=⟨f,t,g,(grab most [c] (12+sizeC c) r).1⟩::packs f t g most (grab most [c] (12+sizeC c) r).2:=by rw [packs]
theorem packs_nil (f t g most:Int):packs f t g most []=[]:=by rw [packs]
abbrev capE (f t g most:Int):List AVal:=[.eptr 1 1 (fun _=>[.i .u16 f]) 0 0,.eptr 1 1 (fun _=>[.i .u16 t]) 0 0,.eptr 1 1 (fun _=>[.i .u32 g]) 0 0,.eptr 1 1 (fun _=>[.i .i64 most]) 0 0]
theorem del1_spec (f t g most:Int) (c:Ch) (hk:ChOk c):PSpec Tryz.prog 71 (cA c::capE f t g most) (· = tvb (delB f t g most c)):=by
 refine PSpec.run (tysOk) followsB Tryz.func71 (by decide) rfl Tryz.ntmps71 (Nat.le_of_ble_eq_true rfl) rfl fun w0 R0 hGw=>?_
 conv=>whnf
 refine ⟨by omega,?_⟩
 conv=>whnf
 refine ⟨_,(shaped8_spec ⟨f,t,g,[c]⟩ (fun d hd=>(List.mem_singleton.1 hd)▸hk) (by simp)).argsC ⟨.agg ⟨.refl _,.refl _,.refl _,.sl rfl fun k hk=>?_,trivial⟩,trivial⟩,?_⟩
 ·have:k=0:=by omega
  subst this;rfl
 rintro q rfl
 unfold delB
 generalize shapedP ⟨f,t,g,[c]⟩=r
 obtain ⟨n,b⟩:=r
 cases b
 ·conv=>whnf
  exact ⟨_,.refl _,rfl,rfl⟩
 ·conv=>whnf
  exact ⟨_,.refl _,rfl,rfl⟩
theorem index8_spec (g:Nat) (caps:List AVal) (hcaps:∃a b c d,caps=capE a b c d) (keep:Ch→Bool) (l:List Ch) (h4:l.length≤2 ^ 40)
  (hk:∀m∈l,PSpec Tryz.prog g (cA m::caps) (· = tvb (keep m))) :
  PSpec Tryz.prog 127 [.d (slT 14 encCh l),.fn g caps] (· = tvi (if l.findIdx keep<l.length then l.findIdx keep else -1)):=by
 obtain ⟨a,b,c,d,rfl⟩:=hcaps
 refine PSpec.run (tysOk) followsB Tryz.func127 (by decide) rfl Tryz.ntmps127 (Nat.le_of_ble_eq_true rfl) rfl fun w0 R0 hGw=>?_
 conv=>whnf
 refine ALoop.introR tysOk followsB (fun k:{k // k≤l.length∧∀j,j<k→keep (l.getD j default)=false}=>([(0,.d (slT 14 encCh l)),(1,.fn g (capE a b c d)),(7,tvi l.length),(8,tvi k.1)],[])) (fun k=>l.length-k.1) ⟨0,by omega,fun j hj=>by omega⟩ ?_ ?_
 ·exact ⟨.refl _,.refl _,.refl _,.refl _,trivial⟩
 ·rintro ⟨k,hk1,hk2⟩
  dsimp only
  conv=>whnf
  split<;>rename_i h1
  ·have hlt:k<l.length:=by simpa using h1
   have hm:l.getD k default∈l:=by
    rw [List.getD_eq_getElem?_getD,List.getElem?_eq_getElem hlt]
    exact List.getElem_mem hlt
   conv=>whnf
   refine gO ?_
   conv=>whnf
   refine ⟨_,hk (l.getD k default) hm,?_⟩
   rintro q rfl
   conv=>whnf
   split<;>rename_i h2
   ·have h2:keep (l.getD k default)=true:=h2
    conv=>whnf
    rw [findIdx_is hlt h2 hk2,if_pos hlt]
    exact ⟨_,.refl _,rfl,rfl⟩
   ·have h2:keep (l.getD k default)=false:=h2
    conv=>whnf
    refine gO ?_
    conv=>whnf
    refine ⟨⟨k+1,by omega,fun j hj=>?_⟩,[],by dsimp only;omega,.refl _,.refl _,.refl _,.refl _,trivial⟩
    rcases Nat.lt_or_eq_of_le (show j≤k from by omega) with h|rfl
    ·exact hk2 j h
    ·exact h2
  ·have hlt:¬k<l.length:=by simpa using h1
   obtain rfl:k=l.length:=by omega
   conv=>whnf
   rw [if_neg (findIdx_no hk2)]
   exact ⟨_,.refl _,rfl,rfl⟩
theorem clone8_spec (l:List Ch) (hl:l.length≤2 ^ 30) :
  PSpec Tryz.prog 70 [.d (slT 14 encCh l)] (· = .fresh 44 14 l.length fun k=>encCh (l.getD k default)):=by
 refine PSpec.runF (tysOk) followsB Tryz.func70 (by decide) rfl Tryz.ntmps70 (Nat.le_of_ble_eq_true rfl) rfl fun w0 R0 hGw=>?_
 conv=>whnf
 intro b hb
 cases b with
 |true=>
  have h0:l.length=0:=by
   rcases Nat.eq_zero_or_pos l.length with h|h
   ·exact h
   ·have:=hb h;cases this
  conv=>whnf
  exact ⟨44,14,_,by rw [h0]⟩
 |false=>
  conv=>whnf
  refine ⟨⟨rfl,by omega,by simp only [ty44];omega⟩,?_⟩
  conv=>whnf
  refine ⟨rfl,rfl,l.length,_,by omega,fun k hk=>?_,rfl⟩
  simp [fcat]
abbrev E2:Nat:=1000000002
abbrev E3:Nat:=1000000003
abbrev E4:Nat:=1000000004
abbrev capH (f t g most:Int):Heap:=[(E1,.box [cv16 f] none),(E2,.box [cv16 t] none),(E3,.box [cv32 g] none),(E4,.box [tvi most] none)]
abbrev capP:List AVal:=[.ptr E1 0,.ptr E2 0,.ptr E3 0,.ptr E4 0]
abbrev rowF (n:Nat) (f:Nat→List D):AObj:=.row 44 14 n f
def keptN (p:Ch→Bool) (l:List Ch) (j:Nat):List Ch:=(l.take j).filter fun c=>!p c
theorem kept_yes {p:Ch→Bool} {l:List Ch} {j:Nat} (h:j<l.length) (hp:p (l.getD j default)=false):keptN p l (j+1)=keptN p l j++[l.getD j default]:=by
 unfold keptN
 rw [List.take_add_one,List.getElem?_eq_getElem h,List.filter_append]
 rw [List.getD_eq_getElem?_getD,List.getElem?_eq_getElem h] at hp ⊢
 simp at hp ⊢
 simp [hp]
theorem kept_no {p:Ch→Bool} {l:List Ch} {j:Nat} (h:j<l.length) (hp:p (l.getD j default)=true):keptN p l (j+1)=keptN p l j:=by
 unfold keptN
 rw [List.take_add_one,List.getElem?_eq_getElem h,List.filter_append]
 rw [List.getD_eq_getElem?_getD,List.getElem?_eq_getElem h] at hp
 simp at hp
 simp [hp]
theorem kept_all {p:Ch→Bool} {l:List Ch} {j:Nat} (h:j≤l.length) (hp:∀k,k<j→p (l.getD k default)=false):keptN p l j=l.take j:=by
 unfold keptN
 rw [List.filter_eq_self]
 intro c hc
 obtain ⟨k,hk,rfl⟩:=List.getElem_of_mem hc
 rw [List.length_take] at hk
 have:=hp k (by omega)
 rw [List.getD_eq_getElem?_getD,List.getElem?_eq_getElem (by omega)] at this
 rw [List.getElem_take]
 simp at this
 simp [this]
theorem kept_len (p:Ch→Bool) (l:List Ch) (j:Nat):(keptN p l j).length≤j:=by
 unfold keptN
 have:=List.length_filter_le (fun c=>!p c) (l.take j)
 have h2:(l.take j).length≤j:=by rw [List.length_take];omega
 omega
theorem take_set_snoc {m:List Ch} {n:Nat} {x:Ch} (h:n<m.length):(m.set n x).take (n+1)=m.take n++[x]:=by
 rw [List.take_add_one,List.getElem?_set_self h,List.take_set_of_le (Nat.le_refl _)]
 rfl
theorem fupd_set (m:List Ch) (n:Nat) (x:Ch) (h:n<m.length) (k:Nat):fupd (fun k=>encCh (m.getD k default)) n (encCh x) k=encCh ((m.set n x).getD k default):=by
 unfold fupd
 split
 ·rename_i e
  subst e
  rw [List.getD_eq_getElem?_getD,List.getElem?_set_self h]
  rfl
 ·rename_i e
  show encCh (m.getD k default)=encCh ((m.set n x).getD k default)
  rw [List.getD_eq_getElem?_getD,List.getD_eq_getElem?_getD,List.getElem?_set_ne (by omega)]
theorem delete8_spec (f t g most:Int) (l:List Ch) (hl:l.length≤2 ^ 30) (hk:∀c∈l,ChOk c) (keep:List Ch) (hkeep:keep=l.filter fun c=>!delB f t g most c) :
  LSpec Tryz.prog 69 [.rsl E0 14 0 l.length,.fn 71 capP] ((E0,rowF l.length fun k=>encCh (l.getD k default))::capH f t g most)
   (fun r hl=>r=.rsl E0 14 0 keep.length∧∃F,(∀k,k<keep.length→F k=encCh (keep.getD k default))∧hl=(E0,rowF l.length F)::capH f t g most):=by
 refine LSpec.run (tysOk) followsB Tryz.func69 (by decide) rfl Tryz.ntmps69 (Nat.le_of_ble_eq_true rfl) rfl rfl fun w0 R0 Lo hGw=>?_
 conv=>whnf
 refine gO ?_
 conv=>whnf
 refine ⟨_,index8_spec 71 (capE f t g most) ⟨_,_,_,_,rfl⟩ (delB f t g most) l (by omega) (fun m hm=>del1_spec f t g most m (hk m hm)),?_⟩
 rintro q rfl
 conv=>whnf
 generalize hp:delB f t g most=p at *
 have hkn:keep=keptN p l l.length:=by rw [hkeep];unfold keptN;rw [List.take_length]
 by_cases hi:l.findIdx p<l.length
 rotate_left
 ·rw [if_neg hi]
  have hall:∀k,k<l.length→p (l.getD k default)=false:=fun k hkk=>by
   have:=List.not_of_lt_findIdx (p:=p) (xs:=l) (i:=k) (by omega)
   rw [List.getD_eq_getElem?_getD,List.getElem?_eq_getElem hkk]
   simpa using this
  have hke:keep=l:=by rw [hkn,kept_all (Nat.le_refl _) hall,List.take_length]
  conv=>whnf
  rw [hke]
  exact ⟨_,(E0,rowF l.length fun k=>encCh (l.getD k default))::capH f t g most,.refl _,⟨OLe.refl _,OLe.refl _,OLe.refl _,OLe.refl _,OLe.refl _,trivial⟩,rfl,_,fun _ _=>rfl,rfl⟩
 rw [if_pos hi]
 obtain ⟨i,hie⟩:∃i,i=l.findIdx p:=⟨_,rfl⟩
 have hpi:p (l.getD i default)=true:=by
  have:=List.findIdx_getElem (w:=hi)
  rw [hie,List.getD_eq_getElem?_getD,List.getElem?_eq_getElem hi]
  exact this
 have hall:∀k,k<i→p (l.getD k default)=false:=fun k hkk=>by
  have:=List.not_of_lt_findIdx (p:=p) (xs:=l) (i:=k) (by omega)
  rw [List.getD_eq_getElem?_getD,List.getElem?_eq_getElem (by omega)]
  simpa using this
 rw [←hie] at hi ⊢
 have hki:keptN p l (i+1)=l.take i:=by rw [kept_no hi hpi,kept_all (by omega) hall]
 rw [show ((i:Int) == -1)=false from beq_eq_false_iff_ne.2 (by omega)]
 conv=>whnf
 refine gO ?_
 conv=>whnf
 refine ALoop.introR tysOk followsB (fun x:{x:Nat×List Ch // x.1≤l.length∧x.2.length=l.length∧(keptN p l x.1).length<x.1∧x.2.take (keptN p l x.1).length=keptN p l x.1∧∀k,x.1≤k→x.2.getD k default=l.getD k default}=>
  ([(0,.rsl E0 14 0 l.length),(1,.fn 71 capP),(5,tvi (keptN p l x.1.1).length),(6,tvi x.1.1)],(E0,rowF l.length fun k=>encCh (x.1.2.getD k default))::capH f t g most)) (fun x=>l.length-x.1.1) ⟨(i+1,l),by dsimp only;omega,rfl,?_,?_,fun k _=>rfl⟩ ?_ ?_
 ·dsimp only
  rw [hki,List.length_take];omega
 ·dsimp only
  rw [hki,List.length_take,Nat.min_eq_left (by omega)]
 ·refine ⟨.refl _,.refl _,.of_eq ?_,.refl _,OLe.refl _,OLe.refl _,OLe.refl _,OLe.refl _,OLe.refl _,trivial⟩
  dsimp only
  rw [hki,List.length_take,Nat.min_eq_left (by omega)]
 rintro ⟨⟨j,m⟩,i1,i2,i3,i4,i5⟩
 dsimp only at i1 i2 i3 i4 i5 ⊢
 conv=>whnf
 split<;>rename_i h1
 ·have hlt:j<l.length:=by simpa using h1
  have hm:l.getD j default∈l:=by
   rw [List.getD_eq_getElem?_getD,List.getElem?_eq_getElem hlt]
   exact List.getElem_mem hlt
  have hd:=del1_spec f t g most (m.getD (Int.toNat j) default) (by rw [show m.getD (Int.toNat j) default=l.getD j default from i5 j (Nat.le_refl _)];exact hk _ hm)
  rw [hp,show m.getD (Int.toNat j) default=l.getD j default from i5 j (Nat.le_refl _)] at hd
  conv=>whnf
  refine gO ?_
  conv=>whnf
  refine gO ?_
  conv=>whnf
  rw [show m.getD (0+Int.toNat j) default=l.getD j default from by rw [Nat.zero_add];exact i5 j (Nat.le_refl _)]
  refine ⟨_,hd,?_⟩
  rintro q rfl
  conv=>whnf
  cases hpj:p (l.getD j default)
  ·have hkj:=kept_yes hlt hpj
   have hlj:(keptN p l (j+1)).length=(keptN p l j).length+1:=by rw [hkj,List.length_append];rfl
   have hkl:=kept_len p l (j+1)
   conv=>whnf
   refine gO ?_
   conv=>whnf
   refine gO ?_
   conv=>whnf
   refine gO ?_
   conv=>whnf
   refine gO ?_
   conv=>whnf
   refine ⟨⟨(j+1,m.set (keptN p l j).length (l.getD j default)),?_,?_,?_,?_,fun k hk'=>?_⟩,[],?_,.refl _,.refl _,.of_eq ?_,.refl _,⟨rfl,rfl,rfl,fun k hk'=>?_⟩,OLe.refl _,OLe.refl _,OLe.refl _,OLe.refl _,trivial⟩
   ·dsimp only;omega
   ·dsimp only;rw [List.length_set,i2]
   ·dsimp only;omega
   ·dsimp only
    rw [hlj,take_set_snoc (by omega),i4,hkj]
   ·dsimp only at hk' ⊢
    rw [List.getD_eq_getElem?_getD,List.getElem?_set_ne (by omega),←List.getD_eq_getElem?_getD]
    exact i5 k (by omega)
   ·dsimp only;omega
   ·dsimp only
    rw [hlj];rfl
   ·have hfu:=fupd_set m (keptN p l j).length (l.getD j default) (by omega) k
    rw [show 0+Int.toNat ((keptN p l j).length:Int)=(keptN p l j).length from by omega]
    exact hfu
  ·have hkj:=kept_no hlt hpj
   conv=>whnf
   refine gO ?_
   conv=>whnf
   refine ⟨⟨(j+1,m),by dsimp only;omega,i2,by dsimp only;rw [hkj];omega,by dsimp only;rw [hkj];exact i4,fun k hk'=>i5 k (by dsimp only at hk';omega)⟩,[],by dsimp only;omega,.refl _,.refl _,.of_eq (by dsimp only;rw [hkj]),.refl _,OLe.refl _,OLe.refl _,OLe.refl _,OLe.refl _,OLe.refl _,trivial⟩
 ·have hlt:¬j<l.length:=by simpa using h1
  obtain rfl:j=l.length:=by omega
  rw [←hkn] at i3 i4 ⊢
  obtain ⟨q,hq⟩:∃q,q=keep.length:=⟨_,rfl⟩
  rw [←hq] at i3 i4 ⊢
  have hF:∀k,k<q→encCh (m.getD k default)=encCh (keep.getD k default):=fun k hk'=>by
   rw [←i4,getD_take _ hk']
  cases q with
  |zero=>
   conv=>whnf
   refine gO ?_
   conv=>whnf
   refine gO ?_
   conv=>whnf
   refine gO ?_
   conv=>whnf
   exact ⟨_,(E0,.row 44 14 l.length _)::capH f t g most,.refl _,⟨OLe.refl _,OLe.refl _,OLe.refl _,OLe.refl _,OLe.refl _,trivial⟩,rfl,_,fun k hk'=>by omega,rfl⟩
  |succ q=>
   conv=>whnf
   refine gO ?_
   conv=>whnf
   refine gO ?_
   conv=>whnf
   refine gO ?_
   conv=>whnf
   refine ⟨_,(E0,.row 44 14 l.length _)::capH f t g most,.refl _,⟨OLe.refl _,OLe.refl _,OLe.refl _,OLe.refl _,OLe.refl _,trivial⟩,rfl,_,fun k hk'=>?_,rfl⟩
   dsimp only
   rw [if_neg (by omega)]
   exact hF k (by omega)
abbrev buT:Tys:=tysX false [] [(69,[])] []
abbrev buTOk:TysOk Tryz.prog buT:=tysXOk _ _ _ _
theorem snoc_row (out:List Pk) (p:Pk) (g:Nat→List D) (hg:g 0=encP p) (j:Nat) (hj:j<out.length+1):fcat (fun k=>encP (out.getD k default)) out.length g j=encP ((out++[p]).getD j default):=by
 simp only [fcat]
 split
 ·rename_i h
  rw [List.getD_eq_getElem?_getD,List.getD_eq_getElem?_getD,List.getElem?_append_left h]
 ·have:j=out.length:=by omega
  subst this
  rw [Nat.sub_self,getD_end]
  exact hg
theorem encP_take (f t g:Int) (l:List Ch) (i:Nat) (h:(l.take i).length=i):[D.i .u16 f,.i .u16 t,.i .u32 g,.sl 14 i (fun k=>encCh ((l.take i).getD k default))]=encP ⟨f,t,g,l.take i⟩:=by
 unfold encP slT
 dsimp only
 rw [h]
theorem bundle8_spec (f t g most:Int) (l:List Ch) (hk:∀c∈l,ChOk c) (hl:l.length≤2 ^ 20):PSpec Tryz.prog 30 [cv16 f,cv16 t,cv32 g,.d (slT 14 encCh l),tvi most] (· = .d (slT 4 encP (bundleL f t g l most))):=by
 refine PSpec.runS (buTOk) followsB Tryz.func30 (by decide) rfl Tryz.ntmps30 (Nat.le_of_ble_eq_true rfl) rfl fun w0 R0 hGw=>?_
 conv=>whnf
 refine ⟨_,clone8_spec l (by omega),?_⟩
 rintro q rfl
 conv=>whnf
 refine ⟨_,delete8_spec f t g (mostB most) l (by omega) hk (keptL f t g (mostB most) l) rfl,?_⟩
 rintro q hq ⟨rfl,F,hF,rfl⟩
 conv=>whnf
 refine ALoop.frz 11 ?_
 conv=>whnf
 have hkl:(keptL f t g (mostB most) l).length≤l.length:=List.length_filter_le _ _
 refine ⟨by omega,?_⟩
 conv=>whnf
 have hM:=most_le most
 have hbu:bundleL f t g l most=packs f t g (mostB most) (keptL f t g (mostB most) l):=rfl
 have hkk:∀c∈keptL f t g (mostB most) l,delB f t g (mostB most) c=false∧ChOk c:=fun c hc=>⟨by simpa using (List.mem_filter.1 hc).2,hk c (List.mem_filter.1 hc).1⟩
 generalize bundleL f t g l most=bu at *
 generalize keptL f t g (mostB most) l=kept at *
 rw [show max 100 (min most 1500)=mostB most from rfl]
 generalize mostB most=M at *
 refine ALoop.adopt 12 2000 4 89 (fun _=>[]) rfl rfl rfl ?_
 refine ALoop.introS buTOk followsB (fun x:{x:List Pk×List Ch // bu=x.1++packs f t g M x.2∧(∀c∈x.2,delB f t g M c=false∧ChOk c)∧x.1.length+x.2.length≤l.length}=>
  ([(5,.ptr 5 0),(6,.ptr 6 0),(7,.ptr 7 0),(9,.ptr 9 0),(11,.d (slT 14 encCh x.1.2)),(12,.rsl 2000 4 0 x.1.1.length)],[(5,.box [cv16 f] none),(6,.box [cv16 t] none),(7,.box [cv32 g] none),(9,.box [tvi M] none),(2000,.row 89 4 x.1.1.length (fun k=>encP (x.1.1.getD k default)))])) (fun x=>x.1.2.length) ⟨([],kept),hbu,hkk,by simp;omega⟩ ?_ ?_
 ·exact ⟨.refl _,.refl _,.refl _,.refl _,.sl rfl hF,.refl _,OLe.refl _,OLe.refl _,OLe.refl _,OLe.refl _,⟨rfl,rfl,rfl,fun _ hj=>by simp at hj⟩,trivial⟩
 rintro ⟨⟨out,left⟩,i1,i2,i3⟩
 dsimp only at i1 i2 i3 ⊢
 conv=>whnf
 rcases left with _|⟨c,r⟩
 ·refine AGo.go buTOk followsB ?_
  rw [packs_nil,List.append_nil] at i1
  subst i1
  conv=>whnf
  refine gO ?_
  conv=>whnf
  exact ⟨_,.refl _,rfl,rfl⟩
 rw [show decide ((0:Int)<((c::r).length:Int))=true from decide_eq_true (by simp)]
 obtain ⟨k1,k2⟩:=kept_ok (i2 c (by simp)).1
 obtain ⟨left,hle⟩:∃left,left=c::r:=⟨_,rfl⟩
 have hl0:0<left.length:=by rw [hle];simp
 have hg0:left.getD 0 default=c:=by rw [hle];rfl
 have hgr:grab M [c] (12+sizeC c) r=grab M (left.take 1) (12+allSz (left.take 1)) (left.drop 1):=by rw [hle];simp [allSz]
 rw [packs_cons] at i1
 rw [←hle] at i2 i3 ⊢
 refine AGo.go buTOk followsB ?_
 conv=>whnf
 refine ALoop.adoptCell 13 3 3000 14 44 (fun _=>[]) rfl rfl rfl rfl rfl ?_
 refine ALoop.introS buTOk followsB (fun i:{i // i≤left.length∧(0<i→grab M [c] (12+sizeC c) r=grab M (left.take i) (12+allSz (left.take i)) (left.drop i))∧((12+allSz (left.take i):Nat):Int)≤M}=>
  ([(5,.ptr 5 0),(6,.ptr 6 0),(7,.ptr 7 0),(9,.ptr 9 0),(11,.d (slT 14 encCh left)),(12,.rsl 2000 4 0 out.length),(13,.ptr 13 0),(14,tvi ((12+allSz (left.take i.1):Nat):Int)),(31,.d (slT 14 encCh left)),(32,tvi left.length),(33,tvi i.1)],
   [(5,.box [cv16 f] none),(6,.box [cv16 t] none),(7,.box [cv32 g] none),(9,.box [tvi M] none),(2000,.row 89 4 out.length (fun k=>encP (out.getD k default))),(13,.box [cv16 f,cv16 t,cv32 g,.rsl 3000 14 0 i.1] none),(3000,.row 44 14 i.1 (fun k=>encCh ((left.take i.1).getD k default)))])) (fun i=>left.length-i.1) ⟨0,by omega,fun h=>by omega,by rw [List.take_zero];simp [allSz];omega⟩ ?_ ?_
 ·exact ⟨.refl _,.refl _,.refl _,.refl _,.refl _,.refl _,.refl _,.refl _,.refl _,.refl _,.refl _,OLe.refl _,OLe.refl _,OLe.refl _,OLe.refl _,OLe.refl _,⟨⟨.refl _,.refl _,.refl _,.refl _,trivial⟩,⟨rfl,rfl,rfl,fun _ hj=>by simp at hj⟩,trivial⟩⟩
 rintro ⟨i,j1,j2,j3⟩
 dsimp only at j1 j2 j3 ⊢
 conv=>whnf
 by_cases hi:i<left.length
 rotate_left
 ·obtain rfl:i=left.length:=by omega
  rw [show decide ((left.length:Int)<(left.length:Int))=false from decide_eq_false (by omega)]
  refine AGo.pub 13 3 3000 rfl rfl rfl (Nat.le_refl _) rfl rfl ?_
  refine AGo.go buTOk followsB ?_
  conv=>whnf
  refine ⟨⟨⟨rfl,by omega,by simp only [ty89];omega⟩,by omega⟩,?_⟩
  conv=>whnf
  conv=>whnf
  refine gO ?_
  conv=>whnf
  have hgl:=j2 hl0
  rw [List.drop_length,show ∀a n,grab M a n []=(a,[]) from fun a n=>by rw [grab]] at hgl
  rw [hgl,packs_nil] at i1
  subst i1
  refine ⟨.d (slT 4 encP (out++[⟨f,t,g,left.take left.length⟩])),.sl (by simp) fun j hj=>?_,rfl,rfl⟩
  exact snoc_row out _ _ (encP_take f t g left left.length (by rw [List.take_length])) j hj
 rw [show decide ((i:Int)<(left.length:Int))=true from decide_eq_true (by omega)]
 refine AGo.go buTOk followsB ?_
 have hok:=(i2 _ (show left.getD i default∈left from by rw [List.getD_eq_getElem?_getD,List.getElem?_eq_getElem hi];exact List.getElem_mem hi)).2
 have hcut:(left.take i).length=i:=by rw [List.length_take];omega
 have hsz:=sizeC_le (left.getD i default)
 have hnx:=all_take left i hi
 have hdr:left.drop i=left.getD i default::left.drop (i+1):=by
  rw [List.drop_eq_getElem_cons hi,List.getD_eq_getElem?_getD,List.getElem?_eq_getElem hi];rfl
 have hstep:0<i→(M<((12+allSz (left.take i)+sizeC (left.getD i default):Nat):Int)∨fitsP (left.take i) (left.getD i default)=false)→(grab M [c] (12+sizeC c) r)=(left.take i,left.drop i):=by
  intro h0 h1
  rw [j2 h0,hdr,grab,if_pos h1]
 have hgo:¬(M<((12+allSz (left.take i)+sizeC (left.getD i default):Nat):Int)∨fitsP (left.take i) (left.getD i default)=false)→grab M [c] (12+sizeC c) r=grab M (left.take (i+1)) (12+allSz (left.take (i+1))) (left.drop (i+1)):=by
  intro h1
  rcases Nat.eq_zero_or_pos i with rfl|h0
  ·exact hgr
  ·rw [j2 h0,hdr,grab,if_neg h1,hnx,Nat.add_assoc]
   congr 1
   rw [List.take_add_one,List.getElem?_eq_getElem hi,List.getD_eq_getElem?_getD,List.getElem?_eq_getElem hi];rfl
 have hzero:i=0→¬(M<((12+allSz (left.take i)+sizeC (left.getD i default):Nat):Int)∨fitsP (left.take i) (left.getD i default)=false):=by
  rintro rfl h
  rw [hg0] at h
  rcases h with h|h
  ·have:allSz (left.take 0)=0:=rfl
   omega
  ·cases h
 have hsp:=size_spec (left.getD (Int.toNat i) default) hok
 conv=>whnf
 refine gO ?_
 conv=>whnf
 refine ⟨_,hsp,?_⟩
 rintro q rfl
 conv=>whnf
 rw [show ((buildC (left.getD (Int.toNat i) default)).1.length:Int)=((sizeC (left.getD i default):Nat):Int) from rfl]
 refine gO ?_
 conv=>whnf
 by_cases hm:M<((12+allSz (left.take i)+sizeC (left.getD i default):Nat):Int)
 ·have hov:M<((12+allSz (left.take i)+sizeC (left.getD i default):Nat):Int)∨fitsP (left.take i) (left.getD i default)=false:=.inl hm
  rw [show decide (M<((12+allSz (left.take i):Nat):Int)+((sizeC (left.getD i default):Nat):Int))=true from decide_eq_true (by omega)]
  conv=>whnf
  have h0:0<i:=Nat.pos_of_ne_zero fun h=>hzero h hov
  have hgl:=hstep h0 hov
  rw [hgl] at i1
  obtain ⟨i,rfl⟩:∃q,i=q+1:=⟨i-1,by omega⟩
  refine AGo.pub 13 3 3000 rfl rfl rfl (Nat.le_refl _) rfl rfl ?_
  refine AGo.go buTOk followsB ?_
  conv=>whnf
  refine ⟨⟨⟨rfl,by omega,by simp only [ty89];omega⟩,by omega⟩,?_⟩
  conv=>whnf
  conv=>whnf
  refine gO ?_
  conv=>whnf
  refine gR ?_
  conv=>whnf
  refine ⟨⟨(out++[⟨f,t,g,left.take (i+1)⟩],left.drop (i+1)),?_,fun d hd=>i2 d (List.mem_of_mem_drop hd),?_⟩,[(55,2000)],?_,.refl _,.refl _,.refl _,.refl _,.sl ?_ fun k hk=>?_,.of_eq (by rw [List.length_append];rfl),OLe.refl _,OLe.refl _,OLe.refl _,OLe.refl _,⟨rfl,rfl,by simp,fun j hj=>snoc_row out _ _ (encP_take f t g left (i+1) hcut) j hj⟩,trivial⟩
  ·rw [i1,List.append_assoc];rfl
  ·dsimp only
   rw [List.length_append,List.length_drop]
   simp only [List.length_cons,List.length_nil]
   omega
  ·dsimp only
   rw [List.length_drop]
   omega
  ·rw [List.length_drop];rfl
  ·dsimp only
   rw [List.getD_eq_getElem?_getD,List.getD_eq_getElem?_getD,List.getElem?_drop]
   rfl
 rw [show decide (M<((12+allSz (left.take i):Nat):Int)+((sizeC (left.getD i default):Nat):Int))=false from decide_eq_false (by omega)]
 conv=>whnf
 refine gO ?_
 conv=>whnf
 refine ⟨_,(fits8_spec (left.take i) (left.getD (Int.toNat i) default) (by omega)).argsC ⟨.sl hcut.symm fun j hj=>rfl,.refl _,trivial⟩,?_⟩
 rintro q rfl
 cases hf:fitsP (left.take i) (left.getD i default)
 ·have hov:M<((12+allSz (left.take i)+sizeC (left.getD i default):Nat):Int)∨fitsP (left.take i) (left.getD i default)=false:=.inr hf
  rw [show fitsP (left.take i) (left.getD (Int.toNat i) default)=false from hf]
  conv=>whnf
  have h0:0<i:=Nat.pos_of_ne_zero fun h=>hzero h hov
  have hgl:=hstep h0 hov
  rw [hgl] at i1
  obtain ⟨i,rfl⟩:∃q,i=q+1:=⟨i-1,by omega⟩
  refine AGo.pub 13 3 3000 rfl rfl rfl (Nat.le_refl _) rfl rfl ?_
  refine AGo.go buTOk followsB ?_
  conv=>whnf
  refine ⟨⟨⟨rfl,by omega,by simp only [ty89];omega⟩,by omega⟩,?_⟩
  conv=>whnf
  conv=>whnf
  refine gO ?_
  conv=>whnf
  refine gR ?_
  conv=>whnf
  refine ⟨⟨(out++[⟨f,t,g,left.take (i+1)⟩],left.drop (i+1)),?_,fun d hd=>i2 d (List.mem_of_mem_drop hd),?_⟩,[(55,2000)],?_,.refl _,.refl _,.refl _,.refl _,.sl ?_ fun k hk=>?_,.of_eq (by rw [List.length_append];rfl),OLe.refl _,OLe.refl _,OLe.refl _,OLe.refl _,⟨rfl,rfl,by simp,fun j hj=>snoc_row out _ _ (encP_take f t g left (i+1) hcut) j hj⟩,trivial⟩
  ·rw [i1,List.append_assoc];rfl
  ·dsimp only
   rw [List.length_append,List.length_drop]
   simp only [List.length_cons,List.length_nil]
   omega
  ·dsimp only
   rw [List.length_drop]
   omega
  ·rw [List.length_drop];rfl
  ·dsimp only
   rw [List.getD_eq_getElem?_getD,List.getD_eq_getElem?_getD,List.getElem?_drop]
   rfl
 rw [show fitsP (left.take i) (left.getD (Int.toNat i) default)=true from hf]
 conv=>whnf
 refine AGo.go buTOk followsB ?_
 conv=>whnf
 refine ⟨⟨⟨rfl,by omega,by simp only [ty44];omega⟩,by omega⟩,?_⟩
 conv=>whnf
 conv=>whnf
 refine gO ?_
 conv=>whnf
 have hno:¬(M<((12+allSz (left.take i)+sizeC (left.getD i default):Nat):Int)∨fitsP (left.take i) (left.getD i default)=false):=by
  rintro (h|h)
  ·exact hm h
  ·rw [hf] at h;cases h
 refine ⟨⟨i+1,by omega,fun _=>hgo hno,by rw [hnx];omega⟩,[(63,3000)],by dsimp only;omega,.refl _,.refl _,.refl _,.refl _,.refl _,.refl _,.refl _,.of_eq ?_,.refl _,.refl _,.refl _,OLe.refl _,OLe.refl _,OLe.refl _,OLe.refl _,OLe.refl _,⟨.refl _,.refl _,.refl _,.refl _,trivial⟩,⟨rfl,rfl,rfl,fun j hj=>?_⟩,trivial⟩
 ·dsimp only
  rw [hnx]
  exact congrArg (fun n:Int=>tvi n) (by omega)
 ·have hj:j<i+1:=hj
  simp only [fcat]
  rw [getD_take _ hj]
  split
  ·rename_i h
   rw [getD_take _ h]
  ·have:j=i:=by omega
   subst this
   rw [Nat.sub_self]
   rfl
end Go.Proofs.YtbkcekmahdbgdaaGreat.Pk
namespace Towline.Ac
open Towline.Hand Towline.Chunk Towline.Store
def flat (R:List (Int×List Ch)):List (Int×Ch):=R.flatMap fun x=>x.2.map fun c=>(x.1,c)
theorem flat_take (R:List (Int×List Ch)) (k:Nat) (h:k<R.length):flat (R.take (k+1))=flat (R.take k)++(R.getD k default).2.map fun c=>((R.getD k default).1,c):=by
 have e:R.getD k default=R[k]:=by rw [List.getD_eq_getElem?_getD,List.getElem?_eq_getElem h];rfl
 unfold flat
 rw [List.take_succ_eq_append_getElem h,List.flatMap_append,e]
 simp
theorem flat_len (B:Nat):∀(R:List (Int×List Ch)),(∀x∈R,x.2.length≤B)→(flat R).length≤R.length*B
 | [],_=>by simp [flat]
 |x::R,h=>by
  have ih:=flat_len B R fun y hy=>h y (by simp [hy])
  have h1:=h x (by simp)
  unfold flat at ih ⊢
  rw [List.flatMap_cons,List.length_append,List.length_map,List.length_cons,Nat.add_mul]
  omega
namespace Pr
def flushA (p:Pr) (i:Nat):Pr:={ p with a:=(p.a.flush i p.now).1,wa:=p.wa++flat (p.a.flush i p.now).2}
end Pr
end Towline.Ac
namespace Go.Proofs.YtbkcekmahdbgdaaGreat.Pk
open Go Go.RowKit Towline Towline.Tlv Towline.Chunk Towline.Packet Go.Proofs.YtbkcekmahdbgdaaGreat
def lensP (l:List Pk):Nat:=(l.map fun p=>p.chunks.length).sum
theorem lens_take (l:List Pk) (k:Nat) (h:k<l.length):lensP (l.take (k+1))=lensP (l.take k)+(l.getD k default).chunks.length:=by
 have e:l.getD k default=l[k]:=by rw [List.getD_eq_getElem?_getD,List.getElem?_eq_getElem h];rfl
 unfold lensP
 rw [List.take_succ_eq_append_getElem h,e,List.map_append,List.sum_append]
 rfl
theorem lens_le (l:List Pk) (k:Nat):lensP (l.take k)≤lensP l:=by
 have h:lensP l=lensP (l.take k)+lensP (l.drop k):=by
  conv=>lhs;rw [←List.take_append_drop k l]
  unfold lensP
  rw [List.map_append,List.sum_append]
 omega
theorem grab_lens (most:Int):∀(l acc:List Ch) (n:Nat),(grab most acc n l).1.length+(grab most acc n l).2.length=acc.length+l.length
 | [],acc,n=>rfl
 |c::r,acc,n=>by
  rw [grab]
  split
  ·rfl
  ·rw [grab_lens most r];simp;omega
theorem packs_lens (f t g most:Int):∀(n:Nat) (l:List Ch),l.length≤n→lensP (packs f t g most l)=l.length
 |0,l,h=>by rw [List.length_eq_zero_iff.1 (show l.length=0 by omega),packs_nil];rfl
 |n+1,[],h=>by rw [packs_nil];rfl
 |n+1,c::r,h=>by
  rw [packs_cons]
  have h1:=grab_lens most r [c] (12+sizeC c)
  have h2:=grab_len most r [c] (12+sizeC c)
  have ih:=packs_lens f t g most n (grab most [c] (12+sizeC c) r).2 (by simp at h;omega)
  unfold lensP at ih ⊢
  simp only [List.map_cons,List.sum_cons,ih]
  simp at h1 ⊢
  omega
theorem packs_len (f t g most:Int):∀(n:Nat) (l:List Ch),l.length≤n→(packs f t g most l).length≤l.length
 |0,l,h=>by rw [List.length_eq_zero_iff.1 (show l.length=0 by omega),packs_nil];exact Nat.le_refl _
 |n+1,[],h=>by rw [packs_nil];exact Nat.le_refl _
 |n+1,c::r,h=>by
  rw [packs_cons]
  have h2:=grab_len most r [c] (12+sizeC c)
  have ih:=packs_len f t g most n (grab most [c] (12+sizeC c) r).2 (by simp at h;omega)
  simp only [List.length_cons]
  omega
theorem bundle_len (l:List Ch):(bundleL 1 2 3 l 1500).length≤l.length:=by
 unfold bundleL
 exact Nat.le_trans (packs_len _ _ _ _ _ _ (Nat.le_refl _)) (List.length_filter_le _ _)
theorem del_right {c:Ch} (h:(buildC c).2=0) (ht:c.ty≠1):delB 1 2 3 (mostB 1500) c=false:=by
 have hz:sizeC c≠0:=by have:=size_right c;rw [h] at this;simpa using this
 have hl:=sizeC_le c
 have ho:okPk ⟨1,2,3,[c]⟩=true:=by
  unfold okPk
  rw [(fitsL_iff [c]).2 (fun i hi=>by
   obtain rfl:i=0:=by simp at hi;omega
   rfl),show sizesOk [c]=true from by unfold sizesOk;simp [hz]]
  simp [ht]
 unfold delB
 rw [shaped_yes ho]
 have hm:lenP ⟨1,2,3,[c]⟩=12+sizeC c:=by unfold lenP allSz;simp
 rw [hm]
 simp [mostB]
 omega
theorem bundle_lens {l:List Ch} (h:∀c∈l,(buildC c).2=0) (ht:∀c∈l,c.ty≠1):lensP (bundleL 1 2 3 l 1500)=l.length:=by
 unfold bundleL
 rw [packs_lens _ _ _ _ _ _ (Nat.le_refl _)]
 unfold keptL
 rw [List.filter_eq_self.2 fun c hc=>by rw [del_right (h c hc) (ht c hc)];rfl]
end Go.Proofs.YtbkcekmahdbgdaaGreat.Pk
namespace Go.Proofs.YtbkcekmahdbgdaaGreat
open Go Go.RowKit Towline Towline.Hand Towline.Ac Towline.Chunk Towline.Store
open Op
set_option linter.unusedVariables false
set_option linter.unusedSimpArgs false
set_option maxRecDepth 20000
set_option maxHeartbeats 4000000
def loadD (d:TyD) (off:Nat) (cells:List D):Option Res:=match liftF (dropF off cells) with
 |some l=>match aPart d l with
  |some v=>some (mkCond v none)
  |none=>none
 |none=>none
theorem aop_loadE {T:Tys} {g:Nat→AVal} {h:Nat→Option AObj} {t:TypeId} {p:Operand} {sz n k off:Nat} {f:Nat→List D} {cells:List D} {d:TyD} (hp:opnd g p=.eptr sz n f k off) (hf:f k=cells) (ht:lookT t T=some d) (hd:notArr d.kind=true) :
  aop T g h (.load t p)=loadD d off cells:=by
 have h1:newOp T g h (.load t p)=none:=by simp only [newOp,hp]
 have h2:arrOp T g h (.load t p)=none:=by
  simp only [arrOp,ht]
  obtain ⟨kd,_,_,_⟩:=d
  cases kd<;>first|rfl|cases hd
 unfold aop
 rw [h1,h2]
 simp only [aop0,ht,aLoad,hp,aCells,hf,loadD]
 cases liftF (dropF off cells)<;>rfl
structure FlatOk (R:List (Int×List Ch)):Prop where
 few:R.length≤2 ^ 10
 to_:∀x∈R,0≤x.1∧x.1≤1
 many:∀x∈R,x.2.length≤2 ^ 20
 ok:∀x∈R,∀c∈x.2,ChOk c
 right:∀x∈R,∀c∈x.2,(buildC c).2=0
 ty:∀x∈R,∀c∈x.2,c.ty≠1
theorem flushA_specP (p:Pr) (i:Nat) (hfs:LSpec Tryz.prog 27 [.ptr F0 0,vi p.now] (asH p.a) (fun r hl=>r=.rsl 2005 2 0 (p.a.flush i p.now).2.length∧hl=asP (p.a.flush i p.now).1++[(2005,rowOut (p.a.flush i p.now).2)])) (hR:FlatOk (p.a.flush i p.now).2) (hw:p.wa.length≤2 ^ 20) :
  LSpec Tryz.prog 12 [.ptr F0 0,vi 0] (prH p) (fun r hl=>r=vb true∧hl=prG (p.flushA i) 2000 2001 2002 2003 F10 F11 F12 F13 2004 F18 F20 F21 F23 F24 F26 F27):=by
 refine LSpec.rens (LSpec.runE (h2:=prH p) [] (TPrOk) followsB Tryz.func12 (by decide) rfl Tryz.ntmps12 (Nat.le_of_ble_eq_true rfl) rfl rfl rfl rfl rfl fun w0 R0 Lo hGw=>?_)
 conv=>whnf
 rw [show p.flushA i={ p with a:=(p.a.flush i p.now).1,wa:=p.wa++flat (p.a.flush i p.now).2} from rfl]
 generalize p.a.flush i p.now=aR at hfs hR ⊢
 obtain ⟨a,R⟩:=aR
 dsimp only at hfs hR ⊢
 obtain ⟨k1,k2,k3,k4,k5,k6⟩:=hR
 repeat (refine gK ?_;conv=>whnf)
 refine ⟨_,_,hfs,?_⟩
 conv=>whnf
 try dsimp only [newBase,Nat.reduceAdd,Nat.reduceMul]
 refine gR ?_
 conv=>whnf
 refine ALoop.rensL [(24000,2000),(24001,2001),(24002,2002),(24003,2003),(24004,2005),(F17,2004)] (by kernel_rfl) ?_
 conv=>whnf
 refine ALoop.introD TPrOk followsB (fun x:{x:Nat×Pr // x.1≤R.length∧x.2={ p with a:=a,wa:=p.wa++flat (R.take x.1)}}=>([(0,.ptr F0 0),(1,vi 0),(5,.rsl 2005 2 0 R.length),(6,vi x.1.1)],(2005,rowOut R)::prG x.1.2 2000 2001 2002 2003 F10 F11 F12 F13 2004 F18 F20 F21 F23 F24 F26 F27)) (fun x=>R.length-x.1.1) ⟨(0,{ p with a:=a}),Nat.zero_le _,by simp [flat]⟩ ?_ ?_ ?_
 ·(repeat' (first|exact ⟨⟩|exact OLe.refl _|exact .refl _|exact .nil|exact rfl|refine ⟨?_,?_⟩|fail))
 ·dsimp only
  conv=>whnf
  (repeat' (first|exact ⟨⟩|exact OLe.refl _|exact .refl _|exact .nil|exact rfl|refine ⟨?_,?_⟩|fail))
 ·rintro ⟨⟨k,q⟩,hk,hq⟩
  dsimp only at hk hq ⊢
  conv=>whnf
  cases gk:decide ((k:Int)<R.length)
  ·have gk:k=R.length:=by have:=of_decide_eq_false gk;omega
   subst gk
   rw [List.take_length] at hq
   rw [←hq]
   refine AEnd.done ?_
   conv=>whnf
   refine finD (by kernel_rfl) (.refl _) ?_ ⟨rfl,rfl⟩
   conv=>whnf
   (repeat' (first|exact ⟨⟩|exact OLe.refl _|exact .refl _|exact .nil|exact rfl|refine ⟨?_,?_⟩|fail))
  ·have gk:k<R.length:=by have:=of_decide_eq_true gk;omega
   obtain ⟨x,hx⟩:∃x,R.getD k default=x:=⟨_,rfl⟩
   have hxR:x∈R:=by
    rw [←hx,List.getD_eq_getElem?_getD,List.getElem?_eq_getElem gk]
    exact List.getElem_mem _
   have hx0:R.getD (0+(k:Int).toNat) default=x:=by rw [tnC,Nat.zero_add,hx]
   have hcs:∀j,j<x.2.length→(x.2.map encCh).getD j []=encCh (x.2.getD j default):=by
    intro j hj
    rw [List.getD_eq_getElem?_getD,List.getElem?_map,List.getElem?_eq_getElem hj,List.getD_eq_getElem?_getD,List.getElem?_eq_getElem hj]
    rfl
   have hfl:=flat_len (2 ^ 20) (R.take k) fun y hy=>k3 y (List.mem_of_mem_take hy)
   rw [List.length_take,Nat.min_eq_left (Nat.le_of_lt gk)] at hfl
   have hsq:=flat_take R k gk
   rw [hx] at hsq
   have hto:=k2 x hxR
   have k3:=k3 x hxR
   have k4:=k4 x hxR
   have k5:=k5 x hxR
   have k6:=k6 x hxR
   conv=>whnf
   refine ALoop.introD TPrOk followsB (fun y:{y:Nat×Pr // y.1≤x.2.length∧y.2={ p with a:=a,wa:=p.wa++flat (R.take k)++(x.2.take y.1).map fun c=>(x.1,c)}}=>([(0,.ptr F0 0),(1,vi 0),(5,.rsl 2005 2 0 R.length),(6,vi k),(7,vi y.1.1),(8,vi y.1.1)],(2005,rowOut R)::prG y.1.2 2000 2001 2002 2003 F10 F11 F12 F13 2004 F18 F20 F21 F23 F24 F26 F27)) (fun y=>x.2.length-y.1.1) ⟨(0,q),Nat.zero_le _,by rw [hq];simp⟩ ?_ ?_ ?_
   ·(repeat' (first|exact ⟨⟩|exact OLe.refl _|exact .refl _|exact .nil|exact rfl|refine ⟨?_,?_⟩|fail))
   ·dsimp only
    conv=>whnf
    (repeat' (first|exact ⟨⟩|exact OLe.refl _|exact .refl _|exact .nil|exact rfl|refine ⟨?_,?_⟩|fail))
   ·rintro ⟨⟨n,u⟩,hn,hu⟩
    dsimp only at hn hu ⊢
    conv=>whnf
    repeat (refine gK ?_;conv=>whnf)
    rw [hx0]
    cases gn:decide ((n:Int)<x.2.length)
    ·have gn:n=x.2.length:=by have:=of_decide_eq_false gn;omega
     subst gn
     rw [List.take_length] at hu
     conv=>whnf
     repeat (refine gK ?_;conv=>whnf)
     rw [hx0]
     have hbu:=Pk.bundle8_spec 1 2 3 1500 x.2 k4 k3
     refine ⟨_,hbu.argsC ?_,?_⟩
     ·exact ⟨.refl _,.refl _,.refl _,.sl rfl fun j hj=>hcs j hj,.refl _,trivial⟩
     rintro q rfl
     conv=>whnf
     have hbl:=Pk.bundle_lens k5 k6
     have hbn:=Pk.bundle_len x.2
     generalize Pk.bundleL 1 2 3 x.2 1500=bu at hbl hbn ⊢
     refine ALoop.introD TPrOk followsB (fun y:{y:Nat // y≤bu.length}=>([(0,.ptr F0 0),(1,vi 0),(5,.rsl 2005 2 0 R.length),(6,vi k),(7,vi ((x.2.length:Int)-(Pk.lensP (bu.take y.1):Nat))),(10,.d (slT 4 Pk.encP bu)),(11,vi y.1)],(2005,rowOut R)::prG u 2000 2001 2002 2003 F10 F11 F12 F13 2004 F18 F20 F21 F23 F24 F26 F27)) (fun y=>bu.length-y.1) ⟨0,Nat.zero_le _⟩ ?_ ?_ ?_
     ·(repeat' (first|exact ⟨⟩|exact OLe.refl _|exact .refl _|exact .nil|exact rfl|refine ⟨?_,?_⟩|fail))
     ·dsimp only
      conv=>whnf
      (repeat' (first|exact ⟨⟩|exact OLe.refl _|exact .refl _|exact .nil|exact rfl|refine ⟨?_,?_⟩|fail))
     ·rintro ⟨m,hm⟩
      dsimp only at hm ⊢
      conv=>whnf
      cases gm:decide ((m:Int)<bu.length)
      ·have gm:m=bu.length:=by have:=of_decide_eq_false gm;omega
       subst gm
       rw [List.take_length,hbl]
       conv=>whnf
       rw [show (((x.2.length:Int)-x.2.length) != 0)=false from by simp]
       conv=>whnf
       repeat (refine gK ?_;conv=>whnf)
       rw [hx0,show decide (x.1<0)=false from decide_eq_false (by omega)]
       conv=>whnf
       repeat (refine gK ?_;conv=>whnf)
       rw [hx0,show decide (1<x.1)=false from decide_eq_false (by omega)]
       conv=>whnf
       repeat (refine gK ?_;conv=>whnf)
       refine ⟨⟨(k+1,u),gk,by rw [hu,hsq,List.append_assoc]⟩,[],by (try dsimp only);omega,?_,?_⟩
       ·(repeat' (first|exact ⟨⟩|exact OLe.refl _|exact .refl _|exact .nil|exact rfl|refine ⟨?_,?_⟩|fail))
       ·try dsimp only
        conv=>whnf
        (repeat' (first|exact ⟨⟩|exact OLe.refl _|exact .refl _|exact .nil|exact rfl|refine ⟨?_,?_⟩|fail))
      ·have gm:m<bu.length:=by have:=of_decide_eq_true gm;omega
       have hlt:=Pk.lens_take bu m gm
       have hle:=Pk.lens_le bu (m+1)
       conv=>whnf
       rw [show (m:Int).toNat=m from tnC m]
       refine gO ?_
       conv=>whnf
       rw [show ((x.2.length:Int)-(Pk.lensP (bu.take m):Nat)-((bu.getD m default).chunks.length:Nat))=(x.2.length:Int)-(Pk.lensP (bu.take (m+1)):Nat) from by rw [hlt];omega]
       repeat (refine gK ?_;conv=>whnf)
       refine ⟨⟨m+1,gm⟩,[],show bu.length-(m+1)<bu.length-m by omega,?_,?_⟩
       ·(repeat' (first|exact ⟨⟩|exact OLe.refl _|exact .refl _|exact .nil|exact rfl|refine ⟨?_,?_⟩|fail))
       ·conv=>whnf
        (repeat' (first|exact ⟨⟩|exact OLe.refl _|exact .refl _|exact .nil|exact rfl|refine ⟨?_,?_⟩|fail))
    ·have gn:n<x.2.length:=by have:=of_decide_eq_true gn;omega
     obtain ⟨c,hc⟩:∃c,x.2.getD n default=c:=⟨_,rfl⟩
     have hcR:c∈x.2:=by
      rw [←hc,List.getD_eq_getElem?_getD,List.getElem?_eq_getElem gn]
      exact List.getElem_mem _
     have hcn:x.2[n]=c:=by rw [←hc,List.getD_eq_getElem?_getD,List.getElem?_eq_getElem gn];rfl
     have k4:=k4 c hcR
     have k5:=k5 c hcR
     have k6:=k6 c hcR
     have hc0:(fun k=>(x.2.map encCh).getD k []) (n:Int).toNat=encCh c:=by
      dsimp only
      rw [tnC,List.getD_eq_getElem?_getD,List.getElem?_map,List.getElem?_eq_getElem gn,←hc,List.getD_eq_getElem?_getD,List.getElem?_eq_getElem gn]
      rfl
     conv=>whnf
     repeat (refine gK ?_;conv=>whnf)
     rw [hx0]
     conv=>whnf
     repeat (refine gK ?_;conv=>whnf)
     rw [aop_loadE rfl hc0 rfl rfl]
     conv=>whnf
     refine ⟨_,right_spec c k4,?_⟩
     rintro q rfl
     rw [show ((buildC c).2==0)=true from by rw [k5];rfl]
     conv=>whnf
     rw [show (c.ty != 1)=true from by simpa using k6]
     conv=>whnf
     repeat (refine gK ?_;conv=>whnf)
     rw [hx0]
     conv=>whnf
     repeat (refine gK ?_;conv=>whnf)
     have hul:u.wa.length=p.wa.length+(flat (R.take k)).length+n:=by
      rw [hu]
      simp
      omega
     refine ⟨⟨⟨rfl,by omega,by simp only [ty46];omega⟩,by omega⟩,?_⟩
     conv=>whnf
     repeat (refine gK ?_;conv=>whnf)
     refine gR ?_
     conv=>whnf
     repeat (refine gK ?_;conv=>whnf)
     have hln:u.wa.length+1=(u.wa++[(x.1,c)]).length:=by simp
     refine ⟨⟨(n+1,{ u with wa:=u.wa++[(x.1,c)]}),gn,by rw [hu];dsimp only;rw [List.take_succ_eq_append_getElem gn,hcn,List.map_append,←List.append_assoc];rfl⟩,[(76,2004)],by (try dsimp only);omega,?_,?_⟩
     ·(repeat' (first|exact ⟨⟩|exact OLe.refl _|exact .refl _|exact .nil|exact rfl|refine ⟨?_,?_⟩|fail))
     ·try dsimp only
      conv=>whnf
      (repeat' (first|exact ⟨⟩|exact OLe.refl _|exact .refl _|exact .nil|exact rfl|refine ⟨?_,?_⟩|fail))
      ·exact .of_eq (congrArg (AVal.rsl 2004 15 0) hln)
      ·exact hln
      ·exact fun j hj=>slT_app encSnt u.wa (x.1,c) j hj rfl
end Go.Proofs.YtbkcekmahdbgdaaGreat
namespace Towline.Ac
open Towline.Hand Towline.Chunk Towline.Store
def isA (s:Nat) (m:Msg):Bool:=(m.stream:Int)==(s:Int) && !m.free
def isR (s:Nat) (m:Fm):Bool:=m.stream==(s:Int) && !m.free
def ofS (s:Nat) (l:List Msg):List Msg:=l.filter (isA s)
def rdS (s:Nat) (l:List Fm):List Fm:=l.filter (isR s)
theorem filter_yes {α:Type} [Inhabited α] (c:α→Bool) (l:List α) {k:Nat} (h:k<l.length) (hc:c (l.getD k default)=true):(l.take (k+1)).filter c=(l.take k).filter c++[l.getD k default]:=by
 have e:l.getD k default=l[k]:=by rw [List.getD_eq_getElem?_getD,List.getElem?_eq_getElem h];rfl
 rw [e] at hc ⊢
 rw [List.take_succ_eq_append_getElem h,List.filter_append,List.filter_cons_of_pos (by simpa using hc),List.filter_nil]
theorem filter_no {α:Type} [Inhabited α] (c:α→Bool) (l:List α) {k:Nat} (h:k<l.length) (hc:c (l.getD k default)=false):(l.take (k+1)).filter c=(l.take k).filter c:=by
 have e:l.getD k default=l[k]:=by rw [List.getD_eq_getElem?_getD,List.getElem?_eq_getElem h];rfl
 rw [e] at hc
 rw [List.take_succ_eq_append_getElem h,List.filter_append,List.filter_cons_of_neg (by simpa using hc),List.filter_nil,List.append_nil]
theorem filter_at {α:Type} [Inhabited α] (c:α→Bool) (l:List α) {k:Nat} (h:k<l.length) (hc:c (l.getD k default)=true):((l.take k).filter c).length<(l.filter c).length∧(l.filter c).getD ((l.take k).filter c).length default=l.getD k default:=by
 have h1:=filter_yes c l h hc
 have h2:l.filter c=((l.take k).filter c++[l.getD k default])++(l.drop (k+1)).filter c:=by
  conv=>lhs;rw [←List.take_append_drop (k+1) l]
  rw [List.filter_append,h1]
 rw [h2,List.append_assoc]
 constructor
 ·simp
 ·rw [List.getD_eq_getElem?_getD,List.getElem?_append_right (Nat.le_refl _),Nat.sub_self]
  rfl
structure GoodS (p:Pr) (s:Nat):Prop where
 good:∀j,j<(rdS s p.rb).length→j<65536∧j<(ofS s p.ia).length∧((ofS s p.ia).getD j default).text=((rdS s p.rb).getD j default).text∧(((ofS s p.ia).getD j default).ppid:Int)=((rdS s p.rb).getD j default).ppid∧((rdS s p.rb).getD j default).ssn=j
structure PrOk (p:Pr):Prop where
 ia:p.ia.length≤2 ^ 20
 rb:p.rb.length≤2 ^ 20
 ias:∀m∈p.ia,m.stream≤65535
 rbs:∀m∈p.rb,0≤m.stream∧m.stream≤65535
end Towline.Ac
namespace Go.Proofs.YtbkcekmahdbgdaaGreat
open Go Go.RowKit Towline Towline.Hand Towline.Ac Towline.Chunk Towline.Store
open Op
set_option linter.unusedVariables false
set_option linter.unusedSimpArgs false
set_option maxRecDepth 20000
set_option maxHeartbeats 4000000
abbrev TGo:Tys:=tysX false [] [(39,[])] []
theorem TGoOk:TysOk Tryz.prog TGo:=tysXOk _ _ _ _
theorem freeN_specP (p:Pr) (h:PrOk p) (hf:∀m∈p.rb,m.free=false):LSpec Tryz.prog 39 [.ptr F0 0,vi 1] (prH p) (fun r hl=>r=vb true∧hl=prH p):=by
 refine LSpec.rens (LSpec.runE (h2:=prH p) [] (TPrOk) followsB Tryz.func39 (by decide) rfl Tryz.ntmps39 (Nat.le_of_ble_eq_true rfl) rfl rfl rfl rfl rfl fun w0 R0 Lo hGw=>?_)
 conv=>whnf
 have h1:=h.ia
 have h2:=h.rb
 repeat (refine gK ?_;conv=>whnf)
 refine ⟨⟨by omega,by omega,by simp only [ty4];omega,by omega⟩,?_⟩
 conv=>whnf
 rw [tnC]
 refine ALoop.introD TPrOk followsB (fun x:{x:Nat // x≤p.rb.length}=>([(0,.ptr F0 0),(1,vi 1),(5,.rsl 20 1 0 p.ia.length),(6,vi x.1)],(20,.row 4 1 p.ia.length (fun _=>[.b false]))::prH p)) (fun x=>p.rb.length-x.1) ⟨0,Nat.zero_le _⟩ ?_ ?_ ?_
 ·(repeat' (first|exact ⟨⟩|exact OLe.refl _|exact .refl _|exact .nil|exact rfl|refine ⟨?_,?_⟩|fail))
 ·dsimp only
  conv=>whnf
  (repeat' (first|exact ⟨⟩|exact OLe.refl _|exact .refl _|exact .nil|exact rfl|refine ⟨?_,?_⟩|fail))
 ·rintro ⟨k,hk⟩
  dsimp only at hk ⊢
  conv=>whnf
  repeat (refine gK ?_;conv=>whnf)
  cases gk:decide ((k:Int)<p.rb.length)
  ·conv=>whnf
   refine AEnd.done ?_
   conv=>whnf
   refine finD (by kernel_rfl) (.refl _) ?_ ⟨rfl,rfl⟩
   conv=>whnf
   (repeat' (first|exact ⟨⟩|exact OLe.refl _|exact .refl _|exact .nil|exact rfl|refine ⟨?_,?_⟩|fail))
  ·have gk:k<p.rb.length:=by have:=of_decide_eq_true gk;omega
   have hx0:p.rb.getD (0+(k:Int).toNat) default=p.rb[k]:=by rw [tnC,Nat.zero_add,List.getD_eq_getElem?_getD,List.getElem?_eq_getElem gk];rfl
   have hx1:=hf p.rb[k] (List.getElem_mem _)
   conv=>whnf
   repeat (refine gK ?_;conv=>whnf)
   rw [hx0,hx1]
   conv=>whnf
   refine ALoop.introD TPrOk followsB (fun x:Unit=>([(0,.ptr F0 0),(1,vi 1),(5,.rsl 20 1 0 p.ia.length),(6,vi k),(8,vb true),(9,vi 0)],(20,.row 4 1 p.ia.length (fun _=>[.b false]))::prH p)) (fun x=>0) () ?_ ?_ ?_
   ·(repeat' (first|exact ⟨⟩|exact OLe.refl _|exact .refl _|exact .nil|exact rfl|refine ⟨?_,?_⟩|fail))
   ·dsimp only
    conv=>whnf
    (repeat' (first|exact ⟨⟩|exact OLe.refl _|exact .refl _|exact .nil|exact rfl|refine ⟨?_,?_⟩|fail))
   ·rintro _
    dsimp only
    conv=>whnf
    cases gz:decide ((0:Int)<p.ia.length)
    ·conv=>whnf
     repeat (refine gK ?_;conv=>whnf)
     refine ⟨⟨k+1,gk⟩,[],by (try dsimp only);omega,?_,?_⟩
     ·(repeat' (first|exact ⟨⟩|exact OLe.refl _|exact .refl _|exact .nil|exact rfl|refine ⟨?_,?_⟩|fail))
     ·try dsimp only
      conv=>whnf
      (repeat' (first|exact ⟨⟩|exact OLe.refl _|exact .refl _|exact .nil|exact rfl|refine ⟨?_,?_⟩|fail))
    ·conv=>whnf
     repeat (refine gK ?_;conv=>whnf)
     refine ⟨⟨k+1,gk⟩,[],by (try dsimp only);omega,?_,?_⟩
     ·(repeat' (first|exact ⟨⟩|exact OLe.refl _|exact .refl _|exact .nil|exact rfl|refine ⟨?_,?_⟩|fail))
     ·try dsimp only
      conv=>whnf
      (repeat' (first|exact ⟨⟩|exact OLe.refl _|exact .refl _|exact .nil|exact rfl|refine ⟨?_,?_⟩|fail))
theorem good_specP (p:Pr) (h:PrOk p) (hf:∀m∈p.rb,m.free=false) (hg:∀s,s<4→GoodS p s):LSpec Tryz.prog 15 [.ptr F0 0,vi 1] (prH p) (fun r hl=>r=vb true∧hl=prH p):=by
 refine LSpec.rens (LSpec.runE (h2:=prH p) [] (TGoOk) followsB Tryz.func15 (by decide) rfl Tryz.ntmps15 (Nat.le_of_ble_eq_true rfl) rfl rfl rfl rfl rfl fun w0 R0 Lo hGw=>?_)
 conv=>whnf
 have h1:=h.ia
 have h2:=h.rb
 refine ALoop.introD TGoOk followsB (fun x:{x:Nat // x≤4}=>([(0,.ptr F0 0),(1,vi 1),(5,vi x.1)],prH p)) (fun x=>4-x.1) ⟨0,Nat.zero_le _⟩ ?_ ?_ ?_
 ·(repeat' (first|exact ⟨⟩|exact OLe.refl _|exact .refl _|exact .nil|exact rfl|refine ⟨?_,?_⟩|fail))
 ·dsimp only
  conv=>whnf
  (repeat' (first|exact ⟨⟩|exact OLe.refl _|exact .refl _|exact .nil|exact rfl|refine ⟨?_,?_⟩|fail))
 ·rintro ⟨s,hs⟩
  dsimp only at hs ⊢
  conv=>whnf
  cases gs:decide ((s:Int)<4)
  ·have gs:s=4:=by have:=of_decide_eq_false gs;omega
   subst gs
   conv=>whnf
   refine ⟨_,(freeN_specP p h hf),?_⟩
   rintro q hq ⟨rfl,rfl⟩
   unfold ABack
   generalize hfr:freshN _ _ _ _=fb
   have hb:fb=true:=by
    rw [←hfr]
    conv=>lhs;whnf
   subst hb
   clear hfr
   dsimp only
   conv=>whnf
   try dsimp only [newBase,Nat.reduceAdd,Nat.reduceMul]
   refine AEnd.done ?_
   conv=>whnf
   refine finD (by kernel_rfl) (.refl _) ?_ ⟨rfl,rfl⟩
   conv=>whnf
   (repeat' (first|exact ⟨⟩|exact OLe.refl _|exact .refl _|exact .nil|exact rfl|refine ⟨?_,?_⟩|fail))
  ·have gs:s<4:=by have:=of_decide_eq_true gs;omega
   obtain ⟨hgs⟩:=hg s gs
   conv=>whnf
   refine ALoop.adopt 6 2000 6 60 (fun _=>[]) rfl rfl rfl ?_
   conv=>whnf
   refine ALoop.introD TGoOk followsB (fun x:{x:Nat×List Msg // x.1≤p.ia.length∧x.2=ofS s (p.ia.take x.1)}=>([(0,.ptr F0 0),(1,vi 1),(5,vi s),(6,.rsl 2000 6 0 x.1.2.length),(7,vi x.1.1)],(2000,rowM x.1.2)::prH p)) (fun x=>p.ia.length-x.1.1) ⟨(0,[]),Nat.zero_le _,rfl⟩ ?_ ?_ ?_
   ·(repeat' (first|exact ⟨⟩|exact OLe.refl _|exact .refl _|exact .nil|exact rfl|refine ⟨?_,?_⟩|fail))
   ·dsimp only
    conv=>whnf
    (repeat' (first|exact ⟨⟩|exact OLe.refl _|exact .refl _|exact .nil|exact rfl|refine ⟨?_,?_⟩|fail))
    exact fun j hj=>absurd hj (Nat.not_lt_zero _)
   ·rintro ⟨⟨k,W⟩,hk,hW⟩
    dsimp only at hk hW ⊢
    conv=>whnf
    repeat (refine gK ?_;conv=>whnf)
    cases gk:decide ((k:Int)<p.ia.length)
    ·have gk:k=p.ia.length:=by have:=of_decide_eq_false gk;omega
     subst gk
     rw [List.take_length] at hW
     subst hW
     conv=>whnf
     refine ALoop.introD TGoOk followsB (fun x:{x:Nat×Nat // x.1≤p.rb.length∧x.2=(rdS s (p.rb.take x.1)).length}=>([(0,.ptr F0 0),(1,vi 1),(5,vi s),(6,.rsl 2000 6 0 (ofS s p.ia).length),(8,vi x.1.2),(9,vi x.1.1)],(2000,rowM (ofS s p.ia))::prH p)) (fun x=>p.rb.length-x.1.1) ⟨(0,0),Nat.zero_le _,rfl⟩ ?_ ?_ ?_
     ·(repeat' (first|exact ⟨⟩|exact OLe.refl _|exact .refl _|exact .nil|exact rfl|refine ⟨?_,?_⟩|fail))
     ·dsimp only
      conv=>whnf
      (repeat' (first|exact ⟨⟩|exact OLe.refl _|exact .refl _|exact .nil|exact rfl|refine ⟨?_,?_⟩|fail))
     ·rintro ⟨⟨i,at_⟩,hi,hat⟩
      dsimp only at hi hat ⊢
      conv=>whnf
      repeat (refine gK ?_;conv=>whnf)
      cases gi:decide ((i:Int)<p.rb.length)
      ·conv=>whnf
       repeat (refine gK ?_;conv=>whnf)
       refine ⟨⟨s+1,gs⟩,[],by (try dsimp only);omega,?_,?_⟩
       ·(repeat' (first|exact ⟨⟩|exact OLe.refl _|exact .refl _|exact .nil|exact rfl|refine ⟨?_,?_⟩|fail))
       ·try dsimp only
        conv=>whnf
        (repeat' (first|exact ⟨⟩|exact OLe.refl _|exact .refl _|exact .nil|exact rfl|refine ⟨?_,?_⟩|fail))
      ·have gi:i<p.rb.length:=by have:=of_decide_eq_true gi;omega
       obtain ⟨m,hm⟩:∃m,p.rb.getD i default=m:=⟨_,rfl⟩
       have hm0:p.rb.getD (0+(i:Int).toNat) default=m:=by rw [tnC,Nat.zero_add,hm]
       have hms:=h.rbs m (by rw [←hm,List.getD_eq_getElem?_getD,List.getElem?_eq_getElem gi];exact List.getElem_mem _)
       have hmf:=hf m (by rw [←hm,List.getD_eq_getElem?_getD,List.getElem?_eq_getElem gi];exact List.getElem_mem _)
       have htl:(rdS s (p.rb.take i)).length≤i:=Nat.le_trans (List.length_filter_le _ _) (by rw [List.length_take];omega)
       conv=>whnf
       repeat (refine gK ?_;conv=>whnf)
       rw [hm0]
       conv=>whnf
       repeat (refine gK ?_;conv=>whnf)
       cases g2:(m.stream != (s:Int))
       ·have hyes:isR s (p.rb.getD i default)=true:=by
         rw [hm];unfold isR;rw [hmf]
         simpa using g2
        obtain ⟨a1,a2⟩:=filter_at (isR s) p.rb gi hyes
        rw [hm] at a2
        have hga:=hgs at_ (by rw [hat];exact a1)
        rw [show (rdS s p.rb).getD at_ default=m from by rw [hat];exact a2] at hga
        obtain ⟨b1,b2,b3,b4,b5⟩:=hga
        conv=>whnf
        rw [hmf]
        conv=>whnf
        repeat (refine gK ?_;conv=>whnf)
        rw [show decide ((((ofS s p.ia).length:Nat):Int)≤(at_:Int))=false from decide_eq_false (by omega)]
        conv=>whnf
        repeat (refine gK ?_;conv=>whnf)
        rw [show (0+(at_:Int).toNat)=at_ from by omega,b3,show (m.text != m.text)=false from by simp]
        conv=>whnf
        repeat (refine gK ?_;conv=>whnf)
        rw [show (0+(at_:Int).toNat)=at_ from by omega,b4,show (m.ppid != m.ppid)=false from by simp]
        conv=>whnf
        repeat (refine gK ?_;conv=>whnf)
        refine gR ?_
        conv=>whnf
        rw [b5,wrap16N at_ b1,show ((at_:Int) != (at_:Int))=false from by simp]
        conv=>whnf
        repeat (refine gK ?_;conv=>whnf)
        refine ⟨⟨(i+1,at_+1),gi,by dsimp only;rw [hat];unfold rdS;rw [filter_yes (isR s) p.rb gi hyes];simp⟩,[],by (try dsimp only);omega,?_,?_⟩
        ·(repeat' (first|exact ⟨⟩|exact OLe.refl _|exact .refl _|exact .nil|exact rfl|refine ⟨?_,?_⟩|fail))
        ·try dsimp only
         conv=>whnf
         (repeat' (first|exact ⟨⟩|exact OLe.refl _|exact .refl _|exact .nil|exact rfl|refine ⟨?_,?_⟩|fail))
       ·have hno:isR s (p.rb.getD i default)=false:=by
         rw [hm];unfold isR;rw [hmf]
         simpa using g2
        conv=>whnf
        repeat (refine gK ?_;conv=>whnf)
        refine ⟨⟨(i+1,at_),gi,by dsimp only;rw [hat];unfold rdS;rw [filter_no (isR s) p.rb gi hno]⟩,[],by (try dsimp only);omega,?_,?_⟩
        ·(repeat' (first|exact ⟨⟩|exact OLe.refl _|exact .refl _|exact .nil|exact rfl|refine ⟨?_,?_⟩|fail))
        ·try dsimp only
         conv=>whnf
         (repeat' (first|exact ⟨⟩|exact OLe.refl _|exact .refl _|exact .nil|exact rfl|refine ⟨?_,?_⟩|fail))
    ·have gk:k<p.ia.length:=by have:=of_decide_eq_true gk;omega
     obtain ⟨x,hx⟩:∃x,p.ia.getD k default=x:=⟨_,rfl⟩
     have hx0:p.ia.getD (0+(k:Int).toNat) default=x:=by rw [tnC,Nat.zero_add,hx]
     have hxs:=h.ias x (by rw [←hx,List.getD_eq_getElem?_getD,List.getElem?_eq_getElem gk];exact List.getElem_mem _)
     conv=>whnf
     repeat (refine gK ?_;conv=>whnf)
     rw [hx0]
     conv=>whnf
     repeat (refine gK ?_;conv=>whnf)
     cases g2:((x.stream:Int)==(s:Int))
     ·have hno:isA s (p.ia.getD k default)=false:=by rw [hx];unfold isA;rw [g2];rfl
      conv=>whnf
      repeat (refine gK ?_;conv=>whnf)
      refine ⟨⟨(k+1,W),gk,by dsimp only;rw [hW];unfold ofS;rw [filter_no (isA s) p.ia gk hno]⟩,[],by (try dsimp only);omega,?_,?_⟩
      ·(repeat' (first|exact ⟨⟩|exact OLe.refl _|exact .refl _|exact .nil|exact rfl|refine ⟨?_,?_⟩|fail))
      ·try dsimp only
       conv=>whnf
       (repeat' (first|exact ⟨⟩|exact OLe.refl _|exact .refl _|exact .nil|exact rfl|refine ⟨?_,?_⟩|fail))
     ·conv=>whnf
      repeat (refine gK ?_;conv=>whnf)
      rw [hx0]
      cases g3:x.free
      ·have hyes:isA s (p.ia.getD k default)=true:=by rw [hx];unfold isA;rw [g2,g3];rfl
       have hWl:W.length≤2 ^ 20:=by rw [hW];exact Nat.le_trans (List.length_filter_le _ _) (Nat.le_trans (List.length_take_le _ _) (by omega))
       conv=>whnf
       repeat (refine gK ?_;conv=>whnf)
       rw [hx0]
       refine ⟨⟨⟨rfl,by omega,by simp only [ty60];omega⟩,by omega⟩,?_⟩
       conv=>whnf
       repeat (refine gK ?_;conv=>whnf)
       have hln:W.length+1=(W++[x]).length:=by simp
       refine ⟨⟨(k+1,W++[x]),gk,by dsimp only;rw [hW];unfold ofS;rw [filter_yes (isA s) p.ia gk hyes,hx]⟩,[(71,2000)],by dsimp only;omega,?_,?_⟩
       ·(repeat' (first|exact ⟨⟩|exact OLe.refl _|exact .refl _|exact .nil|exact rfl|refine ⟨?_,?_⟩|fail))
        conv=>whnf
        exact .of_eq (congrArg (AVal.rsl 2000 6 0) hln)
       ·dsimp only
        conv=>whnf
        (repeat' (first|exact ⟨⟩|exact OLe.refl _|exact .refl _|exact .nil|exact rfl|refine ⟨?_,?_⟩|fail))
        ·exact hln
        ·exact fun j hj=>slT_app St.encM W x j hj rfl
      ·have hno:isA s (p.ia.getD k default)=false:=by rw [hx];unfold isA;rw [g2,g3];rfl
       conv=>whnf
       repeat (refine gK ?_;conv=>whnf)
       refine ⟨⟨(k+1,W),gk,by dsimp only;rw [hW];unfold ofS;rw [filter_no (isA s) p.ia gk hno]⟩,[],by (try dsimp only);omega,?_,?_⟩
       ·(repeat' (first|exact ⟨⟩|exact OLe.refl _|exact .refl _|exact .nil|exact rfl|refine ⟨?_,?_⟩|fail))
       ·try dsimp only
        conv=>whnf
        (repeat' (first|exact ⟨⟩|exact OLe.refl _|exact .refl _|exact .nil|exact rfl|refine ⟨?_,?_⟩|fail))
end Go.Proofs.YtbkcekmahdbgdaaGreat
namespace Towline
open Go
section
variable {C : Ctx} {T : Tys}
theorem ALoop.introDE {X:Type} {c:Code} {Q:Exit→Env→Heap→Prop} {env:Env} {heap:Heap} (hT:TysOk C.P T) (hM:C.P.follows .mixedOrders=true) (S:X→Env×Heap) (μ:X→Nat) (x0:X) (h0:CovE env (S x0).1 True) (h00:covD heap (S x0).2)
  (round:∀x,ARun C T c (fun e env' heap'=>match e with|.normal=>AEnd C (fun env' heap'=>∃x' ps,μ x'<μ x∧CovE (renEs C.lid ps env') (S x').1 True∧covD (renHs C.lid ps heap') (S x').2) env' heap'|e=>Q e env' heap') (S x).1 (S x).2):ALoop C c Q env heap:=
 ⟨AWp.loop (fun x=>(S x).1) (fun x=>(S x).2) μ x0 (Covers.mk' (CovE_and h0 (covD_ok h00))) fun x L a w hr=>wp_mono ((ARun_ok hT hM (round x)) L a w hr) fun e a' w' ⟨L',env',heap',h1,h2⟩=>by
  cases e with
  |normal=>
   obtain ⟨L'',env'',heap'',h1,x',ps,h3,h4,h6⟩:=h2.out L' a' w' h1
   obtain ⟨L2,h5⟩:=h1.rens ps
   exact ⟨L2,_,_,h5,x',h3,Covers.mk' (CovE_and h4 (covD_ok h6))⟩
  |_=>exact ⟨L',env',heap',h1,h2⟩⟩
end
end Towline
namespace Go.Proofs.YtbkcekmahdbgdaaGreat
open Go Go.RowKit Towline Towline.Hand Towline.Ac Towline.Chunk Towline.Store
open Op
set_option linter.unusedVariables false
set_option linter.unusedSimpArgs false
set_option maxRecDepth 20000
set_option maxHeartbeats 4000000
def sends (T:List (List UInt8)):Nat→Pr
 |0=>met0
 |i+1=>(sends T i).sendA (i % 4) false (T.getD i default)
abbrev prM (P:Pr):Heap:=[(33000,prO P 33001 33002 33003 33004 33005),(33001,.box [.ptr 33006 0,.ptr 33007 0]),(33002,.box [.rsl 33008 15 0 P.wa.length,.rsl 33009 15 0 P.wb.length]),(33003,.box [.rsl 33010 6 0 P.ia.length,.rsl 33011 6 0 P.ib.length]),(33004,.box [.rsl 33012 6 0 P.ra.length,.rsl 33013 6 0 P.rb.length]),(33005,.box [.rsl 33014 2 0 P.na.length,.rsl 33015 2 0 P.nb.length]),
 (33006,asB P.a 33016 33017 33018 33019 33020 33021),(33007,asB P.b 33022 33023 33024 33025 33026 33027),(33008,rowW P.wa),(33009,rowW P.wb),(33010,rowM P.ia),(33011,rowM P.ib),(33012,rowFm P.ra),(33013,rowFm P.rb),(33014,rowNo P.na),(33015,rowNo P.nb),
 (33016,.dmp (encDat P.a.data)),(33017,rowFm P.a.inn),(33018,rowOut P.a.out),(33019,rowNo P.a.notes),(33020,rowZ P.a.due),(33021,rowZ P.a.heard),(33022,.dmp (encDat P.b.data)),(33023,rowFm P.b.inn),(33024,rowOut P.b.out),(33025,rowNo P.b.notes),(33026,rowZ P.b.due),(33027,rowZ P.b.heard)]
def encTx (t:List UInt8):List D:=[.s t]
structure SendOk (p:Pr):Prop where
 t:total p.a.s.l≤2 ^ 40
 a:p.a.s.a≤2 ^ 40
 l:p.a.s.l.length≤2 ^ 40
 ia:p.ia.length≤2 ^ 20
structure FlushOk (p:Pr):Prop where
 h:FlOk p.a
 i:p.a.there (-1)=((0:Nat):Int)
 n : -2 ^ 60≤p.now∧p.now≤2 ^ 60
 f:p.a.tell.FrOk 0
 t:∀x∈p.a.tell.xl,0≤x.times∧x.times≤2 ^ 50
 r:FlatOk (p.a.flush 0 p.now).2
 w:p.wa.length≤2 ^ 20
 s:p.a.sack=false
 x:lossF p.a.tell.xl=[]
def isO (s:Nat) (x:Int×Ch):Bool:=x.2.ty==0&&x.2.stream==(s:Int)
def ownS (s:Nat) (l:List (Int×Ch)):List (Int×Ch):=l.filter (isO s)
def isE (x:Int×Ch):Bool:=x.2.flags.tmod 2==1
def wholeS (l:List (Int×Ch)):Nat:=(l.filter isE).length
structure WaOk (l:List (Int×Ch)):Prop where
 len:l.length≤2 ^ 20
 st:∀x∈l,0≤x.2.stream∧x.2.stream≤65535
structure TakeOk (b:As) (c:Ch):Prop where
 ty:c.ty=0
 ok:ChOk c
 r:(buildC c).2=0
 st:3≤b.h.st∧b.h.st≤5
 inn:b.InOk c
 fr:0<b.heard.length
def tookA (b:As) (c:Ch):As:=(b.hearing 0 0).takeC c 0 0
structure EndOk (p:Pr) (n:Nat):Prop where
 rd:RdOk p.b
 rb:p.rb.length≤2 ^ 20
 len:p.readB.rb.length=n
 ok:PrOk p.readB
 fr:∀m∈p.readB.rb,m.free=false
 good:∀s,s<4→GoodS p.readB s
structure StreamsLaw (T:List (List UInt8)) (P:Pr) (Inv:Nat→List (Int×Ch)→As→Prop):Prop where
 send:∀i,i≤T.length→SendOk (sends T i)
 flush:FlushOk (sends T T.length)
 p:P=(sends T T.length).flushA 0
 wa:WaOk P.wa
 inv0:∀s,s<4→Inv s (ownS s P.wa) P.b
 invT:∀s l b,Inv s l b→∀k,k<l.length→TakeOk b (l.getD k default).2∧Inv s (l.take k++l.drop (k+1)) (tookA b (l.getD k default).2)
 invE:∀s b,Inv s [] b→EndOk { P with b:=b} (wholeS (ownS s P.wa))
theorem cells_cut (own:List (Int×Ch)) (k:Nat) (hk:k<own.length) (F:Nat→List D) (j:Nat):fcat (fcat F 0 (fun j=>encSnt (own.getD j default))) (0+k) (fun j=>encSnt (own.getD (((k:Int)+1).toNat+j) default)) j=encSnt ((own.take k++own.drop (k+1)).getD j default):=by
 have hl:(own.take k).length=k:=by rw [List.length_take];omega
 unfold fcat
 rw [Nat.zero_add]
 by_cases h:j<k
 ·rw [if_pos h,if_neg (Nat.not_lt_zero _),Nat.sub_zero]
  show encSnt (own.getD j default)=_
  rw [List.getD_eq_getElem?_getD,List.getD_eq_getElem?_getD,List.getElem?_append_left (by omega),List.getElem?_take,if_pos h]
 ·rw [if_neg h]
  show encSnt (own.getD (((k:Int)+1).toNat+(j-k)) default)=_
  rw [List.getD_eq_getElem?_getD,List.getD_eq_getElem?_getD,List.getElem?_append_right (by omega),List.getElem?_drop,hl,show ((k:Int)+1).toNat=k+1 from by omega]
abbrev TMn:Tys:=tysX false [] [(9,[]),(11,[]),(12,[]),(13,[]),(14,[]),(15,[])] []
theorem TMnOk:TysOk Tryz.prog TMn:=tysXOk _ _ _ _
theorem streams_walk (T:List (List UInt8)) (which:Int) (order:List Int) (hw : -9223372036854775808≤which∧which≤9223372036854775807) (ho:∀c∈order,-9223372036854775808≤c∧c≤9223372036854775807)
  (law:T.length≤12→(∀t∈T,t.length≤1500)→∃P Inv,StreamsLaw T P Inv)
  (sok:∀i,i<T.length→T.length≤12→(∀t∈T.take i,t.length≤1500)→SendOk (sends T i)):PSpec Tryz.prog 3 [.d (slT 1 encTx T),vi which,.d (slT 1 St.encI order)] (· = vb true):=by
 refine PSpec.run (TMnOk) followsB Tryz.func3 (by decide) rfl Tryz.ntmps3 (Nat.le_of_ble_eq_true rfl) rfl fun w0 R0 hGw=>?_
 conv=>whnf
 repeat (refine gK ?_;conv=>whnf)
 refine ⟨_,shownL_spec,?_⟩
 rintro q rfl
 conv=>whnf
 cases gT:decide ((12:Int)<T.length)
 ·have gT:T.length≤12:=by have:=of_decide_eq_false gT;omega
  conv=>whnf
  repeat (refine gK ?_;conv=>whnf)
  cases gO:decide ((60:Int)<order.length)
  ·have gO:order.length≤60:=by have:=of_decide_eq_false gO;omega
   conv=>whnf
   repeat (refine gK ?_;conv=>whnf)
   have hme:=met0_spec
   obtain ⟨m0,hm0⟩:∃m:Pr,m=met0:=⟨_,rfl⟩
   rw [←hm0] at hme
   refine ⟨_,hme,?_⟩
   rintro q hq ⟨rfl,rfl⟩
   unfold ABack
   generalize hfr:freshN _ _ _ _=fb
   have hb:fb=true:=by
    rw [←hfr]
    conv=>lhs;whnf
   subst hb
   clear hfr
   dsimp only
   conv=>whnf
   try dsimp only [newBase,Nat.reduceAdd,Nat.reduceMul]
   repeat (refine gK ?_;conv=>whnf)
   refine ⟨_,pick_specL which 4 hw (by decide) (by decide),?_⟩
   rintro q rfl
   conv=>whnf
   repeat (refine gK ?_;conv=>whnf)
   have h4:=pickN_lt which 4 (by decide)
   generalize pickN which 4=s at h4 ⊢
   refine ALoop.introD TMnOk followsB (fun x:{x:Nat×Pr // x.1≤T.length∧(∀t∈T.take x.1,t.length≤1500)∧x.2=sends T x.1}=>([(0,.d (slT 1 encTx T)),(2,.d (slT 1 St.encI order)),(8,.ptr 33000 0),(9,vi s),(10,vi x.1.1)],prM x.1.2)) (fun x=>T.length-x.1.1) ⟨(0,m0),Nat.zero_le _,by simp,hm0⟩ ?_ ?_ ?_
   ·(repeat' (first|exact ⟨⟩|exact OLe.refl _|exact .refl _|exact .nil|exact rfl|refine ⟨?_,?_⟩|fail))
   ·dsimp only
    conv=>whnf
    (repeat' (first|exact ⟨⟩|exact OLe.refl _|exact .refl _|exact .nil|exact rfl|refine ⟨?_,?_⟩|fail))
   ·rintro ⟨⟨i,q⟩,hi,ht,hq⟩
    dsimp only at hi ht hq ⊢
    conv=>whnf
    repeat (refine gK ?_;conv=>whnf)
    cases gi:decide ((i:Int)<T.length)
    ·have gi:i=T.length:=by have:=of_decide_eq_false gi;omega
     subst gi
     rw [List.take_length] at ht
     conv=>whnf
     repeat (refine gK ?_;conv=>whnf)
     obtain ⟨P,Inv,⟨l1,l2,l3,l4,l5,l6,l7⟩⟩:=law gT ht
     rw [←hq] at l2 l3
     obtain ⟨f1,f2,f3,f4,f5,f6,f7,f8,f9⟩:=l2
     have hfs:=flushA_specP q 0 (flush_spec0 q.a 0 q.now (2 ^ 50) f1 f2 f3 f4 f5 (by decide) f8 f9) f6 f7
     rw [←l3] at hfs
     refine ⟨_,hfs,?_⟩
     rintro q hq ⟨rfl,rfl⟩
     unfold ABack
     generalize hfr:freshN _ _ _ _=fb
     have hb:fb=true:=by
      rw [←hfr]
      conv=>lhs;whnf
     subst hb
     clear hfr
     dsimp only
     conv=>whnf
     try dsimp only [newBase,Nat.reduceAdd,Nat.reduceMul]
     clear hfs f1 f2 f3 f4 f5 f6 f7 f8 f9 l3
     clear hq q
     refine ALoop.rensL [(59000,33016),(59001,33017),(59002,33018),(59003,33019),(59004,33008)] (by kernel_rfl) ?_
     conv=>whnf
     refine ALoop.adopt 12 3000 15 46 (fun _=>[]) rfl rfl rfl ?_
     conv=>whnf
     have hwl:=l4.len
     refine ALoop.introD TMnOk followsB (fun x:{x:Nat×List (Int×Ch) // x.1≤P.wa.length∧x.2=ownS s (P.wa.take x.1)}=>([(2,.d (slT 1 St.encI order)),(8,.ptr 33000 0),(9,vi s),(12,.rsl 3000 15 0 x.1.2.length),(13,vi x.1.1)],(3000,rowW x.1.2)::prM P)) (fun x=>P.wa.length-x.1.1) ⟨(0,[]),Nat.zero_le _,rfl⟩ ?_ ?_ ?_
     ·(repeat' (first|exact ⟨⟩|exact OLe.refl _|exact .refl _|exact .nil|exact rfl|refine ⟨?_,?_⟩|fail))
     ·dsimp only
      conv=>whnf
      (repeat' (first|exact ⟨⟩|exact OLe.refl _|exact .refl _|exact .nil|exact rfl|refine ⟨?_,?_⟩|fail))
      exact fun j hj=>absurd hj (Nat.not_lt_zero _)
     ·rintro ⟨⟨k,W⟩,hk,hW⟩
      dsimp only at hk hW ⊢
      conv=>whnf
      repeat (refine gK ?_;conv=>whnf)
      cases gk:decide ((k:Int)<P.wa.length)
      ·have gk:k=P.wa.length:=by have:=of_decide_eq_false gk;omega
       subst gk
       rw [List.take_length] at hW
       conv=>whnf
       repeat (refine gK ?_;conv=>whnf)
       have hWl:W.length≤2 ^ 20:=by rw [hW];exact Nat.le_trans (List.length_filter_le _ _) (by omega)
       replace l5:=l5 s h4
       replace l6:=l6 s
       replace l7:=l7 s
       rw [←hW] at l5 l7
       clear hW l1 l4
       refine ALoop.introD TMnOk followsB (fun x:{x:Nat×Nat // x.1≤W.length∧x.2=wholeS (W.take x.1)}=>([(2,.d (slT 1 St.encI order)),(8,.ptr 33000 0),(12,.rsl 3000 15 0 W.length),(14,vi x.1.2),(15,vi x.1.1)],(3000,rowW W)::prM P)) (fun x=>W.length-x.1.1) ⟨(0,0),Nat.zero_le _,rfl⟩ ?_ ?_ ?_
       ·(repeat' (first|exact ⟨⟩|exact OLe.refl _|exact .refl _|exact .nil|exact rfl|refine ⟨?_,?_⟩|fail))
       ·dsimp only
        conv=>whnf
        (repeat' (first|exact ⟨⟩|exact OLe.refl _|exact .refl _|exact .nil|exact rfl|refine ⟨?_,?_⟩|fail))
       ·rintro ⟨⟨j,n⟩,hj,hn⟩
        dsimp only at hj hn ⊢
        conv=>whnf
        repeat (refine gK ?_;conv=>whnf)
        cases gj:decide ((j:Int)<W.length)
        ·have gj:j=W.length:=by have:=of_decide_eq_false gj;omega
         subst gj
         rw [List.take_length] at hn
         rw [←hn] at l7
         conv=>whnf
         repeat (refine gK ?_;conv=>whnf)
         refine ALoop.frz 12 ?_
         conv=>whnf
         refine ⟨by omega,?_⟩
         conv=>whnf
         refine ALoop.introDE TMnOk followsB (fun x:{x:Nat×List (Int×Ch)×As // x.1+x.2.1.length=W.length∧Inv s x.2.1 x.2.2}=>([(2,.d (slT 1 St.encI order)),(8,.ptr 33000 0),(12,.d (slT 15 encSnt x.1.2.1)),(14,vi n),(16,vi x.1.1)],prM { P with b:=x.1.2.2})) (fun x=>x.1.2.1.length) ⟨(0,W,P.b),by simp,l5⟩ ?_ ?_ ?_
         ·(repeat' (first|exact ⟨⟩|exact OLe.refl _|exact .refl _|exact .nil|exact rfl|refine ⟨?_,?_⟩|fail))
         ·dsimp only
          conv=>whnf
          (repeat' (first|exact ⟨⟩|exact OLe.refl _|exact .refl _|exact .nil|exact rfl|refine ⟨?_,?_⟩|fail))
         ·rintro ⟨⟨i,own,b⟩,hio,hinv⟩
          dsimp only at hio hinv ⊢
          conv=>whnf
          repeat (refine gK ?_;conv=>whnf)
          cases go:decide ((0:Int)<own.length)
          ·have go:own.length=0:=by have:=of_decide_eq_false go;omega
           obtain rfl:own=[]:=List.length_eq_zero_iff.1 go
           obtain ⟨r1,r2,r3,r4,r5,r6⟩:=l7 b hinv
           have hrd:=readB_specP { P with b:=b} r1 (by omega)
           have hgd:=good_specP ({ P with b:=b}:Pr).readB r4 r5 r6
           conv=>whnf
           repeat (refine gK ?_;conv=>whnf)
           refine ⟨_,hrd,?_⟩
           rintro q hq ⟨rfl,rfl⟩
           unfold ABack
           generalize hfr:freshN _ _ _ _=fb
           have hb:fb=true:=by
            rw [←hfr]
            conv=>lhs;whnf
           subst hb
           clear hfr
           dsimp only
           conv=>whnf
           try dsimp only [newBase,Nat.reduceAdd,Nat.reduceMul]
           repeat (refine gK ?_;conv=>whnf)
           rw [show ((({ P with b:=b}:Pr).readB.rb.length:Int)==(n:Int))=true from by rw [r3];simp]
           conv=>whnf
           repeat (refine gK ?_;conv=>whnf)
           generalize hQ:({ P with b:=b}:Pr).readB=Q at hgd ⊢
           refine ⟨_,hgd,?_⟩
           rintro q hq ⟨rfl,rfl⟩
           unfold ABack
           generalize hfr:freshN _ _ _ _=fb
           have hb:fb=true:=by
            rw [←hfr]
            conv=>lhs;whnf
           subst hb
           clear hfr
           dsimp only
           conv=>whnf
           try dsimp only [newBase,Nat.reduceAdd,Nat.reduceMul]
           repeat (refine gK ?_;conv=>whnf)
           exact ⟨_,.refl _,rfl,rfl⟩
          ·have go:0<own.length:=by have:=of_decide_eq_true go;omega
           conv=>whnf
           repeat (refine gK ?_;conv=>whnf)
           cases gc:decide ((i:Int)<order.length)
           ·obtain ⟨x,hx⟩:∃x,own.getD 0 default=x:=⟨_,rfl⟩
            have hx0:own.getD (Int.toNat 0) default=x:=hx
            obtain ⟨⟨t1,t2,t3,t4,t5,t6⟩,hnx⟩:=l6 own b hinv 0 go
            rw [hx] at t1 t2 t3 t5 hnx
            conv=>whnf
            repeat (refine gK ?_;conv=>whnf)
            rw [hx0]
            refine ⟨_,_,(takeD_spec b x.2 0 0 t1 t2 t3 t4 t5 (by decide) ⟨by decide,by omega⟩),?_⟩
            conv=>whnf
            try dsimp only [newBase,Nat.reduceAdd,Nat.reduceMul]
            refine gR ?_
            conv=>whnf
            repeat (refine gK ?_;conv=>whnf)
            rw [show Int.toNat 0=0 from rfl]
            refine ⟨⟨by omega,by omega,by simp only [ty46];omega⟩,?_⟩
            conv=>whnf
            conv=>whnf
            repeat (refine gK ?_;conv=>whnf)
            refine ⟨⟨by omega,by omega,by simp only [ty46];omega⟩,?_⟩
            conv=>whnf
            conv=>whnf
            repeat (refine gK ?_;conv=>whnf)
            refine gR ?_
            conv=>whnf
            repeat (refine gK ?_;conv=>whnf)
            refine AEnd.frz 12 ?_
            conv=>whnf
            refine ⟨by omega,?_⟩
            refine AEnd.done ?_
            have hol:(own.take 0++own.drop (0+1)).length=0+(own.length-(0+1)):=by rw [List.length_append,List.length_take,List.length_drop];omega
            refine ⟨⟨(i+1,own.take 0++own.drop (0+1),tookA b x.2),by dsimp only;omega,hnx⟩,[(156000,33022),(156001,33023),(156002,33024),(156003,33025)],by dsimp only;omega,?_,?_⟩
            ·(repeat' (first|exact ⟨⟩|exact OLe.refl _|exact .refl _|exact .nil|exact rfl|refine ⟨?_,?_⟩|fail))
             conv=>whnf
             exact .sl (by dsimp only;omega) fun j hj=>cells_cut own 0 (by omega) _ j
            ·dsimp only
             conv=>whnf
             (repeat' (first|exact ⟨⟩|exact OLe.refl _|exact .refl _|exact .nil|exact rfl|refine ⟨?_,?_⟩|fail))
           ·have gc:i<order.length:=by have:=of_decide_eq_true gc;omega
            have hoc:=ho (order.getD i default) (by rw [List.getD_eq_getElem?_getD,List.getElem?_eq_getElem gc];exact List.getElem_mem _)
            conv=>whnf
            repeat (refine gK ?_;conv=>whnf)
            refine ⟨_,pick_specL (order.getD (i:Int).toNat default) own.length (by rw [tnC];exact hoc) go (by omega),?_⟩
            rintro q rfl
            have hkl:=pickN_lt (order.getD (i:Int).toNat default) own.length go
            generalize pickN (order.getD (i:Int).toNat default) own.length=k at hkl ⊢
            obtain ⟨x,hx⟩:∃x,own.getD k default=x:=⟨_,rfl⟩
            have hx0:own.getD (k:Int).toNat default=x:=by rw [tnC,hx]
            obtain ⟨⟨t1,t2,t3,t4,t5,t6⟩,hnx⟩:=l6 own b hinv k hkl
            rw [hx] at t1 t2 t3 t5 hnx
            conv=>whnf
            repeat (refine gK ?_;conv=>whnf)
            rw [hx0]
            refine ⟨_,_,(takeD_spec b x.2 0 0 t1 t2 t3 t4 t5 (by decide) ⟨by decide,by omega⟩),?_⟩
            conv=>whnf
            try dsimp only [newBase,Nat.reduceAdd,Nat.reduceMul]
            refine gR ?_
            conv=>whnf
            repeat (refine gK ?_;conv=>whnf)
            rw [show (k:Int).toNat=k from tnC k]
            refine ⟨⟨by omega,by omega,by simp only [ty46];omega⟩,?_⟩
            conv=>whnf
            conv=>whnf
            repeat (refine gK ?_;conv=>whnf)
            refine ⟨⟨by omega,by omega,by simp only [ty46];omega⟩,?_⟩
            conv=>whnf
            conv=>whnf
            repeat (refine gK ?_;conv=>whnf)
            refine gR ?_
            conv=>whnf
            repeat (refine gK ?_;conv=>whnf)
            refine AEnd.frz 12 ?_
            conv=>whnf
            refine ⟨by omega,?_⟩
            refine AEnd.done ?_
            have hol:(own.take k++own.drop (k+1)).length=k+(own.length-(k+1)):=by rw [List.length_append,List.length_take,List.length_drop];omega
            refine ⟨⟨(i+1,own.take k++own.drop (k+1),tookA b x.2),by dsimp only;omega,hnx⟩,[(156000,33022),(156001,33023),(156002,33024),(156003,33025)],by dsimp only;omega,?_,?_⟩
            ·(repeat' (first|exact ⟨⟩|exact OLe.refl _|exact .refl _|exact .nil|exact rfl|refine ⟨?_,?_⟩|fail))
             conv=>whnf
             exact .sl (by dsimp only;omega) fun j hj=>cells_cut own k (by omega) _ j
            ·dsimp only
             conv=>whnf
             (repeat' (first|exact ⟨⟩|exact OLe.refl _|exact .refl _|exact .nil|exact rfl|refine ⟨?_,?_⟩|fail))
        ·have gj:j<W.length:=by have:=of_decide_eq_true gj;omega
         obtain ⟨x,hx⟩:∃x,W.getD j default=x:=⟨_,rfl⟩
         have hx0:W.getD (0+(j:Int).toNat) default=x:=by rw [tnC,Nat.zero_add,hx]
         have hnl:n≤j:=by rw [hn];unfold wholeS;exact Nat.le_trans (List.length_filter_le _ _) (List.length_take_le _ _)
         conv=>whnf
         repeat (refine gK ?_;conv=>whnf)
         rw [hx0]
         cases ge:(x.2.flags.tmod 2==1)
         ·have hno:isE (W.getD j default)=false:=by rw [hx];exact ge
          conv=>whnf
          repeat (refine gK ?_;conv=>whnf)
          refine ⟨⟨(j+1,n),gj,by dsimp only;rw [hn];unfold wholeS;rw [filter_no isE W gj hno]⟩,[],by (try dsimp only);omega,?_,?_⟩
          ·(repeat' (first|exact ⟨⟩|exact OLe.refl _|exact .refl _|exact .nil|exact rfl|refine ⟨?_,?_⟩|fail))
          ·try dsimp only
           conv=>whnf
           (repeat' (first|exact ⟨⟩|exact OLe.refl _|exact .refl _|exact .nil|exact rfl|refine ⟨?_,?_⟩|fail))
         ·have hyes:isE (W.getD j default)=true:=by rw [hx];exact ge
          conv=>whnf
          repeat (refine gK ?_;conv=>whnf)
          refine ⟨⟨(j+1,n+1),gj,by dsimp only;rw [hn];unfold wholeS;rw [filter_yes isE W gj hyes];simp⟩,[],by (try dsimp only);omega,?_,?_⟩
          ·(repeat' (first|exact ⟨⟩|exact OLe.refl _|exact .refl _|exact .nil|exact rfl|refine ⟨?_,?_⟩|fail))
          ·try dsimp only
           conv=>whnf
           (repeat' (first|exact ⟨⟩|exact OLe.refl _|exact .refl _|exact .nil|exact rfl|refine ⟨?_,?_⟩|fail))
      ·have gk:k<P.wa.length:=by have:=of_decide_eq_true gk;omega
       obtain ⟨x,hx⟩:∃x,P.wa.getD k default=x:=⟨_,rfl⟩
       have hx0:P.wa.getD (0+(k:Int).toNat) default=x:=by rw [tnC,Nat.zero_add,hx]
       have hxs:=l4.st x (by rw [←hx,List.getD_eq_getElem?_getD,List.getElem?_eq_getElem gk];exact List.getElem_mem _)
       conv=>whnf
       repeat (refine gK ?_;conv=>whnf)
       rw [hx0]
       cases g2:(x.2.ty==0)
       ·have hno:isO s (P.wa.getD k default)=false:=by rw [hx];unfold isO;rw [g2];rfl
        conv=>whnf
        repeat (refine gK ?_;conv=>whnf)
        refine ⟨⟨(k+1,W),gk,by dsimp only;rw [hW];unfold ownS;rw [filter_no (isO s) P.wa gk hno]⟩,[],by (try dsimp only);omega,?_,?_⟩
        ·(repeat' (first|exact ⟨⟩|exact OLe.refl _|exact .refl _|exact .nil|exact rfl|refine ⟨?_,?_⟩|fail))
        ·try dsimp only
         conv=>whnf
         (repeat' (first|exact ⟨⟩|exact OLe.refl _|exact .refl _|exact .nil|exact rfl|refine ⟨?_,?_⟩|fail))
       ·conv=>whnf
        repeat (refine gK ?_;conv=>whnf)
        rw [hx0]
        conv=>whnf
        repeat (refine gK ?_;conv=>whnf)
        cases g3:(x.2.stream==(s:Int))
        ·have hno:isO s (P.wa.getD k default)=false:=by rw [hx];unfold isO;rw [g2,g3];rfl
         conv=>whnf
         repeat (refine gK ?_;conv=>whnf)
         refine ⟨⟨(k+1,W),gk,by dsimp only;rw [hW];unfold ownS;rw [filter_no (isO s) P.wa gk hno]⟩,[],by (try dsimp only);omega,?_,?_⟩
         ·(repeat' (first|exact ⟨⟩|exact OLe.refl _|exact .refl _|exact .nil|exact rfl|refine ⟨?_,?_⟩|fail))
         ·try dsimp only
          conv=>whnf
          (repeat' (first|exact ⟨⟩|exact OLe.refl _|exact .refl _|exact .nil|exact rfl|refine ⟨?_,?_⟩|fail))
        ·have hyes:isO s (P.wa.getD k default)=true:=by rw [hx];unfold isO;rw [g2,g3];rfl
         have hWl:W.length≤2 ^ 20:=by rw [hW];exact Nat.le_trans (List.length_filter_le _ _) (Nat.le_trans (List.length_take_le _ _) (by omega))
         conv=>whnf
         repeat (refine gK ?_;conv=>whnf)
         rw [hx0]
         conv=>whnf
         repeat (refine gK ?_;conv=>whnf)
         refine ⟨⟨⟨rfl,by omega,by simp only [ty46];omega⟩,by omega⟩,?_⟩
         conv=>whnf
         repeat (refine gK ?_;conv=>whnf)
         have hln:W.length+1=(W++[x]).length:=by simp
         refine ⟨⟨(k+1,W++[x]),gk,by dsimp only;rw [hW];unfold ownS;rw [filter_yes (isO s) P.wa gk hyes,hx]⟩,[(111,3000)],by dsimp only;omega,?_,?_⟩
         ·(repeat' (first|exact ⟨⟩|exact OLe.refl _|exact .refl _|exact .nil|exact rfl|refine ⟨?_,?_⟩|fail))
          conv=>whnf
          exact .of_eq (congrArg (AVal.rsl 3000 15 0) hln)
         ·dsimp only
          conv=>whnf
          (repeat' (first|exact ⟨⟩|exact OLe.refl _|exact .refl _|exact .nil|exact rfl|refine ⟨?_,?_⟩|fail))
          ·exact hln
          ·exact fun j hj=>slT_app encSnt W x j hj rfl
    ·have gi:i<T.length:=by have:=of_decide_eq_true gi;omega
     obtain ⟨x,hx⟩:∃x,T.getD i default=x:=⟨_,rfl⟩
     have hx0:T.getD (i:Int).toNat default=x:=by rw [tnC,hx]
     conv=>whnf
     repeat (refine gK ?_;conv=>whnf)
     rw [hx0]
     cases gx:decide ((1500:Int)<x.length)
     ·have gx:x.length≤1500:=by have:=of_decide_eq_false gx;omega
      obtain ⟨s1,s2,s3,s4⟩:=sok i gi gT ht
      rw [←hq] at s1 s2 s3 s4
      conv=>whnf
      repeat (refine gK ?_;conv=>whnf)
      rw [hx0]
      rw [show ((i:Int).tmod 4)=((i % 4:Nat):Int) from by rw [Int.tmod_eq_emod_of_nonneg (by omega)];omega]
      refine ⟨_,(sendA_specP q (i % 4) false x s1 s2 s3 (by omega) (by omega) s4),?_⟩
      rintro q hq ⟨rfl,rfl⟩
      unfold ABack
      generalize hfr:freshN _ _ _ _=fb
      have hb:fb=true:=by
       rw [←hfr]
       conv=>lhs;whnf
      subst hb
      clear hfr
      dsimp only
      conv=>whnf
      try dsimp only [newBase,Nat.reduceAdd,Nat.reduceMul]
      repeat (refine gK ?_;conv=>whnf)
      refine ⟨⟨(i+1,q.sendA (i % 4) false x),gi,fun t hm=>by rw [List.take_succ_eq_append_getElem gi,List.mem_append] at hm;exact hm.elim (ht t) (fun h=>by rw [List.mem_singleton.1 h,show T[i]=x from by rw [←hx,List.getD_eq_getElem?_getD,List.getElem?_eq_getElem gi];rfl];exact gx),by rw [hq,←hx];rfl⟩,[(57000,33016),(57001,33017),(57002,33018),(57003,33019),(57004,33010)],by (try dsimp only);omega,?_,?_⟩
      ·(repeat' (first|exact ⟨⟩|exact OLe.refl _|exact .refl _|exact .nil|exact rfl|refine ⟨?_,?_⟩|fail))
      ·try dsimp only
       conv=>whnf
       (repeat' (first|exact ⟨⟩|exact OLe.refl _|exact .refl _|exact .nil|exact rfl|refine ⟨?_,?_⟩|fail))
     ·conv=>whnf
      repeat (refine gK ?_;conv=>whnf)
      exact ⟨_,.refl _,rfl,rfl⟩
  ·conv=>whnf
   repeat (refine gK ?_;conv=>whnf)
   exact ⟨_,.refl _,rfl,rfl⟩
 ·conv=>whnf
  repeat (refine gK ?_;conv=>whnf)
  exact ⟨_,.refl _,rfl,rfl⟩
end Go.Proofs.YtbkcekmahdbgdaaGreat
