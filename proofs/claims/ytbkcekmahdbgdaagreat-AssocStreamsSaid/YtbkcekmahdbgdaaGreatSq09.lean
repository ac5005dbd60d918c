/- AssocStreams: the engine, contracts and plain laws that its proof leans on, part 09. -/
import Derived.Test.YtbkcekmahdbgdaaGreatSq08
import Derived.Test.YtbkcekmahdbgdaaGreatChecked
import Derived.Shelf.Spec.SlicesInsertGrow
import Derived.Laws.AppendOwn
import Derived.Deep.RegionLaw
import Derived.Sort.WalkB12
import Derived.Lib.SliceRun
import Derived.Shelf.SlicesE.Delete
namespace Go.Proofs.YtbkcekmahdbgdaaGreat
open Go Go.RowKit Towline Towline.Hand Towline.Ac
set_option linter.unusedVariables false
set_option linter.unusedSimpArgs false
set_option maxRecDepth 20000
set_option maxHeartbeats 4000000
theorem lheap1F {P:Program} {f:FuncId} {args:List AVal} {i:Nat} {o o':AObj} {post:AVal→Heap→Prop} (h:LSpec P f args [(i,o)] post) (ho:OLe o' o):LSpec P f args [(i,o')] post:=by
 have e1:∀(o:AObj) id x,lookO id [(i,o)]=some x→id=i∧x=o:=fun o id x hx=>by
  simp only [lookO] at hx
  split at hx
  ·rename_i hb
   exact ⟨(Nat.eq_of_beq_eq_true hb).symm,by cases hx;rfl⟩
  ·cases hx
 have e2:∀o:AObj,lookO i [(i,o)]=some o:=fun o=>by simp [lookO]
 have e:∀L,owned L (lko [(i,o')])=owned L (lko [(i,o)]):=fun L=>funext fun b=>propext
  ⟨fun ⟨id,x,k1,k2⟩=>by obtain ⟨rfl,rfl⟩:=e1 _ _ _ k1;exact ⟨id,o,e2 o,k2⟩,fun ⟨id,x,k1,k2⟩=>by obtain ⟨rfl,rfl⟩:=e1 _ _ _ k1;exact ⟨id,o',e2 o',k2⟩⟩
 refine ⟨h.1,fun w R L vs k0 k1 k2 k3 k4 k5 k6 k7=>?_⟩
 refine (h.2 w R L vs k0 k1 k2 (fun b=>by rw [k3 b,e]) k4 (fun id x hx=>?_) (fun a b oa ob bb ha hb=>?_) (fun id x b hx=>?_)).mono ?_
 ·obtain ⟨rfl,rfl⟩:=e1 _ _ _ hx
  exact (k5 _ _ (e2 o')).weaken ho
 ·obtain ⟨rfl,rfl⟩:=e1 _ _ _ ha
  obtain ⟨rfl,rfl⟩:=e1 _ _ _ hb
  exact fun _ _=>rfl
 ·obtain ⟨rfl,rfl⟩:=e1 _ _ _ hx
  exact k7 _ _ b (e2 o')
 ·rintro e' w' ⟨v,r,hl',L',m1,m2,m3,m4⟩
  refine ⟨v,r,hl',L',m1,m2,⟨?_,?_,m3.inj,?_,?_⟩,?_⟩
  ·rw [e];exact m3.below
  ·have:=m3.obj
   unfold lgood at this ⊢
   rw [e];exact this
  ·have:=m3.own
   rw [e];exact this
  ·intro id x x' hx hx'
   obtain ⟨rfl,rfl⟩:=e1 _ _ _ hx
   exact m3.kept _ _ _ (e2 o) hx'
  ·unfold lgood at m4 ⊢
   rw [e];exact m4
theorem fcatB (s t:List UInt8) (k:Nat) (hk:k<s.length+t.length):fcat (bytesF s) s.length (bytesF t) k=bytesF (s++t) k:=by
 unfold fcat bytesF
 split
 ·rename_i h
  rw [List.getD_eq_getElem?_getD,List.getD_eq_getElem?_getD,List.getElem?_append_left h]
 ·rename_i h
  rw [List.getD_eq_getElem?_getD,List.getD_eq_getElem?_getD,List.getElem?_append_right (by omega)]
def textF (l:List Fp) (pl:List Nat):List UInt8:=(pl.map fun i=>(l.getD i default).text).flatten
abbrev TPu:Tys:=tysX false [] [(137,[]),(138,[]),(139,[]),(140,[])] [244]
theorem tysPuOk:TysOk Tryz.prog TPu:=tysXOk _ _ _ _
def em (L:List Fp) (ks:List Nat):List Fp:=ks.foldl (fun L i=>L.set i { L.getD i default with text:=[]}) L
theorem em_len (L:List Fp):∀ks,(em L ks).length=L.length:=by
 intro ks
 unfold em
 induction ks generalizing L with
 |nil=>rfl
 |cons i r ih=>rw [List.foldl_cons,ih,List.length_set]
theorem em_getD (L:List Fp) (ks:List Nat) (i:Nat) (h:i∉ks):(em L ks).getD i default=L.getD i default:=by
 unfold em
 induction ks generalizing L with
 |nil=>rfl
 |cons j r ih=>
  rw [List.foldl_cons,ih _ (fun h'=>h (List.mem_cons_of_mem _ h')),List.getD_eq_getElem?_getD,List.getElem?_set_ne (fun e=>h (by rw [e];exact List.mem_cons_self)),←List.getD_eq_getElem?_getD]
theorem em_snoc (L:List Fp) (pl:List Nat) (k:Nat) (h:k<pl.length):em L (pl.take (k+1))=(em L (pl.take k)).set (pl.getD k default) { (em L (pl.take k)).getD (pl.getD k default) default with text:=[]}:=by
 rw [take_snoc pl k h]
 unfold em
 rw [List.foldl_append];rfl
theorem textF_take (L:List Fp) (pl:List Nat) (k:Nat) (h:k<pl.length):textF L (pl.take (k+1))=textF L (pl.take k)++(L.getD (pl.getD k default) default).text:=by
 unfold textF
 rw [take_snoc pl k h,List.map_append,List.flatten_append];simp
theorem textF_le (L:List Fp) (pl:List Nat) (k:Nat):(textF L (pl.take k)).length≤(textF L pl).length:=by
 unfold textF
 conv=>rhs;rw [←List.take_append_drop k pl,List.map_append,List.flatten_append,List.length_append]
 omega
theorem not_mem_take {pl:List Nat} (hn:pl.Nodup) {k:Nat} (h:k<pl.length):pl.getD k default∉pl.take k:=by
 intro hm
 obtain ⟨j,hj,e⟩:=List.getElem_of_mem hm
 rw [List.length_take] at hj
 rw [List.getElem_take,List.getD_eq_getElem?_getD,List.getElem?_eq_getElem h] at e
 exact List.pairwise_iff_getElem.1 hn j k (by omega) h (by omega) e
abbrev pOfW:Nat→AVal
 |0=>nilP
 |_+1=>.ptr 11 0
abbrev fmL (x:Fp):List AVal:=[v32 x.tsn,vb x.f,v16 x.stream,v16 x.ssn,v32 x.ppid,vs []]
abbrev SW (l : List Fp) (p : Fp) (pl : List Nat) (x : Fp) (k : Nat) : Env × Heap :=
  ([(4, .ptr 4 0), (5, .ptr 5 0), (6, vb false), (7, .rsl 30 8 0 (l.length + 1)), (10, .ptr 10 0), (11, .ptr 11 0), (55, .rsl 33000 1 0 pl.length), (56, vi pl.length), (57, vi k)],
   [(11, .box [pOfW k, .rsl 1000 1 0 (textF (l ++ [p]) (pl.take k)).length] (some 244)), (1000, .row 5 1 (textF (l ++ [p]) (pl.take k)).length (bytesF (textF (l ++ [p]) (pl.take k)))), (10, .box (fmL x)), (30, .row 167 8 (l.length + 1) fun j => encFp ((em (l ++ [p]) (pl.take k)).getD j default)), (33000, rowJ pl), (4, .box [.d nilD]), (5, .box (fmL ⟨0, false, false, false, 0, 0, 0, []⟩))])
def wholeM (L:List Fp) (pl:List Nat):Fm:=⟨(L.getD (pl.getD 0 default) default).tsn,(L.getD (pl.getD 0 default) default).f,(L.getD (pl.getD 0 default) default).stream,(L.getD (pl.getD 0 default) default).ssn,(L.getD (pl.getD 0 default) default).ppid,textF L pl⟩
theorem fput_whole (l:List Fp) (p:Fp) (hl:l.length<2 ^ 29) (h0:p.text≠[]) (hn:(l.any fun x=>x.tsn==p.tsn)=false) (hnd:(l.map (·.tsn)).Nodup) (hu:∀x∈l++[p],0≤x.tsn∧x.tsn<4294967296) (pl:List Nat) (hpl:pl≠[]) (hpn:pl.Nodup) (hpi:∀i∈pl,i<(l++[p]).length) (hpb:pl.length≤2 ^ 30) (htb:(textF (l++[p]) pl).length≤2 ^ 30) (hr:rowF (l++[p])=some pl) :
  PSpec Tryz.prog 77 [bagA l,fpA p] (· = .tup [bagA ((em (l++[p]) pl).filter fun c=>!delT c),fmA (wholeM (l++[p]) pl),vb true]):=by
 have hnd':((l++[p]).map (·.tsn)).Nodup:=by
  rw [List.map_append,List.nodup_append]
  refine ⟨hnd,by simp,fun a ha b hb e=>?_⟩
  obtain ⟨x,hx,rfl⟩:=List.mem_map.1 ha
  have:b=p.tsn:=by simpa using hb
  rw [List.any_eq_false] at hn
  exact hn x hx (by simpa using e.trans this)
 have hne:l++[p]≠[]:=by simp
 have htot:∀k,(textF (l++[p]) (pl.take k)).length≤2 ^ 30:=fun k=>Nat.le_trans (textF_le _ _ k) htb
 have hrow:=row_lspec (l++[p]) hne (by simp;omega) hnd' hu
 rw [hr] at hrow
 have hrow2:=lheap1F (o':=.row 167 8 (l.length+1) (fcat (fun k=>encFp (l.getD k default)) l.length fun k=>([D.i .u32 p.tsn,D.b p.b,D.b p.e,D.b p.f,D.i .u16 p.stream,D.i .u16 p.ssn,D.i .u32 p.ppid,D.s p.text]::replF 0 ty167.zero).getD k [])) hrow ⟨rfl,rfl,by simp,fun k hk=>slT_app encFp l p k (by simpa using hk) rfl⟩
 rw [show (l++[p]).length=l.length+1 from by simp] at hrow2
 refine PSpec.run (tysPuOk) followsB Tryz.func77 (by decide) rfl Tryz.ntmps77 (Nat.le_of_ble_eq_true rfl) rfl fun w0 R0 hGw=>?_
 conv=>whnf
 rw [show (p.text==[])=false from beq_eq_false_iff_ne.2 h0]
 conv=>whnf
 refine ⟨_,(containsP_spec p l (by omega)),?_⟩
 rintro q rfl
 conv=>whnf
 rw [hn]
 conv=>whnf
 refine ⟨_,(cloneFp_spec encFp l (by omega)),?_⟩
 conv=>whnf
 refine ⟨⟨⟨rfl,by omega,by simp only [ty167];omega⟩,Nat.le_refl _⟩,?_⟩
 conv=>whnf
 refine gR ?_
 conv=>whnf
 refine ⟨_,hrow2,?_⟩
 rintro q hq ⟨rfl,rfl⟩
 conv=>whnf
 have hplp:0<pl.length:=List.length_pos_iff.2 hpl
 intro b hb
 obtain rfl:=hb hplp
 conv=>whnf
 dsimp only [newBase,Nat.reduceAdd,Nat.reduceMul]
 refine ⟨by first|omega|exact ⟨by omega,by omega⟩,?_⟩
 conv=>whnf
 refine ⟨by omega,?_⟩
 conv=>whnf
 rw [show pl.getD (0+Int.toNat 0) default=pl.getD 0 default from rfl]
 have hi0:pl.getD 0 default<l.length+1:=by
  have:=hpi _ (getD_mem' (l:=pl) hplp)
  simpa using this
 generalize hge:pl.getD 0 default=i0 at hi0
 refine ⟨by omega,?_⟩
 conv=>whnf
 refine ⟨by rw [List.length_append];simp;omega,?_⟩
 conv=>whnf
 rw [Nat.zero_add,tnC]
 generalize hx:(l++[p]).getD i0 default=x
 refine ALoop.adoptCell 11 1 1000 1 5 (bytesF []) rfl rfl rfl rfl rfl ?_
 refine ALoop.introR tysPuOk followsB (fun k:{k // k≤pl.length}=>SW l p pl x k.1) (fun k=>pl.length-k.1) ⟨0,by omega⟩ ?_ ?_
 ·refine ⟨.refl _,.refl _,.refl _,.refl _,.refl _,.refl _,.refl _,.refl _,.refl _,?_⟩
  exact ⟨⟨⟨.refl _,.refl _,trivial⟩,rfl⟩,⟨rfl,rfl,rfl,fun k hk=>by simp [textF] at hk⟩,OLe.refl _,⟨rfl,rfl,by simp,fun k hk=>rfl⟩,OLe.refl _,OLe.refl _,OLe.refl _,trivial⟩
 ·rintro ⟨k,hk⟩
  dsimp only
  rcases k with _|k
  ·
   conv=>whnf
   split<;>rename_i hlt
   ·have hlt:0<pl.length:=Int.ofNat_lt.1 (of_decide_eq_true hlt)
    have hi1:pl.getD (0) default<l.length+1:=by
     have:=hpi _ (getD_mem' (l:=pl) hlt)
     simpa using this
    conv=>whnf
    refine gO ?_
    conv=>whnf
    refine ⟨by first|omega|(simp;omega),?_⟩
    conv=>whnf
    rw [Nat.zero_add,tnC]
    have hni:=not_mem_take hpn hlt
    have htx:=textF_take (l++[p]) pl 0 hlt
    have hem:=em_getD (l++[p]) (pl.take 0) _ hni
    have hes:=em_snoc (l++[p]) pl 0 hlt
    generalize pl.getD 0 default=i at hi1 hni htx hem hes
    refine ⟨by omega,?_⟩
    conv=>whnf
    refine ⟨by first|omega|(rw [List.length_append];simp;omega),?_⟩
    conv=>whnf
    rw [Nat.zero_add,tnC,hem]
    refine ⟨_,writeS_fresh _ _ _ (by have:=htot (0+1);rw [htx,List.length_append] at this;omega),?_⟩
    rintro q hq ⟨rfl,rfl⟩
    conv=>whnf
    refine ⟨by omega,?_⟩
    conv=>whnf
    refine ⟨by first|omega|(rw [List.length_append];simp;omega),?_⟩
    conv=>whnf
    refine gO ?_
    conv=>whnf
    refine ⟨⟨0+1,by omega⟩,[(67000,1000)],by dsimp only;omega,.refl _,.refl _,.refl _,.refl _,.refl _,.refl _,.refl _,.refl _,.refl _,⟨⟨.refl _,.of_eq (congrArg (AVal.rsl 1000 1 0) (by rw [htx,List.length_append])),trivial⟩,rfl⟩,⟨rfl,rfl,?_,fun j hj=>?_⟩,OLe.refl _,⟨rfl,rfl,rfl,fun j hj=>?_⟩,OLe.refl _,OLe.refl _,OLe.refl _,trivial⟩
    ·dsimp only;rw [htx,List.length_append]
    ·dsimp only
     rw [htx]
     exact fcatB _ _ j hj
    ·dsimp only
     rw [hes,Nat.zero_add,tnC]
     exact fupd_set (em (l++[p]) (pl.take 0)) i { (em (l++[p]) (pl.take 0)).getD i default with text:=[]} (by rw [em_len,List.length_append];exact hi1) j
   ·exact absurd hplp (by have:=of_decide_eq_false hlt;omega)
  ·
   conv=>whnf
   split<;>rename_i hlt
   ·have hlt:k+1<pl.length:=Int.ofNat_lt.1 (of_decide_eq_true hlt)
    have hi1:pl.getD (k+1) default<l.length+1:=by
     have:=hpi _ (getD_mem' (l:=pl) hlt)
     simpa using this
    conv=>whnf
    refine gO ?_
    conv=>whnf
    refine ⟨by first|omega|(simp;omega),?_⟩
    conv=>whnf
    rw [Nat.zero_add,tnC]
    have hni:=not_mem_take hpn hlt
    have htx:=textF_take (l++[p]) pl (k+1) hlt
    have hem:=em_getD (l++[p]) (pl.take (k+1)) _ hni
    have hes:=em_snoc (l++[p]) pl (k+1) hlt
    generalize pl.getD (k+1) default=i at hi1 hni htx hem hes
    refine ⟨by omega,?_⟩
    conv=>whnf
    refine ⟨by first|omega|(rw [List.length_append];simp;omega),?_⟩
    conv=>whnf
    rw [Nat.zero_add,tnC,hem]
    refine ⟨_,writeS_used _ _ _ (by have:=htot ((k+1)+1);rw [htx,List.length_append] at this;omega),?_⟩
    rintro q hq ⟨rfl,rfl⟩
    conv=>whnf
    refine ⟨by omega,?_⟩
    conv=>whnf
    refine ⟨by first|omega|(rw [List.length_append];simp;omega),?_⟩
    conv=>whnf
    refine gO ?_
    conv=>whnf
    refine ⟨⟨(k+1)+1,by omega⟩,[(67000,1000)],by dsimp only;omega,.refl _,.refl _,.refl _,.refl _,.refl _,.refl _,.refl _,.refl _,.refl _,⟨⟨.refl _,.of_eq (congrArg (AVal.rsl 1000 1 0) (by rw [htx,List.length_append])),trivial⟩,rfl⟩,⟨rfl,rfl,?_,fun j hj=>?_⟩,OLe.refl _,⟨rfl,rfl,rfl,fun j hj=>?_⟩,OLe.refl _,OLe.refl _,OLe.refl _,trivial⟩
    ·dsimp only;rw [htx,List.length_append]
    ·dsimp only
     rw [htx]
     exact fcatB _ _ j hj
    ·dsimp only
     rw [hes,Nat.zero_add,tnC]
     exact fupd_set (em (l++[p]) (pl.take (k+1))) i { (em (l++[p]) (pl.take (k+1))).getD i default with text:=[]} (by rw [em_len,List.length_append];exact hi1) j
   ·have hlt:¬k+1<pl.length:=fun h=>of_decide_eq_false hlt (Int.ofNat_lt.2 h)
    have hke:k+1=pl.length:=by omega
    have htk:pl.take (k+1)=pl:=by rw [hke,List.take_length]
    conv=>whnf
    refine ⟨_,(str_spec _ _ _ (textF (l++[p]) (pl.take (k+1))) rfl (fun _ _=>rfl)),?_⟩
    rintro q hq ⟨rfl,rfl⟩
    conv=>whnf
    have hdel:=deleteFp_spec (em (l++[p]) (pl.take (k+1))) (by rw [em_len];simp;omega) _ rfl
    rw [em_len,show (l++[p]).length=l.length+1 from by simp] at hdel
    refine ⟨_,_,hdel,?_⟩
    conv=>whnf
    try dsimp only [newBase,Nat.reduceAdd,Nat.reduceMul]
    refine gR ?_
    conv=>whnf
    have hkl:((em (l++[p]) (pl.take (k+1))).filter fun c=>!delT c).length≤l.length+1:=by
     have:=List.length_filter_le (fun c=>!delT c) (em (l++[p]) (pl.take (k+1)))
     rw [em_len,List.length_append] at this
     exact this
    refine ⟨by first|omega|(simp;omega),?_⟩
    conv=>whnf
    refine ⟨.tup [bagA ((em (l++[p]) (pl.take (k+1))).filter fun c=>!delT c),fmA ⟨x.tsn,x.f,x.stream,x.ssn,x.ppid,textF (l++[p]) (pl.take (k+1))⟩,vb true],.tup ⟨.agg ⟨.sl rfl (fun j hj=>by unfold delF;rw [if_pos hj]),trivial⟩,.refl _,.refl _,trivial⟩,?_,rfl⟩
    rw [htk]
    unfold wholeM
    rw [hge,hx]
end Go.Proofs.YtbkcekmahdbgdaaGreat
namespace Towline.Ac
theorem key_inj {cum a b:Int} (ha:0≤a∧a<4294967296) (hb:0≤b∧b<4294967296) (h:key cum a=key cum b):a=b:=by
 unfold key w32 at h;omega
end Towline.Ac
namespace Go.Proofs.YtbkcekmahdbgdaaGreat
open Go Go.RowKit Towline Towline.Hand Towline.Ac
set_option linter.unusedVariables false
set_option linter.unusedSimpArgs false
set_option maxRecDepth 20000
set_option maxHeartbeats 4000000
theorem found_eq {cum:Int} {l:List Int} {n:Int} (hp:l.Pairwise fun a b=>key cum a<key cum b) (hu:∀a∈l,0≤a∧a<4294967296) (hn:0≤n∧n<4294967296) :
  decide (posG cum l n<l.length∧key cum (l.getD (posG cum l n) default)=key cum n)=l.contains n:=by
 have hsort:∀a b,a<b→b<l.length→key cum (l.getD a default)<key cum (l.getD b default):=fun a b hab hb=>by
  have:=List.pairwise_iff_getElem.1 hp a b (by omega) hb hab
  simpa [List.getD_eq_getElem?_getD,List.getElem?_eq_getElem hb,List.getElem?_eq_getElem (show a<l.length from by omega)] using this
 rw [Bool.eq_iff_iff,decide_eq_true_iff,List.contains_iff_mem]
 constructor
 ·rintro ⟨h1,h2⟩
  have hm:=getD_mem' (l:=l) h1
  rw [←key_inj (hu _ hm) hn h2]
  exact hm
 ·intro h
  obtain ⟨a,ha,rfl⟩:=List.getElem_of_mem h
  have e:l.getD a default=l[a]:=by rw [List.getD_eq_getElem?_getD,List.getElem?_eq_getElem ha];rfl
  have hpos:=posG_eq (cum:=cum) l l[a] a (Nat.le_of_lt ha) (fun j hj=>by rw [←e];exact hsort j a hj ha) (fun j h1 h2=>by
   rw [←e]
   rcases Nat.lt_or_eq_of_le h1 with h|rfl
   ·have:=hsort a j h h2
    omega
   ·omega)
  rw [hpos,e]
  exact ⟨ha,rfl⟩
theorem wrapS (n:Int):IntKind.i32.wrap (IntKind.u32.wrap n)=sgn32 (w32 n):=by
 rw [wrapU]
 simp only [IntKind.wrap,IntKind.signed,IntKind.bits,sgn32,w32]
 simp
 split<;>omega
theorem gotHas_spec (cum:Int) (l:List Int) (y:D) (n:Int) (hl:l.length≤2 ^ 30) (hp:l.Pairwise fun a b=>key cum a<key cum b) (hu:∀a∈l,0≤a∧a<4294967296) (hn:0≤n∧n<4294967296) :
  PSpec Tryz.prog 75 [.agg [v32 cum,.d (slT 1 encU l),.d y],v32 n] (· = vb (hasG cum l n)):=by
 refine PSpec.run (tysOk) followsB Tryz.func75 (by decide) rfl Tryz.ntmps75 (Nat.le_of_ble_eq_true rfl) rfl fun w0 R0 hGw=>?_
 conv=>whnf
 have hpl:=place_spec cum l y n hl hp
 rw [found_eq hp hu hn] at hpl
 refine ⟨_,hpl,?_⟩
 rintro q rfl
 conv=>whnf
 cases hc:l.contains n
 ·conv=>whnf
  refine ⟨_,(dist_spec n cum),?_⟩
  rintro q rfl
  conv=>whnf
  rw [wrapS]
  exact ⟨_,.refl _,congrArg vb (by unfold hasG;rw [hc,Bool.false_or]),rfl⟩
 ·conv=>whnf
  exact ⟨_,.refl _,congrArg vb (by unfold hasG;rw [hc,Bool.true_or]),rfl⟩
end Go.Proofs.YtbkcekmahdbgdaaGreat
namespace Towline.Ac
def hold30 (n least:Int):Int:=max least (min n 1073741824)
structure Wn where
 cw:Int
 ss:Int
 pa:Int
def Wn.made (w:Wn):Wn:=⟨hold30 w.cw 1500,hold30 w.ss 0,hold30 w.pa 0⟩
def Wn.may (w:Wn) (out:Int):Bool:=decide (hold30 out 0<w.made.cw)
end Towline.Ac
namespace Go.Proofs.YtbkcekmahdbgdaaGreat
open Go Go.RowKit Towline Towline.Hand Towline.Ac
set_option linter.unusedVariables false
set_option linter.unusedSimpArgs false
set_option maxRecDepth 20000
set_option maxHeartbeats 4000000
abbrev wnA (w:Wn):AVal:=.agg [vi w.cw,vi w.ss,vi w.pa]
theorem whold_spec (n m:Int):PSpec Tryz.prog 148 [vi n,vi m] (· = vi (hold30 n m)):=by
 refine PSpec.run (tysOk) followsB Tryz.func148 (by decide) rfl Tryz.ntmps148 (Nat.le_of_ble_eq_true rfl) rfl fun w0 R0 hGw=>?_
 conv=>whnf
 exact ⟨_,.refl _,rfl,rfl⟩
theorem wmade_spec (w:Wn):PSpec Tryz.prog 199 [wnA w] (· = wnA w.made):=by
 refine PSpec.run (tysOk) followsB Tryz.func199 (by decide) rfl Tryz.ntmps199 (Nat.le_of_ble_eq_true rfl) rfl fun w0 R0 hGw=>?_
 conv=>whnf
 refine ⟨_,(whold_spec w.cw 1500),?_⟩
 conv=>whnf
 refine ⟨_,(whold_spec w.ss 0),?_⟩
 conv=>whnf
 refine ⟨_,(whold_spec w.pa 0),?_⟩
 conv=>whnf
 refine gR ?_
 conv=>whnf
 exact ⟨_,.refl _,rfl,rfl⟩
theorem wmay_spec (w:Wn) (out:Int):PSpec Tryz.prog 169 [wnA w,vi out] (· = vb (w.may out)):=by
 refine PSpec.run (tysOk) followsB Tryz.func169 (by decide) rfl Tryz.ntmps169 (Nat.le_of_ble_eq_true rfl) rfl fun w0 R0 hGw=>?_
 conv=>whnf
 refine ⟨_,(whold_spec out 0),?_⟩
 conv=>whnf
 refine ⟨_,(wmade_spec w),?_⟩
 conv=>whnf
 refine gR ?_
 conv=>whnf
 exact ⟨_,.refl _,rfl,rfl⟩
end Go.Proofs.YtbkcekmahdbgdaaGreat
namespace Towline.Ac
structure Tm where
 srtt:Int
 var:Int
 rto:Int
 backs:Int
 kn:Bool
end Towline.Ac
namespace Go.Proofs.YtbkcekmahdbgdaaGreat
open Go Go.RowKit Towline Towline.Hand Towline.Ac
set_option linter.unusedVariables false
set_option linter.unusedSimpArgs false
set_option maxRecDepth 20000
set_option maxHeartbeats 4000000
end Go.Proofs.YtbkcekmahdbgdaaGreat
namespace Towline.Ac
structure Pt where
 ad:List UInt8
 st:Int
 er:Int
 tm:Tm
 wn:Wn
 nonce:Int
 beaten:Int
 sent:Int
instance:Inhabited Pt:=⟨⟨[],0,0,⟨0,0,0,0,false⟩,⟨0,0,0⟩,0,0,0⟩⟩
structure Ps where
 l:List Pt
 pr:Int
 all:Int
def thereP (n:Nat) (i:Int):Bool:=decide (0≤i)&&decide (i<n)
def usable (l:List Pt) (i:Int):Bool:=thereP l.length i&&(l.getD i.toNat default).st==2
def firstU (l:List Pt) (no:Int):List Int→Option Int
 | []=>none
 |i::r=>if i≠no∧usable l i=true then some i else firstU l no r
def orderP (p:Ps):List Int:=p.pr::(List.range p.l.length).map (Int.ofNat ·)
def Ps.choose (p:Ps) (no:Int):Int:=match firstU p.l no (orderP p) with
 |some i=>i
 |none=>if usable p.l no then no else if thereP p.l.length p.pr then p.pr else -1
end Towline.Ac
namespace Go.Proofs.YtbkcekmahdbgdaaGreat
open Go Go.RowKit Towline Towline.Hand Towline.Ac
set_option linter.unusedVariables false
set_option linter.unusedSimpArgs false
set_option maxRecDepth 20000
set_option maxHeartbeats 4000000
abbrev F0:Nat:=1000000000
abbrev F1:Nat:=1000000001
abbrev F2:Nat:=1000000002
abbrev F3:Nat:=1000000003
abbrev F4:Nat:=1000000004
abbrev F5:Nat:=1000000005
abbrev F6:Nat:=1000000006
def encPt (p:Pt):List D:=[.s p.ad,.i .i64 p.st,.i .i64 p.er,.i .i64 p.tm.srtt,.i .i64 p.tm.var,.i .i64 p.tm.rto,.i .i64 p.tm.backs,.b p.tm.kn,.i .i64 p.wn.cw,.i .i64 p.wn.ss,.i .i64 p.wn.pa,.i .u32 p.nonce,.i .i64 p.beaten,.i .i64 p.sent]
abbrev ptD (l:List Pt):D:=slT 14 encPt l
abbrev psG (p:Ps):AVal:=.agg [.d (ptD p.l),vi p.pr,vi p.all]
theorem pthere_spec (p:Ps) (i:Int):PSpec Tryz.prog 97 [psG p,vi i] (· = vb (thereP p.l.length i)):=by
 refine PSpec.run (tysOk) followsB Tryz.func97 (by decide) rfl Tryz.ntmps97 (Nat.le_of_ble_eq_true rfl) rfl fun w0 R0 hGw=>?_
 conv=>whnf
 split<;>rename_i g
 ·conv=>whnf
  exact ⟨_,.refl _,congrArg vb (by unfold thereP;rw [g];rfl),rfl⟩
 ·conv=>whnf
  exact ⟨_,.refl _,congrArg vb (by unfold thereP;rw [g];rfl),rfl⟩
theorem usable_spec (p:Ps) (i:Int) (hi:i<2 ^ 62):PSpec Tryz.prog 96 [vi i,.eptr 3 1 (fun _=>[ptD p.l,.i .i64 p.pr,.i .i64 p.all]) 0 0] (· = vb (usable p.l i)):=by
 refine PSpec.run (tysOk) followsB Tryz.func96 (by decide) rfl Tryz.ntmps96 (Nat.le_of_ble_eq_true rfl) rfl fun w0 R0 hGw=>?_
 conv=>whnf
 refine ⟨_,(pthere_spec p i),?_⟩
 rintro q rfl
 conv=>whnf
 cases g:thereP p.l.length i
 ·conv=>whnf
  exact ⟨_,.refl _,congrArg vb (by unfold usable;rw [g];rfl),rfl⟩
 ·conv=>whnf
  have hi':0≤i∧i<p.l.length:=by simpa [thereP] using g
  refine ⟨by omega,?_⟩
  conv=>whnf
  exact ⟨_,.refl _,congrArg vb (by unfold usable;rw [g];rfl),rfl⟩
theorem orderP_app (p:Ps) (k:Nat) (h:k<p.l.length) (j:Nat) (hj:j<k+1+1):fcat (fun j=>[D.i .i64 ((orderP p).getD j default)]) (k+1) (fun m=>([D.i IntKind.i64 (k:Int)]::[]).getD m []) j=[D.i .i64 ((orderP p).getD j default)]:=by
 unfold fcat
 split
 ·rfl
 ·obtain rfl:j=k+1:=by omega
  rw [show k+1-(k+1)=0 from by omega]
  have:(orderP p).getD (k+1) default=(k:Int):=by
   unfold orderP
   rw [List.getD_cons_succ,List.getD_eq_getElem?_getD,List.getElem?_map,List.getElem?_range h];rfl
  rw [this];rfl
theorem orderP_len (p:Ps):(orderP p).length=p.l.length+1:=by simp [orderP]
abbrev rowOr (p:Ps) (n:Nat):AObj:=.row 3 1 n fun j=>[.i .i64 ((orderP p).getD j default)]
theorem orderP_lt (p:Ps) (hl:p.l.length≤2 ^ 30) (hp:0≤p.pr∧p.pr<2 ^ 30) (k:Nat):(orderP p).getD k default≤2 ^ 30:=by
 rw [List.getD_eq_getElem?_getD]
 cases h:(orderP p)[k]? with
 |none=>decide
 |some x=>
  have hm:=List.mem_of_getElem? h
  rcases List.mem_cons.1 hm with rfl|hm
  ·show p.pr≤_;omega
  ·obtain ⟨a,ha,rfl⟩:=List.mem_map.1 hm
   have:=List.mem_range.1 ha
   show ((a:Nat):Int)≤_
   omega
theorem pchoose_spec (p:Ps) (no:Int) (hno:no<2 ^ 62) (hl:p.l.length≤2 ^ 30) (hp:0≤p.pr∧p.pr<2 ^ 30):PSpec Tryz.prog 47 [psG p,vi no] (· = vi (p.choose no)):=by
 refine PSpec.run (tysOk) followsB Tryz.func47 (by decide) rfl Tryz.ntmps47 (Nat.le_of_ble_eq_true rfl) rfl fun w0 R0 hGw=>?_
 conv=>whnf
 refine ALoop.introR tysOk followsB (fun k:{k // k≤p.l.length}=>([(1,vi no),(2,.ptr 2 0),(4,vi 0),(5,.rsl 12 1 0 (k.1+1)),(15,vi p.l.length),(16,vi k.1)],[(12,rowOr p (k.1+1)),(2,.box [.d (ptD p.l),vi p.pr,vi p.all])])) (fun k=>p.l.length-k.1) ⟨0,by omega⟩ ?_ ?_
 ·refine ⟨.refl _,.refl _,.refl _,.refl _,.refl _,.refl _,⟨rfl,rfl,rfl,fun k hk=>?_⟩,OLe.refl _,trivial⟩
  obtain rfl:k=0:=by omega
  rfl
 ·rintro ⟨k,hk⟩
  dsimp only
  conv=>whnf
  split<;>rename_i hlt
  ·have hlt:k<p.l.length:=by simpa using hlt
   conv=>whnf
   refine ⟨⟨⟨rfl,by omega,by simp only [ty3];omega⟩,by omega⟩,?_⟩
   conv=>whnf
   refine gO ?_
   conv=>whnf
   refine ⟨⟨k+1,by omega⟩,[(22,12)],by dsimp only;omega,.refl _,.refl _,.refl _,.refl _,.refl _,.refl _,⟨rfl,rfl,rfl,fun j hj=>?_⟩,OLe.refl _,trivial⟩
   exact orderP_app p k hlt j hj
  ·have hlt:¬k<p.l.length:=by simpa using hlt
   obtain rfl:k=p.l.length:=by omega
   conv=>whnf
   refine ALoop.intro tysOk followsB (fun k:{k // k≤p.l.length+1∧firstU p.l no ((orderP p).drop k)=firstU p.l no (orderP p)}=>([(1,vi no),(2,.ptr 2 0),(7,.fn 96 [.ptr 2 0]),(25,.rsl 12 1 0 (p.l.length+1)),(26,vi (p.l.length+1:Nat)),(27,vi k.1)],[(12,rowOr p (p.l.length+1)),(2,.box [.d (ptD p.l),vi p.pr,vi p.all])])) (fun k=>p.l.length+1-k.1) ⟨0,by omega,rfl⟩ ?_ ?_
   ·exact ⟨.refl _,.refl _,.refl _,.refl _,.refl _,.refl _,OLe.refl _,OLe.refl _,trivial⟩
   ·rintro ⟨k,hk,hf⟩
    dsimp only
    conv=>whnf
    split<;>rename_i hlt2
    ·have hlt2:k<p.l.length+1:=Int.ofNat_lt.1 (of_decide_eq_true hlt2)
     conv=>whnf
     refine gO ?_
     conv=>whnf
     refine gO ?_
     conv=>whnf
     rw [Nat.zero_add,tnC]
     have hdr:(orderP p).drop k=(orderP p).getD k default::(orderP p).drop (k+1):=by
      rw [List.drop_eq_getElem_cons (by rw [orderP_len];exact hlt2),List.getD_eq_getElem?_getD,List.getElem?_eq_getElem (by rw [orderP_len];exact hlt2)];rfl
     have hib:=orderP_lt p hl hp k
     generalize hi:(orderP p).getD k default=i at hdr hib
     rw [hdr] at hf
     cases g1:(i != no)
     ·have g1':i=no:=by simpa using g1
      have hf:firstU p.l no ((orderP p).drop (k+1))=firstU p.l no (orderP p):=by rw [←hf,firstU,if_neg (fun h=>h.1 g1')]
      conv=>whnf
      refine gO ?_
      conv=>whnf
      exact ⟨⟨k+1,by omega,hf⟩,by dsimp only;omega,.refl _,.refl _,.refl _,.refl _,.refl _,.refl _,OLe.refl _,OLe.refl _,trivial⟩
     ·have g1':i≠no:=by simpa using g1
      conv=>whnf
      refine ⟨_,(usable_spec p i (by omega)),?_⟩
      rintro q rfl
      conv=>whnf
      cases g2:usable p.l i
      ·have hf:firstU p.l no ((orderP p).drop (k+1))=firstU p.l no (orderP p):=by rw [←hf,firstU,if_neg (fun h=>by rw [g2] at h;cases h.2)]
       conv=>whnf
       refine gO ?_
       conv=>whnf
       exact ⟨⟨k+1,by omega,hf⟩,by dsimp only;omega,.refl _,.refl _,.refl _,.refl _,.refl _,.refl _,OLe.refl _,OLe.refl _,trivial⟩
      ·rw [firstU,if_pos ⟨g1',g2⟩] at hf
       conv=>whnf
       exact ⟨_,.refl _,by unfold Ps.choose;rw [←hf],rfl⟩
    ·have hlt2:¬k<p.l.length+1:=fun h=>of_decide_eq_false hlt2 (Int.ofNat_lt.2 h)
     obtain rfl:k=p.l.length+1:=by omega
     have hf:firstU p.l no (orderP p)=none:=by rw [←hf,List.drop_of_length_le (by rw [orderP_len];omega)];rfl
     conv=>whnf
     refine ⟨_,(usable_spec p no hno),?_⟩
     rintro q rfl
     conv=>whnf
     cases g2:usable p.l no
     ·conv=>whnf
      refine ⟨_,(pthere_spec p p.pr),?_⟩
      rintro q rfl
      conv=>whnf
      cases g3:thereP p.l.length p.pr
      ·conv=>whnf
       exact ⟨_,.refl _,by unfold Ps.choose;rw [hf,g2,g3];rfl,rfl⟩
      ·conv=>whnf
       exact ⟨_,.refl _,by unfold Ps.choose;rw [hf,g2,g3];rfl,rfl⟩
     ·conv=>whnf
      exact ⟨_,.refl _,by unfold Ps.choose;rw [hf,g2];rfl,rfl⟩
end Go.Proofs.YtbkcekmahdbgdaaGreat
namespace Towline.Ac
end Towline.Ac
namespace Go.Proofs.YtbkcekmahdbgdaaGreat
open Go Go.RowKit Towline Towline.Hand Towline.Ac Towline.Chunk
set_option linter.unusedVariables false
set_option linter.unusedSimpArgs false
set_option maxRecDepth 20000
set_option maxHeartbeats 4000000
theorem fupd_setD {α:Type} (d:α) (enc:α→List D) (l:List α) (i:Nat) (x:α) (h:i<l.length) (j:Nat):fupd (fun k=>enc (l.getD k d)) i (enc x) j=enc ((l.set i x).getD j d):=by
 unfold fupd
 split
 ·rename_i e;subst e
  rw [List.getD_eq_getElem?_getD,List.getElem?_set_self h];rfl
 ·rename_i e
  dsimp only
  rw [List.getD_eq_getElem?_getD,List.getD_eq_getElem?_getD,List.getElem?_set_ne (fun h=>e h.symm)]
abbrev encZ (n:Int):List D:=[.i .i64 n]
abbrev rowU (l:List Int):AObj:=.row 38 1 l.length fun j=>encU (l.getD j default)
abbrev rowZ (l:List Int):AObj:=.row 3 1 l.length fun j=>encZ (l.getD j default)
end Go.Proofs.YtbkcekmahdbgdaaGreat
namespace Towline.Ac
end Towline.Ac
namespace Go.Proofs.YtbkcekmahdbgdaaGreat
open Go Go.RowKit Towline Towline.Hand Towline.Ac Towline.Chunk
set_option linter.unusedVariables false
set_option linter.unusedSimpArgs false
set_option maxRecDepth 20000
set_option maxHeartbeats 4000000
abbrev sentA (xc:Int) (l:List Sp):AVal:=.agg [v32 xc,.d (slT 7 encSp l)]
end Go.Proofs.YtbkcekmahdbgdaaGreat
namespace Towline.Ac
def lossF (l:List Sp):List Int:=(l.filter fun p=>p.state==3).map (·.tsn)
theorem set_self {α:Type} [Inhabited α] {l:List α} {k:Nat} (h:k<l.length):l.set k (l.getD k default)=l:=by
 rw [List.getD_eq_getElem?_getD,List.getElem?_eq_getElem h,Option.getD_some,List.set_getElem_self]
theorem filter_snoc {α:Type} [Inhabited α] (t:α→Bool) (l:List α) (k:Nat) (h:k<l.length):(l.take (k+1)).filter t=(l.take k).filter t++(if t (l.getD k default)=true then [l.getD k default] else []):=by
 rw [take_snoc l k h,List.filter_append]
 congr 1
 rw [List.filter_cons]
 split<;>rfl
theorem filter_le {α:Type} (t:α→Bool) (l:List α) (k:Nat):((l.take k).filter t).length≤l.length:=by
 have h1:=List.length_filter_le t (l.take k)
 have h2:(l.take k).length≤l.length:=by rw [List.length_take];omega
 omega
def lostAt (l:List Sp) (tsn:Int):Int:=idx (fun p=>p.tsn==tsn&&p.state==3) l
def againF (l:List Sp) (tsn path now:Int):List Sp:=
 if lostAt l tsn<0 then l else l.set (lostAt l tsn).toNat { l.getD (lostAt l tsn).toNat default with state:=1,path:=path,at_:=now,times:=(l.getD (lostAt l tsn).toNat default).times+1}
theorem idx_lt {α:Type} (t:α→Bool) (l:List α):idx t l<l.length∧-1≤idx t l:=by
 unfold idx
 cases h:l.findIdx? t with
 |none=>simp;omega
 |some i=>
  obtain ⟨h1,_⟩:=List.findIdx?_eq_some_iff_getElem.1 h
  simp;omega
end Towline.Ac
namespace Go.Proofs.YtbkcekmahdbgdaaGreat
open Go Go.RowKit Towline Towline.Hand Towline.Ac Towline.Chunk
set_option linter.unusedVariables false
set_option linter.unusedSimpArgs false
set_option maxRecDepth 20000
set_option maxHeartbeats 4000000
theorem lossG_spec (xc:Int) (l:List Sp) (hl:l.length≤2 ^ 30):PSpec Tryz.prog 111 [sentA xc l] (· = .d (slT 1 encU (lossF l))):=by
 refine PSpec.run (tysOk) followsB Tryz.func111 (by decide) rfl Tryz.ntmps111 (Nat.le_of_ble_eq_true rfl) rfl fun w0 R0 hGw=>?_
 conv=>whnf
 refine ALoop.adopt 3 2001 1 38 (fun j=>encU (([]:List Int).getD j default)) rfl rfl rfl ?_
 refine ALoop.introR tysOk followsB (fun k:{k // k≤l.length}=>([(3,.rsl 2001 1 0 (lossF (l.take k.1)).length),(7,.d (slT 7 encSp l)),(8,vi l.length),(9,vi k.1)],[(2001,rowU (lossF (l.take k.1)))])) (fun k=>l.length-k.1) ⟨0,by omega⟩ ?_ ?_
 ·exact ⟨.refl _,.refl _,.refl _,.refl _,OLe.refl _,trivial⟩
 ·rintro ⟨k,hk⟩
  dsimp only
  have hle:(lossF (l.take k)).length≤l.length:=by unfold lossF;rw [List.length_map];exact filter_le _ l k
  have hst:k<l.length→lossF (l.take (k+1))=lossF (l.take k)++(if (l.getD k default).state==3 then [(l.getD k default).tsn] else []):=fun h=>by
   unfold lossF
   rw [filter_snoc _ l k h,List.map_append]
   congr 1
   split<;>rfl
  generalize hr:lossF (l.take k)=r at hle hst
  conv=>whnf
  cases g:decide ((k:Int)<l.length)
  ·have g:k=l.length:=by have:=of_decide_eq_false g;omega
   subst g
   rw [List.take_length] at hr
   conv=>whnf
   refine gO ?_
   conv=>whnf
   exact ⟨_,.refl _,by rw [hr];rfl,rfl⟩
  ·have g:k<l.length:=by have:=of_decide_eq_true g;omega
   have hst:=hst g
   conv=>whnf
   refine gK ?_
   conv=>whnf
   rw [tnC]
   cases g3:((l.getD k default).state==3)
   ·rw [g3] at hst
    conv=>whnf
    refine gO ?_
    conv=>whnf
    refine ⟨⟨k+1,by omega⟩,[],by dsimp only;omega,?_⟩
    dsimp only
    rw [hst]
    exact ⟨.of_eq (congrArg (AVal.rsl 2001 1 0) (by simp)),.refl _,.refl _,.refl _,⟨rfl,rfl,by simp,fun j hj=>by simp⟩,trivial⟩
   ·rw [g3] at hst
    conv=>whnf
    refine ⟨⟨⟨rfl,by omega,by simp only [ty38];omega⟩,by omega⟩,?_⟩
    conv=>whnf
    refine gO ?_
    conv=>whnf
    refine ⟨⟨k+1,by omega⟩,[(20,2001)],by dsimp only;omega,?_⟩
    dsimp only
    rw [hst]
    exact ⟨.of_eq (congrArg (AVal.rsl 2001 1 0) (by simp)),.refl _,.refl _,.refl _,⟨rfl,rfl,by simp,fun j hj=>slT_app encU r (l.getD k default).tsn j (by simpa using hj) rfl⟩,trivial⟩
end Go.Proofs.YtbkcekmahdbgdaaGreat
set_option linter.unusedVariables false
set_option linter.unusedSimpArgs false
namespace Go.Proofs.YtbkcekmahdbgdaaGreat
open Go Go.RowKit Go.Lib
theorem ui9:(Tryz.prog.info? 38).map (fun i=>(i.zero,i.size,i.bytes))=some (some (Value.int .u32 0),1,4):=by kernel_rfl
theorem uz9 (w:World):(Go.sizeOf 38).run Tryz.prog w=.ok 1 w:=by
 obtain ⟨i0,hi0,_,h1,_⟩:=info_parts ui9
 simp [Go.sizeOf,typeInfo,hi0,h1]
set_option maxHeartbeats 4000000 in
set_option maxRecDepth 100000 in
theorem insertU_shift (b off n c i vb voff m vc:Nat) (cs vs:List Value) (w:World) (hi:i<n) (hm:0<m) (hroom:n+m≤c) (hc63:c≤9223372036854775807) (hvb:vb≠b)
  (hcl:cs.length=n) (hvl:vs.length=m)
  (hcs:∀j v,cs[j]? = some v→w.cell? ⟨b,off+j,none⟩=some v) (hsp:∀j,j<n+m→(w.cell? ⟨b,off+j,none⟩).isSome=true) (hfz:∀j,j<n+m→w.frozen? ⟨b,off+j,none⟩=false)
  (hvs:∀j v,vs[j]? = some v→w.cell? ⟨vb,voff+j,none⟩=some v) (h1c:∀v∈cs,v.oneCell'=true) (h1v:∀v∈vs,v.oneCell'=true)
  (tA tB:TypeId) (kA kB:Nat) (hsa:w.shape? vb=some (tA,kA)) (hsb:w.shape? b=some (tB,kB)) (hkB:kB≠0) (hfa:w.frozen? ⟨vb,voff,none⟩=false) (hfe:w.frozen? ⟨vb,kA,none⟩=false) :
  Calls Tryz.prog 132 #[.slice (some ⟨b,off,none⟩) n c,.int .i64 i,.slice (some ⟨vb,voff,none⟩) m vc] w fun e w'=>
   e=.returned (.slice (some ⟨b,off,none⟩) (n+m) c)∧w'=(w.drew.setCells b (off+(i+m)) (cs.drop i)).setCells b (off+i) vs:=by
 have hz1:¬((m:Int)=0):=by omega
 have hz2:¬((i:Int)=(n:Int)):=by omega
 have hsz:(Tryz.prog.info? 38).map (·.size)=some 1:=by
  obtain ⟨i0,hi0,h0,h1,h2⟩:=info_parts ui9
  rw [hi0];simp [h1]
 have hov:∀lb cb,(callFunc 190 #[.slice (some ⟨vb,voff,none⟩) m vc,.slice (some ⟨b,off+(i+m),none⟩) lb cb]).run Tryz.prog w=.ok (.value (.bool false)) w:=fun lb cb=>by
  rw [run_callFunc_extern Tryz.func190 (by kernel_rfl) (by kernel_rfl) (by kernel_rfl) (e:=Extern.SlicesOverlaps.overlaps #[41,41] #[4]) (by kernel_rfl),
   Lib.run_overlaps_apart w 41 4 38 Tryz.underlying41 1 uz9 ⟨vb,voff,none⟩ ⟨b,off+(i+m),none⟩ m vc lb cb hvb tA tB kA kB hsa hsb hkB hfa hfe]
  rfl
 have hdl:(cs.drop i).length=n-i:=by rw [List.length_drop,hcl]
 have mixed:Tryz.prog.follows .mixedOrders=true:=by kernel_rfl
 have hw1:IntKind.i64.wrap ((i:Int)+(m:Int))=(i:Int)+(m:Int):=by rw [IntKind.wrap_i64];omega
 have hb1:(0:Int)≤(i:Int)+(m:Int):=by omega
 have hin:i≤n:=by omega
 have htn:((i:Int)+(m:Int)).toNat=i+m:=by omega
 have hb2:¬(c=i+m):=by omega
 have hb3:(i:Int)≤(n:Int)+(m:Int):=by omega
 have hb4:¬(c=i):=by omega
 have hcp1:∀ty dc sc,(Builtin.copy_ #[41,41] ty #[.slice (some ⟨b,off+(i+m),none⟩) (n+m-(i+m)) dc,.slice (some ⟨b,off+i,none⟩) (n+m-i) sc]).run Tryz.prog w.drew=.ok (goInt (cs.drop i).length) (w.drew.setCells b (off+(i+m)) (cs.drop i)):=fun ty dc sc=>
  run_copy_cells w.drew _ _ ty 38 b (off+(i+m)) (n+m-(i+m)) dc ⟨b,off+i,none⟩ (n+m-i) sc (cs.drop i) Tryz.underlying41 hsz (by rw [hdl];simp only [Nat.min_def];split<;>omega)
   (fun j v hj=>by rw [Addr.add_lit,Nat.add_assoc];exact hcs (i+j) v (by rwa [List.getElem?_drop] at hj))
   (fun j hj=>by rw [Nat.add_assoc];exact hsp _ (by omega)) (fun j hj=>by rw [Nat.add_assoc];exact hfz _ (by omega)) (fun v hv=>h1c v (List.mem_of_mem_drop hv))
 obtain ⟨W1,hW1⟩:∃W1,W1=w.drew.setCells b (off+(i+m)) (cs.drop i):=⟨_,rfl⟩
 have hsp1:∀k,k<n+m→(W1.cell? ⟨b,off+k,none⟩).isSome=true:=fun k hk=>by
  rw [hW1]
  exact isSome_setCells b _ _ _ (fun j hj=>by rw [Nat.add_assoc];exact hsp _ (by omega)) _ (hsp k hk)
 have hcp2:∀(W:World),(∀x,W.cell? x=W1.cell? x)→(∀x,W.frozen? x=W1.frozen? x)→∀ty dc,(Builtin.copy_ #[41,41] ty #[.slice (some ⟨b,off+i,none⟩) (n+m-i) dc,.slice (some ⟨vb,voff,none⟩) m vc]).run Tryz.prog W=.ok (goInt vs.length) (W.setCells b (off+i) vs):=fun W hWc hWf ty dc=>
  run_copy_cells W _ _ ty 38 b (off+i) (n+m-i) dc ⟨vb,voff,none⟩ m vc vs Tryz.underlying41 hsz (by rw [hvl];simp only [Nat.min_def];split<;>omega)
   (fun j v hj=>by
    rw [Addr.add_lit,hWc,hW1,World.cell?_setCells_out b _ _ _ _ (fun h _=>absurd h hvb)]
    exact hvs j v hj)
   (fun j hj=>by rw [hWc,Nat.add_assoc];exact hsp1 _ (by omega)) (fun j hj=>by rw [hWf,hW1,World.frozen?_setCells,Nat.add_assoc];exact hfz _ (by omega)) h1v
 rw [←hW1] at hcp1
 go_enter Tryz.func132,Tryz.ntmps132
 go_wp2_with (simp only [hov])
 go_region_law_o (refine step_copy_runI rfl _ _ 41 41 rfl _ _ (by simp [Act.eval,Act.put]) (by simp [Act.eval,Act.put]) (hcp1 _ _ _) ?_)
 go_wp2_with (at_builtin;refine wpList_copy_runI _ rfl _ _ 41 41 rfl _ _ rfl rfl (hcp2 _ (fun _=>rfl) (fun _=>rfl) _ _) ?_)
 go_ret
 first|exact ⟨rfl,rfl⟩|exact ⟨rfl,by rw [hW1]⟩
set_option maxHeartbeats 4000000 in
set_option maxRecDepth 100000 in
theorem insertU_end_room (b off n c vb voff m vc:Nat) (vs:List Value) (w:World) (hm:0<m) (hroom:n+m≤c) (hc63:c≤9223372036854775807)
  (hvl:vs.length=m) (hsp:∀j,j<m→(w.cell? ⟨b,off+n+j,none⟩).isSome=true) (hfz:∀j,j<m→w.frozen? ⟨b,off+n+j,none⟩=false)
  (hvs:∀j v,vs[j]? = some v→w.cell? ⟨vb,voff+j,none⟩=some v) (h1v:∀v∈vs,v.oneCell'=true) :
  Calls Tryz.prog 132 #[.slice (some ⟨b,off,none⟩) n c,.int .i64 n,.slice (some ⟨vb,voff,none⟩) m vc] w fun e w'=>
   e=.returned (.slice (some ⟨b,off,none⟩) (n+m) c)∧w'=w.setCells b (off+n) vs:=by
 have mixed:Tryz.prog.follows .mixedOrders=true:=by kernel_rfl
 have hz1:¬((m:Int)=0):=by omega
 have hsrc:Src Tryz.prog 1 41 (.slice (some ⟨vb,voff,none⟩) m vc) m vs w:=Src.ofSlice w Tryz.underlying41 ⟨vb,voff,none⟩ m vc vs (by omega) (fun j u hj=>by rw [Addr.add_lit];exact hvs j u hj) h1v
 go_enter Tryz.func132,Tryz.ntmps132
 go_wp2_with (at_builtin;refine wpList_append_room1 _ rfl _ _ 41 41 rfl 38 _ _ Tryz.underlying41 ui9 b off n c rfl _ rfl m vs hsrc hroom (by rw [hvl];exact hsp) (by rw [hvl];exact hfz) ?_)
 go_ret
 exact ⟨rfl,rfl⟩
set_option maxHeartbeats 4000000 in
set_option maxRecDepth 100000 in
theorem insertU_end_grow (base:Option Addr) (n c vb voff m vc:Nat) (cs vs:List Value) (w:World) (hm:0<m) (hnc:n≤c) (hroom:c<n+m) (hbig:(n+m)*4≤140737488355328)
  (hcl:cs.length=n) (hvl:vs.length=m) (hnil:base=none→n=0)
  (hcs:∀a,base=some a→∀j v,cs[j]? = some v→w.cell? (a.add j)=some v)
  (hvs:∀j v,vs[j]? = some v→w.cell? ⟨vb,voff+j,none⟩=some v) (h1v:∀v∈vs,v.oneCell'=true) :
  Calls Tryz.prog 132 #[.slice base n c,.int .i64 n,.slice (some ⟨vb,voff,none⟩) m vc] w fun e w'=>
   e=.returned (.slice (some ⟨w.heap.size,0,none⟩) (n+m) (grownCap w (n+m) c 38))∧
   w'=w.drew.alloc (.cells ((cs++vs).toArray++Builtin.zeroCells (Value.int .u32 0).cells (grownCap w (n+m) c 38-(n+m))) 38):=by
 have mixed:Tryz.prog.follows .mixedOrders=true:=by kernel_rfl
 obtain ⟨i0,hi0,hz0,hzs,hzb⟩:=info_parts ui9
 have hz1:¬((m:Int)=0):=by omega
 have hsrc:Src Tryz.prog i0.size 41 (.slice (some ⟨vb,voff,none⟩) m vc) m vs w:=by
  rw [hzs]
  exact Src.ofSlice w Tryz.underlying41 ⟨vb,voff,none⟩ m vc vs (by omega) (fun j u hj=>by rw [Addr.add_lit];exact hvs j u hj) h1v
 have hold:(Builtin.firstCells i0.size n (.slice base n c)).run Tryz.prog w.drew=.ok cs.toArray w.drew:=by
  rw [hzs]
  cases base with
  |none=>
   have h0:=hnil rfl
   subst h0
   rw [List.length_eq_zero_iff.1 hcl]
   exact run_firstCells_none w.drew 1 0 0 c
  |some a=>exact run_firstCells_some w.drew 1 n a n c cs (by omega) (fun j v hj=>hcs a rfl j v hj)
 have hrun:∀ty,(Builtin.append_ #[41,41] ty #[.slice base n c,.slice (some ⟨vb,voff,none⟩) m vc]).run Tryz.prog w=_:=fun ty=>
  run_append_grow_src w 41 41 ty 38 i0 _ Tryz.underlying41 hi0 hz0 base n c cs hold _ m vs hsrc hroom (by omega) (by rw [hzb];exact growslice_fits hroom hbig)
 go_enter Tryz.func132,Tryz.ntmps132
 cases base with
 |none=>
  have h0:=hnil rfl
  subst h0
  go_wp2_with (at_builtin;refine Lib.wpList_append_run _ rfl _ _ _ _ rfl _ _ rfl rfl _ _ (hrun _) ?_)
  go_ret
  exact ⟨rfl,rfl⟩
 |some a=>
  obtain ⟨ab,ao,asp⟩:=a
  go_wp2_with (at_builtin;refine Lib.wpList_append_run _ rfl _ _ _ _ rfl _ _ rfl rfl _ _ (hrun _) ?_)
  all_goals (go_ret;exact ⟨rfl,rfl⟩)
set_option maxHeartbeats 4000000 in
set_option maxRecDepth 100000 in
theorem insertU_grow (b off n c i vb voff m vc:Nat) (cs vs:List Value) (w:World) (hi:i<n) (hm:0<m) (hnc:n≤c) (hroom:c<n+m) (hbig:(n+m)*4≤140737488355328)
  (hcl:cs.length=n) (hvl:vs.length=m)
  (hcs:∀j v,cs[j]? = some v→w.cell? ⟨b,off+j,none⟩=some v)
  (hvs:∀j v,vs[j]? = some v→w.cell? ⟨vb,voff+j,none⟩=some v) (h1c:∀v∈cs,v.oneCell'=true) (h1v:∀v∈vs,v.oneCell'=true) :
  Calls Tryz.prog 132 #[.slice (some ⟨b,off,none⟩) n c,.int .i64 i,.slice (some ⟨vb,voff,none⟩) m vc] w fun e w'=>
   e=.returned (.slice (some ⟨w.heap.size,0,none⟩) (n+m) (grownCap w (n+m) c 38))∧
   w'=(((w.alloc (.cells ((cs.take i).toArray++Builtin.zeroCells (Value.int .u32 0).cells (n+m-i)++Builtin.zeroCells (Value.int .u32 0).cells (grownCap w (n+m) c 38-(n+m))) 38)).drew.setCells w.heap.size i vs).drew).setCells w.heap.size (i+m) (cs.drop i):=by
 have mixed:Tryz.prog.follows .mixedOrders=true:=by kernel_rfl
 obtain ⟨i0,hi0,hz0,hzs,hzb⟩:=info_parts ui9
 have hz1:¬((m:Int)=0):=by omega
 have hz2:¬((i:Int)=(n:Int)):=by omega
 have hz3:(c:Int)<(n:Int)+(m:Int):=by omega
 have hsz:(Tryz.prog.info? 38).map (·.size)=some 1:=by rw [hi0];simp [hzs]
 have hbw:b<w.heap.size:=block_lt_of_cell (hcs 0 _ (List.getElem?_eq_getElem (by omega)))
 have hvw:vb<w.heap.size:=block_lt_of_cell (hvs 0 _ (List.getElem?_eq_getElem (by omega)))
 have hkk:(n:Int)+(m:Int)-(i:Int)=((n+m-i:Nat):Int):=by omega
 have hik:i+(n+m-i)=n+m:=by omega
 have hold:(Builtin.firstCells i0.size i (.slice (some ⟨b,off,none⟩) i c)).run Tryz.prog w.drew=.ok (cs.take i).toArray w.drew:=by
  rw [hzs]
  exact run_firstCells_some w.drew 1 i ⟨b,off,none⟩ i c (cs.take i) (by rw [List.length_take];omega) (fun j v hj=>by
   rw [Addr.add_lit]
   rw [List.getElem?_take] at hj
   split at hj
   ·exact hcs j v hj
   ·cases hj)
 have hrz:∀ty,(Builtin.append_ #[41,3] ty #[.slice (some ⟨b,off,none⟩) i c,.int .i64 ((n:Int)+(m:Int)-(i:Int))]).run Tryz.prog w =
   .ok (.slice (some ⟨w.heap.size,0,none⟩) (n+m) (grownCap w (n+m) c 38)) (w.drew.alloc (.cells ((cs.take i).toArray++Builtin.zeroCells (Value.int .u32 0).cells (n+m-i)++Builtin.zeroCells (Value.int .u32 0).cells (grownCap w (n+m) c 38-(n+m))) 38)):=fun ty=>by
  have h:=Lib.run_append_grow_zeros w 41 3 ty 38 i0 _ .i64 .i64 Tryz.underlying41 Tryz.underlying3 hi0 hz0 (some ⟨b,off,none⟩) i c (cs.take i) hold (n+m-i) (by omega) (by omega) (by omega) (by omega) (by rw [hzb];omega) (by rw [hzb,hik];exact growslice_fits hroom hbig)
  rw [hik] at h
  rw [hkk]
  exact h
 obtain ⟨G,hG⟩:∃G,G=grownCap w (n+m) c 38:=⟨_,rfl⟩
 obtain ⟨ROW,hROW⟩:∃ROW:Array Value,ROW=(cs.take i).toArray++Builtin.zeroCells (Value.int .u32 0).cells (n+m-i)++Builtin.zeroCells (Value.int .u32 0).cells (G-(n+m)):=⟨_,rfl⟩
 rw [←hG] at hrz ⊢
 rw [←hROW] at hrz ⊢
 have hRl:n+m≤ROW.size:=by
  rw [hROW]
  simp [Builtin.zeroCells,Value.cells]
  omega
 obtain ⟨W1,hW1⟩:∃W1,W1=w.drew.alloc (.cells ROW 38):=⟨_,rfl⟩
 rw [←hW1] at hrz
 have hN:∀j,j<n+m→(W1.cell? ⟨w.heap.size,j,none⟩).isSome=true:=fun j hj=>by
  rw [hW1,World.cell?_alloc_at (w:=w.drew) ROW _ w.heap.size j rfl,Array.getElem?_eq_getElem (by omega)];rfl
 have hNf:∀j,W1.frozen? ⟨w.heap.size,j,none⟩=false:=fun j=>by rw [hW1];exact World.frozen?_alloc_at (w:=w.drew) ROW _ w.heap.size j rfl
 have hOb:∀j v,w.cell? ⟨b,j,none⟩=some v→W1.cell? ⟨b,j,none⟩=some v:=fun j v h=>by rw [hW1,World.cell?_alloc_past (w:=w.drew) _ b j hbw];exact h
 have hOv:∀j v,w.cell? ⟨vb,j,none⟩=some v→W1.cell? ⟨vb,j,none⟩=some v:=fun j v h=>by rw [hW1,World.cell?_alloc_past (w:=w.drew) _ vb j hvw];exact h
 have hcpA:∀(W:World),(∀x,W.cell? x=W1.cell? x)→(∀x,W.frozen? x=W1.frozen? x)→∀ty dc,(Builtin.copy_ #[41,41] ty #[.slice (some ⟨w.heap.size,i,none⟩) (n+m-i) dc,.slice (some ⟨vb,voff,none⟩) m vc]).run Tryz.prog W=.ok (goInt vs.length) (W.setCells w.heap.size i vs):=fun W hWc hWf ty dc=>
  run_copy_cells W _ _ ty 38 w.heap.size i (n+m-i) dc ⟨vb,voff,none⟩ m vc vs Tryz.underlying41 hsz (by rw [hvl];simp only [Nat.min_def];split<;>omega)
   (fun j v hj=>by rw [Addr.add_lit,hWc];exact hOv _ v (hvs j v hj))
   (fun j hj=>by rw [hWc];exact hN _ (by omega)) (fun j hj=>by rw [hWf];exact hNf _) h1v
 have hGn:n+m≤G:=by rw [hG];exact grownCap_ge w _ _ _
 have hG63:G≤9223372036854775807:=by
  have:=grownCap_le_maxLen w (n+m) c 38 (by unfold maxLen;omega)
  rw [←hG] at this
  unfold maxLen at this
  omega
 have hGi:¬(G=i):=by omega
 have hGim:¬(G=i+m):=by omega
 have hci:¬(c=i):=by omega
 have hbN:b≠w.heap.size:=by omega
 have hdl:(cs.drop i).length=n-i:=by rw [List.length_drop,hcl]
 have hcpB:∀(W:World),(∀x,W.cell? x=(W1.setCells w.heap.size i vs).cell? x)→(∀x,W.frozen? x=(W1.setCells w.heap.size i vs).frozen? x)→∀ty dc sc,(Builtin.copy_ #[41,41] ty #[.slice (some ⟨w.heap.size,i+m,none⟩) (n+m-(i+m)) dc,.slice (some ⟨b,off+i,none⟩) (n-i) sc]).run Tryz.prog W=.ok (goInt (cs.drop i).length) (W.setCells w.heap.size (i+m) (cs.drop i)):=fun W hWc hWf ty dc sc=>
  run_copy_cells W _ _ ty 38 w.heap.size (i+m) (n+m-(i+m)) dc ⟨b,off+i,none⟩ (n-i) sc (cs.drop i) Tryz.underlying41 hsz (by rw [hdl];simp only [Nat.min_def];split<;>omega)
   (fun j v hj=>by
    rw [Addr.add_lit,hWc,World.cell?_setCells_out _ _ _ _ _ (fun h _=>absurd h hbN),Nat.add_assoc]
    exact hOb _ v (hcs (i+j) v (by rwa [List.getElem?_drop] at hj)))
   (fun j hj=>by rw [hWc];exact isSome_setCells _ _ _ _ (fun t ht=>hN _ (by omega)) _ (hN _ (by omega)))
   (fun j hj=>by rw [hWf,World.frozen?_setCells];exact hNf _) (fun v hv=>h1c v (List.mem_of_mem_drop hv))
 subst hW1
 have hE1:∀x,((w.alloc (.cells ROW 38)).drew).cell? x=(w.drew.alloc (.cells ROW 38)).cell? x:=fun x=>rfl
 have hE2:∀x,((w.alloc (.cells ROW 38)).drew).frozen? x=(w.drew.alloc (.cells ROW 38)).frozen? x:=fun x=>rfl
 have hF1:∀x,(((w.alloc (.cells ROW 38)).drew.setCells w.heap.size i vs).drew).cell? x=((w.drew.alloc (.cells ROW 38)).setCells w.heap.size i vs).cell? x:=fun x=>rfl
 have hF2:∀x,(((w.alloc (.cells ROW 38)).drew.setCells w.heap.size i vs).drew).frozen? x=((w.drew.alloc (.cells ROW 38)).setCells w.heap.size i vs).frozen? x:=fun x=>rfl
 have hw1:IntKind.i64.wrap ((i:Int)+(m:Int))=(i:Int)+(m:Int):=by rw [IntKind.wrap_i64];omega
 have hb1:(0:Int)≤(i:Int)+(m:Int):=by omega
 have hin:i≤n:=by omega
 have htn:((i:Int)+(m:Int)).toNat=i+m:=by omega
 have hb3:(i:Int)≤(n:Int):=by omega
 clear hkk hik hold hROW hG hRl
 go_enter Tryz.func132,Tryz.ntmps132
 go_wp2_with (first
  |(at_builtin;refine Lib.wpList_append_run _ rfl _ _ _ _ rfl _ _ rfl rfl _ _ (hrz _) ?_)
  |(at_builtin;refine wpList_copy_runI _ rfl _ _ 41 41 rfl _ _ rfl rfl (hcpA _ hE1 hE2 _ _) ?_)
  |(at_builtin;refine wpList_copy_runI _ rfl _ _ 41 41 rfl _ _ rfl rfl (hcpB _ (fun _=>rfl) (fun _=>rfl) _ _ _) ?_))
 go_region_law_o (refine step_copy_runI rfl _ _ 41 41 rfl (.slice (some ⟨w.heap.size,i+m,none⟩) (n+m-(i+m)) (G-(i+m))) (.slice (some ⟨b,off+i,none⟩) (n-i) (c-i)) (by simp [Act.eval,Act.put]) (by simp [Act.eval,Act.put]) (hcpB _ hF1 hF2 3 (G-(i+m)) (c-i)) ?_)
 go_wp2
 go_ret
 exact ⟨rfl,rfl⟩
end Go.Proofs.YtbkcekmahdbgdaaGreat
namespace Go
theorem heap_setCell_at (w:World) (b o:Nat) (v:Value) (cur:Array Value) (t:TypeId) (mk:Nat×Nat) (h:w.heap[b]? = some (.cells cur t mk)):(w.setCell ⟨b,o,none⟩ v).heap[b]? = some (.cells (cur.setIfInBounds o v) t mk):=by
 obtain ⟨hb,he⟩:=Array.getElem?_eq_some_iff.1 h
 unfold World.setCell
 simp only [Option.isSome_none,Bool.false_eq_true,if_false]
 rw [Array.getElem?_modify,if_pos rfl,h];rfl
def layL (cur:List Value) (o:Nat) (vs:List Value):List Value:=cur.take o++vs++cur.drop (o+vs.length)
theorem heap_setCells_at (b:Nat) (t:TypeId) (mk:Nat×Nat):∀(vs:List Value) (o:Nat) (w:World) (cur:Array Value),w.heap[b]? = some (.cells cur t mk)→o+vs.length≤cur.size→(w.setCells b o vs).heap[b]? = some (.cells (layL cur.toList o vs).toArray t mk)
 | [],o,w,cur,h,_=>by
  have e:(layL cur.toList o []).toArray=cur:=by simp [layL]
  rw [e];exact h
 |v::r,o,w,cur,h,hl=>by
  rw [List.length_cons] at hl
  rw [World.setCells,heap_setCells_at b t mk r (o+1) _ _ (heap_setCell_at w b o v cur t mk h) (by simp;omega)]
  congr 2
  congr 1
  unfold layL
  simp only [Array.toList_setIfInBounds]
  have h1:(cur.toList.set o v).take (o+1)=cur.toList.take o++[v]:=by
   rw [List.take_add_one,List.getElem?_set_self (by simp;omega),List.take_set_of_le (Nat.le_refl _)];rfl
  have h2:(cur.toList.set o v).drop (o+1+r.length)=cur.toList.drop (o+(r.length+1)):=by
   rw [List.drop_set_of_lt (by omega)];congr 1;omega
  rw [h1,h2,List.length_cons];simp
theorem grownBy_setCells (b:Nat):∀(vs:List Value) (o:Nat) (w:World),w.grownBy (w.setCells b o vs) (some b)
 | [],o,w=>⟨rfl,rfl,rfl,Nat.le_refl _,fun _ _ _=>rfl⟩
 |v::r,o,w=>by
  have ih:=grownBy_setCells b r (o+1) (w.setCell ⟨b,o,none⟩ v)
  have hs:(w.setCell ⟨b,o,none⟩ v).heap.size=w.heap.size:=by unfold World.setCell;simp
  rw [World.setCells]
  refine ⟨ih.os,ih.tape,ih.output,by rw [←hs];exact ih.size,fun k hk hne=>?_⟩
  rw [ih.block k (by rw [hs];exact hk) hne]
  exact RowKit.Below.heap_setCell w ⟨b,o,none⟩ v k fun e=>hne (by rw [e])
theorem grownBy_drew (w:World) (row:Option Nat):w.grownBy w.drew row:=⟨rfl,rfl,rfl,Nat.le_refl _,fun _ _ _=>rfl⟩
theorem World.grownBy.tr {w w' w'':World} {row:Option Nat} (h1:w.grownBy w' row) (h2:w'.grownBy w'' row):w.grownBy w'' row:=
 ⟨h2.os.trans h1.os,h2.tape.trans h1.tape,h2.output.trans h1.output,Nat.le_trans h1.size h2.size,fun k hk hn=>(h2.block k (Nat.lt_of_lt_of_le hk h1.size) hn).trans (h1.block k hk hn)⟩
end Go
namespace Go.Proofs.YtbkcekmahdbgdaaGreat
open Go Go.RowKit Go.Lib
theorem cellAt (w:World) (b j:Nat) (cur:Array Value) (t:TypeId) (mk:Nat×Nat) (h:w.heap[b]? = some (.cells cur t mk)):w.cell? ⟨b,j,none⟩=cur[j]?:=cell_of_row w b j cur t mk h
theorem frozAt (w:World) (b j:Nat) (cur:Array Value) (t:TypeId) (h:w.heap[b]? = some (.cells cur t (0,0))):w.frozen? ⟨b,j,none⟩=false:=by
 unfold World.frozen?
 rw [h];simp
theorem shapeAt (w:World) (b:Nat) (cur:Array Value) (t:TypeId) (mk:Nat×Nat) (h:w.heap[b]? = some (.cells cur t mk)):w.shape? b=some (t,cur.size):=by
 unfold World.shape?
 rw [h]
theorem zs32 (m:Nat):(Builtin.zeroCells (Value.int .u32 0).cells m).size=m:=by rw [size_zeroCells];simp [Value.cells]
def Grew (base:Nat) (v:Value) (n:Nat) (ys:List Value) (w:World) (e:Ending) (w':World):Prop:=∃v',e=.returned v'∧w'.ownsRow base 38 1 v' n ys∧w.grownBy w' v.ownBlock∧∀k,v'.ownBlock=some k→v.ownBlock=some k∨w.heap.size≤k
theorem insertU_end (base:Nat) (v:Value) (n vb vc:Nat) (xs:List Value) (x:Value) (w:World) (hown:w.ownsRow base 38 1 v n xs) (hn:n≤2 ^ 29) (hbase:base≤w.heap.size) (hvc:w.cell? ⟨vb,0,none⟩=some x) (hx:x.oneCell'=true) :
  Calls Tryz.prog 132 #[v,.int .i64 n,.slice (some ⟨vb,0,none⟩) 1 vc] w (Grew base v (n+1) (xs++[x]) w):=by
 have hvs:∀j u,[x][j]? = some u→w.cell? ⟨vb,0+j,none⟩=some u:=fun j u hj=>by
  cases j with
  |zero=>simp at hj;subst hj;exact hvc
  |succ j=>simp at hj
 have h1v:∀u∈[x],u.oneCell'=true:=fun u hu=>by rw [List.mem_singleton.1 hu];exact hx
 have hxl:=hown.1
 rw [Nat.mul_one] at hxl
 have grown:∀(A:Option Addr) (c:Nat),c<n+1→n≤c→Calls Tryz.prog 132 #[.slice A n c,.int .i64 n,.slice (some ⟨vb,0,none⟩) 1 vc] w (fun e w'=>e=.returned (.slice (some ⟨w.heap.size,0,none⟩) (n+1) (grownCap w (n+1) c 38))∧
   w'=w.drew.alloc (.cells ((xs++[x]).toArray++Builtin.zeroCells (Value.int .u32 0).cells (grownCap w (n+1) c 38-(n+1))) 38))→Calls Tryz.prog 132 #[.slice A n c,.int .i64 n,.slice (some ⟨vb,0,none⟩) 1 vc] w (Grew base (.slice A n c) (n+1) (xs++[x]) w):=fun A c hc hnc h=>by
  refine h.mono ?_
  rintro e w' ⟨rfl,rfl⟩
  have hgc:=grownCap_ge w (n+1) c 38
  have hgm:=grownCap_le_maxLen w (n+1) c 38 (by unfold maxLen;omega)
  generalize grownCap w (n+1) c 38=G at hgc hgm ⊢
  refine ⟨_,rfl,⟨by simp;omega,.inr ⟨w.heap.size,G,_,rfl,hbase,heap_alloc_new w.drew _,hgc,hgm,?_,?_⟩⟩,⟨rfl,rfl,rfl,by show w.heap.size≤(w.alloc _).heap.size;simp,fun k hk _=>heap_alloc_old w.drew _ hk⟩,fun k hk=>.inr (by simp [Value.ownBlock] at hk;omega)⟩
  ·rw [Array.size_append,zs32];simp;omega
  ·have hlen:(xs++[x]).length=n+1:=by simp;omega
   rw [Nat.mul_one,Array.toList_append]
   show List.take (n+1) ((xs++[x])++_)=_
   rw [←hlen,List.take_left]
 rcases hown.2 with ⟨rfl,rfl⟩|⟨g,cap,cur,rfl,hbg,hg,hnc,hcm,hcs,htake⟩
 ·exact grown none 0 (by omega) (by omega) (insertU_end_grow none 0 0 vb 0 1 vc xs [x] w (by omega) (by omega) (by omega) (by omega) hxl rfl (fun _=>rfl) (fun a ha=>by cases ha) hvs h1v)
 ·rw [Nat.mul_one] at hcs htake
  unfold maxLen at hcm
  by_cases hroom:n+1≤cap
  ·have h:=insertU_end_room g 0 n cap vb 0 1 vc [x] w (by omega) hroom (by omega) rfl (fun j hj=>by rw [cellAt w g _ cur _ _ hg,Array.getElem?_eq_getElem (by omega)];rfl) (fun j _=>frozAt w g _ cur _ hg) hvs h1v
   refine h.mono ?_
   rintro e w' ⟨rfl,rfl⟩
   rw [Nat.zero_add]
   have g1:=heap_setCells_at g _ _ [x] n w cur hg (by simp;omega)
   refine ⟨_,rfl,⟨by simp;omega,.inr ⟨g,cap,_,rfl,hbg,g1,hroom,by unfold maxLen;exact hcm,?_,?_⟩⟩,grownBy_setCells g [x] n w,fun k hk=>.inl hk⟩
   ·unfold layL;simp;omega
   ·rw [Nat.mul_one]
    unfold layL
    dsimp only
    have hlen:(xs++[x]).length=n+1:=by simp;omega
    rw [htake,←hlen,List.take_left]
  ·exact grown _ cap (by omega) hnc (insertU_end_grow (some ⟨g,0,none⟩) n cap vb 0 1 vc xs [x] w (by omega) hnc (by omega) (by omega) hxl rfl (fun h=>by cases h) (fun a ha=>by cases ha;exact hown.cells (g:=g) rfl) hvs h1v)
theorem insertU_own (base:Nat) (v:Value) (n at_ vb vc:Nat) (xs:List Value) (x:Value) (vcur:Array Value) (tv:TypeId) (w:World) (hown:w.ownsRow base 38 1 v n xs) (hxs:∀u∈xs,u.oneCell'=true) (hat:at_≤n) (hn:n≤2 ^ 29) (hbase:base≤w.heap.size)
  (hvb:w.heap[vb]? = some (.cells vcur tv (0,0))) (hv0:vcur[0]? = some x) (hne:v.ownBlock≠some vb) (hx:x.oneCell'=true) :
  Calls Tryz.prog 132 #[v,.int .i64 at_,.slice (some ⟨vb,0,none⟩) 1 vc] w (Grew base v (n+1) (xs.take at_++x::xs.drop at_) w):=by
 have hvc:w.cell? ⟨vb,0,none⟩=some x:=by rw [cellAt w vb 0 vcur tv _ hvb];exact hv0
 have hxl:=hown.1
 rw [Nat.mul_one] at hxl
 by_cases he:at_=n
 ·subst he
  rw [List.take_of_length_le (by omega),List.drop_of_length_le (by omega)]
  exact insertU_end base v at_ vb vc xs x w hown hn hbase hvc hx
 have hlt:at_<n:=by omega
 rcases hown.2 with ⟨rfl,rfl⟩|⟨g,cap,cur,rfl,hbg,hg,hnc,hcm,hcs,htake⟩
 ·omega
 rw [Nat.mul_one] at hcs htake
 have hcell:∀j u,xs[j]? = some u→w.cell? ⟨g,0+j,none⟩=some u:=fun j u hj=>by
  rw [Nat.zero_add,cellAt w g j cur _ _ hg,←Array.getElem?_toList]
  rw [←htake,List.getElem?_take] at hj
  split at hj
  ·exact hj
  ·cases hj
 have hvs:∀j u,[x][j]? = some u→w.cell? ⟨vb,0+j,none⟩=some u:=fun j u hj=>by
  cases j with
  |zero=>simp at hj;subst hj;exact hvc
  |succ j=>simp at hj
 have hnv:vb≠g:=fun e=>hne (by rw [e];rfl)
 have h1v:∀u∈[x],u.oneCell'=true:=fun u hu=>by rw [List.mem_singleton.1 hu];exact hx
 have hfr:∀j,w.frozen? ⟨g,j,none⟩=false:=fun j=>frozAt w g j cur _ hg
 have hfv:∀j,w.frozen? ⟨vb,j,none⟩=false:=fun j=>frozAt w vb j vcur _ hvb
 unfold maxLen at hcm
 by_cases hroom:n+1≤cap
 ·have h:=insertU_shift g 0 n cap at_ vb 0 1 vc xs [x] w hlt (by omega) hroom (by omega) hnv hxl rfl hcell
   (fun j hj=>by rw [Nat.zero_add,cellAt w g j cur _ _ hg,Array.getElem?_eq_getElem (by omega)];rfl) (fun j _=>hfr _) hvs hxs h1v tv 38 vcur.size cur.size (shapeAt w vb vcur tv _ hvb) (shapeAt w g cur _ _ hg) (by omega) (hfv _) (hfv _)
  refine h.mono ?_
  rintro e w' ⟨rfl,rfl⟩
  rw [Nat.zero_add,Nat.zero_add]
  have hdl:(xs.drop at_).length=n-at_:=by rw [List.length_drop];omega
  have g1:(w.drew.setCells g (at_+1) (xs.drop at_)).heap[g]? = _:=heap_setCells_at g _ _ (xs.drop at_) (at_+1) w.drew cur hg (by omega)
  have hll:(layL cur.toList (at_+1) (xs.drop at_)).length=cur.size:=by unfold layL;simp;omega
  have g2:=heap_setCells_at g _ _ [x] at_ _ _ g1 (by simp [hll];omega)
  refine ⟨_,rfl,⟨by simp;omega,.inr ⟨g,cap,_,rfl,hbg,g2,hroom,by unfold maxLen;exact hcm,?_,?_⟩⟩,?_,fun k hk=>.inl hk⟩
  ·unfold layL
   unfold layL at hll
   simp at hll ⊢
   omega
  ·rw [Nat.mul_one]
   dsimp only
   have hca:(layL cur.toList (at_+1) (xs.drop at_))=cur.toList.take (at_+1)++xs.drop at_++cur.toList.drop (n+1):=by
    unfold layL;rw [hdl];congr 2;omega
   have hta:cur.toList.take at_=xs.take at_:=by
    rw [←htake,List.take_take];congr 1;omega
   unfold layL at hca ⊢
   rw [hca]
   have e1:(cur.toList.take (at_+1)++xs.drop at_++cur.toList.drop (n+1)).take at_=xs.take at_:=by
    rw [List.append_assoc,List.take_append_of_le_length (by simp;omega),List.take_take,←hta];congr 1;omega
   have e2:(cur.toList.take (at_+1)++xs.drop at_++cur.toList.drop (n+1)).drop (at_+[x].length)=xs.drop at_++cur.toList.drop (n+1):=by
    rw [List.append_assoc,List.drop_append_of_le_length (by simp;omega),List.drop_of_length_le (by simp;omega),List.nil_append]
   rw [e1,e2,List.append_assoc,←List.append_assoc [x],←List.append_assoc (xs.take at_)]
   have hlen:(xs.take at_++([x]++xs.drop at_)).length=n+1:=by simp;omega
   rw [show [x]++xs.drop at_=x::xs.drop at_ from rfl] at hlen ⊢
   rw [←hlen,List.take_left]
  ·exact ((grownBy_drew w _).tr (grownBy_setCells g (xs.drop at_) (at_+1) w.drew)).tr (grownBy_setCells g [x] at_ _)
 ·have h:=insertU_grow g 0 n cap at_ vb 0 1 vc xs [x] w hlt (by omega) hnc (by omega) (by omega) hxl rfl hcell hvs hxs h1v
  refine h.mono ?_
  rintro e w' ⟨rfl,rfl⟩
  have hgc:=grownCap_ge w (n+1) cap 38
  have hgm:=grownCap_le_maxLen w (n+1) cap 38 (by unfold maxLen;omega)
  generalize grownCap w (n+1) cap 38=G at hgc hgm ⊢
  obtain ⟨ROW,hROW⟩:∃ROW:Array Value,ROW=(xs.take at_).toArray++Builtin.zeroCells (Value.int .u32 0).cells (n+1-at_)++Builtin.zeroCells (Value.int .u32 0).cells (G-(n+1)):=⟨_,rfl⟩
  rw [←hROW]
  have hzs:∀m,(Builtin.zeroCells (Value.int .u32 0).cells m).size=m:=fun m=>by rw [size_zeroCells];simp [Value.cells]
  have hR:ROW.size=G:=by rw [hROW];simp [hzs];omega
  have hdl:(xs.drop at_).length=n-at_:=by rw [List.length_drop];omega
  have g0:((w.alloc (.cells ROW 38)).drew).heap[w.heap.size]? = some (.cells ROW 38 (0,0)):=heap_alloc_new w _
  have g1:=heap_setCells_at w.heap.size _ _ [x] at_ _ _ g0 (by simp;omega)
  have g1':((((w.alloc (.cells ROW 38)).drew.setCells w.heap.size at_ [x]).drew)).heap[w.heap.size]? = _:=g1
  have hll:(layL ROW.toList at_ [x]).length=G:=by unfold layL;simp;omega
  have g2:=heap_setCells_at w.heap.size _ _ (xs.drop at_) (at_+1) _ _ g1' (by simp [hll];omega)
  refine ⟨_,rfl,⟨by simp;omega,.inr ⟨w.heap.size,G,_,rfl,hbase,g2,hgc,hgm,?_,?_⟩⟩,?_,fun k hk=>.inr (by simp [Value.ownBlock] at hk;omega)⟩
  ·unfold layL
   unfold layL at hll
   simp at hll ⊢
   omega
  ·rw [Nat.mul_one]
   have hta:ROW.toList.take at_=xs.take at_:=by
    rw [hROW,Array.toList_append,Array.toList_append,List.append_assoc]
    have hl0:(xs.take at_).length=at_:=by rw [List.length_take];omega
    show List.take at_ (xs.take at_++_)=_
    conv=>lhs;lhs;rw [←hl0]
    exact List.take_left
   have hca:layL ROW.toList at_ [x]=xs.take at_++[x]++ROW.toList.drop (at_+1):=by unfold layL;rw [hta];rfl
   rw [hca]
   dsimp only
   have hl1:(xs.take at_++[x]).length=at_+1:=by simp;omega
   unfold layL
   have e1:(xs.take at_++[x]++ROW.toList.drop (at_+1)).take (at_+1)=xs.take at_++[x]:=by
    conv=>lhs;lhs;rw [←hl1]
    exact List.take_left
   rw [e1,List.append_assoc (xs.take at_) [x] (xs.drop at_)]
   have hlen:(xs.take at_++([x]++xs.drop at_)).length=n+1:=by simp;omega
   rw [show [x]++xs.drop at_=x::xs.drop at_ from rfl] at hlen ⊢
   rw [←hlen,List.take_left]
  ·have a1:w.grownBy ((w.alloc (.cells ROW 38)).drew) (some g):=⟨rfl,rfl,rfl,by show w.heap.size≤(w.alloc _).heap.size;simp,fun k hk _=>heap_alloc_old w _ hk⟩
   have a2:=grownBy_setCells w.heap.size [x] at_ ((w.alloc (.cells ROW 38)).drew)
   have a3:=grownBy_setCells w.heap.size (xs.drop at_) (at_+1) (((w.alloc (.cells ROW 38)).drew.setCells w.heap.size at_ [x]).drew)
   refine ⟨a3.os.trans (a2.os.trans a1.os),a3.tape.trans (a2.tape.trans a1.tape),a3.output.trans (a2.output.trans a1.output),Nat.le_trans a1.size (Nat.le_trans a2.size a3.size),fun k hk hn=>?_⟩
   have hkn:some k≠some w.heap.size:=fun e=>by cases e;omega
   rw [a3.block k (Nat.lt_of_lt_of_le hk (Nat.le_trans a1.size a2.size)) hkn]
   exact (a2.block k (Nat.lt_of_lt_of_le hk a1.size) hkn).trans (a1.block k hk hn)
end Go.Proofs.YtbkcekmahdbgdaaGreat
namespace Towline.Ac
def lateO (n next:Int):Bool:=decide (Go.IntKind.i16.wrap (Go.IntKind.u16.wrap (n-next))<0)
end Towline.Ac
namespace Go.Proofs.YtbkcekmahdbgdaaGreat
open Go Go.RowKit Towline Towline.Hand Towline.Ac
set_option maxRecDepth 20000
set_option maxHeartbeats 4000000
abbrev encS (n:Int):List D:=[.i .u16 n]
abbrev quA (nx:List Int) (w:List Fm):AVal:=.agg [.d (slT 1 encS nx),.d (slT 6 encFm w)]
theorem oput_stream (nx:List Int) (w:List Fm) (m:Fm) (hm:0≤m.stream∧m.stream<65536) (h:(nx.length:Int)≤m.stream) :
  PSpec Tryz.prog 78 [quA nx w,fmA m] (· = .tup [quA [] [],.d nilD,vi 12]):=by
 refine PSpec.run (tysOk) followsB Tryz.func78 (by decide) rfl Tryz.ntmps78 (Nat.le_of_ble_eq_true rfl) rfl fun w0 R0 hGw=>?_
 conv=>whnf
 refine gO ?_
 conv=>whnf
 rw [show decide ((nx.length:Int)≤m.stream)=true from decide_eq_true h]
 conv=>whnf
 refine ⟨.tup [quA [] [],.d nilD,vi 12],.tup ⟨.agg ⟨.nil,.nil,trivial⟩,.refl _,.refl _,trivial⟩,rfl,rfl⟩
theorem oput_free (nx:List Int) (w:List Fm) (m:Fm) (hm:0≤m.stream∧m.stream<65536) (h:m.stream<nx.length) (hf:m.free=true) :
  PSpec Tryz.prog 78 [quA nx w,fmA m] (· = .tup [quA nx w,.d (slT 6 encFm [m]),vi 0]):=by
 refine PSpec.run (tysOk) followsB Tryz.func78 (by decide) rfl Tryz.ntmps78 (Nat.le_of_ble_eq_true rfl) rfl fun w0 R0 hGw=>?_
 conv=>whnf
 refine gO ?_
 conv=>whnf
 rw [show decide ((nx.length:Int)≤m.stream)=false from decide_eq_false (by omega)]
 conv=>whnf
 rw [hf]
 conv=>whnf
 refine gR ?_
 conv=>whnf
 refine gK ?_
 conv=>whnf
 refine ⟨.tup [quA nx w,.d (slT 6 encFm [m]),vi 0],.tup ⟨.refl _,.sl rfl (fun k hk=>?_),.refl _,trivial⟩,rfl,rfl⟩
 obtain rfl:k=0:=by omega
 show [D.i .u32 m.first,D.b true,D.i .u16 m.stream,D.i .u16 m.ssn,D.i .u32 m.ppid,D.s m.text]=encFm m
 rw [encFm,hf]
theorem oput_there (nx:List Int) (w:List Fm) (m:Fm) (hl:w.length≤2 ^ 30) (hm:0≤m.stream∧m.stream<65536) (h:m.stream<nx.length) (hf:m.free=false) (ht:lateO m.ssn (nx.getD m.stream.toNat default)=true∨0≤idx (fun x=>x.stream==m.stream&&x.ssn==m.ssn) w) :
  PSpec Tryz.prog 78 [quA nx w,fmA m] (· = .tup [quA [] [],.d nilD,vi 9]):=by
 refine PSpec.run (tysOk) followsB Tryz.func78 (by decide) rfl Tryz.ntmps78 (Nat.le_of_ble_eq_true rfl) rfl fun w0 R0 hGw=>?_
 conv=>whnf
 refine gO ?_
 conv=>whnf
 rw [show decide ((nx.length:Int)≤m.stream)=false from decide_eq_false (by omega)]
 conv=>whnf
 rw [hf]
 conv=>whnf
 refine ⟨by omega,?_⟩
 conv=>whnf
 refine ⟨_,(late_spec m.ssn (nx.getD m.stream.toNat default)),?_⟩
 conv=>whnf
 cases hc:decide (IntKind.i16.wrap (IntKind.u16.wrap (m.ssn-nx.getD m.stream.toNat default))<0)
 ·have hi:=ht.resolve_left (by unfold lateO;rw [hc];simp)
  conv=>whnf
  refine ⟨_,(find_spec (slT 1 encS nx) w m.stream m.ssn hl),?_⟩
  conv=>whnf
  refine gR ?_
  conv=>whnf
  rw [show decide ((0:Int)≤idx (fun x=>x.stream==m.stream&&x.ssn==m.ssn) w)=true from decide_eq_true hi]
  conv=>whnf
  refine ⟨.tup [quA [] [],.d nilD,vi 9],.tup ⟨.agg ⟨.nil,.nil,trivial⟩,.refl _,.refl _,trivial⟩,rfl,rfl⟩
 ·conv=>whnf
  refine gR ?_
  conv=>whnf
  refine ⟨.tup [quA [] [],.d nilD,vi 9],.tup ⟨.agg ⟨.nil,.nil,trivial⟩,.refl _,.refl _,trivial⟩,rfl,rfl⟩
end Go.Proofs.YtbkcekmahdbgdaaGreat
namespace Towline
open Go Go.RowKit
theorem own_of_row {w:World} {gd:Nat→Prop} {L:Lay} {id:Nat} {t:TypeId} {sz n:Nat} {f:Nat→List D} {v:Value} (hmt:t<markT) (hro:RepO w gd L id (.row t sz n f)) {gd2:Nat→Prop} (hv:RepA w L gd2 (.rsl id sz 0 n) v) :
  ∃xs,w.ownsRow 0 t sz v n xs∧v.ownBlock=L.blk id∧(∀k,k<n→(f k).length=sz)∧∀k,k<n→∀(j:Nat) y,(f k)[j]? = some y→RepD w gd y (xs.getD (k*sz+j) undef):=by
 cases hv with
 |rsl hcap hbb had=>
  have had:=had (.inl rfl)
  subst had
  cases hro with
  |row0 hbk hck=>
   refine ⟨[],?_,?_,fun k hk=>by omega,fun k hk=>by omega⟩
   ·rw [hbk,hck];exact World.ownsRow_nil w 0 t sz
   ·rw [hbk];rfl
  | @row _ _ _ _ cs b t9 mk hbk hh hn hm hz hf hrep hty hmk hcap0=>
   have ht9:=hty hmt
   subst ht9
   have hmk0:mk=(0,0):=hmk.resolve_right fun h=>absurd hmt (by rw [h.1];exact Nat.lt_irrefl _)
   subst hmk0
   refine ⟨cs.toList.take (n*sz),⟨?_,.inr ⟨b,L.cap id,cs,?_,Nat.zero_le _,hh,hn,hm,hz,rfl⟩⟩,?_,hf,fun k hk j y hy=>?_⟩
   ·rw [List.length_take,Array.length_toList,hz]
    exact Nat.min_eq_left (Nat.mul_le_mul_right _ hn)
   ·rw [hbk];simp
   ·rw [hbk];rfl
   ·have hj:j<sz:=by rw [←hf k hk];exact (List.getElem?_eq_some_iff.1 hy).1
    have hlt:k*sz+j<n*sz:=by
     have:=Nat.mul_le_mul_right sz (show k+1≤n from hk)
     rw [Nat.add_mul] at this;omega
    have:=hrep k hk j y hy
    rw [List.getD_eq_getElem?_getD,List.getElem?_take,if_pos hlt]
    rw [Array.getD_eq_getD_getElem?] at this
    rw [Array.getElem?_toList]
    exact this
theorem Rel.became {C:Ctx} {L:Lay} {h:Nat→Option AObj} {a:Act} {w w':World} (H:Rel C L (fun _=>.any) h a w) {id d:Nat} (hd:d∉C.lid) {o0:AObj} (hid:h id=some o0) (hh:∀j o,killH id h j=some o→j≠d∧o.free d=true)
  {t:TypeId} {sz m:Nat} {F:Nat→List D} {v v':Value} {ys:List Value} (hblk:v.ownBlock=L.blk id) (hown:w'.ownsRow 0 t sz v' m ys) (hg:w.grownBy w' v.ownBlock) (hb:∀k,v'.ownBlock=some k→v.ownBlock=some k∨w.heap.size≤k) (hF:∀k,k<m→(F k).length=sz)
  (hr:∀gd',Stays w w' (good C L h w) gd'→∀k,k<m→∀(j:Nat) x,(F k)[j]? = some x→RepD w' gd' x (ys.getD (k*sz+j) undef)) (ht:t<markT) :
  Rel C (L.upd d v'.ownBlock (capOf v')) (fun _=>.any) (hput (killH id h) d (.row t sz m F)) a w'∧RepA w' (L.upd d v'.ownBlock (capOf v')) (good C (L.upd d v'.ownBlock (capOf v')) (hput (killH id h) d (.row t sz m F)) w') (.rsl d sz 0 m) v':=by
 obtain ⟨r1,r2⟩:=H.app hd hid (fun t=>rfl) hh hg.os hg.tape hg.output hg.size (fun b hlt hne=>hg.block b hlt (by rw [hblk];exact hne)) v'.ownBlock (capOf v')
  (fun b e=>⟨own_lt hown b e,(hb b e).imp (fun h=>by rw [←hblk,h]) fun h=>h⟩)
  (fun gd' hst=>(row_of_own hown hF (hr gd' hst) L d ht).1)
 refine ⟨?_,(row_of_own hown hF (hr _ r2) L d ht).2⟩
 have e:killG id (fun _=>AVal.any)=fun _=>.any:=by funext t;rfl
 rw [e] at r1
 exact r1
end Towline
namespace Go.Proofs.YtbkcekmahdbgdaaGreat
open Go Go.RowKit Go.Lib
def zM:List Value:=[.int .u32 0,.bool false,.int .u16 0,.int .u16 0,.int .u32 0,.string ⟨#[]⟩]
theorem iM:(Tryz.prog.info? 116).map (fun i=>(i.zero,i.size,i.bytes))=some (some (Value.agg zM.toArray),6,32):=by kernel_rfl
theorem zvM (w:World):(zeroValue 116).run Tryz.prog w=.ok (Value.agg zM.toArray) w:=by
 obtain ⟨i0,hi0,h0,_,_⟩:=info_parts iM
 simp [zeroValue,typeInfo,hi0,h0]
set_option maxHeartbeats 4000000 in
theorem run_clearM (w:World) (ty:TypeId) (b o c:Nat) (hc:∀j,j<6→(w.cell? ⟨b,o+j,none⟩).isSome=true) (hf:∀j,j<6→w.frozen? ⟨b,o+j,none⟩=false) :
  (Builtin.clear_ #[50] ty #[.slice (some ⟨b,o,none⟩) 1 c]).run Tryz.prog w=.ok (.tuple #[]) (w.setCells b o zM):=by
 obtain ⟨z,hz⟩:∃z,z=Value.agg zM.toArray:=⟨_,rfl⟩
 have zv:∀w,(zeroValue 116).run Tryz.prog w=.ok z w:=fun w=>by rw [hz];exact zvM w
 have hzc:(Builtin.zeroCells z.cells 1).toList=zM:=by rw [hz];kernel_rfl
 have hst:=run_storeCells_cells (P:=Tryz.prog) b o zM 0 w (by simpa [zM] using hc) (by simpa [zM] using hf) (by simp [zM,Value.oneCell'])
 simp only [Nat.add_zero] at hst
 simp [Builtin.clear_,run_underlying Tryz.underlying50,zv,hzc,hst]
set_option maxHeartbeats 4000000 in
set_option maxRecDepth 1000000 in
theorem deleteM_calls (b n c i j:Nat) (cs:List Value) (w:World) (hcl:cs.length=n*6) (hcs:∀j v,cs[j]? = some v→w.cell? ⟨b,j,none⟩=some v) (h1c:∀v∈cs,v.oneCell'=true) (hfz:∀j,w.frozen? ⟨b,j,none⟩=false) (hij:j=i+1) (hi:i<n) (hnc:n≤c) (hm:c≤9223372036854775807) :
  Calls Tryz.prog 198 #[.slice (some ⟨b,0,none⟩) n c,.int .i64 i,.int .i64 j] w fun e w'=>e=.returned (.slice (some ⟨b,0,none⟩) (n-1) c)∧w'=(w.drew.setCells b (i*6) (cs.drop (j*6))).setCells b ((n-1)*6) zM:=by
 have mixed:Tryz.prog.follows .mixedOrders=true:=by kernel_rfl
 obtain ⟨i0,hi0,hz0,hz1,hz2⟩:=info_parts iM
 obtain ⟨news,hnews⟩:∃news,news=cs.drop (j*6):=⟨_,rfl⟩
 have hlen:news.length=(n-j)*6:=by rw [hnews];simp;omega
 obtain ⟨A,hA,hsrc⟩:∃A:Addr,(if c=j then (some ⟨b,0,none⟩:Option Addr) else some ⟨b,j*6,none⟩)=some A∧Hid (∀t u,news[t]? = some u→w.drew.cell? (A.add t)=some u):=by
  by_cases h:c=j
  ·refine ⟨⟨b,0,none⟩,by simp [h],fun t u hu=>?_⟩
   have h0:news.length=0:=by rw [hlen];omega
   rw [List.length_eq_zero_iff.1 h0] at hu
   simp at hu
  ·refine ⟨⟨b,j*6,none⟩,by simp [h],fun t u hu=>?_⟩
   rw [hnews,List.getElem?_drop] at hu
   rw [Addr.add_lit]
   exact hcs _ u hu
 have s1:Hid (news.length=(n-j)*6):=hlen
 have s2:Hid (∀u∈news,u.oneCell'=true):=fun u hu=>h1c u (List.mem_of_mem_drop (hnews▸hu))
 have hsome:∀k,k<n*6→(w.cell? ⟨b,k,none⟩).isSome=true:=fun k hk=>by rw [hcs k _ (List.getElem?_eq_getElem (by omega))];rfl
 have s3:Hid (∀t,t<news.length→(w.drew.cell? ⟨b,0+i*6+t,none⟩).isSome=true∧w.drew.frozen? ⟨b,0+i*6+t,none⟩=false):=fun t ht=>by
  rw [hlen] at ht
  exact ⟨hsome _ (by omega),hfz _⟩
 obtain ⟨W1,hW1⟩:∃W1,W1=w.drew.setCells b (0+i*6) news:=⟨_,rfl⟩
 have hcl1:∀ty cc,(Builtin.clear_ #[50] ty #[.slice (some ⟨b,(i+(n-j))*6,none⟩) 1 cc]).run Tryz.prog W1=.ok (.tuple #[]) (W1.setCells b ((i+(n-j))*6) zM):=fun ty cc=>
  run_clearM W1 ty b _ cc (fun j hj=>by
   rw [hW1]
   exact isSome_setCells b _ _ _ (fun t ht=>by rw [hlen] at ht;exact hsome _ (by omega)) _ (hsome _ (by omega))) (fun j hj=>by rw [hW1,World.frozen?_setCells];exact hfz _)
 have hW:Hid (W1=w.drew.setCells b (0+i*6) news):=hW1
 have X:Hid (news=cs.drop (j*6)):=hnews
 have hjn:j≤n:=by omega
 have hlt:i<j:=by omega
 have hic:i≤c:=by omega
 have hjc:j≤c:=by omega
 have hne:¬((i:Int)=(j:Int)):=by omega
 have hone:n-(i+(n-j))=1:=by omega
 have hjX:Hid (j=i+1):=hij
 clear hij
 clear hW1 hcs h1c hfz hsome hnews hlen
 go_enter Tryz.func198,Tryz.ntmps198
 go_wp2_with fail
 go_region_law_o (refine step_append_room rfl (.tmp 22) (.tmp 25) 50 rfl 116 i0 6 Tryz.underlying50 hi0 hz1 b 0 i c (by simp [Act.eval,Act.put]) A (n-j) (c-j) news (by simp [Act.eval,Act.put]) s1.out hsrc.out s2.out (by omega) s3.out ?_;rw [←hW.out])
 go_wp2
 go_ret
 have e:=hjX.out
 subst e
 have e2:i+(n-(i+1))=n-1:=by omega
 refine ⟨?_,?_⟩
 ·rw [←e2];rfl
 rw [hW.out,X.out,Nat.zero_add,show i+(n-(i+1))=n-1 from by omega]
open Go Go.RowKit Towline Towline.Hand Towline.Ac Towline.Chunk
set_option maxRecDepth 20000
set_option maxHeartbeats 4000000
abbrev rowFm (l:List Fm):AObj:=.row 116 6 l.length fun j=>encFm (l.getD j default)
abbrev rowS (l:List Int):AObj:=.row 39 1 l.length fun j=>encS (l.getD j default)
theorem getD_cut (l:List Int) (at_:Nat) (x:Int) (h:at_≤l.length):(l.map (Value.int .u32)).take at_++Value.int .u32 x::(l.map (Value.int .u32)).drop at_=(l.take at_++x::l.drop at_).map (Value.int .u32):=by simp
theorem insert_lspec (l:List Int) (at_:Nat) (x:Int) (h:at_≤l.length) (hl:l.length≤2 ^ 29):LSpec Tryz.prog 132 [.rsl F0 1 0 l.length,vi at_,.rsl F1 1 0 1] [(F0,rowU l),(F1,.row 38 1 1 fun _=>encU x)]
  (fun r hl=>r=.rsl 2000 1 0 (l.length+1)∧hl=[(2000,rowU (l.take at_++x::l.drop at_))]):=by
 refine LSpec.raw ⟨_,_,Tryz.func132,by decide,rfl⟩ rfl fun C L w vs hw0 hnt H hz ha=>?_
 obtain ⟨vl⟩:=vs
 match vl,hz with
 | [v0,v1,v2],_=>
 have h0:=ha 0 _ rfl
 have h1:=ha 1 _ rfl
 have h2:=ha 2 _ rfl
 obtain ⟨xs,o1,o2,o3,o4⟩:=own_of_row (by decide) (H.obj F0 (rowU l) rfl) h0
 obtain ⟨ys,p1,p2,p3,p4⟩:=own_of_row (by decide) (H.obj F1 _ rfl) h2
 have hv1:v1=.int .i64 at_:=by
  cases h1 with
  |d hd=>cases hd;rfl
 have hxs:xs=l.map (Value.int .u32):=by
  apply List.ext_getElem
  ·rw [List.length_map,o1.1,Nat.mul_one]
  ·intro k k1 k2
   have hk:k<l.length:=by simpa using k2
   have h6:RepD w _ (.i .u32 (l.getD k default)) (xs.getD (k*1+0) undef):=o4 k hk 0 _ rfl
   have e1:l.getD k default=l[k]:=by rw [List.getD_eq_getElem?_getD,List.getElem?_eq_getElem hk];rfl
   have e2:xs.getD (k*1+0) undef=xs[k]:=by rw [Nat.mul_one,Nat.add_zero,List.getD_eq_getElem?_getD,List.getElem?_eq_getElem k1];rfl
   rw [e1,e2] at h6
   rw [List.getElem_map]
   generalize xs[k]=u at h6
   cases h6
   rfl
 have hys:ys=[.int .u32 x]:=by
  have hl1:=p1.1
  match ys,hl1 with
  | [u],_=>
   have:=p4 0 (by omega) 0 _ rfl
   have e:u=.int .u32 x:=by
    have h5:RepD w _ (.i .u32 x) u:=this
    cases h5;rfl
   rw [e]
 subst hv1 hxs hys
 have hvb:∃vb vc vcur,v2=.slice (some ⟨vb,0,none⟩) 1 vc∧w.heap[vb]? = some (.cells vcur 38 (0,0))∧vcur[0]? = some (.int .u32 x):=by
  rcases p1.2 with ⟨_,e⟩|⟨g,cap,cur,e1,_,e2,e3,_,e4,e5⟩
  ·cases e
  ·refine ⟨g,cap,cur,e1,e2,?_⟩
   rw [←Array.getElem?_toList]
   have:(cur.toList.take (1*1))[0]? = some (.int .u32 x):=by rw [e5];rfl
   rw [List.getElem?_take] at this
   simpa using this
 obtain ⟨vb,vc,vcur,rfl,q1,q2⟩:=hvb
 have hne:v0.ownBlock≠some vb:=fun e=>by
  have e1:L.blk F0=some vb:=by rw [←o2];exact e
  have e2:L.blk F1=some vb:=by rw [←p2];rfl
  have:=H.inj F0 F1 _ _ vb rfl rfl e1 e2
  cases this
 have hcall:=insertU_own 0 v0 l.length at_ vb vc _ (.int .u32 x) vcur _ w o1 (fun u hu=>by obtain ⟨y,_,rfl⟩:=List.mem_map.1 hu;rfl) h hl (Nat.zero_le _) q1 q2 hne rfl
 refine hcall.mono ?_
 rintro e w' ⟨v',rfl,g1,g2,g3⟩
 rw [getD_cut l at_ x h] at g1
 obtain ⟨R1,R2⟩:=H.became (id:=F0) (d:=2000) (fun hm=>by have:=(H.lidn 2000 hm).1;revert this;decide) rfl (fun j o hj=>by
   have hj':(if j=F0 then none else match lko [(F0,rowU l),(F1,.row 38 1 1 fun _=>encU x)] j with|some o=>killO F0 o|none=>none)=some o:=hj
   split at hj'
   ·cases hj'
   ·rename_i hjn
    by_cases hj1:j=F1
    ·subst hj1
     cases hj'
     exact ⟨by decide,rfl⟩
    ·exfalso
     have:lko [(F0,rowU l),(F1,.row 38 1 1 fun _=>encU x)] j=none:=by
      show lookO j _=none
      rw [lookO_cons,if_neg hjn,lookO_cons,if_neg hj1];rfl
     rw [this] at hj'
     cases hj')
  (t:=38) (sz:=1) (m:=l.length+1) (F:=fun j=>encU ((l.take at_++x::l.drop at_).getD j default)) o2 g1 g2 g3 (fun k hk=>rfl)
  (fun gd' _ k hk j y hy=>by
   have hlen:(l.take at_++x::l.drop at_).length=l.length+1:=by simp;omega
   generalize l.take at_++x::l.drop at_=m at hlen hy ⊢
   have hy':[D.i .u32 (m.getD k default)][j]? = some y:=hy
   cases j with
   |succ j=>simp at hy'
   |zero=>
    simp only [List.getElem?_cons_zero,Option.some.injEq] at hy'
    subst hy'
    have hk':k<m.length:=by omega
    rw [show m.getD k default=m[k] from by rw [List.getD_eq_getElem?_getD,List.getElem?_eq_getElem hk'];rfl,show (m.map (Value.int .u32)).getD (k*1+0) undef=Value.int .u32 m[k] from by rw [Nat.mul_one,Nat.add_zero,List.getD_eq_getElem?_getD,List.getElem?_map,List.getElem?_eq_getElem hk'];rfl]
    exact .i _ _) (by decide)
 have hlen:(l.take at_++x::l.drop at_).length=l.length+1:=by simp;omega
 refine ⟨v',.rsl 2000 1 0 (l.length+1),[(2000,rowU (l.take at_++x::l.drop at_))],L.upd 2000 v'.ownBlock (capOf v'),rfl,⟨rfl,rfl⟩,?_,?_⟩
 ·refine R1.drop fun i o hi=>?_
  have hi:lookO i [(2000,rowU (l.take at_++x::l.drop at_))]=some o:=hi
  rw [lookO_cons] at hi
  split at hi
  ·rename_i e
   subst e
   cases hi
   show hput _ _ _ 2000=_
   unfold hput
   rw [if_pos rfl]
   show some (AObj.row _ _ _ _)=some (AObj.row _ _ _ _)
   rw [hlen]
  ·cases hi
 ·refine R2.mono1 (Nat.le_refl _) (fun b _ hb=>⟨⟨hb.1,hb.2.1,fun ⟨i,o,k1,k2⟩=>hb.2.2 ?_⟩,rfl⟩) (fun _ _=>rfl)
  have k1:lookO i [(2000,rowU (l.take at_++x::l.drop at_))]=some o:=k1
  rw [lookO_cons] at k1
  split at k1
  ·rename_i e
   subst e
   exact ⟨2000,_,by unfold hput;rw [if_pos rfl],k2⟩
  ·cases k1
theorem size_setCells' (b:Nat):∀(vs:List Value) (o:Nat) (w:World),(w.setCells b o vs).heap.size=w.heap.size
 | [],_,_=>rfl
 |v::r,o,w=>by rw [World.setCells,size_setCells' b r];unfold World.setCell;simp
theorem layL_get (cur:List Value) (o:Nat) (vs:List Value) (h:o+vs.length≤cur.length) (p:Nat):(layL cur o vs)[p]? = if p<o then cur[p]? else if p<o+vs.length then vs[p-o]? else cur[p]?:=by
 unfold layL
 by_cases h1:p<o
 ·rw [if_pos h1,List.append_assoc,List.getElem?_append_left (by simp;omega),List.getElem?_take,if_pos h1]
 ·rw [if_neg h1]
  by_cases h2:p<o+vs.length
  ·rw [if_pos h2,List.getElem?_append_left (by simp;omega),List.getElem?_append_right (by simp;omega)]
   congr 1;simp;omega
  ·rw [if_neg h2,List.getElem?_append_right (by simp;omega),List.getElem?_drop]
   congr 1;simp;omega
theorem layL_len (cur:List Value) (o:Nat) (vs:List Value) (h:o+vs.length≤cur.length):(layL cur o vs).length=cur.length:=by unfold layL;simp;omega
theorem erase_get (l:List Fm) (i k:Nat):(l.eraseIdx i).getD k default=if k<i then l.getD k default else l.getD (k+1) default:=by
 rw [List.getD_eq_getElem?_getD,List.getElem?_eraseIdx]
 split<;>rfl
theorem delete_lspec (l:List Fm) (i:Nat) (h:i<l.length) (hl:l.length≤2 ^ 29):LSpec Tryz.prog 198 [.rsl F0 6 0 l.length,vi i,vi ((i:Int)+1)] [(F0,rowFm l)]
  (fun r hl=>r=.rsl F0 6 0 (l.length-1)∧hl=[(F0,rowFm (l.eraseIdx i))]):=by
 refine LSpec.raw ⟨_,_,Tryz.func198,by decide,rfl⟩ rfl fun C L w vs hw0 hnt H hz ha=>?_
 obtain ⟨vl⟩:=vs
 match vl,hz with
 | [v0,v1,v2],_=>
 have h0:=ha 0 _ rfl
 have h1:=ha 1 _ rfl
 have h2:=ha 2 _ rfl
 have hv1:v1=.int .i64 i:=by
  cases h1 with
  |d hd=>cases hd;rfl
 have hv2:v2=.int .i64 ((i+1:Nat):Int):=by
  cases h2 with
  |d hd=>cases hd;rfl
 subst hv1 hv2
 have hro:=H.obj F0 (rowFm l) rfl
 obtain ⟨n,hn0⟩:∃n,n=l.length:=⟨_,rfl⟩
 have hro2:RepO w (good C L (lko [(F0,rowFm l)]) w) L F0 (.row 116 6 n fun j=>encFm (l.getD j default)):=by rw [hn0];exact hro
 have h00:RepA w L (good C L (lko [(F0,rowFm l)]) w) (.rsl F0 6 0 n) v0:=by rw [hn0];exact h0
 have hv0:∃b cur,L.blk F0=some b∧v0=.slice (some ⟨b,0,none⟩) n (L.cap F0)∧w.heap[b]? = some (.cells cur 116 (0,0))∧n≤L.cap F0∧L.cap F0≤maxLen∧cur.size=L.cap F0*6∧∀k,k<n→∀(j:Nat) x,(encFm (l.getD k default))[j]? = some x→RepD w (good C L (lko [(F0,rowFm l)]) w) x (cur.getD (k*6+j) undef):=by
  cases h00 with
  |rsl hcap hbb had=>
   have had:=had (.inl rfl)
   subst had
   cases hro2 with
   |row0 hbk hck=>omega
   | @row _ _ _ _ cs b t9 mk hbk hh hn hm hz hf hrep hty hmk hcap0=>
    have ht9:=hty (by decide)
    subst ht9
    have hmk0:mk=(0,0):=hmk.resolve_right fun h=>absurd h.1 (by decide)
    subst hmk0
    exact ⟨b,cs,hbk,by rw [hbk];simp,hh,hn,hm,hz,hrep⟩
 obtain ⟨b,cur,e1,rfl,e3,e4,e5,e6,e7⟩:=hv0
 have hcap6:n*6≤L.cap F0*6:=Nat.mul_le_mul_right 6 e4
 unfold maxLen at e5
 obtain ⟨cs,hcs⟩:∃cs,cs=cur.toList.take (n*6):=⟨_,rfl⟩
 have hcl:cs.length=n*6:=by rw [hcs,List.length_take,Array.length_toList];omega
 have hcc:∀p,p<n*6→cs[p]? = cur[p]?:=fun p hp=>by rw [hcs,List.getElem?_take,if_pos hp,Array.getElem?_toList]
 have hone:∀u∈cs,u.oneCell'=true:=fun u hu=>by
  obtain ⟨p,hp,rfl⟩:=List.getElem_of_mem hu
  have hd:p / 6<n:=by omega
  have h9:=e7 (p / 6) hd (p % 6)
  have h10:p % 6<(encFm (l.getD (p / 6) default)).length:=Nat.mod_lt _ (by decide)
  have h11:=(h9 _ (List.getElem?_eq_getElem h10)).one
  rw [show p / 6*6+p % 6=p from by omega] at h11
  have h12:=hcc p (by omega)
  rw [List.getElem?_eq_getElem hp] at h12
  rw [Array.getD_eq_getD_getElem?,←h12] at h11
  exact h11
 have hcall:=deleteM_calls b n (L.cap F0) i (i+1) cs w hcl (fun j v hj=>by
   have hj2:j<n*6:=by rw [←hcl];exact (List.getElem?_eq_some_iff.1 hj).1
   rw [cellAt w b j cur _ _ e3,←hcc j hj2];exact hj) hone (fun j=>frozAt w b j cur _ e3) rfl (by omega) e4 (by omega)
 refine hcall.mono ?_
 rintro e w' ⟨rfl,rfl⟩
 have hdl:(cs.drop ((i+1)*6)).length=(n-(i+1))*6:=by rw [List.length_drop,hcl];omega
 have k1:i*6+(cs.drop ((i+1)*6)).length≤cur.toList.length:=by rw [hdl,Array.length_toList];omega
 have g1:=heap_setCells_at b _ _ (cs.drop ((i+1)*6)) (i*6) w.drew cur e3 (by simpa using k1)
 have hl1:=layL_len cur.toList (i*6) _ k1
 have hz6:zM.length=6:=rfl
 have k2:(n-1)*6+zM.length≤(layL cur.toList (i*6) (cs.drop ((i+1)*6))).length:=by rw [hl1,hz6,Array.length_toList];omega
 have g2:=heap_setCells_at b _ _ zM ((n-1)*6) _ _ g1 (by simpa using k2)
 have gb:=((grownBy_drew w (some b)).tr (grownBy_setCells b (cs.drop ((i+1)*6)) (i*6) w.drew)).tr (grownBy_setCells b zM ((n-1)*6) _)
 have hsz:((w.drew.setCells b (i*6) (cs.drop ((i+1)*6))).setCells b ((n-1)*6) zM).heap.size=w.heap.size:=by
  rw [size_setCells',size_setCells'];rfl
 have hR:=H.set (id:=F0) (o':=rowFm (l.eraseIdx i)) rfl e1 gb.os gb.tape gb.output hsz (fun b' hne=>by
   by_cases hlt:b'<w.heap.size
   ·exact gb.block b' hlt (fun e=>hne (Option.some.inj e))
   ·rw [Array.getElem?_eq_none (by rw [hsz];omega),Array.getElem?_eq_none (by omega)]) (fun gd' hst _=>by
   have hlen:(l.eraseIdx i).length=n-1:=by rw [List.length_eraseIdx,if_pos h,hn0]
   show RepO _ gd' L F0 (.row 116 6 (l.eraseIdx i).length fun j=>encFm ((l.eraseIdx i).getD j default))
   rw [hlen]
   refine .row e1 g2 (by omega) (by unfold maxLen;omega) ?_ (fun k _=>rfl) (fun k hk j x hx=>?_) (fun _=>rfl) (.inl rfl) (fun m hm=>absurd (show arT≤116 from hm▸Nat.le_add_right arT m) (by decide))
   ·have:=layL_len (layL cur.toList (i*6) (cs.drop ((i+1)*6))) ((n-1)*6) zM k2
    simp [this,hl1];omega
   ·have hj:j<6:=(List.getElem?_eq_some_iff.1 hx).1
    have hp:k*6+j<(n-1)*6:=by
     have:=Nat.mul_le_mul_right 6 (show k+1≤n-1 from hk)
     omega
    rw [erase_get] at hx
    rw [Array.getD_eq_getD_getElem?,List.getElem?_toArray,layL_get _ _ _ k2,if_pos hp,List.toList_toArray,layL_get _ _ _ k1,hdl]
    have hfin:∀q,q<n→(encFm (l.getD q default))[j]? = some x→RepD _ gd' x ((cur.toList[q*6+j]?).getD undef):=fun q hq hxq=>by
     have:=(e7 q hq j x hxq).mono gb.size hst
     rw [Array.getD_eq_getD_getElem?] at this
     rw [Array.getElem?_toList];exact this
    by_cases hki:k<i
    ·rw [if_pos hki] at hx
     rw [if_pos (by omega)]
     exact hfin k (by omega) hx
    ·rw [if_neg hki] at hx
     rw [if_neg (by omega),if_pos (by omega),List.getElem?_drop,show (i+1)*6+(k*6+j-i*6)=(k+1)*6+j from by omega,hcc _ (by omega),←Array.getElem?_toList]
     exact hfin (k+1) (by omega) hx)
 have hlen:(l.eraseIdx i).length=n-1:=by rw [List.length_eraseIdx,if_pos h,hn0]
 have hsame:∀j,hput (lko [(F0,rowFm l)]) F0 (rowFm (l.eraseIdx i)) j=lko [(F0,rowFm (l.eraseIdx i))] j:=fun j=>by
  unfold hput
  show _=lookO j _
  rw [lookO_cons]
  split
  ·rfl
  ·rename_i hj
   show lookO j _=_
   rw [lookO_cons,if_neg hj]
 have hR2:=hR.drop (h':=lko [(F0,rowFm (l.eraseIdx i))]) fun j o hj=>by rw [hsame];exact hj
 refine ⟨_,.rsl F0 6 0 (l.length-1),[(F0,rowFm (l.eraseIdx i))],L,rfl,⟨rfl,rfl⟩,hR2,?_⟩
 rw [←hn0]
 have:RepA ((w.drew.setCells b (i*6) (cs.drop ((i+1)*6))).setCells b ((n-1)*6) zM) L (good C L (lko [(F0,rowFm (l.eraseIdx i))]) ((w.drew.setCells b (i*6) (cs.drop ((i+1)*6))).setCells b ((n-1)*6) zM)) (.rsl F0 6 0 (n-1)) (.slice ((L.blk F0).map fun b=>⟨b,0*6,none⟩) (n-1) (L.cap F0-0)):=.rsl (by omega) (fun _=>⟨b,e1⟩) (fun _=>rfl)
 rw [e1] at this
 simpa using this
end Go.Proofs.YtbkcekmahdbgdaaGreat
namespace Towline.Ac
structure Gt where
 cum:Int
 ab:List Int
 du:List Int
structure Gt.Ok (g:Gt):Prop where
 c:0≤g.cum∧g.cum<4294967296
 up:g.ab.Pairwise fun a b=>key g.cum a<key g.cum b
 u:∀a∈g.ab,0≤a∧a<4294967296
 len:g.ab.length≤2 ^ 20
 dl:g.du.length≤100
def Gt.take (g:Gt) (n:Int):Gt×Bool:=
 if hasG g.cum g.ab n=true then ((if g.du.length<100 then ⟨g.cum,g.ab,g.du++[n]⟩ else g),false)
 else ((⟨(takeG g.cum g.ab n).1.1,(takeG g.cum g.ab n).1.2,g.du⟩:Gt),(takeG g.cum g.ab n).2)
theorem posG_le (cum:Int) (l:List Int) (n:Int):posG cum l n≤l.length:=by unfold posG;exact (List.takeWhile_prefix _).length_le
theorem getD_drop' {α:Type} [Inhabited α] (l:List α) (i j:Nat):(l.drop i).getD j default=l.getD (i+j) default:=by rw [List.getD_eq_getElem?_getD,List.getD_eq_getElem?_getD,List.getElem?_drop]
end Towline.Ac
namespace Go.Proofs.YtbkcekmahdbgdaaGreat
open Go Go.RowKit Towline Towline.Hand Towline.Ac Towline.Chunk
set_option maxRecDepth 20000
set_option maxHeartbeats 4000000
abbrev gtA (g:Gt):AVal:=.agg [v32 g.cum,.d (slT 1 encU g.ab),.d (slT 1 encU g.du)]
abbrev TGt:Tys:=tysX false [] [(132,[])] [fsT+38]
theorem TGtOk:TysOk Tryz.prog TGt:=tysXOk _ _ _ _
theorem gtake_spec (g:Gt) (n:Int) (hg:g.Ok) (hn:0≤n∧n<4294967296):PSpec Tryz.prog 76 [gtA g,v32 n] (· = .tup [gtA (g.take n).1,vb (g.take n).2]):=by
 obtain ⟨⟨c1,c2⟩,up,u,len,dl⟩:=hg
 refine PSpec.run (TGtOk) followsB Tryz.func76 (by decide) rfl Tryz.ntmps76 (Nat.le_of_ble_eq_true rfl) rfl fun w0 R0 hGw=>?_
 conv=>whnf
 refine ⟨_,(gotHas_spec g.cum g.ab (slT 1 encU g.du) n (by omega) up u hn),?_⟩
 rintro q rfl
 conv=>whnf
 cases hh:hasG g.cum g.ab n
 ·conv=>whnf
  rw [wrapU]
  cases hf:decide (4000<w32 (n-g.cum))
  ·have hf:=of_decide_eq_false hf
   have eT:g.take n=(⟨(absorbG g.cum (insG g.cum g.ab n)).1,(absorbG g.cum (insG g.cum g.ab n)).2,g.du⟩,true):=by
    unfold Gt.take takeG;rw [if_neg (by rw [hh];simp),if_neg hf]
   rw [eT]
   conv=>whnf
   refine ⟨_,(place_spec g.cum g.ab (slT 1 encU g.du) n (by omega) up),?_⟩
   rintro q rfl
   conv=>whnf
   refine ⟨_,(cloneU32_spec encU g.ab (by omega)),?_⟩
   rintro q rfl
   conv=>whnf
   have hT:(insG g.cum g.ab n).length=g.ab.length+1:=by
    have:=posG_le g.cum g.ab n
    unfold insG;simp;omega
   have hins:=insert_lspec g.ab (posG g.cum g.ab n) n (posG_le _ _ _) (by omega)
   rw [show g.ab.take (posG g.cum g.ab n)++n::g.ab.drop (posG g.cum g.ab n)=insG g.cum g.ab n from rfl] at hins
   generalize insG g.cum g.ab n=T at hT hins
   refine ⟨_,(hins.heapC ⟨rfl,OLe.refl _,rfl,⟨rfl,rfl,rfl,fun k hk=>by obtain rfl:k=0:=(by omega);rfl⟩,trivial⟩),?_⟩
   rintro q hq ⟨rfl,rfl⟩
   unfold ABack
   generalize hfr:freshN _ _ _ _=fb
   have hb:fb=true:=by
    rw [←hfr]
    conv=>lhs;whnf
   subst hb
   clear hfr
   dsimp only
   conv=>whnf
   try dsimp only [newBase,Nat.reduceAdd,Nat.reduceMul]
   refine ALoop.intro TGtOk followsB (fun x:{x:Nat×Int // x.1≤T.length∧absorbG x.2 (T.drop x.1)=absorbG g.cum T}=>([(1,v32 n),(2,.ptr 2 0),(4,.ptr 4 0),(5,vb false)],[(48000,rowU T),(2,.box [v32 x.1.2,.rsl 48000 1 x.1.1 (T.length-x.1.1),.d (slT 1 encU g.du)]),(4,.box [v32 0,.d nilD,.d nilD])])) (fun x=>T.length-x.1.1) ⟨(0,g.cum),by omega,rfl⟩ ?_ ?_
   ·refine ⟨.refl _,.refl _,.refl _,.refl _,OLe.refl _,⟨.refl _,.of_eq (congrArg (AVal.rsl 48000 1 0) (by dsimp only;omega)),.refl _,trivial⟩,OLe.refl _,trivial⟩
   ·rintro ⟨⟨o,c⟩,ho,ha⟩
    dsimp only at ho ha ⊢
    conv=>whnf
    cases g1:decide ((0:Int)<((T.length-o:Nat):Int))
    ·have g1:o=T.length:=by have:=of_decide_eq_false g1;omega
     obtain ⟨q,rfl⟩:∃q,o=q+1:=⟨o-1,by omega⟩
     rw [List.drop_of_length_le (by omega),absorbG] at ha
     conv=>whnf
     refine gR ?_
     conv=>whnf
     refine ⟨by omega,?_⟩
     conv=>whnf
     refine ⟨.tup [gtA ⟨(absorbG g.cum T).1,(absorbG g.cum T).2,g.du⟩,vb true],.tup ⟨.agg ⟨.of_eq (by rw [←ha]),.sl (by rw [←ha];show T.length-(q+1)=0;omega) (fun j hj=>absurd hj (by omega)),.refl _,trivial⟩,.refl _,trivial⟩,rfl,rfl⟩
    ·have g1:o<T.length:=by have:=of_decide_eq_true g1;omega
     have hdr:T.drop o=T.getD o default::T.drop (o+1):=by
      rw [List.drop_eq_getElem_cons g1,List.getD_eq_getElem?_getD,List.getElem?_eq_getElem g1];rfl
     rw [hdr,absorbG] at ha
     conv=>whnf
     refine gK ?_
     conv=>whnf
     rw [show o+Int.toNat 0=o from rfl]
     refine ⟨g1,?_⟩
     conv=>whnf
     rw [wrapU]
     cases g2:(T.getD o default==w32 (c+1))
     ·rw [if_neg (beq_eq_false_iff_ne.1 g2)] at ha
      rcases o with _|o
      ·rw [←hdr] at ha
       conv=>whnf
       refine gR ?_
       conv=>whnf
       refine ⟨by omega,?_⟩
       conv=>whnf
       exact ⟨.tup [gtA ⟨(absorbG g.cum T).1,(absorbG g.cum T).2,g.du⟩,vb true],.tup ⟨.agg ⟨.of_eq (by rw [←ha]),.sl (by rw [←ha];rfl) (fun j hj=>by rw [←ha];rfl),.refl _,trivial⟩,.refl _,trivial⟩,rfl,rfl⟩
      ·rw [←hdr] at ha
       conv=>whnf
       refine gR ?_
       conv=>whnf
       refine ⟨by omega,?_⟩
       conv=>whnf
       exact ⟨.tup [gtA ⟨(absorbG g.cum T).1,(absorbG g.cum T).2,g.du⟩,vb true],.tup ⟨.agg ⟨.of_eq (by rw [←ha]),.sl (by rw [←ha];exact (List.length_drop ..).symm) (fun j hj=>by rw [←ha];exact congrArg encU (getD_drop' T (o+1) j).symm),.refl _,trivial⟩,.refl _,trivial⟩,rfl,rfl⟩
     ·rw [if_pos (eq_of_beq g2)] at ha
      conv=>whnf
      refine gR ?_
      conv=>whnf
      refine gK ?_
      conv=>whnf
      refine ⟨⟨(o+1,w32 (c+1)),by omega,ha⟩,by dsimp only;omega,.refl _,.refl _,.refl _,.refl _,OLe.refl _,⟨.refl _,.of_eq (by show AVal.rsl 48000 1 (o+1) (T.length-o-1)=_;rw [Nat.sub_sub]),.refl _,trivial⟩,OLe.refl _,trivial⟩
  ·have hf:=of_decide_eq_true hf
   conv=>whnf
   refine ⟨.tup [gtA g,vb false],.refl _,?_,rfl⟩
   unfold Gt.take takeG;rw [if_neg (by rw [hh];simp),if_pos hf]
 ·conv=>whnf
  cases hd:decide ((g.du.length:Int)<100)
  ·have hd:=of_decide_eq_false hd
   conv=>whnf
   refine ⟨.tup [gtA g,vb false],.refl _,?_,rfl⟩
   unfold Gt.take;rw [if_pos hh,if_neg (by omega)]
  ·have hd:=of_decide_eq_true hd
   conv=>whnf
   refine gK ?_
   conv=>whnf
   refine ⟨⟨⟨by omega,by simp only [ty38];omega⟩,by omega⟩,?_⟩
   conv=>whnf
   rw [tnC]
   refine ⟨by omega,?_⟩
   conv=>whnf
   refine ⟨.tup [gtA ⟨g.cum,g.ab,g.du++[n]⟩,vb false],.tup ⟨.agg ⟨.refl _,.refl _,.sl (by simp) (fun j hj=>slT_app encU g.du n j (by simpa using hj) rfl),trivial⟩,.refl _,trivial⟩,?_,rfl⟩
   unfold Gt.take;rw [if_pos hh,if_pos (by omega)]
end Go.Proofs.YtbkcekmahdbgdaaGreat
namespace Towline.Ac
structure Qu where
 nx:List Int
 w:List Fm
def toldQ (s:Nat):Nat→List Int→List Fm→List Fm→Qu×List Fm
 |0,nx,w,acc=>(⟨nx,w⟩,acc)
 |f+1,nx,w,acc=>
  if idx (fun m:Fm=>m.stream==(s:Int)&&m.ssn==nx.getD s default) w<0 then (⟨nx,w⟩,acc)
  else toldQ s f (nx.set s ((nx.getD s default+1) % 65536)) (w.eraseIdx (idx (fun m:Fm=>m.stream==(s:Int)&&m.ssn==nx.getD s default) w).toNat)
   (acc++[w.getD (idx (fun m:Fm=>m.stream==(s:Int)&&m.ssn==nx.getD s default) w).toNat default])
theorem toldQ_step (s:Nat) (nx:List Int) (w acc:List Fm):toldQ s w.length nx w acc =
  if idx (fun m:Fm=>m.stream==(s:Int)&&m.ssn==nx.getD s default) w<0 then (⟨nx,w⟩,acc)
  else toldQ s (w.eraseIdx (idx (fun m:Fm=>m.stream==(s:Int)&&m.ssn==nx.getD s default) w).toNat).length (nx.set s ((nx.getD s default+1) % 65536)) (w.eraseIdx (idx (fun m:Fm=>m.stream==(s:Int)&&m.ssn==nx.getD s default) w).toNat)
   (acc++[w.getD (idx (fun m:Fm=>m.stream==(s:Int)&&m.ssn==nx.getD s default) w).toNat default]):=by
 have h:=idx_lt (fun m:Fm=>m.stream==(s:Int)&&m.ssn==nx.getD s default) w
 cases w with
 |nil=>rfl
 |cons x r=>
  rw [List.length_cons,toldQ]
  split
  ·rfl
  ·rename_i hn
   rw [List.length_eraseIdx,if_pos (by omega)]
   rfl
theorem toldQ_nx (s:Nat):∀(f:Nat) (nx:List Int) (w acc:List Fm),(toldQ s f nx w acc).1.nx.length=nx.length
 |0,_,_,_=>rfl
 |f+1,nx,w,acc=>by
  unfold toldQ
  split
  ·rfl
  ·rw [toldQ_nx s f];simp
def Qu.put (q:Qu) (m:Fm):Option (Qu×List Fm):=
 if (q.nx.length:Int)≤m.stream then none else if m.free=true then some (q,[m])
 else if lateO m.ssn (q.nx.getD m.stream.toNat default)=true∨0≤idx (fun x=>x.stream==m.stream&&x.ssn==m.ssn) q.w then none
 else some (toldQ m.stream.toNat (q.w.length+1) q.nx (q.w++[m]) [])
end Towline.Ac
namespace Go.Proofs.YtbkcekmahdbgdaaGreat
open Go Go.RowKit Towline Towline.Hand Towline.Ac Towline.Chunk
set_option maxRecDepth 20000
set_option maxHeartbeats 4000000
abbrev TTo:Tys:=tysX false [] [(198,[])] []
theorem TToOk:TysOk Tryz.prog TTo:=tysXOk _ _ _ _
theorem wrap16m (n:Int):IntKind.u16.wrap n=n % 65536:=by simp [IntKind.wrap,IntKind.signed,IntKind.bits]
theorem told_spec' (nx:List Int) (w:List Fm) (s:Nat) (hs:s<nx.length) (hs6:s<65536) (hn:nx.length≤2 ^ 20) (hw:w.length≤2 ^ 20) (hu:∀x∈nx,0≤x∧x<65536) :
  LSpec Tryz.prog 145 [.agg [.rsl F0 1 0 nx.length,.rsl F1 6 0 w.length],v16 s] [(F0,rowS nx),(F1,rowFm w)]
   (fun r hl=>r=.tup [.agg [.rsl F0 1 0 nx.length,.rsl F1 6 0 (toldQ s w.length nx w []).1.w.length],.rsl 3001 6 0 (toldQ s w.length nx w []).2.length]∧hl=[(F0,rowS (toldQ s w.length nx w []).1.nx),(F1,rowFm (toldQ s w.length nx w []).1.w),(3001,rowFm (toldQ s w.length nx w []).2)]):=by
 refine LSpec.run (TToOk) followsB Tryz.func145 (by decide) rfl Tryz.ntmps145 (Nat.le_of_ble_eq_true rfl) rfl rfl fun w0 R0 Lo hGw=>?_
 conv=>whnf
 refine ALoop.adopt 6 3001 6 116 (fun j=>encFm (([]:List Fm).getD j default)) rfl rfl rfl ?_
 refine ALoop.introR TToOk followsB (fun x:{x:(List Int×List Fm)×List Fm // x.1.1.length=nx.length∧(∀y∈x.1.1,0≤y∧y<65536)∧x.1.2.length+x.2.length=w.length∧toldQ s x.1.2.length x.1.1 x.1.2 x.2=toldQ s w.length nx w []}=>([(1,v16 s),(2,.ptr 2 0),(4,.ptr 4 0),(5,.d nilD),(6,.rsl 3001 6 0 x.1.2.length)],[(2,.box [.rsl F0 1 0 nx.length,.rsl F1 6 0 x.1.1.2.length]),(4,.box [.d nilD,.d nilD]),(F0,rowS x.1.1.1),(F1,rowFm x.1.1.2),(3001,rowFm x.1.2)])) (fun x=>x.1.1.2.length) ⟨((nx,w),[]),rfl,hu,rfl,rfl⟩ ?_ ?_
 ·exact ⟨.refl _,.refl _,.refl _,.refl _,.refl _,OLe.refl _,OLe.refl _,OLe.refl _,OLe.refl _,OLe.refl _,trivial⟩
 ·rintro ⟨⟨⟨nx',w'⟩,acc⟩,h1,h2,h3,h4⟩
  dsimp only at h1 h2 h3 h4 ⊢
  have hst:=toldQ_step s nx' w' acc
  have hix:=idx_lt (fun m:Fm=>m.stream==(s:Int)&&m.ssn==nx'.getD s default) w'
  have hfs:=find_spec (.sl 1 nx.length fun j=>encS (nx'.getD j default)) w' s (nx'.getD s default) (by omega)
  generalize hi:idx (fun m:Fm=>m.stream==(s:Int)&&m.ssn==nx'.getD s default) w'=i at hst hix hfs
  have hns:=h2 _ (getD_mem' (l:=nx') (k:=s) (by omega))
  conv=>whnf
  refine gK ?_
  conv=>whnf
  rw [Nat.zero_add,tnC]
  refine ⟨by omega,?_⟩
  conv=>whnf
  refine ⟨by omega,?_⟩
  conv=>whnf
  refine ⟨by omega,?_⟩
  conv=>whnf
  refine ⟨_,hfs,?_⟩
  conv=>whnf
  refine gR ?_
  conv=>whnf
  cases g:decide (i<0)
  ·have g:=of_decide_eq_false g
   obtain ⟨j,rfl⟩:∃j:Nat,i=j:=⟨i.toNat,by omega⟩
   have hjl:j<w'.length:=by omega
   rw [if_neg g,tnC] at hst
   conv=>whnf
   refine gK ?_
   conv=>whnf
   rw [Nat.zero_add,tnC]
   refine ⟨hjl,?_⟩
   conv=>whnf
   refine ⟨⟨⟨rfl,by omega,by simp only [ty116];omega⟩,by omega⟩,?_⟩
   conv=>whnf
   refine gO ?_
   conv=>whnf
   refine ⟨_,(delete_lspec w' j hjl (by omega)),?_⟩
   rintro q hq ⟨rfl,rfl⟩
   unfold ABack
   generalize hfr:freshN _ _ _ _=fb
   have hb:fb=true:=by
    rw [←hfr]
    conv=>lhs;whnf
   subst hb
   clear hfr
   dsimp only
   conv=>whnf
   try dsimp only [newBase,Nat.reduceAdd,Nat.reduceMul]
   refine gK ?_
   conv=>whnf
   rw [Nat.zero_add,tnC]
   refine ⟨by omega,?_⟩
   conv=>whnf
   refine gK ?_
   conv=>whnf
   rw [Nat.zero_add,tnC]
   refine ⟨by omega,?_⟩
   conv=>whnf
   rw [wrap16m]
   have hel:(w'.eraseIdx j).length=w'.length-1:=by rw [List.length_eraseIdx,if_pos hjl]
   refine ⟨⟨((nx'.set s ((nx'.getD s default+1) % 65536),w'.eraseIdx j),acc++[w'.getD j default]),by simp;omega,fun y hy=>?_,by rw [hel];simp;omega,hst.symm.trans h4⟩,[(25,3001)],by dsimp only;omega,.refl _,.refl _,.refl _,.refl _,.of_eq (congrArg (AVal.rsl 3001 6 0) (by simp)),⟨.refl _,.of_eq (congrArg (AVal.rsl F1 6 0) hel.symm),trivial⟩,OLe.refl _,⟨rfl,rfl,by simp,fun k hk=>fupd_setD default encS nx' s _ (by omega) k⟩,OLe.refl _,⟨rfl,rfl,by simp,fun k hk=>slT_app encFm acc (w'.getD j default) k (by simpa using hk) rfl⟩,trivial⟩
   rcases List.mem_or_eq_of_mem_set hy with h|rfl
   ·exact h2 y h
   ·omega
  ·have g:=of_decide_eq_true g
   rw [if_pos g,h4] at hst
   rw [hst]
   conv=>whnf
   refine ⟨_,_,.refl _,?_,rfl,rfl⟩
   exact ⟨OLe.refl _,OLe.refl _,OLe.refl _,trivial⟩
theorem cloneS_spec (l:List Int) (hl:l.length≤2 ^ 30):PSpec Tryz.prog 144 [.d (slT 1 encS l)] (· = .fresh 39 1 l.length fun k=>encS (l.getD k default)):=cloneU16_spec encS l hl
abbrev TPt:Tys:=tysX false [] [(145,[])] []
theorem TPtOk:TysOk Tryz.prog TPt:=tysXOk _ _ _ _
theorem oput_new (q:Qu) (m:Fm) (hm:0≤m.stream∧m.stream<65536) (hn:q.nx.length≤2 ^ 20) (hw:q.w.length<2 ^ 20) (hu:∀x∈q.nx,0≤x∧x<65536) (h:m.stream<q.nx.length) (hf:m.free=false) (hl:lateO m.ssn (q.nx.getD m.stream.toNat default)=false) (hi:idx (fun x=>x.stream==m.stream&&x.ssn==m.ssn) q.w<0) :
  PSpec Tryz.prog 78 [quA q.nx q.w,fmA m] (· = .tup [quA (toldQ m.stream.toNat (q.w.length+1) q.nx (q.w++[m]) []).1.nx (toldQ m.stream.toNat (q.w.length+1) q.nx (q.w++[m]) []).1.w,.d (slT 6 encFm (toldQ m.stream.toNat (q.w.length+1) q.nx (q.w++[m]) []).2),vi 0]):=by
 obtain ⟨nx,w⟩:=q
 dsimp only at hn hw hu h hl hi ⊢
 obtain ⟨s,hs⟩:∃s:Nat,m.stream=s:=⟨m.stream.toNat,by omega⟩
 have htl:=told_spec' nx (w++[m]) s (by omega) (by omega) hn (by simp;omega) hu
 rw [show (w++[m]).length=w.length+1 from by simp] at htl
 have hs':m.stream.toNat=s:=by omega
 rw [hs'] at hl ⊢
 generalize hQ:toldQ s (w.length+1) nx (w++[m]) []=Q at htl
 rw [←hs] at htl
 refine PSpec.run (TPtOk) followsB Tryz.func78 (by decide) rfl Tryz.ntmps78 (Nat.le_of_ble_eq_true rfl) rfl fun w0 R0 hGw=>?_
 conv=>whnf
 refine gO ?_
 conv=>whnf
 rw [show decide ((nx.length:Int)≤m.stream)=false from decide_eq_false (by omega)]
 conv=>whnf
 rw [hf]
 conv=>whnf
 refine ⟨by omega,?_⟩
 conv=>whnf
 rw [hs']
 refine ⟨_,(late_spec m.ssn (nx.getD s default)),?_⟩
 conv=>whnf
 rw [show decide (IntKind.i16.wrap (IntKind.u16.wrap (m.ssn-nx.getD s default))<0)=false from hl]
 conv=>whnf
 refine ⟨_,(find_spec (slT 1 encS nx) w m.stream m.ssn (by omega)),?_⟩
 conv=>whnf
 refine gR ?_
 conv=>whnf
 rw [show decide ((0:Int)≤idx (fun x=>x.stream==m.stream&&x.ssn==m.ssn) w)=false from decide_eq_false (by omega)]
 conv=>whnf
 refine ⟨_,(cloneS_spec nx (by omega)),?_⟩
 conv=>whnf
 refine ⟨_,(cloneFm_spec encFm w (by omega)),?_⟩
 conv=>whnf
 refine ⟨⟨⟨rfl,by omega,by simp only [ty116];omega⟩,by omega⟩,?_⟩
 conv=>whnf
 refine gR ?_
 conv=>whnf
 refine ⟨_,(htl.heapC ⟨rfl,OLe.refl _,rfl,⟨rfl,rfl,by simp,fun k hk=>slT_app encFm w m k (by simpa using hk) (by rw [encFm,hf];rfl)⟩,trivial⟩),?_⟩
 rintro q hq ⟨rfl,rfl⟩
 unfold ABack
 generalize hfr:freshN _ _ _ _=fb
 have hb:fb=true:=by
  rw [←hfr]
  conv=>lhs;whnf
 subst hb
 clear hfr
 dsimp only
 conv=>whnf
 try dsimp only [newBase,Nat.reduceAdd,Nat.reduceMul]
 have hql:Q.1.nx.length=nx.length:=by rw [←hQ];exact toldQ_nx _ _ _ _ _
 refine ⟨by omega,?_⟩
 conv=>whnf
 refine ⟨by omega,?_⟩
 conv=>whnf
 refine ⟨by omega,?_⟩
 conv=>whnf
 exact ⟨.tup [quA Q.1.nx Q.1.w,.d (slT 6 encFm Q.2),vi 0],.tup ⟨.agg ⟨.sl hql.symm fun _ _=>rfl,.refl _,trivial⟩,.refl _,.refl _,trivial⟩,rfl,rfl⟩
end Go.Proofs.YtbkcekmahdbgdaaGreat
namespace Towline.Ac
end Towline.Ac
namespace Go.Proofs.YtbkcekmahdbgdaaGreat
open Go Go.RowKit Towline Towline.Hand Towline.Ac Towline.Chunk
set_option maxRecDepth 20000
set_option maxHeartbeats 4000000
end Go.Proofs.YtbkcekmahdbgdaaGreat
namespace Towline.Ac
def runStep (out:List (Int×Int)) (x:Int):List (Int×Int):=
 if 0<out.length∧w32 ((out.getD (out.length-1) default).2+1)=x then out.set (out.length-1) ((out.getD (out.length-1) default).1,x) else out++[(x,x)]
def runsF (l:List Int):List (Int×Int):=l.foldl runStep []
end Towline.Ac
namespace Go.Proofs.YtbkcekmahdbgdaaGreat
open Go Go.RowKit Towline Towline.Hand Towline.Ac Towline.Chunk
set_option maxRecDepth 20000
set_option maxHeartbeats 4000000
def w16 (n:Int):Int:=n % 65536
def gapsF (cum:Int) (l:List Int):List (Int×Int):=((runsF l).take 100).map fun r=>(w16 (w32 (r.1-cum)),w16 (w32 (r.2-cum)))
def sackC (g:Gt) (win:Int):Ch:=⟨3,0,g.cum,0,win,0,0,0,0,0,gapsF g.cum g.ab,g.du,[],[]⟩
end Go.Proofs.YtbkcekmahdbgdaaGreat
namespace Towline.Store
structure Msg where
 id:Int
 stream:Nat
 ppid:Nat
 free:Bool
 text:List UInt8
 til:Int
 deriving DecidableEq,Inhabited
structure Pc where
 tsn:Nat
 first:Bool
 last:Bool
 free:Bool
 stream:Nat
 ssn:Nat
 ppid:Nat
 text:List UInt8
def total (l:List Msg):Nat:=(l.map fun m=>m.text.length).sum
theorem total_append (a b:List Msg):total (a++b)=total a+total b:=by unfold total;simp
theorem total_take (l:List Msg) (k:Nat) (h:k<l.length):total (l.take (k+1))=total (l.take k)+(l.getD k default).text.length:=by
 rw [List.take_succ_eq_append_getElem h,total_append];simp [total,List.getD_eq_getElem?_getD,h]
theorem total_take_le (l:List Msg) (k:Nat):total (l.take k)≤total l:=by
 have h:=total_append (l.take k) (l.drop k)
 rw [List.take_append_drop] at h
 omega
structure S2 where
 l:List Msg
 a:Nat
 next:List Nat
def cut (m:Msg) (a:Nat) (most:Int):Nat:=(min ((m.text.length:Int)-a) (max 1 (min most 1000))).toNat
theorem cut_int {m:Msg} {a:Nat} {most:Int} (h:a<m.text.length):((cut m a most:Nat):Int)=min ((m.text.length:Int)-a) (max 1 (min most 1000)):=by
 unfold cut;omega
theorem cut_le {m:Msg} {a:Nat} {most:Int} (h:a<m.text.length):1≤cut m a most∧a+cut m a most≤m.text.length∧cut m a most≤1000:=by
 have:=cut_int (most:=most) h;omega
def num (m:Msg) (next:List Nat):Nat:=if m.free then 0 else next.getD m.stream 0
def pieceOf (m:Msg) (a:Nat) (next:List Nat) (most:Int):Pc:=
 ⟨0,a==0,decide (m.text.length≤a+cut m a most),m.free,m.stream,num m next,m.ppid,(m.text.drop a).take (cut m a most)⟩
def bump (m:Msg) (next:List Nat):List Nat:=if m.free then next else next.set m.stream ((next.getD m.stream 0+1) % 65536)
def after (m:Msg) (r:List Msg) (a:Nat) (next:List Nat) (most:Int):S2:=
 if a+cut m a most<m.text.length then ⟨m::r,a+cut m a most,next⟩ else ⟨r,0,bump m next⟩
def ins (keep:Nat→Msg→Bool) (i:Nat):List Msg→List Msg
 | []=>[]
 |m::l=>if keep i m then m::ins keep (i+1) l else ins keep (i+1) l
def outs (keep:Nat→Msg→Bool) (i:Nat):List Msg→List Msg
 | []=>[]
 |m::l=>if keep i m then outs keep (i+1) l else m::outs keep (i+1) l
theorem ins_snoc (keep:Nat→Msg→Bool):∀(l:List Msg) (i:Nat) (m:Msg),ins keep i (l++[m])=ins keep i l++(if keep (i+l.length) m then [m] else [])
 | [],i,m=>by simp [ins]
 |x::l,i,m=>by
  simp only [List.cons_append,ins,ins_snoc keep l (i+1) m,List.length_cons,show i+1+l.length=i+(l.length+1) from by omega]
  split<;>simp
theorem outs_snoc (keep:Nat→Msg→Bool):∀(l:List Msg) (i:Nat) (m:Msg),outs keep i (l++[m])=outs keep i l++(if keep (i+l.length) m then [] else [m])
 | [],i,m=>by simp [outs]
 |x::l,i,m=>by
  simp only [List.cons_append,outs,outs_snoc keep l (i+1) m,List.length_cons,show i+1+l.length=i+(l.length+1) from by omega]
  split<;>simp
theorem ins_rest (l:List Msg):∀i,0<i→ins (fun i _=>decide (0<i)) i l=l:=by
 induction l with
 |nil=>intro i _;rfl
 |cons m l ih=>intro i hi;simp [ins,hi,ih (i+1) (by omega)]
theorem ins_tail (m:Msg) (r:List Msg):ins (fun i _=>decide (0<i)) 0 (m::r)=r:=by simp [ins,ins_rest r 1 (by omega)]
theorem ins_len (keep:Nat→Msg→Bool) (l:List Msg):∀i,(ins keep i l).length≤l.length∧(outs keep i l).length≤l.length:=by
 induction l with
 |nil=>intro i;simp [ins,outs]
 |cons m l ih=>
  intro i
  have:=ih (i+1)
  simp only [ins,outs,List.length_cons]
  split<;>simp<;>omega
theorem bump_length (m:Msg) (nx:List Nat):(bump m nx).length=nx.length:=by
 unfold bump;split<;>simp
end Towline.Store
