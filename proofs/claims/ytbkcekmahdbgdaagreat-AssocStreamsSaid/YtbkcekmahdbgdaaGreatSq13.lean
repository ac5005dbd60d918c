/- AssocStreams: the engine, contracts and plain laws that its proof leans on, part 13. -/
import Derived.Test.YtbkcekmahdbgdaaGreatSq12
namespace Go.Proofs.YtbkcekmahdbgdaaGreat
open Go Go.RowKit Towline Towline.Tlv Towline.Hand Towline.Ac Towline.Chunk Towline.Store
set_option linter.unusedVariables false
set_option linter.unusedSimpArgs false
theorem flg_ok (p:Pc):(0≤flg p 3∧flg p 3≤7)∧decide (0<bitsOp .and .i64 (flg p 3) 2)=p.first∧decide (0<bitsOp .and .i64 (flg p 3) 1)=p.last∧decide (0<bitsOp .and .i64 (flg p 3) 4)=p.free∧((flg p 3).tmod 2==1)=p.last:=by
 obtain ⟨t,f,l,fr,a,b,c,d⟩:=p
 have e:flg ⟨t,f,l,fr,a,b,c,d⟩ 3=(if fr then bitsOp .or .i64 (if l then bitsOp .or .i64 (if f then bitsOp .or .i64 0 2 else 0) 1 else (if f then bitsOp .or .i64 0 2 else 0)) 4 else (if l then bitsOp .or .i64 (if f then bitsOp .or .i64 0 2 else 0) 1 else (if f then bitsOp .or .i64 0 2 else 0))):=rfl
 rw [e]
 dsimp only
 clear e
 cases f<;>cases l<;>cases fr<;>decide +kernel
theorem fpOf_dat (n:Int) (p:Pc):fpOf (datOf n p)=fpP n p:=by
 obtain ⟨h1,h2,h3,h4,h5⟩:=flg_ok p
 show (⟨n,decide (0<bitsOp .and .i64 (flg p 3) 2),decide (0<bitsOp .and .i64 (flg p 3) 1),decide (0<bitsOp .and .i64 (flg p 3) 4),p.stream,p.ssn,p.ppid,p.text⟩:Fp)=_
 rw [h2,h3,h4];rfl
theorem dat_right (n:Int) (p:Pc) (h:1≤p.text.length∧p.text.length≤1000):(buildC (datOf n p)).2=0∧ChOk (datOf n p):=by
 obtain ⟨h1,_⟩:=flg_ok p
 have hty:(datOf n p).ty=0:=rfl
 have hg:goodC (datOf n p)=true:=by
  unfold goodC
  rw [show (buildL (datOf n p).items).2=0 from by show (buildL ([]:List Tlv.It)).2=0;decide +kernel]
  have hf:fitsB (datOf n p)=true:=by
   unfold fitsB textB
   rw [if_pos hty]
   show (decide (0≤flg p 3)&&decide (flg p 3≤7)&&_)=true
   rw [decide_eq_true h1.1,decide_eq_true h1.2]
   show (decide (1≤(p.text.length:Int))&&decide ((p.text.length:Int)≤1000))=true
   rw [decide_eq_true (by omega),decide_eq_true (by omega)];rfl
  have ho:datOf n p=onlyC (datOf n p):=by unfold onlyC;rw [if_pos hty];rfl
  rw [hf,decide_eq_true ho];rfl
 have hl:(encC (datOf n p)).length≤1400:=by
  have h2:=(Pk.enc_parts (datOf n p)).2
  have h3:(valB [] (datOf n p)).length=12+p.text.length:=by
   unfold valB preB
   rw [if_pos hty]
   show (([]++be4 _++(be2 _++be2 _)++be4 _)++cutB []++p.text).length=_
   rw [show cutB ([]:List Tlv.It)=[] from rfl,List.append_nil,List.length_append]
   rfl
  have h4:=pad_lt ((valB [] (datOf n p)).length+4)
  omega
 refine ⟨?_,chOk0 _ rfl rfl (by show 0≤_;omega)⟩
 unfold buildC
 rw [if_pos hg,if_neg (by omega)]
end Go.Proofs.YtbkcekmahdbgdaaGreat
namespace Towline.Store
theorem remP_rows (ms:List Msg):remP ⟨ms,0,List.replicate 4 0⟩=(rows 4 ms).flatten:=by
 cases ms with
 |nil=>rfl
 |cons m r=>show cutL m _ (m.text.length-0) 0++_=_;rw [Nat.sub_zero];rfl
theorem allP_bytes:∀(l:List Msg) (nx:List Nat),(∀m∈l,0<m.text.length)→((allP nx l).flatten.map fun p=>p.text.length).sum=total l
 | [],nx,_=>rfl
 |m::r,nx,h=>by
  have ih:=allP_bytes r (bump m nx) fun x hx=>h x (List.mem_cons_of_mem _ hx)
  have hb:=(cutL_block m (num m nx) (h m List.mem_cons_self)).text
  have hl:=congrArg List.length hb
  rw [List.length_flatten,List.map_map] at hl
  have hs:((cutL m (num m nx) m.text.length 0).map fun p=>p.text.length).sum=m.text.length:=hl
  rw [allP,List.flatten_cons,List.map_append,List.sum_append,ih,hs]
  rfl
end Towline.Store
namespace Towline.Ac
open Go Towline.Hand Towline.Chunk Towline.Store
set_option linter.unusedVariables false
def datL (base:Int):Nat→List Pc→List Ch
 |_,[]=>[]
 |k,p::r=>datOf (w32 (base+k)) p::datL base (k+1) r
theorem datL_get (base:Int):∀(l:List Pc) (k j:Nat),(datL base k l)[j]? = l[j]?.map (datOf (w32 (base+(k+j:Nat))))
 | [],k,j=>by simp [datL]
 |p::r,k,0=>by simp [datL]
 |p::r,k,j+1=>by
  rw [datL,List.getElem?_cons_succ,List.getElem?_cons_succ,datL_get base r (k+1) j,show k+1+j=k+(j+1) from by omega]
theorem datL_len (base:Int):∀(l:List Pc) (k:Nat),(datL base k l).length=l.length
 | [],_=>rfl
 |p::r,k=>by rw [datL,List.length_cons,List.length_cons,datL_len base r]
theorem watch_s (a:As) (i:Nat) (now:Int):(a.watch i now).s=a.s∧(a.watch i now).xl=a.xl∧(a.watch i now).xc=a.xc:=by
 unfold As.watch;split<;>exact ⟨rfl,rfl,rfl⟩
theorem next_w (xc:Int) (l:List Sp):Go.Proofs.YtbkcekmahdbgdaaGreat.nextX xc l=w32 (xc+1+l.length):=by
 have h:∀n:Int,IntKind.u32.wrap n=w32 n:=fun n=>by simp [IntKind.wrap,IntKind.signed,IntKind.bits,w32]
 show IntKind.u32.wrap (IntKind.u32.wrap (xc+IntKind.u32.wrap _)+1)=_
 rw [h,h,h];unfold w32;omega
theorem fresh_law (i:Nat) (now:Int):∀(f:Nat) (a:As),As.SOk a.s→∃n,(As.freshL i now f a).2=datL (a.xc+1) a.xl.length ((remP a.s).take n)
 |0,a,h=>⟨0,rfl⟩
 |f+1,a,h=>by
  unfold As.freshL
  split
  ·rename_i hf
   have hne:a.s.l≠[]:=by
    intro e
    unfold As.freshOk at hf
    rw [e] at hf
    simp at hf
   obtain ⟨m,r,hl⟩:=List.exists_cons_of_ne_nil hne
   obtain ⟨w1,w2,w3⟩:=watch_s ({ a with s:=after (a.s.l.headD default) a.s.l.tail a.s.a a.s.next 1000,xl:=a.xl++[⟨a.next1,max a.piece1.text.length 1,1,0,1,i,now⟩],data:=putI a.next1 (datOf a.next1 a.piece1,(a.s.l.headD default).id) a.data}:As) i now
   have ha:(a.freshA i now).s=after m r a.s.a a.s.next 1000:=by
    refine w1.trans ?_
    show after (a.s.l.headD default) a.s.l.tail a.s.a a.s.next 1000=_
    rw [hl];rfl
   have hx:(a.freshA i now).xl.length=a.xl.length+1:=by rw [show (a.freshA i now).xl=_ from w2];simp
   have hc:(a.freshA i now).xc=a.xc:=w3
   obtain ⟨n,hn⟩:=fresh_law i now f (a.freshA i now) (by rw [ha];exact h.after hl)
   refine ⟨n+1,?_⟩
   rw [hn,ha,hx,hc,remP_step hl (h.at_ m r hl) (fun x hx=>(h.st x (by rw [hl];exact List.mem_cons_of_mem _ hx)).2.2.1),List.take_succ_cons,datL]
   congr 1
   have e1:a.next1=w32 (a.xc+1+a.xl.length):=next_w _ _
   have e2:a.piece1=pieceOf m a.s.a a.s.next 1000:=by unfold As.piece1;rw [hl];rfl
   rw [e1,e2]
  ·exact ⟨0,rfl⟩
end Towline.Ac
namespace Go.Proofs.YtbkcekmahdbgdaaGreat
open Go Go.RowKit Towline Towline.Tlv Towline.Hand Towline.Ac Towline.Chunk Towline.Store
set_option linter.unusedVariables false
set_option linter.unusedSimpArgs false
set_option maxRecDepth 20000
def stP (ms:List Msg):Pr:={ met0 with a:={ endA with s:=⟨ms,0,List.replicate 4 0⟩},ia:=ms}
structure Few (ms:List Msg) (i:Nat):Prop where
 st:∀m∈ms,m.stream<4
 tx:∀m∈ms,0<m.text.length∧m.text.length≤1500
 fr:∀m∈ms,m.free=false
 len:ms.length≤i
 tot:total ms≤1500*i
theorem sends_law (T:List (List UInt8)) (hT:T.length≤12):∀i,i≤T.length→(∀t∈T.take i,t.length≤1500)→∃ms,sends T i=stP ms∧Few ms i
 |0,_,_=>⟨[],rfl,⟨by simp,by simp,by simp,by simp,by simp [total]⟩⟩
 |i+1,hi,ht=>by
  have hg:T.take (i+1)=T.take i++[T[i]'(by omega)]:=List.take_succ_eq_append_getElem (by omega)
  obtain ⟨ms,e,h1,h2,h3,h4,h5⟩:=sends_law T hT i (by omega) fun t h=>ht t (by rw [hg];exact List.mem_append_left _ h)
  have hx:(T.getD i default).length≤1500:=by
   rw [List.getD_eq_getElem?_getD,List.getElem?_eq_getElem (by omega)]
   exact ht _ (by rw [hg];exact List.mem_append_right _ (List.mem_singleton.2 rfl))
  show ∃ms,(sends T i).sendA (i % 4) false (T.getD i default)=stP ms∧_
  rw [e]
  generalize T.getD i default=x at hx
  have hse:(stP ms).a.sendE (Pr.msgOf ms (i % 4) false x)=if x=[] then 1 else 0:=by
   show (if h3A.st=1∨h3A.st=2∨h3A.st=3 then St.pushE ms ((0:Nat):Int) (List.replicate 4 0) (Pr.msgOf ms (i % 4) false x) else 11)=_
   rw [if_pos (by decide +kernel)]
   unfold St.pushE
   rw [if_neg (by show ¬(List.replicate 4 0).length≤i % 4;simp;omega)]
   show (if x=[] then _ else if 20000<x.length then _ else if 60000<(total ms:Int)-((0:Nat):Int)+x.length then _ else _)=_
   rw [if_neg (show ¬20000<x.length by omega),if_neg (show ¬60000<(total ms:Int)-((0:Nat):Int)+x.length by omega)]
  by_cases hx0:x=[]
  ·rw [if_pos hx0] at hse
   refine ⟨ms,?_,h1,h2,h3,by omega,by omega⟩
   unfold Pr.sendA
   rw [show (stP ms).ia=ms from rfl,hse,if_neg (by decide)]
   unfold As.send
   rw [hse,if_neg (by decide)]
   rfl
  ·rw [if_neg hx0] at hse
   have hx1:0<x.length:=List.length_pos_iff.2 hx0
   refine ⟨ms++[Pr.msgOf ms (i % 4) false x],?_,?_⟩
   ·unfold Pr.sendA
    rw [show (stP ms).ia=ms from rfl,hse,if_pos rfl]
    unfold As.send
    rw [hse,if_pos rfl];rfl
   ·have hm:∀m∈ms++[Pr.msgOf ms (i % 4) false x],m∈ms∨m=Pr.msgOf ms (i % 4) false x:=fun m h=>by simpa using h
    refine ⟨fun m h=>(hm m h).elim (h1 m) fun e=>?_,fun m h=>(hm m h).elim (h2 m) fun e=>?_,fun m h=>(hm m h).elim (h3 m) fun e=>?_,by simp;omega,?_⟩
    ·rw [e];show i % 4<4;omega
    ·rw [e];exact ⟨hx1,hx⟩
    ·rw [e];rfl
    ·rw [total_append]
     show total ms+(x.length+0)≤_
     omega
theorem Few.ms {ms:List Msg} {i:Nat} (h:Few ms i) (hi:i≤12):MsOk 4 ms:=⟨h.st,fun m hm=>(h.tx m hm).1,by have:=h.len;omega⟩
theorem Few.sok {ms:List Msg} {i:Nat} (h:Few ms i) (hi:i≤12):As.SOk ⟨ms,0,List.replicate 4 0⟩:=by
 have:=h.len
 refine ⟨fun m r e=>(h.tx m (by rw [show ms=m::r from e];exact List.mem_cons_self)).1,fun m hm=>?_,by show ms.length≤_;omega,by simp⟩
 have h1:=h.st m hm
 have h2:=h.tx m hm
 exact ⟨by simpa using h1,by omega,h2.1,by omega⟩
theorem nR_le {ms:List Msg} {i:Nat} (h:Few ms i) (hi:i≤12):nR ms≤total ms:=by
 have hb:=allP_bytes ms (List.replicate 4 0) fun m hm=>(h.tx m hm).1
 have h2:∀(l:List Nat),(∀x∈l,1≤x)→l.length≤l.sum:=by
  intro l
  induction l with
  |nil=>intro _;simp
  |cons x r ih=>
   intro hx
   have:=ih fun y hy=>hx y (List.mem_cons_of_mem _ hy)
   have:=hx x List.mem_cons_self
   rw [List.length_cons,List.sum_cons];omega
 rw [←hb]
 refine Nat.le_trans (Nat.le_of_eq ?_) (h2 _ fun x hx=>?_)
 ·rw [List.length_map];rfl
 ·obtain ⟨p,hp,rfl⟩:=List.mem_map.1 hx
  obtain ⟨b,hb1,hb2⟩:=List.mem_flatten.1 hp
  obtain ⟨j,hj⟩:=List.mem_iff_getElem?.1 hb1
  have hjl:j<ms.length:=by
   have:=(List.getElem?_eq_some_iff.1 hj).1
   rwa [allP_len] at this
  obtain ⟨c,k1,k2⟩:=rows_get (h.ms hi) j hjl
  rw [show (rows 4 ms)[j]? = some b from hj] at k1
  obtain rfl:=Option.some.inj k1
  exact (k2.txt p hb2).1
def dat (ms:List Msg) (k:Nat):Ch:=match (rows 4 ms).flatten[k]? with|some p=>datOf (w32 (4294967290+k)) p|none=>default
def sentW (ms:List Msg) (n:Nat):List (Int×Ch):=(List.range n).map fun k=>((0:Int),dat ms k)
theorem dat_some {ms:List Msg} {k:Nat} (hk:k<nR ms):∃p,(rows 4 ms).flatten[k]? = some p∧dat ms k=datOf (w32 (4294967290+k)) p:=by
 have:k<(rows 4 ms).flatten.length:=hk
 refine ⟨_,List.getElem?_eq_getElem this,?_⟩
 unfold dat
 rw [List.getElem?_eq_getElem this]
theorem dat_fp {ms:List Msg} {k:Nat} (hk:k<nR ms):fpOf (dat ms k)=Qf 4294967290 ms k:=by
 obtain ⟨p,h1,h2⟩:=dat_some hk
 rw [h2,fpOf_dat]
 unfold Qf
 rw [h1]
theorem dat_ok {ms:List Msg} {i:Nat} (h:Few ms i) (hi:i≤12) {k:Nat} (hk:k<nR ms):(dat ms k).ty=0∧(buildC (dat ms k)).2=0∧ChOk (dat ms k)∧(dat ms k).stream=((msg ms (mi ms k)).stream:Int)∧(dat ms k).tsn=w32 (4294967290+k)∧(1≤(dat ms k).text.length∧(dat ms k).text.length≤1000)∧(dat ms k).text=(Qf 4294967290 ms k).text∧
  ((dat ms k).flags.tmod 2==1)=(k+1==st ms (mi ms k)+(bk ms (mi ms k)).length):=by
 have H:=h.ms hi
 have ht:=Q_text (base:=4294967290) H hk
 have hf:=dat_fp hk
 obtain ⟨p,h1,h2⟩:=dat_some hk
 have htx:(dat ms k).text=(Qf 4294967290 ms k).text:=by rw [←hf];rfl
 have hpt:p.text=(dat ms k).text:=by rw [h2];rfl
 obtain ⟨a1,a2,a3,a4⟩:=at_mi (base:=4294967290) H hk
 have hb:=(bk_ok H a1).2
 have hpl:k-st ms (mi ms k)<(bk ms (mi ms k)).length:=by omega
 have hq:=a4 hpl
 have hp:fpP (w32 (4294967290+k)) p=fpP (w32 (4294967290+k)) ((bk ms (mi ms k))[k-st ms (mi ms k)]):=by
  rw [←hq,←hf,h2,fpOf_dat]
 have hk1:=hb.kin _ (List.getElem_mem hpl)
 have hst:p.stream=(msg ms (mi ms k)).stream:=by
  have:=congrArg Fp.stream hp
  have:(p.stream:Int)=(((bk ms (mi ms k))[k-st ms (mi ms k)]).stream:Int):=this
  omega
 have hla:p.last=((bk ms (mi ms k))[k-st ms (mi ms k)]).last:=congrArg Fp.e hp
 obtain ⟨b1,b2⟩:=dat_right (w32 (4294967290+k)) p (by rw [hpt,htx];exact ht)
 refine ⟨by rw [h2];rfl,by rw [h2];exact b1,by rw [h2];exact b2,by rw [h2,←hst];rfl,by rw [h2];rfl,by rw [htx];exact ht,htx,?_⟩
 rw [h2]
 show ((flg p 3).tmod 2==1)=_
 rw [(flg_ok p).2.2.2.2,hla,hb.last _ hpl]
 rw [Bool.eq_iff_iff,beq_iff_eq,beq_iff_eq]
 omega
theorem flush_law {ms:List Msg} {i:Nat} (h:Few ms i) (hi:i≤12):∃n,n≤64∧n≤nR ms∧((stP ms).a.flush 0 0).2=(if n=0 then [] else [((0:Int),(List.range n).map (dat ms))]):=by
 have hso:=h.sok hi
 have hte:(stP ms).a.tell=(stP ms).a:=rfl
 obtain ⟨c,hc⟩:∃c:As,c=(stP ms).a:=⟨_,rfl⟩
 have hag:As.againL 0 0 (lossF ({ (stP ms).a with out:=[]}:As).xl) { (stP ms).a with out:=[]}=((stP ms).a,[]):=rfl
 have hfl:(stP ms).a.flush 0 0=((As.freshL 0 0 64 (stP ms).a).1,if ([]:List Ch)++(As.freshL 0 0 64 (stP ms).a).2=[] then [] else []++[((0:Int),[]++(As.freshL 0 0 64 (stP ms).a).2)]):=by
  unfold As.flush
  rw [if_pos (show (stP ms).a.h.st=3∨(stP ms).a.h.st=4∨(stP ms).a.h.st=6 from Or.inl (show endA.h.st=3 by decide +kernel)),hte]
  dsimp only
  rw [hag]
  rfl
 obtain ⟨n,hn⟩:=fresh_law 0 0 64 (stP ms).a hso
 have hln:=As.freshL_len 0 0 64 (stP ms).a
 rw [show remP (stP ms).a.s=(rows 4 ms).flatten from remP_rows ms,show (stP ms).a.xl.length=0 from rfl,show (stP ms).a.xc+1=4294967290 from rfl] at hn
 rw [hfl]
 rw [hn] at hln ⊢
 have hmin:(datL 4294967290 0 ((rows 4 ms).flatten.take n)).length=min n (nR ms):=by rw [datL_len,List.length_take];rfl
 have hE:datL 4294967290 0 ((rows 4 ms).flatten.take n)=(List.range (min n (nR ms))).map (dat ms):=by
  apply List.ext_getElem?
  intro j
  rw [datL_get,List.getElem?_map]
  by_cases hj:j<min n (nR ms)
  ·obtain ⟨p,h1,h2⟩:=dat_some (ms:=ms) (k:=j) (by omega)
   rw [List.getElem?_range hj,List.getElem?_take,if_pos (by omega),h1]
   show some _=some _
   rw [h2,Nat.zero_add]
  ·rw [List.getElem?_eq_none (by rw [List.length_take];show min n (nR ms)≤j;omega),List.getElem?_eq_none (by rw [List.length_range];omega)];rfl
 refine ⟨min n (nR ms),by omega,Nat.min_le_right _ _,?_⟩
 rw [List.nil_append,List.nil_append,hE]
 by_cases h0:min n (nR ms)=0
 ·rw [h0];rfl
 ·rw [if_neg h0,if_neg]
  intro e
  have:=congrArg List.length e
  rw [List.length_map,List.length_range] at this
  exact h0 this
theorem flush_ok {ms:List Msg} {i:Nat} (h:Few ms i) (hi:i≤12):FlushOk (stP ms)∧∃n,n≤64∧n≤nR ms∧((stP ms).flushA 0).wa=sentW ms n∧((stP ms).flushA 0).b=endB∧((stP ms).flushA 0).ia=ms∧((stP ms).flushA 0).rb=[]:=by
 obtain ⟨n,h1,h2,h3⟩:=flush_law h hi
 have f0:FlOk endA:=⟨gOk0 rfl rfl (by decide +kernel),by decide +kernel,by decide +kernel,by decide +kernel,by decide +kernel,by decide +kernel,by decide +kernel,by decide +kernel,by decide +kernel,by decide +kernel,by decide +kernel⟩
 refine ⟨⟨⟨f0.g,f0.p,f0.pr,f0.out,f0.bag,f0.bagB,f0.w,f0.wB,f0.inn,f0.innB,f0.win⟩,show endA.there (-1)=0 by decide +kernel,show -2 ^ 60≤met0.now∧met0.now≤2 ^ 60 by decide +kernel,?_,?_,?_,show met0.wa.length≤2 ^ 20 by decide +kernel,rfl,rfl⟩,n,h1,h2,?_,rfl,rfl,rfl⟩
 ·exact ⟨show 0<endA.p.l.length by decide +kernel,show endA.due.length=endA.p.l.length by decide +kernel,show -2 ^ 60≤(endA.p.l.getD 0 default).tm.rto∧(endA.p.l.getD 0 default).tm.rto≤2 ^ 60 by decide +kernel,show endA.xl.length≤64 by decide +kernel,(fun p hp=>by cases hp),show 0≤endA.h.window∧endA.h.window<4294967296 by decide +kernel,h.sok hi⟩
 ·exact fun p hp=>by cases hp
 ·rw [show (stP ms).now=0 from rfl,h3]
  by_cases h0:n=0
  ·rw [if_pos h0]
   exact ⟨by decide,by simp,by simp,by simp,by simp,by simp⟩
  ·rw [if_neg h0]
   have hx:∀x∈[((0:Int),(List.range n).map (dat ms))],x=(0,(List.range n).map (dat ms)):=fun x hx=>by simpa using hx
   have hc:∀c∈(List.range n).map (dat ms),∃k,k<nR ms∧c=dat ms k:=fun c hc=>by
    obtain ⟨k,hk,rfl⟩:=List.mem_map.1 hc
    exact ⟨k,by have:=List.mem_range.1 hk;omega,rfl⟩
   refine ⟨by simp,fun x h=>by rw [hx x h];exact ⟨Int.le_refl 0,show (0:Int)≤1 by decide⟩,fun x h=>by rw [hx x h];simp;omega,fun x h' c h2=>?_,fun x h' c h2=>?_,fun x h' c h2=>?_⟩
   all_goals
    rw [hx x h'] at h2
    obtain ⟨k,hk,rfl⟩:=hc c h2
    have hd:=dat_ok h hi hk
   ·exact hd.2.2.1
   ·exact hd.2.1
   ·rw [hd.1];decide
 ·show (stP ms).wa++flat ((stP ms).a.flush 0 (stP ms).now).2=_
  rw [show (stP ms).now=0 from rfl,h3,show (stP ms).wa=[] from rfl,List.nil_append]
  by_cases h0:n=0
  ·rw [h0];rfl
  ·rw [if_neg h0]
   unfold flat sentW
   simp
end Go.Proofs.YtbkcekmahdbgdaaGreat
namespace Towline.Ac
open Towline.Hand Towline.Chunk Towline.Store
set_option linter.unusedVariables false
theorem sum_sub (f:Nat→Nat):∀(n:Nat) (l:List Nat),l.Nodup→(∀x∈l,x<n)→(l.map f).sum≤((List.range n).map f).sum
 |0,l,_,h=>by
  cases l with
  |nil=>simp
  |cons x r=>exact absurd (h x List.mem_cons_self) (Nat.not_lt_zero _)
 |n+1,l,hn,h=>by
  rw [List.range_succ,List.map_append,List.sum_append]
  by_cases hm:n∈l
  ·have hp:=((List.perm_cons_erase hm).map f).sum_nat
   have ih:=sum_sub f n (l.erase n) (hn.erase n) fun x hx=>by
    obtain ⟨h1,h2⟩:=hn.mem_erase_iff.1 hx
    have:=h x h2;omega
   rw [hp,List.map_cons,List.sum_cons]
   simp;omega
  ·have ih:=sum_sub f n l hn fun x hx=>by
    have:=h x hx
    rcases Nat.lt_or_eq_of_le (Nat.le_of_lt_succ this) with h1|h1
    ·exact h1
    ·subst h1;exact absurd hx hm
   omega
theorem nodup_few {l:List Nat} {n:Nat} (hn:l.Nodup) (h:∀x∈l,x<n):l.length≤n:=by
 have:=hn.length_le_of_subset (l₂:=List.range n) fun x hx=>List.mem_range.2 (h x hx)
 rwa [List.length_range] at this
theorem toldQ_len (s:Nat):∀(f:Nat) (nx:List Int) (w acc:List Fm),(toldQ s f nx w acc).2.length≤acc.length+f
 |0,nx,w,acc=>Nat.le_refl _
 |f+1,nx,w,acc=>by
  unfold toldQ
  split
  ·show acc.length≤_;omega
  ·refine Nat.le_trans (toldQ_len s f _ _ _) ?_
   rw [List.length_append];simp;omega
theorem put_few {q:Qu} {m:Fm} {x:Qu×List Fm} (h:q.put m=some x):x.2.length≤q.w.length+1:=by
 unfold Qu.put at h
 split at h
 ·cases h
 ·split at h
  ·cases h;simp
  ·split at h
   ·cases h
   ·cases h
    have:=toldQ_len m.stream.toNat (q.w.length+1) q.nx (q.w++[m]) []
    simpa using this
theorem w32_in (n:Int):0≤w32 n∧w32 n<4294967296:=by unfold w32;omega
section
variable {base : Int} {ms : List Msg} (H : MsOk 4 ms) {G : List Nat}
include H
theorem bytes_Q (n:Nat) (hn:n=nR ms):((List.range n).map fun k=>(Qf base ms k).text.length).sum=total ms:=by
 rw [←allP_bytes ms (List.replicate 4 0) H.tx]
 congr 1
 apply List.ext_getElem?
 intro k
 rw [List.getElem?_map,List.getElem?_map]
 by_cases hk:k<n
 ·have hk':k<(rows 4 ms).flatten.length:=by rw [hn] at hk;exact hk
  rw [List.getElem?_range hk]
  show some (Qf base ms k).text.length=_
  unfold Qf
  rw [show (allP (List.replicate 4 0) ms).flatten=(rows 4 ms).flatten from rfl,List.getElem?_eq_getElem hk']
  rfl
 ·rw [List.getElem?_eq_none (by rw [List.length_range];omega),show (allP (List.replicate 4 0) ms).flatten[k]? = none from List.getElem?_eq_none (by show (rows 4 ms).flatten.length≤k;rw [hn] at hk;exact Nat.le_of_not_lt hk)]
  rfl
theorem bag_bytes {ks:List Nat} (hn:ks.Nodup) (h:∀x∈ks,x<nR ms):fbytes (ks.map (Qf base ms))≤total ms:=by
 rw [←bytes_Q (base:=base) H (nR ms) rfl]
 unfold fbytes
 rw [List.map_map]
 exact sum_sub (fun k=>(Qf base ms k).text.length) (nR ms) ks hn h
omit H in
theorem msg_bytes {l:List Nat} (hn:l.Nodup) (h:∀x∈l,x<ms.length):mbytes (l.map (fmOf base ms))≤total ms:=by
 have e:total ms=((List.range ms.length).map fun j=>(msg ms j).text.length).sum:=by
  unfold total
  congr 1
  apply List.ext_getElem
  ·simp
  ·intro j h1 h2
   rw [List.getElem_map,List.getElem_map,List.getElem_range]
   unfold msg
   rw [List.getD_eq_getElem?_getD,List.getElem?_eq_getElem (by simpa using h1)];rfl
 rw [e]
 unfold mbytes
 rw [List.map_map]
 exact sum_sub (fun j=>(msg ms j).text.length) ms.length l hn h
theorem fok_law (hn:nR ms≤20000) (htx:∀m∈ms,m.text.length≤2 ^ 20) {k:Nat} (hk:k<nR ms) (hkG:k∉G) (hlt:∀x∈G,x<nR ms) (hnd:G.Nodup):FOk ((G.filter fun x=>!whM ms G (mi ms x)).map (Qf base ms)) (Qf base ms k):=by
 have M:=msgs_rows (base:=base) H (by omega)
 obtain ⟨hj,ha1,ha2,_⟩:=at_mi H (base:=base) hk
 obtain ⟨ks,hks⟩:∃ks,ks=(G.filter fun x=>!whM ms G (mi ms x))++[k]:=⟨_,rfl⟩
 have hksl:∀x∈ks,x<nR ms:=fun x hx=>by
  rw [hks] at hx
  rcases List.mem_append.1 hx with hx|hx
  ·exact hlt x (List.mem_filter.1 hx).1
  ·rw [List.mem_singleton.1 hx];exact hk
 have hksn:ks.Nodup:=by
  rw [hks,List.nodup_append]
  exact ⟨nodup_filter _ hnd,by simp,fun a ha b hb e=>by rw [List.mem_singleton.1 hb] at e;subst e;exact hkG (List.mem_filter.1 ha).1⟩
 have hrow:=rowF_spec M hksl hksn (p:=k) (by rw [hks];simp)
 have hmap:((G.filter fun x=>!whM ms G (mi ms x)).map (Qf base ms))++[Qf base ms k]=ks.map (Qf base ms):=by rw [hks];simp
 have hfl:(G.filter fun x=>!whM ms G (mi ms x)).length≤nR ms:=nodup_few (nodup_filter _ hnd) fun x hx=>hlt x (List.mem_filter.1 hx).1
 refine ⟨by rw [List.length_map];omega,?_,fun x hx=>?_,fun pl hpl=>?_⟩
 ·rw [List.map_map]
  have hnf:=nodup_filter (fun x=>!whM ms G (mi ms x)) hnd
  refine List.Pairwise.map _ ?_ (List.Pairwise.and_mem.1 hnf)
  rintro x y ⟨hx,hy,hne⟩ e
  have hxl:=hlt x (List.mem_filter.1 hx).1
  have hyl:=hlt y (List.mem_filter.1 hy).1
  have e:(Qf base ms x).tsn=(Qf base ms y).tsn:=e
  rw [Q_tsn H hxl,Q_tsn H hyl] at e
  exact hne (w32_inj (base:=base) (by omega) (by omega) e)
 ·rw [hmap] at hx
  obtain ⟨y,hy,rfl⟩:=List.mem_map.1 hx
  rw [Q_tsn H (hksl y hy)]
  exact w32_in _
 ·rw [hmap,hrow] at hpl
  rw [hmap]
  split at hpl
  ·rename_i hall
   rw [show st ms (mi ms k)+(bk ms (mi ms k)).length-st ms (mi ms k)=(bk ms (mi ms k)).length from by omega] at hpl
   obtain rfl:=Option.some.inj hpl
   have hin:∀i,i<(bk ms (mi ms k)).length→st ms (mi ms k)+i∈ks:=fun i hi=>hall _ (by omega) (by omega)
   have hlen:(placesF ks (st ms (mi ms k)) (bk ms (mi ms k)).length).length=(bk ms (mi ms k)).length:=by unfold placesF;rw [List.length_map,List.length_range]
   have hbp:=bk_pos H hj
   refine ⟨fun e=>?_,?_,fun i hi=>?_,?_,?_⟩
   ·rw [e] at hlen
    have hlen:0=(bk ms (mi ms k)).length:=hlen
    omega
   ·unfold placesF
    refine List.Pairwise.map _ ?_ (List.Pairwise.and_mem.1 (List.nodup_range (n:=(bk ms (mi ms k)).length)))
    rintro x y ⟨hx,hy,hne⟩ e
    have h1:=hin x (List.mem_range.1 hx)
    have h2:=hin y (List.mem_range.1 hy)
    have a1:=List.getElem_idxOf (List.idxOf_lt_length_of_mem h1)
    have a2:=List.getElem_idxOf (List.idxOf_lt_length_of_mem h2)
    have:st ms (mi ms k)+x=st ms (mi ms k)+y:=by
     rw [←a1,←a2]
     congr 1
    omega
   ·unfold placesF at hi
    obtain ⟨y,hy,rfl⟩:=List.mem_map.1 hi
    rw [List.length_map]
    exact List.idxOf_lt_length_of_mem (hin y (List.mem_range.1 hy))
   ·rw [hlen]
    have:=(mi_at H (i:=(bk ms (mi ms k)).length-1) hj (by omega)).2
    omega
   ·have hw:=whole_places (base:=base) H hj hin
    have:(Go.Proofs.YtbkcekmahdbgdaaGreat.wholeM (ks.map (Qf base ms)) (placesF ks (st ms (mi ms k)) (bk ms (mi ms k)).length)).text=(fmOf base ms (mi ms k)).text:=by rw [hw]
    rw [show Go.Proofs.YtbkcekmahdbgdaaGreat.textF (ks.map (Qf base ms)) (placesF ks (st ms (mi ms k)) (bk ms (mi ms k)).length)=(msg ms (mi ms k)).text from this]
    have hm:=htx (msg ms (mi ms k)) (by unfold msg;rw [List.getD_eq_getElem?_getD,List.getElem?_eq_getElem hj];exact List.getElem_mem _)
    omega
  ·cases hpl
end
theorem putA_keep (b:As) (c:Ch):(b.putA c).h=b.h∧(b.putA c).p=b.p∧(b.putA c).win=b.win∧(b.putA c).heard=b.heard∧(b.putA c).owe=b.owe∧(b.putA c).g=b.g:=by
 unfold As.putA
 split
 ·split<;>exact ⟨rfl,rfl,rfl,rfl,rfl,rfl⟩
 ·exact ⟨rfl,rfl,rfl,rfl,rfl,rfl⟩
theorem got_ok {base:Int} {g:Gt} {c:Nat} {ks:List Nat} (G:GotIs base g.cum g.ab c ks) (hk:∀k∈ks,k<2 ^ 20) (hc:c≤2 ^ 20) (hd:g.du=[]):g.Ok:=by
 have hn:ks.length≤2 ^ 20:=nodup_few (List.Pairwise.imp (fun h=>by omega) G.up) hk
 refine ⟨by rw [G.cum];exact w32_in _,?_,fun a ha=>?_,by rw [G.l,List.length_map];exact hn,by rw [hd];simp⟩
 ·rw [G.l]
  refine List.Pairwise.map _ ?_ (List.Pairwise.and_mem.1 G.up)
  rintro x y ⟨hx,hy,hlt⟩
  have h1:=G.gt x hx
  have h2:=G.gt y hy
  have h3:=hk x hx
  have h4:=hk y hy
  rw [key_ge G.cum (by omega) (by omega),key_ge G.cum (by omega) (by omega)]
  omega
 ·rw [G.l] at ha
  obtain ⟨k,_,rfl⟩:=List.mem_map.1 ha
  exact w32_in _
structure BSt (b:As) (n:Nat):Prop where
 st:b.h.st=3
 ins:b.h.ins=4
 p:b.p.l.length≤2 ^ 30
 pr:0≤b.p.pr∧b.p.pr<2 ^ 30
 win:b.win=60000
 hd:b.heard.length=2
 owe:0≤b.owe∧b.owe≤n
 du:b.g.du=[]
section
variable {base : Int} {ms : List Msg} {rd : List Fm} {G dl wl : List Nat} {b : As}
theorem Rcv.bounds (H:MsOk 4 ms) (h:Rcv base ms b [] G dl wl) (hm:ms.length≤12):G.length≤nR ms∧dl.length≤12∧wl.length≤12∧b.bag.length≤nR ms∧fbytes b.bag≤total ms∧b.q.w.length≤12∧mbytes b.q.w≤total ms∧b.inn.length≤12∧mbytes b.inn≤total ms∧mbytes b.q.w+mbytes b.inn≤total ms:=by
 have hG:=nodup_few h.nd h.lt
 have hnd:=List.nodup_append.1 h.dnd
 have hlt:∀x∈dl++wl,x<ms.length:=fun x hx=>((h.mem x).1 hx).1
 have hd:=nodup_few hnd.1 fun x hx=>hlt x (List.mem_append_left _ hx)
 have hw:=nodup_few hnd.2.1 fun x hx=>hlt x (List.mem_append_right _ hx)
 have hbf:(G.filter fun k=>!whM ms G (mi ms k)).length≤nR ms:=Nat.le_trans (List.length_filter_le _ _) hG
 have hin:b.inn=dl.map (fmOf base ms):=h.d
 have hall:=msg_bytes (base:=base) h.dnd hlt
 rw [List.map_append] at hall
 have hsum:mbytes (dl.map (fmOf base ms)++wl.map (fmOf base ms))=mbytes (dl.map (fmOf base ms))+mbytes (wl.map (fmOf base ms)):=by unfold mbytes;rw [List.map_append,List.sum_append]
 refine ⟨hG,by omega,by omega,by rw [h.bag,List.length_map];exact hbf,?_,by rw [h.w,List.length_map];omega,by rw [h.w];omega,by rw [hin,List.length_map];omega,by rw [hin];omega,by rw [h.w,hin];omega⟩
 rw [h.bag]
 exact bag_bytes H (nodup_filter _ h.nd) fun x hx=>h.lt x (List.mem_filter.1 hx).1
theorem Rcv.got_le (h:Rcv base ms b [] G dl wl) {c:Nat} {ks:List Nat} (e:∀j,j∈G↔j<c∨j∈ks):c≤nR ms∧∀k∈ks,k<nR ms:=by
 refine ⟨?_,fun k hk=>h.lt k ((e k).2 (.inr hk))⟩
 cases c with
 |zero=>exact Nat.zero_le _
 |succ c=>exact h.lt c ((e c).2 (.inl (Nat.lt_succ_self c)))
end
end Towline.Ac
namespace Go.Proofs.YtbkcekmahdbgdaaGreat
open Go Go.RowKit Towline Towline.Tlv Towline.Hand Towline.Ac Towline.Chunk Towline.Store
set_option linter.unusedVariables false
set_option linter.unusedSimpArgs false
set_option maxRecDepth 20000
theorem take_law {ms:List Msg} {i:Nat} (hf:Few ms i) (hi:i≤12) {b:As} {G dl wl:List Nat} (h:Rcv 4294967290 ms b [] G dl wl) (hs:BSt b G.length) {x:Nat} (hx:x<nR ms) (hx64:x<64) (hxG:x∉G) :
  TakeOk b (dat ms x)∧(∃dl' wl',Rcv 4294967290 ms (tookA b (dat ms x)) [] (G++[x]) dl' wl')∧BSt (tookA b (dat ms x)) (G++[x]).length:=by
 have H:=hf.ms hi
 have hlen:=hf.len
 have htot:=hf.tot
 have hnr:=nR_le hf hi
 obtain ⟨d1,d2,d3,d4,d5,d6,d7,d8⟩:=dat_ok hf hi hx
 obtain ⟨b1,b2,b3,b4,b5,b6,b7,b8,b9,b10⟩:=h.bounds H (by omega)
 obtain ⟨c,ks,hgot,hgm⟩:=h.got
 obtain ⟨hcl,hkl⟩:=h.got_le hgm
 have hnot:¬(x<c∨x∈ks):=fun e=>hxG ((hgm x).2 e)
 have hhas:hasG b.g.cum b.g.ab (w32 (4294967290+x))=false:=by
  cases hh:hasG b.g.cum b.g.ab (w32 (4294967290+x)) with
  |false=>rfl
  |true=>exact absurd ((has_iff hgot (fun k hk=>by have:=hkl k hk;omega) (by omega) (by omega)).1 hh) hnot
 obtain ⟨t1,c',ks',t2,t3⟩:=Towline.Ac.take_spec hgot (fun k hk=>by have:=hkl k hk;omega) (by omega) (show x<2147483647 by omega) hnot (by omega)
 have htk:b.g.take (dat ms x).tsn=((⟨(takeG b.g.cum b.g.ab (w32 (4294967290+x))).1.1,(takeG b.g.cum b.g.ab (w32 (4294967290+x))).1.2,b.g.du⟩:Gt),true):=by
  rw [d5]
  unfold Gt.take
  rw [hhas,if_neg (by decide),t1]
 obtain ⟨hmj,_,_,_⟩:=at_mi (base:=4294967290) H hx
 have hstr:=H.st (msg ms (mi ms x)) (by unfold msg;rw [List.getD_eq_getElem?_getD,List.getElem?_eq_getElem hmj];exact List.getElem_mem _)
 have hover:b.over (dat ms x)=false:=by
  unfold As.over As.held
  rw [d5,hhas,hs.win]
  rw [show decide ((60000:Int)≤((fbytes b.bag+mbytes b.q.w+mbytes b.inn:Nat):Int))=false from decide_eq_false (by omega)]
  rw [show decide ((60000:Int)-min 21000 (60000 / 2)<((fbytes b.bag+mbytes b.q.w+mbytes b.inn:Nat):Int)+((dat ms x).text.length:Int))=false from decide_eq_false (by omega)]
  simp
 have hfp:=dat_fp hx
 have hput:=fput_law (base:=4294967290) H (by omega) hx hxG h.lt h.nd
 rw [←h.bag] at hput
 have hnx:∀z∈b.q.nx,0≤z∧z<65536:=fun z hz=>by
  obtain ⟨s,hsl,rfl⟩:=List.mem_iff_getElem.1 hz
  rw [h.nxl] at hsl
  obtain ⟨r,r1,r2,_⟩:=h.nx s hsl
  have:b.q.nx.getD s default=b.q.nx[s]:=by rw [List.getD_eq_getElem?_getD,List.getElem?_eq_getElem (by rw [h.nxl];exact hsl)];rfl
  rw [←this,r1]
  have:=Ss_len ms s
  omega
 have hok:b.InOk (dat ms x):=by
  refine ⟨hs.p,hs.pr,got_ok hgot (fun k hk=>by have:=hkl k hk;omega) (by omega) hs.du,by rw [d5];exact w32_in _,by omega,by omega,by omega,by omega,by omega,by omega,by omega,by rw [hs.win];decide,⟨hs.owe.1,by have:=hs.owe.2;omega⟩,fun _=>?_,fun _ hc=>?_,fun _ y hy=>?_⟩
  ·rw [hfp,h.bag]
   exact fok_law H (by omega) (fun m hm=>by have:=(hf.tx m hm).2;omega) hx hxG h.lt h.nd
  ·rw [hfp] at hc ⊢
   rcases hput with ⟨_,e⟩|⟨_,e⟩
   ·rw [e] at hc;cases hc
   ·rw [e]
    exact ⟨by show 0≤((msg ms (mi ms x)).stream:Int)∧((msg ms (mi ms x)).stream:Int)<65536;omega,by rw [h.nxl];decide,by omega,hnx⟩
  ·have:=put_few hy;omega
 have hhr:b.hearing 0 0={ b with heard:=b.heard.set 0 0}:=by
  unfold As.hearing;rw [if_pos ⟨Int.le_refl 0,by rw [hs.hd];decide⟩];rfl
 have htake:tookA b (dat ms x)=((b.hearing 0 0).gotA (dat ms x) 0 0).putA (dat ms x):=by
  unfold tookA
  rw [hhr]
  unfold As.takeC
  rw [show ({ b with heard:=b.heard.set 0 0}:As).over (dat ms x)=false from hover,if_neg (by decide),if_pos ⟨by show (b.g.take _).2=true;rw [htk],by show (dat ms x).stream<b.h.ins;rw [hs.ins,d4];omega⟩]
 refine ⟨⟨d1,d3,d2,by rw [hs.st];decide,hok,by rw [hs.hd];decide⟩,?_,?_⟩
 ·rw [htake,hhr]
  refine h.put H (by omega) (by omega) hx hxG (b:=({ b with heard:=b.heard.set 0 0}:As).gotA (dat ms x) 0 0) rfl rfl rfl ?_ hfp
  refine ⟨c',ks',?_,fun j=>?_⟩
  ·show GotIs 4294967290 (b.g.take (dat ms x).tsn).1.cum (b.g.take (dat ms x).tsn).1.ab c' ks'
   rw [htk];exact t2
  ·rw [t3 j,List.mem_append,hgm j,List.mem_singleton]
   constructor
   ·rintro (h|h)
    ·exact .inr h
    ·exact .inl h
   ·rintro (h|h)
    ·exact .inr h
    ·exact .inl h
 ·rw [htake,hhr]
  obtain ⟨k1,k2,k3,k4,k5,k6⟩:=putA_keep (({ b with heard:=b.heard.set 0 0}:As).gotA (dat ms x) 0 0) (dat ms x)
  refine ⟨by rw [k1];exact hs.st,by rw [k1];exact hs.ins,by rw [k2];exact hs.p,by rw [k2];exact hs.pr,by rw [k3];exact hs.win,by rw [k4];show (b.heard.set 0 0).length=2;rw [List.length_set];exact hs.hd,?_,?_⟩
  ·rw [k5]
   show 0≤b.owe+1∧b.owe+1≤((G++[x]).length:Int)
   have:=hs.owe
   rw [List.length_append]
   simp;omega
  ·rw [k6]
   show (b.g.take (dat ms x).tsn).1.du=[]
   rw [htk];exact hs.du
end Go.Proofs.YtbkcekmahdbgdaaGreat
namespace Towline.Ac
open Towline.Hand Towline.Chunk Towline.Store
set_option linter.unusedVariables false
theorem recvs_all:∀(f:Nat) (b:As),b.inn.length≤f→(recvs f b).2=b.inn
 |0,b,h=>by rw [List.eq_nil_of_length_eq_zero (Nat.le_zero.1 h)];rfl
 |f+1,b,h=>by
  cases hi:b.inn with
  |nil=>rw [recvs_nil b hi]
  |cons m r=>
   rw [recvs_cons b f m r hi]
   dsimp only
   rw [recvs_all f (b.recv r) (by rw [hi] at h;show r.length≤f;simpa using h)]
   rfl
theorem ofS_eq {ms:List Msg} (hf:∀m∈ms,m.free=false) (s:Nat):ofS s ms=(Ss ms s).map (msg ms):=by
 have e:ms=(List.range ms.length).map (msg ms):=by
  apply List.ext_getElem
  ·simp
  ·intro j h1 h2
   rw [List.getElem_map,List.getElem_range]
   unfold msg
   rw [List.getD_eq_getElem?_getD,List.getElem?_eq_getElem h1];rfl
 unfold ofS Ss
 conv=>lhs;rw [e]
 rw [List.filter_map]
 congr 1
 apply List.filter_congr
 intro j _
 show isA s (msg ms j)=isS ms s j
 unfold isA isS
 rw [Bool.eq_iff_iff,Bool.and_eq_true,Bool.and_eq_true,beq_iff_eq,beq_iff_eq]
 constructor
 ·rintro ⟨h1,h2⟩;exact ⟨h2,by omega⟩
 ·rintro ⟨h1,h2⟩;exact ⟨by omega,h1⟩
end Towline.Ac
namespace Go.Proofs.YtbkcekmahdbgdaaGreat
open Go Go.RowKit Towline Towline.Tlv Towline.Hand Towline.Ac Towline.Chunk Towline.Store
set_option linter.unusedVariables false
set_option linter.unusedSimpArgs false
set_option linter.unusedSectionVars false
set_option maxRecDepth 20000
def ofK (ms:List Msg) (s k:Nat):Bool:=(msg ms (mi ms k)).stream==s
structure SInv (ms:List Msg) (n s:Nat) (l:List (Int×Ch)) (b:As) (ks G dl wl:List Nat):Prop where
 l:l=ks.map fun k=>((0:Int),dat ms k)
 nd:ks.Nodup
 k:∀k∈ks,k<n∧ofK ms s k=true
 dis:∀k∈ks,k∉G
 all:∀k,k<n→ofK ms s k=true→k∈G∨k∈ks
 g:∀k∈G,k<n∧ofK ms s k=true
 rcv:Rcv 4294967290 ms b [] G dl wl
 b:BSt b G.length
section
variable {ms : List Msg} {i : Nat} (hf : Few ms i) (hi : i ≤ 12) {n : Nat} (hn : n ≤ nR ms) (hn64 : n ≤ 64)
include hf hi hn hn64
theorem inv_step {s:Nat} {l:List (Int×Ch)} {b:As} {ks G dl wl:List Nat} (h:SInv ms n s l b ks G dl wl) (k:Nat) (hk:k<l.length):TakeOk b (l.getD k default).2∧∃ks' G' dl' wl',SInv ms n s (l.take k++l.drop (k+1)) (tookA b (l.getD k default).2) ks' G' dl' wl':=by
 have hkl:k<ks.length:=by rw [h.l,List.length_map] at hk;exact hk
 have hg:l.getD k default=(0,dat ms ks[k]):=by
  rw [h.l,List.getD_eq_getElem?_getD,List.getElem?_map,List.getElem?_eq_getElem hkl];rfl
 have hmem:=List.getElem_mem hkl
 obtain ⟨h1,h2⟩:=h.k _ hmem
 obtain ⟨t1,⟨dl',wl',t2⟩,t3⟩:=take_law hf hi h.rcv h.b (x:=ks[k]) (by omega) (by omega) (h.dis _ hmem)
 rw [hg]
 refine ⟨t1,ks.take k++ks.drop (k+1),G++[ks[k]],dl',wl',?_,?_,?_,?_,?_,?_,t2,t3⟩
 ·rw [h.l,←List.map_take,←List.map_drop,List.map_append]
 ·rw [←List.eraseIdx_eq_take_drop_succ]
  exact h.nd.sublist (List.eraseIdx_sublist _ _)
 ·intro x hx
  refine h.k x ?_
  rw [←List.eraseIdx_eq_take_drop_succ] at hx
  exact List.mem_of_mem_eraseIdx hx
 ·intro x hx hG
  rw [←List.eraseIdx_eq_take_drop_succ] at hx
  rcases List.mem_append.1 hG with hG|hG
  ·exact h.dis x (List.mem_of_mem_eraseIdx hx) hG
  ·rw [List.mem_singleton] at hG
   subst hG
   have hp:=erase_perm ks k hkl
   have hnd:=hp.nodup_iff.2 h.nd
   exact (List.nodup_cons.1 hnd).1 hx
 ·intro x hx hs
  rcases h.all x hx hs with h1|h1
  ·exact .inl (List.mem_append_left _ h1)
  ·have:=(erase_perm ks k hkl).mem_iff.2 h1
   rcases List.mem_cons.1 this with rfl|h2
   ·exact .inl (List.mem_append_right _ (List.mem_singleton.2 rfl))
   ·rw [List.eraseIdx_eq_take_drop_succ] at h2
    exact .inr h2
 ·intro x hx
  rcases List.mem_append.1 hx with hx|hx
  ·exact h.g x hx
  ·rw [List.mem_singleton.1 hx];exact ⟨h1,h2⟩
theorem own_eq (s:Nat):ownS s (sentW ms n)=((List.range n).filter (ofK ms s)).map fun k=>((0:Int),dat ms k):=by
 unfold ownS sentW
 rw [List.filter_map]
 congr 1
 apply List.filter_congr
 intro k hk
 have hk:=List.mem_range.1 hk
 obtain ⟨d1,_,_,d4,_⟩:=dat_ok hf hi (k:=k) (by omega)
 show ((dat ms k).ty==0&&(dat ms k).stream==(s:Int))=_
 rw [d1,d4]
 unfold ofK
 rw [Bool.eq_iff_iff,Bool.and_eq_true,beq_iff_eq,beq_iff_eq,beq_iff_eq]
 omega
theorem inv_0 (s:Nat):∃ks G dl wl,SInv ms n s (ownS s (sentW ms n)) endB ks G dl wl:=by
 have H:=hf.ms hi
 refine ⟨(List.range n).filter (ofK ms s),[],[],[],own_eq hf hi hn hn64 s,nodup_filter _ List.nodup_range,fun k hk=>?_,(fun _ _ h=>by cases h),fun k hk h=>.inr (List.mem_filter.2 ⟨List.mem_range.2 hk,h⟩),(fun _ h=>by cases h),?_,?_⟩
 ·obtain ⟨h1,h2⟩:=List.mem_filter.1 hk
  exact ⟨List.mem_range.1 h1,h2⟩
 ·refine ⟨(fun _ h=>by cases h),List.nodup_nil,⟨0,[],⟨by decide +kernel,rfl,List.Pairwise.nil,(fun _ h=>by cases h)⟩,fun j=>⟨(fun h=>absurd h List.not_mem_nil),(fun h=>h.elim (fun h=>absurd h (Nat.not_lt_zero _)) (fun h=>absurd h List.not_mem_nil))⟩⟩,rfl,rfl,rfl,List.nodup_nil,fun j=>⟨(fun h=>absurd (show j∈([]:List Nat) from h) List.not_mem_nil),?_⟩,(fun _ h=>by cases h),rfl,fun s hs=>⟨0,?_,Nat.zero_le _,rfl,(fun _ _ h=>by cases h)⟩⟩
  ·rintro ⟨h1,h2⟩
   have hb:=bk_pos H h1
   have:=wh_iff.1 h2 (st ms j) (Nat.le_refl _) (by omega)
   cases this
  ·have:s=0∨s=1∨s=2∨s=3:=by omega
   rcases this with rfl|rfl|rfl|rfl<;>rfl
 ·exact ⟨by decide +kernel,by decide +kernel,by decide +kernel,by decide +kernel,by decide +kernel,by decide +kernel,by decide +kernel,by decide +kernel⟩
theorem inv_end {s:Nat} {b:As} {ks G dl wl:List Nat} (h:SInv ms n s [] b ks G dl wl) {P:Pr} (hia:P.ia=ms) (hrb:P.rb=[]):EndOk { P with b:=b} (wholeS (ownS s (sentW ms n))):=by
 have H:=hf.ms hi
 have hlen:=hf.len
 have htot:=hf.tot
 have hnr:=nR_le hf hi
 obtain ⟨b1,b2,b3,b4,b5,b6,b7,b8,b9,b10⟩:=h.rcv.bounds H (by omega)
 have hks:ks=[]:=by
  have:=congrArg List.length h.l
  rw [List.length_map] at this
  exact List.eq_nil_of_length_eq_zero this.symm
 have hGall:∀k,k<n→ofK ms s k=true→k∈G:=fun k h1 h2=>by
  rcases h.all k h1 h2 with h3|h3
  ·exact h3
  ·rw [hks] at h3;cases h3
 have hwh:∀j,j∈dl++wl↔j<ms.length∧(msg ms j).stream=s∧st ms j+(bk ms j).length≤n:=fun j=>by
  rw [h.rcv.mem j]
  refine and_congr_right fun hj=>?_
  have hbp:=bk_pos H hj
  rw [wh_iff]
  constructor
  ·intro hall
   have h0:=h.g _ (hall (st ms j) (Nat.le_refl _) (by omega))
   have h9:=h.g _ (hall (st ms j+((bk ms j).length-1)) (by omega) (by omega))
   refine ⟨?_,by omega⟩
   have hm:=(mi_at H (i:=0) hj hbp).1
   rw [Nat.add_zero] at hm
   have:=h0.2
   unfold ofK at this
   rw [hm] at this
   exact eq_of_beq this
  ·rintro ⟨h1,h2⟩ x hx1 hx2
   refine hGall x (by omega) ?_
   unfold ofK
   have hm:=(mi_at H (i:=x-st ms j) hj (by omega)).1
   rw [show st ms j+(x-st ms j)=x from by omega] at hm
   rw [hm,h1];exact beq_self_eq_true _
 have hfr:∀j,j<ms.length→(msg ms j).free=false:=fun j hj=>hf.fr _ (by unfold msg;rw [List.getD_eq_getElem?_getD,List.getElem?_eq_getElem hj];exact List.getElem_mem _)
 have hst4:∀j,j<ms.length→(msg ms j).stream<4:=fun j hj=>H.st _ (by unfold msg;rw [List.getD_eq_getElem?_getD,List.getElem?_eq_getElem hj];exact List.getElem_mem _)
 have hisS:∀j,j∈dl++wl→isS ms s j=true:=fun j hj=>by
  obtain ⟨h1,h2,_⟩:=(hwh j).1 hj
  unfold Towline.Ac.isS
  rw [hfr j h1,h2];simp
 have hnd:=List.nodup_append.1 h.rcv.dnd
 have hkey:wl=[]∧∃r,r≤(Ss ms s).length∧dl=(Ss ms s).take r:=by
  by_cases hs4:s<4
  ·obtain ⟨r,r1,r2,r3,r4⟩:=h.rcv.nx s hs4
   have hdl:dl=(Ss ms s).take r:=by
    rw [←r3]
    exact (List.filter_eq_self.2 fun j hj=>hisS j (List.mem_append_left _ hj)).symm
   refine ⟨?_,r,r2,hdl⟩
   cases hw:wl with
   |nil=>rfl
   |cons j w=>
    exfalso
    have hjw:j∈wl:=by rw [hw];exact List.mem_cons_self
    have hj:=hisS j (List.mem_append_right _ hjw)
    obtain ⟨q1,q2,q3⟩:=(hwh j).1 (List.mem_append_right _ hjw)
    obtain ⟨y,hy⟩:=List.mem_iff_getElem?.1 (mem_Ss.2 ⟨q1,hj⟩)
    have hyr:r≤y:=by
     rcases Nat.lt_or_ge y r with hlt|hge
     ·exfalso
      have:j∈dl:=by
       rw [hdl]
       exact List.mem_iff_getElem?.2 ⟨y,by rw [List.getElem?_take,if_pos hlt,hy]⟩
      exact hnd.2.2 j this j hjw rfl
     ·exact hge
    have hyl:=(List.getElem?_eq_some_iff.1 hy).1
    have hrl:r<(Ss ms s).length:=by omega
    have h0:=List.getElem?_eq_getElem hrl
    have hm0:=mem_Ss.1 (List.getElem_mem hrl)
    have hle:(Ss ms s)[r]≤j:=by
     have hp:(Ss ms s).Pairwise (· < ·):=by
      unfold Ss
      exact List.Pairwise.filter _ List.pairwise_lt_range
     have he:=(List.getElem?_eq_some_iff.1 hy).2
     rcases Nat.lt_or_eq_of_le hyr with hlt|heq
     ·have:=List.pairwise_iff_getElem.1 hp r y hrl hyl hlt
      omega
     ·subst heq;omega
    have hsj:st ms (Ss ms s)[r]+(bk ms (Ss ms s)[r]).length≤n:=by
     rcases Nat.lt_or_eq_of_le hle with hlt|heq
     ·have hb0:=bk_pos H hm0.1
      have hbj:=bk_pos H q1
      have e1:=(mi_at H (i:=(bk ms (Ss ms s)[r]).length-1) hm0.1 (by omega))
      have hmono:st ms (Ss ms s)[r]+(bk ms (Ss ms s)[r]).length≤st ms j:=by
       have e2:=startB_le ((rows 4 ms).take j) (Ss ms s)[r] (bk ms (Ss ms s)[r]) (by rw [List.getElem?_take,if_pos hlt];exact (bk_ok H hm0.1).1)
       have e3:startB ((rows 4 ms).take j) (Ss ms s)[r]=st ms (Ss ms s)[r]:=by
        unfold st startB
        rw [List.take_take,Nat.min_eq_left (by omega)]
       have e4:((rows 4 ms).take j).flatten.length=st ms j:=by
        unfold st startB
        rw [List.length_flatten]
       omega
      omega
     ·rw [heq];exact q3
    have hin:(Ss ms s)[r]∈dl++wl:=(hwh _).2 ⟨hm0.1,by have:=hm0.2;unfold Towline.Ac.isS at this;simpa using (and2 this).2,hsj⟩
    rcases List.mem_append.1 hin with h5|h5
    ·rw [hdl] at h5
     obtain ⟨z,hz⟩:=List.mem_iff_getElem?.1 h5
     rw [List.getElem?_take] at hz
     split at hz
     ·rename_i hzr
      obtain ⟨z1,z2⟩:=List.getElem?_eq_some_iff.1 hz
      have:=(List.getElem_inj (Ss_nodup ms s)).1 z2
      omega
     ·cases hz
    ·exact r4 _ h0 h5
  ·have he:∀j,j∉dl++wl:=fun j hj=>by
    obtain ⟨h1,h2,_⟩:=(hwh j).1 hj
    have:=hst4 j h1;omega
   have hd0:dl=[]:=List.eq_nil_iff_forall_not_mem.2 fun j hj=>he j (List.mem_append_left _ hj)
   exact ⟨List.eq_nil_iff_forall_not_mem.2 fun j hj=>he j (List.mem_append_right _ hj),0,Nat.zero_le _,by rw [hd0];rfl⟩
 obtain ⟨hwl,r,hr,hdl⟩:=hkey
 have hmem:∀j,j∈dl↔j<ms.length∧(msg ms j).stream=s∧st ms j+(bk ms j).length≤n:=fun j=>by
  rw [←hwh j,hwl,List.append_nil]
 have hin:b.inn=dl.map (fmOf 4294967290 ms):=h.rcv.d
 have hrd:({ P with b:=b}:Pr).readB.rb=dl.map (fmOf 4294967290 ms):=by
  show P.rb++(recvs 200 b).2=_
  rw [hrb,recvs_all 200 b (by omega),hin];rfl
 have hcount:dl.length=wholeS (ownS s (sentW ms n)):=by
  unfold wholeS
  rw [own_eq hf hi hn hn64 s,List.filter_map,List.length_map,List.filter_filter]
  have hmap:(dl.map fun j=>st ms j+((bk ms j).length-1)).length=dl.length:=List.length_map _
  rw [←hmap]
  apply List.Perm.length_eq
  refine (List.perm_ext_iff_of_nodup ?_ (nodup_filter _ List.nodup_range)).2 fun k=>?_
  ·refine List.Pairwise.map _ ?_ (List.Pairwise.and_mem.1 hnd.1)
   rintro x y ⟨hx,hy,hne⟩ e
   have hxl:=((hmem x).1 hx).1
   have hyl:=((hmem y).1 hy).1
   have ex:=(mi_at H (i:=(bk ms x).length-1) hxl (by have:=bk_pos H hxl;omega)).1
   have ey:=(mi_at H (i:=(bk ms y).length-1) hyl (by have:=bk_pos H hyl;omega)).1
   rw [e,ey] at ex
   exact hne ex.symm
  ·rw [List.mem_map,List.mem_filter,List.mem_range]
   constructor
   ·rintro ⟨j,hj,rfl⟩
    obtain ⟨h1,h2,h3⟩:=(hmem j).1 hj
    have hb:=bk_pos H h1
    obtain ⟨m1,m2⟩:=mi_at H (i:=(bk ms j).length-1) h1 (by omega)
    obtain ⟨_,_,_,_,_,_,_,d8⟩:=dat_ok hf hi m2
    refine ⟨by omega,?_⟩
    show (isE (0,dat ms _)&&ofK ms s _)=true
    unfold isE ofK
    dsimp only
    rw [d8,m1,h2,Bool.and_eq_true,beq_iff_eq,beq_iff_eq]
    omega
   ·rintro ⟨hk,hc⟩
    have hc:(isE (0,dat ms k)&&ofK ms s k)=true:=hc
    obtain ⟨c1,c2⟩:=and2 hc
    obtain ⟨_,_,_,_,_,_,_,d8⟩:=dat_ok hf hi (k:=k) (by omega)
    unfold isE at c1
    dsimp only at c1
    rw [d8] at c1
    have c1:=eq_of_beq c1
    unfold ofK at c2
    have c2:=eq_of_beq c2
    obtain ⟨a1,a2,a3,_⟩:=at_mi (base:=4294967290) H (k:=k) (by omega)
    exact ⟨mi ms k,(hmem _).2 ⟨a1,c2,by omega⟩,by omega⟩
 have hrdok:RdOk b:=⟨by omega,by omega,by omega,by omega,by omega,by omega,by rw [h.b.win];decide⟩
 refine ⟨hrdok,by show P.rb.length≤_;rw [hrb];decide,by rw [hrd,List.length_map];exact hcount,⟨?_,?_,?_,?_⟩,?_,fun s' hs'=>⟨fun j hj=>?_⟩⟩
 ·show P.ia.length≤_;rw [hia];omega
 ·rw [hrd,List.length_map];omega
 ·show ∀m∈P.ia,_
  rw [hia]
  intro m hm
  have:=hf.st m hm;omega
 ·rw [hrd]
  intro m hm
  obtain ⟨x,hx,rfl⟩:=List.mem_map.1 hm
  have:=hst4 x ((hmem x).1 hx).1
  show 0≤((msg ms x).stream:Int)∧((msg ms x).stream:Int)≤65535
  omega
 ·rw [hrd]
  intro m hm
  obtain ⟨x,hx,rfl⟩:=List.mem_map.1 hm
  exact hfr x ((hmem x).1 hx).1
 ·rw [hrd] at hj ⊢
  have hstream:∀m∈dl.map (fmOf 4294967290 ms),isR s' m=(s==s'):=fun m hm=>by
   obtain ⟨x,hx,rfl⟩:=List.mem_map.1 hm
   obtain ⟨h1,h2,_⟩:=(hmem x).1 hx
   show (((msg ms x).stream:Int)==(s':Int) && !(msg ms x).free)=_
   rw [hfr x h1,h2,Bool.eq_iff_iff,beq_iff_eq,Bool.and_eq_true,beq_iff_eq]
   constructor
   ·rintro ⟨e,_⟩;omega
   ·intro e;exact ⟨by omega,rfl⟩
  by_cases hss:s=s'
  ·subst hss
   have hrs:rdS s (dl.map (fmOf 4294967290 ms))=dl.map (fmOf 4294967290 ms):=List.filter_eq_self.2 fun m hm=>by rw [hstream m hm];exact beq_self_eq_true _
   rw [hrs] at hj ⊢
   rw [List.length_map] at hj
   show _∧_<(ofS s P.ia).length∧((ofS s P.ia).getD j default).text=_∧(((ofS s P.ia).getD j default).ppid:Int)=_∧_
   rw [hia,ofS_eq hf.fr s,List.length_map]
   have hjr:j<r:=by rw [hdl,List.length_take] at hj;omega
   have hjS:j<(Ss ms s).length:=by omega
   have hd:dl[j]=(Ss ms s)[j]:=by
    have e:dl[j]? = (Ss ms s)[j]?:=by rw [hdl,List.getElem?_take,if_pos hjr]
    rw [List.getElem?_eq_getElem hj,List.getElem?_eq_getElem hjS] at e
    exact Option.some.inj e
   have g1:(dl.map (fmOf 4294967290 ms)).getD j default=fmOf 4294967290 ms (Ss ms s)[j]:=by
    rw [List.getD_eq_getElem?_getD,List.getElem?_map,List.getElem?_eq_getElem hj,hd];rfl
   have g2:((Ss ms s).map (msg ms)).getD j default=msg ms (Ss ms s)[j]:=by
    rw [List.getD_eq_getElem?_getD,List.getElem?_map,List.getElem?_eq_getElem hjS];rfl
   rw [g1,g2]
   obtain ⟨_,_,n3⟩:=Ss_nth (List.getElem?_eq_getElem hjS)
   refine ⟨by omega,hjS,rfl,rfl,?_⟩
   show ((nthM ms (Ss ms s)[j]:Nat):Int)=j
   rw [n3]
  ·exfalso
   have:rdS s' (dl.map (fmOf 4294967290 ms))=[]:=List.filter_eq_nil_iff.2 fun m hm=>by
    rw [hstream m hm];simpa using hss
   rw [this] at hj
   exact absurd hj (Nat.not_lt_zero _)
end
theorem streams_law (T:List (List UInt8)) (hT:T.length≤12) (ht:∀t∈T,t.length≤1500):∃P Inv,StreamsLaw T P Inv:=by
 obtain ⟨ms,e,hf⟩:=sends_law T hT T.length (Nat.le_refl _) (by rw [List.take_length];exact ht)
 obtain ⟨f1,n,f2,f3,f4,f5,f6,f7⟩:=flush_ok hf hT
 refine ⟨(stP ms).flushA 0,fun s l b=>∃ks G dl wl,SInv ms n s l b ks G dl wl,⟨fun i hi=>?_,by rw [e];exact f1,by rw [e],?_,fun s hs=>?_,fun s l b ⟨ks,G,dl,wl,h⟩ k hk=>inv_step hf hT f3 f2 h k hk,fun s b ⟨ks,G,dl,wl,h⟩=>?_⟩⟩
 ·obtain ⟨ms',e',hf'⟩:=sends_law T hT i hi fun t h=>ht t (List.mem_of_mem_take h)
  have h1:=hf'.tot
  have h2:=hf'.len
  rw [e']
  exact ⟨by show total ms'≤_;omega,Nat.zero_le _,by show ms'.length≤_;omega,by show ms'.length≤_;omega⟩
 ·rw [f4]
  refine ⟨by unfold sentW;rw [List.length_map,List.length_range];omega,fun x hx=>?_⟩
  unfold sentW at hx
  obtain ⟨k,hk,rfl⟩:=List.mem_map.1 hx
  have hk:=List.mem_range.1 hk
  obtain ⟨_,_,_,d4,_⟩:=dat_ok hf hT (k:=k) (by omega)
  obtain ⟨a1,_,_,_⟩:=at_mi (base:=4294967290) (hf.ms hT) (k:=k) (by omega)
  have:=(hf.ms hT).st (msg ms (mi ms k)) (by unfold msg;rw [List.getD_eq_getElem?_getD,List.getElem?_eq_getElem a1];exact List.getElem_mem _)
  dsimp only
  rw [d4];omega
 ·rw [f4,f5]
  exact inv_0 hf hT f3 f2 s
 ·have h':=inv_end hf hT f3 f2 h (P:=(stP ms).flushA 0) f6 f7
  rw [←f4] at h'
  exact h'
theorem sends_ok (T:List (List UInt8)):∀i,i<T.length→T.length≤12→(∀t∈T.take i,t.length≤1500)→SendOk (sends T i):=fun i hi hT ht=>by
 obtain ⟨ms',e',hf'⟩:=sends_law T hT i (by omega) ht
 have h1:=hf'.tot
 have h2:=hf'.len
 rw [e']
 exact ⟨by show total ms'≤_;omega,Nat.zero_le _,by show ms'.length≤_;omega,by show ms'.length≤_;omega⟩
open Go Go.RowKit Towline Towline.Hand Towline.Ac Towline.Chunk Towline.Store
set_option maxHeartbeats 4000000
theorem rows_of {α:Type} [Inhabited α] {enc:α→List D} {p:α→Prop} {m:Nat} {f:Nat→List D} (h:∀k,k<m→∃a,f k=enc a∧p a):∃l:List α,l.length=m∧(∀a∈l,p a)∧∀k,k<m→f k=enc (l.getD k default):=by
 obtain ⟨g,hg⟩:=Go.Deep.choose_lt h
 refine ⟨(List.range m).map g,by simp,fun a ha=>?_,fun k hk=>?_⟩
 ·obtain ⟨k,hk,rfl⟩:=List.mem_map.1 ha
  exact (hg k (List.mem_range.1 hk)).2
 ·rw [(hg k hk).1];simp [hk]
theorem assocStreams_of {l0 l1 l2:List D} (h0:wt tys 8 22 l0) (h1:wt tys 8 3 l1) (h2:wt tys 8 23 l2):PSpec Tryz.prog 3 [asV false l0,asV false l1,asV false l2] (· = .d (.b true)):=by
 obtain ⟨m0,f0,ha0,hm0,hf0⟩:=h0
 obtain ⟨x,hx,hxw⟩:=h1
 obtain ⟨m2,f2,ha2,hm2,hf2⟩:=h2
 obtain ⟨T,t1,t2,t3⟩:=rows_of (enc:=encTx) (p:=fun _=>True) fun k hk=>by
  obtain ⟨s,hs,_⟩:=(hf0 k hk).2
  exact ⟨s,hs,trivial⟩
 obtain ⟨O,o1,o2,o3⟩:=rows_of (enc:=St.encI) (p:=fun c:Int=>-9223372036854775808≤c∧c≤9223372036854775807) fun k hk=>by
  obtain ⟨c,hc,hw⟩:=(hf2 k hk).2
  have:=bounds_i64 hw
  exact ⟨c,hc,by omega,by omega⟩
 subst ha0
 subst hx
 subst ha2
 have hb:=bounds_i64 hxw
 refine (streams_walk T x O ⟨by omega,by omega⟩ o2 (fun h1 h2=>streams_law T h1 h2) (sends_ok T)).argsC ⟨.sl t1.symm fun k hk=>t3 k hk,.refl _,.sl o1.symm fun k hk=>o3 k hk,trivial⟩
end Go.Proofs.YtbkcekmahdbgdaaGreat
