/- AssocStreams: the engine, contracts and plain laws that its proof leans on, part 02. -/
import Derived.Test.YtbkcekmahdbgdaaGreatSq01
import Derived.Deep.AppendSrc
import Derived.Laws.BytesArg
import Derived.Laws.CopyRow
namespace Towline
open Go Go.RowKit
set_option linter.unusedVariables false
set_option linter.unusedSimpArgs false
set_option maxRecDepth 100000
section
variable {P : Program} {T : Tys} {w : World} {gd : Nat → Prop} {L : Lay} {g : Nat → AVal} {h : Nat → Option AObj} {a : Act}
structure AppRuns (P:Program) (w:World) (t tx ty e:TypeId) (i:TypeInfo) (z x:Value) (m:Nat) (news:List Value):Prop where
 len:news.length=m*i.size
 one:∀u∈news,u.oneCell'=true
 room:∀(b n cap:Nat) (cur:Array Value),w.heap[b]? = some (.cells cur e (0,0))→n+m≤cap→n*i.size+news.length≤cur.size→
  (Builtin.append_ #[t,tx] ty #[.slice (some ⟨b,0,none⟩) n cap,x]).run P w=.ok (.slice (some ⟨b,0,none⟩) (n+m) cap) (w.setRow b (cur.toList.take (n*i.size)++news++cur.toList.drop (n*i.size+news.length)).toArray)
 nil0:m=0→(Builtin.append_ #[t,tx] ty #[.slice none 0 0,x]).run P w=.ok (.slice none 0 0) w
 grow:∀(base:Option Addr) (n cap:Nat) (olds:List Value),(Builtin.firstCells i.size n (.slice base n cap)).run P w.drew=.ok olds.toArray w.drew→cap<n+m→n+m≤9223372036854775807→Builtin.nextslicecap (n+m) cap*i.bytes≤281474976710656→
  (Builtin.append_ #[t,tx] ty #[.slice base n cap,x]).run P w=.ok (.slice (some ⟨w.heap.size,0,none⟩) (n+m) (grownCap w (n+m) cap e))
   (w.drew.alloc (.cells ((olds++news).toArray++Builtin.zeroCells z.cells (grownCap w (n+m) cap e-(n+m))) e))
theorem AppRuns.ofSrc {t tx ty e:TypeId} {i:TypeInfo} {z x:Value} {m:Nat} {news:List Value} (ht:P.underlying t=some (.slice e)) (hi:P.info? e=some i) (hz:i.zero=some z) (hs:Src P i.size tx x m news w):AppRuns P w t tx ty e i z x m news where
 len:=hs.newsLen
 one:=hs.one
 room b n cap cur hb hroom hfit:=by
  have hst:=run_storeCells_at P b (n*i.size) e news 0 cur w hb (by simpa using hfit) hs.one
  simp only [Nat.add_zero] at hst
  rcases hs.kind with ⟨e',hk⟩|hk<;>simp [Builtin.append_,run_underlying ht,run_underlying hk,Go.sizeOf,typeInfo,hi,hs.len,hroom,hs.cells,Addr.add_lit,hst]
 nil0 hm:=by
  subst hm
  have hkind:=hs.kind
  have hn:news=[]:=List.eq_nil_of_length_eq_zero (by simpa using hs.newsLen)
  have hc:=hs.cells
  rw [hn] at hc
  have hl:=hs.len w
  clear hs
  rcases hkind with ⟨e',hk⟩|hk<;>simp [Builtin.append_,run_underlying ht,run_underlying hk,Go.sizeOf,typeInfo,hi,hl,hc]
 grow base n cap olds hold hg h63 hfit:=run_append_grow_src w t tx ty e i z ht hi hz base n cap olds hold x m news hs hg (by omega) hfit
theorem AppRuns.ofZeros {t tx ty e:TypeId} {i:TypeInfo} {z:Value} {m:Nat} (ht:P.underlying t=some (.slice e)) (hk:P.underlying tx=some (.int .i64)) (hi:P.info? e=some i) (hz:i.zero=some z) (hzs:z.cells.size=i.size) (h1:∀u∈z.cells.toList,u.oneCell'=true) (hpos:0<i.size)
  (hm:m≤9223372036854775807) (hb:m*i.bytes≤281474976710656):AppRuns P w t tx ty e i z (.int .i64 m) m (Builtin.zeroCells z.cells m).toList:=by
 have hw:IntKind.i64.wrap (m:Int)=m:=IntWalk.i64_in _ (by omega)
 have h48:¬((281474976710656:Int)<(m:Int)*(i.bytes:Int)):=by
  have h2:((m*i.bytes:Nat):Int)≤((281474976710656:Nat):Int):=Int.ofNat_le.2 hb
  rw [Int.natCast_mul] at h2
  exact fun h3=>absurd (Int.lt_of_lt_of_le h3 h2) (Int.lt_irrefl _)
 have hneg:¬((m:Int)<0):=by omega
 have hlen:(Builtin.zeroCells z.cells m).toList.length=m*i.size:=by simp [size_zeroCells,hzs]
 have hone:∀u∈(Builtin.zeroCells z.cells m).toList,u.oneCell'=true:=by
  intro u hu
  simp only [Builtin.zeroCells,Array.toList_map,List.mem_map,Array.toList_range,List.mem_range] at hu
  obtain ⟨k,hk',rfl⟩:=hu
  have hpos':0<z.cells.size:=by omega
  have hlt:=Nat.mod_lt k hpos'
  refine h1 _ ?_
  rw [getElem!_pos z.cells (k % z.cells.size) hlt]
  simp
 have hw0:IntKind.i64.wrap 0=0:=by decide
 have hz0:Builtin.zeroCells z.cells 0 = #[]:=by simp [Builtin.zeroCells]
 refine ⟨hlen,hone,fun b n cap cur hb' hroom hfit=>?_,fun hm0=>?_,fun base n cap olds hold hg h63 hfit=>?_⟩
 ·have hst:=run_storeCells_at P b (n*i.size) e (Builtin.zeroCells z.cells m).toList 0 cur w hb' (by simpa using hfit) hone
  simp only [Nat.add_zero] at hst
  rcases Nat.eq_zero_or_pos m with h0|h0
  ·subst h0
   rw [hz0] at hst ⊢
   simp at hst
   have hroom':n≤cap:=by omega
   simp [Builtin.append_,run_underlying ht,run_underlying hk,Go.sizeOf,typeInfo,hi,asInt,asIntOf,hw0,hroom',Addr.add_lit,hst]
  ·have h1':¬(m*i.size=0):=by
    have:=Nat.mul_pos h0 hpos
    omega
   have h2':¬(m=0∨i.size=0):=by omega
   simp [Builtin.append_,run_underlying ht,run_underlying hk,Go.sizeOf,typeInfo,hi,asInt,asIntOf,hw,h48,hneg,hroom,Addr.add_lit,zeroValue,hz,h1',h2',hst]
 ·subst hm0
  simp [Builtin.append_,run_underlying ht,run_underlying hk,Go.sizeOf,typeInfo,hi,asInt,asIntOf,hw0]
 ·have hn:¬(n+m≤cap):=by omega
  have h63':¬(9223372036854775807<((n:Int)+(m:Int))):=by omega
  have h48':¬(281474976710656<Builtin.nextslicecap (n+m) cap*i.bytes):=by omega
  rcases Nat.eq_zero_or_pos m with h0|h0
  ·subst h0
   rw [hz0]
   have hn':¬(n≤cap):=by omega
   have h63'':¬(9223372036854775807<(n:Int)):=by omega
   have h48'':¬(281474976710656<Builtin.nextslicecap n cap*i.bytes):=by simpa using h48'
   simp [Builtin.append_,run_underlying ht,run_underlying hk,Go.sizeOf,typeInfo,hi,asInt,asIntOf,hw0,hn',h63'',h48'',Question.forced,hold,newRow,grownCap,zeroValue,hz]
  ·have h1':¬(m*i.size=0):=by
    have:=Nat.mul_pos h0 hpos
    omega
   have h2':¬(m=0∨i.size=0):=by omega
   simp [Builtin.append_,run_underlying ht,run_underlying hk,Go.sizeOf,typeInfo,hi,asInt,asIntOf,hw,h48,hneg,hn,h63',h48',Question.forced,hold,newRow,grownCap,zeroValue,hz,h1',h2']
   congr 2
   apply Array.ext'
   simp [List.append_assoc]
theorem AppRuns.own {t tx ty e:TypeId} {i:TypeInfo} {z x:Value} {m:Nat} {news:List Value} (A:AppRuns P w t tx ty e i z x m news) (hzs:z.cells.size=i.size) (base:Nat) (v:Value) (n:Nat) (xs:List Value) (hown:w.ownsRow base e i.size v n xs)
  (h63:n+m≤maxLen) (hbytes:(n+m)*i.bytes≤140737488355328) (hbase:base≤w.heap.size) :
  ∃v' w',(Builtin.append_ #[t,tx] ty #[v,x]).run P w=.ok v' w'∧w'.ownsRow base e i.size v' (n+m) (xs++news)∧w.grownBy w' v.ownBlock∧(v'.ownBlock=v.ownBlock∨v'.ownBlock=some w.heap.size):=by
 have hsmall:n+m≤9223372036854775807:=by simp only [maxLen] at h63;omega
 have hxl:=hown.1
 have hlen:(xs++news).length=(n+m)*i.size:=by rw [List.length_append,hxl,A.len,Nat.add_mul]
 have fresh:∀(old:Nat) (row:Option Nat),old<n+m→
   (w.drew.alloc (.cells ((xs++news).toArray++Builtin.zeroCells z.cells (grownCap w (n+m) old e-(n+m))) e)).ownsRow base e i.size (.slice (some ⟨w.heap.size,0,none⟩) (n+m) (grownCap w (n+m) old e)) (n+m) (xs++news)∧
   w.grownBy (w.drew.alloc (.cells ((xs++news).toArray++Builtin.zeroCells z.cells (grownCap w (n+m) old e-(n+m))) e)) row:=by
  intro old row ho
  have hge:=grownCap_ge w (n+m) old e
  have hle:grownCap w (n+m) old e≤maxLen:=grownCap_le_maxLen w (n+m) old e h63
  have hsz:((xs++news).toArray++Builtin.zeroCells z.cells (grownCap w (n+m) old e-(n+m))).size=grownCap w (n+m) old e*i.size:=by
   rw [Array.size_append,List.size_toArray,size_zeroCells,hzs,hlen,←Nat.add_mul,Nat.add_sub_cancel' hge]
  have htake:((xs++news).toArray++Builtin.zeroCells z.cells (grownCap w (n+m) old e-(n+m))).toList.take ((n+m)*i.size)=xs++news:=by
   rw [Array.toList_append,←hlen]
   exact List.take_left
  exact ⟨⟨hlen,.inr ⟨w.heap.size,_,_,rfl,hbase,heap_alloc_new w.drew _,hge,hle,hsz,htake⟩⟩,rfl,rfl,rfl,by simp,fun k hk _=>heap_alloc_old w.drew _ (by simpa using hk)⟩
 rcases hown.2 with ⟨rfl,rfl⟩|⟨g,cap,cur,rfl,hbg,hg,hnc,hcm,hcs,htake⟩
 ·obtain rfl:xs=[]:=List.eq_nil_of_length_eq_zero (by simpa using hxl)
  rcases Nat.eq_zero_or_pos m with hm|hm
  ·have hn:news=[]:=List.eq_nil_of_length_eq_zero (by rw [A.len,hm,Nat.zero_mul])
   refine ⟨_,_,A.nil0 hm,?_,⟨rfl,rfl,rfl,Nat.le_refl _,fun _ _ _=>rfl⟩,.inl rfl⟩
   rw [hn,hm]
   exact World.ownsRow_nil w base e i.size
  ·have hb:m*i.bytes≤140737488355328:=by simpa using hbytes
   obtain ⟨f1,f2⟩:=fresh 0 (Value.ownBlock (.slice none 0 0)) (by omega)
   refine ⟨_,_,A.grow none 0 0 [] (run_firstCells_none w.drew i.size 0 0 0) (by omega) (by omega) (growslice_fits (by omega) (by simpa using hbytes)),?_,?_,.inr rfl⟩
   ·simpa using f1
   ·simpa using f2
 ·rcases Nat.lt_or_ge cap (n+m) with hroom|hroom
  ·have holds:(Builtin.firstCells i.size n (.slice (some ⟨g,0,none⟩) n cap)).run P w.drew=.ok xs.toArray w.drew:=run_firstCells_some w.drew i.size n ⟨g,0,none⟩ n cap xs hxl (by simpa using hown.cells (g:=g) rfl)
   obtain ⟨f1,f2⟩:=fresh cap (Value.ownBlock (.slice (some ⟨g,0,none⟩) n cap)) hroom
   exact ⟨_,_,A.grow _ n cap xs holds hroom hsmall (growslice_fits (by omega) hbytes),f1,f2,.inr rfl⟩
  ·have hfit:n*i.size+news.length≤cur.size:=by rw [A.len,hcs,←Nat.add_mul];exact Nat.mul_le_mul_right _ hroom
   refine ⟨_,_,A.room g n cap cur hg hroom hfit,⟨hlen,.inr ⟨g,cap,_,rfl,hbg,setRow_heap w g cur _ e _ hg,hroom,hcm,?_,?_⟩⟩,⟨rfl,rfl,rfl,by simp,fun k _ hk=>setRow_other w g k _ (fun e=>hk (by simp [Value.ownBlock,e]))⟩,.inl rfl⟩
   ·simp only [List.size_toArray,List.length_append,List.length_take,List.length_drop,Array.length_toList]
    omega
   ·rw [htake,←hlen]
    exact List.take_left
theorem append_run2 {o:Oper} {s x:Operand} {t t':TypeId} {as:Array Operand} {ts:Array TypeId} (has:as.toList=[s,x]) (hts:ts.toList=[t,t']) (ho:o.op=.call { callee:=.builtin .append,args:=as,argTypes:=ts}) {v u v':Value} {w':World} (hs:a.eval s=v) (hx:a.eval x=u)
  (hrun:(Builtin.append_ #[t,t'] o.type #[v,u]).run P w=.ok v' w'):(execOp a.eval o).run P w=.ok (.value v') w':=by
 obtain ⟨l1⟩:=as
 obtain ⟨l2⟩:=ts
 simp only at has hts
 subst has hts
 simp only [execOp,ho,resolve,invoke,builtin,Sem.run_bind,Sem.run_pure,Result.andThen_ok,List.map_toArray,List.map_cons,List.map_nil,hs,hx,hrun]
theorem appendX_ok (hT:TysOk P T) (H:Holds w gd L g h a) {t t' e:TypeId} {sz by_:Nat} {zz:List D} (ht:lookT t T=some ⟨.slice e,sz,by_,zz⟩) {d:TyD} (he:lookT e T=some d) {s x:Operand} {r:Res} {m:Nat} {f2:Nat→List D} {c:Option Prop} {o:Oper}
  (hsrc:(∀q,c=some q→q)→∀i:TypeInfo,P.info? e=some i→i.zero=some d.zeroVal→i.size=d.size→i.bytes=d.bytes→∃news,AppRuns P w t t' o.type e i d.zeroVal (a.eval x) m news∧(∀k,k<m→(f2 k).length=d.size)∧∀k,k<m→∀(j:Nat) y,(f2 k)[j]? = some y→RepD w gd y (news.getD (k*d.size+j) undef))
  (hr:aAppendX e d h (opnd g s) m f2 c=some r) {as:Array Operand} {ts:Array TypeId}
  (has:as.toList=[s,x]) (hts:ts.toList=[t,t']) (ho:o.op=.call { callee:=.builtin .append,args:=as,argTypes:=ts}):r.Ok P w gd L g h a o:=by
 have hd:=hT.get he
 obtain ⟨i,i1,i2,i3,i4⟩:=hd.info'
 obtain ⟨c1,_⟩:=zeroVal_cells (w:=w) (gd:=gd) hd
 rw [hd.zlen] at c1
 unfold aAppendX at hr
 split at hr
 ·cases hr
 ·rename_i szp hszp
  have hpos:0<d.size:=by omega
  split at hr
  ·
   rename_i es
   simp only [Option.some.injEq] at hr
   subst hr
   intro hq id
   obtain ⟨⟨q1,q2⟩,q3⟩:=andC_left (hq _ rfl)
   have hsv:=repA_v (es▸H.opnd s)
   obtain ⟨news,A,n4,n5⟩:=hsrc q3 i i1 i2 i3 i4
   obtain ⟨v',w',hrun,hown,hgrown,hblk⟩:=A.own (by omega) w.heap.size (.slice none 0 0) 0 [] (World.ownsRow_nil _ _ _ _) (by unfold maxLen;omega) (by rw [i4];simpa using q2) (Nat.le_refl _)
   simp only [Nat.zero_add,List.nil_append,i3] at hown
   have hb:Below w.heap.size w w':=(Below.refl _ _).grown hgrown (Nat.le_refl _) (fun k hk=>by cases hk)
   refine ⟨w',v'.ownBlock,capOf v',v',append_run2 has hts ho hsv rfl hrun,hb,fun b e=>⟨?_,own_lt hown b e⟩,fun gd' hst _=>row_of_own hown n4 (fun k hk j y hy=>(n5 k hk j y hy).mono hb.size hst) L id (hT.get he).lt⟩
   rcases hblk with e'|e'
   ·rw [e'] at e;cases e
   ·rw [e'] at e;cases e;exact Nat.le_refl _
  ·
   rename_i id sz1 o1 n1 es
   split at hr
   ·split at hr
    ·rename_i e' sz2 n2 f hrow
     cases hb1:eqT e' e with
     |false=>rw [hb1] at hr;cases hr
     |true=>
      rw [hb1] at hr
      obtain ⟨this,hmt⟩:=eqT_ok hb1
      subst this
      simp only at hr
      cases hb2:Nat.beq sz2 d.size with
      |false=>rw [hb2] at hr;cases hr
      |true=>
       rw [hb2] at hr
       have hz2:=Nat.eq_of_beq_eq_true hb2
       subst hz2
       simp only at hr
       cases hb3:Nat.beq sz1 d.size with
       |false=>rw [hb3] at hr;cases hr
       |true=>
        rw [hb3] at hr
        have hz1:=Nat.eq_of_beq_eq_true hb3
        subst hz1
        simp only [Option.some.injEq] at hr
        subst hr
        refine ⟨⟨_,_,_,_,hrow⟩,fun hq hnot=>?_⟩
        obtain ⟨⟨q0,q1,q2⟩,q3⟩:=andC_left hq
        subst q0
        have hsv:=es▸H.opnd s
        generalize hsval:a.eval s=sv at hsv
        have hro:=H.obj id _ hrow
        have hold:∃xs,w.ownsRow 0 e' d.size sv n1 xs∧sv.ownBlock=L.blk id∧(∀k,k<n1→(f k).length=d.size)∧∀k,k<n1→∀(j:Nat) y,(f k)[j]? = some y→RepD w gd y (xs.getD (k*d.size+j) undef):=by
         cases hsv with
         |rsl hcap hbb had=>
          have had:=had (.inl rfl)
          subst had
          cases hro with
          |row0 hbk hck=>
           refine ⟨[],?_,?_,fun k hk=>by omega,fun k hk=>by omega⟩
           ·rw [hbk,hck];exact World.ownsRow_nil w 0 e' d.size
           ·rw [hbk];rfl
          | @row _ _ _ _ cs b t9 mk hbk hh hn hm hz hf hrep hty hmk hcap0=>
           have ht9:=hty hmt
           subst ht9
           have hmk0:mk=(0,0):=hmk.resolve_right fun h=>absurd h.1 (by omega)
           subst hmk0
           refine ⟨cs.toList.take (n1*d.size),⟨?_,.inr ⟨b,L.cap id,cs,?_,Nat.zero_le _,hh,hn,hm,hz,rfl⟩⟩,?_,hf,fun k hk j y hy=>?_⟩
           ·rw [List.length_take,Array.length_toList,hz]
            exact Nat.min_eq_left (Nat.mul_le_mul_right _ hn)
           ·rw [hbk];simp
           ·rw [hbk];rfl
           ·have hj:j<d.size:=by rw [←hf k hk];exact (List.getElem?_eq_some_iff.1 hy).1
            have hlt:k*d.size+j<n1*d.size:=by
             have:=Nat.mul_le_mul_right d.size (show k+1≤n1 from hk)
             rw [Nat.add_mul] at this;omega
            have:=hrep k hk j y hy
            rw [List.getD_eq_getElem?_getD,List.getElem?_take,if_pos hlt]
            simpa [Array.getD_eq_getD_getElem?] using this
        obtain ⟨xs,hown0,hblk0,hf0,hr0⟩:=hold
        obtain ⟨news,A,n4,n5⟩:=hsrc q3 i i1 i2 i3 i4
        obtain ⟨v',w',hrun,hown,hgrown,hblk⟩:=A.own (by omega) 0 sv n1 xs (by rw [i3];exact hown0) (by unfold maxLen;omega) (by rw [i4];exact q2) (Nat.zero_le _)
        rw [i3] at hown
        have hxs:=hown0.1
        refine ⟨w',v'.ownBlock,capOf v',v',append_run2 has hts ho hsval rfl hrun,hgrown.os,hgrown.tape,hgrown.output,hgrown.size,fun b hb hne=>hgrown.block b hb (by rw [hblk0];exact hne),fun b hb=>⟨own_lt hown b hb,?_⟩,fun dd gd' hst=>?_⟩
        ·rcases hblk with e'|e'
         ·left;rw [←hblk0,←e'];exact hb.symm
         ·right;rw [e'] at hb;cases hb;exact Nat.le_refl _
        ·refine row_of_own hown (fun k hk=>?_) (fun k hk j y hy=>?_) L dd hmt
         ·unfold fcat
          split
          ·exact hf0 k (by omega)
          ·exact n4 _ (by omega)
         ·unfold fcat at hy
          rw [List.getD_eq_getElem?_getD,List.getElem?_append]
          by_cases hkn:k<n1
          ·rw [if_pos hkn] at hy
           have hj:j<d.size:=by rw [←hf0 k hkn];exact (List.getElem?_eq_some_iff.1 hy).1
           have hlt:k*d.size+j<xs.length:=by
            have:=Nat.mul_le_mul_right d.size (show k+1≤n1 from hkn)
            rw [Nat.add_mul] at this;omega
           rw [if_pos hlt]
           have:=(hr0 k hkn j y hy).mono hgrown.size hst
           rwa [List.getD_eq_getElem?_getD] at this
          ·rw [if_neg hkn] at hy
           have hge:¬k*d.size+j<xs.length:=by
            have:=Nat.mul_le_mul_right d.size (show n1≤k from by omega)
            omega
           rw [if_neg hge]
           have:=(n5 (k-n1) (by omega) j y hy).mono hgrown.size hst
           rw [List.getD_eq_getElem?_getD] at this
           have e2:k*d.size+j-xs.length=(k-n1)*d.size+j:=by
            rw [hxs,Nat.sub_mul]
            have:=Nat.mul_le_mul_right d.size (show n1≤k from by omega)
            omega
           rwa [e2]
    ·cases hr
   ·cases hr
  ·cases hr
theorem appendS_ok (hT:TysOk P T) (H:Holds w gd L g h a) {t t' e:TypeId} {sz by_ sz' by_':Nat} {zz zz':List D} (ht:lookT t T=some ⟨.slice e,sz,by_,zz⟩) (ht':lookT t' T=some ⟨.string,sz',by_',zz'⟩) {d:TyD} (he:lookT e T=some d) (hd1:d.size=1) {s x:Operand} {l:List UInt8} (hx:opnd g x=.d (.s l)) {r:Res} {o:Oper}
  (hr:aAppendX e d h (opnd g s) l.length (bytesF l) none=some r) {as:Array Operand} {ts:Array TypeId}
  (has:as.toList=[s,x]) (hts:ts.toList=[t,t']) (ho:o.op=.call { callee:=.builtin .append,args:=as,argTypes:=ts}):r.Ok P w gd L g h a o:=by
 refine appendX_ok hT H ht he (fun _ i i1 i2 i3 i4=>?_) hr has hts ho
 have hv:=repA_s (hx▸H.opnd x)
 have hsz:(ByteArray.mk l.toArray).size=l.length:=by simp [ByteArray.size]
 have hs:=Src.ofString (P:=P) w (tx:=t') ((hT.get ht').string rfl) ⟨l.toArray⟩
 rw [hsz] at hs
 refine ⟨byteCells ⟨l.toArray⟩,?_,fun k hk=>by rw [hd1];rfl,fun k hk j y hy=>?_⟩
 ·rw [hv]
  exact AppRuns.ofSrc ((hT.get ht).slice rfl) i1 i2 (by rw [i3,hd1];exact hs)
 ·unfold bytesF at hy
  obtain ⟨rfl,rfl⟩:j=0∧y=.i .u8 ((l.getD k 0).toNat:Nat):=by cases j<;>simp_all
  rw [hd1]
  have:(byteCells ⟨l.toArray⟩).getD (k*1+0) undef=.int .u8 ((l.getD k 0).toNat:Nat):=by
   simp [byteCells,List.getD_eq_getElem?_getD,hk]
  rw [this]
  exact .i _ _
theorem appendZ_ok (hT:TysOk P T) (H:Holds w gd L g h a) {t t' e:TypeId} {sz by_ sz' by_':Nat} {zz zz':List D} (ht:lookT t T=some ⟨.slice e,sz,by_,zz⟩) (ht':lookT t' T=some ⟨.int .i64,sz',by_',zz'⟩) {d:TyD} (he:lookT e T=some d) {s x:Operand} {n:Int} (hx:opnd g x=.d (.i .i64 n)) {r:Res} {o:Oper}
  (hr:aAppendX e d h (opnd g s) n.toNat (fun _=>d.zero) (some (0≤n∧n.toNat≤9223372036854775807∧n.toNat*d.bytes≤281474976710656))=some r) {as:Array Operand} {ts:Array TypeId}
  (has:as.toList=[s,x]) (hts:ts.toList=[t,t']) (ho:o.op=.call { callee:=.builtin .append,args:=as,argTypes:=ts}):r.Ok P w gd L g h a o:=by
 refine appendX_ok hT H ht he (fun hq i i1 i2 i3 i4=>?_) hr has hts ho
 obtain ⟨q1,q2,q3⟩:=hq _ rfl
 have hv:=repA_i (hx▸H.opnd x)
 have hd:=hT.get he
 obtain ⟨c1,c2⟩:=zeroVal_cells (w:=w) (gd:=gd) hd
 have hpos:0<d.size:=by
  unfold aAppendX at hr
  split at hr
  ·cases hr
  ·omega
 have hone:∀u∈d.zeroVal.cells.toList,u.oneCell'=true:=by
  refine cells_mem c1 fun q hq=>?_
  obtain ⟨e1,e2,_⟩:=c2 q d.zero[q] (List.getElem?_eq_getElem hq)
  rw [e1];exact e2
 have hnn:((n.toNat:Nat):Int)=n:=Int.toNat_of_nonneg q1
 have A:=AppRuns.ofZeros (P:=P) (w:=w) (ty:=o.type) (m:=n.toNat) ((hT.get ht).slice rfl) ((hT.get ht').int rfl) i1 i2 (by rw [c1,hd.zlen,i3]) hone (by omega) q2 (by rw [i4];exact q3)
 refine ⟨(Builtin.zeroCells d.zeroVal.cells n.toNat).toList,by rw [hv];rw [hnn] at A;exact A,fun k hk=>hd.zlen,fun k hk j y hy=>?_⟩
 have hj:j<d.size:=by rw [←hd.zlen];exact (List.getElem?_eq_some_iff.1 hy).1
 obtain ⟨e1,_,e3⟩:=c2 j y hy
 have hcs:d.zeroVal.cells.size=d.size:=by rw [c1,hd.zlen]
 have hlt:k*d.size+j<n.toNat*d.size:=by
  have:=Nat.mul_le_mul_right d.size (show k+1≤n.toNat from hk)
  rw [Nat.add_mul] at this;omega
 have:(Builtin.zeroCells d.zeroVal.cells n.toNat).toList.getD (k*d.size+j) undef=d.zeroVal.cells.getD j undef:=by
  rw [List.getD_eq_getElem?_getD]
  simp only [Builtin.zeroCells,hcs,Array.toList_map,Array.toList_range,List.getElem?_map,List.getElem?_range hlt]
  have hmod:(k*d.size+j) % d.size=j:=by rw [Nat.mul_comm,Nat.mul_add_mod];exact Nat.mod_eq_of_lt hj
  simp only [Option.map_some,Option.getD_some,hmod]
  have hj':j<d.zeroVal.cells.size:=by omega
  rw [getElem!_pos d.zeroVal.cells j hj',Array.getD_eq_getD_getElem?,Array.getElem?_eq_getElem hj']
  rfl
 rw [this,e1]
 exact e3
end
section
variable {w : World} {gd gd' : Nat → Prop} {L : Lay} {h : Nat → Option AObj}
theorem row_view (ho:∀id o,h id=some o→RepO w gd L id o) (hg:∀b,gd b→gd' b) (hb:∀id o b,h id=some o→L.blk id=some b→gd' b∧b<w.heap.size)
  {id sz o n n':Nat} {t:TypeId} {f:Nat→List D} (hrow:h id=some (.row t sz n' f)) (hle:o+n≤n') {v:Value} (hv:RepA w L gd (.rsl id sz o n) v):RepD w gd' (.sl sz n fun j=>f (o+j)) v:=by
 have hro:=ho id _ hrow
 cases hv with
 |rsl hc hbb ha=>
  cases hro with
  |row0 hb1 hc1=>
   have:n=0:=by omega
   subst this
   exact .sl0 _ _ _ _ (by rw [hc1];simp)
  | @row _ _ _ _ cs b t9 mk hb1 hh hn hm hz hf hrep hty hmk hcap0=>
   by_cases h0:n=0
   ·subst h0;exact .sl0 _ _ _ _ (by omega)
   ·rw [ha (.inr (by omega)),hb1]
    obtain ⟨g1,g2⟩:=hb id _ b hrow hb1
    refine .sl _ _ _ b _ _ (fun k j=>cs.getD ((o+k)*sz+j) undef) (by omega) (by omega) (by omega) g1 g2 (fun k hk=>hf _ (by omega)) (fun k hk j hj=>?_) (fun k hk j x hx=>(hrep _ (by omega) j x hx).mono (Nat.le_refl _) fun b _ hb=>⟨hg b hb,rfl⟩)
    have hlt:(o+k)*sz+j<cs.size:=by
     have:=Nat.mul_le_mul_right sz (show o+k+1≤L.cap id from by omega)
     rw [Nat.add_mul (o+k) 1] at this;omega
    rw [show o*sz+k*sz+j=(o+k)*sz+j from by rw [Nat.add_mul],cell_of_row w b _ cs t9 mk hh,Array.getD_eq_getD_getElem?,Array.getElem?_eq_getElem hlt]
    rfl
theorem box_view (ho:∀id o,h id=some o→RepO w gd L id o) (hg:∀b,gd b→gd' b) (hb:∀id o b,h id=some o→L.blk id=some b→gd' b∧b<w.heap.size) {id b:Nat} {l:List AVal} {ds:List D} {tag:Option TypeId} (hbox:h id=some (.box l tag)) (hu:unliftF l=some ds) (hbk:L.blk id=some b) :
  RepD w gd' (.sl ds.length 1 fun _=>ds) (.slice (some ⟨b,0,none⟩) 1 1):=by
 have hro:=ho id _ hbox
 have hl:=unliftF_eq hu
 cases hro with
 | @box _ tag cs t b' htag hb' hh hz h1 hr=>
  rw [hbk] at hb'
  cases hb'
  obtain ⟨g1,g2⟩:=hb id _ b hbox hbk
  have hlen:cs.size=ds.length:=by rw [hz,hl];simp
  refine .sl _ _ _ b 0 1 (fun _ j=>cs.getD j undef) (by omega) (by omega) (by decide) g1 g2 (fun _ _=>rfl) (fun k hk j hj=>?_) (fun k hk j x hx=>?_)
  ·have:k=0:=by omega
   subst this
   rw [show 0+0*ds.length+j=j from by simp,cell_of_row w b _ cs t (0,0) hh,Array.getD_eq_getD_getElem?,Array.getElem?_eq_getElem (by omega)]
   rfl
  ·have:=hr j (.d x) (by rw [hl,List.getElem?_map,hx];rfl)
   cases this with
   |d h=>exact h.mono (Nat.le_refl _) fun b _ hb=>⟨hg b hb,rfl⟩
end
section
variable {P : Program} {T : Tys} {w : World} {gd : Nat → Prop} {L : Lay} {g : Nat → AVal} {h : Nat → Option AObj} {a : Act}
theorem repD_text {gd':Nat→Prop} {src dst e:TypeId} (hs:P.underlying src=some (.slice e)) (he:P.underlying e=some (.int .u8)) (hd:P.underlying dst=some .string) {n:Nat} {f:Nat→List D} {v:Value} (hv:RepD w gd' (.sl 1 n f) v) {l:List UInt8} (hl:l.length=n) (hf:∀k,k<n→f k=bytesF l k) :
  (convert src dst v).run P w=.ok (.string ⟨l.toArray⟩) w:=by
 cases hv with
 |sl0 _ _ A c hc=>
  have:l=[]:=List.eq_nil_of_length_eq_zero hl
  subst this
  cases A with
  |none=>exact run_convert_bytes_nil w src e hs he 0 c dst hd
  |some A=>
   rw [run_convert_bytes_string w src dst e _ 0 c hs he hd]
   have:=run_bytesToString (P:=P) w A 0 c [] (by simp [loadCells,loadCellsFrom])
   rw [this]
   rfl
 |sl _ _ _ b o c cs hn hc hm hg hb hz hcell hrep=>
  have key:=run_convert_bytes_arg (P:=P) w src e hs he b o n c (l.map fun x=>((x.toNat:Nat):Int)) (by simpa using hl) (fun i hi=>by
   have h1:=hcell i hi 0 (by omega)
   have h2:=hrep i hi 0 (.i .u8 ((l.getD i 0).toNat:Nat)) (by rw [hf i hi];rfl)
   have h3:cs i 0=.int .u8 ((l.getD i 0).toNat:Nat):=repA_i (L:=⟨fun _=>none,fun _=>0,fun _=>False⟩) (RepA.d h2)
   rw [h3] at h1
   have e1:o+i*1+0=o+i:=by omega
   rw [e1] at h1
   rw [h1]
   have hi':i<l.length:=by omega
   simp [List.getD_eq_getElem?_getD,hi']) dst hd
  rw [key]
  have:strOfNums (l.map fun x=>((x.toNat:Nat):Int))=⟨l.toArray⟩:=by
   unfold strOfNums
   congr 2
   rw [List.map_map]
   conv=>rhs;rw [←List.map_id l]
   refine List.map_congr_left fun x _=>?_
   simp
  rw [this]
theorem convB_ok (hT:TysOk P T) {src dst e:TypeId} {sz by_ sz' by_' sz2 by2:Nat} {z z' z2:List D} (hs:lookT src T=some ⟨.slice e,sz,by_,z⟩) (hd:lookT dst T=some ⟨.string,sz',by_',z'⟩) (he:lookT e T=some ⟨.int .u8,sz2,by2,z2⟩) {o:Oper} {x:Operand} (ho:o.op=.convert src dst x) {gd':Nat→Prop} {n:Nat} {f:Nat→List D}
  (hv:RepD w gd' (.sl 1 n f) (a.eval x)) {l:List UInt8} (hl:l.length=n) (hf:∀k,k<n→f k=bytesF l k):∃u,(execOp a.eval o).run P w=.ok (.value u) w∧RepA w L gd (.d (.s l)) u:=by
 have:=repD_text (P:=P) ((hT.get hs).slice rfl) ((hT.get he).int rfl) ((hT.get hd).string rfl) hv hl hf
 exact ⟨.string ⟨l.toArray⟩,by simp [execOp,ho,this],.d (.s l)⟩
theorem arrSl_ok (hT:TysOk P T) (H:Holds w gd L g h a) {t e:TypeId} {n sz by_:Nat} {z:List D} (ht:lookT t T=some ⟨.array n e,sz,by_,z⟩) {d:TyD} (he:lookT e T=some d) {x:Operand} {id:Nat} (hx:opnd g x=.ptr id 0) {cells:List AVal} {tag:Option TypeId} (hc:h id=some (.box cells tag)) {ds:List D} (hu:unliftF cells=some ds) (hlen:ds.length=n*d.size) (hn:n≤9223372036854775807)
  {o:Oper} (ho:o.op=.slice t x none none none):(Res.pub id (.d (.sl d.size n fun k=>(ds.drop (k*d.size)).take d.size))).Ok P w gd L g h a o:=by
 have hv:=H.opnd x
 rw [hx] at hv
 generalize hxv:a.eval x=xv at hv
 cases hv with
 | @ptr _ _ _ b hb=>
  have hro:=H.obj id _ hc
  cases hro with
  | @box _ tag cs ty b' htag hb' hh hz h1 hr=>
   rw [hb] at hb'
   cases hb'
   refine ⟨⟨_,hc⟩,.slice (some ⟨b,0,none⟩) n n,?_,fun gd' hg hb=>?_⟩
   ·have hu':=(hT.get ht).array rfl
    have hsz:=(hT.get he).sizeOf w
    by_cases h0:n=0
    ·simp [execOp,ho,hxv,Instr.sliceAt,run_underlying hu',Instr.sureAddr,Instr.sliceBounds,hsz,h0]
    ·simp [execOp,ho,hxv,Instr.sliceAt,run_underlying hu',Instr.sureAddr,Instr.sliceBounds,hsz,h0,Addr.add]
   ·have hl:=unliftF_eq hu
    rename_i hb2
    obtain ⟨g1,g2⟩:=hb b hb2
    have hcs:cs.size=n*d.size:=by rw [hz,hl];simpa using hlen
    by_cases h0:n=0
    ·subst h0
     exact .d (.sl0 _ _ _ _ (by omega))
    ·refine .d (.sl _ _ _ b 0 n (fun k j=>cs.getD (k*d.size+j) undef) (by omega) (Nat.le_refl _) (by unfold maxLen;omega) g1 g2 (fun k hk=>?_) (fun k hk j hj=>?_) (fun k hk j y hy=>?_))
     ·have:=Nat.mul_le_mul_right d.size (show k+1≤n from hk)
      rw [Nat.add_mul] at this
      rw [List.length_take,List.length_drop];omega
     ·have:=Nat.mul_le_mul_right d.size (show k+1≤n from hk)
      rw [Nat.add_mul] at this
      rw [Nat.zero_add,cell_of_row w b _ cs ty (0,0) hh,Array.getD_eq_getD_getElem?,Array.getElem?_eq_getElem (by omega)]
      rfl
     ·rw [List.getElem?_take] at hy
      split at hy
      ·rw [List.getElem?_drop] at hy
       have h3:=hr (k*d.size+j) (.d y) (by rw [hl,List.getElem?_map,hy];rfl)
       cases h3 with
       |d h3=>exact h3.mono (Nat.le_refl _) fun b' _ hb'=>⟨hg b' hb',rfl⟩
      ·cases hy
theorem arrSl2_ok (hT:TysOk P T) (H:Holds w gd L g h a) {t e:TypeId} {n sz by_:Nat} {z:List D} (ht:lookT t T=some ⟨.array n e,sz,by_,z⟩) {d:TyD} (he:lookT e T=some d) {x:Operand} {lo hi:Option Operand} {A B:Nat} (hbd:boundsN n (optI g lo) (optI g hi)=some (A,B)) {id:Nat} (hx:opnd g x=.ptr id 0) {cells:List AVal} {tag:Option TypeId} (hc:h id=some (.box cells tag)) {ds:List D} (hu:unliftF cells=some ds) (hlen:ds.length=n*d.size) (hn:n≤9223372036854775807)
  {o:Oper} (ho:o.op=.slice t x lo hi none):(Res.pub id (.d (.sl d.size (B-A) fun k=>(ds.drop ((A+k)*d.size)).take d.size))).Ok P w gd L g h a o:=by
 obtain ⟨ra,rb,hlo,hhi,eA,eB,hq⟩:=boundsN_ok hbd
 obtain ⟨k1,k2,k3⟩:=bounds_ok (P:=P) (optI_ok H hlo) (optI_ok H hhi) n n (Nat.le_refl _) false w hq
 rw [eA,eB] at k1 k2
 rw [eB] at k3
 have hv:=H.opnd x
 rw [hx] at hv
 generalize hxv:a.eval x=xv at hv
 cases hv with
 | @ptr _ _ _ b hb=>
  have hro:=H.obj id _ hc
  cases hro with
  | @box _ tag cs ty b' htag hb' hh hz h1 hr=>
   rw [hb] at hb'
   cases hb'
   refine ⟨⟨_,hc⟩,.slice (some (if n=A then ⟨b,0,none⟩ else ⟨b,A*d.size,none⟩)) (B-A) (n-A),?_,fun gd' hg hb=>?_⟩
   ·have hu':=(hT.get ht).array rfl
    have hsz:=(hT.get he).sizeOf w
    by_cases h0:n=A
    ·subst h0
     simp [execOp,ho,hxv,Instr.sliceAt,run_underlying hu',Instr.sureAddr,k1,hsz]
    ·simp [execOp,ho,hxv,Instr.sliceAt,run_underlying hu',Instr.sureAddr,k1,hsz,h0,Addr.add]
     try exact fun e=>e.symm
   ·have hl:=unliftF_eq hu
    rename_i hb2
    obtain ⟨g1,g2⟩:=hb b hb2
    have hcs:cs.size=n*d.size:=by rw [hz,hl];simpa using hlen
    by_cases h0:B-A=0
    ·rw [h0]
     exact .d (.sl0 _ _ _ _ (by unfold maxLen;omega))
    ·rw [if_neg (by omega)]
     refine .d (.sl _ _ _ b (A*d.size) _ (fun k j=>cs.getD ((A+k)*d.size+j) undef) (by omega) (by omega) (by unfold maxLen;omega) g1 g2 (fun k hk=>?_) (fun k hk j hj=>?_) (fun k hk j y hy=>?_))
     ·have:=Nat.mul_le_mul_right d.size (show A+k+1≤n by omega)
      rw [Nat.add_mul (A+k)] at this
      rw [List.length_take,List.length_drop];omega
     ·have:=Nat.mul_le_mul_right d.size (show A+k+1≤n by omega)
      rw [Nat.add_mul (A+k)] at this
      rw [←Nat.add_mul,cell_of_row w b _ cs ty (0,0) hh,Array.getD_eq_getD_getElem?,Array.getElem?_eq_getElem (by omega)]
      rfl
     ·rw [List.getElem?_take] at hy
      split at hy
      ·rw [List.getElem?_drop] at hy
       have h3:=hr ((A+k)*d.size+j) (.d y) (by rw [hl,List.getElem?_map,hy];rfl)
       cases h3 with
       |d h3=>exact h3.mono (Nat.le_refl _) fun b' _ hb'=>⟨hg b' hb',rfl⟩
      ·cases hy
end
open Go Go.RowKit Go.MapKept
section
variable {P : Program} {T : Tys} {w : World} {gd : Nat → Prop} {L : Lay} {g : Nat → AVal} {h : Nat → Option AObj} {a : Act}
theorem boxOne_ok (H:Holds w gd L g h a) {t:TypeId} {x:Operand} (hs:(opnd g x).sure=true) {o:Oper} (ho:o.op=.box t x):(Res.new (.box [opnd g x])).Ok P w gd L g h a o:=by
 intro d hf
 have hv:=H.opnd x
 have h1:=repA_one hv hs
 refine box_ok (cs:=(a.eval x).cells) (t:=t) (fun _ h=>by cases h) (by simp [execOp,ho,Instr.box,newVar,newRow]) (by rw [cells_one h1];rfl) (fun i hi=>?_) (fun i y hy=>?_) d (fun i y hy=>?_)
 ·have:i=0:=by simpa using hi
  subst this;rw [cells_one h1];exact h1
 ·cases i with
  |zero=>simp only [List.getElem?_cons_zero,Option.some.injEq] at hy;subst hy;rw [cells_one h1];exact hv
  |succ i=>simp at hy
 ·cases i with
  |zero=>simp only [List.getElem?_cons_zero,Option.some.injEq] at hy;subst hy;exact opnd_free hf x
  |succ i=>simp at hy
theorem sliceLen_ok (hT:TysOk P T) (H:Holds w gd L g h a) {t e:TypeId} {sz by_:Nat} {z:List D} (ht:lookT t T=some ⟨.slice e,sz,by_,z⟩) {x:Operand} {as:Array Operand} {ts:Array TypeId} (has:as.toList=[x]) (hts:ts.toList=[t]) {o:Oper}
  (ho:o.op=.call { callee:=.builtin .len,args:=as,argTypes:=ts}) {n:Nat} (hx:(∃s f,opnd g x=.d (.sl s n f))∨(∃id s q,opnd g x=.rsl id s q n)∨∃c,n=0∧opnd g x=.d (.v (.slice none 0 c))):(Res.val (.d (.i .i64 n))).Ok P w gd L g h a o:=by
 have hv:=H.opnd x
 rcases hx with ⟨s,f,hx⟩|⟨id,s,q,hx⟩|⟨c,hn,hx⟩
 ·rw [hx] at hv
  obtain ⟨A,c,e⟩:=repD_sl_len (repA_sl hv)
  exact lenSl_ok hT ht e has hts ho
 ·rw [hx] at hv
  generalize hxv:a.eval x=xv at hv
  cases hv with
  |rsl hc hb _=>exact lenSl_ok hT ht hxv has hts ho
 ·rw [hx] at hv
  have:=repA_v hv
  rw [←hn] at this
  exact lenSl_ok hT ht this has hts ho
theorem lt_of_heap {w:World} {b:Nat} {o:Obj} (h:w.heap[b]? = some o):b<w.heap.size:=(Array.getElem?_eq_some_iff.1 h).1
theorem clear_ok (hT:TysOk P T) (H:Holds w gd L g h a) {t e:TypeId} {sz0 by_:Nat} {z:List D} (ht:lookT t T=some ⟨.slice e,sz0,by_,z⟩) {d:TyD} (he:lookT e T=some d) {x:Operand} {id sz q n n':Nat} {ty:TypeId} {f:Nat→List D} (hx:opnd g x=.rsl id sz q n) (hid:h id=some (.row ty sz n' f)) (hsz:d.size=sz)
  {as:Array Operand} {ts:Array TypeId} (has:as.toList=[x]) (hts:ts.toList=[t]) {o:Oper} (ho:o.op=.call { callee:=.builtin .clear,args:=as,argTypes:=ts}) :
  (Res.setc id (.row ty sz n' (fun k=>if q≤k∧k<q+n then d.zero else f k)) (q+n≤n'∧0<n')).Ok P w gd L g h a o:=by
 refine ⟨⟨_,hid⟩,?_⟩
 rintro ⟨hon,hpos⟩
 have hd:=hT.get he
 have hu:=(hT.get ht).slice rfl
 obtain ⟨c1,c2⟩:=zeroVal_cells (w:=w) (gd:=gd) hd
 have hzl:=hd.zlen
 have hv:=H.opnd x
 rw [hx] at hv
 generalize hxv:a.eval x=v at hv
 have has':as = #[x]:=by cases as;simp_all
 have hts':ts = #[t]:=by cases ts;simp_all
 cases H.obj id _ hid with
 |row0=>omega
 | @row _ _ _ _ cs b t2 mk hb hh hn hm hz hf hrep hty hmk hcap0=>
  cases hv with
  |rsl hc hbk ha=>
   rename_i ad
   by_cases hn0:n=0
   ·subst hn0
    refine ⟨b,w,hb,.inr ⟨.tuple #[],?_⟩,rfl,rfl,rfl,rfl,fun _ _=>rfl,fun gd' hst htop=>?_⟩
    ·subst has' hts'
     cases ad<;>simp [execOp,ho,builtin,resolve,invoke,hxv,Builtin.clear_,run_underlying hu]
    ·refine .row hb hh hn hm hz (fun k hk=>?_) (fun k hk j y hy=>?_) hty hmk hcap0
     ·rw [if_neg (by omega)];exact hf k hk
     ·rw [if_neg (by omega)] at hy;exact (hrep k hk j y hy).mono (Nat.le_refl _) hst
   ·have hql:q<L.cap id:=by omega
    have had:ad=some ⟨b,q*sz,none⟩:=by rw [ha (.inr hql),hb];rfl
    subst had
    obtain ⟨m,rfl⟩:∃m,n=m+1:=⟨n-1,by omega⟩
    have hzsz:(Builtin.zeroCells d.zeroVal.cells (m+1)).size=(m+1)*sz:=by
     rw [Builtin.zeroCells,Array.size_map,Array.size_range,c1,hzl,hsz]
    have hget:∀k j,k<m+1→j<sz→(Builtin.zeroCells d.zeroVal.cells (m+1)).getD (k*sz+j) undef=d.zeroVal.cells.getD j undef:=by
     intro k j hk hj
     have:=zeros_get d.zeroVal.cells (m+1) k j hk (by omega)
     rw [show d.zeroVal.cells.size=sz from by omega] at this
     rw [←this,Builtin.zeroCells,madeCells,show d.zeroVal.cells.size=sz from by omega]
    have hone:∀u∈(Builtin.zeroCells d.zeroVal.cells (m+1)).toList,u.oneCell'=true:=by
     intro u hu
     obtain ⟨i,hi,rfl⟩:=List.mem_iff_getElem.1 hu
     simp only [Array.length_toList,hzsz] at hi
     have hs0:0<sz:=by
      rcases Nat.eq_zero_or_pos sz with h0|h0
      ·rw [h0] at hi;omega
      ·exact h0
     have e1:=hget (i / sz) (i % sz) (by rw [Nat.div_lt_iff_lt_mul hs0];exact hi) (Nat.mod_lt _ hs0)
     rw [show i / sz*sz+i % sz=i from by rw [Nat.mul_comm];exact Nat.div_add_mod i sz] at e1
     have hi2:i<(Builtin.zeroCells d.zeroVal.cells (m+1)).size:=by rw [hzsz];exact hi
     have e2:(Builtin.zeroCells d.zeroVal.cells (m+1)).getD i undef=(Builtin.zeroCells d.zeroVal.cells (m+1)).toList[i]:=by
      rw [Array.getD_eq_getD_getElem?,Array.getElem?_eq_getElem hi2];simp
     rw [←e2,e1]
     have hj:i % sz<d.zero.length:=by rw [hzl,hsz];exact Nat.mod_lt _ hs0
     obtain ⟨k1,k2,_⟩:=c2 (i % sz) d.zero[i % sz] (List.getElem?_eq_getElem hj)
     rw [k1];exact k2
    have hfit:q*sz+(Builtin.zeroCells d.zeroVal.cells (m+1)).toList.length≤cs.size:=by
     simp only [Array.length_toList,hzsz]
     rw [←Nat.add_mul,hz]
     exact Nat.mul_le_mul_right sz (by omega)
    have hst:=run_storeCells_mk P b (q*sz) t2 mk (Builtin.zeroCells d.zeroVal.cells (m+1)).toList 0 cs w hh (hmk.imp (fun h=>h) fun h=>h.2) (by simpa using hfit) hone
    simp only [Nat.add_zero] at hst
    have hg:=over_getD cs (q*sz) (Builtin.zeroCells d.zeroVal.cells (m+1)).toList hfit
    generalize hcs':(cs.toList.take (q*sz)++(Builtin.zeroCells d.zeroVal.cells (m+1)).toList++cs.toList.drop (q*sz+(Builtin.zeroCells d.zeroVal.cells (m+1)).toList.length)).toArray=cs' at hst hg
    have hsz':cs'.size=cs.size:=by rw [←hcs'];simp;simp at hfit;omega
    refine ⟨b,w.setRow b cs',hb,.inr ⟨.tuple #[],?_⟩,rfl,rfl,rfl,by simp,fun b' hne=>setRow_other w b b' _ hne,fun gd' hst' htop=>?_⟩
    ·subst has' hts'
     simp [execOp,ho,builtin,resolve,invoke,hxv,Builtin.clear_,run_underlying hu,hd.zeroValue w,hst]
    ·refine .row hb (setRow_heap w b cs _ t2 mk hh) hn hm (by omega) (fun k hk=>?_) (fun k hk j y hy=>?_) hty (hmk.imp (fun h=>h) fun h=>⟨h.1,by omega⟩) hcap0
     ·split
      ·rw [hzl,hsz]
      ·exact hf k hk
     ·have hjs:j<sz:=by
       have:=(List.getElem?_eq_some_iff.1 hy).1
       split at this
       ·rw [hzl,hsz] at this;exact this
       ·rw [hf k hk] at this;exact this
      rw [hg]
      simp only [Array.length_toList,hzsz]
      by_cases hc:q≤k∧k<q+(m+1)
      ·rw [if_pos hc] at hy
       have h1:q*sz≤k*sz:=Nat.mul_le_mul_right sz hc.1
       have h2:(k+1)*sz≤(q+(m+1))*sz:=Nat.mul_le_mul_right sz (by omega)
       rw [Nat.add_mul,Nat.add_mul q] at h2
       rw [if_pos ⟨by omega,by omega⟩]
       have e1:=hget (k-q) j (by omega) hjs
       rw [Nat.sub_mul] at e1
       rw [show k*sz+j-q*sz=k*sz-q*sz+j from by omega,show ∀(A:Array Value) i,A.toList.getD i undef=A.getD i undef from fun A i=>by simp [List.getD_eq_getElem?_getD,Array.getD_eq_getD_getElem?],e1]
       obtain ⟨k1,_,k3⟩:=c2 j y hy
       rw [k1]
       exact k3.mono (by simp) hst'
      ·rw [if_neg hc] at hy
       rw [if_neg (fun h3=>hc ?_)]
       ·exact (hrep k hk j y hy).mono (by simp) hst'
       ·obtain ⟨h3,h4⟩:=h3
        refine ⟨Nat.le_of_not_lt fun h5=>?_,Nat.lt_of_not_le fun h5=>?_⟩
        ·have:=Nat.mul_le_mul_right sz (show k+1≤q from h5)
         rw [Nat.add_mul] at this;omega
        ·have:=Nat.mul_le_mul_right sz h5
         rw [Nat.add_mul] at this;omega
theorem bytes_beq' (a b:List UInt8):((⟨a.toArray⟩:ByteArray)==⟨b.toArray⟩)=(a==b):=by
 have h:=bytes_beq ⟨a.toArray⟩ ⟨b.toArray⟩
 by_cases e:a=b
 ·subst e
  rw [show (a==a)=true from beq_self_eq_true a]
  exact h.2 rfl
 ·rw [show (a==b)=false from beq_eq_false_iff_ne.2 e]
  rw [Bool.eq_false_iff]
  intro hc
  have:=h.1 hc
  simp at this
  exact e this
theorem keyEq_ok {d:TypeDesc} {k k':D} {b:Bool} (h:keyEq k k'=some b) {v v':Value} (hv:keyV k=some v) (hv':keyV k'=some v') (hk:IsKey d v):Instr.sameNow d v v'=some b∧(b=true→v=v'):=by
 cases k<;>cases k'<;>simp only [keyEq] at h<;>try (cases h;done)
 ·rename_i k a k' a'
  cases hq:kEq k k' with
  |false=>rw [hq] at h;cases h
  |true=>
   rw [hq] at h
   simp only [Option.some.injEq] at h
   have:=kEq_eq hq
   subst this
   simp only [keyV,Option.some.injEq] at hv hv'
   subst hv
   subst hv'
   cases d<;>simp [IsKey] at hk
   refine ⟨by simp [Instr.sameNow,h],fun hb=>?_⟩
   rw [hb] at h
   rw [beq_iff_eq.1 h]
 ·rename_i a a'
  simp only [Option.some.injEq] at h
  simp only [keyV,Option.some.injEq] at hv hv'
  subst hv
  subst hv'
  cases d<;>simp [IsKey] at hk
  refine ⟨by simp only [Instr.sameNow];rw [bytes_beq',h],fun hb=>?_⟩
  rw [hb] at h
  rw [beq_iff_eq.1 h]
theorem findM_ok {d:TypeDesc} {k:D} {v:Value} (hv:keyV k=some v) (hk:IsKey d v):∀{l:List (D×AVal)} {es:List MapEntry} {i:Nat} {r:Option (Nat×AVal)},findM k l i=some r→es.length=l.length→
  (∀(j:Nat) (x:D×AVal) (e:MapEntry),l[j]? = some x→es[j]? = some e→keyV x.1=some e.key)→
  (r=none∧Instr.findNow d v es i=some none)∨∃(j:Nat) (x:D×AVal) (e:MapEntry),r=some (i+j,x.2)∧l[j]? = some x∧es[j]? = some e∧Instr.findNow d v es i=some (some (i+j,e.val))∧e.key=v
 | [],es,i,r,h,hz,hks=>by
  simp only [findM,Option.some.injEq] at h
  cases es with
  |nil=>exact .inl ⟨h.symm,rfl⟩
  |cons=>simp at hz
 |(k',x)::l,es,i,r,h,hz,hks=>by
  cases es with
  |nil=>simp at hz
  |cons e es=>
   have h0:=hks 0 (k',x) e rfl rfl
   simp only [findM] at h
   cases hq:keyEq k k' with
   |none=>rw [hq] at h;cases h
   |some b=>
    rw [hq] at h
    obtain ⟨s1,s2⟩:=keyEq_ok hq hv h0 hk
    cases b with
    |true=>
     simp only [Option.some.injEq] at h
     subst h
     exact .inr ⟨0,(k',x),e,rfl,rfl,rfl,by simp [Instr.findNow,s1],(s2 rfl).symm⟩
    |false=>
     simp only at h
     rcases findM_ok hv hk h (by simpa using hz) (fun j x e hx he=>hks (j+1) x e (by simpa using hx) (by simpa using he)) with ⟨h1,h2⟩|⟨j,y,e',h1,h2,h3,h4,h5⟩
     ·exact .inl ⟨h1,by simp [Instr.findNow,s1,h2]⟩
     ·exact .inr ⟨j+1,y,e',by rw [h1];simp;omega,by simpa using h2,by simpa using h3,by simp [Instr.findNow,s1,h4];omega,h5⟩
theorem aMap_ok (hT:TysOk P T) (H:Holds w gd L g h a) {t:TypeId} {m k:Operand} {id:Nat} {et:TypeId} {kd:D} {l:List (D×AVal)} (hm:aMap T h t (opnd g m) (opnd g k)=some (id,et,kd,l)) :
  ∃(kt:TypeId) (d:TypeDesc) (b:Nat) (es:Array MapEntry) (clock:Nat) (v:Value),P.underlying t=some (.map kt et)∧P.underlying kt=some d∧h id=some (.mp l)∧L.blk id=some b∧w.heap[b]? = some (.map es clock)∧a.eval m=.map (some b)∧
   a.eval k=v∧keyV kd=some v∧IsKey d v∧RepO w gd L id (.mp l)∧es.toList.length=l.length∧(∀(i:Nat) (x:D×AVal) (e:MapEntry),l[i]? = some x→es.toList[i]? = some e→keyV x.1=some e.key):=by
 unfold aMap at hm
 split at hm
 ·rename_i kt et' sz by_ z ht
  split at hm
  ·rename_i dk hkt
   split at hm
   ·rename_i id' em
    split at hm
    ·rename_i l' hid
     split at hm
     ·rename_i k' ek
      split at hm
      ·rename_i hkk
       simp only [Option.some.injEq,Prod.mk.injEq] at hm
       obtain ⟨rfl,rfl,rfl,rfl⟩:=hm
       have hmv:=H.opnd m
       rw [em] at hmv
       have hkv:=H.opnd k
       rw [ek] at hkv
       have ho:=H.obj _ _ hid
       have hu:=(hT.get ht).map rfl
       obtain ⟨u,hu1,hu2⟩:=(hT.get hkt).und
       generalize hme:a.eval m=mv at hmv
       generalize hke:a.eval k=kv at hkv
       cases hmv with
       |mref hb=>
        rename_i b
        cases hkv with
        |d hkv=>
         cases ho with
         |mp hb' hh hz hk h1 hr=>
          rename_i es clock b'
          rw [hb] at hb'
          cases hb'
          have hkey:keyV k'=some kv∧IsKey u kv:=by
           rw [←hu2] at hkk
           cases u<;>cases hkv<;>simp only [kindOf,keyK] at hkk<;>first|(cases hkk;done)|skip
           ·exact ⟨rfl,(kEq_eq hkk).symm⟩
           ·exact ⟨rfl,trivial⟩
          exact ⟨kt,u,b,es,clock,kv,hu,hu1,hid,hb,hh,rfl,rfl,hkey.1,hkey.2,.mp hb hh hz hk h1 hr,by simpa using hz,fun i x e hx he=>hk i x e hx (by simpa using he)⟩
      ·cases hm
     ·cases hm
    ·cases hm
   ·cases hm
  ·cases hm
 ·cases hm
theorem mapSet_ok (hT:TysOk P T) (H:Holds w gd L g h a) {t:TypeId} {m k x:Operand} {id:Nat} {et:TypeId} {kd:D} {l:List (D×AVal)} (hm:aMap T h t (opnd g m) (opnd g k)=some (id,et,kd,l)) (hs:(opnd g x).sure=true) {f:Option (Nat×AVal)} (hf:findM kd l 0=some f)
  {o:Oper} (ho:o.op=.mapUpdate t m k x∨o.op=.insert t m k x) :
  (Res.set id (.mp (match f with|some (i,_)=>l.set i (kd,opnd g x)|none=>l++[(kd,opnd g x)]))).Ok P w gd L g h a o:=by
 obtain ⟨kt,d,b,es,clock,v,hu,hd,hid,hb,hh,em,ek,hv,hk,hro,hz,hks⟩:=aMap_ok hT H hm
 have hxv:=H.opnd x
 have hx1:=repA_one hxv hs
 refine ⟨⟨_,hid⟩,?_⟩
 cases hro with
 |mp hb' hh' hz' hk' h1 hr=>
  rename_i es2 clock2 b2
  rw [hb] at hb'
  cases hb'
  rw [hh] at hh'
  cases hh'
  have hex:(execOp a.eval o)=(do Instr.mapUpdate t (a.eval m) (a.eval k) (a.eval x);pure .skip):=by
   rcases ho with ho|ho<;>simp [execOp,ho]
  have hlt:b<w.heap.size:=lt_of_heap hh
  have fin:∀(es':Array MapEntry) (c':Nat) (l':List (D×AVal)),(Instr.mapUpdate t (.map (some b)) v (a.eval x)).run P w=.ok () { w with heap:=w.heap.setIfInBounds b (.map es' c')}→es'.size=l'.length→
    (∀(i:Nat) (x:D×AVal) (e:MapEntry),l'[i]? = some x→es'[i]? = some e→keyV x.1=some e.key)→(∀(i:Nat) (e:MapEntry),es'[i]? = some e→e.val.oneCell'=true)→
    (∀(i:Nat) (x:D×AVal) (e:MapEntry),l'[i]? = some x→es'[i]? = some e→RepA w L gd x.2 e.val)→WritesOk P w gd L a o id (.mp l'):=by
   intro es' c' l' hrun hz2 hk2 h12 hr2
   refine ⟨b,{ w with heap:=w.heap.setIfInBounds b (.map es' c')},hb,.inl ?_,rfl,rfl,rfl,by simp,fun b' hne=>by simp [Ne.symm hne],fun gd' hst htop=>?_⟩
   ·rw [hex,em,ek]
    simp [hrun,Result.andThen]
   ·refine .mp (es:=es') (clock:=c') hb (by simp [hlt]) hz2 hk2 h12 fun i x e hx he=>(hr2 i x e hx he).mono1 (by simp) hst htop
  rcases findM_ok hv hk hf hz hks with ⟨rfl,h2⟩|⟨j,y,e,rfl,h2,h3,h4,h5⟩
  ·refine fin (es.push { key:=v,val:=a.eval x,born:=clock}) (clock+1) _ ?_ (by simp [hz']) (fun i y e hy he=>?_) (fun i e he=>?_) (fun i y e hy he=>?_)
   ·simp [Instr.mapUpdate,run_underlying hu,run_getObj_map hh,run_checkKey hd hk,run_findKey hd h2,run_setObj_map _ hh,Result.andThen]
   all_goals (rw [Array.getElem?_push] at he)
   ·by_cases hi:i=es.size
    ·rw [if_pos hi] at he
     cases he
     rw [hi,hz',List.getElem?_append_right (Nat.le_refl _)] at hy
     simp only [Nat.sub_self,List.getElem?_cons_zero,Option.some.injEq] at hy
     rw [←hy]
     exact hv
    ·rw [if_neg hi] at he
     have hlt2:i<l.length:=by rw [←hz'];exact (Array.getElem?_eq_some_iff.1 he).1
     rw [List.getElem?_append_left hlt2] at hy
     exact hk' i y e hy he
   ·by_cases hi:i=es.size
    ·rw [if_pos hi] at he
     cases he
     exact hx1
    ·rw [if_neg hi] at he
     exact h1 i e he
   ·by_cases hi:i=es.size
    ·rw [if_pos hi] at he
     cases he
     rw [hi,hz',List.getElem?_append_right (Nat.le_refl _)] at hy
     simp only [Nat.sub_self,List.getElem?_cons_zero,Option.some.injEq] at hy
     rw [←hy]
     exact hxv
    ·rw [if_neg hi] at he
     have hlt2:i<l.length:=by rw [←hz'];exact (Array.getElem?_eq_some_iff.1 he).1
     rw [List.getElem?_append_left hlt2] at hy
     exact hr i y e hy he
  ·simp only [Nat.zero_add] at h4 ⊢
   have h3':es[j]? = some e:=by simpa using h3
   have hjl:j<l.length:=(List.getElem?_eq_some_iff.1 h2).1
   refine fin (es.modify j fun e=>{ e with key:=v,val:=a.eval x}) clock _ ?_ (by simp [hz']) (fun i y e' hy he=>?_) (fun i e' he=>?_) (fun i y e' hy he=>?_)
   ·simp [Instr.mapUpdate,run_underlying hu,run_getObj_map hh,run_checkKey hd hk,run_findKey hd h4,h3',h5,run_keyThatStays hk,run_setObj_map _ hh,Result.andThen]
   all_goals (rw [Array.getElem?_modify] at he)
   ·by_cases hi:j=i
    ·subst hi
     rw [if_pos rfl,h3'] at he
     simp only [Option.map_some,Option.some.injEq] at he
     rw [List.getElem?_set_self hjl] at hy
     cases hy
     rw [←he]
     exact hv
    ·rw [if_neg hi] at he
     rw [List.getElem?_set_ne hi] at hy
     exact hk' i y e' hy he
   ·by_cases hi:j=i
    ·subst hi
     rw [if_pos rfl,h3'] at he
     simp only [Option.map_some,Option.some.injEq] at he
     rw [←he]
     exact hx1
    ·rw [if_neg hi] at he
     exact h1 i e' he
   ·by_cases hi:j=i
    ·subst hi
     rw [if_pos rfl,h3'] at he
     simp only [Option.map_some,Option.some.injEq] at he
     rw [List.getElem?_set_self hjl] at hy
     cases hy
     rw [←he]
     exact hxv
    ·rw [if_neg hi] at he
     rw [List.getElem?_set_ne hi] at hy
     exact hr i y e' hy he
theorem mapDel_ok (hT:TysOk P T) (H:Holds w gd L g h a) {t t':TypeId} {m k:Operand} {id:Nat} {et:TypeId} {kd:D} {l:List (D×AVal)} (hm:aMap T h t (opnd g m) (opnd g k)=some (id,et,kd,l)) {f:Option (Nat×AVal)} (hf:findM kd l 0=some f)
  {as:Array Operand} {ts:Array TypeId} (has:as.toList=[m,k]) (hts:ts.toList=[t,t']) {o:Oper} (ho:o.op=.call { callee:=.builtin .delete,args:=as,argTypes:=ts}) :
  (Res.set id (.mp (match f with|some (i,_)=>l.eraseIdx i|none=>l))).Ok P w gd L g h a o:=by
 obtain ⟨kt,d,b,es,clock,v,hu,hd,hid,hb,hh,em,ek,hv,hk,hro,hz,hks⟩:=aMap_ok hT H hm
 have has':as = #[m,k]:=by cases as;simp_all
 have hts':ts = #[t,t']:=by cases ts;simp_all
 refine ⟨⟨_,hid⟩,?_⟩
 cases hro with
 |mp hb' hh' hz' hk' h1 hr=>
  rename_i es2 clock2 b2
  rw [hb] at hb'
  cases hb'
  rw [hh] at hh'
  cases hh'
  have hlt:b<w.heap.size:=lt_of_heap hh
  have fin:∀(es':Array MapEntry) (l':List (D×AVal)),(Builtin.delete_ #[t,t'] o.type #[.map (some b),v]).run P w=.ok (.tuple #[]) { w with heap:=w.heap.setIfInBounds b (.map es' clock)}→es'.size=l'.length→
    (∀(i:Nat) (x:D×AVal) (e:MapEntry),l'[i]? = some x→es'[i]? = some e→keyV x.1=some e.key)→(∀(i:Nat) (e:MapEntry),es'[i]? = some e→e.val.oneCell'=true)→
    (∀(i:Nat) (x:D×AVal) (e:MapEntry),l'[i]? = some x→es'[i]? = some e→RepA w L gd x.2 e.val)→WritesOk P w gd L a o id (.mp l'):=by
   intro es' l' hrun hz2 hk2 h12 hr2
   refine ⟨b,{ w with heap:=w.heap.setIfInBounds b (.map es' clock)},hb,.inr ⟨.tuple #[],?_⟩,rfl,rfl,rfl,by simp,fun b' hne=>by simp [Ne.symm hne],fun gd' hst htop=>?_⟩
   ·subst has' hts'
    simp [execOp,ho,builtin,resolve,invoke,em,ek,hrun]
   ·refine .mp (es:=es') (clock:=clock) hb (by simp [hlt]) hz2 hk2 h12 fun i x e hx he=>(hr2 i x e hx he).mono1 (by simp) hst htop
  rcases findM_ok hv hk hf hz hks with ⟨rfl,h2⟩|⟨j,y,e,rfl,h2,h3,h4,h5⟩
  ·refine fin es l ?_ hz' hk' h1 hr
   simp [Builtin.delete_,run_underlying hu,run_getObj_map hh,run_checkKey hd hk,run_findKey hd h2,run_setObj_map _ hh,Result.andThen]
  ·simp only [Nat.zero_add] at h4 ⊢
   have h3':es[j]? = some e:=by simpa using h3
   have hj:j<es.size:=(Array.getElem?_eq_some_iff.1 h3').1
   have hg:∀i:Nat,(es.eraseIdxIfInBounds j)[i]? = (es.toList.eraseIdx j)[i]?:=by
    intro i
    rw [Array.eraseIdxIfInBounds,dif_pos hj,←Array.getElem?_toList,Array.toList_eraseIdx]
   have hpr:∀(i:Nat) (x:D×AVal) (e:MapEntry),(l.eraseIdx j)[i]? = some x→(es.eraseIdxIfInBounds j)[i]? = some e→∃q:Nat,l[q]? = some x∧es[q]? = some e:=by
    intro i x e hx he
    rw [hg] at he
    rw [List.getElem?_eraseIdx] at hx he
    split at hx
    ·rw [if_pos (by assumption)] at he
     exact ⟨i,hx,by simpa using he⟩
    ·rw [if_neg (by assumption)] at he
     exact ⟨i+1,hx,by simpa using he⟩
   refine fin (es.eraseIdxIfInBounds j) _ ?_ ?_ (fun i x e hx he=>?_) (fun i e he=>?_) (fun i x e hx he=>?_)
   ·simp [Builtin.delete_,run_underlying hu,run_getObj_map hh,run_checkKey hd hk,run_findKey hd h4,run_setObj_map _ hh,Result.andThen]
   ·rw [Array.eraseIdxIfInBounds,dif_pos hj,Array.size_eraseIdx,List.length_eraseIdx,if_pos (by omega),hz']
   ·obtain ⟨q,q1,q2⟩:=hpr i x e hx he
    exact hk' q x e q1 q2
   ·rw [hg,List.getElem?_eraseIdx] at he
    split at he
    ·exact h1 i e (by simpa using he)
    ·exact h1 (i+1) e (by simpa using he)
   ·obtain ⟨q,q1,q2⟩:=hpr i x e hx he
    exact hr q x e q1 q2
def getM (z:D) (f:Option (Nat×AVal)):AVal:=match f with|some (_,v)=>v|none=>.d z
def isM (f:Option (Nat×AVal)):Bool:=match f with|some _=>true|none=>false
theorem mapGet_ok (hT:TysOk P T) (H:Holds w gd L g h a) {t:TypeId} {m k:Operand} {ok:Bool} {id:Nat} {et:TypeId} {kd z:D} {l:List (D×AVal)} (hm:aMap T h t (opnd g m) (opnd g k)=some (id,et,kd,l)) {d:TyD} (he:lookT et T=some d) (hs:isStr d.kind=false) (hz0:d.zero=[z]) {f:Option (Nat×AVal)} (hf:findM kd l 0=some f)
  {o:Oper} (ho:o.op=.lookup t m k ok):(Res.val (okM ok (getM z f) (isM f))).Ok P w gd L g h a o:=by
 obtain ⟨kt,kd',b,es,clock,v,hu,hd,hid,hb,hh,em,ek,hv,hk,hro,hz,hks⟩:=aMap_ok hT H hm
 have hde:=hT.get he
 cases hro with
 |mp hb' hh' hz' hk' h1 hr=>
  rename_i es2 clock2 b2
  rw [hb] at hb'
  cases hb'
  rw [hh] at hh'
  cases hh'
  have hzv:d.zeroVal=z.val:=by
   unfold TyD.zeroVal
   rw [hs,hz0]
  have hzr:RepD w gd z z.val:=by
   have:=hde.zone
   rw [hz0] at this
   simp only [List.all_cons,List.all_nil,Bool.and_true] at this
   exact dval_rep this
  have key:∃u,(Instr.lookup t (.map (some b)) v ok).run P w=.ok (if ok then .tuple #[u,.bool (isM f)] else u) w∧RepA w L gd (getM z f) u:=by
   rcases findM_ok hv hk hf hz hks with ⟨rfl,h2⟩|⟨j,y,e,rfl,h2,h3,h4,h5⟩
   ·refine ⟨z.val,?_,.d hzr⟩
    simp [Instr.lookup,run_underlying hu,run_getObj_map hh,run_checkKey hd hk,run_findKey hd h2,Result.andThen,hde.zeroValue w,hzv,isM]
   ·refine ⟨e.val,?_,hr j y e h2 (by simpa using h3)⟩
    simp [Instr.lookup,run_underlying hu,run_getObj_map hh,run_checkKey hd hk,run_findKey hd h4,Result.andThen,isM]
  obtain ⟨u,hrun,hrep⟩:=key
  cases ok with
  |true=>
   refine ⟨.tuple #[u,.bool (isM f)],?_,.tup rfl fun i x hx=>?_⟩
   ·simp only [if_true] at hrun
    simp [execOp,ho,em,ek,hrun]
   ·match i,x,hx with
    |0,_,rfl=>exact hrep
    |1,_,rfl=>exact .d (.b _)
  |false=>
   refine ⟨u,?_,hrep⟩
   simp only [Bool.false_eq_true,if_false] at hrun
   simp [execOp,ho,em,ek,hrun]
theorem lenMap_ok (hT:TysOk P T) (H:Holds w gd L g h a) {t kt et:TypeId} {sz by_:Nat} {z:List D} (ht:lookT t T=some ⟨.map kt et,sz,by_,z⟩) {x:Operand} {id:Nat} {l:List (D×AVal)} (hx:opnd g x=.mref id) (hid:h id=some (.mp l))
  {as:Array Operand} {ts:Array TypeId} (has:as.toList=[x]) (hts:ts.toList=[t]) {o:Oper} (ho:o.op=.call { callee:=.builtin .len,args:=as,argTypes:=ts}):(Res.val (.d (.i .i64 l.length))).Ok P w gd L g h a o:=by
 have has':as = #[x]:=by cases as;simp_all
 have hts':ts = #[t]:=by cases ts;simp_all
 have hu:=(hT.get ht).map rfl
 have hv:=H.opnd x
 rw [hx] at hv
 have ho2:=H.obj _ _ hid
 generalize hxv:a.eval x=xv at hv
 cases hv with
 |mref hb=>
  cases ho2 with
  |mp hb' hh hz hk h1 hr=>
   rw [hb] at hb'
   cases hb'
   subst has' hts'
   refine ⟨.int .i64 l.length,?_,.d (.i _ _)⟩
   simp [execOp,ho,builtin,resolve,invoke,hxv,Builtin.len_,run_underlying hu,run_getObj_map hh,goInt,hz]
theorem aop0_ok (hT:TysOk P T) (H:Holds w gd L g h a) {o:Oper} {r:Res} (hr:aop0 T g h o.op=some r):r.Ok P w gd L g h a o:=by
 generalize hop:o.op=op at hr
 unfold aop0 at hr
 split at hr
 ·cases hr;exact ⟨_,by simp [execOp,hop],H.opnd _⟩
 ·cases hr;exact ⟨_,by simp [execOp,hop],H.opnd _⟩
 ·
  split at hr
  ·rename_i e
   cases hr
   have:=repA_b (e▸H.opnd _)
   exact ⟨_,by simp [execOp,hop,this,asBool],H.opnd _⟩
  ·rename_i e
   cases hr
   have:=repA_b (e▸H.opnd _)
   exact ⟨_,by simp [execOp,hop,this,asBool],H.opnd _⟩
  ·cases hr
 ·
  rename_i t x
  split at hr
  ·rename_i l e
   cases hr
   intro d hf
   obtain ⟨vs,hv,k1,k2,k3⟩:=repA_agg (e▸H.opnd x)
   exact box_ok (cs:=vs) (t:=t) (fun _ h=>by cases h) (by simp [execOp,hop,Instr.box,newVar,newRow,hv,Value.cells]) k1 k2 k3 d (fun i y hy=>by
    have:=opnd_free hf x
    rw [e] at this
    exact AVal.freeL_get this i y hy)
  ·cases hr
  ·cases hr
  ·rename_i v e1 e2 e3
   cases hr
   refine boxOne_ok H ?_ hop
   cases hv:opnd g x with
   |any=>exact (e2 hv).elim
   |agg l=>exact (e1 l hv).elim
   |tup l=>exact (e3 l hv).elim
   |_=>rfl
 ·
  rename_i t
  split at hr
  ·rename_i d ht
   split at hr
   ·rename_i l hl
    cases hr
    have hd:=hT.get ht
    obtain ⟨c1,c2⟩:=zeroVal_cells (w:=w) (gd:=gd) hd
    have hl':=liftF_eq hl
    have hget:∀(i:Nat) (x:AVal),l[i]? = some x→∃y,d.zero[i]? = some y∧x=.d y:=by
     intro i x hx
     rw [hl',List.getElem?_map] at hx
     cases hy:d.zero[i]? with
     |none=>rw [hy] at hx;cases hx
     |some y=>rw [hy] at hx;simp only [Option.map_some,Option.some.injEq] at hx;exact ⟨y,rfl,hx.symm⟩
    intro id hf
    refine box_ok (cs:=d.zeroVal.cells) (t:=t) (fun t' h=>by unfold tagOf at h;split at h<;>cases h;rfl) (by simp [execOp,hop,Instr.alloc,hd.zeroValue w,newVar,newRow]) (by rw [c1,hl'];simp) (fun i hi=>?_) (fun i x hx=>?_) id (fun i x hx=>?_)
    ·obtain ⟨y,hy,_⟩:=hget i l[i] (List.getElem?_eq_getElem hi)
     obtain ⟨e1,e2,_⟩:=c2 i y hy
     rw [e1];exact e2
    ·obtain ⟨y,hy,rfl⟩:=hget i x hx
     obtain ⟨e1,_,e3⟩:=c2 i y hy
     rw [e1];exact .d e3
    ·obtain ⟨y,hy,rfl⟩:=hget i x hx
     rfl
   ·cases hr
  ·cases hr
 ·
  split at hr
  ·rename_i fs _ _ z ht
   split at hr
   ·rename_i l hl
    split at hr
    ·rename_i l' hp
     split at hr
     ·rename_i l'' hs
      cases hr
      rw [strictL_eq hs]
      exact build_ok hT H ht hl hp hop
     ·cases hr
    ·cases hr
   ·cases hr
  ·rename_i n e _ _ z ht
   split at hr
   ·rename_i de he
    split at hr
    ·rename_i l hl
     split at hr
     ·rename_i l' hp
      split at hr
      ·rename_i l'' hs
       cases hr
       rw [strictL_eq hs]
       exact buildA_ok hT H ht he hl hp hop
      ·cases hr
     ·cases hr
    ·cases hr
   ·cases hr
  ·cases hr
 ·
  split at hr
  ·rename_i d ht;exact aLoad_ok hT H ht hr hop
  ·cases hr
 ·
  split at hr
  ·rename_i d ht;exact aStore_ok hT H ht hr hop
  ·cases hr
 ·
  split at hr
  ·rename_i fs _ _ z ht
   split at hr
   ·rename_i hf
    split at hr
    ·cases hr
    ·split at hr
     ·rename_i v hv
      cases hr
      exact fieldAddr_ok hT H ht hf hv hop
     ·cases hr
   ·cases hr
  ·cases hr
 ·
  split at hr
  ·rename_i e _ _ z ht
   split at hr
   ·rename_i d he;exact indexAddr_ok hT H ht he hr hop
   ·cases hr
  ·rename_i ht
   split at hr
   ·rename_i he hx hk;cases hr;exact indexArr_ok hT H ht he hx hk hop
   ·rename_i he hx hk;cases hr;exact indexArrE_ok hT H ht he hx hk hop
   ·rename_i he hx hk;cases hr;exact indexArrR_ok hT H ht he hx hk hop
   ·cases hr
  ·cases hr
 ·
  split at hr
  ·rename_i fs _ _ z ht
   split at hr
   ·rename_i hf
    split at hr
    ·rename_i d l hft hx
     split at hr
     ·rename_i v hv
      cases hr
      exact field_ok hT H ht hf hft hx hv hop
     ·cases hr
    ·cases hr
   ·cases hr
  ·cases hr
 ·
  split at hr
  ·rename_i _ _ z ht
   split at hr
   ·rename_i l kk n e1 e2
    cases hr
    exact index_ok hT H ht e1 e2 hop
   ·cases hr
  ·cases hr
 ·
  rename_i x
  have hv:=H.opnd x
  generalize hxv:a.eval x=xv at hv
  split at hr
  all_goals first
   |(rename_i e;cases hr;rw [e] at hv;cases hv;exact ⟨_,by simp [execOp,hop,hxv];rfl,by rw [←hxv,←e];exact H.opnd x⟩)
   |(rename_i e;cases hr;rw [e] at hv;cases hv;rename_i hv;cases hv;exact ⟨_,by simp [execOp,hop,hxv];rfl,by rw [←hxv,←e];exact H.opnd x⟩)
   |(cases hr;done)
 ·
  rename_i t m k ok
  split at hr
  ·rename_i hm
   split at hr
   ·rename_i he
    split at hr
    ·rename_i hs
     split at hr
     ·rename_i hz
      split at hr
      ·rename_i hf
       have key:=mapGet_ok hT H hm he hs hz hf hop
       cases ok<;>(cases hr;exact key)
      ·rename_i hf
       have key:=mapGet_ok hT H hm he hs hz hf hop
       cases ok<;>(cases hr;exact key)
      ·cases hr
     ·cases hr
    ·cases hr
   ·cases hr
  ·cases hr
 ·
  split at hr
  ·rename_i hm
   split at hr
   ·rename_i hs
    split at hr
    ·rename_i hf;cases hr;exact mapSet_ok hT H hm hs hf (.inl hop)
    ·rename_i hf;cases hr;exact mapSet_ok hT H hm hs hf (.inl hop)
    ·cases hr
   ·cases hr
  ·cases hr
 ·
  split at hr
  ·rename_i hm
   split at hr
   ·rename_i hs
    split at hr
    ·rename_i hf;cases hr;exact mapSet_ok hT H hm hs hf (.inr hop)
    ·rename_i hf;cases hr;exact mapSet_ok hT H hm hs hf (.inr hop)
    ·cases hr
   ·cases hr
  ·cases hr
 ·
  split at hr
  ·rename_i has hts
   split at hr
   ·rename_i hm
    split at hr
    ·rename_i hf;cases hr;exact mapDel_ok hT H hm hf has hts hop
    ·rename_i hf;cases hr;exact mapDel_ok hT H hm hf has hts hop
    ·cases hr
   ·cases hr
  ·cases hr
 ·
  split at hr
  ·rename_i hy
   split at hr
   ·rename_i ht;exact nilP_ok hT H ht hy hr hop
   ·cases hr
  split at hr
  ·rename_i hy
   split at hr
   ·rename_i ht;exact nil_ok hT H ht hy hr hop
   ·cases hr
  ·split at hr
   ·rename_i l hx
    split at hr
    ·rename_i m hy;exact cmp_ok hT H hx hy hr hop
    ·cases hr
   ·rename_i b1 hx
    split at hr
    ·rename_i b2 hy
     split at hr
     ·rename_i ht
      have hu:=(hT.get ht).bool rfl
      have hxv:=repA_b (hx▸H.opnd _)
      have hyv:=repA_b (hy▸H.opnd _)
      split at hr<;>first|(cases hr;done)|(simp only [Option.some.injEq] at hr;subst hr)
      ·exact ⟨.bool (b1==b2),bin_run hop hxv hyv rfl (by simp [binOp,run_equal_bool w _ b1 b2 hu]),.d (.b _)⟩
      ·exact ⟨.bool (b1 != b2),bin_run hop hxv hyv rfl (by simp [binOp,run_equal_bool w _ b1 b2 hu,bne]),.d (.b _)⟩
     ·cases hr
    ·cases hr
   ·exact aBin_ok H hr hop
 ·
  split at hr
  ·rename_i e;cases hr;exact unNot_ok H e hop
  ·cases hr
 ·
  split at hr
  ·rename_i e;cases hr;exact unNeg_ok H e hop
  ·cases hr
 ·
  split at hr
  ·rename_i e
   cases hr
   have:=repA_i (e▸H.opnd _)
   exact ⟨_,by simp [execOp,hop,this,Op.unary,Op.intBits,bitsOp],.d (.i _ _)⟩
  ·cases hr
 ·
  split at hr
  ·rename_i e1 e2 e3;cases hr;exact convInt_ok hT H e1 e2 e3 hop
  ·rename_i e1 e2 e3;cases hr;exact convStr_ok hT H e1 e2 e3 hop
  ·rename_i e1 e2 e3
   split at hr
   ·rename_i e4
    split at hr
    ·rename_i hb
     cases hr
     have hz:=Nat.eq_of_beq_eq_true hb
     subst hz
     intro l ⟨q1,q2⟩
     have hv:=H.opnd ‹Operand›
     rw [e3] at hv
     exact convB_ok hT e1 e2 e4 hop (repA_sl hv) q1 q2
    ·cases hr
   ·cases hr
  ·rename_i e1 e2 e3
   split at hr
   ·rename_i e4
    cases hr
    have hv:=repA_v (e3▸H.opnd _)
    have hrun:=fun c=>run_convert_bytes_nil (P:=P) w _ _ ((hT.get e1).slice rfl) ((hT.get e4).int rfl) 0 c _ ((hT.get e2).string rfl)
    exact ⟨.string ⟨#[]⟩,by simp [execOp,hop,hv,hrun];rfl,.d (.s [])⟩
   ·cases hr
  ·rename_i e1 e2 e3
   split at hr
   ·rename_i e4
    split at hr
    ·rename_i hrow
     split at hr
     ·rename_i hb
      split at hr
      ·rename_i hb2
       cases hr
       have hz:=Nat.eq_of_beq_eq_true hb
       subst hz
       have hz2:=Nat.eq_of_beq_eq_true hb2
       subst hz2
       intro l ⟨q1,q2,q3⟩
       have hv:=H.opnd ‹Operand›
       rw [e3] at hv
       have:=row_view (gd':=fun b=>b<w.heap.size∨gd b) (h:=h) (fun i o e=>H.obj i o e) (fun b hb=>.inr hb) (fun i o b e1 e2=>?_) hrow q2 hv
       ·exact convB_ok hT e1 e2 e4 hop this q1 q3
       ·have hlt:b<w.heap.size:=by
         have hro:=H.obj i o e1
         cases hro with
         |box _ hb1 hh=>rw [e2] at hb1;cases hb1;exact lt_of_heap hh
         |row0 hb1=>rw [e2] at hb1;cases hb1
         |mp hb1 hh=>rw [e2] at hb1;cases hb1;exact lt_of_heap hh
         |vrow0 hb1=>rw [e2] at hb1;cases hb1
         |vrow hb1 hh=>rw [e2] at hb1;cases hb1;exact lt_of_heap hh
         |dmp hb1 hh=>rw [e2] at hb1;cases hb1;exact lt_of_heap hh
         |row hb1 hh=>rw [e2] at hb1;cases hb1;exact lt_of_heap hh
        exact ⟨.inl hlt,hlt⟩
      ·cases hr
     ·cases hr
    ·cases hr
   ·cases hr
  ·cases hr
 ·
  split at hr
  ·rename_i ht
   split at hr
   ·rename_i he hx
    split at hr
    ·rename_i hc
     split at hr
     ·rename_i hu
      split at hr
      ·rename_i hb
       split at hr
       ·rename_i hn
        cases hr
        exact arrSl_ok hT H ht he hx hc hu (Nat.eq_of_beq_eq_true hb) (Nat.le_of_ble_eq_true hn) hop
       ·cases hr
      ·cases hr
     ·cases hr
    ·cases hr
   ·rename_i he hx
    split at hr
    ·rename_i hbd
     split at hr
     ·rename_i hc
      split at hr
      ·rename_i hu
       split at hr
       ·rename_i hb
        split at hr
        ·rename_i hn
         cases hr
         exact arrSl2_ok hT H ht he hbd hx hc hu (Nat.eq_of_beq_eq_true hb) (Nat.le_of_ble_eq_true hn) hop
        ·cases hr
       ·cases hr
      ·cases hr
     ·cases hr
    ·cases hr
   ·cases hr
  split at hr
  ·rename_i hlo hhi
   split at hr
   ·rename_i ht
    split at hr
    ·rename_i e;exact sliceStr_ok hT H ht e hlo hhi hr hop
    ·cases hr
   ·rename_i ht
    split at hr
    ·rename_i he e
     split at hr
     ·rename_i hb;exact sliceSl_ok hT H ht he (Nat.eq_of_beq_eq_true hb) e hlo hhi hr hop
     ·cases hr
    ·rename_i he e
     split at hr
     ·rename_i hb;exact sliceRsl_ok hT H ht he (Nat.eq_of_beq_eq_true hb) e hlo hhi hr hop
     ·cases hr
    ·cases hr
   ·cases hr
  ·cases hr
 ·
  rename_i x k
  have hx:=H.opnd x
  split at hr
  ·rename_i l e
   split at hr
   ·rename_i v hv
    cases hr
    rw [e] at hx
    generalize hxv:a.eval x=xv at hx
    cases hx with
    | @tup _ _ vs hz hr=>
     have hg:=listAt_get hv
     have hlt:=(List.getElem?_eq_some_iff.1 hg).1
     obtain ⟨u,hu⟩:∃u,vs[k]? = some u:=⟨vs[k]'(by rw [hz];exact hlt),Array.getElem?_eq_getElem (by rw [hz];exact hlt)⟩
     have hrep:=hr _ _ hg
     rw [getD_eq_of hu] at hrep
     exact ⟨u,by simp [execOp,hop,hxv,Instr.extract,hu],hrep⟩
   ·cases hr
  ·cases hr
 ·
  rename_i f first caps
  split at hr
  ·rename_i hfirst
   cases hr
   obtain ⟨fl⟩:=first
   have hfl:fl=[]:=hfirst
   subst hfl
   refine ⟨.func (.func f) #[] (caps.map a.eval),by simp [execOp,hop,Instr.makeFunc],.fn (by simp) (fun i x hx=>?_)⟩
   rw [List.getElem?_map] at hx
   cases hc:caps.toList[i]? with
   |none=>rw [hc] at hx;cases hx
   |some y=>
    rw [hc] at hx
    simp only [Option.map_some,Option.some.injEq] at hx
    subst hx
    have hc':caps[i]? = some y:=by simpa using hc
    have:(caps.map a.eval).getD i undef=a.eval y:=by rw [Array.getD_eq_getD_getElem?,Array.getElem?_map,hc'];rfl
    rw [this];exact (H.opnd y).mono1 (Nat.le_refl _) (fun b _ hb=>⟨.inl hb,rfl⟩) (fun _ _=>rfl)
  ·cases hr
 ·
  split at hr
  ·rename_i has hts
   split at hr
   ·rename_i ht
    split at hr
    ·rename_i e;cases hr;exact lenStr_ok hT H ht e has hts hop
    ·cases hr
   ·rename_i ht
    split at hr
    ·rename_i e;cases hr;exact sliceLen_ok hT H ht has hts hop (.inl ⟨_,_,e⟩)
    ·rename_i e;cases hr;exact sliceLen_ok hT H ht has hts hop (.inr (.inl ⟨_,_,_,e⟩))
    ·rename_i e;cases hr;exact sliceLen_ok hT H ht has hts hop (.inr (.inr ⟨_,rfl,e⟩))
    ·cases hr
   ·rename_i ht
    split at hr
    ·rename_i e
     split at hr
     ·rename_i hid;cases hr;exact lenMap_ok hT H ht e hid has hts hop
     ·cases hr
    ·cases hr
   ·cases hr
  ·cases hr
 ·
  split at hr
  ·rename_i has hts
   split at hr
   ·rename_i ht
    split at hr
    ·rename_i e;cases hr;exact capNil_ok hT ht (repA_v (e▸H.opnd _)) has hts hop
    ·cases hr
   ·cases hr
  ·cases hr
 ·
  split at hr
  ·rename_i has
   split at hr
   ·rename_i e1 e2;cases hr;exact (minmax_ok H e1 e2 has).1 hop
   ·cases hr
  ·cases hr
 ·
  split at hr
  ·rename_i has
   split at hr
   ·rename_i e1 e2;cases hr;exact (minmax_ok H e1 e2 has).2 hop
   ·cases hr
  ·cases hr
 ·
  rename_i as ts
  split at hr
  ·rename_i x t has hts
   split at hr
   ·rename_i ht
    split at hr
    ·rename_i he hx
     split at hr
     ·rename_i hid
      split at hr
      ·rename_i hb1
       split at hr
       ·rename_i hb2
        have:=Nat.eq_of_beq_eq_true hb1
        subst this
        cases hr
        exact clear_ok hT H ht he hx hid (Nat.eq_of_beq_eq_true hb2) has hts hop
       ·cases hr
      ·cases hr
     ·cases hr
    ·cases hr
   ·cases hr
  ·cases hr
 ·
  split at hr
  ·rename_i ht
   split at hr
   ·rename_i d he
    split at hr
    ·rename_i hle
     split at hr
     ·split at hr
      ·split at hr
       ·rename_i hc
        split at hr
        ·rename_i hl;cases hr;exact buildBox_ok hT H ht he hle hc hl hop
        ·cases hr
       ·cases hr
      ·cases hr
     ·rename_i l hl
      split at hr
      ·cases hr;exact (buildSlice_ok hT H ht he hle hl hop).pub
      ·cases hr;exact buildSlice_ok hT H ht he hle hl hop
    ·cases hr
   ·cases hr
  ·cases hr
 ·
  have key:(execOp a.eval o).run P w=.ok (.value (.map (some w.heap.size))) (w.alloc (.map #[] 0))→
    (Res.newv (.mp []) (fun id=>.mref id) none).Ok P w gd L g h a o∧(Res.newv (.row 0 1 0 fun _=>[]) (fun _=>.d .o) none).Ok P w gd L g h a o:=by
   intro hrun
   constructor
   ·intro _ d _
    exact ⟨w.alloc (.map #[] 0),some w.heap.size,0,.map (some w.heap.size),hrun,(Below.refl _ _).alloc (Nat.le_refl _) _,fun b hb=>by cases hb;simp,
     fun gd' _ _=>⟨.mp (es:=#[]) (clock:=0) (by simp [Lay.upd]) (heap_alloc w _).1 rfl (fun i x e hx=>by simp at hx) (fun i e he=>by simp at he) (fun i x e hx=>by simp at hx),.mref (by simp [Lay.upd])⟩⟩
   ·intro _ d _
    exact ⟨w.alloc (.map #[] 0),none,0,.map (some w.heap.size),hrun,(Below.refl _ _).alloc (Nat.le_refl _) _,fun b hb=>(by cases hb),fun gd' _ _=>⟨.row0 (by simp [Lay.upd]) (by simp [Lay.upd]),.d (.o _ rfl)⟩⟩
  have key:=key (by simp [execOp,hop,run_makeMap])
  split at hr
  ·cases hr;exact key.1
  ·cases hr;exact key.2
 ·
  rename_i t x
  split at hr
  ·rename_i ht ex
   have hu:=(hT.get ht).map rfl
   have hx:=repA_i (ex▸H.opnd x)
   have hrun:(execOp a.eval o).run P w=.ok (.value (.map (some w.heap.size))) (w.alloc (.map #[] 0)):=by
    simp [execOp,hop,Instr.makeMap,run_underlying hu,hx,asInt,asIntOf,Result.andThen]
   split at hr
   ·cases hr
    intro _ d _
    exact ⟨w.alloc (.map #[] 0),some w.heap.size,0,.map (some w.heap.size),hrun,(Below.refl _ _).alloc (Nat.le_refl _) _,fun b hb=>by cases hb;simp,
     fun gd' _ _=>⟨.mp (es:=#[]) (clock:=0) (by simp [Lay.upd]) (heap_alloc w _).1 rfl (fun i x e hx=>by simp at hx) (fun i e he=>by simp at he) (fun i x e hx=>by simp at hx),.mref (by simp [Lay.upd])⟩⟩
   ·cases hr
    intro _ d _
    exact ⟨w.alloc (.map #[] 0),none,0,.map (some w.heap.size),hrun,(Below.refl _ _).alloc (Nat.le_refl _) _,fun b hb=>(by cases hb),fun gd' _ _=>⟨.row0 (by simp [Lay.upd]) (by simp [Lay.upd]),.d (.o _ rfl)⟩⟩
  ·cases hr
 ·
  split at hr
  ·rename_i ht
   split at hr
   ·split at hr
    ·rename_i he e1 e2
     split at hr
     ·rename_i hnm
      split at hr
      ·rename_i hc;cases hr;exact makeBox_ok hT H ht he e1 e2 (Nat.eq_of_beq_eq_true hnm) hc hop
      ·cases hr
     ·cases hr
    ·cases hr
   ·split at hr
    ·rename_i he e1 e2;cases hr;exact makeSlice_ok hT H ht he e1 e2 hop
    ·cases hr
  ·cases hr
 ·
  split at hr
  ·rename_i s x t t' has hts
   split at hr
   ·rename_i hb
    have:=Nat.eq_of_beq_eq_true hb
    subst this
    split at hr
    ·rename_i ht
     split at hr
     ·rename_i d he;exact append_ok hT H ht he hr has hts hop
     ·cases hr
    ·cases hr
   ·split at hr
    ·rename_i ht
     split at hr
     ·rename_i he ht' hx
      split at hr
      ·rename_i hb
       exact appendS_ok hT H ht ht' he (Nat.eq_of_beq_eq_true hb) hx hr has hts hop
      ·cases hr
     ·rename_i he ht' hx
      exact appendZ_ok hT H ht ht' he hx hr has hts hop
     ·cases hr
    ·cases hr
  ·cases hr
 ·cases hr
theorem arrRow_ok {id sz n:Nat} {f:Nat→List D} (hr:arrRow h id sz=some (n,f)):h id=some (.row (arT+n) sz n f):=by
 unfold arrRow at hr
 split at hr
 ·rename_i t sz' n' f' ho
  split at hr
  ·split at hr
   ·rename_i h2
    split at hr
    ·rename_i h3
     simp only [Option.some.injEq,Prod.mk.injEq] at hr
     obtain ⟨rfl,rfl⟩:=hr
     rw [ho,Nat.eq_of_beq_eq_true h2,Nat.eq_of_beq_eq_true h3]
    ·cases hr
   ·cases hr
  ·cases hr
 ·cases hr
theorem flatG_len {sz:Nat} {f:Nat→List D}:∀{n k0:Nat},(∀k,k0≤k→k<k0+n→(f k).length=sz)→(flatG f n k0).length=n*sz
 |0,_,_=>by simp [flatG]
 |n+1,k0,h=>by rw [flatG,List.length_append,flatG_len (n:=n) fun k h1 h2=>h k (by omega) (by omega),h k0 (by omega) (by omega),Nat.add_mul];omega
theorem flatG_get {sz:Nat} {f:Nat→List D}:∀{n k0:Nat},(∀k,k0≤k→k<k0+n→(f k).length=sz)→∀(i:Nat) (x:D),(flatG f n k0)[i]? = some x→∃k j,k<n∧j<sz∧i=k*sz+j∧(f (k0+k))[j]? = some x
 |0,_,_,i,x,hx=>by simp [flatG] at hx
 |n+1,k0,h,i,x,hx=>by
  have hl:=h k0 (by omega) (by omega)
  rw [flatG] at hx
  by_cases hi:i<sz
  ·rw [List.getElem?_append_left (by omega)] at hx
   exact ⟨0,i,by omega,hi,by omega,hx⟩
  ·rw [List.getElem?_append_right (by omega),hl] at hx
   obtain ⟨k,j,h1,h2,h3,h4⟩:=flatG_get (n:=n) (fun k h1 h2=>h k (by omega) (by omega)) _ x hx
   refine ⟨k+1,j,by omega,h2,by rw [Nat.add_mul];omega,?_⟩
   rw [show k0+(k+1)=k0+1+k from by omega]
   exact h4
theorem flatF_len {sz:Nat} {f:Nat→List D} {n:Nat} (h:∀k,k<n→(f k).length=sz):(flatF n f).length=n*sz:=flatG_len fun k _ hk=>h k (by omega)
theorem flatF_get {sz:Nat} {f:Nat→List D} {n:Nat} (h:∀k,k<n→(f k).length=sz) (i:Nat) (x:D) (hx:(flatF n f)[i]? = some x):∃k j,k<n∧j<sz∧i=k*sz+j∧(f k)[j]? = some x:=by
 obtain ⟨k,j,h1,h2,h3,h4⟩:=flatG_get (fun k _ hk=>h k (by omega)) i x hx
 rw [Nat.zero_add] at h4
 exact ⟨k,j,h1,h2,h3,h4⟩
theorem arrCells_ok (H:Holds w gd L g h a) {id sz n:Nat} {f:Nat→List D} (har:arrRow h id sz=some (n,f)) {v:Value} (hv:RepA w L gd (.rptr id sz 0 0) v) :
  ∃b,v=.pointer (some ⟨b,0,none⟩)∧(∀(k:Nat),k<n→(f k).length=sz)∧∀(i:Nat) (x:AVal),((flatF n f).map AVal.d)[i]? = some x→∃u,w.cell? ⟨b,0+i,none⟩=some u∧u.oneCell'=true∧RepA w L gd x u:=by
 have hro:=H.obj _ _ (arrRow_ok har)
 cases hv with
 | @rptr _ _ _ _ _ b hbk=>
  cases hro with
  |row0 hb0=>rw [hbk] at hb0;cases hb0
  | @row _ _ _ _ cs b2 t2 mk hb2 hh hn hm hz hf hrep hty hmk hcap=>
   rw [hbk] at hb2
   cases hb2
   refine ⟨b,by simp,hf,fun i x hx=>?_⟩
   rw [List.getElem?_map] at hx
   obtain ⟨y,hy,rfl⟩:=Option.map_eq_some_iff.1 hx
   obtain ⟨k,j,k1,k2,rfl,k4⟩:=flatF_get hf i y hy
   have hr:=hrep k k1 j y k4
   refine ⟨cs.getD (k*sz+j) undef,?_,hr.one,.d hr⟩
   have:=Nat.mul_le_mul_right sz (show k+1≤L.cap id from by omega)
   rw [Nat.add_mul] at this
   rw [Nat.zero_add,cell_of_row w b _ cs t2 mk hh,Array.getD_eq_getD_getElem?,Array.getElem?_eq_getElem (by omega)]
   rfl
theorem aCellsA_ok (H:Holds w gd L g h a) {p:AVal} {v:Value} (hv:RepA w L gd p v) {l:List AVal} {c:Option Prop} (hl:aCellsA h p=some (l,c)) (hc:∀q,c=some q→q) :
  ∃b o,v=.pointer (some ⟨b,o,none⟩)∧∀i x,l[i]? = some x→∃u,w.cell? ⟨b,o+i,none⟩=some u∧u.oneCell'=true∧RepA w L gd x u:=by
 unfold aCellsA at hl
 split at hl
 ·split at hl
  ·rename_i har
   cases hl
   obtain ⟨b,e,_,k⟩:=arrCells_ok H har hv
   exact ⟨b,0,e,k⟩
  ·exact aCells_ok H hv hl hc
 ·exact aCells_ok H hv hl hc
theorem sliceArr_ok (hT:TysOk P T) (H:Holds w gd L g h a) {t e:TypeId} {n sz' by_:Nat} {z:List D} (ht:lookT t T=some ⟨.array n e,sz',by_,z⟩) {d:TyD} (he:lookT e T=some d) {x:Operand} {lo hi:Option Operand} {ra rb:Option Int} {id sz:Nat} (hd:d.size=sz) (hx:opnd g x=.rptr id sz 0 0) {f:Nat→List D} (hid:h id=some (.row (arT+n) sz n f)) {r:Res}
  (hlo:optI g lo=some ra) (hhi:optI g hi=some rb) (hr:aSlice (.rsl id sz 0 n) ra rb=some r) {o:Oper} (ho:o.op=.slice t x lo hi none):r.Ok P w gd L g h a o:=by
 have hu:=(hT.get ht).array rfl
 have hsize:=(hT.get he).sizeOf w
 have hv:=H.opnd x
 rw [hx] at hv
 generalize hxv:a.eval x=xv at hv
 have hro:=H.obj _ _ hid
 have key:(∀q,(sliceOf n ra rb).2.2=some q→q)→∃u,(execOp a.eval o).run P w=.ok (.value u) w∧RepA w L gd (.rsl id sz (0+(sliceOf n ra rb).1) ((sliceOf n ra rb).2.1-(sliceOf n ra rb).1)) u:=by
  intro hq
  generalize hA:(sliceOf n ra rb).1=A at *
  generalize hB:(sliceOf n ra rb).2.1=B at *
  cases hv with
  | @rptr _ _ _ _ _ b hbk=>
   have hc:L.cap id=n:=by
    cases hro with
    |row0 hb0=>rw [hbk] at hb0;cases hb0
    |row _ _ _ _ _ _ _ _ _ hcap=>exact hcap n rfl
   obtain ⟨h1,h2,h3⟩:=bounds_ok (P:=P) (optI_ok H hlo) (optI_ok H hhi) n n (Nat.le_refl _) false w hq
   rw [hA,hB] at h1 h2
   rw [hB] at h3
   refine ⟨.slice (some (if n=A then ⟨b,0,none⟩ else ⟨b,A*d.size,none⟩)) (B-A) (n-A),?_,?_⟩
   ·have e0:(0:Nat)*sz+0=0:=by simp
    rw [e0] at hxv
    by_cases h0:n=A
    ·subst h0
     simp [execOp,ho,hxv,Instr.sliceAt,run_underlying hu,Instr.sureAddr,h1,hsize]
    ·simp [execOp,ho,hxv,Instr.sliceAt,run_underlying hu,Instr.sureAddr,h1,hsize,h0,Addr.add]
     try exact fun e=>e.symm
   ·have h9:RepA w L gd (.rsl id sz (0+A) (B-A)) (.slice (some (if n=A then ⟨b,0,none⟩ else ⟨b,A*d.size,none⟩)) (B-A) (L.cap id-(0+A))):=by
     refine .rsl (by omega) (fun _=>⟨b,hbk⟩) fun h=>?_
     rw [hbk]
     by_cases h0:n=A
     ·have:A=0:=by omega
      rw [if_pos h0,this]
      simp
     ·rw [if_neg h0,hd]
      simp
    rw [hc,Nat.zero_add] at h9
    rw [Nat.zero_add]
    exact h9
 unfold aSlice at hr
 simp only at hr
 generalize hso:sliceOf n ra rb=so at hr key
 obtain ⟨A,B,c⟩:=so
 simp only at hr key
 cases A with
 |zero=>
  simp only [Option.some.injEq] at hr
  subst hr
  exact mkCond_ok fun hq=>by simpa using key hq
 |succ A=>
  simp only [Option.some.injEq] at hr
  subst hr
  exact mkCond_ok key
theorem slice3F_ok (hT:TysOk P T) (H:Holds w gd L g h a) {t e:TypeId} {sz' by_:Nat} {z:List D} (ht:lookT t T=some ⟨.slice e,sz',by_,z⟩) {d:TyD} (he:lookT e T=some d) {x hi mx:Operand} {sz n:Nat} {f:Nat→List D} (hd:d.size=sz) (hx:opnd g x=.d (.sl sz n f))
  {kb km:IntKind} {b m:Int} (hb:opnd g hi=.d (.i kb b)) (hm:opnd g mx=.d (.i km m)) {o:Oper} (ho:o.op=.slice t x none (some hi) (some mx)) :
  (Res.cond (.d (.slF sz b.toNat f)) (0≤b∧b=m∧m≤n)).Ok P w gd L g h a o:=by
 have hu:=(hT.get ht).slice rfl
 have hsize:=(hT.get he).sizeOf w
 have hv:=H.opnd x
 rw [hx] at hv
 have hs:=repA_sl hv
 have hbv:=repA_i (hb▸H.opnd hi)
 have hmv:=repA_i (hm▸H.opnd mx)
 generalize hxv:a.eval x=xv at hs
 rintro ⟨h1,h2,h3⟩
 subst h2
 have run:∀(ad:Option Addr) (c:Nat),n≤c→a.eval x=.slice ad n c→(execOp a.eval o).run P w=.ok (.value (.slice (if b.toNat=0 then ad else ad.map (·.add (0*d.size))) b.toNat b.toNat)) w:=by
  intro ad c hc hxc
  have eb:(b.toNat:Int)=b:=Int.toNat_of_nonneg (by omega)
  have sb:∀(k:IntKind) (i:Int) (y:Nat) (code:BoundsCode),0≤i→i≤y→(Instr.sliceBound (.int k i) y code).run P w=.ok i.toNat w:=fun k i y code q0 q1=>by
   simp [Instr.sliceBound,asIntOf,q0,q1]
  have s1:=sb km b c .slice3Acap (by omega) (by omega)
  have s2:=sb kb b b.toNat .slice3B (by omega) (by omega)
  simp only [execOp,ho,hxc,hbv,hmv,Option.map_some,Option.map_none,Instr.sliceAt,Instr.slice,run_underlying hu,Instr.sliceBounds,Sem.run_bind,Sem.run_pure,Result.andThen_ok,if_true,s1,s2,hsize,Bool.false_eq_true,if_false,Nat.sub_zero]
 cases hs with
 |sl0 _ _ ad c hc=>
  refine ⟨_,run ad c (by omega) hxv,?_⟩
  have:b.toNat=0:=by omega
  rw [this]
  exact .d (.slF _ _ _ _ (.sl0 _ _ _ _ (by omega)))
 |sl _ _ _ b' off c cs hn hc hm hg hb' hz hcell hrep=>
  refine ⟨_,run _ c hc hxv,?_⟩
  by_cases hz0:b.toNat=0
  ·rw [hz0];exact .d (.slF _ _ _ _ (.sl0 _ _ _ _ (by omega)))
  ·rw [if_neg hz0]
   refine .d (.slF _ _ _ _ ?_)
   have hcl:RepD w gd (.sl sz b.toNat f) (.slice (some ⟨b',off,none⟩) b.toNat b.toNat):=
    .sl _ _ _ b' _ _ cs (by omega) (Nat.le_refl _) (by omega) hg hb' (fun k hk=>hz _ (by omega)) (fun k hk j hj=>hcell k (by omega) j hj) (fun k hk=>hrep _ (by omega))
   simpa [addr_add0] using hcl
theorem slice3N_ok (hT:TysOk P T) (H:Holds w gd L g h a) {t e:TypeId} {sz' by_:Nat} {z:List D} (ht:lookT t T=some ⟨.slice e,sz',by_,z⟩) {d:TyD} (he:lookT e T=some d) {x hi mx:Operand} {lo:Option Operand} {sz n:Nat} {f:Nat→List D} (hd:d.size=sz) (hx:opnd g x=.d (.sl sz n f))
  {kb km:IntKind} {b m:Int} (hb:opnd g hi=.d (.i kb b)) (hm:opnd g mx=.d (.i km m)) (hlo:optI g lo=some none) {o:Oper} (ho:o.op=.slice t x lo (some hi) (some mx)) :
  (Res.cond (.d (.slF sz b.toNat f)) (0≤b∧b=m∧m≤n)).Ok P w gd L g h a o:=by
 cases lo with
 |none=>exact slice3F_ok hT H ht he hd hx hb hm ho
 |some y=>
  simp only [optI] at hlo
  split at hlo<;>cases hlo
theorem slice3_ok (hT:TysOk P T) (H:Holds w gd L g h a) {t e:TypeId} {sz' by_:Nat} {z:List D} (ht:lookT t T=some ⟨.slice e,sz',by_,z⟩) {d:TyD} (he:lookT e T=some d) {x hi mx:Operand} {lo:Option Operand} {ra:Option Int} {sz n:Nat} {f:Nat→List D} (hd:d.size=sz) (hx:opnd g x=.d (.sl sz n f))
  {kb km:IntKind} {b m:Int} (hb:opnd g hi=.d (.i kb b)) (hm:opnd g mx=.d (.i km m)) (hlo:optI g lo=some ra) {o:Oper} (ho:o.op=.slice t x lo (some hi) (some mx)) :
  (match ra with|none=>Res.cond (.d (.sl sz b.toNat f)) (0≤b∧b≤m∧m≤n)|some a=>Res.cond (.d (.sl sz (b.toNat-a.toNat) fun k=>f (a.toNat+k))) (0≤a∧a≤b∧b≤m∧m≤n)).Ok P w gd L g h a o:=by
 have hu:=(hT.get ht).slice rfl
 have hsize:=(hT.get he).sizeOf w
 have hv:=H.opnd x
 rw [hx] at hv
 have hs:=repA_sl hv
 have hbv:=repA_i (hb▸H.opnd hi)
 have hmv:=repA_i (hm▸H.opnd mx)
 generalize hxv:a.eval x=xv at hs
 have key:∀A:Nat,((lo.map a.eval=none∧A=0)∨∃k,lo.map a.eval=some (.int k (A:Int)))→(A:Int)≤b→b≤m→m≤n→
   ∃u,(execOp a.eval o).run P w=.ok (.value u) w∧RepA w L gd (.d (.sl sz (b.toNat-A) fun k=>f (A+k))) u:=by
  intro A hA h1 h2 h3
  have run:∀(ad:Option Addr) (c:Nat),n≤c→a.eval x=.slice ad n c→(execOp a.eval o).run P w=.ok (.value (.slice (if m.toNat=A then ad else ad.map (·.add (A*d.size))) (b.toNat-A) (m.toNat-A))) w:=by
   intro ad c hc hxc
   have eb:(b.toNat:Int)=b:=Int.toNat_of_nonneg (by omega)
   have em:(m.toNat:Int)=m:=Int.toNat_of_nonneg (by omega)
   have sb:∀(k:IntKind) (i:Int) (y:Nat) (code:BoundsCode),0≤i→i≤y→(Instr.sliceBound (.int k i) y code).run P w=.ok i.toNat w:=fun k i y code q0 q1=>by
    simp [Instr.sliceBound,asIntOf,q0,q1]
   have s1:=sb km m c .slice3Acap (by omega) (by omega)
   have s2:=sb kb b m.toNat .slice3B (by omega) (by omega)
   rcases hA with ⟨e0,rfl⟩|⟨k,e0⟩
   ·simp only [execOp,ho,hxc,e0,hbv,hmv,Option.map_some,Instr.sliceAt,Instr.slice,run_underlying hu,Instr.sliceBounds,Sem.run_bind,Sem.run_pure,Result.andThen_ok,if_true,s1,s2,hsize]
   ·have s3:=sb k (A:Int) b.toNat .slice3C (by omega) (by omega)
    simp only [execOp,ho,hxc,e0,hbv,hmv,Option.map_some,Instr.sliceAt,Instr.slice,run_underlying hu,Instr.sliceBounds,Sem.run_bind,Sem.run_pure,Result.andThen_ok,if_true,s1,s2,hsize,Option.isSome_some,s3,tnC]
  cases hs with
  |sl0 _ _ ad c hc=>
   refine ⟨_,run ad c (by omega) hxv,?_⟩
   have:b.toNat-A=0:=by omega
   rw [this]
   exact .d (.sl0 _ _ _ _ (by omega))
  |sl _ _ _ b' off c cs hn hc hm hg hb' hz hcell hrep=>
   refine ⟨_,run _ c hc hxv,?_⟩
   by_cases hz0:b.toNat-A=0
   ·rw [hz0];exact .d (.sl0 _ _ _ _ (by omega))
   ·rw [if_neg (by omega),hd]
    have hcl:RepD w gd (.sl sz (b.toNat-A) fun k=>f (A+k)) (.slice (some ⟨b',off+A*sz,none⟩) (b.toNat-A) (m.toNat-A)):=by
     refine .sl _ _ _ b' _ _ (fun k j=>cs (A+k) j) (by omega) (by omega) (by omega) hg hb' (fun k hk=>hz _ (by omega)) (fun k hk j hj=>?_) (fun k hk=>hrep _ (by omega))
     rw [←hcell (A+k) (by omega) j hj,Nat.add_mul]
     congr 2
     omega
    refine .d ?_
    simpa [addr_add0] using hcl
 cases ra with
 |none=>
  rintro ⟨h1,h2,h3⟩
  rcases optI_ok H hlo with ⟨e0,_⟩|⟨k,q,e0,e1⟩
  ·have:=key 0 (.inl ⟨e0,rfl⟩) (by omega) h2 h3
   simpa using this
  ·cases e1
 |some q=>
  rintro ⟨h0,h1,h2,h3⟩
  rcases optI_ok H hlo with ⟨e0,e1⟩|⟨k,q',e0,e1⟩
  ·cases e1
  ·cases e1
   exact key q.toNat (.inr ⟨k,by rw [e0,Int.toNat_of_nonneg h0]⟩) (by omega) h2 h3
theorem copy_ok (hT:TysOk P T) (H:Holds w gd L g h a) {t t' e:TypeId} {sz0 by_:Nat} {z:List D} (ht:lookT t T=some ⟨.slice e,sz0,by_,z⟩) {d:TyD} (he:lookT e T=some d) (hd:d.size=1) {p x:Operand} {id q n n':Nat} {ty:TypeId} {f:Nat→List D} (hp:opnd g p=.rsl id 1 q n) (hid:h id=some (.row ty 1 n' f)) (hty:ty≠markT)
  {m:Nat} {f2:Nat→List D} {c:Prop} (hsrc:cpySrc h (opnd g x)=some (m,f2,c)) {as:Array Operand} {ts:Array TypeId} (has:as.toList=[p,x]) (hts:ts.toList=[t,t']) {o:Oper} (ho:o.op=.call { callee:=.builtin .copy,args:=as,argTypes:=ts}) :
  (Res.setc id (.row ty 1 n' (fun k=>if q≤k∧k<q+min m n then f2 (k-q) else f k)) (c∧0<m∧0<n∧q+n≤n')).Ok P w gd L g h a o:=by
 refine ⟨⟨_,hid⟩,?_⟩
 rintro ⟨hc,hm0,hn0,hqn⟩
 have hu:=(hT.get ht).slice rfl
 obtain ⟨i,i1,_,i3,_⟩:=(hT.get he).info'
 have has':as = #[p,x]:=by cases as;simp_all
 have hts':ts = #[t,t']:=by cases ts;simp_all
 have hpv:=H.opnd p
 rw [hp] at hpv
 have hxv:=H.opnd x
 have src:∃(ad:Addr) (c':Nat) (v:Nat→Value),a.eval x=.slice (some ad) m c'∧∀j,j<m→w.cell? (ad.add j)=some (v j)∧(v j).oneCell'=true∧(f2 j).length=1∧∀y,(f2 j)[0]? = some y→RepD w gd y (v j):=by
  unfold cpySrc at hsrc
  split at hsrc
  ·rename_i sz m' f' ex
   split at hsrc
   ·rename_i h1
    have h1:=Nat.eq_of_beq_eq_true h1
    subst h1
    cases hsrc
    rw [ex] at hxv
    have hs:=repA_sl hxv
    generalize hxe:a.eval x=xv at hs
    cases hs with
    |sl0=>omega
    |sl _ _ _ b o c cs hn hc hm hg hb hz hcell hrep=>
     refine ⟨⟨b,o,none⟩,c,fun j=>cs j 0,rfl,fun j hj=>?_⟩
     have h0:=hcell j hj 0 (by omega)
     have hl:=hz j hj
     refine ⟨by rw [addr_add0,←h0];congr 2;omega,?_,hl,fun y hy=>hrep j hj 0 y hy⟩
     exact (hrep j hj 0 _ (List.getElem?_eq_getElem (by omega))).one
   ·cases hsrc
  ·rename_i id2 sz o2 m' ex
   split at hsrc
   ·rename_i h1
    have h1:=Nat.eq_of_beq_eq_true h1
    subst h1
    split at hsrc
    ·rename_i t3 sz3 n3 f3 hrow
     split at hsrc
     ·rename_i h2
      have h2:=Nat.eq_of_beq_eq_true h2
      subst h2
      cases hsrc
      rw [ex] at hxv
      generalize hxe:a.eval x=xv at hxv
      have hro:=H.obj _ _ hrow
      cases hxv with
      | @rsl _ _ _ _ _ ad hcc hbb ha=>
       cases hro with
       |row0=>omega
       | @row _ _ _ _ cs b t2 mk hb hh hn hm hz hf hrep hty2 hmk hcap=>
        have had:=ha (.inr (by omega))
        rw [hb] at had
        subst had
        refine ⟨⟨b,o2*1,none⟩,_,fun j=>cs.getD (o2+j) undef,rfl,fun j hj=>?_⟩
        have hl:=hf (o2+j) (by omega)
        have hr:=hrep (o2+j) (by omega) 0 _ (List.getElem?_eq_getElem (by omega))
        simp only [Nat.mul_one,Nat.add_zero] at hr
        refine ⟨?_,hr.one,hl,fun y hy=>?_⟩
        ·rw [addr_add0,Nat.mul_one,cell_of_row w b _ cs t2 mk hh]
         show _=some (cs.getD (o2+j) undef)
         rw [Array.getD_eq_getD_getElem?,Array.getElem?_eq_getElem (show o2+j<cs.size by omega)]
         rfl
        ·have:=hrep (o2+j) (by omega) 0 y hy
         simpa using this
     ·cases hsrc
    ·cases hsrc
   ·cases hsrc
  ·cases hsrc
 obtain ⟨ad,c',v,ex,hv⟩:=src
 generalize hpe:a.eval p=pv at hpv
 have hro:=H.obj _ _ hid
 cases hpv with
 | @rsl _ _ _ _ _ pad hcc hbb ha=>
  cases hro with
  |row0=>omega
  | @row _ _ _ _ cs b t2 mk hb hh hn hm hz hf hrep hty2 hmk hcap=>
   have had:=ha (.inr (by omega))
   rw [hb] at had
   subst had
   have hmk0:mk=(0,0):=hmk.resolve_right fun h=>hty h.1
   subst hmk0
   generalize hN:min m n=N
   have hNm:Nat.min m n=N:=hN
   have hlen:((List.range N).map v).length=N:=by simp
   have hfit:q*1+((List.range N).map v).length≤cs.size:=by rw [hlen,hz];omega
   have hrun:=run_copy_row (P:=P) w t t' o.type e b (q*1) n (L.cap id-q) ad m c' cs t2 ((List.range N).map v) hu (by rw [i1];simp [i3,hd]) hh (by rw [hlen,hNm]) (fun j u hj0=>by
     have hj:=hj0
     rw [List.getElem?_map] at hj
     obtain ⟨k,hk,rfl⟩:=Option.map_eq_some_iff.1 hj
     have hk1:j<N∧j=k:=by
      rw [List.getElem?_range (by have:=(List.getElem?_eq_some_iff.1 hk).1;simpa using this)] at hk
      exact ⟨by have:=(List.getElem?_eq_some_iff.1 hj0).1;simpa using this,by cases hk;rfl⟩
     rw [←hk1.2]
     exact (hv j (by omega)).1) hfit (fun u hu=>by
     obtain ⟨k,hk,rfl⟩:=List.mem_map.1 hu
     exact (hv k (by have:=List.mem_range.1 hk;omega)).2.1)
   have hg:=over_getD cs (q*1) ((List.range N).map v) hfit
   generalize hnew:(cs.toList.take (q*1)++(List.range N).map v++cs.toList.drop (q*1+((List.range N).map v).length)).toArray=cs' at hrun hg
   have hsz':cs'.size=cs.size:=by rw [←hnew];simp;simp at hfit;omega
   refine ⟨b,w.setRow b cs',hb,.inr ⟨goInt ((List.range N).map v).length,?_⟩,rfl,rfl,rfl,by simp,fun b' hne=>setRow_other w b b' _ hne,fun gd' hst' htop=>?_⟩
   ·subst has' hts'
    rw [Nat.mul_one] at hpe
    rw [Nat.mul_one] at hrun
    simp [execOp,ho,builtin,resolve,invoke,hpe,ex,hrun]
   ·refine .row hb (setRow_heap w b cs _ t2 (0,0) hh) hn hm (by omega) (fun k hk=>?_) (fun k hk j y hy=>?_) hty2 (.inl rfl) hcap
    ·split
     ·exact (hv (k-q) (by omega)).2.2.1
     ·exact hf k hk
    ·rw [hg,hlen]
     split at hy
     ·rename_i hc2
      have h9:=hv (k-q) (by omega)
      have hj0:j=0:=by
       have:=(List.getElem?_eq_some_iff.1 hy).1
       omega
      subst hj0
      rw [if_pos (by omega)]
      have h8:=(h9.2.2.2 y hy).mono (w':=w.setRow b cs') (by simp) hst'
      have e9:((List.range N).map v).getD (k*1+0-q*1) undef=v (k-q):=by
       rw [List.getD_eq_getElem?_getD,List.getElem?_map,show k*1+0-q*1=k-q from by omega,List.getElem?_range (by omega)]
       rfl
      rw [e9]
      exact h8
     ·rename_i hc2
      have hj0:j=0:=by
       have:=(List.getElem?_eq_some_iff.1 hy).1
       have:=hf k hk
       omega
      subst hj0
      rw [if_neg (by omega)]
      have h8:=(hrep k hk 0 y hy).mono (w':=w.setRow b cs') (by simp) hst'
      exact h8
theorem arrOp_ok (hT:TysOk P T) (H:Holds w gd L g h a) {o:Oper} {r:Res} (hr:arrOp T g h o.op=some r):r.Ok P w gd L g h a o:=by
 generalize hop:o.op=op at hr
 unfold arrOp at hr
 split at hr
 ·
  rename_i t
  split at hr
  ·split at hr
   ·rename_i n e s by_ z ht
    split at hr
    ·rename_i d he
     split at hr
     ·rename_i hs
      split at hr
      ·rename_i hn
       cases hr
       have hd:=hT.get ht
       have hn:=Nat.le_of_ble_eq_true hn
       have hs:=Nat.eq_of_beq_eq_true hs
       obtain ⟨c1,c2⟩:=zeroVal_cells (w:=w) (gd:=gd) hd
       have hzl:z.length=s:=hd.zlen
       have hzs:(TyD.zeroVal ⟨.array n e,s,by_,z⟩).cells.size=n*d.size:=by rw [c1];show z.length=_;omega
       intro _ id _
       refine ⟨w.alloc (.cells (TyD.zeroVal ⟨.array n e,s,by_,z⟩).cells t),some w.heap.size,n,.pointer (some ⟨w.heap.size,0,none⟩),by simp [execOp,hop,Instr.alloc,hd.zeroValue w,newVar,newRow],(Below.refl _ _).alloc (Nat.le_refl _) _,fun b hb=>by cases hb;simp,fun gd' hst _=>⟨?_,?_⟩⟩
       ·refine .row (b:=w.heap.size) (cs:=(TyD.zeroVal ⟨.array n e,s,by_,z⟩).cells) (by simp [Lay.upd]) (heap_alloc_new w _) (by simp [Lay.upd]) (by simpa [Lay.upd] using (show n≤maxLen by unfold maxLen;omega)) (by simpa [Lay.upd] using hzs) (fun k hk=>?_) (fun k hk j x hx=>?_) (fun hlt=>absurd hlt (by unfold markT arT;omega)) (.inl rfl) (fun m hm=>by simp only [Lay.upd,if_true];omega)
        ·have:=Nat.mul_le_mul_right d.size (show k+1≤n from hk)
         rw [Nat.add_mul] at this
         rw [List.length_take,List.length_drop];omega
        ·rw [List.getElem?_take] at hx
         split at hx
         ·rw [List.getElem?_drop] at hx
          obtain ⟨e1,_,e3⟩:=c2 _ x hx
          rw [e1]
          exact e3.mono (by simp) hst
         ·cases hx
       ·have:RepA (w.alloc (.cells (TyD.zeroVal ⟨.array n e,s,by_,z⟩).cells t)) (L.upd id (some w.heap.size) n) gd' (.rptr id d.size 0 0) (.pointer (some ⟨w.heap.size,0*d.size+0,none⟩)):=.rptr (by simp [Lay.upd])
        simpa using this
      ·cases hr
     ·cases hr
    ·cases hr
   ·cases hr
  ·cases hr
 ·
  split at hr
  ·rename_i n e _ _ z ht
   split at hr
   ·rename_i d id sz j off kk kn he hx hk
    split at hr
    ·split at hr
     ·rename_i hb
      split at hr
      ·cases hr
       have hb:=Nat.eq_of_beq_eq_true hb
       intro hc
       obtain ⟨u,h1,h2⟩:=indexArrR_ok hT H ht he hx hk hop hc
       refine ⟨u,h1,?_⟩
       cases h2 with
       | @rptr _ _ _ _ _ b hbk=>
        have:=RepA.rptr (w:=w) (L:=L) (good:=gd) (id:=id) (sz:=sz) (k:=j+kn.toNat) (off:=0) hbk
        rw [show (j+kn.toNat)*sz+0=j*sz+(0+kn.toNat*d.size) from by rw [hb,Nat.add_mul];omega] at this
        exact this
      ·cases hr
     ·cases hr
    ·cases hr
   ·cases hr
  ·cases hr
 ·
  rename_i t x
  split at hr
  ·rename_i m e s by_ z ht
   split at hr
   ·rename_i id sz j off hx
    split at hr
    ·rename_i n f har
     split at hr
     ·rename_i hs
      split at hr
      ·split at hr
       ·cases hr
        have ho:=arrRow_ok har
        have hs:=Nat.eq_of_beq_eq_true hs
        have hro:=H.obj _ _ ho
        have hv:=H.opnd x
        rw [hx] at hv
        generalize hxv:a.eval x=xv at hv
        cases hv with
        | @rptr _ _ _ _ _ b hbk=>
         have key:(∀(k:Nat),k<n→(f k).length=sz)∧∀(i:Nat) (x:AVal),((flatF n f).map AVal.d)[i]? = some x→∃u,w.cell? ⟨b,0+i,none⟩=some u∧u.oneCell'=true∧RepA w L gd x u:=by
          cases hro with
          |row0 hb0=>rw [hbk] at hb0;cases hb0
          | @row _ _ _ _ cs b2 t2 mk hb2 hh hn hm hz hf hrep hty hmk hcap=>
           rw [hbk] at hb2
           cases hb2
           refine ⟨hf,fun i x hx=>?_⟩
           rw [List.getElem?_map] at hx
           obtain ⟨y,hy,rfl⟩:=Option.map_eq_some_iff.1 hx
           obtain ⟨k,j,k1,k2,rfl,k4⟩:=flatF_get hf i y hy
           have hr:=hrep k k1 j y k4
           refine ⟨cs.getD (k*sz+j) undef,?_,hr.one,.d hr⟩
           have:=Nat.mul_le_mul_right sz (show k+1≤L.cap id from by omega)
           rw [Nat.add_mul] at this
           rw [Nat.zero_add,cell_of_row w b _ cs t2 mk hh,Array.getD_eq_getD_getElem?,Array.getElem?_eq_getElem (by omega)]
           rfl
         obtain ⟨hf,key⟩:=key
         have hfl:=flatF_len hf
         have hpart:aPart ⟨.array m e,s,by_,z⟩ ((flatF n f).map .d)=some (.agg ((flatF n f).map .d)):=by
          have htk:∀(l:List AVal) (q:Nat),l.length=q→takeF q l=some l:=by
           intro l
           induction l with
           |nil=>intro q hq;subst hq;rfl
           |cons y l ih=>intro q hq;subst hq;simp [takeF,ih l.length rfl]
          unfold aPart
          rw [htk _ s (by rw [List.length_map,hfl,hs])]
          rfl
         obtain ⟨u,h1,h2⟩:=loadAt_ok hT ht hpart key
         refine ⟨u,?_,h2⟩
         have e0:(0:Nat)*sz+0=0:=by simp
         rw [e0] at hxv
         simp [execOp,hop,hxv,h1]
       ·cases hr
      ·cases hr
     ·cases hr
    ·cases hr
   ·cases hr
  ·cases hr
 ·
  rename_i t p x
  split at hr
  ·rename_i m e s by_ z ht
   split at hr
   ·rename_i id sz j off hp
    split at hr
    ·rename_i n f har
     split at hr
     ·rename_i hs
      split at hr
      ·split at hr
       ·split at hr
        ·rename_i l hx
         split at hr
         ·rename_i ds hu
          split at hr
          ·rename_i hl
           cases hr
           have ho:=arrRow_ok har
           have hs:=Nat.eq_of_beq_eq_true hs
           have hl:=Nat.eq_of_beq_eq_true hl
           have hro:=H.obj _ _ ho
           have hpv:=H.opnd p
           rw [hp] at hpv
           have hxv:=H.opnd x
           rw [hx] at hxv
           obtain ⟨vs,exv,k1,k2,k3⟩:=repA_agg hxv
           have hll:=unliftF_eq hu
           generalize hpe:a.eval p=pv at hpv
           refine ⟨⟨_,ho⟩,?_⟩
           cases hpv with
           | @rptr _ _ _ _ _ b hbk=>
            cases hro with
            |row0 hb0=>rw [hbk] at hb0;cases hb0
            | @row _ _ _ _ cs b2 t2 mk hb2 hh hn hm hz hf hrep hty hmk hcap=>
             rw [hbk] at hb2
             cases hb2
             have hc:=hcap n rfl
             have hvz:vs.size=s:=by rw [k1,hll,List.length_map,hl]
             have hmk0:mk=(0,0):=hmk.resolve_right fun h=>by have:=h.1;unfold markT arT at this;omega
             have hcz:cs.size=s:=by rw [hz,hc,hs]
             have hcell:(Value.agg vs).cells=vs:=rfl
             have hst:=storeAt_run hT ht (v:=.agg vs) (by rw [hcell];exact hvz) (b:=b) (o:=0) hh (.inl hmk0) (by rw [hcell];omega) (by
              refine cells_mem (n:=s) (by rw [hcell];exact hvz) fun i hi=>?_
              rw [hcell]
              exact k2 i (by rw [←k1,hvz];exact hi))
             have hg:=over_getD cs 0 (Value.agg vs).cells.toList (by rw [hcell];simp;omega)
             generalize hnew:(cs.toList.take 0++(Value.agg vs).cells.toList++cs.toList.drop (0+(Value.agg vs).cells.size)).toArray=cs' at hst
             rw [show (Value.agg vs).cells.toList.length=(Value.agg vs).cells.size from by simp,hnew] at hg
             have hsz':cs'.size=s:=by rw [←hnew,hcell];simp;omega
             subst hmk0
             refine ⟨b,w.setRow b cs',hbk,.inl ?_,rfl,rfl,rfl,by simp,fun b' hne=>setRow_other w b b' _ hne,fun gd' hst' htop=>?_⟩
             ·have e0:(0:Nat)*sz+0=0:=by simp
              rw [e0] at hpe
              simp [execOp,hop,hpe,exv,hst]
             ·refine .row hbk (setRow_heap w b cs _ t2 (0,0) hh) (by omega) hm (by rw [hsz',hc,hs]) (fun k hk=>?_) (fun k hk q y hy=>?_) hty (.inl rfl) hcap
              ·have:=Nat.mul_le_mul_right sz (show k+1≤n from hk)
               rw [Nat.add_mul] at this
               rw [List.length_take,List.length_drop];omega
              ·rw [List.getElem?_take] at hy
               split at hy
               ·rename_i hq
                rw [List.getElem?_drop] at hy
                have hlt:k*sz+q<ds.length:=(List.getElem?_eq_some_iff.1 hy).1
                have h3:=k3 (k*sz+q) (.d y) (by rw [hll,List.getElem?_map,hy];rfl)
                rw [hg,if_pos ⟨Nat.zero_le _,by rw [hcell];omega⟩]
                cases h3 with
                |d h3=>
                 have h4:=h3.mono (w':=w.setRow b cs') (by simp) hst'
                 rw [hcell]
                 simpa [List.getD_eq_getElem?_getD,Array.getD_eq_getD_getElem?] using h4
               ·cases hy
          ·cases hr
         ·cases hr
        ·cases hr
       ·cases hr
      ·cases hr
     ·cases hr
    ·cases hr
   ·cases hr
  ·cases hr
 ·
  split at hr
  ·rename_i n e _ _ z ht
   split at hr
   ·rename_i d l kk kn he hx hk
    split at hr
    ·rename_i hs
     split at hr
     ·rename_i h1
      split at hr
      ·rename_i v hv
       cases hr
       have h1:=Nat.eq_of_beq_eq_true h1
       rintro ⟨h0,hn⟩
       have hl:=listAt_get hv
       obtain ⟨vs,exv,k1,k2,k3⟩:=repA_agg (hx▸H.opnd _)
       have hkv:=repA_i (hk▸H.opnd _)
       have hu:=(hT.get ht).array rfl
       have hlt:kn.toNat<l.length:=(List.getElem?_eq_some_iff.1 hl).1
       refine ⟨vs.getD kn.toNat undef,?_,k3 _ _ hl⟩
       have hp:=part1 (w:=w) (hT.get he) hs (vs:=vs) (off:=kn.toNat) (by omega)
       have hsz:=(hT.get he).sizeOf w
       simp [execOp,hop,exv,hkv,Instr.index,asIntOf,run_underlying hu,h0,hn,hsz,h1,hp]
      ·cases hr
     ·cases hr
    ·cases hr
   ·cases hr
  ·cases hr
 ·
  split at hr
  ·rename_i n e _ _ z ht
   split at hr
   ·rename_i d id sz j off he hx
    split at hr
    ·rename_i n' f har
     split at hr
     ·rename_i hb
      split at hr
      ·rename_i hds
       split at hr
       ·split at hr
        ·split at hr
         ·rename_i ra rb hlo hhi
          have hnn:=Nat.eq_of_beq_eq_true hb
          subst hnn
          exact sliceArr_ok hT H ht he (Nat.eq_of_beq_eq_true hds) hx (arrRow_ok har) hlo hhi hr hop
         ·cases hr
        ·cases hr
       ·cases hr
      ·cases hr
     ·cases hr
    ·cases hr
   ·cases hr
  ·cases hr
 ·
  split at hr
  ·rename_i e _ _ z ht
   split at hr
   ·rename_i d sz n f kb bb km mm lo he hx hb hm hlo
    split at hr
    ·rename_i hd
     have hd:=Nat.eq_of_beq_eq_true hd
     split at hr
     ·split at hr
      ·cases hr
       exact slice3N_ok hT H ht he hd hx hb hm hlo hop
      ·cases hr;exact slice3_ok hT H ht he hd hx hb hm (lo:=_) (ra:=none) hlo hop
     ·cases hr;exact slice3_ok hT H ht he hd hx hb hm (lo:=_) (ra:=some _) hlo hop
    ·cases hr
   ·cases hr
  ·cases hr
 ·
  split at hr
  ·rename_i has hts
   split at hr
   ·rename_i ht
    split at hr
    ·rename_i he
     split at hr
     ·rename_i hd
      split at hr
      ·rename_i hp
       split at hr
       ·rename_i hid
        split at hr
        ·rename_i h1
         split at hr
         ·rename_i h2
          split at hr
          ·cases hr
          ·rename_i h3
           split at hr
           ·rename_i hsrc
            cases hr
            have h1:=Nat.eq_of_beq_eq_true h1
            have h2:=Nat.eq_of_beq_eq_true h2
            subst h1
            subst h2
            exact copy_ok hT H ht he (Nat.eq_of_beq_eq_true hd) hp hid (fun e=>by rw [e] at h3;simp [Nat.beq_refl] at h3) hsrc has hts hop
           ·cases hr
         ·cases hr
        ·cases hr
       ·cases hr
      ·cases hr
     ·cases hr
    ·cases hr
   ·cases hr
  ·cases hr
 ·cases hr
end
end Towline
