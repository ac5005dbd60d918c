/- AssocStreams: the engine, contracts and plain laws that its proof leans on, part 01. -/
import Derived.Test.YtbkcekmahdbgdaaGreatSq00
import Derived.Lib.SliceRun
import Derived.Laws.Cover3
import Derived.Laws.StructEq
import Derived.ChangeKeysEq
import Derived.Laws.MakeOwn
import Derived.Maps.AppendAt
import Derived.ArgAppend
namespace Towline
open Go Go.RowKit
set_option linter.unusedVariables false
section
variable {P : Program} {T : Tys} {w : World} {gd : Nat → Prop} {L : Lay} {g : Nat → AVal} {h : Nat → Option AObj} {a : Act}
theorem aStored_ok (hT:TysOk P T) {t:TypeId} {d:TyD} (ht:lookT t T=some d) {x:AVal} {v:Value} (hv:RepA w L gd x v) {vs:List AVal} (hs:aStored d x=some vs) :
  v.cells.size=vs.length∧(∀i,i<vs.length→(v.cells.getD i undef).oneCell'=true)∧∀i y,vs[i]? = some y→RepA w L gd y (v.cells.getD i undef):=by
 have one:∀{x:AVal} {v:Value},RepA w L gd x v→x.sure=true→vs=[x]→
   v.cells.size=vs.length∧(∀i,i<vs.length→(v.cells.getD i undef).oneCell'=true)∧∀i y,vs[i]? = some y→RepA w L gd y (v.cells.getD i undef):=by
  intro x v hv hx hvs
  have h1:=repA_one hv hx
  have hc:v.cells = #[v]:=by cases v<;>first|rfl|cases h1
  rw [hc,hvs]
  refine ⟨rfl,fun i hi=>?_,fun i y hy=>?_⟩
  ·have:i=0:=by simpa using hi
   subst this;exact h1
  ·cases i with
   |zero=>simp only [List.getElem?_cons_zero,Option.some.injEq] at hy;subst hy;exact hv
   |succ i=>simp at hy
 cases hk:isStr d.kind with
 |true=>
  cases x with
  |agg l=>
   simp only [aStored,hk,Option.some.injEq] at hs
   subst hs
   obtain ⟨ws,rfl,h1,h2,h3⟩:=repA_agg hv
   exact ⟨h1,h2,h3⟩
  |any=>simp [aStored] at hs
  |tup=>simp [aStored] at hs
  |_=>simp [aStored,hk] at hs
 |false=>
  cases x with
  |agg l=>simp [aStored,hk] at hs
  |any=>simp [aStored] at hs
  |tup=>simp [aStored] at hs
  |_=>
   simp only [aStored,hk,Option.some.injEq] at hs
   exact one hv rfl hs.symm
theorem run_storeCells_mk (P:Program) (g o:Nat) (t:TypeId) (mk:Nat×Nat):∀(vs:List Value) (i:Nat) (cur:Array Value) (w:World),w.heap[g]? = some (.cells cur t mk)→(mk=(0,0)∨cur.size≤mk.1)→o+i+vs.length≤cur.size→(∀v∈vs,v.oneCell'=true)→
  (storeCells ⟨g,o,none⟩ vs i).run P w=.ok () (w.setRow g (cur.toList.take (o+i)++vs++cur.toList.drop (o+i+vs.length)).toArray)
 | [],i,cur,w,hg,_,_,_=>by
  simp only [storeCells,List.append_nil,List.length_nil,Nat.add_zero,List.take_append_drop,Array.toArray_toList]
  rw [setRow_self w g cur t mk hg]
  rfl
 |v::rest,i,cur,w,hg,hk,hl,h1=>by
  have hi:o+i<cur.size:=by simp at hl;omega
  have hadd:(⟨g,o,none⟩:Addr).add i=⟨g,o+i,none⟩:=by unfold Addr.add;split<;>simp_all
  have hcell:w.cell? ⟨g,o+i,none⟩=some cur[o+i]:=by simp [World.cell?,hg,hi]
  have hfro:w.frozen? ⟨g,o+i,none⟩=false:=by
   obtain ⟨lo,hh⟩:=mk
   rcases hk with hk|hk
   ·cases hk;simp [World.frozen?,hg]
   ·have hk:cur.size≤lo:=hk
    simp [World.frozen?,hg,show ¬lo≤o+i from by omega]
  have hst:(store ((⟨g,o,none⟩:Addr).add i) v).run P w=.ok () (w.setRow g (cur.setIfInBounds (o+i) v)):=by
   rw [hadd,run_store P w _ v _ (h1 v (by simp)),hcell]
   simp [hfro,setCell_eq_setRow w g (o+i) cur t mk v hg]
  have ih:=run_storeCells_mk P g o t mk rest (i+1) (cur.setIfInBounds (o+i) v) (w.setRow g (cur.setIfInBounds (o+i) v)) (setRow_heap w g cur _ t _ hg) (by simpa using hk) (by simp at hl ⊢;omega) (fun x hx=>h1 x (by simp [hx]))
  simp only [storeCells,Sem.run_bind,hst,Result.andThen_ok,ih,setRow_setRow]
  congr 3
  have e:=list_seg_step cur.toList (o+i) v rest (by simp at hl ⊢;omega)
  simpa [Array.toList_setIfInBounds,Nat.add_assoc] using e
theorem storeAt_run (hT:TysOk P T) {t:TypeId} {d:TyD} (ht:lookT t T=some d) {v:Value} (hz:v.cells.size=d.size) {b o:Nat} {e:TypeId} {cur:Array Value} {mk:Nat×Nat} (hb:w.heap[b]? = some (.cells cur e mk)) (hk:mk=(0,0)∨cur.size≤mk.1)
  (hfit:o+v.cells.size≤cur.size) (h1:∀u∈v.cells.toList,u.oneCell'=true) :
  (Instr.storeAt t (.pointer (some ⟨b,o,none⟩)) v).run P w=.ok () (w.setRow b (cur.toList.take o++v.cells.toList++cur.toList.drop (o+v.cells.size)).toArray):=by
 have hd:=hT.get ht
 have hst:=run_storeCells_mk P b o e mk v.cells.toList 0 cur w hb hk (by simpa using hfit) h1
 simp only [Nat.add_zero,Array.length_toList] at hst
 simp [Instr.storeAt,Instr.sureAddr,storeVar,hd.sizeOf w,hz,hst]
theorem over_getD (cur:Array Value) (o:Nat) (vs:List Value) (hfit:o+vs.length≤cur.size) (i:Nat) :
  (cur.toList.take o++vs++cur.toList.drop (o+vs.length)).toArray.getD i undef=if o≤i∧i<o+vs.length then vs.getD (i-o) undef else cur.getD i undef:=by
 rw [Array.getD_eq_getD_getElem?]
 simp only [List.getElem?_toArray,List.getElem?_append,List.length_append,List.length_take,Array.length_toList,Nat.min_eq_left (show o≤cur.size from by omega)]
 by_cases h1:i<o
 ·rw [if_pos (by omega),if_pos h1,if_neg (by omega),List.getElem?_take,if_pos h1]
  simp [Array.getD_eq_getD_getElem?]
 ·by_cases h2:i<o+vs.length
  ·rw [if_pos h2,if_neg h1,if_pos ⟨by omega,h2⟩]
   simp [List.getD_eq_getElem?_getD]
  ·rw [if_neg h2,if_neg (by omega),List.getElem?_drop]
   rw [show o+vs.length+(i-(o+vs.length))=i from by omega]
   simp [Array.getD_eq_getD_getElem?]
theorem cells_mem {v:Value} {n:Nat} (hn:v.cells.size=n) (h:∀i,i<n→(v.cells.getD i undef).oneCell'=true):∀u∈v.cells.toList,u.oneCell'=true:=by
 intro u hu
 obtain ⟨i,hi,rfl⟩:=List.mem_iff_getElem.1 hu
 have:=h i (by simpa [hn] using hi)
 rw [Array.getD_eq_getD_getElem?] at this
 simpa [show i<v.cells.size from by simpa using hi] using this
theorem storeBox_ok (hT:TysOk P T) (H:Holds w gd L g h a) {t:TypeId} {d:TyD} (ht:lookT t T=some d) {p x:Operand} {r:Res} {xv:AVal} (hv:RepA w L gd xv (a.eval x)) {id off b:Nat} (hb:L.blk id=some b) (hpv:a.eval p=.pointer (some ⟨b,off,none⟩)) {cells:List AVal} {tag0:Option TypeId} (hobj:h id=some (.box cells tag0))
  (hr:(match aStored d xv with
   |some vs=>match Nat.beq vs.length d.size with
    |true=>match overF cells off vs with
     |some l=>some (Res.set id (.box l tag0))
     |none=>none
    |false=>none
   |none=>none)=some r) {o:Oper} (ho:o.op=.store t p x):r.Ok P w gd L g h a o:=by
 cases hs:aStored d xv with
 |none=>rw [hs] at hr;cases hr
 |some vs=>
  rw [hs] at hr
  simp only at hr
  cases hbq:Nat.beq vs.length d.size with
  |false=>rw [hbq] at hr;cases hr
  |true=>
   rw [hbq] at hr
   simp only at hr
   cases hov:overF cells off vs with
   |none=>rw [hov] at hr;cases hr
   |some l=>
    rw [hov] at hr
    simp only [Option.some.injEq] at hr
    subst hr
    have hlen:=Nat.eq_of_beq_eq_true hbq
    obtain ⟨e1,e2,e3⟩:=overF_eq hov
    obtain ⟨s1,s2,s3⟩:=aStored_ok hT ht hv hs
    have hro:=H.obj id _ hobj
    cases hro with
    | @box _ tag cs ty b' htag hb' hh hz h1 hrep=>
     rw [hb] at hb'
     cases hb'
     have hfit:off+(a.eval x).cells.size≤cs.size:=by omega
     have hrun:=storeAt_run (P:=P) hT ht (by omega) hh (.inl rfl) hfit (cells_mem s1 s2)
     have hg:=over_getD cs off (a.eval x).cells.toList (by simpa using hfit)
     simp only [Array.length_toList] at hg
     refine ⟨⟨_,hobj⟩,b,(w.setRow b (cs.toList.take off++(a.eval x).cells.toList++cs.toList.drop (off+(a.eval x).cells.size)).toArray),hb,.inl (by simp [execOp,ho,hpv,hrun]),rfl,rfl,rfl,by simp,fun b' hne=>setRow_other w b b' _ hne,fun gd' hst htop=>?_⟩
     refine .box htag hb (setRow_heap w b cs _ ty (0,0) hh) (by simp;omega) (fun i hi=>?_) (fun i y hy=>?_)
     ·rw [hg]
      split
      ·have:=s2 (i-off) (by omega)
       simpa [List.getD_eq_getElem?_getD,Array.getD_eq_getD_getElem?] using this
      ·exact h1 i (by omega)
     ·rw [hg]
      rw [e3] at hy
      have hsz:w.heap.size≤(w.setRow b (cs.toList.take off++(a.eval x).cells.toList++cs.toList.drop (off+(a.eval x).cells.size)).toArray).heap.size:=by simp
      by_cases hc:off≤i∧i<off+vs.length
      ·rw [if_pos hc] at hy
       rw [if_pos (by omega)]
       have:=(s3 (i-off) y hy).mono1 hsz hst htop
       simpa [List.getD_eq_getElem?_getD,Array.getD_eq_getD_getElem?] using this
      ·rw [if_neg hc] at hy
       rw [if_neg (by omega)]
       exact (hrep i y hy).mono1 hsz hst htop
theorem aStore_ok (hT:TysOk P T) (H:Holds w gd L g h a) {t:TypeId} {d:TyD} (ht:lookT t T=some d) {p x:Operand} {r:Res} (hr:aStore h d (opnd g x) (opnd g p)=some r) {o:Oper} (ho:o.op=.store t p x) :
  r.Ok P w gd L g h a o:=by
 have hv:=H.opnd x
 have hp:=H.opnd p
 generalize opnd g x=xv at *
 generalize opnd g p=pv at *
 generalize hpv:a.eval p=pval at *
 cases hp with
 | @ptr _ id off b hb=>
  simp only [aStore] at hr
  cases hobj:h id with
  |none=>rw [hobj] at hr;cases hr
  |some ob=>
   rw [hobj] at hr
   cases ob with
   |row=>cases hr
   |mp=>cases hr
   |vrow=>cases hr
   |dmp=>cases hr
   |box cells tag0=>exact storeBox_ok hT H ht hv hb hpv hobj hr ho
 | @rptr _ id sz k off b hb=>
  simp only [aStore] at hr
  cases hobj:h id with
  |none=>rw [hobj] at hr;cases hr
  |some ob=>
   rw [hobj] at hr
   cases ob with
   |mp=>cases hr
   |vrow=>cases hr
   |dmp=>cases hr
   |box cells tag0=>exact storeBox_ok hT H ht hv hb hpv hobj hr ho
   |row ty sz' n f=>
    simp only at hr
    cases hsq:Nat.beq sz sz' with
    |false=>rw [hsq] at hr;cases hr
    |true=>
     rw [hsq] at hr
     simp only at hr
     have:=Nat.eq_of_beq_eq_true hsq
     subst this
     cases hs:aStored d xv with
     |none=>rw [hs] at hr;cases hr
     |some vs=>
      rw [hs] at hr
      simp only at hr
      cases hbq:Nat.beq vs.length d.size with
      |false=>rw [hbq] at hr;cases hr
      |true=>
       rw [hbq] at hr
       simp only at hr
       cases hul:unliftF vs with
       |none=>rw [hul] at hr;cases hr
       |some us=>
        rw [hul] at hr
        simp only at hr
        cases hov:overF (f k) off us with
        |none=>rw [hov] at hr;cases hr
        |some l=>
         rw [hov] at hr
         simp only [Option.some.injEq] at hr
         subst hr
         refine ⟨⟨_,hobj⟩,fun hk=>?_⟩
         have hlen:=Nat.eq_of_beq_eq_true hbq
         obtain ⟨e1,e2,e3⟩:=overF_eq hov
         obtain ⟨s1,s2,s3⟩:=aStored_ok hT ht hv hs
         have hul':=unliftF_eq hul
         have hul2:vs.length=us.length:=by rw [hul'];simp
         have hro:=H.obj id _ hobj
         cases hro with
         |row0=>omega
         | @row _ _ _ _ cs b' t2 mk hb' hh hn hm hz hf hrep hty hmk hcap0=>
          rw [hb] at hb'
          cases hb'
          have hfk:=hf k hk
          have hcap:k*sz+sz≤cs.size:=by
           have:=Nat.mul_le_mul_right sz (show k+1≤L.cap id from by omega)
           rw [Nat.add_mul] at this;omega
          have hfit:k*sz+off+(a.eval x).cells.size≤cs.size:=by omega
          have hrun:=storeAt_run (P:=P) hT ht (by omega) hh (hmk.imp (fun h=>h) fun h=>h.2) hfit (cells_mem s1 s2)
          have hg:=over_getD cs (k*sz+off) (a.eval x).cells.toList (by simpa using hfit)
          simp only [Array.length_toList] at hg
          refine ⟨b,(w.setRow b (cs.toList.take (k*sz+off)++(a.eval x).cells.toList++cs.toList.drop (k*sz+off+(a.eval x).cells.size)).toArray),hb,.inl (by simp [execOp,ho,hpv,hrun]),rfl,rfl,rfl,by simp,fun b' hne=>setRow_other w b b' _ hne,fun gd' hst htop=>?_⟩
          have hsz:w.heap.size≤(w.setRow b (cs.toList.take (k*sz+off)++(a.eval x).cells.toList++cs.toList.drop (k*sz+off+(a.eval x).cells.size)).toArray).heap.size:=by simp
          refine .row hb (setRow_heap w b cs _ t2 mk hh) hn hm (by simp;omega) (fun j hj=>?_) (fun j hj i y hy=>?_) hty (hmk.imp (fun h=>h) fun h=>⟨h.1,by have:=h.2;simp;omega⟩) hcap0
          ·unfold fupd
           split
           ·rw [e2];rename_i e;exact hfk
           ·exact hf j hj
          ·rw [hg]
           unfold fupd at hy
           by_cases hjk:j=k
           ·subst hjk
            rw [if_pos rfl,e3] at hy
            by_cases hc:off≤i∧i<off+us.length
            ·rw [if_pos hc] at hy
             rw [if_pos (by omega)]
             have h3:=s3 (i-off) (.d y) (by rw [hul',List.getElem?_map,hy];rfl)
             rw [show j*sz+i-(j*sz+off)=i-off from by omega]
             have h3':=h3.mono1 hsz hst htop
             cases h3' with
             |d h3'=>simpa [List.getD_eq_getElem?_getD,Array.getD_eq_getD_getElem?] using h3'
            ·rw [if_neg hc] at hy
             have hi:i<sz:=by rw [←hfk];exact (List.getElem?_eq_some_iff.1 hy).1
             rw [if_neg (by omega)]
             exact (hrep j hj i y hy).mono hsz hst
           ·rw [if_neg hjk] at hy
            have hi:i<sz:=by rw [←hf j hj];exact (List.getElem?_eq_some_iff.1 hy).1
            have hne:¬(k*sz+off≤j*sz+i∧j*sz+i<k*sz+off+(a.eval x).cells.size):=by
             rintro ⟨h1,h2⟩
             rcases Nat.lt_or_gt_of_ne hjk with h3|h3
             ·have:=Nat.mul_le_mul_right sz (show j+1≤k from h3)
              rw [Nat.add_mul] at this;omega
             ·have:=Nat.mul_le_mul_right sz (show k+1≤j from h3)
              rw [Nat.add_mul] at this;omega
            rw [if_neg hne]
            exact (hrep j hj i y hy).mono hsz hst
 |_=>simp [aStore] at hr
end
section
variable {P : Program} {T : Tys} {w : World} {gd : Nat → Prop} {L : Lay} {g : Nat → AVal} {h : Nat → Option AObj} {a : Act}
theorem box_ok {o:Oper} {l:List AVal} {tag:Option TypeId} {cs:Array Value} {t:TypeId} (htag:∀t',tag=some t'→t=t') (hrun:(execOp a.eval o).run P w=.ok (.value (.pointer (some ⟨w.heap.size,0,none⟩))) (w.alloc (.cells cs t)))
  (hz:cs.size=l.length) (h1:∀i,i<l.length→(cs.getD i undef).oneCell'=true) (hr:∀i x,l[i]? = some x→RepA w L gd x (cs.getD i undef)) (d:Nat) (hf:∀(i:Nat) (x:AVal),l[i]? = some x→x.free d=true) :
  MakesOk P w gd L a o d (.ptr d 0) (.box l tag):=by
 refine ⟨_,some w.heap.size,0,_,hrun,(Below.refl _ _).alloc (Nat.le_refl _) _,fun b hb=>by cases hb;simp,fun gd' hst _=>⟨?_,?_⟩⟩
 ·refine .box htag (by simp [Lay.upd]) (heap_alloc_new w _) hz h1 fun i x hx=>?_
  refine RepA.mono (L:=L) (L':=L.upd d (some w.heap.size) 0) (by simp) (· != d) (fun j hj=>?_) (fun b hlt hb=>⟨hb,heap_alloc_old w _ hlt⟩) (hr i x hx) hst (fun j hj=>?_)
  ·have:j≠d:=by simpa using hj
   simp [Lay.upd,this]
  ·have:j=d:=by simpa using hj
   rw [this];exact hf i x hx
 ·exact .ptr (by simp [Lay.upd])
theorem opnd_free {d:Nat} (hf:∀t,(g t).free d=true) (x:Operand):(opnd g x).free d=true:=by
 cases x with
 |tmp t=>exact hf t
 |const v=>cases v<;>rfl
 |global n=>exact globV_free n d
 |func f=>rfl
theorem cells_one {v:Value} (h:v.oneCell'=true):v.cells = #[v]:=by cases v<;>first|rfl|cases h
theorem dval_rep {x:D} (h:(x.val.oneCell'&&match x with|.sl ..=>false|.cl ..=>false|.o=>false|.pt _=>false|.slF ..=>false|_=>true)=true):RepD w gd x x.val:=by
 cases x with
 |i k n=>exact .i k n
 |b x=>exact .b x
 |s l=>exact .s l
 |v x=>exact .v x (by simpa [D.val] using h)
 |sl=>simp at h
 |cl=>simp at h
 |o=>simp at h
 |pt=>simp at h
 |slF=>simp at h
theorem zeroVal_cells {t:TypeId} {d:TyD} (hok:TyOk P t d):d.zeroVal.cells.size=d.zero.length∧∀(i:Nat) (x:D),d.zero[i]? = some x→d.zeroVal.cells.getD i undef=x.val∧x.val.oneCell'=true∧RepD w gd x x.val:=by
 have hall:=hok.zone
 rw [List.all_eq_true] at hall
 have hone:∀(i:Nat) (x:D),d.zero[i]? = some x→x.val.oneCell'=true∧RepD w gd x x.val:=by
  intro i x hx
  have:=hall x (List.mem_of_getElem? hx)
  exact ⟨by simp at this;exact this.1,dval_rep this⟩
 unfold TyD.zeroVal
 cases hs:isStr d.kind with
 |true=>
  refine ⟨by simp [Value.cells],fun i x hx=>⟨?_,hone i x hx⟩⟩
  simp only [Value.cells,Array.getD_eq_getD_getElem?,List.getElem?_toArray,List.getElem?_map,hx]
  rfl
 |false=>
  have hw:=hok.zwf
  rw [hs] at hw
  have hl:d.zero.length=1:=by simpa using hw
  obtain ⟨y,hy⟩:=List.length_eq_one_iff.1 hl
  have h1:=hone 0 y (by rw [hy];rfl)
  simp only [hy]
  rw [cells_one h1.1]
  refine ⟨rfl,fun i x hx=>?_⟩
  cases i with
  |zero=>simp only [List.getElem?_cons_zero,Option.some.injEq] at hx;subst hx;exact ⟨rfl,h1⟩
  |succ i=>simp at hx
theorem fieldAt_get:∀{n:Nat} {l:List (Nat×Nat×TypeId)} {x},fieldAt n l=some x→l[n]? = some x
 |0,x::_,y,h=>by simpa [fieldAt] using h
 |n+1,_::r,y,h=>by simp only [fieldAt] at h;simpa using fieldAt_get h
 |0,[],y,h=>by simp [fieldAt] at h
 |n+1,[],y,h=>by simp [fieldAt] at h
theorem listAt_get {α:Type}:∀{n:Nat} {l:List α} {x},listAt n l=some x→l[n]? = some x
 |0,x::_,y,h=>by simpa [listAt] using h
 |n+1,_::r,y,h=>by simp only [listAt] at h;simpa using listAt_get h
 |0,[],y,h=>by simp [listAt] at h
 |n+1,[],y,h=>by simp [listAt] at h
theorem fold_over (vs:List Value):∀(j off:Nat) (cs:Array Value),off+j+vs.length≤cs.size→
  ((vs.zipIdx j).foldl (fun cs (p:Value×Nat)=>cs.setIfInBounds (off+p.2) p.1) cs).size=cs.size∧
  ∀i,((vs.zipIdx j).foldl (fun cs (p:Value×Nat)=>cs.setIfInBounds (off+p.2) p.1) cs).getD i undef=if off+j≤i∧i<off+j+vs.length then vs.getD (i-(off+j)) undef else cs.getD i undef:=by
 induction vs with
 |nil=>intro j off cs _;exact ⟨rfl,fun i=>by rw [if_neg (by simp)];rfl⟩
 |cons v vs ih=>
  intro j off cs hle
  simp only [List.length_cons] at hle
  obtain ⟨h1,h2⟩:=ih (j+1) off (cs.setIfInBounds (off+j) v) (by simp;omega)
  simp only [List.zipIdx_cons,List.foldl_cons]
  refine ⟨by rw [h1];simp,fun i=>?_⟩
  rw [h2 i]
  by_cases hi:i=off+j
  ·subst hi
   rw [if_neg (by omega),if_pos (by simp)]
   simp [Array.getD_eq_getD_getElem?,show off+j<cs.size from by omega]
  ·by_cases hc:off+(j+1)≤i∧i<off+(j+1)+vs.length
   ·rw [if_pos hc,if_pos (by simp;omega)]
    rw [show i-(off+j)=(i-(off+(j+1)))+1 from by omega]
    simp
   ·rw [if_neg hc,if_neg (by simp;omega)]
    simp only [Array.getD_eq_getD_getElem?,Array.getElem?_setIfInBounds]
    rw [if_neg (by omega)]
theorem aParts_ok (H:Holds w gd L g h a) {fs:List (Nat×Nat×TypeId)} {place:Nat→Option (Nat×Nat)} (hpl:∀(j:Nat) (x:Nat×Nat×TypeId),fs[j]? = some x→place j=some (x.1,x.2.1)) :
  ∀(ps:List (Nat×Operand)) (l l':List AVal) (cs:Array Value),aParts fs g ps l=some l'→cs.size=l.length→(∀i,i<l.length→(cs.getD i undef).oneCell'=true)→(∀i x,l[i]? = some x→RepA w L gd x (cs.getD i undef))→
   ∃cs',Instr.fill place cs (ps.map fun p=>(p.1,a.eval p.2))=some cs'∧cs'.size=l'.length∧(∀i,i<l'.length→(cs'.getD i undef).oneCell'=true)∧∀i x,l'[i]? = some x→RepA w L gd x (cs'.getD i undef):=by
 intro ps
 induction ps with
 |nil=>intro l l' cs hp hz h1 hr;simp only [aParts,Option.some.injEq] at hp;subst hp;exact ⟨cs,rfl,hz,h1,hr⟩
 |cons p ps ih=>
  intro l l' cs hp hz h1 hr
  obtain ⟨j,x⟩:=p
  simp only [aParts] at hp
  cases hf:fieldAt j fs with
  |none=>rw [hf] at hp;cases hp
  |some fx=>
   obtain ⟨off,size,ft⟩:=fx
   rw [hf] at hp
   simp only at hp
   have hv:=H.opnd x
   have hplace:=hpl j _ (fieldAt_get hf)
   have key:∀vs:List AVal,(a.eval x).cells.size=vs.length→(∀i,i<vs.length→((a.eval x).cells.getD i undef).oneCell'=true)→(∀i y,vs[i]? = some y→RepA w L gd y ((a.eval x).cells.getD i undef))→
     vs.length=size→∀m,overF l off vs=some m→aParts fs g ps m=some l'→
     ∃cs',Instr.fill place cs (((j,x)::ps).map fun p=>(p.1,a.eval p.2))=some cs'∧cs'.size=l'.length∧(∀i,i<l'.length→(cs'.getD i undef).oneCell'=true)∧∀i x,l'[i]? = some x→RepA w L gd x (cs'.getD i undef):=by
    intro vs k1 k2 k3 k4 m hm hrest
    obtain ⟨e1,e2,e3⟩:=overF_eq hm
    obtain ⟨f1,f2⟩:=fold_over (a.eval x).cells.toList 0 off cs (by simp;omega)
    simp only [Nat.add_zero,Array.length_toList] at f1 f2
    obtain ⟨cs',r1,r2⟩:=ih m l' _ hrest (by rw [f1];omega) (fun i hi=>by
      rw [f2 i]
      split
      ·have:=k2 (i-off) (by omega)
       simpa [List.getD_eq_getElem?_getD,Array.getD_eq_getD_getElem?] using this
      ·exact h1 i (by omega)) (fun i y hy=>by
      rw [f2 i]
      rw [e3] at hy
      by_cases hc:off≤i∧i<off+vs.length
      ·rw [if_pos hc] at hy
       rw [if_pos (by omega)]
       have:=k3 (i-off) y hy
       simpa [List.getD_eq_getElem?_getD,Array.getD_eq_getD_getElem?] using this
      ·rw [if_neg hc] at hy
       rw [if_neg (by omega)]
       exact hr i y hy)
    refine ⟨cs',?_,r2⟩
    simp only [List.map_cons,Instr.fill,hplace]
    rw [if_neg (by simp;omega)]
    rw [←Array.foldl_toList,Array.toList_zipIdx]
    exact r1
   cases hx:opnd g x with
   |any=>rw [hx] at hp;cases hp
   |tup=>rw [hx] at hp;cases hp
   |agg vl=>
    rw [hx] at hp hv
    simp only [AVal.cells] at hp
    cases hb:Nat.beq vl.length size with
    |false=>rw [hb] at hp;cases hp
    |true=>
     rw [hb] at hp
     simp only at hp
     cases hm:overF l off vl with
     |none=>rw [hm] at hp;cases hp
     |some m=>
      rw [hm] at hp
      obtain ⟨ws,hw,k1,k2,k3⟩:=repA_agg hv
      refine key vl ?_ ?_ ?_ (Nat.eq_of_beq_eq_true hb) m hm hp
      ·rw [hw];exact k1
      ·rw [hw];exact k2
      ·rw [hw];exact k3
   |_=>
    rw [hx] at hp hv
    have hone:=repA_one hv rfl
    have hcell:=cells_one hone
    simp only [AVal.cells] at hp
    cases hb:Nat.beq (List.length [_]) size with
    |false=>rw [hb] at hp;cases hp
    |true=>
     rw [hb] at hp
     simp only at hp
     cases hm:overF l off [_] with
     |none=>rw [hm] at hp;cases hp
     |some m=>
      rw [hm] at hp
      refine key _ ?_ ?_ ?_ (Nat.eq_of_beq_eq_true hb) m hm hp
      ·rw [hcell];rfl
      ·rw [hcell];intro i hi;have:i=0:=by simpa using hi
       subst this;exact hone
      ·rw [hcell];intro i y hy
       cases i with
       |zero=>simp only [List.getElem?_cons_zero,Option.some.injEq] at hy;subst hy;exact hv
       |succ i=>simp at hy
theorem places_of (P:Program):∀(l:List Field),l.all (fun f=>(P.info? f.type).isSome)=true→
  l.mapM (fun f=>(P.info? f.type).map fun i=>(f.offset,i.size))=some ((l.map fun f=>(f.offset,match P.info? f.type with|some i=>i.size|none=>0,f.type)).map fun x=>(x.1,x.2.1))
 | [],_=>rfl
 |f::r,h=>by
  simp only [List.all_cons,Bool.and_eq_true] at h
  obtain ⟨i,hi⟩:=Option.isSome_iff_exists.1 h.1
  simp only [List.mapM_cons,hi,Option.map_some,places_of P r h.2,Option.bind_eq_bind,Option.bind_some,Option.pure_def,List.map_cons]
theorem build_ok (hT:TysOk P T) (H:Holds w gd L g h a) {t:TypeId} {fs:List (Nat×Nat×TypeId)} {sz by_:Nat} {z:List D} (ht:lookT t T=some ⟨.struct fs,sz,by_,z⟩) {ps:Array (Nat×Operand)} {l l':List AVal}
  (hl:liftF z=some l) (hp:aParts fs g ps.toList l=some l') {o:Oper} (ho:o.op=.build t ps):(Res.val (.agg l')).Ok P w gd L g h a o:=by
 have hd:=hT.get ht
 obtain ⟨fields,hu,hfs⟩:=hd.struct rfl
 obtain ⟨c1,c2⟩:=zeroVal_cells (w:=w) (gd:=gd) hd
 have hl':=liftF_eq hl
 generalize hd0:(⟨.struct fs,sz,by_,z⟩:TyD)=d0 at *
 have hz0:d0.zero=z:=by rw [←hd0]
 have hlen:d0.zeroVal.cells.size=l.length:=by rw [c1,hl',hz0];simp
 have hfok:=hd.fok
 rw [hu] at hfok
 have hplaces:(fields.toList.mapM fun f=>Functor.map (Prod.mk f.offset) (Go.sizeOf f.type)).run P w=.ok (fs.map fun x=>(x.1,x.2.1)) w:=by
  rw [←hfs]
  exact run_places (P:=P) w fields.toList _ (places_of P fields.toList hfok)
 have hget:∀(i:Nat) (x:AVal),l[i]? = some x→∃y,d0.zero[i]? = some y∧x=.d y:=by
  intro i x hx
  rw [hl',List.getElem?_map] at hx
  rw [hz0]
  cases hy:z[i]? with
  |none=>rw [hy] at hx;cases hx
  |some y=>rw [hy] at hx;simp only [Option.map_some,Option.some.injEq] at hx;exact ⟨y,rfl,hx.symm⟩
 obtain ⟨cs',r1,r2,r3,r4⟩:=aParts_ok H (fs:=fs) (place:=((fs.map fun x=>(x.1,x.2.1)).toArray[·]?)) (fun j x hj=>by simp [hj]) ps.toList l l' d0.zeroVal.cells hp hlen
  (fun i hi=>by
   obtain ⟨y,hy,_⟩:=hget i l[i] (List.getElem?_eq_getElem hi)
   obtain ⟨e1,e2,_⟩:=c2 i y hy
   rw [e1];exact e2)
  (fun i x hx=>by
   obtain ⟨y,hy,rfl⟩:=hget i x hx
   obtain ⟨e1,_,e3⟩:=c2 i y hy
   rw [e1];exact .d e3)
 refine ⟨.agg cs',?_,.agg r2 r3 r4⟩
 have hparts:(ps.map fun p=>(p.1,a.eval p.2)).toList=ps.toList.map fun p=>(p.1,a.eval p.2):=by simp
 simp only [execOp,ho,Instr.build,Sem.run_bind,hd.zeroValue w,run_underlying hu,Result.andThen_ok,Array.mapM_eq_mapM_toList,Sem.run_map,Sem.run_pure]
 have e:(fields.toList.mapM fun f=>do pure (f.offset,←Go.sizeOf f.type))=(fields.toList.mapM fun f=>Functor.map (Prod.mk f.offset) (Go.sizeOf f.type)):=by
  congr 1
 rw [show (List.mapM (fun f=>do let __do_lift ←Go.sizeOf f.type;pure (f.offset,__do_lift)) fields.toList)=(fields.toList.mapM fun f=>Functor.map (Prod.mk f.offset) (Go.sizeOf f.type)) from e,hplaces]
 simp only [Result.andThen_ok]
 rw [hparts,r1]
 rfl
theorem arrF_get (s e:Nat):∀(n off j:Nat) (x:Nat×Nat×Nat),(arrF s e n off)[j]? = some x→some (off+j*s,s)=some (x.1,x.2.1)
 |0,off,j,x,h=>by simp [arrF] at h
 |n+1,off,0,x,h=>by
  simp only [arrF,List.getElem?_cons_zero,Option.some.injEq] at h
  subst h
  simp
 |n+1,off,j+1,x,h=>by
  simp only [arrF,List.getElem?_cons_succ] at h
  rw [←arrF_get s e n (off+s) j x h,Nat.add_mul]
  congr 2
  omega
theorem buildA_ok (hT:TysOk P T) (H:Holds w gd L g h a) {t e:TypeId} {n sz by_:Nat} {z:List D} (ht:lookT t T=some ⟨.array n e,sz,by_,z⟩) {de:TyD} (he:lookT e T=some de) {ps:Array (Nat×Operand)} {l l':List AVal}
  (hl:liftF z=some l) (hp:aParts (arrF de.size e n 0) g ps.toList l=some l') {o:Oper} (ho:o.op=.build t ps):(Res.val (.agg l')).Ok P w gd L g h a o:=by
 have hd:=hT.get ht
 have hu:=hd.array rfl
 have hsz:=(hT.get he).sizeOf w
 obtain ⟨c1,c2⟩:=zeroVal_cells (w:=w) (gd:=gd) hd
 have hl':=liftF_eq hl
 generalize hd0:(⟨.array n e,sz,by_,z⟩:TyD)=d0 at *
 have hz0:d0.zero=z:=by rw [←hd0]
 have hlen:d0.zeroVal.cells.size=l.length:=by rw [c1,hl',hz0];simp
 have hget:∀(i:Nat) (x:AVal),l[i]? = some x→∃y,d0.zero[i]? = some y∧x=.d y:=by
  intro i x hx
  rw [hl',List.getElem?_map] at hx
  rw [hz0]
  cases hy:z[i]? with
  |none=>rw [hy] at hx;cases hx
  |some y=>rw [hy] at hx;simp only [Option.map_some,Option.some.injEq] at hx;exact ⟨y,rfl,hx.symm⟩
 obtain ⟨cs',r1,r2,r3,r4⟩:=aParts_ok H (fs:=arrF de.size e n 0) (place:=fun i=>some (i*de.size,de.size)) (fun j x hj=>by have:=arrF_get _ _ _ _ _ _ hj;rw [Nat.zero_add] at this;exact this) ps.toList l l' d0.zeroVal.cells hp hlen
  (fun i hi=>by
   obtain ⟨y,hy,_⟩:=hget i l[i] (List.getElem?_eq_getElem hi)
   obtain ⟨e1,e2,_⟩:=c2 i y hy
   rw [e1];exact e2)
  (fun i x hx=>by
   obtain ⟨y,hy,rfl⟩:=hget i x hx
   obtain ⟨e1,_,e3⟩:=c2 i y hy
   rw [e1];exact .d e3)
 refine ⟨.agg cs',?_,.agg r2 r3 r4⟩
 have hparts:(ps.map fun p=>(p.1,a.eval p.2)).toList=ps.toList.map fun p=>(p.1,a.eval p.2):=by simp
 simp only [execOp,ho,Instr.build,Sem.run_bind,hd.zeroValue w,run_underlying hu,Result.andThen_ok,hsz,Sem.run_pure]
 rw [hparts,r1]
 rfl
end
section
variable {P : Program} {T : Tys} {w : World} {gd : Nat → Prop} {L : Lay} {g : Nat → AVal} {h : Nat → Option AObj} {a : Act}
theorem aAddr_ok {n:Nat} {x y:AVal} {v:Value} (hv:RepA w L gd x v) (hy:aAddr n x=some y):∃b o,v=.pointer (some ⟨b,o,none⟩)∧RepA w L gd y (.pointer (some ⟨b,o+n,none⟩)):=by
 cases hv with
 |ptr hb=>simp only [aAddr,Option.some.injEq] at hy;subst hy;exact ⟨_,_,rfl,.ptr hb⟩
 |eptr hs hk=>simp only [aAddr,Option.some.injEq] at hy;subst hy;exact ⟨_,_,rfl,by rw [Nat.add_assoc];exact .eptr hs hk⟩
 |rptr hb=>simp only [aAddr,Option.some.injEq] at hy;subst hy;exact ⟨_,_,rfl,by rw [Nat.add_assoc];exact .rptr hb⟩
 |d hd=>
  cases hd with
  |pt ds b hr=>
   simp only [aAddr,Option.some.injEq] at hy
   subst hy
   refine ⟨b,0,rfl,?_⟩
   have:=RepA.eptr (L:=L) (off:=n) hr (k:=0) (by decide)
   simpa using this
  |_=>simp [aAddr] at hy
 |_=>simp [aAddr] at hy
theorem fieldAddr_ok (hT:TysOk P T) (H:Holds w gd L g h a) {t:TypeId} {fs:List (Nat×Nat×TypeId)} {sz by_:Nat} {z:List D} (ht:lookT t T=some ⟨.struct fs,sz,by_,z⟩) {x:Operand} {f off s:Nat} {ft:TypeId} {v:AVal}
  (hf:fieldAt f fs=some (off,s+1,ft)) (hv:aAddr off (opnd g x)=some v) {o:Oper} (ho:o.op=.fieldAddr t x f):(Res.val v).Ok P w gd L g h a o:=by
 obtain ⟨fields,hu,hfs⟩:=(hT.get ht).struct rfl
 obtain ⟨b,off',hx,hrep⟩:=aAddr_ok (H.opnd x) hv
 have hg:=fieldAt_get hf
 rw [←hfs,List.getElem?_map] at hg
 cases hfd:fields.toList[f]? with
 |none=>rw [hfd] at hg;cases hg
 |some fd=>
  rw [hfd] at hg
  simp only [Option.map_some,Option.some.injEq,Prod.mk.injEq] at hg
  obtain ⟨e1,e2,e3⟩:=hg
  have hfd':fields[f]? = some fd:=by simpa using hfd
  cases hi:P.info? fd.type with
  |none=>rw [hi] at e2;simp at e2
  |some i=>
   rw [hi] at e2
   simp only at e2
   refine ⟨_,?_,hrep⟩
   simp [execOp,ho,Instr.fieldAt,run_underlying hu,hfd',Instr.sureAddr,hx,fieldPlace,Go.sizeOf,typeInfo,hi,e2,addr_add0,e1]
theorem indexAddr_ok (hT:TysOk P T) (H:Holds w gd L g h a) {t e:TypeId} {sz by_:Nat} {z:List D} (ht:lookT t T=some ⟨.slice e,sz,by_,z⟩) {d:TyD} (he:lookT e T=some d) {x k:Operand} {r:Res}
  (hr:aIndex d.size (opnd g x) (opnd g k)=some r) {o:Oper} (ho:o.op=.indexAddr t x k):r.Ok P w gd L g h a o:=by
 have hu:=(hT.get ht).slice rfl
 have hsz:=(hT.get he).sizeOf w
 have hx:=H.opnd x
 have hk:=H.opnd k
 generalize hxv:a.eval x=xv at hx
 generalize hkv:a.eval k=kv at hk
 unfold aIndex at hr
 split at hr
 ·rename_i szz n f kk kn e1 e2
  rw [e1] at hx
  rw [e2] at hk
  have:=repA_i hk
  subst this
  cases hb:Nat.beq d.size szz with
  |false=>rw [hb] at hr;cases hr
  |true=>
   rw [hb] at hr
   simp only [Option.some.injEq] at hr
   subst hr
   have hd:=Nat.eq_of_beq_eq_true hb
   intro ⟨h0,h1⟩
   have hs:=repA_sl hx
   have hs':=hs
   cases hs with
   |sl0=>omega
   |sl _ _ _ b off c cs hn hc hm hg hbb hz hcell hrep=>
    refine ⟨.pointer (some ⟨b,off+kn.toNat*szz+0,none⟩),?_,.eptr hs' (by omega)⟩
    simp [execOp,ho,Instr.indexAt,hkv,hxv,asIntOf,run_underlying hu,h0,h1,hsz,addr_add0,hd]
 ·rename_i id szz off n kk kn e1 e2
  rw [e1] at hx
  rw [e2] at hk
  have:=repA_i hk
  subst this
  cases hb:Nat.beq d.size szz with
  |false=>rw [hb] at hr;cases hr
  |true=>
   rw [hb] at hr
   simp only [Option.some.injEq] at hr
   subst hr
   have hd:=Nat.eq_of_beq_eq_true hb
   intro ⟨h0,h1⟩
   cases hx with
   |rsl hc hbb ha=>
    obtain ⟨b,hblk⟩:=hbb (by omega)
    have ha:=ha (.inr (by omega))
    subst ha
    refine ⟨.pointer (some ⟨b,(off+kn.toNat)*szz+0,none⟩),?_,.rptr hblk⟩
    simp [execOp,ho,Instr.indexAt,hkv,hxv,asIntOf,run_underlying hu,h0,h1,hsz,hblk,addr_add0,hd,Nat.add_mul]
 ·cases hr
theorem arith_ok {wr:Bool} {k:IntKind} {n:Int} {o:Oper} (hrun:(execOp a.eval o).run P w=.ok (.value (.int k (k.wrap n))) w):(arith wr k n).Ok P w gd L g h a o:=by
 cases k<;>cases wr<;>first
  |exact ⟨_,hrun,.d (.i _ _)⟩
  |(intro hc;rw [IntWalk.i64_in n hc] at hrun;exact ⟨_,hrun,.d (.i _ _)⟩)
theorem bin_run {op:BinOp} {t t':TypeId} {x y:Operand} {u v r:Value} {o:Oper} (ho:o.op=.binOp op t x y t') (hx:a.eval x=u) (hy:a.eval y=v) (hg:eqGuard op t x y u v=pure ())
  (hr:(binOp op t u v).run P w=.ok r w):(execOp a.eval o).run P w=.ok (.value r) w:=by
 simp [execOp,ho,hx,hy,hg,hr]
theorem nilP_ok (hT:TysOk P T) (H:Holds w gd L g h a) {op:BinOp} {t t' e:TypeId} {sz by_:Nat} {z:List D} (ht:lookT t T=some ⟨.pointer e,sz,by_,z⟩) {x y:Operand} (hy:isNilP (opnd g y)=true) {r:Res} (hr:aNilP op (opnd g x)=some r) {o:Oper} (ho:o.op=.binOp op t x y t'):r.Ok P w gd L g h a o:=by
 have hx:=H.opnd x
 have hyv:=H.opnd y
 unfold isNilP at hy
 split at hy
 rotate_left
 ·cases hy
 rename_i e2
 rw [e2] at hyv
 have hyv:=repA_v hyv
 obtain ⟨u,h1,h2⟩:=(hT.get ht).und
 have hu:P.underlying t=some (.pointer e):=by
  cases u<;>simp [kindOf] at h2
  subst h2
  exact h1
 have hp:P.underlying t=some (.pointer (P.pointee t)):=by
  rw [hu]
  unfold Program.pointee
  rw [hu]
 unfold aNilP at hr
 split at hr
 ·rename_i id off e1
  rw [e1] at hx
  generalize hxv:a.eval x=xv at hx
  cases hx with
  | @ptr _ _ _ b hb=>
   split at hr<;>first|(cases hr;done)|(simp only [Option.some.injEq] at hr;subst hr)
   ·exact ⟨.bool false,bin_run ho hxv hyv (by rfl) (run_eql_pointer_nil w t _ hp),.d (.b _)⟩
   ·exact ⟨.bool true,bin_run ho hxv hyv (by rfl) (run_neq_pointer_nil w t _ hp),.d (.b _)⟩
 ·rename_i ds e1
  rw [e1] at hx
  generalize hxv:a.eval x=xv at hx
  cases hx with
  |d hx=>
   cases hx with
   |pt _ b hq=>
    split at hr<;>first|(cases hr;done)|(simp only [Option.some.injEq] at hr;subst hr)
    ·exact ⟨.bool false,bin_run ho hxv hyv (by rfl) (run_eql_pointer_nil w t _ hp),.d (.b _)⟩
    ·exact ⟨.bool true,bin_run ho hxv hyv (by rfl) (run_neq_pointer_nil w t _ hp),.d (.b _)⟩
 ·rename_i e1
  rw [e1] at hx
  have hxv:=repA_v hx
  split at hr<;>first|(cases hr;done)|(simp only [Option.some.injEq] at hr;subst hr)
  ·exact ⟨.bool true,bin_run ho hxv hyv (by rfl) (run_eql_pointer_nil w t _ hp),.d (.b _)⟩
  ·exact ⟨.bool false,bin_run ho hxv hyv (by rfl) (run_neq_pointer_nil w t _ hp),.d (.b _)⟩
 ·cases hr
theorem aBin_ok (H:Holds w gd L g h a) {wr:Bool} {op:BinOp} {t t':TypeId} {x y:Operand} {r:Res} (hr:aBin wr op (opnd g x) (opnd g y)=some r) {o:Oper} (ho:o.op=.binOp op t x y t'):r.Ok P w gd L g h a o:=by
 have hx:=H.opnd x
 have hy:=H.opnd y
 unfold aBin at hr
 split at hr
 ·rename_i k a1 k' b1 e1 e2
  rw [e1] at hx
  rw [e2] at hy
  have hx:=repA_i hx
  have hy:=repA_i hy
  have run:=fun {r:Value} (hr:(binOp op t (.int k a1) (.int k' b1)).run P w=.ok r w)=>bin_run (P:=P) (w:=w) ho hx hy (by cases op<;>rfl) hr
  split at hr
  ·simp only [Option.some.injEq] at hr
   subst hr
   intro hc
   exact ⟨_,run (by simp [binOp,Op.shift,show ¬b1<0 from by omega];rfl),.d (.i _ _)⟩
  ·simp only [Option.some.injEq] at hr
   subst hr
   intro hc
   exact ⟨_,run (by simp [binOp,Op.shift,show ¬b1<0 from by omega];rfl),.d (.i _ _)⟩
  ·cases hk:kEq k k' with
   |false=>rw [hk] at hr;cases hr
   |true=>
    rw [hk] at hr
    have:=kEq_eq hk
    subst this
    simp only at hr
    unfold aBinI at hr
    split at hr<;>first|(cases hr;done)|(simp only [Option.some.injEq] at hr;subst hr)
    ·exact arith_ok (run (by simp [binOp,Op.intArith]))
    ·exact arith_ok (run (by simp [binOp,Op.intArith]))
    ·exact arith_ok (run (by simp [binOp,Op.intArith]))
    ·exact ⟨.bool (a1==b1),run (by simp [binOp,Op.intCmp]),.d (.b _)⟩
    ·exact ⟨.bool (a1 != b1),run (by simp [binOp,Op.intCmp]),.d (.b _)⟩
    ·exact ⟨.bool (decide (a1<b1)),run (by simp [binOp,Op.intCmp]),.d (.b _)⟩
    ·exact ⟨.bool (decide (a1≤b1)),run (by simp [binOp,Op.intCmp]),.d (.b _)⟩
    ·exact ⟨.bool (decide (b1<a1)),run (by simp [binOp,Op.intCmp]),.d (.b _)⟩
    ·exact ⟨.bool (decide (b1≤a1)),run (by simp [binOp,Op.intCmp]),.d (.b _)⟩
    ·exact fun hc=>⟨_,run (by simp [binOp,Op.intDiv,hc]),.d (.i _ _)⟩
    ·exact fun hc=>⟨_,run (by simp [binOp,Op.intDiv,hc]),.d (.i _ _)⟩
    ·exact ⟨_,run (by simp [binOp,Op.intBits,bitsOp]),.d (.i _ _)⟩
    ·exact ⟨_,run (by simp [binOp,Op.intBits,bitsOp]),.d (.i _ _)⟩
    ·exact ⟨_,run (by simp [binOp,Op.intBits,bitsOp]),.d (.i _ _)⟩
    ·exact ⟨_,run (by simp [binOp,Op.intBits,bitsOp]),.d (.i _ _)⟩
 ·rename_i a1 b1 e1 e2
  rw [e1] at hx
  rw [e2] at hy
  have hx:=repA_s hx
  have hy:=repA_s hy
  have run:=fun {r:Value} (hr:(binOp op t (.string ⟨a1.toArray⟩) (.string ⟨b1.toArray⟩)).run P w=.ok r w)=>bin_run (P:=P) (w:=w) ho hx hy (by cases op<;>rfl) hr
  split at hr<;>first|(cases hr;done)|(simp only [Option.some.injEq] at hr;subst hr)
  ·intro hc
   have hc':¬9223372036854775807<(a1.length:Int)+b1.length:=by omega
   refine ⟨.string (⟨a1.toArray⟩++⟨b1.toArray⟩),run (by simp [binOp,Op.stringOp,ByteArray.size_mk',hc']),?_⟩
   have e:(⟨a1.toArray⟩++⟨b1.toArray⟩:ByteArray)=⟨(a1++b1).toArray⟩:=by apply ByteArray.ext;simp
   rw [e]
   exact .d (.s _)
  ·exact ⟨.bool (a1==b1),run (by simp [binOp,Op.stringOp]),.d (.b _)⟩
  ·exact ⟨.bool (a1 != b1),run (by simp [binOp,Op.stringOp,bne]),.d (.b _)⟩
  ·exact ⟨.bool (Op.bytesLess a1 b1),run (by simp [binOp,Op.stringOp]),.d (.b _)⟩
 ·cases hr
theorem part1 {t:TypeId} {d:TyD} (hd:TyOk P t d) (hs:isStr d.kind=false) {vs:Array Value} {off:Nat} (h:off<vs.size):(part t vs off).run P w=.ok (vs.getD off undef) w:=by
 have hisAgg:=hd.isAgg w
 rw [hs] at hisAgg
 simp [part,hisAgg,h]
theorem eqF_ok (hT:TysOk P T) {l m:List AVal} {xs ys:Array Value} (hx1:xs.size=l.length) (hx2:∀i x,l[i]? = some x→RepA w L gd x (xs.getD i undef)) (hy1:ys.size=m.length) (hy2:∀i x,m[i]? = some x→RepA w L gd x (ys.getD i undef)) {n:Nat} :
  ∀ (fields : List Field) (b : Bool), (fields.all fun f => f.name != "_") = true → eqF T (fields.map fun f => (f.offset, match P.info? f.type with | some i => i.size | none => 0, f.type)) l m = some b →
   (Op.eqFields (n+1) xs ys fields).run P w=.ok b w∧(fields.all (plainF P))=true:=by
 intro fields
 induction fields with
 |nil=>intro b _ h;simp only [List.map_nil,eqF,Option.some.injEq] at h;subst h;exact ⟨by simp [Op.eqFields],rfl⟩
 |cons f fs ih=>
  intro b hn h
  simp only [List.all_cons,Bool.and_eq_true] at hn
  have hne : f.name ≠ "_" := by simpa using hn.1
  simp only [List.map_cons,eqF] at h
  have step:∀{d:TyD} {u v:Value} {e c:Bool},lookT f.type T=some d→isStr d.kind=false→f.offset<xs.size→f.offset<ys.size→xs.getD f.offset undef=u→ys.getD f.offset undef=v→(Op.equalIn (n+1) f.type u v).run P w=.ok e w→
    eqF T (fs.map fun f=>(f.offset,match P.info? f.type with|some i=>i.size|none=>0,f.type)) l m=some c→plainF P f=true→
    (Op.eqFields (n+1) xs ys (f::fs)).run P w=.ok (e&&c) w∧((f::fs).all (plainF P))=true:=by
   intro d u v e c ht hs hlx hly hu hv he hc hp
   obtain ⟨i1,i2⟩:=ih c hn.2 hc
   refine ⟨?_,by simp only [List.all_cons,hp,i2];rfl⟩
   simp only [Op.eqFields,if_pos hne,Sem.run_bind,part1 (hT.get ht) hs hlx,part1 (hT.get ht) hs hly,hu,hv,he,Result.andThen_ok]
   cases e
   ·simp
   ·simp [i1]
  split at h
  ·rename_i k0 _ _ _ ht
   split at h
   ·rename_i k a k' b' ea eb
    split at h
    ·rename_i hk
     split at h
     ·rename_i c hc
      simp only [Option.some.injEq] at h
      subst h
      have hk:=kEq_eq hk
      subst hk
      have h1:=repA_i (hx2 _ _ ea)
      have h2:=repA_i (hy2 _ _ eb)
      have hu:=(hT.get ht).int rfl
      exact step ht rfl (by rw [hx1];exact (List.getElem?_eq_some_iff.1 ea).1) (by rw [hy1];exact (List.getElem?_eq_some_iff.1 eb).1) h1 h2 (run_equalIn_int w n _ k k0 a b' hu) hc (by unfold plainF;rw [hu])
     ·cases h
    ·cases h
   ·cases h
  ·rename_i ht
   split at h
   ·rename_i a b' ea eb
    split at h
    ·rename_i c hc
     simp only [Option.some.injEq] at h
     subst h
     have h1:=repA_b (hx2 _ _ ea)
     have h2:=repA_b (hy2 _ _ eb)
     have hu:=(hT.get ht).bool rfl
     exact step ht rfl (by rw [hx1];exact (List.getElem?_eq_some_iff.1 ea).1) (by rw [hy1];exact (List.getElem?_eq_some_iff.1 eb).1) h1 h2 (run_equalIn_bool' w n _ a b' hu) hc (by unfold plainF;rw [hu])
    ·cases h
   ·cases h
  ·rename_i ht
   split at h
   ·rename_i a b' ea eb
    split at h
    ·rename_i c hc
     simp only [Option.some.injEq] at h
     subst h
     have h1:=repA_s (hx2 _ _ ea)
     have h2:=repA_s (hy2 _ _ eb)
     have hu:=(hT.get ht).string rfl
     refine step ht rfl (by rw [hx1];exact (List.getElem?_eq_some_iff.1 ea).1) (by rw [hy1];exact (List.getElem?_eq_some_iff.1 eb).1) h1 h2 ?_ hc (by unfold plainF;rw [hu])
     rw [run_equalIn_string w n _ _ _ hu,ByteArray.toList_eq,ByteArray.toList_eq]
    ·cases h
   ·cases h
  ·cases h
theorem eqF_plain (hT:TysOk P T) {l m:List AVal}:∀(fields:List Field) (b:Bool),eqF T (fields.map fun f=>(f.offset,match P.info? f.type with|some i=>i.size|none=>0,f.type)) l m=some b→
   (fields.all (plainF P))=true:=by
 intro fields
 induction fields with
 |nil=>intro b _;rfl
 |cons f fs ih=>
  intro b h
  simp only [List.map_cons,eqF] at h
  simp only [List.all_cons,Bool.and_eq_true]
  split at h
  ·rename_i ht
   split at h
   ·split at h
    ·split at h
     ·rename_i c hc;exact ⟨by unfold plainF;rw [(hT.get ht).int rfl],ih c hc⟩
     ·cases h
    ·cases h
   ·cases h
  ·rename_i ht
   split at h
   ·split at h
    ·rename_i c hc;exact ⟨by unfold plainF;rw [(hT.get ht).bool rfl],ih c hc⟩
    ·cases h
   ·cases h
  ·rename_i ht
   split at h
   ·split at h
    ·rename_i c hc;exact ⟨by unfold plainF;rw [(hT.get ht).string rfl],ih c hc⟩
    ·cases h
   ·cases h
  ·cases h
theorem eqA_ok (hT:TysOk P T) {e:TypeId} {k0:IntKind} {by_:Nat} {z:List D} (he:lookT e T=some ⟨.int k0,1,by_,z⟩) {l m:List AVal} {xs ys:Array Value} (hx1:xs.size=l.length) (hx2:∀i x,l[i]? = some x→RepA w L gd x (xs.getD i undef)) (hy1:ys.size=m.length) (hy2:∀i x,m[i]? = some x→RepA w L gd x (ys.getD i undef)) {n:Nat} :
  ∀(is:List Nat) (b:Bool),eqA is l m=some b→(Op.eqItems (n+1) e 1 xs ys is).run P w=.ok b w:=by
 intro is
 induction is with
 |nil=>intro b h;simp only [eqA,Option.some.injEq] at h;subst h;simp [Op.eqItems]
 |cons i is ih=>
  intro b h
  simp only [eqA] at h
  split at h
  ·rename_i k a k' b' ea eb
   split at h
   ·rename_i hk
    split at h
    ·rename_i c hc
     simp only [Option.some.injEq] at h
     subst h
     have hk:=kEq_eq hk
     subst hk
     have h1:=repA_i (hx2 _ _ ea)
     have h2:=repA_i (hy2 _ _ eb)
     have hu:=(hT.get he).int rfl
     have hlx:i<xs.size:=by rw [hx1];exact (List.getElem?_eq_some_iff.1 ea).1
     have hly:i<ys.size:=by rw [hy1];exact (List.getElem?_eq_some_iff.1 eb).1
     simp only [Op.eqItems,Nat.mul_one,Sem.run_bind,part1 (hT.get he) rfl hlx,part1 (hT.get he) rfl hly,h1,h2,run_equalIn_int w n e k k0 a b' hu,Result.andThen_ok]
     cases hab:(a==b')
     ·simp
     ·simp [ih c hc]
    ·cases h
   ·cases h
  ·cases h
theorem indexArr_ok (hT:TysOk P T) (H:Holds w gd L g h a) {t e:TypeId} {n sz by_:Nat} {z:List D} (ht:lookT t T=some ⟨.array n e,sz,by_,z⟩) {d:TyD} (he:lookT e T=some d) {x k:Operand} {id off:Nat} {kk:IntKind} {kn:Int} (hx:opnd g x=.ptr id off) (hk:opnd g k=.d (.i kk kn)) {o:Oper} (ho:o.op=.indexAddr t x k) :
  (Res.cond (.ptr id (off+kn.toNat*d.size)) (0≤kn∧kn<n)).Ok P w gd L g h a o:=by
 intro ⟨h0,h1⟩
 have hu:=(hT.get ht).array rfl
 have hsz:=(hT.get he).sizeOf w
 have hv:=H.opnd x
 rw [hx] at hv
 have hkv:=repA_i (hk▸H.opnd k)
 generalize hxv:a.eval x=xv at hv
 cases hv with
 | @ptr _ _ _ b hb=>
  refine ⟨.pointer (some ⟨b,off+kn.toNat*d.size,none⟩),?_,.ptr hb⟩
  simp [execOp,ho,Instr.indexAt,hkv,hxv,asIntOf,run_underlying hu,h0,h1,hsz,addr_add0,Instr.sureAddr]
theorem indexArrE_ok (hT:TysOk P T) (H:Holds w gd L g h a) {t e:TypeId} {n sz by_:Nat} {z:List D} (ht:lookT t T=some ⟨.array n e,sz,by_,z⟩) {d:TyD} (he:lookT e T=some d) {x k:Operand} {esz m:Nat} {f:Nat→List D} {j off:Nat} {kk:IntKind} {kn:Int} (hx:opnd g x=.eptr esz m f j off) (hk:opnd g k=.d (.i kk kn)) {o:Oper} (ho:o.op=.indexAddr t x k) :
  (Res.cond (.eptr esz m f j (off+kn.toNat*d.size)) (0≤kn∧kn<n)).Ok P w gd L g h a o:=by
 intro ⟨h0,h1⟩
 have hu:=(hT.get ht).array rfl
 have hsz:=(hT.get he).sizeOf w
 have hv:=H.opnd x
 rw [hx] at hv
 have hkv:=repA_i (hk▸H.opnd k)
 generalize hxv:a.eval x=xv at hv
 cases hv with
 | @eptr _ _ _ _ _ _ b o' _ _ hb hj=>
  refine ⟨.pointer (some ⟨b,o'+j*esz+(off+kn.toNat*d.size),none⟩),?_,.eptr hb hj⟩
  simp [execOp,ho,Instr.indexAt,hkv,hxv,asIntOf,run_underlying hu,h0,h1,hsz,addr_add0,Instr.sureAddr,Nat.add_assoc]
theorem indexArrR_ok (hT:TysOk P T) (H:Holds w gd L g h a) {t e:TypeId} {n sz by_:Nat} {z:List D} (ht:lookT t T=some ⟨.array n e,sz,by_,z⟩) {d:TyD} (he:lookT e T=some d) {x k:Operand} {id esz j off:Nat} {kk:IntKind} {kn:Int} (hx:opnd g x=.rptr id esz j off) (hk:opnd g k=.d (.i kk kn)) {o:Oper} (ho:o.op=.indexAddr t x k) :
  (Res.cond (.rptr id esz j (off+kn.toNat*d.size)) (0≤kn∧kn<n)).Ok P w gd L g h a o:=by
 intro ⟨h0,h1⟩
 have hu:=(hT.get ht).array rfl
 have hsz:=(hT.get he).sizeOf w
 have hv:=H.opnd x
 rw [hx] at hv
 have hkv:=repA_i (hk▸H.opnd k)
 generalize hxv:a.eval x=xv at hv
 cases hv with
 | @rptr _ _ _ _ _ b hb=>
  refine ⟨.pointer (some ⟨b,j*esz+(off+kn.toNat*d.size),none⟩),?_,.rptr hb⟩
  simp [execOp,ho,Instr.indexAt,hkv,hxv,asIntOf,run_underlying hu,h0,h1,hsz,addr_add0,Instr.sureAddr,Nat.add_assoc]
theorem cmp_ok (hT:TysOk P T) (H:Holds w gd L g h a) {op:BinOp} {t t':TypeId} {x y:Operand} {l m:List AVal} (hx:opnd g x=.agg l) (hy:opnd g y=.agg m) {r:Res} (hr:aCmp T op t l m=some r) {o:Oper} (ho:o.op=.binOp op t x y t'):r.Ok P w gd L g h a o:=by
 obtain ⟨xs,ex,x1,_,x3⟩:=repA_agg (hx▸H.opnd x)
 obtain ⟨ys,ey,y1,_,y3⟩:=repA_agg (hy▸H.opnd y)
 unfold aCmp at hr
 split at hr
 ·rename_i fs sz by_ z ht
  split at hr
  ·rename_i b hb
   obtain ⟨fields,hu,hfs⟩:=(hT.get ht).struct rfl
   have hc:=(hT.get ht).ceq
   unfold cmpOk at hc
   rw [hu] at hc
   have hfo:P.fieldsOf t=fields:=by unfold Program.fieldsOf;rw [hu]
   rw [←hfs] at hb
   have hall:(fields.toList.all (plainF P))=true:=eqF_plain hT fields.toList b hb
   simp only [hall,Bool.not_true,Bool.false_or,Bool.and_eq_true,Bool.not_eq_true'] at hc
   obtain ⟨⟨c1,c2⟩,c3⟩:=hc
   obtain ⟨e1,_⟩:=eqF_ok hT x1 x3 y1 y3 (n:=9998) fields.toList b c1 hb
   have he:(Op.equalIn 10000 t (.agg xs) (.agg ys)).run P w=.ok b w:=by
    rw [run_equalIn_struct w 9999 t xs ys (by rw [hfo];exact hu) c2,hfo];exact e1
   have hg:=fun op=>run_eqGuard_agg (P:=P) w op t x y xs ys c3
   split at hr<;>first|(cases hr;done)|(simp only [Option.some.injEq] at hr;subst hr)
   ·refine ⟨.bool b,?_,.d (.b _)⟩
    simp [execOp,ho,ex,ey,hg,run_eql_struct,he]
   ·refine ⟨.bool (!b),?_,.d (.b _)⟩
    simp [execOp,ho,ex,ey,hg,run_neq_struct,he]
  ·cases hr
 ·rename_i n e sz by_ z ht
  split at hr
  ·rename_i k0 sz2 by2 z2 he
   split at hr
   ·rename_i hsz
    split at hr
    ·rename_i b hb
     have:=Nat.eq_of_beq_eq_true hsz
     subst this
     have hu:=(hT.get ht).array rfl
     have hue:=(hT.get he).int rfl
     have hc:=(hT.get ht).ceq
     unfold cmpOk at hc
     rw [hu] at hc
     simp only [hue,Bool.not_eq_true'] at hc
     obtain ⟨i,i1,_,i3,_⟩:=(hT.get he).info'
     have hcell:P.cellsOf e=1:=by simp [Program.cellsOf,i1,i3]
     have hq:(Op.equalIn 10000 t (.agg xs) (.agg ys)).run P w=.ok b w:=by
      rw [run_equalIn_array (P:=P) (w:=w) 9999 xs ys hu i1,hcell]
      exact eqA_ok hT he x1 x3 y1 y3 (n:=9998) _ b hb
     have hg:=fun op=>run_eqGuard_agg (P:=P) w op t x y xs ys hc
     split at hr<;>first|(cases hr;done)|(simp only [Option.some.injEq] at hr;subst hr)
     ·refine ⟨.bool b,?_,.d (.b _)⟩
      simp [execOp,ho,ex,ey,hg,run_eql_struct,hq]
     ·refine ⟨.bool (!b),?_,.d (.b _)⟩
      simp [execOp,ho,ex,ey,hg,run_neq_struct,hq]
    ·cases hr
   ·cases hr
  ·cases hr
 ·cases hr
theorem nil_ok (hT:TysOk P T) (H:Holds w gd L g h a) {op:BinOp} {t t' e:TypeId} {sz by_:Nat} {z:List D} (ht:lookT t T=some ⟨.slice e,sz,by_,z⟩) {x y:Operand} (hy:isNil (opnd g y)=true) {r:Res} (hr:aNil op (opnd g x)=some r) {o:Oper} (ho:o.op=.binOp op t x y t'):r.Ok P w gd L g h a o:=by
 have hu:=(hT.get ht).slice rfl
 have hx:=H.opnd x
 have hyv:a.eval y=.slice none 0 0:=by
  have hv:=H.opnd y
  unfold isNil at hy
  split at hy
  ·rename_i e;rw [e] at hv;exact repA_v hv
  ·cases hy
 have sl:∀(A:Option Addr) (n c:Nat),a.eval x=.slice A n c→(op=.eql→(execOp a.eval o).run P w=.ok (.value (.bool A.isNone)) w)∧(op=.neq→(execOp a.eval o).run P w=.ok (.value (.bool (!A.isNone))) w):=by
  intro A n c hxv
  refine ⟨fun hop=>?_,fun hop=>?_⟩
  ·subst hop
   have:=Lib.run_eql_slice_nil (P:=P) w t e A n c 0 0 hu
   exact bin_run ho hxv hyv rfl this
  ·subst hop
   have:=run_neq_slice_nil (P:=P) w t e A n c hu
   exact bin_run ho hxv hyv rfl this
 unfold aNil at hr
 split at hr
 ·rename_i sz' n f e
  rw [e] at hx
  have hs:=repA_sl hx
  generalize hxv:a.eval x=xv at hs
  have key:∃A c,xv=.slice A n c∧(0<n→A.isNone=false):=by
   cases hs with
   |sl0=>exact ⟨_,_,rfl,fun h=>by omega⟩
   |sl=>exact ⟨_,_,rfl,fun _=>rfl⟩
  obtain ⟨A,c,rfl,hA⟩:=key
  obtain ⟨k1,k2⟩:=sl A n c hxv
  split at hr<;>first|(cases hr;done)|(simp only [Option.some.injEq] at hr;subst hr)
  ·exact ⟨_,k1 rfl,hA⟩
  ·exact ⟨_,k2 rfl,fun h=>by rw [hA h];rfl⟩
 ·rename_i id sz' q n e
  rw [e] at hx
  generalize hxv:a.eval x=xv at hx
  have key:∃A c,xv=.slice A n c∧(0<n→A.isNone=false):=by
   cases hx with
   |rsl hc hb ha=>
    refine ⟨_,_,rfl,fun h=>?_⟩
    obtain ⟨b,hb⟩:=hb h
    rw [ha (.inr (by omega)),hb];rfl
  obtain ⟨A,c,rfl,hA⟩:=key
  obtain ⟨k1,k2⟩:=sl A n c hxv
  split at hr<;>first|(cases hr;done)|(simp only [Option.some.injEq] at hr;subst hr)
  ·exact ⟨_,k1 rfl,hA⟩
  ·exact ⟨_,k2 rfl,fun h=>by rw [hA h];rfl⟩
 ·rename_i e
  rw [e] at hx
  obtain ⟨k1,k2⟩:=sl none 0 0 (repA_v hx)
  split at hr<;>first|(cases hr;done)|(simp only [Option.some.injEq] at hr;subst hr)
  ·exact ⟨_,k1 rfl,.d (.b _)⟩
  ·exact ⟨_,k2 rfl,.d (.b _)⟩
 ·cases hr
theorem unNot_ok (H:Holds w gd L g h a) {t:TypeId} {x:Operand} {b:Bool} (hx:opnd g x=.d (.b b)) {o:Oper} (ho:o.op=.unOp .not t x):(Res.val (.d (.b (!b)))).Ok P w gd L g h a o:=by
 have:=repA_b (hx▸H.opnd x)
 exact ⟨.bool (!b),by simp [execOp,ho,this,Op.unary],.d (.b _)⟩
theorem unNeg_ok (H:Holds w gd L g h a) {wr:Bool} {t:TypeId} {x:Operand} {k:IntKind} {n:Int} (hx:opnd g x=.d (.i k n)) {o:Oper} (ho:o.op=.unOp .neg t x):(arith wr k (0-n)).Ok P w gd L g h a o:=by
 have:=repA_i (hx▸H.opnd x)
 exact arith_ok (by simp [execOp,ho,this,Op.unary,Op.intArith])
theorem convInt_ok (hT:TysOk P T) (H:Holds w gd L g h a) {wr:Bool} {src dst:TypeId} {ds:TyD} {k k':IntKind} {sz by_:Nat} {z:List D} (hs:lookT src T=some ds) (hd:lookT dst T=some ⟨.int k,sz,by_,z⟩) {x:Operand} {n:Int} (hx:opnd g x=.d (.i k' n)) {o:Oper}
  (ho:o.op=.convert src dst x):(arith wr k n).Ok P w gd L g h a o:=by
 have hv:=repA_i (hx▸H.opnd x)
 obtain ⟨u,hu,_⟩:=(hT.get hs).und
 exact arith_ok (by simp [execOp,ho,hv,convert,run_underlying hu,run_underlying ((hT.get hd).int rfl),Conv.intToInt])
theorem convStr_ok (hT:TysOk P T) (H:Holds w gd L g h a) {src dst:TypeId} {sz by_ sz' by_':Nat} {z z':List D} (hs:lookT src T=some ⟨.string,sz',by_',z'⟩) (hd:lookT dst T=some ⟨.string,sz,by_,z⟩) {x:Operand} {l:List UInt8} (hx:opnd g x=.d (.s l)) {o:Oper}
  (ho:o.op=.convert src dst x):(Res.val (.d (.s l))).Ok P w gd L g h a o:=by
 have hv:=repA_s (hx▸H.opnd x)
 exact ⟨_,by simp [execOp,ho,hv,convert,run_underlying ((hT.get hs).string rfl),run_underlying ((hT.get hd).string rfl)],.d (.s _)⟩
theorem extract_mk' (l:List UInt8) (x y:Nat) (h:x≤y):(ByteArray.mk l.toArray).extract x y=⟨((l.take y).drop x).toArray⟩:=by
 rw [ByteArray.extract_mk,List.drop_take]
theorem optI_ok (H:Holds w gd L g h a) {x:Option Operand} {r:Option Int} (hx:optI g x=some r):(x.map a.eval=none∧r=none)∨∃k n,x.map a.eval=some (.int k n)∧r=some n:=by
 cases x with
 |none=>left;simp [optI] at hx;exact ⟨rfl,hx.symm⟩
 |some x=>
  right
  have hv:=H.opnd x
  simp only [optI] at hx
  split at hx
  ·rename_i k n e
   rw [e] at hv
   simp only [Option.some.injEq] at hx
   exact ⟨k,n,by simp [repA_i hv],hx.symm⟩
  ·cases hx
theorem bounds_ok {lo hi:Option Value} {ra rb:Option Int} (hlo:(lo=none∧ra=none)∨∃k n,lo=some (.int k n)∧ra=some n) (hhi:(hi=none∧rb=none)∨∃k n,hi=some (.int k n)∧rb=some n) (n c:Nat) (hn:n≤c) (isS:Bool) (w:World)
  (hq:∀q,(sliceOf n ra rb).2.2=some q→q):(Instr.sliceBounds isS n c lo hi none).run P w=.ok ((sliceOf n ra rb).1,(sliceOf n ra rb).2.1,c) w∧(sliceOf n ra rb).1≤(sliceOf n ra rb).2.1∧(sliceOf n ra rb).2.1≤n:=by
 rcases hlo with ⟨rfl,rfl⟩|⟨k,x,rfl,rfl⟩<;>rcases hhi with ⟨rfl,rfl⟩|⟨k',y,rfl,rfl⟩
 ·exact ⟨by simp [Instr.sliceBounds,sliceOf],by simp [sliceOf],by simp [sliceOf]⟩
 ·have hc:0≤y∧y≤(n:Int):=hq _ rfl
  refine ⟨?_,by simp [sliceOf],by simp only [sliceOf];omega⟩
  simp only [Instr.sliceBounds,Instr.sliceBound,sliceOf,asIntOf,Sem.run_bind,Sem.run_pure,Result.andThen_ok,Sem.run_ite,if_pos (show 0≤y∧y≤(c:Int) from by omega)]
 ·have hc:0≤x∧x≤(n:Int):=hq _ rfl
  refine ⟨?_,by simp only [sliceOf];omega,by simp [sliceOf]⟩
  simp only [Instr.sliceBounds,Instr.sliceBound,sliceOf,asIntOf,Sem.run_bind,Sem.run_pure,Result.andThen_ok,Sem.run_ite,if_pos (show 0≤x∧x≤(n:Int) from hc)]
 ·have hc:0≤x∧x≤y∧y≤(n:Int):=hq _ rfl
  refine ⟨?_,by simp only [sliceOf];omega,by simp only [sliceOf];omega⟩
  simp only [Instr.sliceBounds,Instr.sliceBound,sliceOf,asIntOf,Sem.run_bind,Sem.run_pure,Result.andThen_ok,Sem.run_ite,if_pos (show 0≤y∧y≤(c:Int) from by omega),
   if_pos (show 0≤x∧x≤((y.toNat:Nat):Int) from by omega)]
theorem mkCond_ok {v:AVal} {c:Option Prop} {o:Oper} (h1:(∀q,c=some q→q)→∃u,(execOp a.eval o).run P w=.ok (.value u) w∧RepA w L gd v u):(mkCond v c).Ok P w gd L g h a o:=by
 cases c with
 |none=>exact h1 (fun q hq=>by cases hq)
 |some c=>exact fun hc=>h1 (fun q hq=>by cases hq;exact hc)
theorem cutS_eq (l:List UInt8) (ra rb:Option Int):cutS l ra rb=(l.take (sliceOf l.length ra rb).2.1).drop (sliceOf l.length ra rb).1:=by
 cases ra<;>cases rb<;>simp [cutS,sliceOf]
theorem sliceStr_ok (hT:TysOk P T) (H:Holds w gd L g h a) {t:TypeId} {sz by_:Nat} {z:List D} (ht:lookT t T=some ⟨.string,sz,by_,z⟩) {x:Operand} {lo hi:Option Operand} {ra rb:Option Int} {l:List UInt8} (hx:opnd g x=.d (.s l)) {r:Res}
  (hlo:optI g lo=some ra) (hhi:optI g hi=some rb) (hr:aSlice (.d (.s l)) ra rb=some r) {o:Oper} (ho:o.op=.slice t x lo hi none):r.Ok P w gd L g h a o:=by
 have hv:=repA_s (hx▸H.opnd x)
 have hu:=(hT.get ht).string rfl
 have hsz:(ByteArray.mk l.toArray).size=l.length:=by simp [ByteArray.size]
 simp only [aSlice,Option.some.injEq] at hr
 subst hr
 refine mkCond_ok fun hq=>?_
 obtain ⟨h1,h2,h3⟩:=bounds_ok (P:=P) (optI_ok H hlo) (optI_ok H hhi) l.length l.length (Nat.le_refl _) false w hq
 refine ⟨.string ⟨(cutS l ra rb).toArray⟩,?_,.d (.s _)⟩
 rw [cutS_eq,←extract_mk' l _ _ h2]
 simp [execOp,ho,hv,Instr.sliceAt,Instr.slice,run_underlying hu,hsz,h1]
theorem sliceSl_ok (hT:TysOk P T) (H:Holds w gd L g h a) {t e:TypeId} {sz' by_:Nat} {z:List D} (ht:lookT t T=some ⟨.slice e,sz',by_,z⟩) {d:TyD} (he:lookT e T=some d) {x:Operand} {lo hi:Option Operand} {ra rb:Option Int} {sz n:Nat} {f:Nat→List D} (hd:d.size=sz) (hx:opnd g x=.d (.sl sz n f)) {r:Res}
  (hlo:optI g lo=some ra) (hhi:optI g hi=some rb) (hr:aSlice (.d (.sl sz n f)) ra rb=some r) {o:Oper} (ho:o.op=.slice t x lo hi none):r.Ok P w gd L g h a o:=by
 have hu:=(hT.get ht).slice rfl
 have hsize:=(hT.get he).sizeOf w
 have hv:=H.opnd x
 rw [hx] at hv
 have hs:=repA_sl hv
 generalize hxv:a.eval x=xv at hs
 have key:(∀q,(sliceOf n ra rb).2.2=some q→q)→∃u,(execOp a.eval o).run P w=.ok (.value u) w∧RepA w L gd (.d (.sl sz ((sliceOf n ra rb).2.1-(sliceOf n ra rb).1) fun k=>f ((sliceOf n ra rb).1+k))) u:=by
  intro hq
  generalize hA:(sliceOf n ra rb).1=A at *
  generalize hB:(sliceOf n ra rb).2.1=B at *
  cases hs with
  |sl0 _ _ ad c hc=>
   obtain ⟨h1,h2,h3⟩:=bounds_ok (P:=P) (optI_ok H hlo) (optI_ok H hhi) 0 c (Nat.zero_le _) true w hq
   rw [hA,hB] at h1 h2
   rw [hB] at h3
   have:B=0:=by omega
   subst this
   have:A=0:=by omega
   subst this
   refine ⟨.slice (if c=0 then ad else ad.map (·.add (0*d.size))) (0-0) (c-0),?_,.d (.sl0 _ _ _ _ hc)⟩
   simp [execOp,ho,hxv,Instr.sliceAt,Instr.slice,run_underlying hu,h1,hsize]
  |sl _ _ _ b off c cs hn hc hm hg hb hz hcell hrep=>
   obtain ⟨h1,h2,h3⟩:=bounds_ok (P:=P) (optI_ok H hlo) (optI_ok H hhi) n c hc true w hq
   rw [hA,hB] at h1 h2
   rw [hB] at h3
   refine ⟨.slice (if c=A then some ⟨b,off,none⟩ else some ⟨b,off+A*d.size,none⟩) (B-A) (c-A),?_,?_⟩
   ·simp only [execOp,ho,hxv,Option.map_none,Instr.sliceAt,Instr.slice,run_underlying hu,Sem.run_bind,Sem.run_pure,Result.andThen_ok,h1,hsize]
    by_cases hcA:c=A
    ·simp [hcA]
    ·simp [hcA,addr_add0]
   ·by_cases hz0:B-A=0
    ·rw [hz0];exact .d (.sl0 _ _ _ _ (by omega))
    ·rw [if_neg (by omega),hd]
     refine .d (.sl _ _ _ b _ _ (fun k j=>cs (A+k) j) (by omega) (by omega) (by omega) hg hb (fun k hk=>hz _ (by omega)) (fun k hk j hj=>?_) (fun k hk=>hrep _ (by omega)))
     rw [←hcell (A+k) (by omega) j hj,Nat.add_mul]
     congr 2
     omega
 unfold aSlice at hr
 simp only at hr
 generalize hso:sliceOf n ra rb=so at hr key
 obtain ⟨A,B,c⟩:=so
 simp only at hr key
 cases A with
 |zero=>
  simp only [Option.some.injEq] at hr
  subst hr
  refine mkCond_ok fun hq=>?_
  have:=key hq
  simpa using this
 |succ A=>
  simp only [Option.some.injEq] at hr
  subst hr
  exact mkCond_ok key
theorem sliceRsl_ok (hT:TysOk P T) (H:Holds w gd L g h a) {t e:TypeId} {sz' by_:Nat} {z:List D} (ht:lookT t T=some ⟨.slice e,sz',by_,z⟩) {d:TyD} (he:lookT e T=some d) {x:Operand} {lo hi:Option Operand} {ra rb:Option Int} {id sz q n:Nat} (hd:d.size=sz) (hx:opnd g x=.rsl id sz q n) {r:Res}
  (hlo:optI g lo=some ra) (hhi:optI g hi=some rb) (hr:aSlice (.rsl id sz q n) ra rb=some r) {o:Oper} (ho:o.op=.slice t x lo hi none):r.Ok P w gd L g h a o:=by
 have hu:=(hT.get ht).slice rfl
 have hsize:=(hT.get he).sizeOf w
 have hv:=H.opnd x
 rw [hx] at hv
 generalize hxv:a.eval x=xv at hv
 have key:(∀q,(sliceOf n ra rb).2.2=some q→q)→∃u,(execOp a.eval o).run P w=.ok (.value u) w∧RepA w L gd (.rsl id sz (q+(sliceOf n ra rb).1) ((sliceOf n ra rb).2.1-(sliceOf n ra rb).1)) u:=by
  intro hq
  generalize hA:(sliceOf n ra rb).1=A at *
  generalize hB:(sliceOf n ra rb).2.1=B at *
  cases hv with
  | @rsl _ _ _ _ _ ad hc hb ha=>
   obtain ⟨h1,h2,h3⟩:=bounds_ok (P:=P) (optI_ok H hlo) (optI_ok H hhi) n (L.cap id-q) (by omega) true w hq
   rw [hA,hB] at h1 h2
   rw [hB] at h3
   refine ⟨.slice (if L.cap id-q=A then ad else ad.map (·.add (A*d.size))) (B-A) (L.cap id-q-A),?_,?_⟩
   ·simp [execOp,ho,hxv,Instr.sliceAt,Instr.slice,run_underlying hu,h1,hsize]
   ·rw [Nat.sub_sub]
    refine .rsl (by omega) (fun h=>hb (by omega)) fun h=>?_
    rcases h with h|h
    ·have hq0:q=0:=by omega
     have hA0:A=0:=by omega
     subst hq0
     subst hA0
     have:=ha (.inl rfl)
     subst this
     split
     ·simp
     ·cases L.blk id<;>simp [addr_add0]
    ·have:=ha (.inr (by omega))
     subst this
     rw [if_neg (by omega)]
     cases L.blk id with
     |none=>simp
     |some b=>simp [hd,Nat.add_mul,addr_add0]
 unfold aSlice at hr
 simp only at hr
 generalize hso:sliceOf n ra rb=so at hr key
 obtain ⟨A,B,c⟩:=so
 simp only at hr key
 cases A with
 |zero=>
  simp only [Option.some.injEq] at hr
  subst hr
  refine mkCond_ok fun hq=>?_
  have:=key hq
  simpa using this
 |succ A=>
  simp only [Option.some.injEq] at hr
  subst hr
  exact mkCond_ok key
theorem index_ok (hT:TysOk P T) (H:Holds w gd L g h a) {t:TypeId} {sz by_:Nat} {z:List D} (ht:lookT t T=some ⟨.string,sz,by_,z⟩) {x k:Operand} {l:List UInt8} {kk:IntKind} {n:Int} (hx:opnd g x=.d (.s l)) (hk:opnd g k=.d (.i kk n)) {o:Oper} (ho:o.op=.index t x k) :
  (Res.cond (.d (.i .u8 ((l.getD n.toNat 0).toNat:Nat))) (0≤n∧n<l.length)).Ok P w gd L g h a o:=by
 intro ⟨h0,h1⟩
 have hv:=repA_s (hx▸H.opnd x)
 have hkv:=repA_i (hk▸H.opnd k)
 have hlt:n.toNat<l.length:=by omega
 refine ⟨_,?_,.d (.i _ _)⟩
 have hget:(ByteArray.mk l.toArray)[n.toNat]? = some (l.getD n.toNat 0):=by
  have hs:n.toNat<(ByteArray.mk l.toArray).size:=by simpa [ByteArray.size] using hlt
  rw [getElem?_pos (ByteArray.mk l.toArray) n.toNat hs]
  simp [ByteArray.getElem_eq_getElem_data,List.getD_eq_getElem?_getD,hlt]
 simp [execOp,ho,hv,hkv,Instr.index,asIntOf,run_underlying ((hT.get ht).string rfl),h0,hget]
theorem field_ok (hT:TysOk P T) (H:Holds w gd L g h a) {t ft:TypeId} {fs:List (Nat×Nat×TypeId)} {sz by_:Nat} {z:List D} (ht:lookT t T=some ⟨.struct fs,sz,by_,z⟩) {x:Operand} {f off s:Nat} {v:AVal} {l:List AVal} {d:TyD}
  (hf:fieldAt f fs=some (off,s,ft)) (hft:lookT ft T=some d) (hx:opnd g x=.agg l) (hv:aPart d (dropF off l)=some v) {o:Oper} (ho:o.op=.field t x f):(Res.val v).Ok P w gd L g h a o:=by
 obtain ⟨fields,hu,hfs⟩:=(hT.get ht).struct rfl
 obtain ⟨vs,hvs,k1,k2,k3⟩:=repA_agg (hx▸H.opnd x)
 have hg:=fieldAt_get hf
 have hd:=hT.get hft
 rw [←hfs,List.getElem?_map] at hg
 cases hfd:fields.toList[f]? with
 |none=>rw [hfd] at hg;cases hg
 |some fd=>
  rw [hfd] at hg
  simp only [Option.map_some,Option.some.injEq,Prod.mk.injEq] at hg
  obtain ⟨e1,e2,e3⟩:=hg
  have hfd':fields[f]? = some fd:=by simpa using hfd
  unfold aPart at hv
  rw [dropF_eq] at hv
  cases htk:takeF d.size (l.drop off) with
  |none=>rw [htk] at hv;cases hv
  |some m=>
   rw [htk] at hv
   obtain ⟨hm,hlen⟩:=takeF_eq htk
   rw [List.length_drop] at hlen
   have hisAgg:=hd.isAgg w
   have hmlen:m.length=d.size:=by rw [hm,List.length_take,List.length_drop];omega
   have hmget:∀(i:Nat) (y:AVal),m[i]? = some y→l[off+i]? = some y∧i<d.size:=by
    intro i y hy
    have hi:i<d.size:=by rw [←hmlen];exact (List.getElem?_eq_some_iff.1 hy).1
    rw [hm,List.getElem?_take,if_pos hi,List.getElem?_drop] at hy
    exact ⟨hy,hi⟩
   cases hs:isStr d.kind with
   |true=>
    rw [hs] at hv hisAgg
    simp only [Option.some.injEq] at hv
    subst hv
    have hext:∀i,i<d.size→off+i<vs.size→(vs.extract off (off+d.size)).getD i undef=vs.getD (off+i) undef:=by
     intro i hi hv
     rw [Array.getD_eq_getD_getElem?,Array.getD_eq_getD_getElem?,Array.getElem?_extract,if_pos (by omega)]
    refine ⟨.agg (vs.extract off (off+d.size)),?_,.agg (by simp;omega) (fun i hi=>?_) (fun i y hy=>?_)⟩
    ·simp [execOp,ho,hvs,Instr.field,run_underlying hu,hfd',part,asAgg,e1,e3,hisAgg,hd.sizeOf w]
    ·rw [hext i (by omega) (by omega)];exact k2 _ (by omega)
    ·obtain ⟨h1,h2⟩:=hmget i y hy
     rw [hext i h2 (by omega)];exact k3 _ _ h1
   |false=>
    rw [hs] at hv hisAgg
    cases m with
    |nil=>cases hv
    |cons y r=>
     cases r with
     |cons _ _=>cases hv
     |nil=>
      simp only [Option.some.injEq] at hv
      subst hv
      obtain ⟨h1,h2⟩:=hmget 0 y rfl
      have hlt:off<vs.size:=by omega
      refine ⟨vs.getD off undef,?_,k3 _ _ h1⟩
      simp [execOp,ho,hvs,Instr.field,run_underlying hu,hfd',part,asAgg,e1,e3,hisAgg,hlt]
theorem minmax_ok (H:Holds w gd L g h a) {x y:Operand} {k k':IntKind} {n m:Int} (hx:opnd g x=.d (.i k n)) (hy:opnd g y=.d (.i k' m)) {as:Array Operand} (has:as.toList=[x,y]) {ts:Array TypeId} {o:Oper} :
  (o.op=.call { callee:=.builtin .min,args:=as,argTypes:=ts}→(Res.val (.d (.i k (min n m)))).Ok P w gd L g h a o)∧(o.op=.call { callee:=.builtin .max,args:=as,argTypes:=ts}→(Res.val (.d (.i k (max n m)))).Ok P w gd L g h a o):=by
 have hv:=repA_i (hx▸H.opnd x)
 have hw:=repA_i (hy▸H.opnd y)
 obtain ⟨l⟩:=as
 simp only at has
 subst has
 refine ⟨fun ho=>⟨_,?_,.d (.i _ _)⟩,fun ho=>⟨_,?_,.d (.i _ _)⟩⟩
 ·have:(if m<n then m else n)=min n m:=by omega
  simp [execOp,ho,resolve,invoke,builtin,Builtin.min_,Builtin.min2,hv,hw,this]
 ·have:(if n<m then m else n)=max n m:=by omega
  simp [execOp,ho,resolve,invoke,builtin,Builtin.max_,Builtin.max2,hv,hw,this]
theorem lenStr_ok (hT:TysOk P T) (H:Holds w gd L g h a) {t:TypeId} {sz by_:Nat} {z:List D} (ht:lookT t T=some ⟨.string,sz,by_,z⟩) {x:Operand} {l:List UInt8} (hx:opnd g x=.d (.s l)) {as:Array Operand} {ts:Array TypeId} (has:as.toList=[x]) (hts:ts.toList=[t]) {o:Oper}
  (ho:o.op=.call { callee:=.builtin .len,args:=as,argTypes:=ts}):(Res.val (.d (.i .i64 l.length))).Ok P w gd L g h a o:=by
 have hv:=repA_s (hx▸H.opnd x)
 obtain ⟨l1⟩:=as
 obtain ⟨l2⟩:=ts
 simp only at has hts
 subst has hts
 have hsz:(ByteArray.mk l.toArray).size=l.length:=by simp [ByteArray.size]
 exact ⟨.int .i64 l.length,by simp [execOp,ho,resolve,invoke,builtin,Builtin.len_,hv,run_underlying ((hT.get ht).string rfl),goInt,hsz],.d (.i _ _)⟩
theorem lenSl_ok (hT:TysOk P T) {t e:TypeId} {sz by_:Nat} {z:List D} (ht:lookT t T=some ⟨.slice e,sz,by_,z⟩) {x:Operand} {A:Option Addr} {n c:Nat} (hx:a.eval x=.slice A n c) {as:Array Operand} {ts:Array TypeId} (has:as.toList=[x]) (hts:ts.toList=[t]) {o:Oper}
  (ho:o.op=.call { callee:=.builtin .len,args:=as,argTypes:=ts}):(Res.val (.d (.i .i64 n))).Ok P w gd L g h a o:=by
 obtain ⟨l1⟩:=as
 obtain ⟨l2⟩:=ts
 simp only at has hts
 subst has hts
 exact ⟨.int .i64 n,by simp [execOp,ho,resolve,invoke,builtin,Builtin.len_,hx,run_underlying ((hT.get ht).slice rfl),goInt],.d (.i _ _)⟩
theorem capNil_ok (hT:TysOk P T) {t e:TypeId} {sz by_:Nat} {z:List D} (ht:lookT t T=some ⟨.slice e,sz,by_,z⟩) {x:Operand} {c:Nat} (hx:a.eval x=.slice none 0 c) {as:Array Operand} {ts:Array TypeId} (has:as.toList=[x]) (hts:ts.toList=[t]) {o:Oper}
  (ho:o.op=.call { callee:=.builtin .cap,args:=as,argTypes:=ts}):(Res.val (.d (.i .i64 c))).Ok P w gd L g h a o:=by
 obtain ⟨l1⟩:=as
 obtain ⟨l2⟩:=ts
 simp only at has hts
 subst has hts
 exact ⟨.int .i64 c,by simp [execOp,ho,resolve,invoke,builtin,Builtin.cap_,hx,run_underlying ((hT.get ht).slice rfl),goInt],.d (.i _ _)⟩
end
section
variable {P : Program} {T : Tys} {w : World} {gd : Nat → Prop} {L : Lay} {g : Nat → AVal} {h : Nat → Option AObj} {a : Act}
theorem unlift_len {vs:List AVal} {us:List D} (h:unliftF vs=some us):vs.length=us.length:=by rw [unliftF_eq h];simp
theorem elems_ok (hT:TysOk P T) (H:Holds w gd L g h a) {e:TypeId} {d:TyD} (he:lookT e T=some d):∀(ps:List (Nat×Operand)) (l l':List (List D)) (cs:Array Value),aElems d g ps l=some l'→cs.size=l.length*d.size→
  (∀k,k<l.length→(l.getD k []).length=d.size)→(∀k,k<l.length→∀(j:Nat) x,(l.getD k [])[j]? = some x→RepD w gd x (cs.getD (k*d.size+j) undef))→
  ∃cs',Instr.fill (fun i=>some (i*d.size,d.size)) cs (ps.map fun p=>(p.1,a.eval p.2))=some cs'∧l'.length=l.length∧cs'.size=l'.length*d.size∧
   (∀k,k<l'.length→(l'.getD k []).length=d.size)∧∀k,k<l'.length→∀(j:Nat) x,(l'.getD k [])[j]? = some x→RepD w gd x (cs'.getD (k*d.size+j) undef):=by
 intro ps
 induction ps with
 |nil=>intro l l' cs hp hz h1 hr;simp only [aElems,Option.some.injEq] at hp;subst hp;exact ⟨cs,rfl,rfl,hz,h1,hr⟩
 |cons p ps ih=>
  intro l l' cs hp hz h1 hr
  obtain ⟨j,x⟩:=p
  simp only [aElems] at hp
  cases hs:aStored d (opnd g x) with
  |none=>rw [hs] at hp;cases hp
  |some vs=>
   rw [hs] at hp
   simp only at hp
   cases hb:Nat.beq vs.length d.size with
   |false=>rw [hb] at hp;cases hp
   |true=>
    rw [hb] at hp
    simp only at hp
    cases hu:unliftF vs with
    |none=>rw [hu] at hp;cases hp
    |some us=>
     rw [hu] at hp
     simp only at hp
     cases hset:setF j us l with
     |none=>rw [hset] at hp;cases hp
     |some m=>
      rw [hset] at hp
      obtain ⟨hj,rfl⟩:=setF_eq hset
      have hlen:=Nat.eq_of_beq_eq_true hb
      have hul:=unlift_len hu
      have hul':=unliftF_eq hu
      obtain ⟨s1,s2,s3⟩:=aStored_ok hT he (H.opnd x) hs
      have hfit:j*d.size+(a.eval x).cells.size≤cs.size:=by
       rw [hz,s1,hlen]
       have:=Nat.mul_le_mul_right d.size (show j+1≤l.length from hj)
       rw [Nat.add_mul] at this;omega
      obtain ⟨f1,f2⟩:=fold_over (a.eval x).cells.toList 0 (j*d.size) cs (by simpa using hfit)
      simp only [Nat.add_zero,Array.length_toList] at f1 f2
      obtain ⟨cs',r1,r2,r3⟩:=ih (l.set j us) l' _ hp (by rw [f1];simpa using hz) (fun k hk=>by
        simp only [List.length_set] at hk
        simp only [List.getD_eq_getElem?_getD,List.getElem?_set]
        by_cases e:j=k
        ·subst e;simp [hj];omega
        ·simpa [e,List.getD_eq_getElem?_getD] using h1 k hk) (fun k hk i y hy=>by
        simp only [List.length_set] at hk
        rw [f2]
        by_cases e:j=k
        ·subst e
         have hy':us[i]? = some y:=by simpa [List.getD_eq_getElem?_getD,List.getElem?_set,hj] using hy
         have hi:i<us.length:=(List.getElem?_eq_some_iff.1 hy').1
         rw [if_pos (by omega)]
         have h3:=s3 i (.d y) (by rw [hul',List.getElem?_map,hy'];rfl)
         cases h3 with
         |d h3=>
          rw [show j*d.size+i-j*d.size=i from by omega]
          simpa [List.getD_eq_getElem?_getD,Array.getD_eq_getD_getElem?] using h3
        ·have hy':(l.getD k [])[i]? = some y:=by simpa [List.getD_eq_getElem?_getD,List.getElem?_set,e] using hy
         have hi:i<d.size:=by rw [←h1 k hk];exact (List.getElem?_eq_some_iff.1 hy').1
         rw [if_neg (by
          rintro ⟨q1,q2⟩
          rcases Nat.lt_or_gt_of_ne e with h3|h3
          ·have:=Nat.mul_le_mul_right d.size (show j+1≤k from h3)
           rw [Nat.add_mul] at this;omega
          ·have:=Nat.mul_le_mul_right d.size (show k+1≤j from h3)
           rw [Nat.add_mul] at this;omega)]
         exact hr k hk i y hy')
      refine ⟨cs',?_,by simpa using r2,r3⟩
      simp only [List.map_cons,Instr.fill]
      rw [if_neg (by simp;omega)]
      rw [←Array.foldl_toList,Array.toList_zipIdx]
      exact r1
theorem zeros_get (z:Array Value) (n k j:Nat) (hk:k<n) (hj:j<z.size):(madeCells z (n*z.size)).getD (k*z.size+j) undef=z.getD j undef:=by
 have hlt:k*z.size+j<n*z.size:=by
  have:=Nat.mul_le_mul_right z.size (show k+1≤n from hk)
  rw [Nat.add_mul] at this;omega
 have hmod:(k*z.size+j) % z.size=j:=by rw [Nat.add_comm,Nat.add_mul_mod_self_right];exact Nat.mod_eq_of_lt hj
 simp [madeCells,Array.getD_eq_getD_getElem?,hlt,hmod,hj]
theorem row_makes {o:Oper} {e:TypeId} {sz n c:Nat} {f:Nat→List D} {cs:Array Value} (hrun:(execOp a.eval o).run P w=.ok (.value (.slice (some ⟨w.heap.size,0,none⟩) n c)) (w.alloc (.cells cs e)))
  (hnc:n≤c) (hcm:c≤maxLen) (hz:cs.size=c*sz) (hf:∀k,k<n→(f k).length=sz) (hr:∀k,k<n→∀(j:Nat) x,(f k)[j]? = some x→RepD w gd x (cs.getD (k*sz+j) undef)) (d:Nat) (he:e<markT) :
  MakesOk P w gd L a o d (.rsl d sz 0 n) (.row e sz n f):=by
 refine ⟨_,some w.heap.size,c,_,hrun,(Below.refl _ _).alloc (Nat.le_refl _) _,fun b hb=>by cases hb;simp,fun gd' hst _=>⟨?_,?_⟩⟩
 ·refine .row (b:=w.heap.size) (cs:=cs) (by simp [Lay.upd]) (heap_alloc_new w _) (by simpa [Lay.upd] using hnc) (by simpa [Lay.upd] using hcm) (by simpa [Lay.upd] using hz) hf (fun k hk j x hx=>(hr k hk j x hx).mono (by simp) hst) (fun _=>rfl) (.inl rfl) (fun m hm=>absurd he (Nat.not_lt.2 (hm▸Nat.le_trans (show markT≤arT by decide) (Nat.le_add_right arT m))))
 ·have:RepA (w.alloc (.cells cs e)) (L.upd d (some w.heap.size) c) gd' (.rsl d sz 0 n) (.slice (((L.upd d (some w.heap.size) c).blk d).map fun b=>⟨b,0*sz,none⟩) n ((L.upd d (some w.heap.size) c).cap d-0)):=
   .rsl (by simpa [Lay.upd] using hnc) (fun _=>⟨_,by simp [Lay.upd];rfl⟩) (fun _=>rfl)
  simpa [Lay.upd] using this
theorem boxrow_makes {o:Oper} {e:TypeId} {sz n:Nat} {cells:List AVal} {cs:Array Value} (hrun:(execOp a.eval o).run P w=.ok (.value (.slice (some ⟨w.heap.size,0,none⟩) n n)) (w.alloc (.cells cs e)))
  (hz:cs.size=cells.length) (h1:∀i,i<cells.length→(cs.getD i undef).oneCell'=true) (d:Nat)
  (hr:∀gd',Stays w (w.alloc (.cells cs e)) gd gd'→∀i x,cells[i]? = some x→RepA (w.alloc (.cells cs e)) (L.upd d (some w.heap.size) n) gd' x (cs.getD i undef)) :
  MakesOk P w gd L a o d (.rsl d sz 0 n) (.box cells):=by
 refine ⟨_,some w.heap.size,n,_,hrun,(Below.refl _ _).alloc (Nat.le_refl _) _,fun b hb=>by cases hb;simp,fun gd' hst _=>⟨?_,?_⟩⟩
 ·exact .box (b:=w.heap.size) (cs:=cs) (fun t' e=>by cases e) (by simp [Lay.upd]) (heap_alloc_new w _) hz h1 (hr gd' hst)
 ·have:RepA (w.alloc (.cells cs e)) (L.upd d (some w.heap.size) n) gd' (.rsl d sz 0 n) (.slice (((L.upd d (some w.heap.size) n).blk d).map fun b=>⟨b,0*sz,none⟩) n ((L.upd d (some w.heap.size) n).cap d-0)):=
   .rsl (by simp [Lay.upd]) (fun _=>⟨_,by simp [Lay.upd];rfl⟩) (fun _=>rfl)
  simpa [Lay.upd] using this
theorem _root_.Towline.Res.Ok.pub {o:Oper} {e:TypeId} {sz n:Nat} {f:Nat→List D} (hk:(Res.mkrow e sz n f none).Ok P w gd L g h a o):(Res.newv (.row 0 1 0 fun _=>[]) (fun _=>.d (.sl sz n f)) none).Ok P w gd L g h a o:=by
 intro _ d _
 obtain ⟨w',nb,nc,u,h1,h2,h3,h4⟩:=hk (fun q hq=>by cases hq) d
 refine ⟨w',none,0,u,h1,h2,fun b hb=>(by cases hb),fun gd' hst hng=>⟨.row0 (by simp [Lay.upd]) (by simp [Lay.upd]),?_⟩⟩
 obtain ⟨ho,hu⟩:=h4 gd' hst fun b hb1 hb2 _=>hng b hb1 hb2 (by simp)
 have hb:∀b,(L.upd d nb nc).blk d=some b→gd' b∧b<w'.heap.size:=fun b hb=>by
  simp only [Lay.upd,if_true] at hb
  exact ⟨hng b (h3 b hb).1 (h3 b hb).2 (by simp),(h3 b hb).2⟩
 cases hu with
 | @rsl _ _ _ _ _ ad hcap hblk ha=>
  have ha:=ha (.inl rfl)
  cases ho with
  |row0 _ hc=>
   rw [hc]
   exact .d (.sl0 _ _ _ _ (by unfold maxLen;omega))
  | @row _ _ _ _ cs b t2 mk hbk hh hn hm hz hf hr hty hmk hcap0=>
   by_cases h0:n=0
   ·subst h0
    exact .d (.sl0 _ _ _ _ (by omega))
   ·rw [ha,hbk]
    obtain ⟨g1,g2⟩:=hb b hbk
    have hd:RepD w' gd' (.sl sz n f) (.slice (some ⟨b,0,none⟩) n ((L.upd d nb nc).cap d-0)):=by
     refine .sl sz n f b 0 _ (fun k j=>cs.getD (k*sz+j) undef) (by omega) (by omega) (by omega) g1 g2 hf (fun k hk j hj=>?_) (fun k hk j x hx=>hr k hk j x hx)
     have hlt:k*sz+j<cs.size:=by
      have:=Nat.mul_le_mul_right sz (show k+1≤(L.upd d nb nc).cap d from by omega)
      rw [Nat.add_mul] at this;omega
     rw [Nat.zero_add,cell_of_row w' b _ cs t2 mk hh,Array.getD_eq_getD_getElem?,Array.getElem?_eq_getElem hlt]
     rfl
    refine .d ?_
    simpa using hd
theorem buildSlice_ok (hT:TysOk P T) (H:Holds w gd L g h a) {t e:TypeId} {sz by_:Nat} {z:List D} (ht:lookT t T=some ⟨.slice e,sz,by_,z⟩) {d:TyD} (he:lookT e T=some d) {len:Nat} {ps:Array (Nat×Operand)} {l:List (List D)}
  (hle:Nat.ble (len+len*d.size) 16777216=true) (hl:aElems d g ps.toList (replF len d.zero)=some l) {o:Oper} (ho:o.op=.buildSlice t len ps):(Res.mkrow e d.size len (fun k=>l.getD k []) none).Ok P w gd L g h a o:=by
 intro _ id
 have hu:=(hT.get ht).slice rfl
 have hd:=hT.get he
 have hle':len+len*d.size≤16777216:=Nat.le_of_ble_eq_true hle
 obtain ⟨c1,c2⟩:=zeroVal_cells (w:=w) (gd:=gd) hd
 rw [replF_eq] at hl
 rw [hd.zlen] at c1
 obtain ⟨cs',r1,r2,r3,r4,r5⟩:=elems_ok hT H he ps.toList (List.replicate len d.zero) l (madeCells d.zeroVal.cells (len*d.size)) hl (by simp [size_madeCells]) (fun k hk=>by
   have hk':k<len:=by simpa using hk
   simp [List.getD_eq_getElem?_getD,hk',hd.zlen]) (fun k hk j x hx=>by
   have hk':k<len:=by simpa using hk
   have hx':d.zero[j]? = some x:=by simpa [List.getD_eq_getElem?_getD,hk'] using hx
   have hj:j<d.size:=by rw [←hd.zlen];exact (List.getElem?_eq_some_iff.1 hx').1
   obtain ⟨e1,_,e3⟩:=c2 j x hx'
   have:=zeros_get d.zeroVal.cells len k j hk' (by omega)
   rw [c1] at this
   rw [this,e1];exact e3)
 have hlen:l.length=len:=by simpa using r2
 have hps:(ps.map fun p=>(p.1,a.eval p.2)).toList=ps.toList.map fun p=>(p.1,a.eval p.2):=by simp
 refine row_makes (cs:=cs') (c:=len) ?_ (Nat.le_refl _) ?_ (by rw [r3,hlen]) (fun k hk=>r4 k (by omega)) (fun k hk=>r5 k (by omega)) id (hT.get he).lt
 ·have hn:¬len*d.size>2 ^ 24:=by omega
  by_cases h0:len*d.size=0
  ·have hm:madeCells d.zeroVal.cells (len*d.size) = #[]:=by rw [h0];simp [madeCells]
   have hm0:(Array.range (len*d.size)).map (fun x=>(#[]:Array Value)[x % (#[]:Array Value).size]!) = #[]:=by rw [h0];simp
   rw [hm] at r1
   simp only [execOp,ho,Instr.buildSlice,Sem.run_bind,run_underlying hu,Result.andThen_ok,hd.sizeOf w,Sem.run_ite,if_neg hn,Sem.run_pure,if_pos h0,hm0,hps,r1]
   simp [newRow]
  ·have hm:(Array.range (len*d.size)).map (fun x=>d.zeroVal.cells[x % d.zeroVal.cells.size]!)=madeCells d.zeroVal.cells (len*d.size):=rfl
   simp only [execOp,ho,Instr.buildSlice,Sem.run_bind,run_underlying hu,Result.andThen_ok,hd.sizeOf w,Sem.run_ite,if_neg hn,Sem.run_pure,if_neg h0,hd.zeroValue w,hm,hps,r1]
   simp [newRow]
 ·unfold maxLen;omega
theorem makeSlice_ok (hT:TysOk P T) (H:Holds w gd L g h a) {t e:TypeId} {sz by_:Nat} {z:List D} (ht:lookT t T=some ⟨.slice e,sz,by_,z⟩) {d:TyD} (he:lookT e T=some d) {x y:Operand} {k k':IntKind} {n m:Int} (hx:opnd g x=.d (.i k n)) (hy:opnd g y=.d (.i k' m))
  {o:Oper} (ho:o.op=.makeSlice t x y):(Res.mkrow e d.size n.toNat (fun _=>d.zero) (some (0≤n∧n≤m∧d.bytes*m≤281474976710656∧m≤9223372036854775807))).Ok P w gd L g h a o:=by
 intro hq id
 obtain ⟨q1,q2,q3,q4⟩:=hq _ rfl
 have hu:=(hT.get ht).slice rfl
 have hd:=hT.get he
 obtain ⟨i,i1,i2,i3,i4⟩:=hd.info'
 have hv:=repA_i (hx▸H.opnd x)
 have hw:=repA_i (hy▸H.opnd y)
 obtain ⟨c1,c2⟩:=zeroVal_cells (w:=w) (gd:=gd) hd
 rw [hd.zlen] at c1
 have hrun:=run_make (P:=P) w t e i _ hu i1 i2 k k' n m q1 q2 (by rw [i4];exact q3) q4
 rw [i3] at hrun
 refine row_makes (c:=m.toNat) (cs:=madeCells d.zeroVal.cells (m.toNat*d.size)) (by simp [execOp,ho,hv,hw,hrun]) (by omega) (by unfold maxLen;omega) (by simp [size_madeCells]) (fun _ _=>hd.zlen) (fun q hq j x hx=>?_) id hd.lt
 have hj:j<d.size:=by rw [←hd.zlen];exact (List.getElem?_eq_some_iff.1 hx).1
 obtain ⟨e1,_,e3⟩:=c2 j x hx
 have:=zeros_get d.zeroVal.cells m.toNat q j (by omega) (by omega)
 rw [c1] at this
 rw [this,e1];exact e3
theorem makeBox_ok (hT:TysOk P T) (H:Holds w gd L g h a) {t e:TypeId} {sz by_:Nat} {z:List D} (ht:lookT t T=some ⟨.slice e,sz,by_,z⟩) {d:TyD} (he:lookT e T=some d) {x y:Operand} {k k':IntKind} {n m:Nat} (hx:opnd g x=.d (.i k (.ofNat n))) (hy:opnd g y=.d (.i k' (.ofNat m))) (hnm:n=m)
  {cells:List AVal} (hc:liftF (copyF n d.zero)=some cells) {o:Oper} (ho:o.op=.makeSlice t x y):(Res.newv (.box cells) (fun id=>.rsl id d.size 0 n) (some (d.bytes*n≤281474976710656∧n≤9223372036854775807))).Ok P w gd L g h a o:=by
 intro hq id _
 subst hnm
 obtain ⟨q3,q4⟩:=hq _ rfl
 have hu:=(hT.get ht).slice rfl
 have hd:=hT.get he
 obtain ⟨i,i1,i2,i3,i4⟩:=hd.info'
 have hv:a.eval x=.int k (n:Int):=repA_i (hx▸H.opnd x)
 have hw:a.eval y=.int k' (n:Int):=repA_i (hy▸H.opnd y)
 obtain ⟨c1,c2⟩:=zeroVal_cells (w:=w) (gd:=gd) hd
 rw [hd.zlen] at c1
 have hrun:=run_make (P:=P) w t e i _ hu i1 i2 k k' (n:Int) (n:Int) (Int.natCast_nonneg n) (Int.le_refl _) (by rw [i4];exact Int.ofNat_le.2 q3) (Int.ofNat_le.2 q4)
 rw [i3] at hrun
 have hce:=liftF_eq hc
 have hlen:cells.length=n*d.size:=by rw [hce,List.length_map,copyF_len,hd.zlen]
 have key:∀i x,cells[i]? = some x→∃y,x=.d y∧∃u,(madeCells d.zeroVal.cells (n*d.size)).getD i undef=u∧u.oneCell'=true∧∀w' gd',RepD w' gd' y u:=by
  intro i x hx
  rw [hce,List.getElem?_map] at hx
  cases hy:(copyF n d.zero)[i]? with
  |none=>rw [hy] at hx;cases hx
  |some y=>
   rw [hy] at hx
   cases hx
   obtain ⟨k,j,k1,k2,k3,k4⟩:=copyF_get _ _ _ _ hy
   rw [hd.zlen] at k2 k3
   obtain ⟨e1,e2,e3⟩:=c2 j y k4
   have hz:=zeros_get d.zeroVal.cells n k j k1 (by omega)
   rw [c1] at hz
   exact ⟨y,rfl,y.val,by rw [k3,hz,e1],e2,fun w' gd'=>((zeroVal_cells (w:=w') (gd:=gd') hd).2 j y k4).2.2⟩
 have hn:((n:Nat):Int).toNat=n:=tnC n
 rw [hn] at hrun
 refine boxrow_makes (e:=e) (cs:=madeCells d.zeroVal.cells (n*d.size)) (by simp [execOp,ho,hv,hw,hrun]) (by simp [size_madeCells,hlen]) (fun i hi=>?_) id (fun gd' _ i x hx=>?_)
 ·obtain ⟨y,_,u,e1,e2,_⟩:=key i _ (List.getElem?_eq_getElem hi)
  rw [e1];exact e2
 ·obtain ⟨y,rfl,u,e1,_,e3⟩:=key i x hx
  rw [e1];exact .d (e3 _ _)
theorem aStored_free {d:TyD} {x:AVal} {vs:List AVal} (hs:aStored d x=some vs) {q:Nat} (hx:x.free q=true) (y:AVal) (hy:y∈vs):y.free q=true:=by
 cases x with
 |agg l=>
  simp only [aStored] at hs
  split at hs
  ·cases hs
   obtain ⟨i,hi⟩:=List.mem_iff_getElem?.1 hy
   exact AVal.freeL_get hx i y hi
  ·cases hs
 |any=>cases hs
 |tup=>cases hs
 |_=>
  simp only [aStored] at hs
  split at hs
  ·cases hs
  ·cases hs
   simp only [List.mem_singleton] at hy
   rw [hy];exact hx
theorem elemsA_ok (hT:TysOk P T) (H:Holds w gd L g h a) {e:TypeId} {d:TyD} (he:lookT e T=some d):∀(ps:List (Nat×Operand)) (l l':List AVal) (cs:Array Value),aElemsA d g ps l=some l'→cs.size=l.length→
  (∀i,i<l.length→(cs.getD i undef).oneCell'=true)→(∀i x,l[i]? = some x→RepA w L gd x (cs.getD i undef))→
  ∃cs',Instr.fill (fun i=>some (i*d.size,d.size)) cs (ps.map fun p=>(p.1,a.eval p.2))=some cs'∧l'.length=l.length∧cs'.size=l'.length∧(∀i,i<l'.length→(cs'.getD i undef).oneCell'=true)∧
   (∀i x,l'[i]? = some x→RepA w L gd x (cs'.getD i undef))∧∀q,(∀t,(g t).free q=true)→(∀x∈l,x.free q=true)→∀x∈l',x.free q=true:=by
 intro ps
 induction ps with
 |nil=>intro l l' cs hp hz h1 hr;simp only [aElemsA,Option.some.injEq] at hp;subst hp;exact ⟨cs,rfl,rfl,hz,h1,hr,fun q _ h=>h⟩
 |cons p ps ih=>
  intro l l' cs hp hz h1 hr
  obtain ⟨j,x⟩:=p
  simp only [aElemsA] at hp
  cases hs:aStored d (opnd g x) with
  |none=>rw [hs] at hp;cases hp
  |some vs=>
   rw [hs] at hp
   simp only at hp
   cases hb:Nat.beq vs.length d.size with
   |false=>rw [hb] at hp;cases hp
   |true=>
    rw [hb] at hp
    simp only at hp
    cases hov:overF l (j*d.size) vs with
    |none=>rw [hov] at hp;cases hp
    |some m=>
     rw [hov] at hp
     simp only at hp
     have hlen:=Nat.eq_of_beq_eq_true hb
     obtain ⟨o1,o2,o3⟩:=overF_eq hov
     obtain ⟨s1,s2,s3⟩:=aStored_ok hT he (H.opnd x) hs
     have hfit:j*d.size+(a.eval x).cells.size≤cs.size:=by omega
     obtain ⟨f1,f2⟩:=fold_over (a.eval x).cells.toList 0 (j*d.size) cs (by simpa using hfit)
     simp only [Nat.add_zero,Array.length_toList] at f1 f2
     obtain ⟨cs',r1,r2,r3,r4,r5,r6⟩:=ih m l' _ hp (by rw [f1];omega) (fun i hi=>by
       rw [f2]
       split
       ·rename_i hc
        have:=s2 (i-j*d.size) (by omega)
        simpa [List.getD_eq_getElem?_getD,Array.getD_eq_getD_getElem?] using this
       ·exact h1 i (by omega)) (fun i y hy=>by
       rw [f2]
       rw [o3] at hy
       by_cases hc:j*d.size≤i∧i<j*d.size+vs.length
       ·rw [if_pos hc] at hy
        rw [if_pos (by omega)]
        have:=s3 (i-j*d.size) y hy
        simpa [List.getD_eq_getElem?_getD,Array.getD_eq_getD_getElem?] using this
       ·rw [if_neg hc] at hy
        rw [if_neg (by omega)]
        exact hr i y hy)
     refine ⟨cs',?_,by omega,r3,r4,r5,fun q hq hl=>r6 q hq fun y hy=>?_⟩
     ·simp only [List.map_cons,Instr.fill]
      rw [if_neg (by simp;omega)]
      rw [←Array.foldl_toList,Array.toList_zipIdx]
      exact r1
     ·obtain ⟨i,hi⟩:=List.mem_iff_getElem?.1 hy
      rw [o3] at hi
      split at hi
      ·exact aStored_free hs (opnd_free hq x) y (List.mem_of_getElem? hi)
      ·exact hl y (List.mem_of_getElem? hi)
theorem buildBox_ok (hT:TysOk P T) (H:Holds w gd L g h a) {t e:TypeId} {sz by_:Nat} {z:List D} (ht:lookT t T=some ⟨.slice e,sz,by_,z⟩) {d:TyD} (he:lookT e T=some d) {len:Nat} {ps:Array (Nat×Operand)} {l l0:List AVal}
  (hle:Nat.ble (len+len*d.size) 16777216=true) (hc:liftF (copyF len d.zero)=some l0) (hl:aElemsA d g ps.toList l0=some l) {o:Oper} (ho:o.op=.buildSlice t len ps):(Res.newv (.box l) (fun id=>.rsl id d.size 0 len) none).Ok P w gd L g h a o:=by
 intro _ id hf
 have hu:=(hT.get ht).slice rfl
 have hd:=hT.get he
 have hle':len+len*d.size≤16777216:=Nat.le_of_ble_eq_true hle
 obtain ⟨c1,c2⟩:=zeroVal_cells (w:=w) (gd:=gd) hd
 rw [hd.zlen] at c1
 have hce:=liftF_eq hc
 have hlen0:l0.length=len*d.size:=by rw [hce,List.length_map,copyF_len,hd.zlen]
 have key:∀i x,l0[i]? = some x→∃y,x=.d y∧((madeCells d.zeroVal.cells (len*d.size)).getD i undef).oneCell'=true∧RepD w gd y ((madeCells d.zeroVal.cells (len*d.size)).getD i undef):=by
  intro i x hx
  rw [hce,List.getElem?_map] at hx
  cases hy:(copyF len d.zero)[i]? with
  |none=>rw [hy] at hx;cases hx
  |some y=>
   rw [hy] at hx
   cases hx
   obtain ⟨k,j,k1,k2,k3,k4⟩:=copyF_get _ _ _ _ hy
   rw [hd.zlen] at k2 k3
   obtain ⟨e1,e2,e3⟩:=c2 j y k4
   have hz:=zeros_get d.zeroVal.cells len k j k1 (by omega)
   rw [c1] at hz
   rw [k3,hz,e1]
   exact ⟨y,rfl,e2,e3⟩
 obtain ⟨cs',r1,r2,r3,r4,r5,r6⟩:=elemsA_ok hT H he ps.toList l0 l (madeCells d.zeroVal.cells (len*d.size)) hl (by simp [size_madeCells,hlen0]) (fun i hi=>by
   obtain ⟨y,_,e1,_⟩:=key i _ (List.getElem?_eq_getElem hi)
   exact e1) (fun i x hx=>by
   obtain ⟨y,rfl,_,e2⟩:=key i x hx
   exact .d e2)
 have hps:(ps.map fun p=>(p.1,a.eval p.2)).toList=ps.toList.map fun p=>(p.1,a.eval p.2):=by simp
 refine boxrow_makes (e:=e) (cs:=cs') ?_ r3 r4 id (fun gd' hst i x hx=>?_)
 ·have hn:¬len*d.size>2 ^ 24:=by omega
  by_cases h0:len*d.size=0
  ·have hm:madeCells d.zeroVal.cells (len*d.size) = #[]:=by rw [h0];simp [madeCells]
   have hm0:(Array.range (len*d.size)).map (fun x=>(#[]:Array Value)[x % (#[]:Array Value).size]!) = #[]:=by rw [h0];simp
   rw [hm] at r1
   simp only [execOp,ho,Instr.buildSlice,Sem.run_bind,run_underlying hu,Result.andThen_ok,hd.sizeOf w,Sem.run_ite,if_neg hn,Sem.run_pure,if_pos h0,hm0,hps,r1]
   simp [newRow]
  ·have hm:(Array.range (len*d.size)).map (fun x=>d.zeroVal.cells[x % d.zeroVal.cells.size]!)=madeCells d.zeroVal.cells (len*d.size):=rfl
   simp only [execOp,ho,Instr.buildSlice,Sem.run_bind,run_underlying hu,Result.andThen_ok,hd.sizeOf w,Sem.run_ite,if_neg hn,Sem.run_pure,if_neg h0,hd.zeroValue w,hm,hps,r1]
   simp [newRow]
 ·have hfree:x.free id=true:=r6 id hf (fun y hy=>by
   obtain ⟨i,hi⟩:=List.mem_iff_getElem?.1 hy
   obtain ⟨z,rfl,_⟩:=key i y hi
   rfl) x (List.mem_of_getElem? hx)
  refine RepA.mono (L:=L) (L':=L.upd id (some w.heap.size) len) (by simp) (· != id) (fun j hj=>?_) (fun b hlt hb=>⟨hb,heap_alloc_old w _ hlt⟩) (r5 i x hx) hst (fun j hj=>?_)
  ·have:j≠id:=by simpa using hj
   simp [Lay.upd,this]
  ·have:j=id:=by simpa using hj
   rw [this];exact hfree
theorem flat_news {sz m:Nat} {f:Nat→List D} (b o:Nat) (cs:Nat→Nat→Value) (hz:∀k,k<m→(f k).length=sz) (hcell:∀k,k<m→∀j,j<sz→w.cell? ⟨b,o+k*sz+j,none⟩=some (cs k j)) (hrep:∀k,k<m→∀(j:Nat) y,(f k)[j]? = some y→RepD w gd y (cs k j)) :
   ∃news:List Value,news.length=m*sz∧(∀(j:Nat) u,news[j]? = some u→w.cell? ((⟨b,o,none⟩:Addr).add j)=some u)∧(∀u∈news,u.oneCell'=true)∧(∀k,k<m→(f k).length=sz)∧
   ∀k,k<m→∀(j:Nat) y,(f k)[j]? = some y→RepD w gd y (news.getD (k*sz+j) undef):=by
 have hcut:∀q,q<m*sz→q / sz<m∧q % sz<sz∧q / sz*sz+q % sz=q:=by
  intro q hq
  have hs:0<sz:=by
   rcases Nat.eq_zero_or_pos sz with h0|h0
   ·rw [h0] at hq;omega
   ·exact h0
  exact ⟨(Nat.div_lt_iff_lt_mul hs).2 hq,Nat.mod_lt _ hs,by rw [Nat.mul_comm];exact Nat.div_add_mod q sz⟩
 have hget:∀q,q<m*sz→((List.range (m*sz)).map fun q=>cs (q / sz) (q % sz))[q]? = some (cs (q / sz) (q % sz)):=by
  intro q hq;simp [hq]
 refine ⟨(List.range (m*sz)).map fun q=>cs (q / sz) (q % sz),by simp,fun j u hj=>?_,fun u hu=>?_,hz,fun k hk j y hy=>?_⟩
 ·have hlt:j<m*sz:=by simpa using (List.getElem?_eq_some_iff.1 hj).1
  rw [hget j hlt] at hj
  cases hj
  obtain ⟨h1,h2,h3⟩:=hcut j hlt
  rw [addr_add0,←hcell _ h1 _ h2,Nat.add_assoc,h3]
 ·obtain ⟨q,hq,rfl⟩:=List.mem_map.1 hu
  have hq':q<m*sz:=by simpa using hq
  obtain ⟨h1,h2,h3⟩:=hcut q hq'
  have hlen:=hz _ h1
  exact (hrep _ h1 (q % sz) _ (List.getElem?_eq_getElem (by omega))).one
 ·have hj:j<sz:=by rw [←hz k hk];exact (List.getElem?_eq_some_iff.1 hy).1
  have hlt:k*sz+j<m*sz:=by
   have:=Nat.mul_le_mul_right sz (show k+1≤m from hk)
   rw [Nat.add_mul] at this;omega
  rw [List.getD_eq_getElem?_getD,hget _ hlt]
  have hs:0<sz:=by omega
  have e1:(k*sz+j) / sz=k:=by rw [Nat.mul_comm,Nat.mul_add_div hs,Nat.div_eq_of_lt hj];omega
  have e2:(k*sz+j) % sz=j:=by rw [Nat.mul_comm,Nat.mul_add_mod];exact Nat.mod_eq_of_lt hj
  rw [e1,e2]
  exact hrep k hk j y hy
theorem aSrc_ok (H:Holds w gd L g h a) {sz:Nat} {x:Operand} {m:Nat} {f:Nat→List D} {c:Option Prop} (hs:aSrc h sz (opnd g x)=some (m,f,c)) (hc:∀q,c=some q→q) :
  (m=0∧∃c',a.eval x=.slice none 0 c')∨(∃ad c',a.eval x=.slice (some ad) m c'∧∃news:List Value,news.length=m*sz∧(∀(j:Nat) u,news[j]? = some u→w.cell? (ad.add j)=some u)∧(∀u∈news,u.oneCell'=true)∧(∀k,k<m→(f k).length=sz)∧
   ∀k,k<m→∀(j:Nat) y,(f k)[j]? = some y→RepD w gd y (news.getD (k*sz+j) undef)):=by
 have hv:=H.opnd x
 generalize hxv:a.eval x=xv at hv
 have flat:∀(b o:Nat) (cs:Nat→Nat→Value),(∀k,k<m→(f k).length=sz)→(∀k,k<m→∀j,j<sz→w.cell? ⟨b,o+k*sz+j,none⟩=some (cs k j))→(∀k,k<m→∀(j:Nat) y,(f k)[j]? = some y→RepD w gd y (cs k j))→
   ∃news:List Value,news.length=m*sz∧(∀(j:Nat) u,news[j]? = some u→w.cell? ((⟨b,o,none⟩:Addr).add j)=some u)∧(∀u∈news,u.oneCell'=true)∧(∀k,k<m→(f k).length=sz)∧
   ∀k,k<m→∀(j:Nat) y,(f k)[j]? = some y→RepD w gd y (news.getD (k*sz+j) undef):=fun b o cs hz hcell hrep=>flat_news b o cs hz hcell hrep
 unfold aSrc at hs
 split at hs
 ·rename_i sz' m' f' e
  rw [e] at hv
  cases hb:Nat.beq sz' sz with
  |false=>rw [hb] at hs;cases hs
  |true=>
   rw [hb] at hs
   have:=Nat.eq_of_beq_eq_true hb
   subst this
   simp only [Option.some.injEq,Prod.mk.injEq] at hs
   obtain ⟨rfl,rfl,rfl⟩:=hs
   have hd:=repA_sl hv
   cases hd with
   |sl0 _ _ A c' hc'=>
    cases A with
    |none=>exact .inl ⟨rfl,c',rfl⟩
    |some ad=>exact .inr ⟨ad,c',rfl,[],by simp,fun j u hj=>by simp at hj,fun u hu=>by simp at hu,fun k hk=>by omega,fun k hk=>by omega⟩
   |sl _ _ _ b off c' cs hn hcc hm hg hbb hz hcell hrep=>exact .inr ⟨_,c',rfl,flat b off cs hz hcell hrep⟩
 ·rename_i c0 e
  simp only [Option.some.injEq,Prod.mk.injEq] at hs
  obtain ⟨rfl,rfl,rfl⟩:=hs
  rw [e] at hv
  have:=repA_v hv
  exact .inl ⟨rfl,c0,this⟩
 ·rename_i id sz' o' m' e
  split at hs
  ·split at hs
   ·rename_i t2 sz2 n2 f2 hrow
    cases hb:Nat.beq sz' sz with
    |false=>rw [hb] at hs;cases hs
    |true=>
     rw [hb] at hs
     have:=Nat.eq_of_beq_eq_true hb
     subst this
     simp only at hs
     cases hb2:Nat.beq sz2 sz' with
     |false=>rw [hb2] at hs;cases hs
     |true=>
      rw [hb2] at hs
      have:=Nat.eq_of_beq_eq_true hb2
      subst this
      simp only [Option.some.injEq,Prod.mk.injEq] at hs
      obtain ⟨rfl,rfl,rfl⟩:=hs
      have hle:m'≤n2:=hc _ rfl
      rw [e] at hv
      have hro:=H.obj id _ hrow
      cases hv with
      |rsl hcap hblk had=>
       have had:=had (.inl rfl)
       subst had
       cases hro with
       |row0 hb1 hc1=>
        have:m'=0:=by omega
        subst this
        exact .inl ⟨rfl,_,by rw [hb1];rfl⟩
       | @row _ _ _ _ cs b t9 mk hb1 hh hn hm hz hf hrep hty hmk hcap0=>
        refine .inr ⟨⟨b,0,none⟩,L.cap id-0,by rw [hb1];simp,flat b 0 (fun k j=>cs.getD (k*sz2+j) undef) (fun k hk=>hf k (by omega)) (fun k hk j hj=>?_) (fun k hk j y hy=>hrep k (by omega) j y hy)⟩
        have hlt:k*sz2+j<cs.size:=by
         have:=Nat.mul_le_mul_right sz2 (show k+1≤L.cap id from by omega)
         rw [Nat.add_mul] at this;omega
        rw [Nat.zero_add,cell_of_row w b _ cs t9 mk hh,Array.getD_eq_getD_getElem?,Array.getElem?_eq_getElem hlt]
        rfl
   ·cases hs
  ·cases hs
 ·cases hs
def capOf:Value→Nat
 |.slice _ _ c=>c
 |_=>0
theorem row_of_own {w':World} {gd':Nat→Prop} {base e:TypeId} {sz N:Nat} {v':Value} {ys:List Value} (hown:w'.ownsRow base e sz v' N ys) {F:Nat→List D} (hF:∀k,k<N→(F k).length=sz)
  (hr:∀k,k<N→∀(j:Nat) x,(F k)[j]? = some x→RepD w' gd' x (ys.getD (k*sz+j) undef)) (L:Lay) (d:Nat) (he:e<markT) :
  RepO w' gd' (L.upd d v'.ownBlock (capOf v')) d (.row e sz N F)∧RepA w' (L.upd d v'.ownBlock (capOf v')) gd' (.rsl d sz 0 N) v':=by
 obtain ⟨h1,⟨rfl,rfl⟩|⟨g,cap,cur,rfl,hg,hh,hc,hcap,hcur,hx⟩⟩:=hown
 ·refine ⟨.row0 (by simp [Lay.upd,Value.ownBlock]) (by simp [Lay.upd,capOf]),?_⟩
  have:RepA w' (L.upd d none 0) gd' (.rsl d sz 0 0) (.slice (((L.upd d none 0).blk d).map fun b=>⟨b,0*sz,none⟩) 0 ((L.upd d none 0).cap d-0)):=.rsl (by simp [Lay.upd]) (fun h=>by omega) (fun _=>rfl)
  simpa [Lay.upd,Value.ownBlock,capOf] using this
 ·refine ⟨?_,?_⟩
  ·refine .row (b:=g) (cs:=cur) (by simp [Lay.upd,Value.ownBlock]) hh (by simpa [Lay.upd,capOf] using hc) (by simpa [Lay.upd,capOf] using hcap) (by simpa [Lay.upd,capOf] using hcur) hF (fun k hk j x hxx=>?_) (fun _=>rfl) (.inl rfl) (fun m hm=>absurd he (Nat.not_lt.2 (hm▸Nat.le_trans (show markT≤arT by decide) (Nat.le_add_right arT m))))
   have:=hr k hk j x hxx
   have hj:j<sz:=by rw [←hF k hk];exact (List.getElem?_eq_some_iff.1 hxx).1
   have hlt:k*sz+j<N*sz:=by
    have:=Nat.mul_le_mul_right sz (show k+1≤N from hk)
    rw [Nat.add_mul] at this;omega
   rw [←hx,List.getD_eq_getElem?_getD,List.getElem?_take,if_pos hlt] at this
   simpa [Array.getD_eq_getD_getElem?] using this
  ·have:RepA w' (L.upd d (some g) cap) gd' (.rsl d sz 0 N) (.slice (((L.upd d (some g) cap).blk d).map fun b=>⟨b,0*sz,none⟩) N ((L.upd d (some g) cap).cap d-0)):=.rsl (by simpa [Lay.upd] using hc) (fun _=>⟨g,by simp [Lay.upd]⟩) (fun _=>rfl)
   simpa [Lay.upd,Value.ownBlock,capOf] using this
theorem own_lt {w':World} {base e:TypeId} {sz N:Nat} {v':Value} {ys:List Value} (hown:w'.ownsRow base e sz v' N ys):∀b,v'.ownBlock=some b→b<w'.heap.size:=by
 intro b hb
 obtain ⟨h1,⟨rfl,rfl⟩|⟨g,cap,cur,rfl,hg,hh,_⟩⟩:=hown
 ·cases hb
 ·simp only [Value.ownBlock,Option.some.injEq] at hb
  subst hb
  exact (Array.getElem?_eq_some_iff.1 hh).1
theorem andC_left {p:Prop} {c:Option Prop} (h:andC p c):p∧∀q,c=some q→q:=by
 cases c with
 |none=>exact ⟨h,fun q hq=>by cases hq⟩
 |some c=>exact ⟨h.1,fun q hq=>by cases hq;exact h.2⟩
theorem append_run {o:Oper} {s x:Operand} {t:TypeId} {as:Array Operand} {ts:Array TypeId} (has:as.toList=[s,x]) (hts:ts.toList=[t,t]) (ho:o.op=.call { callee:=.builtin .append,args:=as,argTypes:=ts}) {v u v':Value} {w':World} (hs:a.eval s=v) (hx:a.eval x=u)
  (hrun:(Builtin.append_ #[t,t] o.type #[v,u]).run P w=.ok v' w'):(execOp a.eval o).run P w=.ok (.value v') w':=by
 obtain ⟨l1⟩:=as
 obtain ⟨l2⟩:=ts
 simp only at has hts
 subst has hts
 simp only [execOp,ho,resolve,invoke,builtin,Sem.run_bind,Sem.run_pure,Result.andThen_ok,List.map_toArray,List.map_cons,List.map_nil,hs,hx,hrun]
theorem append_ok (hT:TysOk P T) (H:Holds w gd L g h a) {t e:TypeId} {sz by_:Nat} {z:List D} (ht:lookT t T=some ⟨.slice e,sz,by_,z⟩) {d:TyD} (he:lookT e T=some d) {s x:Operand} {r:Res} (hr:aAppend e d h (opnd g s) (opnd g x)=some r) {as:Array Operand} {ts:Array TypeId}
  (has:as.toList=[s,x]) (hts:ts.toList=[t,t]) {o:Oper} (ho:o.op=.call { callee:=.builtin .append,args:=as,argTypes:=ts}):r.Ok P w gd L g h a o:=by
 have hu:=(hT.get ht).slice rfl
 have hd:=hT.get he
 obtain ⟨i,i1,i2,i3,i4⟩:=hd.info'
 obtain ⟨c1,_⟩:=zeroVal_cells (w:=w) (gd:=gd) hd
 rw [hd.zlen] at c1
 unfold aAppend at hr
 split at hr
 ·cases hr
 ·rename_i szp hszp
  have hpos:0<d.size:=by omega
  split at hr
  ·rename_i m f2 c hsrc
   split at hr
   ·
    rename_i es
    simp only [Option.some.injEq] at hr
    subst hr
    intro hq id
    obtain ⟨⟨q1,q2⟩,q3⟩:=andC_left (hq _ rfl)
    have hsv:=repA_v (es▸H.opnd s)
    rcases aSrc_ok H hsrc q3 with ⟨rfl,c',hxv⟩|⟨ad,c',hxv,news,n1,n2,n3,n4,n5⟩
    ·have hrun:(Builtin.append_ #[t,t] o.type #[.slice none 0 0,.slice none 0 c']).run P w=.ok (.slice none 0 0) w:=by
      simp [Builtin.append_,run_underlying hu,Go.sizeOf,typeInfo,i1,Builtin.lenOf,Builtin.firstCells]
     exact ⟨w,none,0,_,append_run has hts ho hsv hxv hrun,Below.refl _ _,fun b hb=>(by cases hb),fun gd' hst _=>row_of_own (World.ownsRow_nil w 0 e d.size) (fun k hk=>by omega) (fun k hk=>by omega) L id (hT.get he).lt⟩
    ·obtain ⟨v',w',hrun,hown,hgrown,hnil,hblk⟩:=run_append_own_at (P:=P) w w.heap.size t o.type e i d.zeroVal d.size d.bytes hu i1 i2 i3 i4 c1 hpos (.slice none 0 0) 0 [] (World.ownsRow_nil _ _ _ _) ad m c' news n1 n2 n3
      (by unfold maxLen;omega) (by simpa using q2) (Nat.le_refl _)
     simp only [Nat.zero_add,List.nil_append] at hown
     have hb:Below w.heap.size w w':=(Below.refl _ _).grown hgrown (Nat.le_refl _) (fun k hk=>by cases hk)
     refine ⟨w',v'.ownBlock,capOf v',v',append_run has hts ho hsv hxv hrun,hb,fun b e=>⟨?_,own_lt hown b e⟩,fun gd' hst _=>row_of_own hown n4 (fun k hk j y hy=>(n5 k hk j y hy).mono hb.size hst) L id (hT.get he).lt⟩
     rcases hblk with e'|e'
     ·rw [e'] at e;cases e
     ·rw [e'] at e;cases e;exact Nat.le_refl _
   ·
    rename_i sz1 n1 f es
    cases hb1:Nat.beq sz1 d.size with
    |false=>rw [hb1] at hr;cases hr
    |true=>
     rw [hb1] at hr
     have hz1:=Nat.eq_of_beq_eq_true hb1
     subst hz1
     simp only [Option.some.injEq] at hr
     subst hr
     intro hq id
     obtain ⟨⟨q0,q1,q2⟩,q3⟩:=andC_left (hq _ rfl)
     have hsv:=es▸H.opnd s
     generalize hsval:a.eval s=sv at hsv
     cases hsv with
     |d hsv=>
      cases hsv with
      |slF _ _ _ A hrep=>
       rcases aSrc_ok H hsrc q3 with ⟨rfl,c',hxv⟩|⟨ad,c',hxv,news,k1,k2,k3,k4,k5⟩
       ·omega
       ·have fin:∀(olds:List Value) (v':Value) (w':World),olds.length=n1*d.size→(∀k,k<n1→(f k).length=d.size)→(∀k,k<n1→∀(j:Nat) y,(f k)[j]? = some y→RepD w gd y (olds.getD (k*d.size+j) undef))→
          (Builtin.append_ #[t,t] o.type #[.slice A n1 n1,.slice (some ad) m c']).run P w=.ok v' w'→w'.ownsRow w.heap.size e d.size v' (n1+m) (olds++news)→w.grownBy w' none→(Res.mkrow e d.size (n1+m) (fcat f n1 f2) (some (andC (1≤m∧n1+m≤9223372036854775807∧(n1+m)*d.bytes≤140737488355328) c))).Ok P w gd L g h a o:=by
         intro olds v' w' hlo hf0 hr0 hrun hown hgrown _ id
         have hb:Below w.heap.size w w':=(Below.refl _ _).grown hgrown (Nat.le_refl _) (fun k hk=>by cases hk)
         refine ⟨w',v'.ownBlock,capOf v',v',append_run has hts ho hsval hxv hrun,hb,fun b e=>⟨?_,own_lt hown b e⟩,fun gd' hst _=>row_of_own hown (fun k hk=>?_) (fun k hk j y hy=>?_) L id (hT.get he).lt⟩
         ·obtain ⟨_,⟨z1,z2⟩|⟨g',cap,cur,rfl,hg',_⟩⟩:=hown
          ·omega
          ·simp only [Value.ownBlock,Option.some.injEq] at e
           subst e
           exact hg'
         ·unfold fcat
          split
          ·exact hf0 k (by omega)
          ·exact k4 _ (by omega)
         ·unfold fcat at hy
          rw [List.getD_eq_getElem?_getD,List.getElem?_append]
          by_cases hkn:k<n1
          ·rw [if_pos hkn] at hy
           have hj:j<d.size:=by rw [←hf0 k hkn];exact (List.getElem?_eq_some_iff.1 hy).1
           have hlt:k*d.size+j<olds.length:=by
            have:=Nat.mul_le_mul_right d.size (show k+1≤n1 from hkn)
            rw [Nat.add_mul] at this;omega
           rw [if_pos hlt]
           have:=(hr0 k hkn j y hy).mono hgrown.size hst
           rwa [List.getD_eq_getElem?_getD] at this
          ·rw [if_neg hkn] at hy
           have hge:¬k*d.size+j<olds.length:=by
            have:=Nat.mul_le_mul_right d.size (show n1≤k from by omega)
            omega
           rw [if_neg hge]
           have:=(k5 (k-n1) (by omega) j y hy).mono hgrown.size hst
           rw [List.getD_eq_getElem?_getD] at this
           have e2:k*d.size+j-olds.length=(k-n1)*d.size+j:=by
            rw [hlo,Nat.sub_mul]
            have:=Nat.mul_le_mul_right d.size (show n1≤k from by omega)
            omega
           rwa [e2]
        cases hrep with
        |sl0 _ _ _ _ hc=>
         cases A with
         |none=>
          obtain ⟨v',w',hrun,hown,hgrown,hnil,hblk⟩:=run_append_own_at (P:=P) w w.heap.size t o.type e i d.zeroVal d.size d.bytes hu i1 i2 i3 i4 c1 hpos (.slice none 0 0) 0 [] (World.ownsRow_nil _ _ _ _) ad m c' news k1 k2 k3
           (by unfold maxLen;omega) (by simpa using q2) (Nat.le_refl _)
          exact fin [] v' w' (by simp) (fun k hk=>by omega) (fun k hk=>by omega) hrun hown hgrown hq id
         |some A=>
          obtain ⟨v',w',hrun,hown,hgrown⟩:=run_append_arg_grows (P:=P) w t o.type e i d.zeroVal d.size d.bytes hu i1 i2 i3 i4 c1 hpos A 0 0 [] (by simp) (fun j u hj=>by simp at hj) ad m c' news k1 k2 (by omega) (by unfold maxLen;omega) q2
          exact fin [] v' w' (by simp) (fun k hk=>by omega) (fun k hk=>by omega) hrun hown hgrown hq id
        |sl _ _ _ b' off _ cs hn hc hm hg hb' hz hcell hrep=>
         obtain ⟨olds,l1,l2,l3,l4,l5⟩:=flat_news b' off cs hz hcell hrep
         obtain ⟨v',w',hrun,hown,hgrown⟩:=run_append_arg_grows (P:=P) w t o.type e i d.zeroVal d.size d.bytes hu i1 i2 i3 i4 c1 hpos ⟨b',off,none⟩ n1 n1 olds l1 l2 ad m c' news k1 k2 (by omega) (by unfold maxLen;omega) q2
         exact fin olds v' w' l1 l4 l5 hrun hown hgrown hq id
   ·
    rename_i id sz1 o1 n1 es
    split at hr
    ·split at hr
     ·rename_i e' sz2 n2 f hrow
      cases hb1:eqT e' e with
      |false=>rw [hb1] at hr;cases hr
      |true=>
       rw [hb1] at hr
       obtain ⟨this,hmt⟩:=eqT_ok hb1
       subst this
       simp only at hr
       cases hb2:Nat.beq sz2 d.size with
       |false=>rw [hb2] at hr;cases hr
       |true=>
        rw [hb2] at hr
        have hz2:=Nat.eq_of_beq_eq_true hb2
        subst hz2
        simp only at hr
        cases hb3:Nat.beq sz1 d.size with
        |false=>rw [hb3] at hr;cases hr
        |true=>
         rw [hb3] at hr
         have hz1:=Nat.eq_of_beq_eq_true hb3
         subst hz1
         simp only [Option.some.injEq] at hr
         subst hr
         refine ⟨⟨_,_,_,_,hrow⟩,fun hq hnot=>?_⟩
         obtain ⟨⟨q0,q1,q2⟩,q3⟩:=andC_left hq
         subst q0
         have hsv:=es▸H.opnd s
         generalize hsval:a.eval s=sv at hsv
         have hro:=H.obj id _ hrow
         have hold:∃xs,w.ownsRow 0 e' d.size sv n1 xs∧sv.ownBlock=L.blk id∧(∀k,k<n1→(f k).length=d.size)∧∀k,k<n1→∀(j:Nat) y,(f k)[j]? = some y→RepD w gd y (xs.getD (k*d.size+j) undef):=by
          cases hsv with
          |rsl hcap hbb had=>
           have had:=had (.inl rfl)
           subst had
           cases hro with
           |row0 hbk hck=>
            refine ⟨[],?_,?_,fun k hk=>by omega,fun k hk=>by omega⟩
            ·rw [hbk,hck];exact World.ownsRow_nil w 0 e' d.size
            ·rw [hbk];rfl
           | @row _ _ _ _ cs b t9 mk hbk hh hn hm hz hf hrep hty hmk hcap0=>
            have ht9:=hty hmt
            subst ht9
            have hmk0:mk=(0,0):=hmk.resolve_right fun h=>absurd h.1 (by omega)
            subst hmk0
            refine ⟨cs.toList.take (n1*d.size),⟨?_,.inr ⟨b,L.cap id,cs,?_,Nat.zero_le _,hh,hn,hm,hz,rfl⟩⟩,?_,hf,fun k hk j y hy=>?_⟩
            ·rw [List.length_take,Array.length_toList,hz]
             exact Nat.min_eq_left (Nat.mul_le_mul_right _ hn)
            ·rw [hbk];simp
            ·rw [hbk];rfl
            ·have hj:j<d.size:=by rw [←hf k hk];exact (List.getElem?_eq_some_iff.1 hy).1
             have hlt:k*d.size+j<n1*d.size:=by
              have:=Nat.mul_le_mul_right d.size (show k+1≤n1 from hk)
              rw [Nat.add_mul] at this;omega
             have:=hrep k hk j y hy
             rw [List.getD_eq_getElem?_getD,List.getElem?_take,if_pos hlt]
             simpa [Array.getD_eq_getD_getElem?] using this
         obtain ⟨xs,hown0,hblk0,hf0,hr0⟩:=hold
         rcases aSrc_ok H hsrc q3 with ⟨rfl,c',hxv⟩|⟨ad,c',hxv,news,n1',n2',n3',n4,n5⟩
         ·have hrun:(Builtin.append_ #[t,t] o.type #[sv,.slice none 0 c']).run P w=.ok sv w:=by
           rcases hown0.2 with ⟨rfl,rfl⟩|⟨g',cap,cur,rfl,_,_,hnc,_⟩
           ·simp [Builtin.append_,run_underlying hu,Go.sizeOf,typeInfo,i1,Builtin.lenOf,Builtin.firstCells]
           ·simp [Builtin.append_,run_underlying hu,Go.sizeOf,typeInfo,i1,Builtin.lenOf,Builtin.firstCells,hnc,storeCells]
          refine ⟨w,sv.ownBlock,capOf sv,sv,append_run has hts ho hsval hxv hrun,rfl,rfl,rfl,Nat.le_refl _,fun _ _ _=>rfl,fun b hb=>⟨own_lt hown0 b hb,.inl (by rw [←hblk0];exact hb.symm)⟩,fun dd gd' hst=>?_⟩
          have hown1:w.ownsRow 0 e' d.size sv (n1+0) xs:=hown0
          exact row_of_own hown1 (fun k hk=>by unfold fcat;rw [if_pos (by omega)];exact hf0 k (by omega)) (fun k hk j y hy=>by
           unfold fcat at hy
           rw [if_pos (by omega)] at hy
           exact (hr0 k (by omega) j y hy).mono (Nat.le_refl _) hst) L dd hmt
         ·obtain ⟨v',w',hrun,hown,hgrown,hnil,hblk⟩:=run_append_own_at (P:=P) w 0 t o.type e' i d.zeroVal d.size d.bytes hu i1 i2 i3 i4 c1 hpos sv n1 xs hown0 ad m c' news n1' n2' n3'
           (by unfold maxLen;omega) q2 (Nat.zero_le _)
          have hxs:=hown0.1
          refine ⟨w',v'.ownBlock,capOf v',v',append_run has hts ho hsval hxv hrun,hgrown.os,hgrown.tape,hgrown.output,hgrown.size,fun b hb hne=>hgrown.block b hb (by rw [hblk0];exact hne),fun b hb=>⟨own_lt hown b hb,?_⟩,fun dd gd' hst=>?_⟩
          ·rcases hblk with e'|e'
           ·left;rw [←hblk0,←e'];exact hb.symm
           ·right;rw [e'] at hb;cases hb;exact Nat.le_refl _
          ·refine row_of_own hown (fun k hk=>?_) (fun k hk j y hy=>?_) L dd hmt
           ·unfold fcat
            split
            ·exact hf0 k (by omega)
            ·exact n4 _ (by omega)
           ·unfold fcat at hy
            rw [List.getD_eq_getElem?_getD,List.getElem?_append]
            by_cases hkn:k<n1
            ·rw [if_pos hkn] at hy
             have hj:j<d.size:=by rw [←hf0 k hkn];exact (List.getElem?_eq_some_iff.1 hy).1
             have hlt:k*d.size+j<xs.length:=by
              have:=Nat.mul_le_mul_right d.size (show k+1≤n1 from hkn)
              rw [Nat.add_mul] at this;omega
             rw [if_pos hlt]
             have:=(hr0 k hkn j y hy).mono hgrown.size hst
             rwa [List.getD_eq_getElem?_getD] at this
            ·rw [if_neg hkn] at hy
             have hge:¬k*d.size+j<xs.length:=by
              have:=Nat.mul_le_mul_right d.size (show n1≤k from by omega)
              omega
             rw [if_neg hge]
             have:=(n5 (k-n1) (by omega) j y hy).mono hgrown.size hst
             rw [List.getD_eq_getElem?_getD] at this
             have e2:k*d.size+j-xs.length=(k-n1)*d.size+j:=by
              rw [hxs,Nat.sub_mul]
              have:=Nat.mul_le_mul_right d.size (show n1≤k from by omega)
              omega
             rwa [e2]
     ·cases hr
    ·cases hr
   ·cases hr
  ·cases hr
end
end Towline
