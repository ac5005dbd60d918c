/- AssocStreams: the engine, contracts and plain laws that its proof leans on, part 03. -/
import Derived.Test.YtbkcekmahdbgdaaGreatSq02
namespace Towline
open Go Go.RowKit
set_option linter.unusedVariables false
section
variable {P : Program} {T : Tys} {w : World} {gd : Nat → Prop} {L : Lay} {g : Nat → AVal} {h : Nat → Option AObj} {a : Act}
theorem vLoad_ok (hT:TysOk P T) (H:Holds w gd L g h a) {t:TypeId} {d:TyD} (ht:lookT t T=some d) {x:Operand} {id sz k off:Nat} (hx:opnd g x=.rptr id sz k off) {t':TypeId} {cells:List AVal} (hid:h id=some (.vrow t' cells))
  {v:AVal} (hp:aPart d (dropF (k*sz+off) cells)=some v) {o:Oper} (ho:o.op=.load t x):(Res.val v).Ok P w gd L g h a o:=by
 have hv:=H.opnd x
 rw [hx] at hv
 generalize hxv:a.eval x=xv at hv
 cases hv with
 | @rptr _ _ _ _ _ b hb=>
  have hro:=H.obj _ _ hid
  have hl:∀(i:Nat) y,(dropF (k*sz+off) cells)[i]? = some y→∃u,w.cell? ⟨b,k*sz+off+i,none⟩=some u∧u.oneCell'=true∧RepA w L gd y u:=by
   intro i y hy
   rw [dropF_eq,List.getElem?_drop] at hy
   have hlt:=(List.getElem?_eq_some_iff.1 hy).1
   cases hro with
   |vrow0=>simp at hlt
   | @vrow _ _ cs b' hb' hh hn hm hz h1 hr=>
    rw [hb] at hb'
    cases hb'
    refine ⟨cs.getD (k*sz+off+i) undef,?_,h1 _ hlt,hr _ _ hy⟩
    rw [cell_of_row w b _ cs _ (0,0) hh,Array.getD_eq_getD_getElem?,Array.getElem?_eq_getElem (by omega)]
    rfl
  obtain ⟨u,h1,h2⟩:=loadAt_ok (P:=P) hT ht hp hl
  exact ⟨u,by simp [execOp,ho,hxv,h1],h2⟩
theorem vStore_ok (hT:TysOk P T) (H:Holds w gd L g h a) {t:TypeId} {d:TyD} (ht:lookT t T=some d) {p x:Operand} {id sz k off:Nat} (hpo:opnd g p=.rptr id sz k off) {t':TypeId} {cells:List AVal} (hobj:h id=some (.vrow t' cells))
  {vs l:List AVal} (hs:aStored d (opnd g x)=some vs) (hbq:Nat.beq vs.length d.size=true) (hov:overF cells (k*sz+off) vs=some l) {o:Oper} (ho:o.op=.store t p x):(Res.set id (.vrow t' l)).Ok P w gd L g h a o:=by
 have hv:=H.opnd x
 have hp:=H.opnd p
 rw [hpo] at hp
 generalize hpv:a.eval p=pval at hp
 cases hp with
 | @rptr _ _ _ _ _ b hb=>
  generalize hoff:k*sz+off=off' at *
  have hlen:=Nat.eq_of_beq_eq_true hbq
  obtain ⟨e1,e2,e3⟩:=overF_eq hov
  obtain ⟨s1,s2,s3⟩:=aStored_ok hT ht hv hs
  have hro:=H.obj id _ hobj
  cases hro with
  |vrow0 hb' _=>rw [hb] at hb';cases hb'
  | @vrow _ _ cs b' hb' hh hn hm hz h1 hrep=>
   rw [hb] at hb'
   cases hb'
   have hfit:off'+(a.eval x).cells.size≤cs.size:=by omega
   have hrun:=storeAt_run (P:=P) hT ht (by omega) hh (.inl rfl) hfit (cells_mem s1 s2)
   have hg:=over_getD cs off' (a.eval x).cells.toList (by simpa using hfit)
   simp only [Array.length_toList] at hg
   refine ⟨⟨_,hobj⟩,b,(w.setRow b (cs.toList.take off'++(a.eval x).cells.toList++cs.toList.drop (off'+(a.eval x).cells.size)).toArray),hb,.inl (by simp [execOp,ho,hpv,hrun]),rfl,rfl,rfl,by simp,fun b' hne=>setRow_other w b b' _ hne,fun gd' hst htop=>?_⟩
   refine .vrow hb (setRow_heap w b cs _ t' (0,0) hh) (by omega) hm (by simp;omega) (fun i hi=>?_) (fun i y hy=>?_)
   ·rw [hg]
    split
    ·have:=s2 (i-off') (by omega)
     simpa [List.getD_eq_getElem?_getD,Array.getD_eq_getD_getElem?] using this
    ·exact h1 i (by omega)
   ·rw [hg]
    rw [e3] at hy
    have hsz:w.heap.size≤(w.setRow b (cs.toList.take off'++(a.eval x).cells.toList++cs.toList.drop (off'+(a.eval x).cells.size)).toArray).heap.size:=by simp
    by_cases hc:off'≤i∧i<off'+vs.length
    ·rw [if_pos hc] at hy
     rw [if_pos (by omega)]
     have:=(s3 (i-off') y hy).mono1 hsz hst htop
     simpa [List.getD_eq_getElem?_getD,Array.getD_eq_getD_getElem?] using this
    ·rw [if_neg hc] at hy
     rw [if_neg (by omega)]
     exact (hrep i y hy).mono1 hsz hst htop
theorem findD0_lift (k:D):∀(l:List (D×D)) (i:Nat),findM k (liftM l) i=(findD0 k l i).map (Option.map fun x=>(x.1,AVal.d x.2))
 | [],i=>rfl
 |(k',v)::r,i=>by
  show (match keyEq k k' with|some true=>some (some (i,AVal.d v))|some false=>findM k (liftM r) (i+1)|none=>none)=Option.map _ (match keyEq k k' with|some true=>some (some (i,v))|some false=>findD0 k r (i+1)|none=>none)
  cases keyEq k k' with
  |none=>rfl
  |some b=>
   cases b with
   |true=>rfl
   |false=>exact findD0_lift k r (i+1)
theorem findD_lift {k:D} {l:List (D×D)} {f:Option (Nat×D)} (hf:findD k l=some f):findM k (liftM l) 0=some (f.map fun x=>(x.1,AVal.d x.2)):=by
 unfold findD at hf
 rw [findD0_lift,hf]
 rfl
theorem aMapD_ok (H:Holds w gd L g h a) {t:TypeId} {m k:AVal} {id:Nat} {et:TypeId} {kd:D} {l:List (D×D)} (hm:aMapD T h t m k=some (id,et,kd,l)) :
  h id=some (.dmp l)∧Holds w gd L g (hput h id (.mp (liftM l))) a∧aMap T (hput h id (.mp (liftM l))) t m k=some (id,et,kd,liftM l):=by
 unfold aMapD at hm
 split at hm
 ·rename_i kt et' sz by_ z ht
  split at hm
  ·rename_i dk hkt
   split at hm
   ·rename_i id'
    split at hm
    ·rename_i l' hid
     split at hm
     ·rename_i k'
      split at hm
      ·rename_i hkk
       simp only [Option.some.injEq,Prod.mk.injEq] at hm
       obtain ⟨rfl,rfl,rfl,rfl⟩:=hm
       refine ⟨hid,⟨H.slot,fun i o ho=>?_,H.glob⟩,?_⟩
       ·unfold hput at ho
        split at ho
        ·rename_i e
         cases ho
         rw [e]
         exact (H.obj _ _ hid).dmp_mp
        ·exact H.obj i o ho
       ·simp [aMap,ht,hkt,hput,hkk]
      ·cases hm
     ·cases hm
    ·cases hm
   ·cases hm
  ·cases hm
 ·cases hm
theorem WritesOk.dmp {o:Oper} {id:Nat} {l:List (D×D)} (h:WritesOk P w gd L a o id (.mp (liftM l))):WritesOk P w gd L a o id (.dmp l):=by
 obtain ⟨b,w',h1,h2,h3,h4,h5,h6,h7,h8⟩:=h
 exact ⟨b,w',h1,h2,h3,h4,h5,h6,h7,fun gd' a1 a2=>(h8 gd' a1 a2).mp_dmp⟩
theorem putM_lift (f:Option (Nat×D)) (k x:D) (l:List (D×D)):liftM (putM f k x l)=(match f.map (fun x=>(x.1,AVal.d x.2)) with|some (i,_)=>(liftM l).set i (k,.d x)|none=>liftM l++[(k,.d x)]):=by
 unfold putM
 cases f with
 |none=>simp [liftM]
 |some p=>simp [liftM,List.map_set]
theorem eraseIdx_mp {α β:Type} (f:α→β):∀(l:List α) (i:Nat),(l.eraseIdx i).map f=(l.map f).eraseIdx i
 | [],i=>rfl
 |x::r,0=>rfl
 |x::r,i+1=>by simp [eraseIdx_mp f r i]
theorem delM_lift (f:Option (Nat×D)) (l:List (D×D)):liftM (delM f l)=(match f.map (fun x=>(x.1,AVal.d x.2)) with|some (i,_)=>(liftM l).eraseIdx i|none=>liftM l):=by
 unfold delM
 cases f with
 |none=>rfl
 |some p=>simp [liftM,eraseIdx_mp]
theorem dmpSet_ok (hT:TysOk P T) (H:Holds w gd L g h a) {t:TypeId} {m k x:Operand} {id:Nat} {et:TypeId} {kd xd:D} {l:List (D×D)} (hm:aMapD T h t (opnd g m) (opnd g k)=some (id,et,kd,l)) (hx:opnd g x=.d xd) {f:Option (Nat×D)} (hf:findD kd l=some f)
  {o:Oper} (ho:o.op=.mapUpdate t m k x∨o.op=.insert t m k x):(Res.set id (.dmp (putM f kd xd l))).Ok P w gd L g h a o:=by
 obtain ⟨hid,H',hm'⟩:=aMapD_ok H hm
 obtain ⟨_,h2⟩:=mapSet_ok (x:=x) hT H' hm' (by rw [hx];rfl) (findD_lift hf) ho
 refine ⟨⟨_,hid⟩,WritesOk.dmp ?_⟩
 rw [putM_lift,←hx]
 cases f with
 |none=>exact h2
 |some p=>exact h2
theorem dmpDel_ok (hT:TysOk P T) (H:Holds w gd L g h a) {t t':TypeId} {m k:Operand} {id:Nat} {et:TypeId} {kd:D} {l:List (D×D)} (hm:aMapD T h t (opnd g m) (opnd g k)=some (id,et,kd,l)) {f:Option (Nat×D)} (hf:findD kd l=some f)
  {as:Array Operand} {ts:Array TypeId} (has:as.toList=[m,k]) (hts:ts.toList=[t,t']) {o:Oper} (ho:o.op=.call { callee:=.builtin .delete,args:=as,argTypes:=ts}):(Res.set id (.dmp (delM f l))).Ok P w gd L g h a o:=by
 obtain ⟨hid,H',hm'⟩:=aMapD_ok H hm
 obtain ⟨_,h2⟩:=mapDel_ok hT H' hm' (findD_lift hf) has hts ho
 refine ⟨⟨_,hid⟩,WritesOk.dmp ?_⟩
 rw [delM_lift]
 cases f with
 |none=>exact h2
 |some p=>exact h2
theorem dmpGet_ok (hT:TysOk P T) (H:Holds w gd L g h a) {t:TypeId} {m k:Operand} {ok:Bool} {id:Nat} {et:TypeId} {kd z:D} {l:List (D×D)} (hm:aMapD T h t (opnd g m) (opnd g k)=some (id,et,kd,l)) {d:TyD} (he:lookT et T=some d) (hs:isStr d.kind=false) (hz0:d.zero=[z]) {f:Option (Nat×D)} (hf:findD kd l=some f)
  {o:Oper} (ho:o.op=.lookup t m k ok):(Res.val (okM ok (match f with|some (_,v)=>.d v|none=>.d z) (match f with|some _=>true|none=>false))).Ok P w gd L g h a o:=by
 obtain ⟨hid,H',hm'⟩:=aMapD_ok H hm
 have h2:=mapGet_ok hT H' hm' he hs hz0 (findD_lift hf) ho
 cases f with
 |none=>exact h2
 |some p=>exact h2
theorem dmpLen_ok (hT:TysOk P T) (H:Holds w gd L g h a) {t kt et:TypeId} {sz by_:Nat} {z:List D} (ht:lookT t T=some ⟨.map kt et,sz,by_,z⟩) {x:Operand} {id:Nat} {l:List (D×D)} (hx:opnd g x=.mref id) (hid:h id=some (.dmp l))
  {as:Array Operand} {ts:Array TypeId} (has:as.toList=[x]) (hts:ts.toList=[t]) {o:Oper} (ho:o.op=.call { callee:=.builtin .len,args:=as,argTypes:=ts}):(Res.val (.d (.i .i64 l.length))).Ok P w gd L g h a o:=by
 have H':Holds w gd L g (hput h id (.mp (liftM l))) a:=⟨H.slot,fun i o ho=>by
  unfold hput at ho
  split at ho
  ·rename_i e
   cases ho
   rw [e]
   exact (H.obj _ _ hid).dmp_mp
  ·exact H.obj i o ho,H.glob⟩
 have h2:=lenMap_ok hT H' ht hx (show hput h id (.mp (liftM l)) id=some (.mp (liftM l)) by simp [hput]) has hts ho
 rw [show (liftM l).length=l.length by simp [liftM]] at h2
 exact h2
theorem dmpNew_ok {o:Oper} (h2:(Res.newv (.mp []) (fun id=>.mref id) none).Ok P w gd L g h a o):(Res.newv (.dmp []) (fun id=>.mref id) none).Ok P w gd L g h a o:=by
 intro hq d hd
 obtain ⟨w',nb,nc,u,r1,r2,r3,r4⟩:=h2 hq d hd
 exact ⟨w',nb,nc,u,r1,r2,r3,fun gd' a1 a2=>⟨RepO.mp_dmp (l:=[]) (r4 gd' a1 a2).1,(r4 gd' a1 a2).2⟩⟩
theorem vrow_of_own {w':World} {gd':Nat→Prop} {base e:TypeId} {N:Nat} {v':Value} {ys:List Value} {cells:List AVal} (hN:cells.length=N) (hown:w'.ownsRow base e 1 v' N ys) (L:Lay) (d:Nat) (h1:∀u∈ys,u.oneCell'=true)
  (hr:∀(i:Nat) x,cells[i]? = some x→RepA w' (L.upd d v'.ownBlock (capOf v')) gd' x (ys.getD i undef)) :
  RepO w' gd' (L.upd d v'.ownBlock (capOf v')) d (.vrow e cells)∧RepA w' (L.upd d v'.ownBlock (capOf v')) gd' (.rsl d 1 0 N) v':=by
 subst hN
 obtain ⟨hl,⟨rfl,hnil⟩|⟨g,cap,cur,rfl,hg,hh,hc,hcap,hcur,hx⟩⟩:=hown
 ·have hc0:cells=[]:=by
   cases cells with
   |nil=>rfl
   |cons x r=>simp at hnil
  subst hc0
  refine ⟨.vrow0 (by simp [Lay.upd,Value.ownBlock]) (by simp [Lay.upd,capOf]),?_⟩
  have:RepA w' (L.upd d none 0) gd' (.rsl d 1 0 0) (.slice (((L.upd d none 0).blk d).map fun b=>⟨b,0*1,none⟩) 0 ((L.upd d none 0).cap d-0)):=.rsl (by simp [Lay.upd]) (fun h=>by omega) (fun _=>rfl)
  simpa [Lay.upd,Value.ownBlock,capOf] using this
 ·rw [Nat.mul_one] at hx hcur
  have hget:∀i,i<cells.length→ys.getD i undef=cur.getD i undef:=fun i hi=>by
   rw [←hx,List.getD_eq_getElem?_getD,List.getElem?_take,if_pos hi,Array.getD_eq_getD_getElem?]
   simp
  refine ⟨?_,?_⟩
  ·refine .vrow (b:=g) (cs:=cur) (by simp [Lay.upd,Value.ownBlock]) hh (by simpa [Lay.upd,capOf] using hc) (by simpa [Lay.upd,capOf] using hcap) (by simpa [Lay.upd,capOf] using hcur) (fun i hi=>?_) (fun i x hxx=>?_)
   ·rw [←hget i hi]
    have hlt:i<ys.length:=by rw [hl,Nat.mul_one];exact hi
    rw [List.getD_eq_getElem?_getD,List.getElem?_eq_getElem hlt]
    exact h1 _ (List.getElem_mem hlt)
   ·have hlt:=(List.getElem?_eq_some_iff.1 hxx).1
    rw [←hget i hlt]
    exact hr i x hxx
  ·have:RepA w' (L.upd d (some g) cap) gd' (.rsl d 1 0 cells.length) (.slice (((L.upd d (some g) cap).blk d).map fun b=>⟨b,0*1,none⟩) cells.length ((L.upd d (some g) cap).cap d-0)):=.rsl (by simpa [Lay.upd] using hc) (fun _=>⟨g,by simp [Lay.upd]⟩) (fun _=>rfl)
   simpa [Lay.upd,Value.ownBlock,capOf] using this
theorem vSrc_ok (H:Holds w gd L g h a) {x:Operand} {new:List AVal} (hs:vSrc h (opnd g x)=some new) :
  (new=[]∧∃c',a.eval x=.slice none 0 c')∨(∃ad c',a.eval x=.slice (some ad) new.length c'∧∃news:List Value,news.length=new.length∧(∀(j:Nat) u,news[j]? = some u→w.cell? (ad.add j)=some u)∧(∀u∈news,u.oneCell'=true)∧
   ∀(i:Nat) y,new[i]? = some y→RepA w L gd y (news.getD i undef)):=by
 have hv:=H.opnd x
 generalize hxv:a.eval x=xv at hv
 have main:∀{b c:Nat} {cs:Array Value} {t2:TypeId} {cells:List AVal},w.heap[b]? = some (.cells cs t2 (0,0))→cells.length≤cs.size→(∀i,i<cells.length→(cs.getD i undef).oneCell'=true)→(∀(i:Nat) y,cells[i]? = some y→RepA w L gd y (cs.getD i undef))→
   ∃ad c',Value.slice (some ⟨b,0,none⟩) cells.length c=.slice (some ad) cells.length c'∧∃news:List Value,news.length=cells.length∧(∀(j:Nat) u,news[j]? = some u→w.cell? (ad.add j)=some u)∧(∀u∈news,u.oneCell'=true)∧
   ∀(i:Nat) y,cells[i]? = some y→RepA w L gd y (news.getD i undef):=by
  intro b c cs t2 cells hh hle h1 hr
  refine ⟨_,c,rfl,cs.toList.take cells.length,by simp;omega,fun j u hu=>?_,fun u hu=>?_,fun i y hy=>?_⟩
  ·rw [List.getElem?_take] at hu
   split at hu
   ·rw [addr_add0,Nat.zero_add,cell_of_row w b j cs t2 (0,0) hh]
    simpa using hu
   ·cases hu
  ·obtain ⟨i,hi,rfl⟩:=List.getElem_of_mem hu
   have hi':i<cells.length:=by simp at hi;omega
   have:=h1 i hi'
   simpa [Array.getD_eq_getD_getElem?,Array.getElem?_eq_getElem (show i<cs.size by omega)] using this
  ·have hlt:=(List.getElem?_eq_some_iff.1 hy).1
   have:=hr i y hy
   rw [List.getD_eq_getElem?_getD,List.getElem?_take,if_pos hlt]
   simpa [Array.getD_eq_getD_getElem?] using this
 unfold vSrc at hs
 split at hs
 ·rename_i id sz o m e
  rw [e] at hv
  split at hs
  ·rename_i hsz
   have:=Nat.eq_of_beq_eq_true hsz
   subst this
   split at hs
   ·split at hs
    ·rename_i cells tag hid
     split at hs
     ·rename_i hm
      have hm:=Nat.eq_of_beq_eq_true hm
      cases hs
      subst hm
      cases hv with
      |rsl hcap hblk had=>
       have had:=had (.inl rfl)
       subst had
       cases H.obj _ _ hid with
       |box htag hb hh hz h1 hr=>
        right
        rw [hb]
        exact main hh (by omega) h1 hr
     ·cases hs
    ·rename_i t2 cells hid
     split at hs
     ·rename_i hm
      have hm:=Nat.eq_of_beq_eq_true hm
      cases hs
      subst hm
      cases hv with
      |rsl hcap hblk had=>
       have had:=had (.inl rfl)
       subst had
       cases H.obj _ _ hid with
       |vrow0 hb hc=>left;exact ⟨rfl,_,by rw [hb];rfl⟩
       |vrow hb hh hn hm2 hz h1 hr=>
        right
        rw [hb]
        exact main hh (by omega) h1 hr
     ·cases hs
    ·cases hs
   ·cases hs
  ·cases hs
 ·rename_i c e
  cases hs
  rw [e] at hv
  left
  exact ⟨rfl,c,repA_v hv⟩
 ·cases hs
theorem appV_ok (hT:TysOk P T) (H:Holds w gd L g h a) {t e:TypeId} {sz by_:Nat} {z:List D} (ht:lookT t T=some ⟨.slice e,sz,by_,z⟩) {d:TyD} (he:lookT e T=some d) (hd1:d.size=1) {s x:Operand} {new:List AVal} (hsrc:vSrc h (opnd g x)=some new)
  {as:Array Operand} {ts:Array TypeId} (has:as.toList=[s,x]) (hts:ts.toList=[t,t]) {o:Oper} (ho:o.op=.call { callee:=.builtin .append,args:=as,argTypes:=ts}) :
  (opnd g s=.d (.v (.slice none 0 0))→(Res.mkv e new (new.length≤9223372036854775807∧new.length*d.bytes≤140737488355328)).Ok P w gd L g h a o)∧
  (∀id old,opnd g s=.rsl id 1 0 old.length→h id=some (.vrow e old)→(Res.appv id e (old++new) (old.length+new.length≤9223372036854775807∧(old.length+new.length)*d.bytes≤140737488355328)).Ok P w gd L g h a o):=by
 have hu:=(hT.get ht).slice rfl
 have hd:=hT.get he
 obtain ⟨i,i1,i2,i3,i4⟩:=hd.info'
 obtain ⟨c1,_⟩:=zeroVal_cells (w:=w) (gd:=gd) hd
 rw [hd.zlen] at c1
 have hpos:0<d.size:=by omega
 have hupd:∀{dd:Nat} {nb:Option Nat} {nc:Nat} (j:Nat),(j != dd)=true→(L.upd dd nb nc).blk j=L.blk j∧(L.upd dd nb nc).cap j=L.cap j:=by
  intro dd nb nc j hj
  have:j≠dd:=by simpa using hj
  simp [Lay.upd,this]
 refine ⟨fun es hq id hfr=>?_,fun id old es hrow=>⟨⟨_,_,hrow⟩,fun hq hnot=>?_⟩⟩
 ·obtain ⟨q1,q2⟩:=hq
  have hsv:=repA_v (es▸H.opnd s)
  rcases vSrc_ok H hsrc with ⟨rfl,c',hxv⟩|⟨ad,c',hxv,news,n1,n2,n3,n5⟩
  ·have hrun:(Builtin.append_ #[t,t] o.type #[.slice none 0 0,.slice none 0 c']).run P w=.ok (.slice none 0 0) w:=by
    simp [Builtin.append_,run_underlying hu,Go.sizeOf,typeInfo,i1,Builtin.lenOf,Builtin.firstCells]
   exact ⟨w,none,0,_,append_run has hts ho hsv hxv hrun,Below.refl _ _,fun b hb=>(by cases hb),fun gd' hst _=>vrow_of_own (cells:=[]) rfl (World.ownsRow_nil w 0 e 1) L id (fun u hu=>by cases hu) (fun i x hx=>by simp at hx)⟩
  ·obtain ⟨v',w',hrun,hown,hgrown,hnil,hblk⟩:=run_append_own_at (P:=P) w w.heap.size t o.type e i d.zeroVal d.size d.bytes hu i1 i2 i3 i4 c1 hpos (.slice none 0 0) 0 [] (World.ownsRow_nil _ _ _ _) ad new.length c' news (by rw [n1,hd1,Nat.mul_one]) n2 n3
    (by unfold maxLen;omega) (by simpa using q2) (Nat.le_refl _)
   simp only [Nat.zero_add,List.nil_append] at hown
   rw [hd1] at hown
   have hb:Below w.heap.size w w':=(Below.refl _ _).grown hgrown (Nat.le_refl _) (fun k hk=>by cases hk)
   refine ⟨w',v'.ownBlock,capOf v',v',append_run has hts ho hsv hxv hrun,hb,fun b e=>⟨?_,own_lt hown b e⟩,fun gd' hst hng=>vrow_of_own rfl hown L id n3 (fun i y hy=>(n5 i y hy).mono hb.size (· != id) hupd (fun b hlt hb'=>⟨hb',hb.block b hlt⟩) hst fun j hj=>?_)⟩
   ·rcases hblk with e'|e'
    ·rw [e'] at e;cases e
    ·rw [e'] at e;cases e;exact Nat.le_refl _
   ·obtain rfl:j=id:=by simpa using hj
    exact AVal.freeL_get hfr i y hy
 ·obtain ⟨q1,q2⟩:=hq
  have hsv:=es▸H.opnd s
  generalize hsval:a.eval s=sv at hsv
  have hro:=H.obj id _ hrow
  have hold:∃xs,w.ownsRow 0 e 1 sv old.length xs∧sv.ownBlock=L.blk id∧(∀u∈xs,u.oneCell'=true)∧∀(i:Nat) y,old[i]? = some y→RepA w L gd y (xs.getD i undef):=by
   cases hsv with
   |rsl hcap hbb had=>
    have had:=had (.inl rfl)
    subst had
    cases hro with
    |vrow0 hbk hck=>
     refine ⟨[],?_,?_,fun u hu=>(by cases hu),fun i y hy=>by simp at hy⟩
     ·rw [hbk,hck];exact World.ownsRow_nil w 0 e 1
     ·rw [hbk];rfl
    | @vrow _ _ cs b hbk hh hn hm hz h1 hr=>
     refine ⟨cs.toList.take old.length,⟨?_,.inr ⟨b,L.cap id,cs,?_,Nat.zero_le _,hh,hn,hm,by rw [Nat.mul_one];exact hz,by rw [Nat.mul_one]⟩⟩,?_,fun u hu=>?_,fun i y hy=>?_⟩
     ·have:cs.toList.length=cs.size:=by simp
      rw [List.length_take,this,hz,Nat.mul_one]
      exact Nat.min_eq_left hn
     ·rw [hbk];simp
     ·rw [hbk];rfl
     ·obtain ⟨i,hi,rfl⟩:=List.getElem_of_mem hu
      have hi':i<old.length:=by simp at hi;omega
      have:=h1 i hi'
      simpa [Array.getD_eq_getD_getElem?,Array.getElem?_eq_getElem (show i<cs.size by omega)] using this
     ·have hlt:=(List.getElem?_eq_some_iff.1 hy).1
      have:=hr i y hy
      rw [List.getD_eq_getElem?_getD,List.getElem?_take,if_pos hlt]
      simpa [Array.getD_eq_getD_getElem?] using this
  obtain ⟨xs,hown0,hblk0,hx1,hr0⟩:=hold
  rcases vSrc_ok H hsrc with ⟨rfl,c',hxv⟩|⟨ad,c',hxv,news,n1',n2',n3',n5⟩
  ·have hrun:(Builtin.append_ #[t,t] o.type #[sv,.slice none 0 c']).run P w=.ok sv w:=by
    rcases hown0.2 with ⟨rfl,hnl⟩|⟨g',cap,cur,rfl,_,_,hnc,_⟩
    ·simp [Builtin.append_,run_underlying hu,Go.sizeOf,typeInfo,i1,Builtin.lenOf,Builtin.firstCells]
    ·simp [Builtin.append_,run_underlying hu,Go.sizeOf,typeInfo,i1,Builtin.lenOf,Builtin.firstCells,hnc,storeCells]
   refine ⟨w,sv.ownBlock,capOf sv,sv,append_run has hts ho hsval hxv hrun,rfl,rfl,rfl,Nat.le_refl _,fun _ _ _=>rfl,fun b hb=>⟨own_lt hown0 b hb,.inl (by rw [←hblk0];exact hb.symm)⟩,fun dd gd' hfr hst hto=>?_⟩
   rw [List.append_nil] at hfr ⊢
   exact vrow_of_own rfl hown0 L dd hx1 fun i y hy=>(hr0 i y hy).mono (Nat.le_refl _) (· != dd) hupd (fun b hlt hb'=>⟨hb',hto b hb'⟩) hst fun j hj=>by
    obtain rfl:j=dd:=by simpa using hj
    exact AVal.freeL_get hfr i y hy
  ·obtain ⟨v',w',hrun,hown,hgrown,hnil,hblk⟩:=run_append_own_at (P:=P) w 0 t o.type e i d.zeroVal d.size d.bytes hu i1 i2 i3 i4 c1 hpos sv old.length xs (by rw [hd1];exact hown0) ad new.length c' news (by rw [n1',hd1,Nat.mul_one]) n2' n3'
    (by unfold maxLen;omega) q2 (Nat.zero_le _)
   rw [hd1] at hown
   have hxs:xs.length=old.length:=by rw [hown0.1,Nat.mul_one]
   refine ⟨w',v'.ownBlock,capOf v',v',append_run has hts ho hsval hxv hrun,hgrown.os,hgrown.tape,hgrown.output,hgrown.size,fun b hb hne=>hgrown.block b hb (by rw [hblk0];exact hne),fun b hb=>⟨own_lt hown b hb,?_⟩,fun dd gd' hfr hst hto=>?_⟩
   ·rcases hblk with e'|e'
    ·left;rw [←hblk0,←e'];exact hb.symm
    ·right;rw [e'] at hb;cases hb;exact Nat.le_refl _
   ·have hmono:∀{y:AVal} {v:Value},y.free dd=true→RepA w L gd y v→RepA w' (L.upd dd v'.ownBlock (capOf v')) gd' y v:=fun hf hv=>hv.mono hgrown.size (· != dd) hupd (fun b hlt hb'=>⟨hb',hto b hb'⟩) hst fun j hj=>by
     obtain rfl:j=dd:=by simpa using hj
     exact hf
    have hres:=vrow_of_own (cells:=old++new) (by simp) hown L dd (fun u hu=>by
     rcases List.mem_append.1 hu with hu|hu
     ·exact hx1 u hu
     ·exact n3' u hu) fun i y hy=>by
     have hfy:=AVal.freeL_get hfr i y hy
     rw [List.getD_eq_getElem?_getD,List.getElem?_append]
     by_cases hi:i<old.length
     ·rw [List.getElem?_append_left hi] at hy
      rw [if_pos (by omega),←List.getD_eq_getElem?_getD]
      exact hmono hfy (hr0 i y hy)
     ·rw [List.getElem?_append_right (by omega)] at hy
      rw [if_neg (by omega),hxs,←List.getD_eq_getElem?_getD]
      exact hmono hfy (n5 _ y hy)
    simpa using hres
theorem dsOf_ok:∀{l:List AVal} {ds:List D},dsOf l=some ds→l=ds.map .d
 | [],ds,h=>by cases h;rfl
 |.d x::r,ds,h=>by
  unfold dsOf at h
  split at h
  ·rename_i l hl
   cases h
   rw [dsOf_ok hl];rfl
  ·cases h
 |.any::_,ds,h=>by cases h
 |.agg _::_,ds,h=>by cases h
 |.tup _::_,ds,h=>by cases h
 |.ptr .. :: _,ds,h=>by cases h
 |.eptr .. :: _,ds,h=>by cases h
 |.rsl .. :: _,ds,h=>by cases h
 |.rptr .. :: _,ds,h=>by cases h
 |.mref _::_,ds,h=>by cases h
 |.fn .. :: _,ds,h=>by cases h
 |.fresh .. :: _,ds,h=>by cases h
theorem boxPt_ok (H:Holds w gd L g h a) {t:TypeId} {x:Operand} {l:List AVal} {ds:List D} (hx:opnd g x=.agg l) (hl:dsOf l=some ds) {o:Oper} (ho:o.op=.box t x):(Res.newv (.row 0 1 0 fun _=>[]) (fun _=>.d (.pt ds)) none).Ok P w gd L g h a o:=by
 have hl:=dsOf_ok hl
 intro _ d hf
 obtain ⟨vs,hv,k1,k2,k3⟩:=repA_agg (hx▸H.opnd x)
 have hk:MakesOk P w gd L a o d (.ptr d 0) (.box l none):=box_ok (cs:=vs) (t:=t) (fun _ h=>by cases h) (by simp [execOp,ho,Instr.box,newVar,newRow,hv,Value.cells]) k1 k2 k3 d (fun i y hy=>by
  have:=opnd_free hf x
  rw [hx] at this
  exact AVal.freeL_get this i y hy)
 obtain ⟨w',nb,nc,u,h1,h2,h3,h4⟩:=hk
 refine ⟨w',none,0,u,h1,h2,fun b hb=>(by cases hb),fun gd' hst hng=>⟨.row0 (by simp [Lay.upd]) (by simp [Lay.upd]),?_⟩⟩
 obtain ⟨hob,hu⟩:=h4 gd' hst fun b hb1 hb2 _=>hng b hb1 hb2 (by simp)
 have hb:∀b,(L.upd d nb nc).blk d=some b→gd' b∧b<w'.heap.size:=fun b hb=>by
  simp only [Lay.upd,if_true] at hb
  exact ⟨hng b (h3 b hb).1 (h3 b hb).2 (by simp),(h3 b hb).2⟩
 cases hu with
 |ptr hblk=>
  obtain ⟨g1,g2⟩:=hb _ hblk
  cases hob with
  | @box _ _ cs t2 b2 htag hblk2 hh hz ho1 hoc=>
   rw [hblk] at hblk2
   cases hblk2
   refine .d (.pt ds _ (.sl ds.length 1 (fun _=>ds) _ 0 1 (fun k j=>cs.getD (k*ds.length+j) undef) (by omega) (by omega) (by decide) g1 g2 (fun _ _=>rfl) (fun k hk j hj=>?_) (fun k hk j x hx=>?_)))
   ·have hk0:k=0:=by omega
    subst hk0
    have hlt:0*ds.length+j<cs.size:=by rw [hz,hl,List.length_map];omega
    rw [Nat.zero_add,cell_of_row w' _ _ cs t2 (0,0) hh,Array.getD_eq_getD_getElem?,Array.getElem?_eq_getElem hlt]
    rfl
   ·have hk0:k=0:=by omega
    subst hk0
    have hx':l[j]? = some (.d x):=by rw [hl,List.getElem?_map,hx];rfl
    have:=hoc j _ hx'
    rw [Nat.zero_mul,Nat.zero_add]
    cases this with
    |d h=>exact h
theorem sliceNil_ok (hT:TysOk P T) (H:Holds w gd L g h a) {t e:TypeId} {sz' by_:Nat} {z:List D} (ht:lookT t T=some ⟨.slice e,sz',by_,z⟩) {d:TyD} (he:lookT e T=some d) {x hi:Operand} {kk:IntKind} {n:Int} (hx:opnd g x=.d (.v (.slice none 0 0)))
  (hh:opnd g hi=.d (.i kk n)) {o:Oper} (ho:o.op=.slice t x none (some hi) none):(Res.cond (.d (.v (.slice none 0 0))) (n=0)).Ok P w gd L g h a o:=by
 have hu:=(hT.get ht).slice rfl
 have hsize:=(hT.get he).sizeOf w
 have hv:=repA_v (hx▸H.opnd x)
 have hi':=repA_i (hh▸H.opnd hi)
 intro hn
 subst hn
 have hhi:optI g (some hi)=some (some 0):=by simp only [optI,hh]
 obtain ⟨h1,h2,h3⟩:=bounds_ok (P:=P) (optI_ok H (rfl:optI g none=some none)) (optI_ok H hhi) 0 0 (Nat.zero_le _) true w (fun q hq=>by simp [sliceOf] at hq;exact hq)
 refine ⟨.slice none 0 0,?_,?_⟩
 ·simp only [sliceOf] at h1
  simp [execOp,ho,hv,Instr.sliceAt,Instr.slice,run_underlying hu] at h1 ⊢
  simp [h1,hsize]
 ·have:=H.opnd x
  rw [hx,hv] at this
  exact this
theorem newOp_ok (hT:TysOk P T) (H:Holds w gd L g h a) {o:Oper} {r:Res} (hr:newOp T g h o.op=some r):r.Ok P w gd L g h a o:=by
 generalize hop:o.op=op at hr
 unfold newOp at hr
 split at hr
 ·
  rename_i t x
  split at hr
  ·rename_i id sz k off hx
   split at hr
   ·rename_i t' cells hid
    split at hr
    ·rename_i d ht
     split at hr
     ·rename_i v hp
      cases hr
      exact vLoad_ok hT H ht hx hid hp hop
     ·cases hr
    ·cases hr
   ·cases hr
  ·cases hr
 ·
  rename_i t p x
  split at hr
  ·rename_i id sz k off hx
   split at hr
   ·rename_i t' cells hid
    split at hr
    ·rename_i d ht
     split at hr
     ·rename_i vs hs
      split at hr
      ·rename_i hb
       split at hr
       ·rename_i l hov
        cases hr
        exact vStore_ok hT H ht hx hid hs hb hov hop
       ·cases hr
      ·cases hr
     ·cases hr
    ·cases hr
   ·cases hr
  ·cases hr
 ·
  rename_i t m k ok
  split at hr
  ·rename_i id et kd l hm
   split at hr
   ·rename_i d he
    split at hr
    ·rename_i hs
     split at hr
     ·rename_i z hz
      cases hr
      intro f hf
      have:=dmpGet_ok hT H hm he hs hz hf hop
      cases f<;>exact this
     ·cases hr
    ·cases hr
   ·cases hr
  ·cases hr
 ·
  rename_i t m k x
  split at hr
  ·rename_i id et kd l hm
   split at hr
   ·rename_i xd hx
    cases hr
    exact ⟨⟨_,(aMapD_ok H hm).1⟩,fun f hf=>(dmpSet_ok hT H hm hx hf (.inl hop)).2⟩
   ·cases hr
  ·cases hr
 ·
  rename_i t m k x
  split at hr
  ·rename_i id et kd l hm
   split at hr
   ·rename_i xd hx
    cases hr
    exact ⟨⟨_,(aMapD_ok H hm).1⟩,fun f hf=>(dmpSet_ok hT H hm hx hf (.inr hop)).2⟩
   ·cases hr
  ·cases hr
 ·
  rename_i t
  split at hr
  ·cases hr
   exact dmpNew_ok (aop0_ok (T:={ T with tg:=[mpT+t]}) (show TysOk P { T with tg:=[mpT+t]} from hT) H (by rw [hop];simp [aop0,tagMem]))
  ·cases hr
 ·rename_i t x
  split at hr
  ·rename_i kt et sz by_ z k n ht hx
   split at hr
   ·cases hr
    exact dmpNew_ok (aop0_ok (T:={ T with tg:=[mpT+t]}) (show TysOk P { T with tg:=[mpT+t]} from hT) H (by rw [hop];simp [aop0,tagMem,show lookT t { T with tg:=[mpT+t]}=lookT t T from rfl,ht,hx]))
   ·cases hr
  ·cases hr
 ·
  rename_i as ts
  split at hr
  ·rename_i m k t t' has hts
   split at hr
   ·rename_i id et kd l hm
    cases hr
    exact ⟨⟨_,(aMapD_ok H hm).1⟩,fun f hf=>(dmpDel_ok hT H hm hf has hts hop).2⟩
   ·cases hr
  ·cases hr
 ·
  rename_i as ts
  split at hr
  ·rename_i x t has hts
   split at hr
   ·rename_i kt et sz by_ z ht
    split at hr
    ·rename_i id hx
     split at hr
     ·rename_i l hid
      cases hr
      exact dmpLen_ok hT H ht hx hid has hts hop
     ·cases hr
    ·cases hr
   ·cases hr
  ·cases hr
 ·
  rename_i as ts
  split at hr
  ·rename_i s x t t' has hts
   split at hr
   ·rename_i htt
    have:=Nat.eq_of_beq_eq_true htt
    subst this
    split at hr
    ·rename_i e sz by_ z ht
     split at hr
     ·split at hr
      ·rename_i d he
       split at hr
       ·rename_i hd1
        have hd1:=Nat.eq_of_beq_eq_true hd1
        split at hr
        ·rename_i new hsrc
         obtain ⟨k1,k2⟩:=appV_ok hT H ht he hd1 hsrc has hts hop
         split at hr
         ·rename_i hs
          cases hr
          exact k1 hs
         ·rename_i id sz' o' n hs
          split at hr
          ·split at hr
           ·rename_i e' old hid
            split at hr
            ·rename_i hee
             obtain ⟨rfl,_⟩:=eqT_ok hee
             split at hr
             ·rename_i hsz
              have:=Nat.eq_of_beq_eq_true hsz
              subst this
              split at hr
              ·rename_i hn
               have:=Nat.eq_of_beq_eq_true hn
               subst this
               cases hr
               exact k2 _ _ hs hid
              ·cases hr
             ·cases hr
            ·cases hr
           ·cases hr
          ·cases hr
         ·cases hr
        ·cases hr
       ·cases hr
      ·cases hr
     ·cases hr
    ·cases hr
   ·cases hr
  ·cases hr
 ·
  rename_i t x hi
  split at hr
  ·rename_i e sz by_ z ht
   split at hr
   ·rename_i d k n he hx hh
    cases hr
    exact sliceNil_ok hT H ht he hx hh hop
   ·cases hr
  ·cases hr
 ·
  rename_i t x
  split at hr
  ·split at hr
   ·rename_i l hx
    split at hr
    ·rename_i ds hds
     cases hr
     exact boxPt_ok H hx hds hop
    ·cases hr
   ·cases hr
  ·cases hr
 ·cases hr
theorem aop_ok (hT:TysOk P T) (H:Holds w gd L g h a) {o:Oper} {r:Res} (hr:aop T g h o.op=some r):r.Ok P w gd L g h a o:=by
 unfold aop at hr
 split at hr
 ·rename_i h1;cases hr;exact newOp_ok hT H h1
 ·split at hr
  ·rename_i h1;cases hr;exact arrOp_ok hT H h1
  ·exact aop0_ok hT H hr
end
mutual
def AVal.pure:AVal→Bool
 |.any=>true
 |.d _=>true
 |.agg l=>AVal.pureL l
 |.tup l=>AVal.pureL l
 |.fn _ l=>AVal.pureL l
 |.eptr ..=>true
 |.ptr ..=>false
 |.rsl ..=>false
 |.rptr ..=>false
 |.mref ..=>false
 |.fresh ..=>false
def AVal.pureL:List AVal→Bool
 | []=>true
 |x::r=>AVal.pure x&&AVal.pureL r
end
mutual
def AVal.data:AVal→Bool
 |.any=>true
 |.d _=>true
 |.agg l=>AVal.dataL l
 |.tup l=>AVal.dataL l
 |.fn ..=>false
 |.eptr ..=>false
 |.ptr ..=>false
 |.rsl ..=>false
 |.rptr ..=>false
 |.mref ..=>false
 |.fresh ..=>false
def AVal.dataL:List AVal→Bool
 | []=>true
 |x::r=>AVal.data x&&AVal.dataL r
end
def D.flat:D→Bool
 |.sl ..=>false
 |.cl ..=>false
 |.pt ..=>false
 |.slF ..=>false
 |_=>true
mutual
def AVal.flat:AVal→Bool
 |.any=>true
 |.d x=>x.flat
 |.agg l=>AVal.flatL l
 |.tup l=>AVal.flatL l
 |.fn ..=>false
 |.eptr ..=>false
 |.ptr ..=>false
 |.rsl ..=>false
 |.rptr ..=>false
 |.mref ..=>false
 |.fresh ..=>false
def AVal.flatL:List AVal→Bool
 | []=>true
 |x::r=>AVal.flat x&&AVal.flatL r
end
theorem AVal.dataL_get:∀{l:List AVal},AVal.dataL l=true→∀(i:Nat) (x:AVal),l[i]? = some x→x.data=true
 | [],_,i,x,e=>by simp at e
 |y::r,h,i,x,e=>by
  simp only [AVal.dataL,Bool.and_eq_true] at h
  cases i with
  |zero=>simp only [List.getElem?_cons_zero,Option.some.injEq] at e;rw [←e];exact h.1
  |succ i=>simp only [List.getElem?_cons_succ] at e;exact AVal.dataL_get h.2 i x e
theorem AVal.flatL_get:∀{l:List AVal},AVal.flatL l=true→∀(i:Nat) (x:AVal),l[i]? = some x→x.flat=true
 | [],_,i,x,e=>by simp at e
 |y::r,h,i,x,e=>by
  simp only [AVal.flatL,Bool.and_eq_true] at h
  cases i with
  |zero=>simp only [List.getElem?_cons_zero,Option.some.injEq] at e;rw [←e];exact h.1
  |succ i=>simp only [List.getElem?_cons_succ] at e;exact AVal.flatL_get h.2 i x e
mutual
theorem AVal.pure_free (id:Nat):∀x:AVal,x.pure=true→x.free id=true
 |.any,_=>rfl
 |.d _,_=>rfl
 |.agg l,h=>by simp only [AVal.pure] at h;simp only [AVal.free];exact AVal.pureL_free id l h
 |.tup l,h=>by simp only [AVal.pure] at h;simp only [AVal.free];exact AVal.pureL_free id l h
 |.fn _ l,h=>by simp only [AVal.pure] at h;simp only [AVal.free];exact AVal.pureL_free id l h
 |.eptr ..,h=>rfl
 |.ptr ..,h=>by simp [AVal.pure] at h
 |.rsl ..,h=>by simp [AVal.pure] at h
 |.rptr ..,h=>by simp [AVal.pure] at h
 |.mref ..,h=>by simp [AVal.pure] at h
 |.fresh ..,h=>rfl
theorem AVal.pureL_free (id:Nat):∀l:List AVal,AVal.pureL l=true→AVal.freeL id l=true
 | [],_=>rfl
 |x::r,h=>by
  simp only [AVal.pureL,Bool.and_eq_true] at h
  simp only [AVal.freeL,Bool.and_eq_true]
  exact ⟨AVal.pure_free id x h.1,AVal.pureL_free id r h.2⟩
end
def L0 (n:Nat):Lay:=⟨fun _=>none,fun _=>0,fun b=>b<n⟩
theorem RepA.data {w w':World} {L L':Lay} (hs:w.heap.size≤w'.heap.size):∀{gd:Nat→Prop} {x:AVal} {v:Value},RepA w L gd x v→∀{gd':Nat→Prop},x.data=true→(∀b,b<w.heap.size→gd b→gd' b∧w'.heap[b]? = w.heap[b]?)→RepA w' L' gd' x v:=by
 intro gd x v h
 induction h with
 |any=>intro _ _ _;exact .any
 |d h=>intro _ _ hg;exact .d (h.mono hs hg)
 |agg hz h1 h ih=>intro _ hd hg;exact .agg hz h1 fun i x hx=>ih i x hx (AVal.dataL_get (by simpa [AVal.data] using hd) i x hx) hg
 |tup hz h ih=>intro _ hd hg;exact .tup hz fun i x hx=>ih i x hx (AVal.dataL_get (by simpa [AVal.data] using hd) i x hx) hg
 |_=>intro _ hd _;simp [AVal.data] at hd
theorem RepD.flat' {w w':World} {gd gd':Nat→Prop} {x:D} {v:Value} (h:RepD w gd x v) (hx:x.flat=true):RepD w' gd' x v:=by
 cases h with
 |i k n=>exact .i k n
 |b x=>exact .b x
 |s l=>exact .s l
 |v _ h=>exact .v _ h
 |o _ h=>exact .o _ h
 |sl0=>cases hx
 |sl=>cases hx
 |cl=>cases hx
 |pt=>cases hx
 |slF=>cases hx
theorem RepA.flat {w w':World} {L L':Lay}:∀{gd:Nat→Prop} {x:AVal} {v:Value},RepA w L gd x v→∀{gd':Nat→Prop},x.flat=true→RepA w' L' gd' x v:=by
 intro gd x v h
 induction h with
 |any=>intro _ _;exact .any
 |d h=>intro _ hf;exact .d (h.flat' (by simpa [AVal.flat] using hf))
 |agg hz h1 h ih=>intro _ hd;exact .agg hz h1 fun i x hx=>ih i x hx (AVal.flatL_get (by simpa [AVal.flat] using hd) i x hx)
 |tup hz h ih=>intro _ hd;exact .tup hz fun i x hx=>ih i x hx (AVal.flatL_get (by simpa [AVal.flat] using hd) i x hx)
 |_=>intro _ hd;simp [AVal.flat] at hd
theorem RepA.enter {w:World} {L:Lay} {gd:Nat→Prop} {x:AVal} {v:Value} (h:RepA w L gd x v) (hp:x.pure=true):RepA w (L0 w.heap.size) gd x v:=
 h.mono (Nat.le_refl _) (fun _=>false) (fun _ h=>by cases h) (fun b hlt _=>⟨hlt,rfl⟩) (fun b _ hb=>⟨hb,rfl⟩) (fun id _=>AVal.pure_free id x hp)
def RepR (w w':World) (R:Nat→Prop) (r:AVal) (v:Value):Prop:=
 match r with
 |.fresh t sz n f=>∃xs,w'.ownsRow w.heap.size t sz v n xs∧(∀k,k<n→(f k).length=sz)∧∀k,k<n→∀(j:Nat) x,(f k)[j]? = some x→RepD w' (fun b=>(R b∨(w.heap.size≤b∧b<w'.heap.size))∧v.ownBlock≠some b) x (xs.getD (k*sz+j) undef)
 |r=>r.data=true∧RepA w' (L0 w.heap.size) (fun b=>R b∨(w.heap.size≤b∧b<w'.heap.size)) r v
def PSpec (P:Program) (f:FuncId) (args:List AVal) (post:AVal→Prop):Prop:=
 (∃ fn c, P.funcs[f]? = some fn ∧ (fn.name == "runtime.NumGoroutine") = false ∧ fn.body = some c) ∧
 ∀(w:World) (R:Nat→Prop) (vs:Array Value),GoodW w R→(∀b,R b→b<w.heap.size)→vs.size=args.length→(∀i x,args[i]? = some x→RepA w (L0 w.heap.size) R x (vs.getD i undef))→
  Calls P f vs w fun e w'=>∃v r,e=.returned v∧post r∧Below w.heap.size w w'∧RepR w w' R r v
structure AVal.le (x y:AVal):Prop where
 out:∀w L gd v,RepA w L gd x v→RepA w L gd y v
theorem AVal.le.refl (x:AVal):x.le x:=⟨fun _ _ _ _ h=>h⟩
theorem AVal.le.of_eq {x y:AVal} (h:x=y):x.le y:=h▸.refl x
theorem PSpec.weaken {P:Program} {f:FuncId} {args:List AVal} {post post':AVal→Prop} (h:PSpec P f args post) (hp:∀r,post r→r.data=true→∃r',r.le r'∧post' r'∧r'.data=true) (hf:∀t sz n g,¬post (.fresh t sz n g)):PSpec P f args post':=
 ⟨h.1,fun w R vs hG hR hz ha=>(h.2 w R vs hG hR hz ha).mono fun e w' ⟨v,r,h1,h2,h3,h4⟩=>by
  have key:∀r,post r→r.data=true→RepA w' (L0 w.heap.size) (fun b=>R b∨(w.heap.size≤b∧b<w'.heap.size)) r v→∃v' r',e=.returned v'∧post' r'∧Below w.heap.size w w'∧RepR w w' R r' v':=by
   intro r h2 hd h4
   obtain ⟨r',k1,k2,k3⟩:=hp r h2 hd
   refine ⟨v,r',h1,k2,h3,?_⟩
   have hrep:=k1.out _ _ _ _ h4
   cases r' with
   |fresh=>cases k3
   |_=>exact ⟨k3,hrep⟩
  cases r with
  |fresh t sz n g=>exact (hf t sz n g h2).elim
  |_=>exact key _ h2 h4.1 h4.2⟩
theorem PSpec.args {P:Program} {f:FuncId} {args args':List AVal} {post:AVal→Prop} (h:PSpec P f args post) (hl:args'.length=args.length) (hp:∀(i:Nat) (x x':AVal),args[i]? = some x→args'[i]? = some x'→x'.le x):PSpec P f args' post:=
 ⟨h.1,fun w R vs hG hR hz ha=>h.2 w R vs hG hR (hz.trans hl) fun i x hx=>by
  have hlt:i<args'.length:=by rw [hl];exact (List.getElem?_eq_some_iff.1 hx).1
  exact (hp i x _ hx (List.getElem?_eq_getElem hlt)).out _ _ _ _ (ha i _ (List.getElem?_eq_getElem hlt))⟩
def forceD (k:AVal→Prop):D→Prop
 |.i a b=>k (.d (.i a b))
 |.b x=>k (.d (.b x))
 |.s l=>k (.d (.s l))
 |.v x=>k (.d (.v x))
 |.sl a b c=>k (.d (.sl a b c))
 |.cl a b c=>k (.d (.cl a b c))
 |.o=>k (.d .o)
 |.pt a=>k (.d (.pt a))
 |.slF a b c=>k (.d (.slF a b c))
def forceV (k:AVal→Prop):AVal→Prop
 |.any=>k .any
 |.d x=>forceD k x
 |.agg l=>k (.agg l)
 |.tup l=>k (.tup l)
 |.ptr a b=>k (.ptr a b)
 |.eptr a b c d e=>k (.eptr a b c d e)
 |.rsl a b c d=>k (.rsl a b c d)
 |.rptr a b c d=>k (.rptr a b c d)
 |.mref a=>k (.mref a)
 |.fn a b=>k (.fn a b)
 |.fresh a b c d=>k (.fresh a b c d)
theorem forceV_eq {k:AVal→Prop} {v:AVal} (h:forceV k v):k v:=by
 cases v with
 |d x=>cases x<;>exact h
 |_=>exact h
def clF (h:Nat→Option AObj):List AVal→Option (List (List D))
 | []=>some []
 |.ptr id 0::r=>match h id with
  |some (.box l _)=>match unliftF l with
   |some ds=>match clF h r with
    |some m=>some (ds::m)
    |none=>none
   |none=>none
  |_=>none
 |_=>none
mutual
def viewK (h:Nat→Option AObj) (k:AVal→Prop):AVal→Prop
 |.any=>k .any
 |.d x=>k (.d x)
 |.agg l=>viewL h (fun l=>k (.agg l)) l
 |.tup l=>viewL h (fun l=>k (.tup l)) l
 |.fn f l=>match clF h l with
  |some m=>k (.d (.cl f m.length fun i=>m.getD i []))
  |none=>False
 |.rsl id sz o n=>match h id with
  |some (.row _ sz' n' f)=>match Nat.beq sz sz' with
   |true=>(o+n≤n')∧match o with
    |0=>k (.d (.sl sz n f))
    |o=>k (.d (.sl sz n fun j=>f (o+j)))
   |false=>False
  |_=>False
 |.eptr ..=>False
 |.ptr id off=>match off with
  |0=>match h id with
   |some (.box l _)=>match unliftF l with
    |some ds=>k (.d (.pt ds))
    |none=>False
   |_=>False
  |_+1=>False
 |.rptr ..=>False
 |.mref _=>k (.d .o)
 |.fresh ..=>False
def viewL (h:Nat→Option AObj) (k:List AVal→Prop):List AVal→Prop
 | []=>k []
 |x::r=>viewK h (fun x=>viewL h (fun r=>k (x::r)) r) x
end
section
variable {w : World} {gd gd' : Nat → Prop} {L : Lay} {h : Nat → Option AObj}
theorem clF_ok (ho:∀id o,h id=some o→RepO w gd L id o) (hg:∀b,gd b→gd' b) (hb:∀id o b,h id=some o→L.blk id=some b→gd' b∧b<w.heap.size) {gx:Nat→Prop} :
  ∀{l:List AVal} {m:List (List D)} (vs:Nat→Value),clF h l=some m→(∀i x,l[i]? = some x→RepA w L gx x (vs i))→l.length=m.length∧∃bs:Nat→Nat,∀i,i<m.length→vs i=.pointer (some ⟨bs i,0,none⟩)∧RepD w gd' (.sl (m.getD i []).length 1 fun _=>m.getD i []) (.slice (some ⟨bs i,0,none⟩) 1 1)
 | [],m,vs,hm,hv=>by
  simp only [clF,Option.some.injEq] at hm
  subst hm
  exact ⟨rfl,fun _=>0,fun i hi=>absurd hi (Nat.not_lt_zero i)⟩
 |x::r,m,vs,hm,hv=>by
  cases x with
  |ptr id off=>
   cases off with
   |succ off=>simp [clF] at hm
   |zero=>
    simp only [clF] at hm
    cases hid:h id with
    |none=>rw [hid] at hm;cases hm
    |some ob=>
     rw [hid] at hm
     cases ob with
     |row=>cases hm
     |mp=>cases hm
     |vrow=>cases hm
     |dmp=>cases hm
     |box l=>
      simp only at hm
      cases hu:unliftF l with
      |none=>rw [hu] at hm;cases hm
      |some ds=>
       rw [hu] at hm
       simp only at hm
       cases hc:clF h r with
       |none=>rw [hc] at hm;cases hm
       |some m'=>
        rw [hc] at hm
        simp only [Option.some.injEq] at hm
        subst hm
        obtain ⟨k1,bs,k2⟩:=clF_ok ho hg hb (fun i=>vs (i+1)) hc (fun i x hx=>hv (i+1) x hx)
        have h0:=hv 0 _ rfl
        generalize hv0:vs 0=v0 at h0
        cases h0 with
        | @ptr _ _ _ b hbk=>
         refine ⟨by simp [k1],fun i=>match i with|0=>b|i+1=>bs i,fun i hi=>?_⟩
         cases i with
         |zero=>exact ⟨hv0,box_view ho hg hb hid hu hbk⟩
         |succ i=>exact k2 i (by simpa using hi)
  |_=>simp [clF] at hm
theorem fn_view (ho:∀id o,h id=some o→RepO w gd L id o) (hg:∀b,gd b→gd' b) (hb:∀id o b,h id=some o→L.blk id=some b→gd' b∧b<w.heap.size) {f:FuncId} {l:List AVal} {m:List (List D)} (hm:clF h l=some m) {v:Value} (hv:RepA w L gd (.fn f l) v) :
  RepD w gd' (.cl f m.length fun i=>m.getD i []) v:=by
 cases hv with
 | @fn _ _ _ vs hz hr=>
  obtain ⟨k1,bs,k2⟩:=clF_ok ho hg hb (fun i=>vs.getD i undef) hm hr
  exact .cl f _ _ bs vs (by omega) (fun i hi=>(k2 i hi).1) (fun i hi=>(k2 i hi).2)
def capsF:Nat→Nat→(Nat→List D)→List AVal
 |0,_,_=>[]
 |n+1,i,ds=>.eptr (ds i).length 1 (fun _=>ds i) 0 0::capsF n (i+1) ds
theorem capsF_get:∀(n i:Nat) (ds:Nat→List D),(capsF n i ds).length=n∧∀j,j<n→(capsF n i ds)[j]? = some (.eptr (ds (i+j)).length 1 (fun _=>ds (i+j)) 0 0)
 |0,i,ds=>⟨rfl,fun j hj=>absurd hj (Nat.not_lt_zero j)⟩
 |n+1,i,ds=>by
  obtain ⟨h1,h2⟩:=capsF_get n (i+1) ds
  refine ⟨by simp [capsF,h1],fun j hj=>?_⟩
  cases j with
  |zero=>rfl
  |succ j=>
   have:=h2 j (by omega)
   rw [show i+1+j=i+(j+1) from by omega] at this
   simpa [capsF] using this
theorem cl_args {f n:Nat} {ds:Nat→List D} {v:Value} (hv:RepD w gd (.cl f n ds) v) {l:List AVal} {xs:Array Value} (hl:l.length=xs.size) {gd'':Nat→Prop} (hg:∀b,gd b→gd'' b) (hargs:∀(i:Nat) (x:AVal),l[i]? = some x→RepA w L gd'' x (xs.getD i undef)) :
  ∃vs,v=.func (.func f) #[] vs∧vs.size=n∧∀(i:Nat) (x:AVal),(l++capsF n 0 ds)[i]? = some x→RepA w L gd'' x ((xs++vs).getD i undef):=by
 cases hv with
 |cl _ _ _ bs vs hz hvv hr=>
  refine ⟨vs,rfl,hz,fun i x hx=>?_⟩
  rcases Nat.lt_or_ge i l.length with hi|hi
  ·rw [List.getElem?_append_left hi] at hx
   have:=hargs i x hx
   rw [Array.getD_eq_getD_getElem?,Array.getElem?_append_left (by omega)]
   rwa [Array.getD_eq_getD_getElem?] at this
  ·rw [List.getElem?_append_right hi] at hx
   obtain ⟨c1,c2⟩:=capsF_get n 0 ds
   have hj:i-l.length<n:=by have:=(List.getElem?_eq_some_iff.1 hx).1;omega
   rw [c2 _ hj] at hx
   cases hx
   rw [Array.getD_eq_getD_getElem?,Array.getElem?_append_right (by omega),←Array.getD_eq_getD_getElem?,←hl,hvv _ hj,Nat.zero_add]
   have:=RepA.eptr (L:=L) (off:=0) ((hr _ hj).mono (w':=w) (good':=gd'') (Nat.le_refl _) fun b _ hb=>⟨hg b hb,rfl⟩) (show 0<1 by omega)
   simpa using this
mutual
theorem viewK_ok (L':Lay) (ho:∀id o,h id=some o→RepO w gd L id o) (hg:∀b,gd b→gd' b) (hb:∀id o b,h id=some o→L.blk id=some b→gd' b∧b<w.heap.size) :
  ∀(x:AVal) (k:AVal→Prop) (v:Value),viewK h k x→RepA w L gd x v→∃y,k y∧y.data=true∧RepA w L' gd' y v
 |.any,k,v,hk,hv=>⟨.any,hk,rfl,.any⟩
 |.d x,k,v,hk,hv=>⟨.d x,hk,rfl,hv.data (Nat.le_refl _) rfl (fun b _ hb=>⟨hg b hb,rfl⟩)⟩
 |.agg l,k,v,hk,hv=>by
  obtain ⟨vs,rfl,k1,k2,k3⟩:=repA_agg hv
  obtain ⟨m,e1,e2,e3,e4⟩:=viewL_ok L' ho hg hb l _ (fun i=>vs.getD i undef) hk k3
  exact ⟨.agg m,e1,e2,.agg (by omega) (fun i hi=>k2 i (by omega)) e4⟩
 |.tup l,k,v,hk,hv=>by
  cases hv with
  | @tup _ _ vs hz hr=>
   obtain ⟨m,e1,e2,e3,e4⟩:=viewL_ok L' ho hg hb l _ (fun i=>vs.getD i undef) hk hr
   exact ⟨.tup m,e1,e2,.tup (by omega) e4⟩
 |.fn f l,k,v,hk,hv=>by
  simp only [viewK] at hk
  cases hc:clF h l with
  |none=>rw [hc] at hk;exact hk.elim
  |some m=>
   rw [hc] at hk
   exact ⟨_,hk,rfl,.d (fn_view ho hg hb hc hv)⟩
 |.rsl id sz o n,k,v,hk,hv=>by
  simp only [viewK] at hk
  cases hid:h id with
  |none=>rw [hid] at hk;exact hk.elim
  |some ob=>
   rw [hid] at hk
   cases ob with
   |box=>exact hk.elim
   |mp=>exact hk.elim
   |vrow=>exact hk.elim
   |dmp=>exact hk.elim
   |row t sz' n' f=>
    simp only at hk
    cases hbq:Nat.beq sz sz' with
    |false=>rw [hbq] at hk;exact hk.elim
    |true=>
     rw [hbq] at hk
     have:=Nat.eq_of_beq_eq_true hbq
     subst this
     simp only at hk
     obtain ⟨hle,hk⟩:=hk
     have hd:=row_view ho hg hb hid hle hv
     cases o with
     |zero=>exact ⟨_,hk,rfl,.d (by simpa using hd)⟩
     |succ o=>exact ⟨_,hk,rfl,.d hd⟩
 |.eptr ..,k,v,hk,hv=>hk.elim
 |.ptr id off,k,v,hk,hv=>by
  simp only [viewK] at hk
  cases off with
  |succ off=>exact hk.elim
  |zero=>
   simp only at hk
   cases hid:h id with
   |none=>rw [hid] at hk;exact hk.elim
   |some ob=>
    rw [hid] at hk
    cases ob with
    |row=>exact hk.elim
    |mp=>exact hk.elim
    |vrow=>exact hk.elim
    |dmp=>exact hk.elim
    |box l tag=>
     simp only at hk
     cases hu:unliftF l with
     |none=>rw [hu] at hk;exact hk.elim
     |some ds=>
      rw [hu] at hk
      cases hv with
      | @ptr _ _ _ b hbk=>exact ⟨_,hk,rfl,.d (.pt _ b (box_view ho hg hb hid hu hbk))⟩
 |.rptr ..,k,v,hk,hv=>hk.elim
 |.mref id,k,v,hk,hv=>by
  cases hv with
  |mref hb=>exact ⟨_,hk,rfl,.d (.o _ rfl)⟩
 |.fresh ..,k,v,hk,hv=>hk.elim
theorem viewL_ok (L':Lay) (ho:∀id o,h id=some o→RepO w gd L id o) (hg:∀b,gd b→gd' b) (hb:∀id o b,h id=some o→L.blk id=some b→gd' b∧b<w.heap.size) :
  ∀(l:List AVal) (k:List AVal→Prop) (vs:Nat→Value),viewL h k l→(∀i x,l[i]? = some x→RepA w L gd x (vs i))→∃m,k m∧AVal.dataL m=true∧m.length=l.length∧∀i x,m[i]? = some x→RepA w L' gd' x (vs i)
 | [],k,vs,hk,hv=>⟨[],hk,rfl,rfl,fun i x hx=>by simp at hx⟩
 |x::r,k,vs,hk,hv=>by
  simp only [viewL] at hk
  obtain ⟨y,h1,h2,h3⟩:=viewK_ok L' ho hg hb x _ (vs 0) hk (hv 0 x rfl)
  obtain ⟨m,e1,e2,e3,e4⟩:=viewL_ok L' ho hg hb r _ (fun i=>vs (i+1)) h1 (fun i z hz=>hv (i+1) z hz)
  refine ⟨y::m,e1,by simp [AVal.dataL,h2,e2],by simp [e3],fun i z hz=>?_⟩
  cases i with
  |zero=>simp only [List.getElem?_cons_zero,Option.some.injEq] at hz;subst hz;exact h3
  |succ i=>simp only [List.getElem?_cons_succ] at hz;exact e4 i z hz
end
end
def capK (h:Nat→Option AObj) (k:AVal→Prop):AVal→Prop
 |.ptr id off=>match h id with
  |some (.box l _)=>viewL h (fun m=>match unliftF m with
   |some ds=>k (.eptr ds.length 1 (fun _=>ds) 0 off)
   |none=>False) l
  |_=>False
 |.eptr a b c d e=>k (.eptr a b c d e)
 |v=>viewK h k v
def capL (h:Nat→Option AObj) (k:List AVal→Prop):List AVal→Prop
 | []=>k []
 |x::r=>capK h (fun x=>capL h (fun r=>k (x::r)) r) x
def seenL (h:Nat→Option AObj):List AVal→Bool
 | []=>true
 |.d _::r=>seenL h r
 |.mref _::r=>seenL h r
 |.rsl id _ _ _::r=>match h id with
  |some (.row ..)=>seenL h r
  |_=>false
 |_=>false
def lostL (h:Nat→Option AObj):List AVal→Bool
 | []=>false
 |.ptr id _::r=>match h id with
  |some (.box l _)=>match seenL h l with
   |true=>lostL h r
   |false=>true
  |_=>true
 |_::r=>lostL h r
def argV (h:Nat→Option AObj) (k:AVal→Bool→Prop):AVal→Prop
 |.fn f l=>match lostL h l with
  |true=>k .any true
  |false=>capL h (fun l=>k (.fn f l) true) l
 |.ptr id off=>capK h (fun v=>k v false) (.ptr id off)
 |v=>match v.pure with
  |true=>forceV (fun v=>k v true) v
  |false=>viewK h (fun v=>k v false) v
def argK (g:Nat→AVal) (h:Nat→Option AObj) (caps:List AVal) (k:List AVal→Bool→Prop):List Operand→Prop
 | []=>capL h (fun l=>k l (match caps with | []=>true|_=>false)) caps
 |x::r=>argV h (fun v b=>argK g h caps (fun l b'=>k (v::l) (b&&b')) r) (opnd g x)
section
variable {w : World} {gd : Nat → Prop} {L : Lay} {h : Nat → Option AObj} {g : Nat → AVal} {a : Act}
theorem eptr_of {b:Nat} {cs:Array Value} {t:TypeId} {ds:List D} (hh:w.heap[b]? = some (.cells cs t (0,0))) (hlt:b<w.heap.size) (hlen:cs.size=ds.length) (hr:∀(j:Nat) (x:D),ds[j]? = some x→RepD w (fun b=>b<w.heap.size) x (cs.getD j undef)) (off:Nat) :
  RepA w (L0 w.heap.size) (fun b=>b<w.heap.size) (.eptr ds.length 1 (fun _=>ds) 0 off) (.pointer (some ⟨b,off,none⟩)):=by
 have hd:RepD w (fun b=>b<w.heap.size) (.sl ds.length 1 fun _=>ds) (.slice (some ⟨b,0,none⟩) 1 1):=by
  refine .sl _ _ _ b 0 1 (fun _ j=>cs.getD j undef) (by omega) (by omega) (by decide) hlt hlt (fun _ _=>rfl) (fun k hk j hj=>?_) (fun k hk j x hx=>?_)
  ·obtain rfl:k=0:=by omega
   rw [show 0+0*ds.length+j=j from by simp,cell_of_row w b _ cs t (0,0) hh,Array.getD_eq_getD_getElem?,Array.getElem?_eq_getElem (by omega)]
   rfl
  ·exact hr j x hx
 have:=RepA.eptr (L:=L0 w.heap.size) (off:=off) hd (show 0<1 by omega)
 simpa using this
theorem capK_ok (H:Holds w gd L g h a) (hgd:∀b,gd b→b<w.heap.size) (htop:∀b,L.old b→b<w.heap.size) (hb:∀id o b,h id=some o→L.blk id=some b→b<w.heap.size) {x:AVal} {k:AVal→Prop} {v:Value} (hk:capK h k x) (hv:RepA w L (fun b=>gd b∨L.old b) x v) :
  ∃y,k y∧y.pure=true∧RepA w (L0 w.heap.size) (fun b=>b<w.heap.size) y v:=by
 have hall:∀b,b<w.heap.size→(gd b∨L.old b)→b<w.heap.size∧w.heap[b]? = w.heap[b]?:=fun b hlt _=>⟨hlt,rfl⟩
 have hobj:∀id o,h id=some o→RepO w (fun b=>gd b∨L.old b) L id o:=fun id o ho=>(H.obj id o ho).mono (Nat.le_refl _) (fun b _ hb=>⟨.inl hb,rfl⟩) (fun _ _=>rfl) (fun b _ hb=>⟨hb,rfl⟩) (fun _=>true) (fun _ _=>⟨rfl,rfl⟩) rfl (fun _ h=>by cases h)
 have view:∀{x:AVal},viewK h k x→RepA w L (fun b=>gd b∨L.old b) x v→∃y,k y∧y.pure=true∧RepA w (L0 w.heap.size) (fun b=>b<w.heap.size) y v:=by
  intro x hk hv
  obtain ⟨y,h1,h2,h3⟩:=viewK_ok (gd':=fun b=>b<w.heap.size) (L0 w.heap.size) hobj (fun b hb'=>by rcases hb' with h|h;exact hgd b h;exact htop b h) (fun id o b h1 h2=>⟨hb id o b h1 h2,hb id o b h1 h2⟩) x k v hk hv
  refine ⟨y,h1,?_,h3⟩
  clear h1 h3 hk hv
  have:∀y:AVal,y.data=true→y.pure=true:=by
   intro y
   apply AVal.rec (motive_1:=fun y=>y.data=true→y.pure=true) (motive_2:=fun l=>AVal.dataL l=true→AVal.pureL l=true)
   all_goals simp_all [AVal.data,AVal.pure,AVal.dataL,AVal.pureL]
  exact this y h2
 cases x with
 |ptr id off=>
  simp only [capK] at hk
  cases ho:h id with
  |none=>rw [ho] at hk;exact hk.elim
  |some ob=>
   rw [ho] at hk
   cases ob with
   |row=>exact hk.elim
   |mp=>exact hk.elim
   |vrow=>exact hk.elim
   |dmp=>exact hk.elim
   |box l tag=>
    simp only at hk
    cases hv with
    | @ptr _ _ _ b hbk=>
     have hro:=H.obj id _ ho
     cases hro with
     | @box _ tag cs t b' htag hb' hh hz h1 hr=>
      rw [hbk] at hb'
      cases hb'
      obtain ⟨m,hm,hdat,hmlen,hmr⟩:=viewL_ok (gd':=fun b=>b<w.heap.size) (L0 w.heap.size) H.obj hgd (fun id o b h1 h2=>⟨hb id o b h1 h2,hb id o b h1 h2⟩) l _ (fun i=>cs.getD i undef) hk hr
      cases hu:unliftF m with
      |none=>rw [hu] at hm;exact hm.elim
      |some ds=>
       rw [hu] at hm
       have hl:=unliftF_eq hu
       refine ⟨_,hm,rfl,eptr_of hh (hb id _ b ho hbk) (by rw [hz,←hmlen,hl];simp) (fun j x hx=>?_) off⟩
       have:=hmr j (.d x) (by rw [hl,List.getElem?_map,hx];rfl)
       cases this with
       |d h=>exact h
 |eptr a b c d e=>
  refine ⟨_,hk,rfl,?_⟩
  cases hv with
  |eptr hs hkk=>exact .eptr (hs.mono (Nat.le_refl _) hall) hkk
 |any=>exact view hk hv
 |d x=>exact view hk hv
 |agg l=>exact view hk hv
 |tup l=>exact view hk hv
 |rsl=>exact view hk hv
 |rptr=>exact view hk hv
 |mref=>exact view hk hv
 |fn=>exact view hk hv
 |fresh=>exact view hk hv
theorem capL_ok (H:Holds w gd L g h a) (hgd:∀b,gd b→b<w.heap.size) (htop:∀b,L.old b→b<w.heap.size) (hb:∀id o b,h id=some o→L.blk id=some b→b<w.heap.size):∀{l:List AVal} {k:List AVal→Prop} {vs:Nat→Value},capL h k l→(∀i x,l[i]? = some x→RepA w L (fun b=>gd b∨L.old b) x (vs i))→
  ∃m,k m∧AVal.pureL m=true∧m.length=l.length∧∀i x,m[i]? = some x→RepA w (L0 w.heap.size) (fun b=>b<w.heap.size) x (vs i)
 | [],k,vs,hk,hv=>⟨[],hk,rfl,rfl,fun i x hx=>by simp at hx⟩
 |x::r,k,vs,hk,hv=>by
  obtain ⟨y,h1,h2,h3⟩:=capK_ok H hgd htop hb hk (hv 0 x rfl)
  obtain ⟨m,e1,e2,e3,e4⟩:=capL_ok H hgd htop hb (vs:=fun i=>vs (i+1)) h1 (fun i z hz=>hv (i+1) z hz)
  refine ⟨y::m,e1,by simp [AVal.pureL,h2,e2],by simp [e3],fun i z hz=>?_⟩
  cases i with
  |zero=>simp only [List.getElem?_cons_zero,Option.some.injEq] at hz;subst hz;exact h3
  |succ i=>simp only [List.getElem?_cons_succ] at hz;exact e4 i z hz
def seen (gd:Nat→Prop) (w:World) (b:Bool):Nat→Prop:=match b with
 |true=>gd
 |false=>fun b=>b<w.heap.size
theorem argV_ok (H:Holds w gd L g h a) (hgd:∀b,gd b→b<w.heap.size) (htop:∀b,L.old b→b<w.heap.size) (hb:∀id o b,h id=some o→L.blk id=some b→b<w.heap.size) {x:AVal} {k:AVal→Bool→Prop} {v:Value} (hk:argV h k x) (hv:RepA w L gd x v) :
  ∃y b,k y b∧∀b',(b'=true→b=true)→RepA w (L0 w.heap.size) (seen gd w b') y v:=by
 have plain:∀{x:AVal},(match x.pure with|true=>forceV (fun v=>k v true) x|false=>viewK h (fun v=>k v false) x)→RepA w L gd x v→∃y b,k y b∧∀b',(b'=true→b=true)→RepA w (L0 w.heap.size) (seen gd w b') y v:=by
  intro x hk hv
  cases hp:x.pure with
  |true=>
   rw [hp] at hk
   have hrep:=hv.enter hp
   refine ⟨x,true,forceV_eq (k:=fun v=>k v true) hk,fun b' _=>?_⟩
   cases b' with
   |true=>exact hrep
   |false=>exact hrep.mono1 (Nat.le_refl _) (fun b _ hb=>⟨hgd b hb,rfl⟩) (fun _ _=>rfl)
  |false=>
   rw [hp] at hk
   obtain ⟨y,h1,h2,h3⟩:=viewK_ok (gd':=fun b=>b<w.heap.size) (L0 w.heap.size) H.obj hgd (fun id o b h1 h2=>⟨hb id o b h1 h2,hb id o b h1 h2⟩) x _ v hk hv
   refine ⟨y,false,h1,fun b' hb'=>?_⟩
   cases b' with
   |true=>exact absurd (hb' rfl) (by decide)
   |false=>exact h3
 cases x with
 |fn f l=>
  simp only [argV] at hk
  split at hk
  ·exact ⟨.any,true,hk,fun b' _=>.any⟩
  cases hv with
  | @fn _ _ _ vs hz hr=>
   obtain ⟨m,h1,h2,h3,h4⟩:=capL_ok H hgd htop hb (vs:=fun i=>vs.getD i undef) hk hr
   exact ⟨_,true,h1,fun b' _=>.fn (by omega) fun i x hx=>(h4 i x hx).mono1 (Nat.le_refl _) (fun b hlt _=>⟨.inr hlt,rfl⟩) (fun _ _=>rfl)⟩
 |any=>exact plain hk hv
 |d x=>exact plain hk hv
 |agg l=>exact plain hk hv
 |tup l=>exact plain hk hv
 |ptr id off=>
  simp only [argV] at hk
  obtain ⟨y,h1,_,h3⟩:=capK_ok H hgd htop hb hk (hv.mono1 (Nat.le_refl _) (fun b _ hb=>⟨.inl hb,rfl⟩) (fun _ _=>rfl))
  refine ⟨y,false,h1,fun b' hb'=>?_⟩
  cases b' with
  |true=>exact absurd (hb' rfl) (by decide)
  |false=>exact h3
 |eptr=>exact plain hk hv
 |rsl=>exact plain hk hv
 |rptr=>exact plain hk hv
 |mref=>exact plain hk hv
 |fresh=>exact plain hk hv
theorem argK_ok (H:Holds w gd L g h a) (hgd:∀b,gd b→b<w.heap.size) (htop:∀b,L.old b→b<w.heap.size) (hb:∀id o b,h id=some o→L.blk id=some b→b<w.heap.size) {caps:List AVal} {cvs:Array Value} (hcz:cvs.size=caps.length) (hcr:∀i x,caps[i]? = some x→RepA w L (fun b=>gd b∨L.old b) x (cvs.getD i undef)) :
  ∀{as:List Operand} {k:List AVal→Bool→Prop},argK g h caps k as→∃l b,k l b∧l.length=as.length+cvs.size∧∀b',(b'=true→b=true)→∀(i:Nat) (x:AVal),l[i]? = some x→RepA w (L0 w.heap.size) (seen gd w b') x ((as.map a.eval++cvs.toList).getD i undef)
 | [],k,hk=>by
  obtain ⟨m,h1,h2,h3,h4⟩:=capL_ok H hgd htop hb (vs:=fun i=>cvs.getD i undef) hk hcr
  refine ⟨m,_,h1,by simp;omega,fun b' hb' i x hx=>?_⟩
  have hlt:i<caps.length:=by rw [←h3];exact (List.getElem?_eq_some_iff.1 hx).1
  cases b' with
  |true=>
   cases caps with
   |nil=>simp at hlt
   |cons=>exact absurd (hb' rfl) (by simp)
  |false=>
   have:=h4 i x hx
   simpa [seen,Array.getD_eq_getD_getElem?,List.getD_eq_getElem?_getD] using this
 |x::r,k,hk=>by
  obtain ⟨y,b,h1,h2⟩:=argV_ok H hgd htop hb hk (H.opnd x)
  obtain ⟨l,b2,e1,e2,e3⟩:=argK_ok H hgd htop hb hcz hcr h1
  refine ⟨y::l,b&&b2,e1,by simp [e2];omega,fun b' hb' i z hz=>?_⟩
  have hbb:b'=true→b=true∧b2=true:=fun h=>by simpa using hb' h
  cases i with
  |zero=>
   simp only [List.getElem?_cons_zero,Option.some.injEq] at hz
   subst hz
   exact h2 b' (fun h=>(hbb h).1)
  |succ i=>
   simp only [List.getElem?_cons_succ] at hz
   simpa using e3 b' (fun h=>(hbb h).2) i z hz
end
theorem Rel.goodW {C:Ctx} {L:Lay} {a:Act} {w:World} {g:Nat→AVal} {h:Nat→Option AObj} (H:Rel C L g h a w):GoodW w (good C L h w):=C.hG.1.mono fun n k l e hR hlt=>by
 have hnl:=C.hG.2 n k l e
 exact ⟨⟨Nat.lt_of_lt_of_le hlt H.below.size,.inl hR,fun ⟨i,o,h1,h2⟩=>by
  rcases (H.own0 i o n h1 h2).1 with hq|hq
  ·omega
  ·exact hnl hq⟩,H.below.block n hlt hnl⟩
theorem GoodW.seen {w:World} {gd:Nat→Prop} (h:GoodW w gd) (b:Bool):GoodW w (seen gd w b):=h.mono fun n k l e hR hlt=>by
 refine ⟨?_,rfl⟩
 cases b with
 |true=>exact hR
 |false=>exact hlt
def memN (t:Nat):List Nat→Bool
 | []=>false
 |j::r=>match Nat.beq j t with|true=>true|false=>memN t r
theorem memN_of {t:Nat}:∀{l:List Nat},memN t l=true↔t∈l
 | []=>by simp [memN]
 |j::r=>by
  have eq:memN t (j::r)=(match Nat.beq j t with|true=>true|false=>memN t r):=rfl
  rw [eq]
  by_cases h:j=t
  ·subst h;simp
  ·rw [beq_false h];simp [memN_of,Ne.symm h]
def restrictH (rh:List Nat) (h:Nat→Option AObj):Nat→Option AObj:=fun t=>match memN t rh with|true=>h t|false=>none
theorem restrictH_some {h:Nat→Option AObj} {rh:List Nat} {id:Nat} {o:AObj} (e:restrictH rh h id=some o):h id=some o:=by
 unfold restrictH at e
 cases hm:memN id rh with
 |true=>rw [hm] at e;exact e
 |false=>rw [hm] at e;cases e
def dropH (ids:List Nat):Heap→Heap
 | []=>[]
 |(i,o)::r=>match memN i ids with|true=>dropH ids r|false=>(i,o)::dropH ids r
theorem lookO_dropH (ids:List Nat):∀(heap:Heap) (i:Nat),lookO i (dropH ids heap)=if memN i ids then none else lookO i heap
 | [],i=>by simp [dropH,lookO]
 |(j,o)::r,i=>by
  have ih:=lookO_dropH ids r i
  have e1:lookO i ((j,o)::r)=(match Nat.beq j i with|true=>some o|false=>lookO i r):=rfl
  have e2:dropH ids ((j,o)::r)=(match memN j ids with|true=>dropH ids r|false=>(j,o)::dropH ids r):=rfl
  rw [e1,e2]
  cases hm:memN j ids with
  |true=>
   simp only
   rw [ih]
   cases hb:Nat.beq j i with
   |true=>
    have:=Nat.eq_of_beq_eq_true hb
    subst this
    simp [hm]
   |false=>rfl
  |false=>
   have e3:lookO i ((j,o)::dropH ids r)=(match Nat.beq j i with|true=>some o|false=>lookO i (dropH ids r)):=rfl
   simp only
   rw [e3]
   cases hb:Nat.beq j i with
   |true=>
    have:=Nat.eq_of_beq_eq_true hb
    subst this
    simp [hm]
   |false=>exact ih
def lookW {α:Type} (t:Nat):List (Nat×α)→Option α
 | []=>none
 |(j,v)::r=>match Nat.beq j t with|true=>some v|false=>lookW t r
theorem lookW_cons {α:Type} (j:Nat) (v:α) (r:List (Nat×α)) (t:Nat):lookW t ((j,v)::r)=if t=j then some v else lookW t r:=by
 have eq:lookW t ((j,v)::r)=(match Nat.beq j t with|true=>some v|false=>lookW t r):=rfl
 rw [eq]
 by_cases h:t=j
 ·subst h;simp
 ·rw [beq_false (fun e=>h e.symm)];simp [h]
def forceN (k:List Nat→Prop):List Nat→Prop
 | []=>k []
 |x::r=>forceN (fun l=>k (x::l)) r
theorem forceN_eq:∀{l:List Nat} {k:List Nat→Prop},forceN k l→k l
 | [],k,h=>h
 |x::r,k,h=>forceN_eq (l:=r) h
def forceH (k:Heap→Prop):Heap→Prop
 | []=>k []
 |x::r=>forceH (fun l=>k (x::l)) r
theorem forceH_eq:∀{l:Heap} {k:Heap→Prop},forceH k l→k l
 | [],k,h=>h
 |x::r,k,h=>forceH_eq (l:=r) h
section
variable {C : Ctx} {L : Lay} {a : Act} {w : World}
theorem Rel.drop {g:Nat→AVal} {h h':Nat→Option AObj} (H:Rel C L g h a w) (hs:∀i o,h' i=some o→h i=some o):Rel C L g h' a w:=by
 have hg:∀b,good C L h w b→good C L h' w b:=fun b hb=>⟨hb.1,hb.2.1,fun ⟨i,o,h1,h2⟩=>hb.2.2 ⟨i,o,hs i o h1,h2⟩⟩
 exact { H with
  slot:=fun t=>(H.slot t).mono1 (Nat.le_refl _) (fun b _ hb=>⟨hg b hb,rfl⟩) (fun _ _=>rfl)
  obj:=fun i o e=>(H.obj i o (hs i o e)).mono (Nat.le_refl _) (fun b _ hb=>⟨hg b hb,rfl⟩) (fun _ _=>rfl) (fun b _ hb=>⟨hb,rfl⟩) (fun _=>true) (fun _ _=>⟨rfl,rfl⟩) rfl (fun _ h=>by cases h)
  inj:=fun i j oi oj b h1 h2=>H.inj i j oi oj b (hs i oi h1) (hs j oj h2)
  own0:=fun i o b h1=>H.own0 i o b (hs i o h1)
  kept:=fun i o hl h1=>H.kept i o hl (hs i o h1)}
end
def nodupN:List Nat→Bool
 | []=>true
 |x::r=>match memN x r with|true=>false|false=>nodupN r
theorem nodupN_ok:∀{l:List Nat},nodupN l=true→l.Nodup
 | [],_=>List.nodup_nil
 |x::r,h=>by
  simp only [nodupN] at h
  cases hm:memN x r with
  |true=>rw [hm] at h;cases h
  |false=>
   rw [hm] at h
   exact List.nodup_cons.2 ⟨fun e=>(by rw [memN_of.2 e] at hm;cases hm),nodupN_ok h⟩
mutual
def AVal.map (τ:List (Nat×Nat)):AVal→AVal
 |.any=>.any
 |.d x=>.d x
 |.agg l=>.agg (AVal.mapL τ l)
 |.tup l=>.tup (AVal.mapL τ l)
 |.ptr i o=>match lookW i τ with|some j=>.ptr j o|none=>.any
 |.eptr a b c q e=>.eptr a b c q e
 |.rsl i s o n=>match lookW i τ with|some j=>.rsl j s o n|none=>.any
 |.rptr i s k o=>match lookW i τ with|some j=>.rptr j s k o|none=>.any
 |.mref i=>match lookW i τ with|some j=>.mref j|none=>.any
 |.fn f l=>.fn f (AVal.mapF τ l)
 |.fresh ..=>.any
def AVal.mapL (τ:List (Nat×Nat)):List AVal→List AVal
 | []=>[]
 |x::r=>AVal.map τ x::AVal.mapL τ r
def AVal.mapF (τ:List (Nat×Nat)):List AVal→List AVal
 | []=>[]
 |x::r=>(match x with
  |.ptr i o=>(match lookW i τ with|some j=>.ptr j o|none=>.any)
  |.rsl i s o n=>(match lookW i τ with|some j=>.rsl j s o n|none=>.any)
  |.rptr i s k o=>(match lookW i τ with|some j=>.rptr j s k o|none=>.any)
  |.d x=>(match x.flat with|true=>.d x|false=>.any)
  |_=>.any)::AVal.mapF τ r
end
theorem AVal.mapL_eq (τ:List (Nat×Nat)):∀l,AVal.mapL τ l=l.map (AVal.map τ)
 | []=>rfl
 |x::r=>by rw [AVal.mapL,AVal.mapL_eq τ r];rfl
theorem AVal.mapF_get (τ:List (Nat×Nat)):∀(l:List AVal) (i:Nat) (y:AVal),(AVal.mapF τ l)[i]? = some y→∃x,l[i]? = some x∧(y=.any∨(∃d,x=.d d∧d.flat=true∧y=x)∨(y=x.map τ∧((∃i o,x=.ptr i o)∨(∃i s o n,x=.rsl i s o n)∨∃i s k o,x=.rptr i s k o)))
 | [],i,y,h=>by simp [AVal.mapF] at h
 |x::r,0,y,h=>by
  simp only [AVal.mapF,List.getElem?_cons_zero,Option.some.injEq] at h
  refine ⟨x,rfl,?_⟩
  subst h
  cases x with
  |d d=>
   cases hf:d.flat with
   |true=>right;left;exact ⟨d,rfl,hf,by simp [hf]⟩
   |false=>left;simp [hf]
  |ptr i o=>right;right;exact ⟨by rw [AVal.map],.inl ⟨_,_,rfl⟩⟩
  |rsl i s o n=>right;right;exact ⟨by rw [AVal.map],.inr (.inl ⟨_,_,_,_,rfl⟩)⟩
  |rptr i s k o=>right;right;exact ⟨by rw [AVal.map],.inr (.inr ⟨_,_,_,_,rfl⟩)⟩
  |_=>left;rfl
 |x::r,i+1,y,h=>by
  simp only [AVal.mapF,List.getElem?_cons_succ] at h ⊢
  exact AVal.mapF_get τ r i y h
theorem AVal.mapF_len (τ:List (Nat×Nat)):∀l:List AVal,(AVal.mapF τ l).length=l.length
 | []=>rfl
 |x::r=>by simp [AVal.mapF,AVal.mapF_len τ r]
def AObj.map (τ:List (Nat×Nat)):AObj→AObj
 |.box l tag=>.box (AVal.mapL τ l) tag
 |.row t sz n f=>.row t sz n f
 |.mp l=>.mp (l.map fun x=>(x.1,x.2.map τ))
 |.vrow t l=>.vrow t (AVal.mapL τ l)
 |.dmp l=>.dmp l
def MapOk (τ:List (Nat×Nat)) (L L':Lay):Prop:=∀i j,lookW i τ=some j→L'.blk j=L.blk i∧L'.cap j=L.cap i
def AVal.nm:AVal→Bool
 |.any=>true
 |.ptr ..=>true
 |.rsl ..=>true
 |.rptr ..=>true
 |_=>false
theorem RepA.nm {w w':World} {L:Lay} {gd gd':Nat→Prop} {x:AVal} {v:Value} (h:RepA w L gd x v) (hx:x.nm=true):RepA w' L gd' x v:=by
 cases h with
 |any=>exact .any
 |ptr h=>exact .ptr h
 |rsl h1 h2 h3=>exact .rsl h1 h2 h3
 |rptr h=>exact .rptr h
 |_=>cases hx
theorem RepA.map {w:World} {L L':Lay} {τ:List (Nat×Nat)} (hm:MapOk τ L L') {gd:Nat→Prop} {x:AVal} {v:Value} (h:RepA w L gd x v):∀{gd':Nat→Prop},(∀b,gd b→gd' b)→RepA w L' gd' (x.map τ) v:=by
 induction h with
 |any=>intro _ _;exact .any
 |d h=>intro _ hg;exact .d (h.mono (Nat.le_refl _) fun b _ hb=>⟨hg b hb,rfl⟩)
 |agg hz h1 h ih=>
  intro _ hg
  rw [AVal.map,AVal.mapL_eq]
  refine .agg (by simpa using hz) (fun i hi=>h1 i (by simpa using hi)) fun i x hx=>?_
  rw [List.getElem?_map] at hx
  obtain ⟨y,hy,rfl⟩:=Option.map_eq_some_iff.1 hx
  exact ih i y hy hg
 |tup hz h ih=>
  intro _ hg
  rw [AVal.map,AVal.mapL_eq]
  refine .tup (by simpa using hz) fun i x hx=>?_
  rw [List.getElem?_map] at hx
  obtain ⟨y,hy,rfl⟩:=Option.map_eq_some_iff.1 hx
  exact ih i y hy hg
 | @ptr good id off b h=>
  intro _ hg
  rw [AVal.map]
  cases hl:lookW id τ with
  |none=>exact .any
  |some j=>exact .ptr ((hm id j hl).1.trans h)
 |eptr h hk=>intro _ hg;exact .eptr (h.mono (Nat.le_refl _) fun b _ hb=>⟨hg b hb,rfl⟩) hk
 | @rsl good id sz o n ad hcap hbl ha=>
  intro _ hg
  rw [AVal.map]
  cases hl:lookW id τ with
  |none=>exact .any
  |some j=>
   obtain ⟨e1,e2⟩:=hm id j hl
   have:=RepA.rsl (w:=w) (L:=L') (good:=good) (id:=j) (sz:=sz) (o:=o) (n:=n) (ad:=ad) (by rw [e2];exact hcap) (by rw [e1];exact hbl) (by rw [e1,e2];exact ha)
   rw [e2] at this
   exact this.nm rfl
 | @rptr good id sz k off b h=>
  intro _ hg
  rw [AVal.map]
  cases hl:lookW id τ with
  |none=>exact .any
  |some j=>exact .rptr ((hm id j hl).1.trans h)
 | @mref good id b h=>
  intro _ hg
  rw [AVal.map]
  cases hl:lookW id τ with
  |none=>exact .any
  |some j=>exact .mref ((hm id j hl).1.trans h)
 |fn hz h ih=>
  intro gd' hg
  rw [AVal.map]
  refine .fn (by rw [AVal.mapF_len];exact hz) fun i y hy=>?_
  obtain ⟨x,hx,hy⟩:=AVal.mapF_get τ _ i y hy
  rcases hy with rfl|⟨d,rfl,hf,rfl⟩|⟨rfl,hk⟩
  ·exact .any
  ·cases h i _ hx with
   |d h=>exact .d (h.flat' hf)
  ·have h1:=h i x hx
   rcases hk with ⟨_,_,rfl⟩|⟨_,_,_,_,rfl⟩|⟨_,_,_,_,rfl⟩
   all_goals
    refine (ih i _ hx (gd':=fun _=>True) (fun _ _=>trivial)).nm ?_
    rw [AVal.map]
    split<;>rfl
theorem RepO.map {w:World} {L L':Lay} {τ:List (Nat×Nat)} (hm:MapOk τ L L') {gd gd':Nat→Prop} (hg:∀b,gd b→gd' b) {i j:Nat} (hb:L'.blk j=L.blk i) (hc:L'.cap j=L.cap i) {o:AObj} (h:RepO w gd L i o):RepO w gd' L' j (o.map τ):=by
 cases h with
 |box h0 h1 h2 h3 h4 h5=>
  rw [AObj.map,AVal.mapL_eq]
  refine .box h0 (hb.trans h1) h2 (by simpa using h3) (fun i hi=>h4 i (by simpa using hi)) fun i x hx=>?_
  rw [List.getElem?_map] at hx
  obtain ⟨y,hy,rfl⟩:=Option.map_eq_some_iff.1 hx
  exact (h5 i y hy).map hm hg
 |mp h1 h2 h3 h4 h5 h6=>
  refine .mp (hb.trans h1) h2 (by simpa using h3) (fun i x e hx he=>?_) h5 fun i x e hx he=>?_
  all_goals (rw [List.getElem?_map] at hx;obtain ⟨y,hy,rfl⟩:=Option.map_eq_some_iff.1 hx)
  ·exact h4 i y e hy he
  ·exact (h6 i y e hy he).map hm hg
 |vrow0 h1 h2=>rw [AObj.map,AVal.mapL_eq];exact .vrow0 (hb.trans h1) (hc.trans h2)
 |vrow h1 h2 h3 h4 h5 h6 h7=>
  rw [AObj.map,AVal.mapL_eq]
  refine .vrow (hb.trans h1) h2 (by rw [List.length_map];exact hc▸h3) (hc▸h4) (hc▸h5) (fun i hi=>h6 i (by simpa using hi)) fun i x hx=>?_
  rw [List.getElem?_map] at hx
  obtain ⟨y,hy,rfl⟩:=Option.map_eq_some_iff.1 hx
  exact (h7 i y hy).map hm hg
 |dmp h1 h2 h3 h4 h5=>exact .dmp (hb.trans h1) h2 h3 h4 fun i x e hx he=>(h5 i x e hx he).mono (Nat.le_refl _) fun b _ hb=>⟨hg b hb,rfl⟩
 |row0 h1 h2=>exact .row0 (hb.trans h1) (hc.trans h2)
 |row h1 h2 h3 h4 h5 h6 h7 h8 h9 h10=>exact .row (hb.trans h1) h2 (hc▸h3) (hc▸h4) (hc▸h5) h6 (fun k hk j x hx=>(h7 k hk j x hx).mono (Nat.le_refl _) fun b _ hb=>⟨hg b hb,rfl⟩) h8 h9 fun m hm=>hc.trans (h10 m hm)
def lgood (w w':World) (R:Nat→Prop) (L:Lay) (hl:Heap) (L':Lay) (hl':Heap) (b:Nat):Prop:=
 b<w'.heap.size∧(R b∨w.heap.size≤b∨owned L (lko hl) b)∧¬owned L' (lko hl') b
structure LPost (w w':World) (R:Nat→Prop) (L:Lay) (hl:Heap) (L':Lay) (hl':Heap):Prop where
 below:BelowL (owned L (lko hl)) w w'
 obj:∀id o,lookO id hl'=some o→RepO w' (lgood w w' R L hl L' hl') L' id o
 inj:∀i j oi oj b,lookO i hl'=some oi→lookO j hl'=some oj→L'.blk i=some b→L'.blk j=some b→i=j
 own:∀id o b,lookO id hl'=some o→L'.blk id=some b→(w.heap.size≤b∨owned L (lko hl) b)∧b<w'.heap.size
 kept:∀id o o',lookO id hl=some o→lookO id hl'=some o'→L'.blk id=L.blk id∧L'.cap id=L.cap id
def LSpec (P:Program) (f:FuncId) (args:List AVal) (hl:Heap) (post:AVal→Heap→Prop):Prop:=
 (∃ fn c, P.funcs[f]? = some fn ∧ (fn.name == "runtime.NumGoroutine") = false ∧ fn.body = some c) ∧
 ∀(w:World) (R:Nat→Prop) (L:Lay) (vs:Array Value),GoodW w R→(∀b,R b→b<w.heap.size)→vs.size=args.length→
  (∀b,L.old b↔b<w.heap.size∧¬owned L (lko hl) b)→
  (∀i x,args[i]? = some x→RepA w L R x (vs.getD i undef))→
  (∀id o,lookO id hl=some o→RepO w R L id o)→
  (∀i j oi oj b,lookO i hl=some oi→lookO j hl=some oj→L.blk i=some b→L.blk j=some b→i=j)→
  (∀id o b,lookO id hl=some o→L.blk id=some b→b<w.heap.size∧¬R b)→
  Calls P f vs w fun e w'=>∃v r hl' L',e=.returned v∧post r hl'∧LPost w w' R L hl L' hl'∧RepA w' L' (lgood w w' R L hl L' hl') r v
def Lay.lent (w : World) (L : Lay) (σi : List (Nat × Nat)) (hl : Heap) : Lay :=
  ⟨fun j => match lookW j σi with | some i => L.blk i | none => none, fun j => match lookW j σi with | some i => L.cap i | none => 0,
   fun b => b < w.heap.size ∧ ¬ ∃ id o, lookO id hl = some o ∧ (match lookW id σi with | some i => L.blk i | none => none) = some b⟩
def Lay.back (L L':Lay) (τn:List (Nat×Nat)):Lay:=
 ⟨fun i=>match lookW i τn with|some j=>L'.blk j|none=>L.blk i,fun i=>match lookW i τn with|some j=>L'.cap j|none=>L.cap i,L.old⟩
structure Lends (h:Nat→Option AObj) (σ σi:List (Nat×Nat)) (hl:Heap):Prop where
 inv:∀i j,lookW i σ=some j↔lookW j σi=some i
 from_:∀j o,lookO j hl=some o→∃i o0,lookW j σi=some i∧h i=some o0∧o=o0.map σ
 to:∀i j,lookW i σ=some j→∃o,lookO j hl=some o
section
variable {C : Ctx} {L : Lay} {g : Nat → AVal} {h : Nat → Option AObj} {a : Act} {w : World} {σ σi : List (Nat × Nat)} {hl : Heap}
theorem Lends.owned (hL:Lends h σ σi hl) {b:Nat} (hb:owned (L.lent w σi hl) (lko hl) b):∃i j o,lookW i σ=some j∧h i=some o∧L.blk i=some b:=by
 obtain ⟨j,o,h1,h2⟩:=hb
 obtain ⟨i,o0,h3,h4,_⟩:=hL.from_ j o h1
 simp only [Lay.lent,h3] at h2
 exact ⟨i,j,o0,(hL.inv i j).2 h3,h4,h2⟩
theorem Lends.mapOk (hL:Lends h σ σi hl):MapOk σ L (L.lent w σi hl):=fun i j hij=>by
 simp [Lay.lent,(hL.inv i j).1 hij]
theorem Rel.lend (H:Rel C L g h a w) (hL:Lends h σ σi hl) {P:Program} {f:FuncId} {args:List AVal} {post:AVal→Heap→Prop} (hs:LSpec P f (args.map (AVal.map σ)) hl post) {vs:Array Value} (hz:vs.size=args.length) (hargs:∀i x,args[i]? = some x→RepA w L (good C L h w) x (vs.getD i undef)) :
  Calls P f vs w fun e w'=>∃v r hl' L',e=.returned v∧post r hl'∧LPost w w' (good C L h w) (L.lent w σi hl) hl L' hl'∧RepA w' L' (lgood w w' (good C L h w) (L.lent w σi hl) hl L' hl') r v:=by
 refine hs.2 w (good C L h w) (L.lent w σi hl) vs H.goodW (fun b hb=>hb.1) (by simpa using hz) (fun b=>Iff.rfl) (fun i x hx=>?_) (fun j o ho=>?_) (fun i j oi oj b h1 h2 h3 h4=>?_) (fun j o b h1 h2=>?_)
 ·rw [List.getElem?_map] at hx
  obtain ⟨y,hy,rfl⟩:=Option.map_eq_some_iff.1 hx
  exact (hargs i y hy).map hL.mapOk fun _ h=>h
 ·obtain ⟨i,o0,h3,h4,rfl⟩:=hL.from_ j o ho
  exact (H.obj i o0 h4).map hL.mapOk (fun _ h=>h) (by simp [Lay.lent,h3]) (by simp [Lay.lent,h3])
 ·obtain ⟨i1,o1,k1,k2,_⟩:=hL.from_ i oi h1
  obtain ⟨i2,o2,k3,k4,_⟩:=hL.from_ j oj h2
  simp only [Lay.lent,k1] at h3
  simp only [Lay.lent,k3] at h4
  have:=H.inj i1 i2 o1 o2 b k2 k4 h3 h4
  subst this
  have e1:=(hL.inv _ _).2 k1
  have e2:=(hL.inv _ _).2 k3
  rw [e1] at e2
  exact Option.some.inj e2
 ·obtain ⟨i,o0,h3,h4,_⟩:=hL.from_ j o h1
  simp only [Lay.lent,h3] at h2
  exact ⟨(H.own0 i o0 b h4 h2).2,fun hg=>hg.2.2 ⟨i,o0,h4,h2⟩⟩
theorem Rel.back (H:Rel C L g h a w) (hL:Lends h σ σi hl) {w':World} {L':Lay} {hl':Heap} (hp:LPost w w' (good C L h w) (L.lent w σi hl) hl L' hl') {τ τn:List (Nat×Nat)} {h':Nat→Option AObj}
  (hτ:∀j i,lookW j τ=some i→(lookW j σi=some i∧(∃o,lookO j hl'=some o)∧lookW i τn=none)∨lookW i τn=some j)
  (hτn:∀i j,lookW i τn=some j→i∉C.lid∧(∀t,(g t).free i=true)∧∀k o,h k=some o→lookW k σ=none→k≠i∧o.free i=true)
  (hh:∀i o,h' i=some o→(∃j o',lookW j τ=some i∧lookO j hl'=some o'∧o=o'.map τ)∨(h i=some o∧lookW i σ=none)) :
  Rel C (L.back L' τn) g h' a w'∧∀r v,RepA w' L' (lgood w w' (good C L h w) (L.lent w σi hl) hl L' hl') r v→RepA w' (L.back L' τn) (good C (L.back L' τn) h' w') (r.map τ) v:=by
 have hown:∀{b},owned (L.lent w σi hl) (lko hl) b→∃i j o,lookW i σ=some j∧h i=some o∧L.blk i=some b:=fun hb=>hL.owned hb
 have hrest:∀{i o b},h i=some o→lookW i σ=none→L.blk i=some b→¬owned (L.lent w σi hl) (lko hl) b:=by
  intro i o b h1 h2 h3 hb
  obtain ⟨i',j,o',k1,k2,k3⟩:=hown hb
  have:=H.inj i i' o o' b h1 k2 h3 k3
  subst this
  rw [h2] at k1;cases k1
 have hgn:∀{b},good C L h w b→¬owned (L.lent w σi hl) (lko hl) b:=by
  intro b hg hb
  obtain ⟨i',j,o',k1,k2,k3⟩:=hown hb
  exact hg.2.2 ⟨i',o',k2,k3⟩
 have hmap:MapOk τ L' (L.back L' τn):=by
  intro j i hij
  rcases hτ j i hij with ⟨k1,⟨o',k2⟩,k3⟩|k1
  ·obtain ⟨o,k4⟩:=hL.to i j ((hL.inv i j).2 k1)
   obtain ⟨e1,e2⟩:=hp.kept j o o' k4 k2
   simp only [Lay.back,k3,e1,e2,Lay.lent,k1,and_self]
  ·simp only [Lay.back,k1,and_self]
 have hnew:∀{i o},h i=some o→lookW i σ=none→lookW i τn=none:=by
  intro i o h1 h2
  cases hn:lookW i τn with
  |none=>rfl
  |some j=>exact absurd rfl ((hτn i j hn).2.2 i o h1 h2).1
 have howned:∀{b},owned (L.back L' τn) h' b→owned L' (lko hl') b∨∃i o,h i=some o∧lookW i σ=none∧L.blk i=some b:=by
  rintro b ⟨i,o,h1,h2⟩
  rcases hh i o h1 with ⟨j,o',k1,k2,_⟩|⟨k1,k2⟩
  ·left;exact ⟨j,o',k2,by rw [←(hmap j i k1).1];exact h2⟩
  ·right;refine ⟨i,o,k1,k2,?_⟩
   simp only [Lay.back,hnew k1 k2] at h2
   exact h2
 have hlg:∀b,lgood w w' (good C L h w) (L.lent w σi hl) hl L' hl' b→good C (L.back L' τn) h' w' b:=by
  rintro b ⟨h1,h2,h3⟩
  refine ⟨h1,?_,fun ho=>?_⟩
  ·rcases h2 with h2|h2|h2
   ·exact h2.2.1
   ·exact .inr (.inl (Nat.le_trans H.below.size h2))
   ·obtain ⟨i',j,o',k1,k2,k3⟩:=hown h2
    exact .inr (H.own0 i' o' b k2 k3).1
  ·rcases howned ho with ho|⟨i,o,k1,k2,k3⟩
   ·exact h3 ho
   ·rcases h2 with h2|h2|h2
    ·exact h2.2.2 ⟨i,o,k1,k3⟩
    ·have:=(H.own0 i o b k1 k3).2;omega
    ·exact hrest k1 k2 k3 h2
 have hst:∀b,b<w.heap.size→good C L h w b→good C (L.back L' τn) h' w' b∧w'.heap[b]? = w.heap[b]?:=by
  intro b hlt hg
  refine ⟨hlg b ⟨Nat.lt_of_lt_of_le hlt hp.below.size,.inl hg,fun ⟨i,o,k1,k2⟩=>?_⟩,hp.below.block b hlt (hgn hg)⟩
  rcases (hp.own i o b k1 k2).1 with k3|k3
  ·omega
  ·exact hgn hg k3
 have hLp:∀i,(lookW i τn).isNone=true→(L.back L' τn).blk i=L.blk i∧(L.back L' τn).cap i=L.cap i:=by
  intro i hi
  have hi:lookW i τn=none:=by simpa using hi
  simp only [Lay.back,hi,and_self]
 have hpf:∀i,(lookW i τn).isNone=false→∃j,lookW i τn=some j:=by
  intro i hi
  cases hn:lookW i τn with
  |none=>rw [hn] at hi;cases hi
  |some j=>exact ⟨j,rfl⟩
 have ht:∀b,b<w.heap.size→L.old b→(L.back L' τn).old b∧w'.heap[b]? = w.heap[b]?:=fun b hlt hb=>⟨hb,hp.below.block b hlt fun ho=>by
  obtain ⟨i',j,o',k1,k2,k3⟩:=hown ho
  exact H.old_own hb k2 k3⟩
 refine ⟨?_,fun r v hr=>hr.map hmap hlg⟩
 exact {
  below:=H.below.next hp.below.os hp.below.tape hp.below.output hp.below.size fun k hk hnl=>hp.below.block k (Nat.lt_of_lt_of_le hk H.below.size) fun ho=>by
   obtain ⟨i',j,o',k1,k2,k3⟩:=hown ho
   rcases (H.own0 i' o' k k2 k3).1 with h1|h1
   ·omega
   ·exact hnl h1
  top:=H.top
  size:=H.size
  defers:=H.defers
  slot:=fun t=>(H.slot t).mono hp.below.size (fun i=>(lookW i τn).isNone) hLp ht hst fun i hi=>by
   obtain ⟨j,hj⟩:=hpf i hi
   exact (hτn i j hj).2.1 t
  obj:=fun i o hi=>by
   rcases hh i o hi with ⟨j,o',k1,k2,rfl⟩|⟨k1,k2⟩
   ·exact (hp.obj j o' k2).map hmap hlg (hmap j i k1).1 (hmap j i k1).2
   ·refine (H.obj i o k1).mono hp.below.size hst (fun b hb=>hp.below.block b (H.own0 i o b k1 hb).2 (hrest k1 k2 hb)) ht (fun i=>(lookW i τn).isNone) hLp (by simp [hnew k1 k2]) fun i' hi'=>?_
    obtain ⟨j,hj⟩:=hpf i' hi'
    exact ((hτn i' j hj).2.2 i o k1 k2).2
  inj:=fun i i' o o' b h1 h2 h3 h4=>by
   rcases hh i o h1 with ⟨j,o1,k1,k2,rfl⟩|⟨k1,k2⟩
   ·rw [(hmap j i k1).1] at h3
    rcases hh i' o' h2 with ⟨j',o2,k1',k2',rfl⟩|⟨k1',k2'⟩
    ·rw [(hmap j' i' k1').1] at h4
     have:=hp.inj j j' o1 o2 b k2 k2' h3 h4
     subst this
     rw [k1] at k1'
     exact Option.some.inj k1'
    ·rw [(hLp i' (by simp [hnew k1' k2'])).1] at h4
     rcases (hp.own j o1 b k2 h3).1 with e|e
     ·have:=(H.own0 i' o' b k1' h4).2;omega
     ·exact (hrest k1' k2' h4 e).elim
   ·rw [(hLp i (by simp [hnew k1 k2])).1] at h3
    rcases hh i' o' h2 with ⟨j',o2,k1',k2',rfl⟩|⟨k1',k2'⟩
    ·rw [(hmap j' i' k1').1] at h4
     rcases (hp.own j' o2 b k2' h4).1 with e|e
     ·have:=(H.own0 i o b k1 h3).2;omega
     ·exact (hrest k1 k2 h3 e).elim
    ·rw [(hLp i' (by simp [hnew k1' k2'])).1] at h4
     exact H.inj i i' o o' b k1 k1' h3 h4
  own0:=fun i o b h1 h2=>by
   rcases hh i o h1 with ⟨j,o1,k1,k2,rfl⟩|⟨k1,k2⟩
   ·rw [(hmap j i k1).1] at h2
    obtain ⟨e1,e2⟩:=hp.own j o1 b k2 h2
    refine ⟨?_,e2⟩
    rcases e1 with e|e
    ·exact .inl (Nat.le_trans H.below.size e)
    ·obtain ⟨i',j',o',q1,q2,q3⟩:=hown e
     exact (H.own0 i' o' b q2 q3).1
   ·rw [(hLp i (by simp [hnew k1 k2])).1] at h2
    obtain ⟨e1,e2⟩:=H.own0 i o b k1 h2
    exact ⟨e1,Nat.lt_of_lt_of_le e2 hp.below.size⟩
  kept:=fun i o hl0 h1=>by
   have hn:lookW i τn=none:=by
    cases hn:lookW i τn with
    |none=>rfl
    |some j=>exact absurd hl0 (hτn i j hn).1
   obtain ⟨e1,e2⟩:=hLp i (by simp [hn])
   rw [e1,e2]
   rcases hh i o h1 with ⟨j,o1,k1,k2,rfl⟩|⟨k1,k2⟩
   ·rcases hτ j i k1 with ⟨q1,_,_⟩|q1
    ·obtain ⟨o2,q2⟩:=hL.to i j ((hL.inv i j).2 q1)
     obtain ⟨i',o0,q3,q4,_⟩:=hL.from_ j o2 q2
     rw [q1] at q3
     cases q3
     exact H.kept i o0 hl0 q4
    ·rw [hn] at q1;cases q1
   ·exact H.kept i o hl0 k1
  lidn:=H.lidn}
end
def nameOf:AVal→Option Nat
 |.ptr i _=>some i
 |.rsl i _ _ _=>some i
 |.rptr i _ _ _=>some i
 |.mref i=>some i
 |_=>none
def partsOf:AVal→List AVal
 |.agg l=>l
 |.tup l=>l
 |.fn _ l=>l
 |_=>[]
def reach:Nat→(Nat→Option AObj)→List AVal→List Nat→List Nat
 |0,_,_,acc=>acc
 |_+1,_,[],acc=>acc
 |n+1,h,x::r,acc=>match nameOf x with
  |some i=>match memN i acc with
   |true=>reach n h r acc
   |false=>match h i with
    |some (.box l _)=>reach n h (l++r) (acc++[i])
    |some (.row ..)=>reach n h r (acc++[i])
    |some (.mp l)=>reach n h (l.map (·.2)++r) (acc++[i])
    |some (.vrow _ l)=>reach n h (l++r) (acc++[i])
    |some (.dmp _)=>reach n h r (acc++[i])
    |none=>reach n h r acc
  |none=>reach n h (partsOf x++r) acc
mutual
def deepV (k:AVal→Prop):AVal→Prop
 |.any=>k .any
 |.d x=>forceD k x
 |.agg l=>deepL (fun l=>k (.agg l)) l
 |.tup l=>deepL (fun l=>k (.tup l)) l
 |.ptr a b=>k (.ptr a b)
 |.eptr a b c q e=>k (.eptr a b c q e)
 |.rsl a b c q=>k (.rsl a b c q)
 |.rptr a b c q=>k (.rptr a b c q)
 |.mref a=>k (.mref a)
 |.fn a l=>deepL (fun l=>k (.fn a l)) l
 |.fresh a b c q=>k (.fresh a b c q)
def deepL (k:List AVal→Prop):List AVal→Prop
 | []=>k []
 |x::r=>deepV (fun x=>deepL (fun r=>k (x::r)) r) x
end
mutual
theorem deepV_eq:∀{v:AVal} {k:AVal→Prop},deepV k v→k v
 |.any,k,h=>h
 |.d x,k,h=>by cases x<;>exact h
 |.agg l,k,h=>deepL_eq (l:=l) (k:=fun l=>k (.agg l)) h
 |.tup l,k,h=>deepL_eq (l:=l) (k:=fun l=>k (.tup l)) h
 |.ptr ..,k,h=>h
 |.eptr ..,k,h=>h
 |.rsl ..,k,h=>h
 |.rptr ..,k,h=>h
 |.mref ..,k,h=>h
 |.fn a l,k,h=>deepL_eq (l:=l) (k:=fun l=>k (.fn a l)) h
 |.fresh ..,k,h=>h
theorem deepL_eq:∀{l:List AVal} {k:List AVal→Prop},deepL k l→k l
 | [],k,h=>h
 |x::r,k,h=>by
  have h1:=deepV_eq (v:=x) (k:=fun x=>deepL (fun r=>k (x::r)) r) h
  exact deepL_eq (l:=r) (k:=fun r=>k (x::r)) h1
end
def deepMp (k:List (D×AVal)→Prop):List (D×AVal)→Prop
 | []=>k []
 |(x,v)::r=>forceD (fun x'=>match x' with|.d x'=>deepV (fun v=>deepMp (fun r=>k ((x',v)::r)) r) v|_=>False) x
theorem deepMp_eq:∀{l:List (D×AVal)} {k:List (D×AVal)→Prop},deepMp k l→k l
 | [],k,h=>h
 |(x,v)::r,k,h=>by
  have h0:deepV (fun v=>deepMp (fun r=>k ((x,v)::r)) r) v:=by cases x<;>exact h
  exact deepMp_eq (l:=r) (k:=fun r=>k ((x,v)::r)) (deepV_eq (v:=v) (k:=fun v=>deepMp (fun r=>k ((x,v)::r)) r) h0)
def deepO (k:AObj→Prop):AObj→Prop
 |.mp l=>deepMp (fun l=>k (.mp l)) l
 |.box l tag=>deepL (fun l=>k (.box l tag)) l
 |.row t sz n f=>k (.row t sz n f)
 |.vrow t l=>deepL (fun l=>k (.vrow t l)) l
 |.dmp l=>k (.dmp l)
theorem deepO_eq {k:AObj→Prop} {o:AObj} (h:deepO k o):k o:=by
 cases o with
 |box l tag=>exact deepL_eq (l:=l) (k:=fun l=>k (.box l tag)) h
 |mp l=>exact deepMp_eq (l:=l) (k:=fun l=>k (.mp l)) h
 |row=>exact h
 |vrow t l=>exact deepL_eq (l:=l) (k:=fun l=>k (.vrow t l)) h
 |dmp=>exact h
def deepH (k:Heap→Prop):Heap→Prop
 | []=>k []
 |(i,o)::r=>deepO (fun o=>deepH (fun r=>k ((i,o)::r)) r) o
theorem deepH_eq:∀{l:Heap} {k:Heap→Prop},deepH k l→k l
 | [],k,h=>h
 |(i,o)::r,k,h=>by
  have h1:=deepO_eq (o:=o) (k:=fun o=>deepH (fun r=>k ((i,o)::r)) r) h
  exact deepH_eq (l:=r) (k:=fun r=>k ((i,o)::r)) h1
def sig:List Nat→Nat→List (Nat×Nat)
 | [],_=>[]
 |i::r,n=>(i,n)::sig r (n+1)
def sigI:List Nat→Nat→List (Nat×Nat)
 | [],_=>[]
 |i::r,n=>(n,i)::sigI r (n+1)
theorem sig_ge:∀{S:List Nat} {n i j:Nat},lookW i (sig S n)=some j→n≤j∧i∈S
 | [],n,i,j,h=>by cases h
 |s::r,n,i,j,h=>by
  rw [sig,lookW_cons] at h
  split at h
  ·rename_i e
   cases h
   exact ⟨Nat.le_refl _,by rw [e];exact List.mem_cons_self⟩
  ·have:=sig_ge h
   exact ⟨by omega,List.mem_cons_of_mem _ this.2⟩
theorem sigI_mem:∀{S:List Nat} {n i j:Nat},lookW j (sigI S n)=some i→i∈S∧n≤j
 | [],n,i,j,h=>by cases h
 |s::r,n,i,j,h=>by
  rw [sigI,lookW_cons] at h
  split at h
  ·rename_i e
   cases h
   exact ⟨List.mem_cons_self,by omega⟩
  ·have:=sigI_mem h
   exact ⟨List.mem_cons_of_mem _ this.1,by omega⟩
theorem sig_inv:∀{S:List Nat} {n:Nat},S.Nodup→∀i j,lookW i (sig S n)=some j↔lookW j (sigI S n)=some i
 | [],n,_,i,j=>by simp [sig,sigI,lookW]
 |s::r,n,h,i,j=>by
  obtain ⟨h1,h2⟩:=List.nodup_cons.1 h
  have ih:=sig_inv (n:=n+1) h2 i j
  rw [sig,sigI,lookW_cons,lookW_cons]
  constructor
  ·intro e
   split at e
   ·rename_i hi
    cases e
    rw [if_pos rfl,hi]
   ·have:=(sig_ge e).1
    rw [if_neg (by omega)]
    exact ih.1 e
  ·intro e
   split at e
   ·rename_i hj
    cases e
    rw [if_pos rfl,hj]
   ·have hm:=(sigI_mem e).1
    have hne:i≠s:=by intro e';subst e';exact h1 hm
    rw [if_neg hne]
    exact ih.2 e
def pickH (σ:List (Nat×Nat)) (h:Nat→Option AObj):List Nat→Nat→Heap
 | [],_=>[]
 |i::r,n=>match h i with
  |some o=>(n,o.map σ)::pickH σ h r (n+1)
  |none=>pickH σ h r (n+1)
def allIn (h:Nat→Option AObj):List Nat→Bool
 | []=>true
 |i::r=>match h i with|some _=>allIn h r|none=>false
theorem pickH_from {σ:List (Nat×Nat)} {h:Nat→Option AObj}:∀{S:List Nat} {n j:Nat} {o:AObj},lookO j (pickH σ h S n)=some o→∃i o0,lookW j (sigI S n)=some i∧h i=some o0∧o=o0.map σ
 | [],n,j,o,e=>by cases e
 |s::r,n,j,o,e=>by
  rw [sigI,lookW_cons]
  rw [pickH] at e
  cases hs:h s with
  |none=>
   rw [hs] at e
   simp only at e
   obtain ⟨i,o0,h1,h2,h3⟩:=pickH_from e
   have:=(sigI_mem h1).2
   exact ⟨i,o0,by rw [if_neg (by omega)];exact h1,h2,h3⟩
  |some o0=>
   rw [hs] at e
   simp only at e
   rw [lookO_cons] at e
   split at e
   ·rename_i hj
    cases e
    exact ⟨s,o0,by rw [if_pos hj],hs,rfl⟩
   ·rename_i hj
    obtain ⟨i,o1,h1,h2,h3⟩:=pickH_from e
    exact ⟨i,o1,by rw [if_neg hj];exact h1,h2,h3⟩
theorem pickH_to {σ:List (Nat×Nat)} {h:Nat→Option AObj}:∀{S:List Nat} {n i j:Nat},allIn h S=true→lookW i (sig S n)=some j→∃o,lookO j (pickH σ h S n)=some o
 | [],n,i,j,_,e=>by cases e
 |s::r,n,i,j,ha,e=>by
  rw [allIn] at ha
  rw [pickH]
  rw [sig,lookW_cons] at e
  cases hs:h s with
  |none=>rw [hs] at ha;cases ha
  |some o0=>
   rw [hs] at ha
   simp only at ha ⊢
   rw [lookO_cons]
   split at e
   ·cases e
    exact ⟨_,if_pos rfl⟩
   ·have:=(sig_ge e).1
    rw [if_neg (by omega)]
    exact pickH_to ha e
theorem lends_of {h:Nat→Option AObj} {S:List Nat} (hn:nodupN S=true) (ha:allIn h S=true) {n:Nat}:Lends h (sig S n) (sigI S n) (pickH (sig S n) h S n):=
 ⟨sig_inv (nodupN_ok hn),fun _ _=>pickH_from,fun _ _=>pickH_to ha⟩
theorem lends_of' {h hs:Nat→Option AObj} {S:List Nat} (hn:nodupN S=true) (ha:allIn hs S=true) (he:∀i,i∈S→h i=hs i) {n:Nat}:Lends h (sig S n) (sigI S n) (pickH (sig S n) hs S n):=
 ⟨sig_inv (nodupN_ok hn),fun _ _ h1=>by
  obtain ⟨i,o0,k1,k2,k3⟩:=pickH_from h1
  exact ⟨i,o0,k1,by rw [he i (sigI_mem k1).1];exact k2,k3⟩,fun _ _=>pickH_to ha⟩
theorem allIn_ok {h:Nat→Option AObj}:∀{S:List Nat},allIn h S=true→∀i,i∈S→∃o,h i=some o
 | [],_,i,hi=>by cases hi
 |s::r,ha,i,hi=>by
  rw [allIn] at ha
  cases hs:h s with
  |none=>rw [hs] at ha;cases ha
  |some o=>
   rw [hs] at ha
   rcases List.mem_cons.1 hi with rfl|hi
   ·exact ⟨o,hs⟩
   ·exact allIn_ok ha i hi
def tauOf (σi:List (Nat×Nat)):Heap→Nat→List (Nat×Nat)
 | [],_=>[]
 |(j,_)::r,nb=>match lookW j σi with
  |some i=>(j,i)::tauOf σi r nb
  |none=>(j,nb)::tauOf σi r (nb+1)
def newOf (σi:List (Nat×Nat)):Heap→Nat→List (Nat×Nat)
 | [],_=>[]
 |(j,_)::r,nb=>match lookW j σi with
  |some i=>newOf σi r nb
  |none=>(nb,j)::newOf σi r (nb+1)
theorem newOf_ge {σi:List (Nat×Nat)}:∀{hl:Heap} {nb i j:Nat},lookW i (newOf σi hl nb)=some j→nb≤i
 | [],nb,i,j,h=>by cases h
 |(q,o)::r,nb,i,j,h=>by
  rw [newOf] at h
  split at h
  ·exact newOf_ge h
  ·rw [lookW_cons] at h
   split at h
   ·omega
   ·have:=newOf_ge h;omega
theorem tauOf_ok {σi:List (Nat×Nat)}:∀{hl:Heap} {nb j i:Nat},lookW j (tauOf σi hl nb)=some i→(lookW j σi=some i∧∃o,lookO j hl=some o)∨lookW i (newOf σi hl nb)=some j
 | [],nb,j,i,h=>by cases h
 |(q,o)::r,nb,j,i,h=>by
  rw [tauOf] at h
  rw [newOf]
  split at h
  ·rename_i q' hq
   rw [lookW_cons] at h
   split at h
   ·rename_i e
    cases h
    left
    exact ⟨by rw [e];exact hq,o,by rw [lookO_cons,if_pos e]⟩
   ·rename_i e
    rcases tauOf_ok h with ⟨h1,o',h2⟩|h1
    ·left;exact ⟨h1,o',by rw [lookO_cons,if_neg e];exact h2⟩
    ·right;exact h1
  ·rename_i hq
   rw [lookW_cons] at h
   split at h
   ·rename_i e
    cases h
    right
    rw [lookW_cons,if_pos rfl,e]
   ·rename_i e
    rcases tauOf_ok h with ⟨h1,o',h2⟩|h1
    ·left;exact ⟨h1,o',by rw [lookO_cons,if_neg e];exact h2⟩
    ·right
     have:=newOf_ge h1
     rw [lookW_cons,if_neg (by omega)]
     exact h1
def mapH (τ:List (Nat×Nat)):Heap→Heap
 | []=>[]
 |(j,o)::r=>match lookW j τ with
  |some i=>(i,o.map τ)::mapH τ r
  |none=>mapH τ r
theorem mapH_from {τ:List (Nat×Nat)}:∀{hl:Heap} {i:Nat} {o:AObj},lookO i (mapH τ hl)=some o→∃j o',lookW j τ=some i∧lookO j hl=some o'∧o=o'.map τ
 | [],i,o,h=>by cases h
 |(q,oq)::r,i,o,h=>by
  rw [mapH] at h
  have step:∀{i':Nat},i'≠i∨lookW q τ=none→lookO i (mapH τ r)=some o→(lookW q τ=none∨lookW q τ=some i')→∃j o',lookW j τ=some i∧lookO j ((q,oq)::r)=some o'∧o=o'.map τ:=by
   intro i' hne h hq
   obtain ⟨j,o',h1,h2,h3⟩:=mapH_from h
   refine ⟨j,o',h1,?_,h3⟩
   rw [lookO_cons,if_neg]
   ·exact h2
   ·rintro rfl
    rcases hq with hq|hq
    ·rw [hq] at h1;cases h1
    ·rw [hq] at h1
     cases h1
     rcases hne with hne|hne
     ·exact hne rfl
     ·rw [hq] at hne;cases hne
  split at h
  ·rename_i i' hq
   rw [lookO_cons] at h
   split at h
   ·rename_i e
    cases h
    exact ⟨q,oq,by rw [e];exact hq,by rw [lookO_cons,if_pos rfl],rfl⟩
   ·rename_i e
    exact step (i':=i') (.inl fun h=>e h.symm) h (.inr hq)
  ·rename_i hq
   exact step (i':=0) (.inr hq) h (.inl hq)
theorem lookO_app (i:Nat) (o:AObj):∀{x y:Heap},lookO i (x++y)=some o→lookO i x=some o∨lookO i y=some o
 | [],y,h=>.inr h
 |(q,oq)::r,y,h=>by
  rw [List.cons_append,lookO_cons] at h
  rw [lookO_cons]
  split at h
  ·rename_i e;left;rw [if_pos e];exact h
  ·rename_i e;rw [if_neg e];exact lookO_app i o h
def freshN (env:Env) (heap:Heap) (S:List Nat):List (Nat×Nat)→Bool
 | []=>true
 |(i,_)::r=>match Nat.blt i lentBase with
  |true=>match memN i S with
   |false=>match freeEnv i env with
    |true=>match freeHeap i heap with
     |true=>freshN env heap S r
     |false=>false
    |false=>false
   |true=>false
  |false=>false
theorem freshN_ok {env:Env} {heap:Heap} {S:List Nat}:∀{l:List (Nat×Nat)},freshN env heap S l=true→∀{i j},lookW i l=some j→i<lentBase∧memN i S=false∧freeEnv i env=true∧freeHeap i heap=true
 | [],_,i,j,h=>by cases h
 |(q,q')::r,hf,i,j,h=>by
  rw [freshN] at hf
  rw [lookW_cons] at h
  cases h1:Nat.blt q lentBase with
  |false=>rw [h1] at hf;cases hf
  |true=>
   rw [h1] at hf
   cases h2:memN q S with
   |true=>rw [h2] at hf;cases hf
   |false=>
    rw [h2] at hf
    cases h3:freeEnv q env with
    |false=>simp only [h3] at hf;cases hf
    |true=>
     simp only [h3] at hf
     cases h4:freeHeap q heap with
     |false=>rw [h4] at hf;cases hf
     |true=>
      rw [h4] at hf
      split at h
      ·rename_i e
       rw [e]
       exact ⟨Nat.lt_of_succ_le (by simpa [Nat.blt] using h1),h2,h3,h4⟩
      ·exact freshN_ok hf h
def newBase (env:Env):Option Tmp→Nat
 |some t=>1000*(t+1)
 |none=>500000+1000*env.length
def ABack (nt:Nat) (dst:Option Tmp) (S:List Nat) (env:Env) (heap:Heap) (k:Env→Heap→Prop) (r:AVal) (hl':Heap):Prop:=
 match freshN env (dropH S heap) S (newOf (sigI S lentBase) hl' (newBase env dst)) with
 |true=>deepV (fun r'=>deepH (fun hn=>match dst with
   |some t=>match Nat.blt t nt with
    |true=>k ((t,r')::env) hn
    |false=>False
   |none=>k env hn) (mapH (tauOf (sigI S lentBase) hl' (newBase env dst)) hl'++dropH S heap)) (r.map (tauOf (sigI S lentBase) hl' (newBase env dst)))
 |false=>False
def ALend (P:Program) (nt:Nat) (dst:Option Tmp) (env:Env) (heap:Heap) (k:Env→Heap→Prop) (f:FuncId) (args:List AVal):Prop:=
 forceN (fun S=>match nodupN S with
  |true=>match allIn (fun i=>lookO i heap) S with
   |true=>deepL (fun args'=>deepH (fun hl=>∃post,LSpec P f args' hl post∧∀r hl',post r hl'→ABack nt dst S env heap k r hl') (pickH (sig S lentBase) (fun i=>lookO i heap) S lentBase)) (AVal.mapL (sig S lentBase) args)
   |false=>False
  |false=>False) (reach 500 (fun i=>lookO i heap) args [])
theorem ALend_ok {C:Ctx} {L:Lay} {a:Act} {w:World} {env:Env} {heap:Heap} {k:Env→Heap→Prop} {f:FuncId} {args:List AVal} {dst:Option Tmp} (H:Rel C L (lk env) (lko heap) a w) (hk:ALend C.P C.nt dst env heap k f args)
  {vs:Array Value} (hz:vs.size=args.length) (hargs:∀i x,args[i]? = some x→RepA w L (good C L (lko heap) w) x (vs.getD i undef)) :
  (∃ fn c, C.P.funcs[f]? = some fn ∧ (fn.name == "runtime.NumGoroutine") = false ∧ fn.body = some c) ∧
  Calls C.P f vs w fun e w'=>∃v,e=.returned v∧∃L' env' heap',k env' heap'∧Rel C L' (lk env') (lko heap') (a.put dst v) w':=by
 unfold ALend at hk
 have hk:=forceN_eq hk
 generalize reach 500 (fun i=>lookO i heap) args []=S at hk
 cases hn:nodupN S with
 |false=>rw [hn] at hk;exact hk.elim
 |true=>
  rw [hn] at hk
  simp only at hk
  cases ha:allIn (fun i=>lookO i heap) S with
  |false=>rw [ha] at hk;exact hk.elim
  |true=>
   rw [ha] at hk
   simp only at hk
   obtain ⟨post,hs,hpost⟩:=deepH_eq (deepL_eq hk)
   have hL:Lends (lko heap) (sig S lentBase) (sigI S lentBase) (pickH (sig S lentBase) (fun i=>lookO i heap) S lentBase):=lends_of hn ha
   rw [AVal.mapL_eq] at hs
   refine ⟨hs.1,(H.lend hL hs hz hargs).mono ?_⟩
   rintro e w' ⟨v,r,hl',L',rfl,hp,hlp,hrep⟩
   refine ⟨v,rfl,?_⟩
   have hb:=hpost r hl' hp
   unfold ABack at hb
   cases hf:freshN env (dropH S heap) S (newOf (sigI S lentBase) hl' (newBase env dst)) with
   |false=>rw [hf] at hb;exact hb.elim
   |true=>
    rw [hf] at hb
    simp only at hb
    have hb:=deepH_eq (deepV_eq hb)
    generalize newBase env dst=nb at hb hf
    have hmemS:∀{i},lookW i (sig S lentBase)=none→i∉S:=by
     intro i hi hm
     have:∀(S:List Nat) (n:Nat),i∈S→lookW i (sig S n)≠none:=by
      intro S
      induction S with
      |nil=>intro n h;cases h
      |cons s r ih=>
       intro n h
       rw [sig,lookW_cons]
       split
       ·simp
       ·rename_i hne
        exact ih (n+1) ((List.mem_cons.1 h).resolve_left hne)
     exact this S lentBase hm hi
    obtain ⟨hrel,hres⟩:=H.back hL hlp (τ:=tauOf (sigI S lentBase) hl' nb) (τn:=newOf (sigI S lentBase) hl' nb) (h':=lko (mapH (tauOf (sigI S lentBase) hl' nb) hl'++dropH S heap))
     (fun j i hji=>by
      rcases tauOf_ok hji with ⟨h1,h2⟩|h1
      ·left
       refine ⟨h1,h2,?_⟩
       cases hn':lookW i (newOf (sigI S lentBase) hl' nb) with
       |none=>rfl
       |some j'=>
        have:=(freshN_ok hf hn').2.1
        have hm:=(sigI_mem h1).1
        rw [memN_of.2 hm] at this;cases this
      ·right;exact h1)
     (fun i j hij=>by
      obtain ⟨f1,f2,f3,f4⟩:=freshN_ok hf hij
      refine ⟨fun hl=>?_,freeEnv_look f3,fun q o hq hσ=>?_⟩
      ·have:=(H.lidn i hl).1;omega
      ·refine freeHeap_look f4 q o ?_
       rw [lookO_dropH,if_neg]
       ·exact hq
       ·intro hm
        exact hmemS hσ (memN_of.1 hm))
     (fun i o ho=>by
      rcases lookO_app i o ho with h1|h1
      ·left;exact mapH_from h1
      ·right
       rw [lookO_dropH] at h1
       split at h1
       ·cases h1
       ·rename_i hm
        refine ⟨h1,?_⟩
        cases hs':lookW i (sig S lentBase) with
        |none=>rfl
        |some j=>exact absurd (memN_of.2 (sig_ge hs').2) hm)
    have hr:=hres r v hrep
    cases dst with
    |none=>exact ⟨L.back L' (newOf (sigI S lentBase) hl' nb),_,_,hb,hrel⟩
    |some t=>
     simp only at hb
     cases hbl:Nat.blt t C.nt with
     |false=>rw [hbl] at hb;exact hb.elim
     |true=>
      rw [hbl] at hb
      simp only at hb
      refine ⟨L.back L' (newOf (sigI S lentBase) hl' nb),_,_,hb,?_⟩
      rw [lk_cons]
      exact hrel.put (Nat.lt_of_succ_le (by simpa [Nat.blt] using hbl)) hr
def lendK (h:Nat→Option AObj) (k:List AVal→List Nat→Prop):List Bool→List AVal→List Nat→Prop
 |_,[],p=>k [] p
 | [],x::r,p=>lendK h (fun l p=>k (x::l) p) [] r p
 |false::ms,x::r,p=>lendK h (fun l p=>k (x::l) p) ms r p
 |true::ms,x::r,p=>match x with
  |.rsl id sz o n=>match memN id p with
   |true=>False
   |false=>match h id with
    |some (.row _ sz' n' f)=>match Nat.beq sz sz' with
     |true=>(o+n≤n')∧match o with
      |0=>lendK h (fun l p=>k (.d (.sl sz n f)::l) p) ms r (id::p)
      |o=>lendK h (fun l p=>k (.d (.sl sz n fun j=>f (o+j))::l) p) ms r (id::p)
     |false=>False
    |_=>False
  |x=>lendK h (fun l p=>k (x::l) p) ms r p
def LendsArgs (h:Nat→Option AObj) (xs:List AVal) (p0:List Nat) (l:List AVal) (p:List Nat):Prop:=
 l.length=xs.length∧(∀i,i∈p0→i∈p)∧
 ∀(C:Ctx) (L:Lay) (g:Nat→AVal) (h0:Nat→Option AObj) (a:Act) (w:World),Rel C L g h0 a w→(∀i o,h i=some o→h0 i=some o)→
  ∀(i:Nat) (x y:AVal) (v:Value),xs[i]? = some x→l[i]? = some y→RepA w L (good C L h0 w) x v→RepA w L (good C L (fun j=>if memN j p=true then none else h0 j) w) y v
theorem LendsArgs.cons {h:Nat→Option AObj} {xs l:List AVal} {p0 p1 p:List Nat} (hl:LendsArgs h xs p1 l p) (hp:∀i,i∈p0→i∈p1) {x y:AVal}
  (hx:∀(C:Ctx) (L:Lay) (g:Nat→AVal) (h0:Nat→Option AObj) (a:Act) (w:World),Rel C L g h0 a w→(∀i o,h i=some o→h0 i=some o)→∀v,RepA w L (good C L h0 w) x v→RepA w L (good C L (fun j=>if memN j p=true then none else h0 j) w) y v):LendsArgs h (x::xs) p0 (y::l) p:=by
 refine ⟨by simp [hl.1],fun i hi=>hl.2.1 i (hp i hi),fun C L g h0 a w H hh i x' y' v h1 h2 hv=>?_⟩
 cases i with
 |zero=>
  simp only [List.getElem?_cons_zero,Option.some.injEq] at h1 h2
  subst h1;subst h2
  exact hx C L g h0 a w H hh v hv
 |succ i=>
  simp only [List.getElem?_cons_succ] at h1 h2
  exact hl.2.2 C L g h0 a w H hh i x' y' v h1 h2 hv
theorem good_drop {C:Ctx} {L:Lay} {h0 h1:Nat→Option AObj} {w:World} (hs:∀i o,h1 i=some o→h0 i=some o) {b:Nat} (hb:good C L h0 w b):good C L h1 w b:=⟨hb.1,hb.2.1,fun ⟨i,o,k1,k2⟩=>hb.2.2 ⟨i,o,hs i o k1,k2⟩⟩
theorem dropped_some {h0:Nat→Option AObj} {p:List Nat} {i:Nat} {o:AObj} (e:(if memN i p=true then none else h0 i)=some o):h0 i=some o∧memN i p=false:=by
 cases hm:memN i p with
 |true=>rw [hm] at e;simp at e
 |false=>rw [hm] at e;exact ⟨by simpa using e,rfl⟩
theorem lendK_st {h:Nat→Option AObj}:∀{xs:List AVal} {ms:List Bool} {p0:List Nat} {k:List AVal→List Nat→Prop},lendK h k ms xs p0→∃l p,k l p∧LendsArgs h xs p0 l p
 | [],ms,p0,k,hk=>by
  have hk:k [] p0:=by cases ms<;>simpa [lendK] using hk
  exact ⟨[],p0,hk,rfl,fun _ h=>h,fun _ _ _ _ _ _ _ _ i x y v h=>by simp at h⟩
 |x::r,ms,p0,k,hk=>by
  have same:∀{ms:List Bool},lendK h (fun l p=>k (x::l) p) ms r p0→∃l p,k l p∧LendsArgs h (x::r) p0 l p:=by
   intro ms hk
   obtain ⟨l,p,h1,h2⟩:=lendK_st hk
   exact ⟨x::l,p,h1,h2.cons (fun _ h=>h) fun C L g h0 a w H hh v hv=>hv.mono1 (Nat.le_refl _) (fun b _ hb=>⟨good_drop (fun i o e=>(dropped_some e).1) hb,rfl⟩) fun _ _=>rfl⟩
  cases ms with
  |nil=>exact same (by simpa [lendK] using hk)
  |cons m ms=>
   cases m with
   |false=>exact same (by simpa [lendK] using hk)
   |true=>
    cases x with
    |rsl id sz o n=>
     simp only [lendK] at hk
     cases hm:memN id p0 with
     |true=>rw [hm] at hk;exact hk.elim
     |false=>
      rw [hm] at hk
      simp only at hk
      cases hid:h id with
      |none=>rw [hid] at hk;exact hk.elim
      |some ob=>
       rw [hid] at hk
       cases ob with
       |box=>exact hk.elim
       |mp=>exact hk.elim
       |vrow=>exact hk.elim
       |dmp=>exact hk.elim
       |row t sz' n' f=>
        simp only at hk
        cases hb:Nat.beq sz sz' with
        |false=>rw [hb] at hk;exact hk.elim
        |true=>
         rw [hb] at hk
         simp only at hk
         have:=Nat.eq_of_beq_eq_true hb
         subst this
         obtain ⟨hle,hk⟩:=hk
         have key:∃l p,k (.d (.sl sz n fun j=>f (o+j))::l) p∧LendsArgs h r (id::p0) l p:=by
          cases o with
          |zero=>
           obtain ⟨l,p,h1,h2⟩:=lendK_st hk
           exact ⟨l,p,by simpa using h1,h2⟩
          |succ o=>
           obtain ⟨l,p,h1,h2⟩:=lendK_st hk
           exact ⟨l,p,h1,h2⟩
         obtain ⟨l,p,h1,h2⟩:=key
         refine ⟨_,p,h1,h2.cons (fun i hi=>List.mem_cons_of_mem _ hi) fun C L g h0 a w H hh v hv=>?_⟩
         have hidp:memN id p=true:=memN_of.2 (h2.2.1 id List.mem_cons_self)
         refine .d (row_view (gd:=good C L h0 w) (h:=restrictH [id] h0) (fun i o e=>H.obj i o (restrictH_some e)) (fun b hb=>good_drop (fun i o e=>(dropped_some e).1) hb) (fun i oi b e1 e2=>?_) (by unfold restrictH;simp only [memN,beq_self];exact hh id _ hid) hle hv)
         have hi:i=id:=by
          unfold restrictH at e1
          cases hq:memN i [id] with
          |true=>simpa using memN_of.1 hq
          |false=>rw [hq] at e1;cases e1
         subst hi
         have e1':=restrictH_some e1
         have h3:=H.own0 i oi b e1' e2
         refine ⟨⟨h3.2,.inr h3.1,fun ⟨j,oj,k1,k2⟩=>?_⟩,h3.2⟩
         obtain ⟨k3,k4⟩:=dropped_some k1
         have:=H.inj j i oj oi b k3 e1' k2 e2
         subst this
         rw [hidp] at k4;cases k4
    |_=>exact same (by simpa [lendK] using hk)
def capsN:List AVal→List AVal
 | []=>[]
 |x::r=>(match x.nm with
  |true=>x
  |false=>(match x with
   |.d q=>(match q.flat with|true=>.d q|false=>.any)
   |_=>.any))::capsN r
theorem capsN_get:∀{l:List AVal} {i:Nat} {y:AVal},(capsN l)[i]? = some y→∃x,l[i]? = some x∧∀(w:World) (L:Lay) (gd gd':Nat→Prop) (v:Value),RepA w L gd x v→RepA w L gd' y v
 | [],i,y,h=>by simp [capsN] at h
 |x::r,0,y,h=>by
  simp only [capsN,List.getElem?_cons_zero,Option.some.injEq] at h
  refine ⟨x,rfl,fun w L gd gd' v hv=>?_⟩
  subst h
  cases hn:x.nm with
  |true=>exact hv.nm hn
  |false=>
   cases x with
   |d q=>
    cases hf:q.flat with
    |true=>simp only [hf];exact hv.flat (by simpa [AVal.flat] using hf)
    |false=>simp only [hf];exact .any
   |_=>exact .any
 |x::r,i+1,y,h=>by
  simp only [capsN,List.getElem?_cons_succ] at h ⊢
  exact capsN_get h
theorem capsN_len:∀l:List AVal,(capsN l).length=l.length
 | []=>rfl
 |x::r=>by simp [capsN,capsN_len r]
def whOf (hm:Heap) (ids:List Nat):List (Nat×Option AObj):=hm.map (fun x=>(x.1,some x.2))++ids.map fun i=>(i,none)
theorem lookW_whOf (i:Nat) (ids:List Nat):∀hm:Heap,lookW i (whOf hm ids)=match lookO i hm with|some o=>some (some o)|none=>if memN i ids=true then some none else none
 | []=>by
  show lookW i (ids.map fun i=>(i,none))=if memN i ids=true then some none else none
  induction ids with
  |nil=>simp [lookW,memN]
  |cons s r ih=>
   rw [List.map_cons,lookW_cons,ih]
   have e:memN i (s::r)=(match Nat.beq s i with|true=>true|false=>memN i r):=rfl
   rw [e]
   by_cases h:i=s
   ·subst h;simp
   ·rw [beq_false (fun e=>h e.symm)];simp [h]
 |(j,o)::r=>by
  have ih:=lookW_whOf i ids r
  have e:whOf ((j,o)::r) ids=(j,some o)::whOf r ids:=rfl
  rw [e,lookW_cons,lookO_cons,ih]
  by_cases h:i=j
  ·simp [h]
  ·simp [h]
theorem lookO_app_eq (i:Nat):∀(x y:Heap),lookO i (x++y)=match lookO i x with|some o=>some o|none=>lookO i y
 | [],y=>rfl
 |(q,oq)::r,y=>by
  rw [List.cons_append,lookO_cons,lookO_cons,lookO_app_eq i r y]
  by_cases h:i=q
  ·simp [h]
  ·simp [h]
def ltAll:List Nat→Bool
 | []=>true
 |i::r=>match Nat.blt i lentBase with|true=>ltAll r|false=>false
theorem ltAll_ok:∀{l:List Nat},ltAll l=true→∀i,i∈l→i<lentBase
 | [],_,i,hi=>by cases hi
 |j::r,h,i,hi=>by
  rw [ltAll] at h
  cases hb:Nat.blt j lentBase with
  |false=>rw [hb] at h;cases h
  |true=>
   rw [hb] at h
   rcases List.mem_cons.1 hi with rfl|hi
   ·exact Nat.lt_of_succ_le (by simpa [Nat.blt] using hb)
   ·exact ltAll_ok h i hi
def firsts:List (Nat×Nat)→List Nat
 | []=>[]
 |(i,_)::r=>i::firsts r
theorem firsts_mem {i j:Nat}:∀{l:List (Nat×Nat)},lookW i l=some j→i∈firsts l
 | [],h=>by cases h
 |(q,q')::r,h=>by
  rw [lookW_cons] at h
  split at h
  ·rename_i e;rw [e];exact List.mem_cons_self
  ·exact List.mem_cons_of_mem _ (firsts_mem h)
def lentTo (T:Tys):AVal→Option (List Bool)
 |.fn f _=>lookW f T.lnt
 |_=>none
end Towline
