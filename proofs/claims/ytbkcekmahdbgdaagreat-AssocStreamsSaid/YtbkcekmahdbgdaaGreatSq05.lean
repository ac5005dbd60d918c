/- AssocStreams: the engine, contracts and plain laws that its proof leans on, part 05. -/
import Derived.Test.YtbkcekmahdbgdaaGreatSq04
import Derived.Scope
import Derived.LoopN
namespace Towline
open Go Go.RowKit
set_option linter.unusedVariables false
theorem Rc.g_one {rt rh:List Nat} {t:Nat} {v:AVal} {wh:List (Nat×Option AObj)} {fr:List Nat} (g:Nat→AVal):Rc.g ⟨rt,rh,[(t,v)],wh,fr⟩ g=gput g t v:=by
 funext s
 unfold Rc.g gput
 rw [lookW_cons]
 by_cases h:s=t
 ·simp [h]
 ·simp [h,lookW]
theorem Rc.h_nil {rt rh:List Nat} {wt:List (Nat×AVal)} {fr:List Nat} (h:Nat→Option AObj):Rc.h ⟨rt,rh,wt,[],fr⟩ h=h:=rfl
theorem Rc.h_one {rt rh:List Nat} {t:Nat} {o:AObj} {wt:List (Nat×AVal)} {fr:List Nat} (h:Nat→Option AObj):Rc.h ⟨rt,rh,wt,[(t,some o)],fr⟩ h=hput h t o:=by
 funext s
 unfold Rc.h hput
 rw [lookW_cons]
 by_cases e:s=t
 ·simp [e]
 ·simp [e,lookW]
theorem Rc.h_two {rt rh:List Nat} {t old:Nat} {o:AObj} {wt:List (Nat×AVal)} {fr:List Nat} (h:Nat→Option AObj):Rc.h ⟨rt,rh,wt,[(t,some o),(old,none)],fr⟩ h=fun j=>if j=t then some o else if j=old then none else h j:=by
 funext s
 unfold Rc.h
 rw [lookW_cons,lookW_cons]
 by_cases e:s=t
 ·simp [e]
 ·by_cases e2:s=old
  ·subst e2;simp [e]
  ·simp [e,e2,lookW]
theorem lko_rem (id:Nat):∀heap:Heap,lko (remO id heap)=fun j=>if j=id then none else lko heap j
 | []=>by funext j;simp [remO,lookO]
 |(k,o)::r=>by
  have ih:=lko_rem id r
  have eq:remO id ((k,o)::r)=(match Nat.beq k id with|true=>remO id r|false=>(k,o)::remO id r):=rfl
  rw [eq]
  by_cases h:k=id
  ·subst h
   rw [beq_self]
   simp only
   rw [ih,lko_cons]
   funext j
   unfold hput
   by_cases hj:j=k
   ·simp [hj]
   ·simp [hj]
  ·rw [beq_false h]
   simp only
   rw [lko_cons,lko_cons,ih]
   funext j
   unfold hput
   by_cases hj:j=k
   ·subst hj;simp [h]
   ·simp [hj]
section
variable {h : Nat → Option AObj} {g : Nat → AVal}
def Reads (h:Nat→Option AObj) (x y:AVal):Prop:=∀(w:World) (gd gd':Nat→Prop) (L L':Lay) (v:Value),(∀id o,h id=some o→RepO w gd L id o)→(∀b,gd b→gd' b)→(∀id o b,h id=some o→L.blk id=some b→gd' b∧b<w.heap.size)→RepA w L gd x v→RepA w L' gd' y v
mutual
theorem viewK_st:∀(x:AVal) (k:AVal→Prop),viewK h k x→∃y,k y∧y.data=true∧Reads h x y
 |.any,k,hk=>⟨.any,hk,rfl,fun _ _ _ _ _ _ _ _ _ _=>.any⟩
 |.d x,k,hk=>⟨.d x,hk,rfl,fun w gd gd' L L' v _ hg _ hv=>hv.data (Nat.le_refl _) rfl (fun b _ hb=>⟨hg b hb,rfl⟩)⟩
 |.agg l,k,hk=>by
  obtain ⟨m,e1,e2,e3,e4⟩:=viewL_st l _ hk
  refine ⟨.agg m,e1,e2,fun w gd gd' L L' v ho hg hb hv=>?_⟩
  obtain ⟨vs,rfl,k1,k2,k3⟩:=repA_agg hv
  exact .agg (by omega) (fun i hi=>k2 i (by omega)) (e4 w gd gd' L L' (fun i=>vs.getD i undef) ho hg hb k3)
 |.tup l,k,hk=>by
  obtain ⟨m,e1,e2,e3,e4⟩:=viewL_st l _ hk
  refine ⟨.tup m,e1,e2,fun w gd gd' L L' v ho hg hb hv=>?_⟩
  cases hv with
  | @tup _ _ vs hz hr=>exact .tup (by omega) (e4 w gd gd' L L' (fun i=>vs.getD i undef) ho hg hb hr)
 |.fn f l,k,hk=>by
  simp only [viewK] at hk
  cases hc:clF h l with
  |none=>rw [hc] at hk;exact hk.elim
  |some m=>
   rw [hc] at hk
   exact ⟨_,hk,rfl,fun w gd gd' L L' v ho hg hb hv=>.d (fn_view ho hg hb hc hv)⟩
 |.rsl id sz o n,k,hk=>by
  simp only [viewK] at hk
  cases hid:h id with
  |none=>rw [hid] at hk;exact hk.elim
  |some ob=>
   rw [hid] at hk
   cases ob with
   |box=>exact hk.elim
   |mp=>exact hk.elim
   |vrow=>exact hk.elim
   |dmp=>exact hk.elim
   |row t sz' n' f=>
    simp only at hk
    cases hbq:Nat.beq sz sz' with
    |false=>rw [hbq] at hk;exact hk.elim
    |true=>
     rw [hbq] at hk
     have:=Nat.eq_of_beq_eq_true hbq
     subst this
     simp only at hk
     obtain ⟨hle,hk⟩:=hk
     cases o with
     |zero=>exact ⟨_,hk,rfl,fun w gd gd' L L' v ho hg hb hv=>.d (by simpa using row_view ho hg hb hid hle hv)⟩
     |succ o=>exact ⟨_,hk,rfl,fun w gd gd' L L' v ho hg hb hv=>.d (row_view ho hg hb hid hle hv)⟩
 |.eptr ..,k,hk=>hk.elim
 |.ptr id off,k,hk=>by
  simp only [viewK] at hk
  cases off with
  |succ off=>exact hk.elim
  |zero=>
   simp only at hk
   cases hid:h id with
   |none=>rw [hid] at hk;exact hk.elim
   |some ob=>
    rw [hid] at hk
    cases ob with
    |row=>exact hk.elim
    |mp=>exact hk.elim
    |vrow=>exact hk.elim
    |dmp=>exact hk.elim
    |box l tag=>
     simp only at hk
     cases hu:unliftF l with
     |none=>rw [hu] at hk;exact hk.elim
     |some ds=>
      rw [hu] at hk
      refine ⟨_,hk,rfl,fun w gd gd' L L' v ho hg hb hv=>?_⟩
      cases hv with
      | @ptr _ _ _ b hbk=>exact .d (.pt _ b (box_view ho hg hb hid hu hbk))
 |.rptr ..,k,hk=>hk.elim
 |.mref id,k,hk=>⟨_,hk,rfl,fun w gd gd' L L' v ho hg hb hv=>by cases hv with|mref _=>exact .d (.o _ rfl)⟩
 |.fresh ..,k,hk=>hk.elim
theorem viewL_st:∀(l:List AVal) (k:List AVal→Prop),viewL h k l→∃m,k m∧AVal.dataL m=true∧m.length=l.length∧
  ∀(w:World) (gd gd':Nat→Prop) (L L':Lay) (vs:Nat→Value),(∀id o,h id=some o→RepO w gd L id o)→(∀b,gd b→gd' b)→(∀id o b,h id=some o→L.blk id=some b→gd' b∧b<w.heap.size)→(∀(i:Nat) (x:AVal),l[i]? = some x→RepA w L gd x (vs i))→∀(i:Nat) (x:AVal),m[i]? = some x→RepA w L' gd' x (vs i)
 | [],k,hk=>⟨[],hk,rfl,rfl,fun w gd gd' L L' vs _ _ _ _ i x hx=>by simp at hx⟩
 |x::r,k,hk=>by
  simp only [viewL] at hk
  obtain ⟨y,h1,h2,h3⟩:=viewK_st x _ hk
  obtain ⟨m,e1,e2,e3,e4⟩:=viewL_st r _ h1
  refine ⟨y::m,e1,by simp [AVal.dataL,h2,e2],by simp [e3],fun w gd gd' L L' vs ho hg hb hv i z hz=>?_⟩
  cases i with
  |zero=>simp only [List.getElem?_cons_zero,Option.some.injEq] at hz;subst hz;exact h3 w gd gd' L L' _ ho hg hb (hv 0 x rfl)
  |succ i=>simp only [List.getElem?_cons_succ] at hz;exact e4 w gd gd' L L' (fun i=>vs (i+1)) ho hg hb (fun i z hz=>hv (i+1) z hz) i z hz
end
structure Begins (w:World) (gd:Nat→Prop) (L:Lay) (g:Nat→AVal) (h:Nat→Option AObj) (a:Act):Prop where
 holds:Holds w gd L g h a
 gd:∀b,gd b→b<w.heap.size
 top:∀b,L.old b→b<w.heap.size
 own:∀id o b,h id=some o→L.blk id=some b→b<w.heap.size
def Caps (g:Nat→AVal) (h:Nat→Option AObj) (x y:AVal):Prop:=∀(w:World) (gd:Nat→Prop) (L:Lay) (a:Act) (v:Value),Begins w gd L g h a→RepA w L (fun b=>gd b∨L.old b) x v→RepA w (L0 w.heap.size) (fun b=>b<w.heap.size) y v
theorem capK_st {x:AVal} {k:AVal→Prop} (hk:capK h k x):∃y,k y∧Caps g h x y:=by
 have view:∀{x:AVal},viewK h k x→∃y,k y∧Caps g h x y:=by
  intro x hk
  obtain ⟨y,h1,h2,h3⟩:=viewK_st x k hk
  refine ⟨y,h1,fun w gd L a v B hv=>h3 w (fun b=>gd b∨L.old b) _ L _ v ?_ ?_ ?_ hv⟩
  ·exact fun id o ho=>(B.holds.obj id o ho).mono (Nat.le_refl _) (fun b _ hb=>⟨.inl hb,rfl⟩) (fun _ _=>rfl) (fun b _ hb=>⟨hb,rfl⟩) (fun _=>true) (fun _ _=>⟨rfl,rfl⟩) rfl (fun _ h=>by cases h)
  ·intro b hb
   rcases hb with hb|hb
   ·exact B.gd b hb
   ·exact B.top _ ‹_›
  ·exact fun id o b h1 h2=>⟨B.own id o b h1 h2,B.own id o b h1 h2⟩
 have direct:∀{x y:AVal},k y→(∀(w:World) (gd:Nat→Prop) (L:Lay) (a:Act) (v:Value),Begins w gd L g h a→capK h (· = y) x→RepA w L (fun b=>gd b∨L.old b) x v→RepA w (L0 w.heap.size) (fun b=>b<w.heap.size) y v)→capK h (· = y) x→∃y,k y∧Caps g h x y:=
  fun hk hr hc=>⟨_,hk,fun w gd L a v B hv=>hr w gd L a v B hc hv⟩
 have old:∀{x y:AVal} (w:World) (gd:Nat→Prop) (L:Lay) (a:Act) (v:Value),Begins w gd L g h a→capK h (· = y) x→RepA w L (fun b=>gd b∨L.old b) x v→RepA w (L0 w.heap.size) (fun b=>b<w.heap.size) y v:=by
  intro x y w gd L a v B hc hv
  obtain ⟨y',e,_,hr⟩:=capK_ok B.holds B.gd B.top B.own hc hv
  rw [←e];exact hr
 cases x with
 |ptr id off=>
  simp only [capK] at hk
  cases ho:h id with
  |none=>rw [ho] at hk;exact hk.elim
  |some ob=>
   rw [ho] at hk
   cases ob with
   |row=>exact hk.elim
   |mp=>exact hk.elim
   |vrow=>exact hk.elim
   |dmp=>exact hk.elim
   |box l tag=>
    simp only at hk
    obtain ⟨m,hm,hdat,hmlen,hmr⟩:=viewL_st l _ hk
    cases hu:unliftF m with
    |none=>rw [hu] at hm;exact hm.elim
    |some ds=>
     rw [hu] at hm
     have hl:=unliftF_eq hu
     refine ⟨_,hm,fun w gd L a v B hv=>?_⟩
     cases hv with
     | @ptr _ _ _ b hbk=>
      have hro:=B.holds.obj id _ ho
      cases hro with
      | @box _ tag cs t b' htag hb' hh hz h1 hr=>
       rw [hbk] at hb'
       cases hb'
       refine eptr_of hh (B.own id _ b ho hbk) (by rw [hz,←hmlen,hl];simp) (fun j x hx=>?_) off
       have:=hmr w gd (fun b=>b<w.heap.size) L (L0 w.heap.size) (fun i=>cs.getD i undef) B.holds.obj B.gd (fun id o b h1 h2=>⟨B.own id o b h1 h2,B.own id o b h1 h2⟩) hr j (.d x) (by rw [hl,List.getElem?_map,hx];rfl)
       cases this with
       |d h=>exact h
 |eptr a b c d e=>exact direct (y:=.eptr a b c d e) hk old rfl
 |any=>exact view hk
 |d x=>exact view hk
 |agg l=>exact view hk
 |tup l=>exact view hk
 |rsl=>exact view hk
 |rptr=>exact view hk
 |mref=>exact view hk
 |fn=>exact view hk
 |fresh=>exact view hk
theorem capL_st:∀{l:List AVal} {k:List AVal→Prop},capL h k l→∃m,k m∧m.length=l.length∧∀(w:World) (gd:Nat→Prop) (L:Lay) (a:Act) (vs:Nat→Value),Begins w gd L g h a→(∀(i:Nat) (x:AVal),l[i]? = some x→RepA w L (fun b=>gd b∨L.old b) x (vs i))→∀(i:Nat) (x:AVal),m[i]? = some x→RepA w (L0 w.heap.size) (fun b=>b<w.heap.size) x (vs i)
 | [],k,hk=>⟨[],hk,rfl,fun w gd L a vs _ _ i x hx=>by simp at hx⟩
 |x::r,k,hk=>by
  obtain ⟨y,h1,h2⟩:=capK_st (g:=g) hk
  obtain ⟨m,e1,e2,e3⟩:=capL_st h1
  refine ⟨y::m,e1,by simp [e2],fun w gd L a vs B hv i z hz=>?_⟩
  cases i with
  |zero=>simp only [List.getElem?_cons_zero,Option.some.injEq] at hz;subst hz;exact h2 w gd L a _ B (hv 0 x rfl)
  |succ i=>simp only [List.getElem?_cons_succ] at hz;exact e3 w gd L a (fun i=>vs (i+1)) B (fun i z hz=>hv (i+1) z hz) i z hz
theorem argV_st {x:AVal} {k:AVal→Bool→Prop} (hk:argV h k x):∃y b,k y b∧∀(w:World) (gd:Nat→Prop) (L:Lay) (a:Act) (v:Value),Begins w gd L g h a→RepA w L gd x v→∀b',(b'=true→b=true)→RepA w (L0 w.heap.size) (seen gd w b') y v:=by
 have plain:∀{x:AVal},(match x.pure with|true=>forceV (fun v=>k v true) x|false=>viewK h (fun v=>k v false) x)→∃y b,k y b∧∀(w:World) (gd:Nat→Prop) (L:Lay) (a:Act) (v:Value),Begins w gd L g h a→RepA w L gd x v→∀b',(b'=true→b=true)→RepA w (L0 w.heap.size) (seen gd w b') y v:=by
  intro x hk
  cases hp:x.pure with
  |true=>
   rw [hp] at hk
   refine ⟨x,true,forceV_eq (k:=fun v=>k v true) hk,fun w gd L a v B hv b' _=>?_⟩
   have hrep:=hv.enter hp
   cases b' with
   |true=>exact hrep
   |false=>exact hrep.mono1 (Nat.le_refl _) (fun b _ hb=>⟨B.gd b hb,rfl⟩) (fun _ _=>rfl)
  |false=>
   rw [hp] at hk
   obtain ⟨y,h1,h2,h3⟩:=viewK_st x _ hk
   refine ⟨y,false,h1,fun w gd L a v B hv b' hb'=>?_⟩
   cases b' with
   |true=>exact absurd (hb' rfl) (by decide)
   |false=>exact h3 w gd _ L _ v B.holds.obj B.gd (fun id o b h1 h2=>⟨B.own id o b h1 h2,B.own id o b h1 h2⟩) hv
 cases x with
 |fn f l=>
  simp only [argV] at hk
  split at hk
  ·exact ⟨.any,true,hk,fun w gd L a v B hv b' _=>.any⟩
  obtain ⟨m,h1,h2,h3⟩:=capL_st (g:=g) hk
  refine ⟨_,true,h1,fun w gd L a v B hv b' _=>?_⟩
  cases hv with
  | @fn _ _ _ vs hz hr=>
   exact .fn (by omega) fun i x hx=>(h3 w gd L a (fun i=>vs.getD i undef) B hr i x hx).mono1 (Nat.le_refl _) (fun b hlt _=>⟨.inr hlt,rfl⟩) (fun _ _=>rfl)
 |any=>exact plain hk
 |d x=>exact plain hk
 |agg l=>exact plain hk
 |tup l=>exact plain hk
 |ptr id off=>
  simp only [argV] at hk
  obtain ⟨y,h1,h3⟩:=capK_st (g:=g) hk
  refine ⟨y,false,h1,fun w gd L a v B hv b' hb'=>?_⟩
  cases b' with
  |true=>exact absurd (hb' rfl) (by decide)
  |false=>exact h3 w gd L a v B (hv.mono1 (Nat.le_refl _) (fun b _ hb=>⟨.inl hb,rfl⟩) (fun _ _=>rfl))
 |eptr=>exact plain hk
 |rsl=>exact plain hk
 |rptr=>exact plain hk
 |mref=>exact plain hk
 |fresh=>exact plain hk
theorem argK_st {caps:List AVal}:∀{as:List Operand} {k:List AVal→Bool→Prop},argK g h caps k as→∃l b,k l b∧l.length=as.length+caps.length∧
  ∀(w:World) (gd:Nat→Prop) (L:Lay) (a:Act) (cvs:Array Value),Begins w gd L g h a→cvs.size=caps.length→(∀(i:Nat) (x:AVal),caps[i]? = some x→RepA w L (fun b=>gd b∨L.old b) x (cvs.getD i undef))→
   ∀b',(b'=true→b=true)→∀(i:Nat) (x:AVal),l[i]? = some x→RepA w (L0 w.heap.size) (seen gd w b') x ((as.map a.eval++cvs.toList).getD i undef)
 | [],k,hk=>by
  obtain ⟨m,h1,h3,h4⟩:=capL_st (g:=g) hk
  refine ⟨m,_,h1,by simp;omega,fun w gd L a cvs B hcz hcr b' hb' i x hx=>?_⟩
  have hlt:i<caps.length:=by rw [←h3];exact (List.getElem?_eq_some_iff.1 hx).1
  cases b' with
  |true=>
   cases caps with
   |nil=>simp at hlt
   |cons=>exact absurd (hb' rfl) (by simp)
  |false=>
   have:=h4 w gd L a (fun i=>cvs.getD i undef) B hcr i x hx
   simpa [seen,Array.getD_eq_getD_getElem?,List.getD_eq_getElem?_getD] using this
 |x::r,k,hk=>by
  obtain ⟨y,b,h1,h2⟩:=argV_st (g:=g) hk
  obtain ⟨l,b2,e1,e2,e3⟩:=argK_st h1
  refine ⟨y::l,b&&b2,e1,by simp [e2];omega,fun w gd L a cvs B hcz hcr b' hb' i z hz=>?_⟩
  have hbb:b'=true→b=true∧b2=true:=fun h=>by simpa using hb' h
  cases i with
  |zero=>
   simp only [List.getElem?_cons_zero,Option.some.injEq] at hz
   subst hz
   exact h2 w gd L a _ B (B.holds.opnd x) b' (fun h=>(hbb h).1)
  |succ i=>
   simp only [List.getElem?_cons_succ] at hz
   simpa using e3 w gd L a cvs B hcz hcr b' (fun h=>(hbb h).2) i z hz
end
section
variable {C : Ctx} {T : Tys} {env : Env} {heap : Heap}
def Claims (C:Ctx) (rt:List Nat) (o:Oper) (env:Env) (heap:Heap) (k:Rc→Env→Heap→Prop):Prop:=
 ∃r env' heap',k r env' heap'∧r.rt=rt∧lk env'=r.g (lk env)∧lko heap'=r.h (lko heap)∧StepOk C o r (lk env) (lko heap)
theorem blt_lt {t n:Nat} (h:Nat.blt t n=true):t<n:=Nat.lt_of_succ_le (by simpa [Nat.blt] using h)
def wtOf (d:Option Tmp) (v:AVal):List (Nat×AVal):=match d with|some t=>[(t,v)]|none=>[]
theorem put_step {L:Lay} {g:Nat→AVal} {h:Nat→Option AObj} {a:Act} {w:World} (H:Rel C L g h a w) {d:Option Tmp} {rt rh:List Nat} {v:AVal} {u:Value} (hd:∀t,d=some t→t<C.nt) (hv:RepA w L (good C L h w) v u) {wt:List (Nat×AVal)} (hwt:wt=wtOf d v) :
  Rel C L (Rc.g ⟨rt,rh,wt,[],[]⟩ g) (Rc.h ⟨rt,rh,wt,[],[]⟩ h) (a.put d u) w:=by
 subst hwt
 cases d with
 |none=>exact H
 |some t=>unfold wtOf;rw [Rc.g_one,Rc.h_nil];exact H.put (hd t rfl) hv
theorem putD_claims {o:Oper} {d:Option Tmp} {v:AVal} {rt rh:List Nat} {k:Rc→Env→Heap→Prop} (hk:putD C.nt d v rt rh env heap k)
  (hs:∀g h,(∀t∈rt,g t=lk env t)→(∀i∈rh,h i=lko heap i)→∀L a w,Rel C L g h a w→∀(next:Act→World→Prop) (Q:Exit→Act→World→Prop),(∀u w',Rel C L g h a w'→RepA w' L (good C L h w') v u→next (a.put d u) w')→o.wp C.P a w next Q):Claims C rt o env heap k:=by
 unfold putD at hk
 cases d with
 |none=>
  refine ⟨_,env,heap,hk,rfl,rfl,rfl,fun g h ha L a w H next Q hn=>hs g h ha.t ha.o L a w H next Q fun u w' H' hv=>hn L _ w' H'⟩
 |some t=>
  simp only at hk
  cases hb:Nat.blt t C.nt with
  |false=>rw [hb] at hk;exact hk.elim
  |true=>
   rw [hb] at hk
   refine ⟨⟨rt,rh,[(t,v)],[],[]⟩,_,heap,forceV_eq (k:=fun v=>k ⟨rt,rh,[(t,v)],[],[]⟩ ((t,v)::env) heap) hk,rfl,by rw [lk_cons,Rc.g_one],rfl,fun g h ha L a w H next Q hn=>hs g h ha.t ha.o L a w H next Q fun u w' H' hv=>hn L _ w' ?_⟩
   rw [Rc.g_one,Rc.h_nil]
   exact H'.put (blt_lt hb) hv
theorem setD_claims {o:Oper} {d:Option Tmp} {id:Nat} {ob:AObj} {rt rh:List Nat} {k:Rc→Env→Heap→Prop} (hk:setD C.nt d id ob rt rh env heap k)
  (hs:∀g h,(∀t∈rt,g t=lk env t)→(∀i∈rh,h i=lko heap i)→∀L a w,Rel C L g h a w→(∃o0,h id=some o0)∧WritesOk C.P w (good C L h w) L a o id ob) (hdst:o.dst=d):Claims C rt o env heap k:=by
 unfold setD at hk
 cases hso:setO id ob heap with
 |none=>rw [hso] at hk;exact hk.elim
 |some h'=>
  rw [hso] at hk
  simp only at hk
  have step:∀{wt:List (Nat×AVal)},(wt=match d with|some t=>[(t,.any)]|none=>[])→(∀t,d=some t→t<C.nt)→StepOk C o ⟨rt,id::rh,wt,[(id,some ob)],[]⟩ (lk env) (lko heap):=by
   intro wt hwt hd g h ha L a w H next Q hn
   obtain ⟨⟨o0,ho0⟩,b,w',r1,r2,r3,r4,r5,r6,r7,r8⟩:=hs g h ha.t (fun i hi=>ha.o i (by simp [hi])) L a w H
   have hset:=H.set ho0 r1 r3 r4 r5 r6 r7 r8
   unfold Oper.wp
   rcases r2 with r2|⟨u,r2⟩
   ·rw [r2,Oper.upon_skip,hdst]
    refine hn L _ w' ?_
    rw [Rc.h_one]
    subst hwt
    cases d with
    |none=>exact hset
    |some t=>rw [Rc.g_one];exact hset.put (hd t rfl) .any
   ·rw [r2,Oper.upon_value,hdst]
    refine hn L _ w' ?_
    rw [Rc.h_one]
    subst hwt
    cases d with
    |none=>exact hset
    |some t=>rw [Rc.g_one];exact hset.put (hd t rfl) .any
  cases d with
  |none=>exact ⟨_,env,h',hk,rfl,rfl,by rw [Rc.h_one,lko_set hso],step rfl (fun t h=>by cases h)⟩
  |some t=>
   simp only at hk
   cases hb:Nat.blt t C.nt with
   |false=>rw [hb] at hk;exact hk.elim
   |true=>
    rw [hb] at hk
    exact ⟨_,_,h',hk,rfl,by rw [lk_cons,Rc.g_one],by rw [Rc.h_one,lko_set hso],step rfl (fun t' h=>by cases h;exact blt_lt hb)⟩
theorem newD_claims {o:Oper} {d:Option Tmp} {ob:AObj} {v:Nat→AVal} {rt rh:List Nat} {k:Rc→Env→Heap→Prop} (hk:newD C.nt d ob v rt rh env heap k)
  (hs:∀g h,(∀t∈rt,g t=lk env t)→(∀i∈rh,h i=lko heap i)→∀L a w,Rel C L g h a w→∀t,d=some t→(∀s,(g s).free t=true)→∀(next:Act→World→Prop) (Q:Exit→Act→World→Prop),
   (∀u w' nb nc,Below w.heap.size w w'→(∀b,nb=some b→w.heap.size≤b∧b<w'.heap.size)→RepO w' (good C (L.upd t nb nc) (hput h t ob) w') (L.upd t nb nc) t ob∧RepA w' (L.upd t nb nc) (good C (L.upd t nb nc) (hput h t ob) w') (v t) u→next (a.put d u) w')→o.wp C.P a w next Q):Claims C rt o env heap k:=by
 unfold newD at hk
 cases d with
 |none=>exact hk.elim
 |some t=>
  simp only at hk
  cases hb:Nat.blt t C.nt with
  |false=>rw [hb] at hk;exact hk.elim
  |true=>
   rw [hb] at hk
   simp only at hk
   cases hl:lookO t heap with
   |some _=>rw [hl] at hk;exact hk.elim
   |none=>
    rw [hl] at hk
    refine ⟨_,_,_,hk,rfl,by rw [lk_cons,Rc.g_one],by rw [lko_cons,Rc.h_one],fun g h ha L a w H next Q hn=>?_⟩
    have hft:=ha.ft t (by simp)
    have hfo:=ha.fo t (by simp)
    refine hs g h ha.t ha.o L a w H t rfl hft next Q fun u w' nb nc h1 h2 h3=>hn (L.upd t nb nc) _ w' ?_
    rw [Rc.g_one,Rc.h_one]
    exact (H.new (H.lid_slot (blt_lt hb)) hft hfo h1 nb nc h2 h3.1).put (blt_lt hb) h3.2
theorem lendD_claims {rt rh:List Nat} {o:Oper} {k:Rc→Env→Heap→Prop} {f:Operand} {as:Array Operand} {ts:Array TypeId} {fid:FuncId} {caps l:List AVal} {p:List Nat} (hop:o.op=.call { callee:=.value f,args:=as,argTypes:=ts}) (e:opnd (restrict rt fun t=>look t env) f=.fn fid caps)
  (hlen:l.length=(as.toList.map (opnd (restrict rt fun t=>look t env))).length)
  (hargs:∀(C:Ctx) (L:Lay) (g:Nat→AVal) (h0:Nat→Option AObj) (a:Act) (w:World),Rel C L g h0 a w→(∀i o,restrictH rh (fun i=>lookO i heap) i=some o→h0 i=some o)→∀(i:Nat) (x y:AVal) (v:Value),(as.toList.map (opnd (restrict rt fun t=>look t env)))[i]? = some x→l[i]? = some y→RepA w L (good C L h0 w) x v→RepA w L (good C L (fun j=>if memN j p=true then none else h0 j) w) y v)
  (hk:ALendD C.P C.nt o.dst rt rh env (dropH p heap) k fid (l++capsN caps) p):Claims C rt o env heap k:=by
 unfold ALendD at hk
 have hk:=forceN_eq hk
 generalize reach 500 (fun i=>lookO i (dropH p heap)) (l++capsN caps) []=S at hk
 cases hn:nodupN S with
 |false=>rw [hn] at hk;exact hk.elim
 |true=>
  rw [hn] at hk
  simp only at hk
  cases ha:allIn (fun i=>lookO i (dropH p heap)) S with
  |false=>rw [ha] at hk;exact hk.elim
  |true=>
   rw [ha] at hk
   simp only at hk
   obtain ⟨r,hl',hs,hb⟩:=deepH_eq (deepL_eq hk)
   rw [AVal.mapL_eq] at hs
   obtain ⟨⟨fn,c,e1,e2,e3⟩,_⟩:=id hs
   unfold ABackD at hb
   have hb:=forceN_eq hb
   generalize newBase env o.dst=nb at hb
   generalize hfr:firsts (newOf (sigI S lentBase) hl' nb)=fr at hb
   cases hlt:ltAll fr with
   |false=>rw [hlt] at hb;exact hb.elim
   |true=>
    rw [hlt] at hb
    simp only at hb
    have hb:=deepH_eq (deepV_eq hb)
    have hb:=forceH_eq hb
    generalize hhm:mapH (tauOf (sigI S lentBase) hl' nb) hl'=hm at hb
    have hSin:∀i,i∈S→∃ob,lookO i heap=some ob∧memN i p=false:=by
     intro i hi
     obtain ⟨ob,h1⟩:=allIn_ok ha i hi
     rw [lookO_dropH] at h1
     obtain ⟨h2,h3⟩:=dropped_some (h0:=fun i=>lookO i heap) h1
     exact ⟨ob,h2,h3⟩
    have heq:lko (hm++dropH S (dropH p heap))=fun i=>match lookW i (whOf hm (S++p)) with|some v=>v|none=>lko heap i:=by
     funext i
     show lookO i _=_
     rw [lookO_app_eq,lookW_whOf,lookO_dropH,lookO_dropH]
     cases lookO i hm with
     |some ob=>rfl
     |none=>
      have:memN i (S++p)=(memN i S ||memN i p):=by
       cases h1:memN i (S++p) with
       |true=>
        have:=List.mem_append.1 (memN_of.1 h1)
        rcases this with h|h
        ·rw [memN_of.2 h];rfl
        ·rw [memN_of.2 h];simp
       |false=>
        cases h2:memN i S with
        |true=>rw [memN_of.2 (List.mem_append_left p (memN_of.1 h2))] at h1;cases h1
        |false=>
         cases h3:memN i p with
         |true=>rw [memN_of.2 (List.mem_append_right S (memN_of.1 h3))] at h1;cases h1
         |false=>rfl
      simp only [this]
      cases memN i S<;>cases memN i p<;>rfl
    have step:∀(wt:List (Nat×AVal)) (g:Nat→AVal) (h:Nat→Option AObj),Agrees ⟨rt,S++p++rh,wt,whOf hm (S++p),fr⟩ (lk env) (lko heap) g h→∀L a w,Rel C L g h a w→∀(next:Act→World→Prop) (Q:Exit→Act→World→Prop),
      (∀L' v w',Rel C L' g (Rc.h ⟨rt,S++p++rh,wt,whOf hm (S++p),fr⟩ h) a w'→RepA w' L' (good C L' (Rc.h ⟨rt,S++p++rh,wt,whOf hm (S++p),fr⟩ h) w') (r.map (tauOf (sigI S lentBase) hl' nb)) v→next (a.put o.dst v) w')→o.wp C.P a w next Q:=by
     intro wt g h hag L a w H next Q hnext
     have h1:∀t∈rt,g t=lk env t:=hag.t
     have h2:∀i∈rh,h i=lko heap i:=fun i hi=>hag.o i (by simp [hi])
     have hS:∀i,i∈S→h i=lko heap i:=fun i hi=>hag.o i (by simp [hi])
     have hsub:∀i ob,(if memN i p=true then none else h i)=some ob→h i=some ob:=fun i ob e=>(dropped_some e).1
     have H1:=H.drop hsub
     have hL:Lends (fun j=>if memN j p=true then none else h j) (sig S lentBase) (sigI S lentBase) (pickH (sig S lentBase) (fun i=>lookO i (dropH p heap)) S lentBase):=
      lends_of' hn ha fun i hi=>by
       rw [lookO_dropH,hS i hi]
     have hr:restrict rt g=restrict rt (lk env):=restrict_eq h1
     have hf:=(H.holds.restrict rt rh).opnd f
     have e':opnd (restrict rt g) f=.fn fid caps:=by rw [hr];exact e
     rw [e'] at hf
     generalize hfv:a.eval f=fv at hf
     cases hf with
     | @fn _ _ _ cvs hcz hcr=>
      have hlen':l.length=as.size:=by rw [hlen];simp
      have hcalls:=H1.lend hL hs (vs:=as.map a.eval++cvs) (by rw [Array.size_append,List.length_append,capsN_len,Array.size_map];omega) (fun i y hy=>by
       by_cases hi:i<l.length
       ·rw [List.getElem?_append_left hi] at hy
        have hi':i<as.size:=by omega
        have hx:(as.toList.map (opnd (restrict rt fun t=>look t env)))[i]? = some (opnd (restrict rt (lk env)) as[i]):=by simp [hi']
        have:=hargs C L g h a w H (fun i ob e=>by
         have hm':i∈rh:=by
          unfold restrictH at e
          cases hq:memN i rh with
          |true=>exact memN_of.1 hq
          |false=>rw [hq] at e;cases e
         rw [h2 i hm'];exact restrictH_some e) i _ y (a.eval as[i]) hx hy (by rw [←hr];exact (H.holds.restrict rt rh).opnd _)
        rw [Array.getD_eq_getD_getElem?,Array.getElem?_append_left (by simpa using hi'),Array.getElem?_map,Array.getElem?_eq_getElem hi']
        exact this
       ·rw [List.getElem?_append_right (by omega)] at hy
        obtain ⟨x,hx,hr⟩:=capsN_get hy
        have:=hr w L _ (good C L (fun j=>if memN j p=true then none else h j) w) _ (hcr _ x hx)
        rw [Array.getD_eq_getD_getElem?,Array.getElem?_append_right (by simp;omega)]
        rw [Array.getD_eq_getD_getElem?,hlen'] at this
        simpa using this)
      have hname : fn.name ≠ "runtime.NumGoroutine" := by simpa using e2
      have hrun:(execOp a.eval o).run C.P w=.ok (.enter fid (as.map a.eval++cvs)) w:=by
       simp [execOp,hop,resolve,hfv,Deferred.ofValue,invoke,callFunc,e1,hname,e3]
      unfold Oper.wp
      rw [hrun,Oper.upon_enter]
      refine hcalls.mono ?_
      rintro ee w' ⟨v,r',hl'',L',rfl,⟨rfl,rfl⟩,hlp,hrep⟩
      have hfrm:∀{i j},lookW i (newOf (sigI S lentBase) hl'' nb)=some j→i∈fr:=fun h=>by rw [←hfr];exact firsts_mem h
      obtain ⟨hrel,hres⟩:=H1.back hL hlp (τ:=tauOf (sigI S lentBase) hl'' nb) (τn:=newOf (sigI S lentBase) hl'' nb) (h':=Rc.h ⟨rt,S++p++rh,wt,whOf hm (S++p),fr⟩ h)
       (fun j i hji=>by
        rcases tauOf_ok hji with ⟨k1,k2⟩|k1
        ·left
         refine ⟨k1,k2,?_⟩
         cases hn':lookW i (newOf (sigI S lentBase) hl'' nb) with
         |none=>rfl
         |some j'=>
          have hm':=(sigI_mem k1).1
          obtain ⟨ob,q1,_⟩:=hSin i hm'
          have:=(hag.fo i (hfrm hn') i ob (by rw [hS i hm'];exact q1)).1
          exact absurd rfl this
        ·right;exact k1)
       (fun i j hij=>by
        have hi:=hfrm hij
        refine ⟨fun hl=>?_,hag.ft i hi,fun q ob hq _=>hag.fo i hi q ob (hsub q ob hq)⟩
        have:=(H.lidn i hl).1
        have:=ltAll_ok hlt i hi
        omega)
       (fun i ob ho=>by
        unfold Rc.h at ho
        simp only [lookW_whOf] at ho
        cases hq:lookO i hm with
        |some o1=>
         rw [hq] at ho
         simp only [Option.some.injEq] at ho
         subst ho
         rw [←hhm] at hq
         left;exact mapH_from hq
        |none=>
         rw [hq] at ho
         simp only at ho
         cases hq2:memN i (S++p) with
         |true=>rw [hq2] at ho;simp at ho
         |false=>
          rw [hq2] at ho
          simp at ho
          right
          have hn1:memN i p=false:=by
           cases hq3:memN i p with
           |false=>rfl
           |true=>rw [memN_of.2 (List.mem_append_right S (memN_of.1 hq3))] at hq2;cases hq2
          refine ⟨by simp [hn1,ho],?_⟩
          cases hs':lookW i (sig S lentBase) with
          |none=>rfl
          |some j=>rw [memN_of.2 (List.mem_append_left p (sig_ge hs').2)] at hq2;cases hq2)
      exact hnext _ v w' hrel (hres _ v hrep)
    cases hd:o.dst with
    |none=>
     rw [hd] at hb
     exact ⟨_,_,_,hb,rfl,rfl,heq,fun g h hag L a w H next Q hnx=>step _ g h hag L a w H next Q fun L' v w' hrel hrep=>hnx L' _ w' (by rw [hd];exact hrel)⟩
    |some t=>
     rw [hd] at hb
     simp only at hb
     cases hbl:Nat.blt t C.nt with
     |false=>rw [hbl] at hb;exact hb.elim
     |true=>
      rw [hbl] at hb
      simp only at hb
      refine ⟨_,_,_,hb,rfl,by rw [lk_cons,Rc.g_one],heq,fun g h hag L a w H next Q hnx=>step _ g h hag L a w H next Q fun L' v w' hrel hrep=>hnx L' _ w' ?_⟩
      rw [Rc.g_one,hd]
      exact hrel.put (blt_lt hbl) hrep
theorem AStepD_ok (hT:TysOk C.P T) {rt rh:List Nat} {o:Oper} {k:Rc→Env→Heap→Prop} (hk:AStepD C.P T C.nt rt rh o env heap k):Claims C rt o env heap k:=by
 have tail:∀{r:AVal} {b:Bool},putRD C.nt o.dst b rt rh env heap k r→(∀g h,(∀t∈rt,g t=lk env t)→(∀i∈rh,h i=lko heap i)→∀L a w,Rel C L g h a w→∀(next:Act→World→Prop) (Q:Exit→Act→World→Prop),
   (∀v w',Below w.heap.size w w'→RepR w w' (seen (good C L h w) w b) r v→next (a.put o.dst v) w')→o.wp C.P a w next Q)→Claims C rt o env heap k:=by
  intro r b hpt run
  have newgood:∀{g h L a w w'},Rel C L g h a w→Below w.heap.size w w'→∀b,w.heap.size≤b→b<w'.heap.size→good C L h w' b:=fun H hbel b hb1 hb2=>⟨hb2,.inr (.inl (Nat.le_trans H.below.size hb1)),fun ⟨id,ob,h1,h2⟩=>by have:=(H.own0 id ob b h1 h2).2;omega⟩
  have plain:∀{r:AVal},(match (generalizing:=false) b with|true=>putD C.nt o.dst r rt rh env heap k|false=>match r.flat with|true=>putD C.nt o.dst r rt rh env heap k|false=>False)→
    (∀g h,(∀t∈rt,g t=lk env t)→(∀i∈rh,h i=lko heap i)→∀L a w,Rel C L g h a w→∀(next:Act→World→Prop) (Q:Exit→Act→World→Prop),
    (∀v w',Below w.heap.size w w'→r.data=true∧RepA w' (L0 w.heap.size) (fun b'=>seen (good C L h w) w b b'∨(w.heap.size≤b'∧b'<w'.heap.size)) r v→next (a.put o.dst v) w')→o.wp C.P a w next Q)→Claims C rt o env heap k:=by
   intro r hpt run
   have fin:putD C.nt o.dst r rt rh env heap k→(b=true∨r.flat=true)→Claims C rt o env heap k:=by
    intro hpt hb
    refine putD_claims hpt fun g h h1 h2 L a w H next Q hn=>run g h h1 h2 L a w H next Q fun v w' hbel ⟨hd,hrep⟩=>hn v w' (H.world (hbel.mono H.below.size) (fun b hb=>hbel.block b hb)) ?_
    rcases hb with hb|hb
    ·subst hb
     exact hrep.data (Nat.le_refl _) hd fun b' _ hb=>⟨by
      rcases hb with hb|⟨hb1,hb2⟩
      ·exact ⟨Nat.lt_of_lt_of_le hb.1 hbel.size,hb.2⟩
      ·exact newgood H hbel b' hb1 hb2,rfl⟩
    ·exact hrep.flat hb
   cases b with
   |true=>exact fin hpt (.inl rfl)
   |false=>
    simp only at hpt
    cases hf:r.flat with
    |false=>rw [hf] at hpt;exact hpt.elim
    |true=>rw [hf] at hpt;exact fin hpt (.inr hf)
  unfold putRD at hpt
  cases r with
  |fresh t sz n f=>
   simp only at hpt
   cases b with
   |false=>exact hpt.elim
   |true=>
    simp only at hpt
    cases hbt:Nat.blt t markT with
    |false=>rw [hbt] at hpt;exact hpt.elim
    |true=>
    rw [hbt] at hpt
    refine newD_claims hpt fun g h h1 h2 L a w H t' hd hft next Q hn=>run g h h1 h2 L a w H next Q fun v w' hbel hrep=>?_
    obtain ⟨xs,hown,hf,hr⟩:=hrep
    refine hn v w' v.ownBlock (capOf v) hbel (fun b hb=>⟨(hown.lt b hb).1,(hown.lt b hb).2⟩) ?_
    refine row_of_own hown hf (fun k hk j x hx=>(hr k hk j x hx).mono (Nat.le_refl _) fun b hlt hb=>⟨?_,rfl⟩) L t' (Nat.le_of_ble_eq_true hbt)
    obtain ⟨hb1,hb2⟩:=hb
    have hgb:good C L h w' b:=by
     rcases hb1 with hb|⟨hb1,hb3⟩
     ·exact ⟨Nat.lt_of_lt_of_le hb.1 hbel.size,hb.2⟩
     ·exact newgood H hbel b hb1 hb3
    refine ⟨hgb.1,hgb.2.1,?_⟩
    rintro ⟨i,oi,h1,h2⟩
    unfold hput at h1
    split at h1
    ·rename_i hi
     simp only [Lay.upd,hi,if_true] at h2
     exact hb2 h2
    ·rename_i hi
     simp only [Lay.upd,hi,if_false] at h2
     exact hgb.2.2 ⟨i,oi,h1,h2⟩
  |any=>exact plain (r:=.any) hpt run
  |d x=>exact plain (r:=.d x) hpt run
  |agg l=>exact plain (r:=.agg l) hpt run
  |tup l=>exact plain (r:=.tup l) hpt run
  |fn f l=>exact plain (r:=.fn f l) hpt run
  |eptr a1 a2 a3 a4 a5=>exact plain (r:=.eptr a1 a2 a3 a4 a5) hpt run
  |ptr a1 a2=>exact plain (r:=.ptr a1 a2) hpt run
  |rsl a1 a2 a3 a4=>exact plain (r:=.rsl a1 a2 a3 a4) hpt run
  |rptr a1 a2 a3 a4=>exact plain (r:=.rptr a1 a2 a3 a4) hpt run
  |mref a1=>exact plain (r:=.mref a1) hpt run
 have fin:AResD C.nt o.dst rt rh env heap k (aop T (restrict rt (lk env)) (restrictH rh (lko heap)) o.op)→Claims C rt o env heap k:=by
  intro ares
  cases hr:aop T (restrict rt (lk env)) (restrictH rh (lko heap)) o.op with
  |none=>rw [hr] at ares;exact ares.elim
  |some r=>
   rw [hr] at ares
   have hok:∀g h,(∀t∈rt,g t=lk env t)→(∀i∈rh,h i=lko heap i)→∀L a w,Rel C L g h a w→r.Ok C.P w (good C L h w) L (restrict rt g) (restrictH rh h) a o:=by
    intro g h h1 h2 L a w H
    refine aop_ok hT (H.holds.restrict rt rh) ?_
    rw [restrict_eq h1,restrictH_eq h2]
    exact hr
   have free_restrict:∀{g:Nat→AVal} {d:Nat},(∀s,(g s).free d=true)→∀s,(restrict rt g s).free d=true:=by
    intro g d hf s
    unfold restrict
    cases memN s rt with
    |true=>exact hf s
    |false=>rfl
   have vals:∀{v:AVal},putD C.nt o.dst v rt rh env heap k→(∀g h,(∀t∈rt,g t=lk env t)→(∀i∈rh,h i=lko heap i)→∀L a w,Rel C L g h a w→∃u,(execOp a.eval o).run C.P w=.ok (.value u) w∧RepA w L (good C L h w) v u)→Claims C rt o env heap k:=by
    intro v hk hv
    refine putD_claims hk fun g h h1 h2 L a w H next Q hn=>?_
    obtain ⟨u,e1,e2⟩:=hv g h h1 h2 L a w H
    unfold Oper.wp
    rw [e1,Oper.upon_value]
    exact hn u w H e2
   have news:∀{ob:AObj} {v:Nat→AVal},newD C.nt o.dst ob v rt rh env heap k→(∀g h,(∀t∈rt,g t=lk env t)→(∀i∈rh,h i=lko heap i)→∀L a w,Rel C L g h a w→∀d,o.dst=some d→(∀s,(g s).free d=true)→MakesOk C.P w (good C L h w) L a o d (v d) ob)→Claims C rt o env heap k:=by
    intro ob v hk hv
    refine newD_claims hk fun g h h1 h2 L a w H t hd hft next Q hn=>?_
    obtain ⟨w',nb,nc,u,r1,r2,r3,r4⟩:=hv g h h1 h2 L a w H t hd hft
    unfold Oper.wp
    rw [r1,Oper.upon_value]
    exact hn u w' nb nc r2 r3 (r4 _ (stays_new (C:=C) (L:=L) (h:=h) (id:=t) (nb:=nb) (nc:=nc) r2 r3 ob) (H.new_good (nb:=nb) (nc:=nc)))
   cases r with
   |val v=>exact vals ares (fun g h h1 h2 L a w H=>hok g h h1 h2 L a w H)
   |cond v c=>exact vals ares.2 (fun g h h1 h2 L a w H=>hok g h h1 h2 L a w H ares.1)
   |new ob=>exact news ares (fun g h h1 h2 L a w H d _ hf=>hok g h h1 h2 L a w H d (free_restrict hf))
   |newv ob v c=>
    cases c with
    |none=>exact news ares (fun g h h1 h2 L a w H d _ hf=>hok g h h1 h2 L a w H (fun q hq=>by cases hq) d (free_restrict hf))
    |some c=>exact news ares.2 (fun g h h1 h2 L a w H d _ hf=>hok g h h1 h2 L a w H (fun q hq=>by cases hq;exact ares.1) d (free_restrict hf))
   |set id ob=>
    refine setD_claims ares (fun g h h1 h2 L a w H=>?_) rfl
    obtain ⟨⟨o0,ho0⟩,hw⟩:=hok g h h1 h2 L a w H
    exact ⟨⟨o0,restrictH_some ho0⟩,hw⟩
   |setc id ob c=>
    refine setD_claims ares.2 (fun g h h1 h2 L a w H=>?_) rfl
    obtain ⟨⟨o0,ho0⟩,hw⟩:=hok g h h1 h2 L a w H
    exact ⟨⟨o0,restrictH_some ho0⟩,hw ares.1⟩
   |mkrow t sz n f c=>
    cases c with
    |none=>exact news ares (fun g h h1 h2 L a w H d _ _=>hok g h h1 h2 L a w H (fun q hq=>by cases hq) d)
    |some c=>exact news ares.2 (fun g h h1 h2 L a w H d _ _=>hok g h h1 h2 L a w H (fun q hq=>by cases hq;exact ares.1) d)
   |ndb c=>exact ares.elim
   |pub id v=>exact ares.elim
   |str c=>
    obtain ⟨l,hc,hk⟩:=ares
    exact vals hk (fun g h h1 h2 L a w H=>hok g h h1 h2 L a w H l hc)
   |app old t sz n f c=>
    obtain ⟨hc,hk⟩:=ares
    unfold appD at hk
    cases hd:o.dst with
    |none=>rw [hd] at hk;exact hk.elim
    |some t'=>
     rw [hd] at hk
     simp only at hk
     cases hb:Nat.blt t' C.nt with
     |false=>rw [hb] at hk;exact hk.elim
     |true=>
      rw [hb] at hk
      simp only at hk
      cases hbo:Nat.beq t' old with
      |true=>rw [hbo] at hk;exact hk.elim
      |false=>
       rw [hbo] at hk
       simp only at hk
       have hne:t'≠old:=fun e=>by subst e;rw [beq_self] at hbo;cases hbo
       cases hl:lookO t' heap with
       |some _=>rw [hl] at hk;exact hk.elim
       |none=>
        rw [hl] at hk
        have hk:=forceH_eq hk
        refine ⟨_,_,_,hk,rfl,by rw [lk_cons,Rc.g_one],?_,fun g h ha L a w H next Q hn=>?_⟩
        ·rw [lko_cons,lko_rem,Rc.h_two];rfl
        ·have hft:=ha.ft t' (by simp)
         have hfo:=ha.fo t' (by simp)
         obtain ⟨⟨t0,sz0,n0,f0,hold⟩,hmv⟩:=hok g h ha.t (fun i hi=>ha.o i (by simp [hi])) L a w H
         have hold:=restrictH_some hold
         obtain ⟨w',nb,nc,u,r1,r2,r3,r4,r5,r6,r7,r8⟩:=hmv hc (fun b hb hg=>hg.2.2 ⟨old,_,hold,hb⟩)
         obtain ⟨hsw,hst⟩:=H.swap (d:=t') (o:=.row t sz n f) (H.lid_slot (blt_lt hb)) hne hold hft hfo r2 r3 r4 r5 r6 nb nc r7 (fun gd' hst=>(r8 t' gd' hst).1)
         have hu:=(r8 t' _ hst).2
         unfold Oper.wp
         rw [r1,Oper.upon_value,hd]
         refine hn (L.upd t' nb nc) _ w' ?_
         rw [Rc.g_one,Rc.h_two]
         exact hsw.put (blt_lt hb) hu
   |appv old t cells c=>
    obtain ⟨hc,hk⟩:=ares
    obtain ⟨tf,hdf,hfr,hk⟩:=chkV_ok hk
    unfold appD at hk
    cases hd:o.dst with
    |none=>rw [hd] at hk;exact hk.elim
    |some t'=>
     obtain rfl:tf=t':=Option.some.inj (hdf.symm.trans hd)
     rw [hd] at hk
     simp only at hk
     cases hb:Nat.blt tf C.nt with
     |false=>rw [hb] at hk;exact hk.elim
     |true=>
      rw [hb] at hk
      simp only at hk
      cases hbo:Nat.beq tf old with
      |true=>rw [hbo] at hk;exact hk.elim
      |false=>
       rw [hbo] at hk
       simp only at hk
       have hne:tf≠old:=fun e=>by subst e;rw [beq_self] at hbo;cases hbo
       cases hl:lookO tf heap with
       |some _=>rw [hl] at hk;exact hk.elim
       |none=>
        rw [hl] at hk
        have hk:=forceH_eq hk
        refine ⟨_,_,_,hk,rfl,by rw [lk_cons,Rc.g_one],?_,fun g h ha L a w H next Q hn=>?_⟩
        ·rw [lko_cons,lko_rem,Rc.h_two];rfl
        ·have hft:=ha.ft tf (by simp)
         have hfo:=ha.fo tf (by simp)
         obtain ⟨⟨t0,c0,hold⟩,hmv⟩:=hok g h ha.t (fun i hi=>ha.o i (by simp [hi])) L a w H
         have hold:=restrictH_some hold
         obtain ⟨w',nb,nc,u,r1,r2,r3,r4,r5,r6,r7,r8⟩:=hmv hc (fun b hb hg=>hg.2.2 ⟨old,_,hold,hb⟩)
         obtain ⟨hsw,hst⟩:=H.swap (d:=tf) (o:=.vrow t cells) (H.lid_slot (blt_lt hb)) hne hold hft hfo r2 r3 r4 r5 r6 nb nc r7 (fun gd' hst=>(r8 tf gd' hfr hst fun b hb=>r6 b (H.old_lt hb) (fun e=>H.old_own hb hold e.symm)).1)
         have hu:=(r8 tf _ hfr hst fun b hb=>r6 b (H.old_lt hb) (fun e=>H.old_own hb hold e.symm)).2
         unfold Oper.wp
         rw [r1,Oper.upon_value,hd]
         refine hn (L.upd tf nb nc) _ w' ?_
         rw [Rc.g_one,Rc.h_two]
         exact hsw.put (blt_lt hb) hu
   |mget ky l z ok=>
    obtain ⟨f,hf,hk⟩:=ares
    exact vals hk (fun g h h1 h2 L a w H=>hok g h h1 h2 L a w H f hf)
   |mput id ky x l=>
    obtain ⟨f,hf,l',rfl,hk⟩:=ares
    refine setD_claims hk (fun g h h1 h2 L a w H=>?_) rfl
    obtain ⟨⟨o0,ho0⟩,hw⟩:=hok g h h1 h2 L a w H
    exact ⟨⟨o0,restrictH_some ho0⟩,hw f hf⟩
   |mdel id ky l=>
    obtain ⟨f,hf,l',rfl,hk⟩:=ares
    refine setD_claims hk (fun g h h1 h2 L a w H=>?_) rfl
    obtain ⟨⟨o0,ho0⟩,hw⟩:=hok g h h1 h2 L a w H
    exact ⟨⟨o0,restrictH_some ho0⟩,hw f hf⟩
   |mkv t cells c=>
    obtain ⟨hc,hk⟩:=ares
    obtain ⟨tf,hdf,hfr,hk⟩:=chkV_ok hk
    exact news hk (fun g h h1 h2 L a w H d hd _=>hok g h h1 h2 L a w H hc d (by obtain rfl:tf=d:=Option.some.inj (hdf.symm.trans hd);exact hfr))
 unfold AStepD at hk
 split at hk
 ·rename_i f as ts hop
  split at hk
  ·split at hk
   ·rename_i fid caps e
    obtain ⟨l,p,hk,hlen,_,hargs⟩:=lendK_st hk
    have hk:=forceH_eq hk
    exact lendD_claims hop e hlen hargs hk
   ·exact hk.elim
  split at hk
  ·rename_i fid caps e
   obtain ⟨l,b,⟨r,⟨⟨fn,c,e1,e2,e3⟩,hcalls⟩,hpt⟩,hl,hargs⟩:=argK_st hk
   have hname : fn.name ≠ "runtime.NumGoroutine" := by simpa using e2
   have run:∀g h,(∀t∈rt,g t=lk env t)→(∀i∈rh,h i=lko heap i)→∀L a w,Rel C L g h a w→∀(next:Act→World→Prop) (Q:Exit→Act→World→Prop),
     (∀v w',Below w.heap.size w w'→RepR w w' (seen (good C L h w) w b) r v→next (a.put o.dst v) w')→o.wp C.P a w next Q:=by
    intro g h h1 h2 L a w H next Q hn
    have hH:Holds w (good C L h w) L (restrict rt (lk env)) (restrictH rh (lko heap)) a:=by
     rw [←restrict_eq h1,←restrictH_eq h2]
     exact H.holds.restrict rt rh
    have hf:=hH.opnd f
    have e':opnd (restrict rt (lk env)) f=.fn fid caps:=e
    rw [e'] at hf
    generalize hfv:a.eval f=fv at hf
    cases hf with
    | @fn _ _ _ cvs hcz hcr=>
     have hrun:(execOp a.eval o).run C.P w=.ok (.enter fid (as.map a.eval++cvs)) w:=by
      simp [execOp,hop,resolve,hfv,Deferred.ofValue,invoke,callFunc,e1,hname,e3]
     unfold Oper.wp
     rw [hrun,Oper.upon_enter]
     have hR:∀b',seen (good C L h w) w b b'→b'<w.heap.size:=by
      intro b' hb'
      cases b with
      |true=>exact hb'.1
      |false=>exact hb'
     have B:Begins w (good C L h w) L (restrict rt (lk env)) (restrictH rh (lko heap)) a:=⟨hH,fun b hb=>hb.1,fun b hb=>H.old_lt hb,fun id o b e1 e2=>(H.own0 id o b (by rw [←restrictH_eq h2] at e1;exact restrictH_some e1) e2).2⟩
     refine (hcalls w (seen (good C L h w) w b) (as.map a.eval++cvs) (H.goodW.seen b) hR (by simp [hl,hcz]) (fun i x hx=>by
      have:=hargs w _ L a cvs B hcz hcr b id i x hx
      simpa [Array.getD_eq_getD_getElem?,List.getD_eq_getElem?_getD,Array.getElem?_append,List.getElem?_append] using this)).mono ?_
     rintro e' w' ⟨v,r',rfl,hr,hbel,hrep⟩
     subst hr
     exact hn v w' hbel hrep
   exact tail hpt run
  ·rename_i fid n ds e
   obtain ⟨l,b,⟨r,⟨⟨fn,c,e1,e2,e3⟩,hcalls⟩,hpt⟩,hl,hargs⟩:=argK_st hk
   have hname : fn.name ≠ "runtime.NumGoroutine" := by simpa using e2
   have run:∀g h,(∀t∈rt,g t=lk env t)→(∀i∈rh,h i=lko heap i)→∀L a w,Rel C L g h a w→∀(next:Act→World→Prop) (Q:Exit→Act→World→Prop),
     (∀v w',Below w.heap.size w w'→RepR w w' (seen (good C L h w) w b) r v→next (a.put o.dst v) w')→o.wp C.P a w next Q:=by
    intro g h h1 h2 L a w H next Q hn
    have hH:Holds w (good C L h w) L (restrict rt (lk env)) (restrictH rh (lko heap)) a:=by
     rw [←restrict_eq h1,←restrictH_eq h2]
     exact H.holds.restrict rt rh
    have hf:=hH.opnd f
    have e':opnd (restrict rt (lk env)) f=.d (.cl fid n ds):=e
    rw [e'] at hf
    generalize hfv:a.eval f=fv at hf
    cases hf with
    |d hcl=>
     have B:Begins w (good C L h w) L (restrict rt (lk env)) (restrictH rh (lko heap)) a:=⟨hH,fun b hb=>hb.1,fun b hb=>H.old_lt hb,fun id o b e1 e2=>(H.own0 id o b (by rw [←restrictH_eq h2] at e1;exact restrictH_some e1) e2).2⟩
     obtain ⟨cvs,rfl,hcz,hall⟩:=cl_args hcl (l:=l) (xs:=as.map a.eval) (gd'':=seen (good C L h w) w b) (by simpa using hl) (fun b' hb'=>by
      cases b with
      |true=>exact hb'
      |false=>exact hb'.1) (fun i x hx=>by
      have:=hargs w _ L a #[] B rfl (fun i x hx=>by simp at hx) b id i x hx
      simpa [Array.getD_eq_getD_getElem?,List.getD_eq_getElem?_getD] using this)
     have hrun:(execOp a.eval o).run C.P w=.ok (.enter fid (as.map a.eval++cvs)) w:=by
      simp [execOp,hop,resolve,hfv,Deferred.ofValue,invoke,callFunc,e1,hname,e3]
     unfold Oper.wp
     rw [hrun,Oper.upon_enter]
     have hR:∀b',seen (good C L h w) w b b'→b'<w.heap.size:=by
      intro b' hb'
      cases b with
      |true=>exact hb'.1
      |false=>exact hb'
     refine (hcalls w (seen (good C L h w) w b) (as.map a.eval++cvs) (H.goodW.seen b) hR (by simp [hl,hcz,(capsF_get n 0 ds).1]) hall).mono ?_
     rintro e' w' ⟨v,r',rfl,hr,hbel,hrep⟩
     subst hr
     exact hn v w' hbel hrep
   exact tail hpt run
  ·exact hk.elim
 ·rename_i src dst x hop
  split at hk
  ·rename_i l e
   obtain ⟨hl,hk⟩:=hk
   obtain ⟨e1,e2,e,e3,e4⟩:=convS_some hT e
   refine tail hk fun g h h1 h2 L a w H next Q hn=>?_
   have hH:Holds w (good C L h w) L (restrict rt (lk env)) (restrictH rh (lko heap)) a:=by
    rw [←restrict_eq h1,←restrictH_eq h2]
    exact H.holds.restrict rt rh
   have e1:opnd (restrict rt (lk env)) x=.d (.s l):=e1
   have hx:a.eval x=.string ⟨l.toArray⟩:=repA_s (e1▸hH.opnd x)
   obtain ⟨v,w',r1,r2,r3⟩:=conv_bytes (P:=C.P) w (seen (good C L h w) w true) l e2 e3 e4 hl
   unfold Oper.wp
   rw [show (execOp a.eval o).run C.P w=.ok (.value v) w' from by simp [execOp,hop,hx,r1,Result.andThen],Oper.upon_value]
   exact hn v w' r2 ⟨rfl,r3⟩
  ·exact fin (by rw [hop];exact hk)
 ·exact fin hk
end
def disjW {α β:Type}:List (Nat×α)→List (Nat×β)→Bool
 | [],_=>true
 |(t,_)::r,s=>(match lookW t s with|some _=>false|none=>true)&&disjW r s
def disjN {α:Type}:List Nat→List (Nat×α)→Bool
 | [],_=>true
 |t::r,s=>(match lookW t s with|some _=>false|none=>true)&&disjN r s
def freeW (d:Nat):List (Nat×AVal)→Bool
 | []=>true
 |(_,v)::r=>v.free d&&freeW d r
def freeWh (d:Nat):List (Nat×Option AObj)→Bool
 | []=>true
 |(j,o)::r=>!Nat.beq j d&&(match o with|some o=>o.free d|none=>true)&&freeWh d r
def freeR:List Nat→Rc→Bool
 | [],_=>true
 |d::fr,r=>freeW d r.wt&&freeWh d r.wh&&freeR fr r
def okPair (ord:Bool) (r s:Rc):Bool:=
 disjW r.wt s.wt&&freeR s.fr r&&(ord ||(disjN r.rt s.wt&&disjN s.rt r.wt&&disjN r.rh s.wh&&disjN s.rh r.wh&&disjW r.wh s.wh&&freeR r.fr s))
def okWith (i:Nat) (r:Rc):List Rc→List Nat→Bool
 | [],_=>true
 |s::ss,m::ms=>okPair (m.testBit i) r s&&okWith i r ss ms
 |_::_,[]=>false
def okR:Nat→List Rc→List Nat→Bool
 |_,[],_=>true
 |i,r::rs,_::ms=>okWith i r rs ms&&okR (i+1) rs ms
 |_,_::_,[]=>false
def freeAll (env:Env) (heap:Heap):List Nat→Bool
 | []=>true
 |d::r=>freeEnv d env&&freeHeap d heap&&freeAll env heap r
def freshAll (env:Env) (heap:Heap):List Rc→Bool
 | []=>true
 |r::rs=>freeAll env heap r.fr&&freshAll env heap rs
def maskOf (acc:List Nat):List Edge→Nat
 | []=>0
 |e::r=>match Region.binds .any e with
  |true=>2 ^ e.on |||acc.getD e.on 0 |||maskOf acc r
  |false=>maskOf acc r
def befs:List Oper→List Nat→List Nat
 | [],acc=>acc
 |o::r,acc=>befs r (acc++[maskOf acc o.after.toList])
def edgesOk:Nat→List Oper→Bool
 |_,[]=>true
 |n,o::r=>o.after.toList.all (fun e=>!Region.binds .any e ||Nat.blt e.on n)&&edgesOk (n+1) r
def drawOk (ops:List Oper) (recs:List Rc) (env0:Env) (heap0:Heap):Bool:=
 edgesOk 0 ops&&okR 0 recs (befs ops [])&&freshAll env0 heap0 recs
theorem disjW_ok {α β:Type}:∀{r:List (Nat×α)} {s:List (Nat×β)},disjW r s=true→∀t v,lookW t r=some v→lookW t s=none
 | [],s,_,t,v,e=>by simp [lookW] at e
 |(j,x)::r,s,h,t,v,e=>by
  simp only [disjW,Bool.and_eq_true] at h
  rw [lookW_cons] at e
  split at e
  ·rename_i hj
   subst hj
   cases hl:lookW t s with
   |none=>rfl
   |some _=>rw [hl] at h;simp at h
  ·exact disjW_ok h.2 t v e
theorem disjN_ok {α:Type}:∀{r:List Nat} {s:List (Nat×α)},disjN r s=true→∀t∈r,lookW t s=none
 | [],s,_,t,e=>by simp at e
 |j::r,s,h,t,e=>by
  simp only [disjN,Bool.and_eq_true] at h
  rcases List.mem_cons.1 e with rfl|e
  ·cases hl:lookW t s with
   |none=>rfl
   |some _=>rw [hl] at h;simp at h
  ·exact disjN_ok h.2 t e
theorem freeW_ok {d:Nat}:∀{l:List (Nat×AVal)},freeW d l=true→∀t v,lookW t l=some v→v.free d=true
 | [],_,t,v,e=>by simp [lookW] at e
 |(j,x)::r,h,t,v,e=>by
  simp only [freeW,Bool.and_eq_true] at h
  rw [lookW_cons] at e
  split at e
  ·cases e;exact h.1
  ·exact freeW_ok h.2 t v e
theorem freeWh_ok {d:Nat}:∀{l:List (Nat×Option AObj)},freeWh d l=true→∀t v,lookW t l=some v→t≠d∧∀o,v=some o→o.free d=true
 | [],_,t,v,e=>by simp [lookW] at e
 |(j,x)::r,h,t,v,e=>by
  simp only [freeWh,Bool.and_eq_true] at h
  rw [lookW_cons] at e
  split at e
  ·rename_i hj
   cases e
   rw [hj]
   refine ⟨beq_ne h.1.1,fun o ho=>?_⟩
   have:=h.1.2
   rw [ho] at this
   exact this
  ·exact freeWh_ok h.2 t v e
theorem freeR_ok {r:Rc}:∀{fr:List Nat},freeR fr r=true→∀d∈fr,freeW d r.wt=true∧freeWh d r.wh=true
 | [],_,d,e=>by simp at e
 |j::fr,h,d,e=>by
  simp only [freeR,Bool.and_eq_true] at h
  rcases List.mem_cons.1 e with rfl|e
  ·exact h.1
  ·exact freeR_ok h.2 d e
theorem okWith_ok {i:Nat} {r:Rc}:∀{ss:List Rc} {ms:List Nat},okWith i r ss ms=true→∀(j:Nat) (s:Rc),ss[j]? = some s→∃m:Nat,ms[j]? = some m∧okPair (m.testBit i) r s=true
 | [],_,_,j,s,e=>by simp at e
 |s0::ss,m::ms,h,j,s,e=>by
  simp only [okWith,Bool.and_eq_true] at h
  cases j with
  |zero=>simp only [List.getElem?_cons_zero,Option.some.injEq] at e;subst e;exact ⟨m,rfl,h.1⟩
  |succ j=>simp only [List.getElem?_cons_succ] at e ⊢;exact okWith_ok h.2 j s e
 |_::_,[],h,j,s,e=>by simp [okWith] at h
theorem okR_ok:∀{rs:List Rc} {ms:List Nat} {k:Nat},okR k rs ms=true→∀(i j:Nat) (r s:Rc),i<j→rs[i]? = some r→rs[j]? = some s→∃m:Nat,ms[j]? = some m∧okPair (m.testBit (k+i)) r s=true
 | [],_,_,_,i,j,r,s,_,e,_=>by simp at e
 |r0::rs,m::ms,k,h,i,j,r,s,hij,e1,e2=>by
  simp only [okR,Bool.and_eq_true] at h
  cases j with
  |zero=>omega
  |succ j=>
   simp only [List.getElem?_cons_succ] at e2 ⊢
   cases i with
   |zero=>
    simp only [List.getElem?_cons_zero,Option.some.injEq] at e1
    subst e1
    exact okWith_ok h.1 j s e2
   |succ i=>
    simp only [List.getElem?_cons_succ] at e1
    obtain ⟨m',h1,h2⟩:=okR_ok h.2 i j r s (by omega) e1 e2
    exact ⟨m',h1,by rw [show k+(i+1)=k+1+i from by omega];exact h2⟩
 |_::_,[],_,h,i,j,r,s,_,e1,e2=>by simp [okR] at h
def Closed (ops:List Oper) (D:Nat→Bool):Prop:=∀j o,ops[j]? = some o→D j=true→∀e∈o.after.toList,Region.binds .any e=true→D e.on=true
theorem maskOf_bit {acc:List Nat} {i:Nat}:∀{es:List Edge},(maskOf acc es).testBit i=true→∃e∈es,Region.binds .any e=true∧(i=e.on∨(acc.getD e.on 0).testBit i=true)
 | [],h=>by simp [maskOf] at h
 |e::r,h=>by
  simp only [maskOf] at h
  cases hb:Region.binds .any e with
  |false=>
   rw [hb] at h
   obtain ⟨e',h1,h2⟩:=maskOf_bit h
   exact ⟨e',by simp [h1],h2⟩
  |true=>
   rw [hb] at h
   simp only [Nat.testBit_or,Bool.or_eq_true] at h
   rcases h with (h|h)|h
   ·refine ⟨e,by simp,hb,.inl ?_⟩
    rw [Nat.testBit_two_pow] at h
    have:e.on=i:=by simpa using h
    exact this.symm
   ·exact ⟨e,by simp,hb,.inr h⟩
   ·obtain ⟨e',h1,h2⟩:=maskOf_bit h
    exact ⟨e',by simp [h1],h2⟩
theorem befs_closed {ops:List Oper} {D:Nat→Bool} (hD:Closed ops D):∀(l:List Oper) (acc:List Nat),(∀k o,l[k]? = some o→ops[acc.length+k]? = some o)→(∀j m,acc[j]? = some m→D j=true→∀i,m.testBit i=true→D i=true)→
  ∀j m,(befs l acc)[j]? = some m→D j=true→∀i,m.testBit i=true→D i=true
 | [],acc,_,h,j,m,e=>h j m e
 |o::r,acc,hl,h,j,m,e=>by
  refine befs_closed hD r (acc++[maskOf acc o.after.toList]) (fun k o' hk=>?_) (fun j m hj hDj i hi=>?_) j m e
  ·rw [List.length_append]
   have:=hl (k+1) o' (by simpa using hk)
   simpa [Nat.add_assoc,Nat.add_comm 1 k] using this
  ·rw [List.getElem?_append] at hj
   split at hj
   ·exact h j m hj hDj i hi
   ·rename_i hge
    have hj0:j=acc.length:=by
     have:=(List.getElem?_eq_some_iff.1 hj).1
     simp at this;omega
    subst hj0
    simp only [Nat.sub_self,List.getElem?_cons_zero,Option.some.injEq] at hj
    subst hj
    obtain ⟨ed,h1,h2,h3⟩:=maskOf_bit hi
    have hon:=hD acc.length o (by simpa using hl 0 o rfl) hDj ed h1 h2
    rcases h3 with h3|h3
    ·rw [h3];exact hon
    ·cases ha:acc[ed.on]? with
     |none=>rw [List.getD_eq_getElem?_getD,ha] at h3;simp at h3
     |some m'=>rw [List.getD_eq_getElem?_getD,ha] at h3;exact h ed.on m' ha hon i h3
def SG:List Rc→Nat→(Nat→Bool)→(Nat→AVal)→(Nat→AVal)
 | [],_,_,g=>g
 |r::rs,i,D,g=>SG rs (i+1) D (match D i with|true=>r.g g|false=>g)
def SH:List Rc→Nat→(Nat→Bool)→(Nat→Option AObj)→(Nat→Option AObj)
 | [],_,_,g=>g
 |r::rs,i,D,g=>SH rs (i+1) D (match D i with|true=>r.h g|false=>g)
theorem SG_agree {t:Nat}:∀{rs:List Rc} {i:Nat} {D D':Nat→Bool} {g g':Nat→AVal},(∀j r v,rs[j]? = some r→lookW t r.wt=some v→D (i+j)=D' (i+j))→g t=g' t→SG rs i D g t=SG rs i D' g' t
 | [],i,D,D',g,g',_,e=>e
 |r::rs,i,D,D',g,g',h,e=>by
  simp only [SG]
  refine SG_agree (fun j r' v hj hv=>?_) ?_
  ·have:=h (j+1) r' v (by simpa using hj) hv
   rwa [show i+(j+1)=i+1+j from by omega] at this
  ·cases hl:lookW t r.wt with
   |none=>
    have:∀(b:Bool) (g:Nat→AVal),(match b with|true=>r.g g|false=>g) t=g t:=by intro b g;cases b<;>simp [Rc.g,hl]
    rw [this,this];exact e
   |some v=>
    have:=h 0 r v rfl hl
    simp only [Nat.add_zero] at this
    rw [this]
    cases D' i with
    |true=>simp [Rc.g,hl]
    |false=>exact e
theorem SH_agree {t:Nat}:∀{rs:List Rc} {i:Nat} {D D':Nat→Bool} {g g':Nat→Option AObj},(∀j r v,rs[j]? = some r→lookW t r.wh=some v→D (i+j)=D' (i+j))→g t=g' t→SH rs i D g t=SH rs i D' g' t
 | [],i,D,D',g,g',_,e=>e
 |r::rs,i,D,D',g,g',h,e=>by
  simp only [SH]
  refine SH_agree (fun j r' v hj hv=>?_) ?_
  ·have:=h (j+1) r' v (by simpa using hj) hv
   rwa [show i+(j+1)=i+1+j from by omega] at this
  ·cases hl:lookW t r.wh with
   |none=>
    have:∀(b:Bool) (g:Nat→Option AObj),(match b with|true=>r.h g|false=>g) t=g t:=by intro b g;cases b<;>simp [Rc.h,hl]
    rw [this,this];exact e
   |some v=>
    have:=h 0 r v rfl hl
    simp only [Nat.add_zero] at this
    rw [this]
    cases D' i with
    |true=>simp [Rc.h,hl]
    |false=>exact e
theorem SG_none {t:Nat}:∀{rs:List Rc} {i:Nat} {D:Nat→Bool} {g:Nat→AVal},(∀j r v,rs[j]? = some r→lookW t r.wt=some v→D (i+j)=false)→SG rs i D g t=g t
 | [],_,_,_,_=>rfl
 |r::rs,i,D,g,h=>by
  simp only [SG]
  rw [SG_none (fun j r' v hj hv=>by
   have:=h (j+1) r' v (by simpa using hj) hv
   rwa [show i+(j+1)=i+1+j from by omega] at this)]
  cases hl:lookW t r.wt with
  |none=>cases D i<;>simp [Rc.g,hl]
  |some v=>
   have:=h 0 r v rfl hl
   simp only [Nat.add_zero] at this
   rw [this]
theorem SH_none {t:Nat}:∀{rs:List Rc} {i:Nat} {D:Nat→Bool} {g:Nat→Option AObj},(∀j r v,rs[j]? = some r→lookW t r.wh=some v→D (i+j)=false)→SH rs i D g t=g t
 | [],_,_,_,_=>rfl
 |r::rs,i,D,g,h=>by
  simp only [SH]
  rw [SH_none (fun j r' v hj hv=>by
   have:=h (j+1) r' v (by simpa using hj) hv
   rwa [show i+(j+1)=i+1+j from by omega] at this)]
  cases hl:lookW t r.wh with
  |none=>cases D i<;>simp [Rc.h,hl]
  |some v=>
   have:=h 0 r v rfl hl
   simp only [Nat.add_zero] at this
   rw [this]
theorem SG_from {t:Nat}:∀(rs:List Rc) (i:Nat) (D:Nat→Bool) (g:Nat→AVal),SG rs i D g t=g t∨∃j r v,rs[j]? = some r∧D (i+j)=true∧lookW t r.wt=some v∧SG rs i D g t=v
 | [],_,_,_=>.inl rfl
 |r::rs,i,D,g=>by
  simp only [SG]
  rcases SG_from (t:=t) rs (i+1) D (match D i with|true=>r.g g|false=>g) with h|⟨j,r',v,h1,h2,h3,h4⟩
  ·rw [h]
   cases hD:D i with
   |false=>exact .inl rfl
   |true=>
    cases hl:lookW t r.wt with
    |none=>left;simp [Rc.g,hl]
    |some v=>right;exact ⟨0,r,v,rfl,by simpa using hD,hl,by simp [Rc.g,hl]⟩
  ·right;exact ⟨j+1,r',v,by simpa using h1,by rw [show i+(j+1)=i+1+j from by omega];exact h2,h3,h4⟩
theorem SH_from {t:Nat}:∀(rs:List Rc) (i:Nat) (D:Nat→Bool) (g:Nat→Option AObj),SH rs i D g t=g t∨∃j r v,rs[j]? = some r∧D (i+j)=true∧lookW t r.wh=some v∧SH rs i D g t=v
 | [],_,_,_=>.inl rfl
 |r::rs,i,D,g=>by
  simp only [SH]
  rcases SH_from (t:=t) rs (i+1) D (match D i with|true=>r.h g|false=>g) with h|⟨j,r',v,h1,h2,h3,h4⟩
  ·rw [h]
   cases hD:D i with
   |false=>exact .inl rfl
   |true=>
    cases hl:lookW t r.wh with
    |none=>left;simp [Rc.h,hl]
    |some v=>right;exact ⟨0,r,v,rfl,by simpa using hD,hl,by simp [Rc.h,hl]⟩
  ·right;exact ⟨j+1,r',v,by simpa using h1,by rw [show i+(j+1)=i+1+j from by omega];exact h2,h3,h4⟩
theorem SG_split:∀(rs ss:List Rc) (i:Nat) (D:Nat→Bool) (g:Nat→AVal),SG (rs++ss) i D g=SG ss (i+rs.length) D (SG rs i D g)
 | [],ss,i,D,g=>rfl
 |r::rs,ss,i,D,g=>by
  simp only [List.cons_append,SG]
  rw [SG_split rs ss (i+1) D _,List.length_cons,show i+(rs.length+1)=i+1+rs.length from by omega]
theorem SH_split:∀(rs ss:List Rc) (i:Nat) (D:Nat→Bool) (g:Nat→Option AObj),SH (rs++ss) i D g=SH ss (i+rs.length) D (SH rs i D g)
 | [],ss,i,D,g=>rfl
 |r::rs,ss,i,D,g=>by
  simp only [List.cons_append,SH]
  rw [SH_split rs ss (i+1) D _,List.length_cons,show i+(rs.length+1)=i+1+rs.length from by omega]
def rtOf (ops:Array Oper) (o:Oper):List Nat:=
 match o.guard with
 |some (j,_)=>match gtmp ops j with
  |some t=>t::tmpsOf o.op.operands.toList
  |none=>tmpsOf o.op.operands.toList
 |none=>tmpsOf o.op.operands.toList
def idsO (op:Op) (g:Nat→AVal) (heap:Heap) (rt:List Nat):List Nat:=
 match op with
 |.move _=>[]
 |.nilCheck _=>[]
 |.fieldAddr ..=>[]
 |.call { callee:=.value _,..}=>reach 500 (fun i=>lookO i heap) (rt.map g) []
 |_=>idsOf g rt
def AOpsD (P:Program) (T:Tys) (nt:Nat) (ops:Array Oper) (K:List Rc→Env→Heap→Prop):List Oper→List Rc→Env→Heap→Prop
 | [],acc,env,heap=>K acc env heap
 |o::r,acc,env,heap=>forceN (fun rt=>match o.guard with
  |none=>forceN (fun rh=>AStepD P T nt rt rh o env heap (fun rc env heap=>AOpsD P T nt ops K r (rc::acc) env heap)) (idsO o.op (fun t=>look t env) heap rt)
  |some (j,want)=>match gtmp ops j with
   |some t=>match look t env with
    |.d (.b x)=>match x with
     |true=>match want with
      |true=>forceN (fun rh=>AStepD P T nt rt rh o ((t,.d (.b true))::env) heap (fun rc env heap=>AOpsD P T nt ops K r (rc::acc) env heap)) (idsO o.op (fun t=>look t env) heap rt)
      |false=>putD nt o.dst (.tup []) [t] [] ((t,.d (.b true))::env) heap (fun rc env heap=>AOpsD P T nt ops K r (rc::acc) env heap)
     |false=>match want with
      |true=>putD nt o.dst (.tup []) [t] [] ((t,.d (.b false))::env) heap (fun rc env heap=>AOpsD P T nt ops K r (rc::acc) env heap)
      |false=>forceN (fun rh=>AStepD P T nt rt rh o ((t,.d (.b false))::env) heap (fun rc env heap=>AOpsD P T nt ops K r (rc::acc) env heap)) (idsO o.op (fun t=>look t env) heap rt)
    |.tup []=>putD nt o.dst (.tup []) [t] [] env heap (fun rc env heap=>AOpsD P T nt ops K r (rc::acc) env heap)
    |_=>False
   |none=>False) (rtOf ops o)
section
variable {C : Ctx} {T : Tys} {ops : Array Oper}
def OpOk (C:Ctx) (ops:Array Oper) (Q:Exit→Act→World→Prop) (i:Nat) (r:Rc) (g0:Nat→AVal) (h0:Nat→Option AObj):Prop:=
 ∀g h,Agrees r g0 h0 g h→∀L a w,Rel C L g h a w→∀(next:Act→World→Prop),(∀L' a' w',Rel C L' (r.g g) (r.h h) a' w'→next a' w')→wpOp C.P ops Q i next a w
theorem opOk_run {Q:Exit→Act→World→Prop} {i:Nat} {o:Oper} {r:Rc} {g0:Nat→AVal} {h0:Nat→Option AObj} (ho:ops[i]? = some o) (hw:∀g h,Agrees r g0 h0 g h→∀L a w,Rel C L g h a w→Region.wanted o (yielded ops a.tmps)=true) (hs:StepOk C o r g0 h0):OpOk C ops Q i r g0 h0:=by
 intro g h ha L a w H next hn
 unfold wpOp
 rw [ho]
 simp only
 rw [if_pos (hw g h ha L a w H)]
 exact .inl (hs g h ha L a w H next Q hn)
theorem bool_slot {L:Lay} {g:Nat→AVal} {h:Nat→Option AObj} {a:Act} {w:World} (H:Rel C L g h a w) {t:Nat} {x:Bool} (hg:g t=.d (.b x)) {j:Nat} (hj:gtmp ops j=some t):yielded ops a.tmps j=some x:=by
 have hs:=H.slot t
 rw [hg] at hs
 have hb:=repA_b hs
 have hlt:t<a.tmps.size:=by
  rcases Nat.lt_or_ge t a.tmps.size with h1|h1
  ·exact h1
  ·rw [Array.getD_eq_getD_getElem?,Array.getElem?_eq_none h1] at hb;cases hb
 unfold yielded
 have:(ops[j]?).bind (·.dst)=some t:=hj
 rw [this]
 rw [Array.getD_eq_getD_getElem?,Array.getElem?_eq_getElem hlt] at hb
 simp only [Option.bind_some,Array.getElem?_eq_getElem hlt]
 simp only [Option.getD_some] at hb
 rw [hb]
theorem lk_same {t:Nat} {env:Env} {v:AVal} (h:look t env=v):lk ((t,v)::env)=lk env:=by
 rw [lk_cons]
 funext s
 unfold gput
 split
 ·rename_i e;rw [e,←h]
 ·rfl
theorem AOpsD_recs (hT:TysOk C.P T) {K:List Rc→Env→Heap→Prop} {Q:Exit→Act→World→Prop}:∀(l:List Oper) (k:Nat) (acc:List Rc) (env:Env) (heap:Heap),(∀j o,l[j]? = some o→ops[k+j]? = some o)→AOpsD C.P T C.nt ops K l acc env heap→
  ∃(recs:List Rc) (env':Env) (heap':Heap),K (recs.reverse++acc) env' heap'∧recs.length=l.length∧lk env'=SG recs 0 (fun _=>true) (lk env)∧lko heap'=SH recs 0 (fun _=>true) (lko heap)∧
   ∀i r,recs[i]? = some r→OpOk C ops Q (k+i) r (SG (recs.take i) 0 (fun _=>true) (lk env)) (SH (recs.take i) 0 (fun _=>true) (lko heap))
 | [],k,acc,env,heap,_,h=>⟨[],env,heap,h,rfl,rfl,rfl,fun i r hr=>by simp at hr⟩
 |o::l,k,acc,env,heap,hl,h=>by
  have ho:ops[k]? = some o:=by simpa using hl 0 o rfl
  have hl':∀j o',l[j]? = some o'→ops[k+1+j]? = some o':=fun j o' hj=>by
   have:=hl (j+1) o' (by simpa using hj)
   rwa [show k+(j+1)=k+1+j from by omega] at this
  have step:∀(env1:Env),lk env1=lk env→(∃r env' heap',AOpsD C.P T C.nt ops K l (r::acc) env' heap'∧lk env'=r.g (lk env1)∧lko heap'=r.h (lko heap)∧OpOk C ops Q k r (lk env1) (lko heap))→
    ∃(recs:List Rc) (env':Env) (heap':Heap),K (recs.reverse++acc) env' heap'∧recs.length=(o::l).length∧lk env'=SG recs 0 (fun _=>true) (lk env)∧lko heap'=SH recs 0 (fun _=>true) (lko heap)∧
     ∀i r,recs[i]? = some r→OpOk C ops Q (k+i) r (SG (recs.take i) 0 (fun _=>true) (lk env)) (SH (recs.take i) 0 (fun _=>true) (lko heap)):=by
   rintro env1 he ⟨r,env',heap',h1,h2,h3,h4⟩
   obtain ⟨recs,env2,heap2,k1,k2,k3,k4,k5⟩:=AOpsD_recs hT (Q:=Q) l (k+1) (r::acc) env' heap' hl' h1
   have sg:∀(rs:List Rc) (g:Nat→AVal) (i j:Nat),SG rs i (fun _=>true) g=SG rs j (fun _=>true) g:=by
    intro rs
    induction rs with
    |nil=>intros;rfl
    |cons r rs ih=>intro g i j;simp only [SG];exact ih _ _ _
   have sh:∀(rs:List Rc) (g:Nat→Option AObj) (i j:Nat),SH rs i (fun _=>true) g=SH rs j (fun _=>true) g:=by
    intro rs
    induction rs with
    |nil=>intros;rfl
    |cons r rs ih=>intro g i j;simp only [SH];exact ih _ _ _
   refine ⟨r::recs,env2,heap2,by simpa using k1,by simp [k2],?_,?_,fun i r' hr=>?_⟩
   ·rw [k3,h2,he];simp only [SG];exact sg _ _ _ _
   ·rw [k4,h3];simp only [SH];exact sh _ _ _ _
   ·cases i with
    |zero=>
     simp only [List.getElem?_cons_zero,Option.some.injEq] at hr
     subst hr
     simp only [Nat.add_zero,List.take_zero,SG,SH]
     rw [←he];exact h4
    |succ i=>
     simp only [List.getElem?_cons_succ] at hr
     have:=k5 i r' hr
     rw [h2,h3,he] at this
     simp only [List.take_succ_cons,SG,SH]
     rw [show k+(i+1)=k+1+i from by omega,sg _ _ (0+1) 0,sh _ _ (0+1) 0]
     exact this
  unfold AOpsD at h
  have h:=forceN_eq h
  cases hg:o.guard with
  |none=>
   rw [hg] at h
   simp only at h
   have h:=forceN_eq h
   obtain ⟨r,env',heap',h1,_,h2,h3,h4⟩:=AStepD_ok hT h
   exact step env rfl ⟨r,env',heap',h1,h2,h3,opOk_run ho (fun g h ha L a w H=>by simp [Region.wanted,hg]) h4⟩
  |some jw=>
   obtain ⟨j,want⟩:=jw
   rw [hg] at h
   simp only at h
   cases ht:gtmp ops j with
   |none=>rw [ht] at h;exact h.elim
   |some t=>
    rw [ht] at h
    simp only at h
    have hrt:t∈rtOf ops o:=by unfold rtOf;rw [hg];simp [ht]
    split at h
    ·rename_i x e
     have hsame:∀b,x=b→lk ((t,.d (.b b))::env)=lk env:=fun b hb=>lk_same (by rw [e,hb])
     have hval:lk env t=.d (.b x):=e
     have do_:∀b,x=b→want=b→forceN (fun rh=>AStepD C.P T C.nt (rtOf ops o) rh o ((t,.d (.b b))::env) heap (fun rc env heap=>AOpsD C.P T C.nt ops K l (rc::acc) env heap)) (idsO o.op (fun t=>look t env) heap (rtOf ops o))→
       ∃r env' heap',AOpsD C.P T C.nt ops K l (r::acc) env' heap'∧lk env'=r.g (lk ((t,.d (.b b))::env))∧lko heap'=r.h (lko heap)∧OpOk C ops Q k r (lk ((t,.d (.b b))::env)) (lko heap):=by
      intro b hb hwb hh
      have hh:=forceN_eq hh
      obtain ⟨r,env',heap',h1,h0,h2,h3,h4⟩:=AStepD_ok hT hh
      refine ⟨r,env',heap',h1,h2,h3,opOk_run ho (fun g h ha L a w H=>?_) h4⟩
      have hg':g t=.d (.b x):=by rw [ha.t t (by rw [h0];exact hrt),hsame b hb,hval]
      have hy:=bool_slot H hg' ht
      simp [Region.wanted,hg,hy,hb,hwb]
     have skip_:∀b,x=b→want=(!b)→putD C.nt o.dst (.tup []) [t] [] ((t,.d (.b b))::env) heap (fun rc env heap=>AOpsD C.P T C.nt ops K l (rc::acc) env heap)→
       ∃r env' heap',AOpsD C.P T C.nt ops K l (r::acc) env' heap'∧lk env'=r.g (lk ((t,.d (.b b))::env))∧lko heap'=r.h (lko heap)∧OpOk C ops Q k r (lk ((t,.d (.b b))::env)) (lko heap):=by
      intro b hb hwb hh
      have key:∀(wt:List (Nat×AVal)),(wt=wtOf o.dst (.tup []))→(∀t,o.dst=some t→t<C.nt)→OpOk C ops Q k ⟨[t],[],wt,[],[]⟩ (lk ((t,.d (.b b))::env)) (lko heap):=by
       intro wt hwt hlt g h ha L a w H next hn
       have hg':g t=.d (.b x):=by rw [ha.t t (by simp),hsame b hb,hval]
       have hy:=bool_slot H hg' ht
       unfold wpOp
       rw [ho]
       simp only
       rw [if_neg (by simp [Region.wanted,hg,hy,hb,hwb])]
       exact hn L _ w (put_step H hlt (.tup (vs:=#[]) rfl fun i x hx=>by simp at hx) hwt)
      unfold putD at hh
      cases hd:o.dst with
      |none=>
       rw [hd] at hh key
       exact ⟨_,_,_,hh,rfl,rfl,key [] rfl (fun t h=>by cases h)⟩
      |some d=>
       rw [hd] at hh key
       simp only at hh
       cases hbl:Nat.blt d C.nt with
       |false=>rw [hbl] at hh;exact hh.elim
       |true=>
        rw [hbl] at hh
        exact ⟨_,_,_,hh,by rw [lk_cons,Rc.g_one],rfl,key _ rfl (fun t h=>by cases h;exact blt_lt hbl)⟩
     cases x<;>cases want<;>simp only at h
     ·exact step _ (hsame _ rfl) (do_ _ rfl rfl h)
     ·exact step _ (hsame _ rfl) (skip_ _ rfl rfl h)
     ·exact step _ (hsame _ rfl) (skip_ _ rfl rfl h)
     ·exact step _ (hsame _ rfl) (do_ _ rfl rfl h)
    ·rename_i e
     have hval:lk env t=.tup []:=e
     have key:∀(wt:List (Nat×AVal)),(wt=wtOf o.dst (.tup []))→(∀t,o.dst=some t→t<C.nt)→OpOk C ops Q k ⟨[t],[],wt,[],[]⟩ (lk env) (lko heap):=by
      intro wt hwt hlt g h ha L a w H next hn
      have hg':g t=.tup []:=by rw [ha.t t (by simp),hval]
      have hs:=H.slot t
      rw [hg'] at hs
      have hy:=yielded_undef ht (repA_tup0 hs)
      unfold wpOp
      rw [ho]
      simp only
      rw [if_neg (by simp [Region.wanted,hg,hy])]
      exact hn L _ w (put_step H hlt (.tup (vs:=#[]) rfl fun i x hx=>by simp at hx) hwt)
     refine step env rfl ?_
     unfold putD at h
     cases hd:o.dst with
     |none=>
      rw [hd] at h key
      exact ⟨_,_,_,h,rfl,rfl,key [] rfl (fun t h=>by cases h)⟩
     |some d=>
      rw [hd] at h key
      simp only at h
      cases hbl:Nat.blt d C.nt with
      |false=>rw [hbl] at h;exact h.elim
      |true=>
       rw [hbl] at h
       exact ⟨_,_,_,h,by rw [lk_cons,Rc.g_one],rfl,key _ rfl (fun t h=>by cases h;exact blt_lt hbl)⟩
    ·exact h.elim
theorem split_at {α:Type} {l:List α} {i:Nat} {r:α} (h:l[i]? = some r):l=l.take i++(r::l.drop (i+1)):=by
 obtain ⟨hi,e⟩:=List.getElem?_eq_some_iff.1 h
 rw [←e,←List.drop_eq_getElem_cons hi,List.take_append_drop]
theorem draw_any {Q:Exit→Act→World→Prop} {recs:List Rc} {g0:Nat→AVal} {h0:Nat→Option AObj} (hlen:recs.length=ops.size) (hedge:edgesOk 0 ops.toList=true) (hpair:okR 0 recs (befs ops.toList [])=true)
  (hfg:∀r∈recs,∀d∈r.fr,∀t,(g0 t).free d=true) (hfh:∀r∈recs,∀d∈r.fr,∀j o,h0 j=some o→j≠d∧o.free d=true)
  (hop:∀i r,recs[i]? = some r→OpOk C ops Q i r (SG (recs.take i) 0 (fun _=>true) g0) (SH (recs.take i) 0 (fun _=>true) h0))
  (hQ:∀L a w,Rel C L (SG recs 0 (fun _=>true) g0) (SH recs 0 (fun _=>true) h0) a w→Q .normal a w) :
  ∀(fuel:Nat) (listed:Array Bool) (a:Act) (w:World),listed.size=ops.size→listed.toList.countP (fun b=>!b)=fuel→Closed ops.toList (fun i=>listed.getD i false)→
   (∃L,Rel C L (SG recs 0 (fun i=>listed.getD i false) g0) (SH recs 0 (fun i=>listed.getD i false) h0) a w)→wpAny C.P .any ops Q fuel listed a w:=by
 have edge:∀(l:List Oper) (n:Nat),edgesOk n l=true→∀j o,l[j]? = some o→∀e∈o.after.toList,Region.binds .any e=true→e.on<n+j:=by
  intro l
  induction l with
  |nil=>intro n _ j o h;simp at h
  |cons x r ih=>
   intro n h j o hj e he hb
   simp only [edgesOk,Bool.and_eq_true,List.all_eq_true] at h
   cases j with
   |zero=>
    simp only [List.getElem?_cons_zero,Option.some.injEq] at hj
    subst hj
    have:=h.1 e he
    rw [hb] at this
    have:=blt_lt (by simpa using this)
    omega
   |succ j=>
    simp only [List.getElem?_cons_succ] at hj
    have:=ih (n+1) h.2 j o hj e he hb
    omega
 have hedge':=edge ops.toList 0 hedge
 have stuck_:∀(listed:Array Bool),listed.size=ops.size→Region.ready .any ops listed=[]→∀i,i<ops.size→listed.getD i false=true:=by
  intro listed hsz hready i
  induction i using Nat.strongRecOn with
  |_ i ih=>
   intro hi
   cases hl:listed.getD i false with
   |true=>rfl
   |false=>
    exfalso
    have hmem:i∈Region.ready .any ops listed:=by
     unfold Region.ready
     rw [List.mem_filter]
     refine ⟨by simpa using hi,?_⟩
     have h1:listed.getD i true=false:=by
      rw [Array.getD_eq_getD_getElem?] at hl ⊢
      rw [Array.getElem?_eq_getElem (by omega)] at hl ⊢
      exact hl
     rw [h1]
     rw [Array.getElem?_eq_getElem hi]
     simp only [Bool.not_false,Bool.true_and,Option.map_some,Option.getD_some]
     rw [←Array.all_toList,List.all_eq_true]
     intro e he
     cases hb:Region.binds .any e with
     |false=>rfl
     |true=>
      have hlt:=hedge' i ops[i] (by simp [hi]) e he hb
      simp only [Bool.not_true,Bool.false_or]
      exact ih e.on (by omega) (by omega)
    rw [hready] at hmem
    simp at hmem
 have fin:∀(listed:Array Bool) (a:Act) (w:World),listed.size=ops.size→Region.ready .any ops listed=[]→(∃L,Rel C L (SG recs 0 (fun i=>listed.getD i false) g0) (SH recs 0 (fun i=>listed.getD i false) h0) a w)→Q .normal a w:=by
  rintro listed a w hsz hready ⟨L,H⟩
  have hall:=stuck_ listed hsz hready
  refine hQ L a w ?_
  have e1:SG recs 0 (fun i=>listed.getD i false) g0=SG recs 0 (fun _=>true) g0:=funext fun t=>SG_agree (fun j r v hj _=>by
   have:j<ops.size:=by rw [←hlen];exact (List.getElem?_eq_some_iff.1 hj).1
   simpa using hall j this) rfl
  have e2:SH recs 0 (fun i=>listed.getD i false) h0=SH recs 0 (fun _=>true) h0:=funext fun t=>SH_agree (fun j r v hj _=>by
   have:j<ops.size:=by rw [←hlen];exact (List.getElem?_eq_some_iff.1 hj).1
   simpa using hall j this) rfl
  rw [←e1,←e2];exact H
 intro fuel
 induction fuel with
 |zero=>
  intro listed a w hsz hcount hclosed hrel
  have hready:Region.ready .any ops listed=[]:=by
   unfold Region.ready
   rw [List.filter_eq_nil_iff]
   intro i hi
   have hi':i<listed.size:=by rw [hsz];simpa using hi
   have:=List.countP_eq_zero.1 hcount listed[i] (by simp)
   have h1:listed.getD i true=true:=by
    rw [Array.getD_eq_getD_getElem?,Array.getElem?_eq_getElem hi']
    simpa using this
   simp [h1]
  exact ⟨hready,fin listed a w hsz hready hrel⟩
 |succ fuel ih=>
  intro listed a w hsz hcount hclosed hrel
  refine ⟨fun hready=>fin listed a w hsz hready hrel,fun i hi=>?_⟩
  unfold Region.ready at hi
  rw [List.mem_filter] at hi
  obtain ⟨hi1,hi2⟩:=hi
  have hi':i<ops.size:=by simpa using hi1
  simp only [Bool.and_eq_true] at hi2
  obtain ⟨hnot,hpre⟩:=hi2
  have hil:i<listed.size:=by omega
  have hDi:listed.getD i false=false:=by
   rw [Array.getD_eq_getD_getElem?,Array.getElem?_eq_getElem hil] at hnot ⊢
   simpa using hnot
  rw [Array.getElem?_eq_getElem hi'] at hpre
  simp only [Option.map_some,Option.getD_some] at hpre
  rw [←Array.all_toList,List.all_eq_true] at hpre
  obtain ⟨L,H⟩:=hrel
  obtain ⟨ri,hri⟩:∃r,recs[i]? = some r:=⟨recs[i]'(by omega),List.getElem?_eq_getElem (by omega)⟩
  have hset:∀j,(listed.setIfInBounds i true).getD j false=if j=i then true else listed.getD j false:=by
   intro j
   simp only [Array.getD_eq_getD_getElem?,Array.getElem?_setIfInBounds]
   by_cases e:i=j
   ·subst e;simp [hil]
   ·rw [if_neg e,if_neg (fun h=>e h.symm)]
  have hclosed':Closed ops.toList (fun j=>(listed.setIfInBounds i true).getD j false):=by
   intro j o hj hD e he hb
   simp only [hset] at hD ⊢
   by_cases e1:e.on=i
   ·simp [e1]
   ·rw [if_neg e1]
    by_cases e2:j=i
    ·subst e2
     have ho:o=ops[j]:=by
      have:ops[j]? = some o:=by simpa using hj
      rw [Array.getElem?_eq_getElem hi'] at this
      exact (Option.some.inj this).symm
     subst ho
     have:=hpre e he
     rw [hb] at this
     simpa using this
    ·rw [if_neg e2] at hD
     exact hclosed j o hj hD e he hb
  have ordBefore:∀(j:Nat) (m:Nat),(befs ops.toList [])[i]? = some m→m.testBit j=true→listed.getD j false=true:=by
   intro j m hm hb
   have:=befs_closed hclosed' ops.toList [] (fun k o hk=>by simpa using hk) (fun j m h=>by simp at h) i m hm (by simp [hset]) j hb
   simp only [hset] at this
   by_cases e:j=i
   ·subst e
    exfalso
    have bound:∀(l:List Oper) (acc:List Nat),(∀k o,l[k]? = some o→ops.toList[acc.length+k]? = some o)→(∀(k m:Nat),acc[k]? = some m→∀q,m.testBit q=true→q<k)→∀(k m:Nat),(befs l acc)[k]? = some m→∀q,m.testBit q=true→q<k:=by
     intro l
     induction l with
     |nil=>intro acc _ h k m e;exact h k m e
     |cons o r ih2=>
      intro acc hl h k m e
      refine ih2 (acc++[maskOf acc o.after.toList]) (fun k o' hk=>?_) (fun k m hk q hq=>?_) k m e
      ·rw [List.length_append]
       have:=hl (k+1) o' (by simpa using hk)
       simpa [Nat.add_assoc,Nat.add_comm 1 k] using this
      ·rw [List.getElem?_append] at hk
       split at hk
       ·exact h k m hk q hq
       ·rename_i hge
        have hk0:k=acc.length:=by
         have:=(List.getElem?_eq_some_iff.1 hk).1
         simp at this;omega
        subst hk0
        simp only [Nat.sub_self,List.getElem?_cons_zero,Option.some.injEq] at hk
        subst hk
        obtain ⟨ed,h1,h2,h3⟩:=maskOf_bit hq
        have hlt:=hedge' acc.length o (by simpa using hl 0 o rfl) ed h1 h2
        rcases h3 with h3|h3
        ·omega
        ·cases ha:acc[ed.on]? with
         |none=>rw [List.getD_eq_getElem?_getD,ha] at h3;simp at h3
         |some m'=>rw [List.getD_eq_getElem?_getD,ha] at h3;have:=h ed.on m' ha q h3;omega
    have:=bound ops.toList [] (fun k o hk=>by simpa using hk) (fun k m h=>by simp at h) j m hm j hb
    omega
   ·rwa [if_neg e] at this
  have ordAfter:∀(j:Nat) (m:Nat),(befs ops.toList [])[j]? = some m→m.testBit i=true→listed.getD j false=true→False:=by
   intro j m hm hb hD
   have:=befs_closed hclosed ops.toList [] (fun k o hk=>by simpa using hk) (fun j m h=>by simp at h) j m hm hD i hb
   simp only [hDi] at this
   cases this
  have pairs:∀(j:Nat) (rj:Rc),recs[j]? = some rj→j≠i→
    (∀t v,lookW t rj.wt=some v→lookW t ri.wt=none)∧(listed.getD j false=true→∀d∈ri.fr,freeW d rj.wt=true∧freeWh d rj.wh=true)∧
    ((listed.getD j false=true↔j<i)∨((∀t∈ri.rt,lookW t rj.wt=none)∧(∀t∈ri.rh,lookW t rj.wh=none)∧(∀t v,lookW t rj.wh=some v→lookW t ri.wh=none))):=by
   intro j rj hj hne
   rcases Nat.lt_or_gt_of_ne hne with hlt|hlt
   ·obtain ⟨m,hm,hp⟩:=okR_ok hpair j i rj ri hlt hj hri
    simp only [okPair,Nat.zero_add,Bool.and_eq_true,Bool.or_eq_true] at hp
    obtain ⟨⟨p1,p2⟩,p3⟩:=hp
    refine ⟨fun t v hv=>disjW_ok p1 t v hv,fun _ d hd=>freeR_ok p2 d hd,?_⟩
    rcases p3 with p3|p3
    ·left;exact ⟨fun _=>hlt,fun _=>ordBefore j m hm p3⟩
    ·obtain ⟨⟨⟨⟨⟨q1,q2⟩,q3⟩,q4⟩,q5⟩,q6⟩:=p3
     right;exact ⟨disjN_ok q2,disjN_ok q4,fun t v hv=>disjW_ok q5 t v hv⟩
   ·obtain ⟨m,hm,hp⟩:=okR_ok hpair i j ri rj hlt hri hj
    simp only [okPair,Nat.zero_add,Bool.and_eq_true,Bool.or_eq_true] at hp
    obtain ⟨⟨p1,p2⟩,p3⟩:=hp
    refine ⟨fun t v hv=>?_,fun hD d hd=>?_,?_⟩
    ·cases h:lookW t ri.wt with
     |none=>rfl
     |some v'=>have:=disjW_ok p1 t v' h;rw [hv] at this;cases this
    ·rcases p3 with p3|p3
     ·exact (ordAfter j m hm p3 hD).elim
     ·exact freeR_ok p3.2 d hd
    ·rcases p3 with p3|p3
     ·left;exact ⟨fun hD=>(ordAfter j m hm p3 hD).elim,fun h=>by omega⟩
     ·obtain ⟨⟨⟨⟨⟨q1,q2⟩,q3⟩,q4⟩,q5⟩,q6⟩:=p3
      right;exact ⟨disjN_ok q1,disjN_ok q3,fun t v hv=>by
       cases h:lookW t ri.wh with
       |none=>rfl
       |some v'=>have:=disjW_ok q5 t v' h;rw [hv] at this;cases this⟩
  have takeG:∀t,SG (recs.take i) 0 (fun _=>true) g0 t=SG recs 0 (fun j=>decide (j<i)) g0 t:=by
   intro t
   have e:recs=recs.take i++recs.drop i:=(List.take_append_drop i recs).symm
   conv=>rhs;rw [e]
   rw [SG_split,SG_none (rs:=recs.drop i)]
   ·refine SG_agree (fun j r v hj _=>?_) rfl
    have:j<i:=by have:=(List.getElem?_eq_some_iff.1 hj).1;rw [List.length_take] at this;omega
    simp [this]
   ·intro j r v _ _
    have:(recs.take i).length=i:=by rw [List.length_take];omega
    simp [this]
  have takeH:∀t,SH (recs.take i) 0 (fun _=>true) h0 t=SH recs 0 (fun j=>decide (j<i)) h0 t:=by
   intro t
   have e:recs=recs.take i++recs.drop i:=(List.take_append_drop i recs).symm
   conv=>rhs;rw [e]
   rw [SH_split,SH_none (rs:=recs.drop i)]
   ·refine SH_agree (fun j r v hj _=>?_) rfl
    have:j<i:=by have:=(List.getElem?_eq_some_iff.1 hj).1;rw [List.length_take] at this;omega
    simp [this]
   ·intro j r v _ _
    have:(recs.take i).length=i:=by rw [List.length_take];omega
    simp [this]
  have hagree:Agrees ri (SG (recs.take i) 0 (fun _=>true) g0) (SH (recs.take i) 0 (fun _=>true) h0) (SG recs 0 (fun j=>listed.getD j false) g0) (SH recs 0 (fun j=>listed.getD j false) h0):={
   t:=fun t ht=>by
    rw [takeG]
    refine SG_agree (fun j r v hj hv=>?_) rfl
    simp only [Nat.zero_add]
    by_cases e:j=i
    ·subst e;simp [hDi]
    ·rcases (pairs j r hj e).2.2 with h|h
     ·rw [Bool.eq_iff_iff];simpa using h
     ·have:=h.1 t ht;rw [hv] at this;cases this
   o:=fun t ht=>by
    rw [takeH]
    refine SH_agree (fun j r v hj hv=>?_) rfl
    simp only [Nat.zero_add]
    by_cases e:j=i
    ·subst e;simp [hDi]
    ·rcases (pairs j r hj e).2.2 with h|h
     ·rw [Bool.eq_iff_iff];simpa using h
     ·have:=h.2.1 t ht;rw [hv] at this;cases this
   ft:=fun d hd t=>by
    rcases SG_from recs 0 (fun j=>listed.getD j false) g0 (t:=t) with h|⟨j,r,v,h1,h2,h3,h4⟩
    ·rw [h];exact hfg ri (List.mem_of_getElem? hri) d hd t
    ·rw [h4]
     simp only [Nat.zero_add] at h2
     have hne:j≠i:=by intro e;subst e;rw [hDi] at h2;cases h2
     exact freeW_ok ((pairs j r h1 hne).2.1 h2 d hd).1 t v h3
   fo:=fun d hd t o ho=>by
    rcases SH_from recs 0 (fun j=>listed.getD j false) h0 (t:=t) with h|⟨j,r,v,h1,h2,h3,h4⟩
    ·rw [h] at ho;exact hfh ri (List.mem_of_getElem? hri) d hd t o ho
    ·rw [h4] at ho
     simp only [Nat.zero_add] at h2
     have hne:j≠i:=by intro e;subst e;rw [hDi] at h2;cases h2
     obtain ⟨k1,k2⟩:=freeWh_ok ((pairs j r h1 hne).2.1 h2 d hd).2 t v h3
     exact ⟨k1,k2 o ho⟩}
  refine hop i ri hri _ _ hagree L a w H _ fun L' a' w' H'=>?_
  refine ih (listed.setIfInBounds i true) a' w' (by simpa using hsz) ?_ hclosed' ⟨L',?_⟩
  ·rw [Array.toList_setIfInBounds,List.countP_set (by simpa using hil)]
   have hget:listed.toList[i]'(by simpa using hil)=false:=by
    rw [Array.getD_eq_getD_getElem?,Array.getElem?_eq_getElem hil] at hDi
    simpa using hDi
   rw [hget,hcount]
   simp
  ·have eg:SG recs 0 (fun j=>(listed.setIfInBounds i true).getD j false) g0=ri.g (SG recs 0 (fun j=>listed.getD j false) g0):=by
    funext t
    cases hw:lookW t ri.wt with
    |none=>
     have:ri.g (SG recs 0 (fun j=>listed.getD j false) g0) t=SG recs 0 (fun j=>listed.getD j false) g0 t:=by simp [Rc.g,hw]
     rw [this]
     refine SG_agree (fun j r v hj hv=>?_) rfl
     simp only [Nat.zero_add,hset]
     by_cases e:j=i
     ·subst e;rw [hri] at hj;cases hj;rw [hw] at hv;cases hv
     ·rw [if_neg e]
    |some v=>
     have:ri.g (SG recs 0 (fun j=>listed.getD j false) g0) t=v:=by simp [Rc.g,hw]
     rw [this]
     have e:recs=recs.take i++(ri::recs.drop (i+1)):=split_at hri
     have hl:(recs.take i).length=i:=by rw [List.length_take];omega
     rw [e,SG_split,hl]
     simp only [SG,Nat.zero_add,hset,if_true]
     rw [SG_none]
     ·simp [Rc.g,hw]
     ·intro j r v' hj hv'
      have hj':recs[i+1+j]? = some r:=by rw [List.getElem?_drop] at hj;exact hj
      have:=(pairs (i+1+j) r hj' (by omega)).1 t v' hv'
      rw [hw] at this;cases this
   have eh:SH recs 0 (fun j=>(listed.setIfInBounds i true).getD j false) h0=ri.h (SH recs 0 (fun j=>listed.getD j false) h0):=by
    funext t
    cases hw:lookW t ri.wh with
    |none=>
     have:ri.h (SH recs 0 (fun j=>listed.getD j false) h0) t=SH recs 0 (fun j=>listed.getD j false) h0 t:=by simp [Rc.h,hw]
     rw [this]
     refine SH_agree (fun j r v hj hv=>?_) rfl
     simp only [Nat.zero_add,hset]
     by_cases e:j=i
     ·subst e;rw [hri] at hj;cases hj;rw [hw] at hv;cases hv
     ·rw [if_neg e]
    |some v=>
     have:ri.h (SH recs 0 (fun j=>listed.getD j false) h0) t=v:=by simp [Rc.h,hw]
     rw [this]
     have e:recs=recs.take i++(ri::recs.drop (i+1)):=split_at hri
     have hl:(recs.take i).length=i:=by rw [List.length_take];omega
     rw [e,SH_split,hl]
     simp only [SH,Nat.zero_add,hset,if_true]
     rw [SH_none]
     ·simp [Rc.h,hw]
     ·intro j r v' hj hv'
      have hj':recs[i+1+j]? = some r:=by rw [List.getElem?_drop] at hj;exact hj
      rcases (pairs (i+1+j) r hj' (by omega)).2.2 with h|h
      ·have hnot:¬(i+1+j<i):=by omega
       rw [if_neg (by omega)]
       cases hb:listed.getD (i+1+j) false with
       |false=>rfl
       |true=>exact absurd (h.1 hb) hnot
      ·have:=h.2.2 t v' hv'
       rw [hw] at this;cases this
   rw [eg,eh];exact H'
theorem freeAll_ok {env:Env} {heap:Heap}:∀{l:List Nat},freeAll env heap l=true→∀d∈l,freeEnv d env=true∧freeHeap d heap=true
 | [],_,d,e=>by simp at e
 |j::r,h,d,e=>by
  simp only [freeAll,Bool.and_eq_true] at h
  rcases List.mem_cons.1 e with rfl|e
  ·exact h.1
  ·exact freeAll_ok h.2 d e
theorem freshAll_ok {env:Env} {heap:Heap}:∀{l:List Rc},freshAll env heap l=true→∀r∈l,∀d∈r.fr,freeEnv d env=true∧freeHeap d heap=true
 | [],_,r,e=>by simp at e
 |j::rs,h,r,e=>by
  simp only [freshAll,Bool.and_eq_true] at h
  rcases List.mem_cons.1 e with rfl|e
  ·exact freeAll_ok h.1
  ·exact freshAll_ok h.2 r e
theorem AWp.draw (hT:TysOk C.P T) (hM:C.P.follows .mixedOrders=true) {Q:Exit→Env→Heap→Prop} {env:Env} {heap:Heap} {id:Nat}
  (h:AOpsD C.P T C.nt ops (fun recs env' heap'=>drawOk ops.toList recs.reverse env heap=true∧Q .normal env' heap') ops.toList [] env heap):AWp C (.region id ops true) Q env heap:=by
 intro L a w H
 refine wp_region_any hM ?_
 obtain ⟨recs,env',heap',⟨hok,hq⟩,hlen,e1,e2,hop⟩:=AOpsD_recs hT (Q:=fun e a' w'=>∃L' env' heap',Rel C L' (lk env') (lko heap') a' w'∧Q e env' heap') ops.toList 0 [] env heap (fun j o hj=>by simpa using hj) h
 simp only [List.append_nil,List.reverse_reverse] at hok
 simp only [drawOk,Bool.and_eq_true] at hok
 obtain ⟨⟨k1,k2⟩,k3⟩:=hok
 have hfr:=freshAll_ok k3
 refine draw_any (recs:=recs) (g0:=lk env) (h0:=lko heap) (by simpa using hlen) k1 k2 (fun r hr d hd t=>freeEnv_look (hfr r hr d hd).1 t) (fun r hr d hd j o ho=>freeHeap_look (hfr r hr d hd).2 j o ho)
  (fun i r hr=>by have:=hop i r hr;rwa [Nat.zero_add] at this) (fun L' a' w' H'=>⟨L',env',heap',by rw [e1,e2];exact H',hq⟩) ops.size (Array.replicate ops.size false) a _ (by simp) (by simp [List.countP_replicate]) ?_ ⟨L,?_⟩
 ·intro j o _ hD
  have:(Array.replicate ops.size false).getD j false=false:=by
   rw [Array.getD_eq_getD_getElem?,Array.getElem?_replicate]
   split<;>rfl
  simp only at hD
  rw [this] at hD;cases hD
 ·have hnone:∀j,(Array.replicate ops.size false).getD j false=false:=by
   intro j
   rw [Array.getD_eq_getD_getElem?,Array.getElem?_replicate]
   split<;>rfl
  have eg:SG recs 0 (fun i=>(Array.replicate ops.size false).getD i false) (lk env)=lk env:=funext fun t=>SG_none fun j r v _ _=>hnone _
  have eh:SH recs 0 (fun i=>(Array.replicate ops.size false).getD i false) (lko heap)=lko heap:=funext fun t=>SH_none fun j r v _ _=>hnone _
  rw [eg,eh]
  exact H.world (n:=0) ⟨rfl,rfl,rfl,Nat.le_refl _,fun _ _=>rfl⟩ (fun _ _=>rfl)
end
structure ALoop (C:Ctx) (c:Code) (Q:Exit→Env→Heap→Prop) (env:Env) (heap:Heap):Prop where
 out:AWp C (.loop c) Q env heap
def ARun (C:Ctx) (T:Tys):Code→(Exit→Env→Heap→Prop)→Env→Heap→Prop
 |.skip,Q,env,heap=>Q .normal env heap
 |.region _ ops draw,Q,env,heap=>match draw with
  |false=>AOps C.P T C.nt ops (Q .normal) ops.toList env heap
  |true=>AOpsD C.P T C.nt ops (fun recs env' heap'=>drawOk ops.toList recs.reverse env heap=true∧Q .normal env' heap') ops.toList [] env heap
 |.seq x y,Q,env,heap=>ARun C T x (fun e env heap=>match e with|.normal=>ARun C T y Q env heap|e=>Q e env heap) env heap
 |.cond c x y,Q,env,heap=>match opnd (fun t=>look t env) c with
  |.d (.b b)=>match b with
   |true=>ARun C T x Q env heap
   |false=>ARun C T y Q env heap
  |_=>False
 |.block id x,Q,env,heap=>ARun C T x (fun e env heap=>match e with|.exit i=>(match Nat.beq i id with|true=>Q .normal env heap|false=>Q (.exit i) env heap)|e=>Q e env heap) env heap
 |.loop c,Q,env,heap=>ALoop C c Q env heap
 |.exit id,Q,env,heap=>Q (.exit id) env heap
 |.ret,Q,env,heap=>Q .ret env heap
 |.rangeFunc ..,_,_,_=>False
 |.scope x,Q,env,heap=>ARun C T x (fun e env heap=>match e with|.goto _=>False|e=>Q e env heap) env heap
 |.label _,Q,env,heap=>Q .normal env heap
 |.goto _,_,_,_=>False
 |.refuse _,_,_,_=>False
section
variable {C : Ctx} {T : Tys}
theorem ARun_ok (hT:TysOk C.P T) (hM:C.P.follows .mixedOrders=true):∀{c:Code} {Q:Exit→Env→Heap→Prop} {env:Env} {heap:Heap},ARun C T c Q env heap→AWp C c Q env heap:=by
 intro c
 induction c with
 |skip=>exact fun h=>AWp.skip h
 |region id ops draw=>
  intro Q env heap h
  cases draw with
  |false=>exact AWp.region hT h
  |true=>exact AWp.draw hT hM h
 |seq x y ihx ihy=>
  intro Q env heap h
  refine AWp.seq ((ihx h).mono fun e env heap h=>?_)
  cases e with
  |normal=>exact ihy h
  |_=>exact h
 |cond c x y ihx ihy=>
  intro Q env heap h
  simp only [ARun] at h
  split at h
  ·rename_i b e
   refine AWp.cond e (fun hb=>ihx ?_) (fun hb=>ihy ?_)
   ·subst hb;exact h
   ·subst hb;exact h
  ·exact h.elim
 |block id x ih=>intro Q env heap h;exact AWp.block (ih h)
 |loop c ih=>exact fun h=>h.out
 |exit id=>exact fun h=>AWp.exit h
 |ret=>exact fun h=>AWp.ret h
 |label l=>exact fun h=>fun L a w hr=>wp_label ⟨L,_,_,hr,h⟩
 |scope x ih=>
  intro Q env heap h L a w hr
  refine wp_scope_straight (wp_mono (ih h L a w hr) fun e a' w' ⟨L',env',heap',h1,h2⟩=>?_)
  cases e with
  |goto l=>exact h2.elim
  |_=>exact ⟨L',env',heap',h1,h2⟩
 |_=>exact fun h=>h.elim
def CovE (env:Env):Env→Prop→Prop
 | [],p=>p
 |(t,v)::r,p=>forceV (fun x=>x.le v) (look t env)∧CovE env r p
def CovH (heap:Heap):Heap→Prop
 | []=>True
 |(t,o)::r=>(match lookO t heap with|some o'=>OLe o' o|none=>False)∧CovH heap r
theorem CovE_ok {env:Env} {p:Prop}:∀{e:Env},CovE env e p→(∀t,(look t env).le (look t e))∧p
 | [],h=>⟨fun t=>⟨fun w L gd v _=>.any⟩,h⟩
 |(s,v)::r,h=>by
  obtain ⟨h1,h2⟩:=CovE_ok h.2
  refine ⟨fun t=>?_,h2⟩
  rw [look_cons]
  split
  ·rename_i e;rw [e];exact forceV_eq (k:=fun x=>x.le v) h.1
  ·exact h1 t
theorem CovH_ok {heap:Heap}:∀{e:Heap},CovH heap e→∀id o,lookO id e=some o→∃o',lookO id heap=some o'∧OLe o' o
 | [],h,id,o,e=>by simp [lookO] at e
 |(s,v)::r,h,id,o,e=>by
  rw [lookO_cons] at e
  split at e
  ·rename_i hs
   cases e
   rw [hs]
   have h1:=h.1
   cases hl:lookO s heap with
   |none=>rw [hl] at h1;exact h1.elim
   |some o'=>rw [hl] at h1;exact ⟨o',rfl,h1⟩
  ·exact CovH_ok h.2 id o e
theorem Covers.mk' {env env':Env} {heap heap':Heap} (h:CovE env env' (CovH heap heap')):Covers env heap env' heap':=
 ⟨(CovE_ok h).1,CovH_ok (CovE_ok h).2⟩
theorem ALoop.intro {X:Type} {c:Code} {Q:Exit→Env→Heap→Prop} {env:Env} {heap:Heap} (hT:TysOk C.P T) (hM:C.P.follows .mixedOrders=true) (S:X→Env×Heap) (μ:X→Nat) (x0:X) (h0:CovE env (S x0).1 (CovH heap (S x0).2))
  (round:∀x,ARun C T c (fun e env' heap'=>match e with|.normal=>∃x',μ x'<μ x∧CovE env' (S x').1 (CovH heap' (S x').2)|e=>Q e env' heap') (S x).1 (S x).2):ALoop C c Q env heap:=
 ⟨AWp.loop (fun x=>(S x).1) (fun x=>(S x).2) μ x0 (Covers.mk' h0) fun x=>(ARun_ok hT hM (round x)).mono fun e env' heap' h=>by
  cases e with
  |normal=>obtain ⟨x',h1,h2⟩:=h;exact ⟨x',h1,Covers.mk' h2⟩
  |_=>exact h⟩
def ARounds (C:Ctx) (T:Tys) (c:Code) (Q:Exit→Env→Heap→Prop):Nat→Env→Heap→Prop
 |0,_,_=>False
 |n+1,env,heap=>ARun C T c (fun e env heap=>match e with|.normal=>ARounds C T c Q n env heap|e=>Q e env heap) env heap
theorem ARounds_ok (hT:TysOk C.P T) (hM:C.P.follows .mixedOrders=true) {c:Code} {Q:Exit→Env→Heap→Prop}:∀(n:Nat) {env:Env} {heap:Heap},ARounds C T c Q n env heap→∀L a w,Rel C L (lk env) (lko heap) a w→
  Code.rounds C.P c (fun e a w=>∃L env heap,Rel C L (lk env) (lko heap) a w∧Q e env heap) n a w
 |0,env,heap,h,L,a,w,H=>h.elim
 |n+1,env,heap,h,L,a,w,H=>by
  have h1:=ARun_ok hT hM h L a w H
  rw [rounds_succ]
  refine wp_mono h1 fun e a' w' ⟨L',env',heap',k1,k2⟩=>?_
  cases e with
  |normal=>exact ARounds_ok hT hM n k2 L' a' w' k1
  |_=>exact ⟨L',env',heap',k1,k2⟩
theorem ALoop.rounds (hT:TysOk C.P T) (hM:C.P.follows .mixedOrders=true) (n:Nat) {c:Code} {Q:Exit→Env→Heap→Prop} {env:Env} {heap:Heap} (h:ARounds C T c Q n env heap):ALoop C c Q env heap:=
 ⟨fun L a w H=>wp_loop_rounds n (ARounds_ok hT hM n h L a w H)⟩
def keepE (k:Env→Prop) (env:Env):List Nat→Prop
 | []=>k []
 |t::r=>forceV (fun v=>keepE (fun e=>k ((t,v)::e)) env r) (look t env)
def keepH (k:Heap→Prop) (heap:Heap):List Nat→Prop
 | []=>k []
 |i::r=>match lookO i heap with|some o=>keepH (fun h=>k ((i,o)::h)) heap r|none=>keepH k heap r
theorem keepE_ok {env:Env}:∀{l:List Nat} {k:Env→Prop},keepE k env l→∃e,k e∧∀t,look t e=look t env∨look t e=.any
 | [],k,h=>⟨[],h,fun t=>.inr rfl⟩
 |s::r,k,h=>by
  obtain ⟨e,h1,h2⟩:=keepE_ok (forceV_eq (k:=fun v=>keepE (fun e=>k ((s,v)::e)) env r) h)
  refine ⟨_,h1,fun t=>?_⟩
  rw [look_cons]
  split
  ·rename_i e;rw [e];exact .inl rfl
  ·exact h2 t
theorem keepH_ok {heap:Heap}:∀{l:List Nat} {k:Heap→Prop},keepH k heap l→∃h,k h∧∀i o,lookO i h=some o→lookO i heap=some o
 | [],k,h=>⟨[],h,fun i o e=>by simp [lookO] at e⟩
 |s::r,k,h=>by
  unfold keepH at h
  split at h
  ·rename_i o ho
   obtain ⟨hp,h1,h2⟩:=keepH_ok h
   refine ⟨_,h1,fun i o' e=>?_⟩
   rw [lookO_cons] at e
   split at e
   ·rename_i hi;cases e;rw [hi];exact ho
   ·exact h2 i o' e
  ·exact keepH_ok h
def slT {α:Type} [Inhabited α] (sz:Nat) (enc:α→List D) (l:List α):D:=.sl sz l.length fun k=>enc (l.getD k default)
end
theorem not_memN {i:Nat} {l:List Nat} (h:memN i l=false):i∉l:=fun e=>by rw [memN_of.2 e] at h;cases h
theorem Rel.adopt {C:Ctx} {L:Lay} {g:Nat→AVal} {h:Nat→Option AObj} {a:Act} {w:World} (H:Rel C L g h a w) {s id sz:Nat} (hlid:id∉C.lid) {t:TypeId} {f:Nat→List D} (hs:g s=.d (.v (.slice none 0 0))) (he:∀t,(g t).free id=true) (hh:∀j o,h j=some o→j≠id∧o.free id=true) :
  Rel C (L.upd id none 0) (gput g s (.rsl id sz 0 0)) (hput h id (.row t sz 0 f)) a w:=by
 have hnew:=H.new hlid he hh (Below.refl _ w) none 0 (fun b h=>by cases h) (o:=.row t sz 0 f) (.row0 (by simp [Lay.upd]) (by simp [Lay.upd]))
 exact { hnew with
  slot:=fun x=>by
   unfold gput
   split
   ·rename_i e
    have h1:=H.slot s
    rw [hs] at h1
    rw [e,repA_v h1]
    have:RepA w (L.upd id none 0) (good C (L.upd id none 0) (hput h id (.row t sz 0 f)) w) (.rsl id sz 0 0) (.slice (((L.upd id none 0).blk id).map fun b=>⟨b,0*sz,none⟩) 0 ((L.upd id none 0).cap id-0)):=.rsl (by simp [Lay.upd]) (fun h=>by omega) (fun _=>rfl)
    simpa [Lay.upd] using this
   ·exact hnew.slot x}
theorem ALoop.adopt {C:Ctx} {c:Code} {Q:Exit→Env→Heap→Prop} {env:Env} {heap:Heap} (s id sz:Nat) (t:TypeId) (f:Nat→List D) (hs:look s env=.d (.v (.slice none 0 0))) (he:freeEnv id env=true) (hh:freeHeap id heap=true)
  (h:ALoop C c Q ((s,.rsl id sz 0 0)::env) ((id,.row t sz 0 f)::heap)) (hl:memN id C.lid=false:=by rfl):ALoop C c Q env heap:=by
 refine ⟨fun L a w H=>?_⟩
 have hn:=Rel.adopt H (not_memN hl) (s:=s) (id:=id) (sz:=sz) (t:=t) (f:=f) hs (freeEnv_look he) (freeHeap_look hh)
 rw [←lk_cons,←lko_cons] at hn
 exact h.out _ a w hn
theorem AWp.adoptCell {C:Ctx} {c:Code} {Q:Exit→Env→Heap→Prop} {env:Env} {heap heap':Heap} (b i id sz:Nat) (t:TypeId) (f:Nat→List D) {cells:List AVal} {tag:Option TypeId} (hb:lookO b heap=some (.box cells tag)) (hs:cells[i]? = some (.d (.v (.slice none 0 0)))) (he:freeEnv id env=true) (hh:freeHeap id heap=true)
  (hset:setO b (.box (cells.set i (.rsl id sz 0 0)) tag) heap=some heap') (h:AWp C c Q env ((id,.row t sz 0 f)::heap')) (hl:memN id C.lid=false:=by rfl):AWp C c Q env heap:=by
 intro L a w H
 have hfree:=freeHeap_look hh
 have hne:b≠id:=(hfree b _ hb).1
 have hnew:=H.new (not_memN hl) (freeEnv_look he) hfree (Below.refl _ w) none 0 (fun b h=>by cases h) (o:=.row t sz 0 f) (.row0 (by simp [Lay.upd]) (by simp [Lay.upd]))
 refine h (L.upd id none 0) a w ?_
 have hobj:hput (lko heap) id (.row t sz 0 f) b=some (.box cells tag):=by unfold hput;rw [if_neg hne];exact hb
 have hgood:∀b',good C (L.upd id none 0) (hput (lko heap) id (.row t sz 0 f)) w b'→good C (L.upd id none 0) (lko ((id,.row t sz 0 f)::heap')) w b':=by
  intro b' hgb
  refine ⟨hgb.1,hgb.2.1,?_⟩
  rintro ⟨j,oj,h1,h2⟩
  rw [lko_cons,lko_set hset] at h1
  unfold hput at h1
  by_cases hj:j=id
  ·exact hgb.2.2 ⟨j,.row t sz 0 f,by unfold hput;rw [if_pos hj],h2⟩
  ·rw [if_neg hj] at h1
   by_cases hjb:j=b
   ·exact hgb.2.2 ⟨b,.box cells tag,hobj,by rw [←hjb];exact h2⟩
   ·rw [if_neg hjb] at h1
    exact hgb.2.2 ⟨j,oj,by unfold hput;rw [if_neg hj];exact h1,h2⟩
 have hlook:∀j oj,lko ((id,.row t sz 0 f)::heap') j=some oj→(j=b∧oj=.box (cells.set i (.rsl id sz 0 0)) tag)∨hput (lko heap) id (.row t sz 0 f) j=some oj:=by
  intro j oj hj
  rw [lko_cons,lko_set hset] at hj
  unfold hput at hj ⊢
  by_cases h1:j=id
  ·right;rw [if_pos h1] at hj ⊢;exact hj
  ·rw [if_neg h1] at hj ⊢
   by_cases h2:j=b
   ·left;rw [if_pos h2] at hj;exact ⟨h2,(Option.some.inj hj).symm⟩
   ·right;rw [if_neg h2] at hj;exact hj
 have hsome:∀j oj,lko ((id,.row t sz 0 f)::heap') j=some oj→∃o',hput (lko heap) id (.row t sz 0 f) j=some o':=by
  intro j oj hj
  rcases hlook j oj hj with ⟨rfl,_⟩|h
  ·exact ⟨_,hobj⟩
  ·exact ⟨_,h⟩
 exact { hnew with
  slot:=fun x=>(hnew.slot x).mono1 (Nat.le_refl _) (fun b' _ hb'=>⟨hgood b' hb',rfl⟩) (fun _ _=>rfl)
  obj:=fun j oj hj=>by
   have mono:∀{o},RepO w (good C (L.upd id none 0) (hput (lko heap) id (.row t sz 0 f)) w) (L.upd id none 0) j o→RepO w (good C (L.upd id none 0) (lko ((id,.row t sz 0 f)::heap')) w) (L.upd id none 0) j o:=fun h=>
    h.mono (Nat.le_refl _) (fun b' _ hb'=>⟨hgood b' hb',rfl⟩) (fun _ _=>rfl) (fun b _ hb=>⟨hb,rfl⟩) (fun _=>true) (fun _ _=>⟨rfl,rfl⟩) rfl (fun _ h=>by cases h)
   rcases hlook j oj hj with ⟨rfl,rfl⟩|h
   ·have hro:=hnew.obj _ _ hobj
    refine mono ?_
    cases hro with
    |box htag hbk hheap hz h1 hr=>
     refine .box htag hbk hheap (by simpa using hz) (fun q hq=>h1 q (by simpa using hq)) (fun q y hy=>?_)
     rw [List.getElem?_set] at hy
     split at hy
     ·rename_i e
      subst e
      split at hy
      ·cases hy
       have hv:=hr i _ hs
       rw [repA_v hv]
       have:RepA w (L.upd id none 0) (good C (L.upd id none 0) (hput (lko heap) id (.row t sz 0 f)) w) (.rsl id sz 0 0) (.slice (((L.upd id none 0).blk id).map fun b=>⟨b,0*sz,none⟩) 0 ((L.upd id none 0).cap id-0)):=.rsl (by simp [Lay.upd]) (fun h=>by omega) (fun _=>rfl)
       simpa [Lay.upd] using this
      ·cases hy
     ·exact hr q y hy
   ·exact mono (hnew.obj j oj h)
  inj:=fun x y ox oy b' h1 h2=>by
   obtain ⟨o1,e1⟩:=hsome x ox h1
   obtain ⟨o2,e2⟩:=hsome y oy h2
   exact hnew.inj x y o1 o2 b' e1 e2
  own0:=fun x ox b' h1=>by
   obtain ⟨o1,e1⟩:=hsome x ox h1
   exact hnew.own0 x o1 b' e1
  kept:=fun x ox hl' h1=>by
   obtain ⟨o1,e1⟩:=hsome x ox h1
   exact hnew.kept x o1 hl' e1}
theorem ALoop.adoptCell {C:Ctx} {c:Code} {Q:Exit→Env→Heap→Prop} {env:Env} {heap heap':Heap} (b i id sz:Nat) (t:TypeId) (f:Nat→List D) {cells:List AVal} {tag:Option TypeId} (hb:lookO b heap=some (.box cells tag)) (hs:cells[i]? = some (.d (.v (.slice none 0 0)))) (he:freeEnv id env=true) (hh:freeHeap id heap=true)
  (hset:setO b (.box (cells.set i (.rsl id sz 0 0)) tag) heap=some heap') (h:ALoop C c Q env ((id,.row t sz 0 f)::heap')) (hl:memN id C.lid=false:=by rfl):ALoop C c Q env heap:=
 ⟨AWp.adoptCell b i id sz t f hb hs he hh hset h.out hl⟩
theorem AVal.le.sl {sz n m:Nat} {f g:Nat→List D} (hn:n=m) (h:∀k,k<n→f k=g k):(AVal.d (.sl sz n f)).le (.d (.sl sz m g)):=by
 subst hn
 refine ⟨fun w L gd v hv=>?_⟩
 have hd:=repA_sl hv
 cases hd with
 |sl0 _ _ A c hc=>exact .d (.sl0 _ _ _ _ hc)
 |sl _ _ _ b o c cs hn hc hm hg hb hz hcell hrep=>exact .d (.sl _ _ _ b o c cs hn hc hm hg hb (fun k hk=>by rw [←h k hk];exact hz k hk) hcell (fun k hk j x hx=>hrep k hk j x (by rw [h k hk];exact hx)))
theorem AVal.le.nil {sz:Nat} {f:Nat→List D}:(AVal.d (.v (.slice none 0 0))).le (.d (.sl sz 0 f)):=⟨fun w L gd v hv=>by rw [repA_v hv];exact .d (.sl0 _ _ _ _ (by decide))⟩
theorem AVal.le.agg {l m:List AVal} (h:OLe.CLe l m):(AVal.agg l).le (.agg m):=by
 refine ⟨fun w L gd v hv=>?_⟩
 obtain ⟨vs,rfl,k1,k2,k3⟩:=repA_agg hv
 obtain ⟨e1,e2⟩:=CLe_get h
 refine .agg (by omega) (fun i hi=>k2 i (by omega)) fun i y hy=>?_
 obtain ⟨x,hx,hle⟩:=e2 i y hy
 exact hle.out _ _ _ _ (k3 i x hx)
theorem AVal.le.tup {l m:List AVal} (h:OLe.CLe l m):(AVal.tup l).le (.tup m):=by
 refine ⟨fun w L gd v hv=>?_⟩
 obtain ⟨e1,e2⟩:=CLe_get h
 cases hv with
 |tup hz hr=>
  refine .tup (by omega) fun i y hy=>?_
  obtain ⟨x,hx,hle⟩:=e2 i y hy
  exact hle.out _ _ _ _ (hr i x hx)
theorem AVal.le.any (x:AVal):x.le .any:=⟨fun _ _ _ _ _=>.any⟩
theorem PSpec.argsC {P:Program} {f:FuncId} {args args':List AVal} {post:AVal→Prop} (h:PSpec P f args post) (hc:OLe.CLe args' args):PSpec P f args' post:=by
 obtain ⟨h1,h2⟩:=CLe_get hc
 refine h.args h1.symm fun i x x' hx hx'=>?_
 obtain ⟨y,hy,hle⟩:=h2 i x hx
 rw [hx'] at hy
 cases hy
 exact hle
theorem PSpec.run {P : Program} {T : Tys} {f : FuncId} {fn : Func} {c : Code} {args : List AVal} {post : AVal → Prop} (hT : TysOk P T) (hM : P.follows .mixedOrders = true) (hf : P.funcs[f]? = some fn) (hname : (fn.name == "runtime.NumGoroutine") = false) (hb : fn.body = some c) {nt : Nat} (hn : fn.ntmps = nt) (ha : args.length ≤ nt)
  {rs:List ResultVar} (hrs:fn.results.toList=rs) (h:∀w0 R0 hG,ARun ⟨P,nt,w0,R0,[],L0 0,hG⟩ T c (fun e env heap=>match e with|.normal=>resK T (fun t=>look t env) (fun i=>lookO i heap) (postL fun r=>∃r',r.le r'∧post r'∧r'.data=true) rs|.ret=>resK T (fun t=>look t env) (fun i=>lookO i heap) (postL fun r=>∃r',r.le r'∧post r'∧r'.data=true) rs|_=>False) (argEnv 0 args) []) :
  PSpec P f args post:=by
 refine (PSpec.intro hT hf hname hb hn ha hrs fun w0 R0 hG=>ARun_ok (C:=⟨P,nt,w0,R0,[],L0 0,hG⟩) hT hM (h w0 R0 hG)).weaken (fun r ⟨⟨r',h1,h2,h3⟩,_⟩ hd=>⟨r',h1,h2,h3⟩) ?_
 rintro t sz n g ⟨_,h3⟩
 cases h3
theorem PSpec.runF {P : Program} {T : Tys} {f : FuncId} {fn : Func} {c : Code} {args : List AVal} {post : AVal → Prop} (hT : TysOk P T) (hM : P.follows .mixedOrders = true) (hf : P.funcs[f]? = some fn) (hname : (fn.name == "runtime.NumGoroutine") = false) (hb : fn.body = some c) {nt : Nat} (hn : fn.ntmps = nt) (ha : args.length ≤ nt)
  {t:Nat} (hrs:fn.results = #[.tmp t]) (h:∀w0 R0 hG,ARun ⟨P,nt,w0,R0,[],L0 0,hG⟩ T c (fun e env heap=>match e with|.normal=>resF env heap post t|.ret=>resF env heap post t|_=>False) (argEnv 0 args) []) :
  PSpec P f args post:=PSpec.introF hT hf hname hb hn ha hrs fun w0 R0 hG=>ARun_ok (C:=⟨P,nt,w0,R0,[],L0 0,hG⟩) hT hM (h w0 R0 hG)
def sw (p q i:Nat):Nat:=match Nat.beq i p with
 |true=>q
 |false=>match Nat.beq i q with
  |true=>p
  |false=>i
theorem sw_eq (p q i:Nat):sw p q i=if i=p then q else if i=q then p else i:=by
 unfold sw
 split
 ·rename_i h;rw [if_pos (Nat.eq_of_beq_eq_true h)]
 ·rename_i h
  have h:=Nat.ne_of_beq_eq_false h
  rw [if_neg h]
  split
  ·rename_i h;rw [if_pos (Nat.eq_of_beq_eq_true h)]
  ·rename_i h;rw [if_neg (Nat.ne_of_beq_eq_false h)]
theorem sw_sw (p q i:Nat):sw p q (sw p q i)=i:=by
 simp only [sw_eq];repeat' split
 all_goals omega
mutual
def AVal.ren (p q:Nat):AVal→AVal
 |.any=>.any
 |.d x=>.d x
 |.eptr a b c k e=>.eptr a b c k e
 |.agg l=>.agg (AVal.renL p q l)
 |.tup l=>.tup (AVal.renL p q l)
 |.ptr j o=>.ptr (sw p q j) o
 |.rsl j a b c=>.rsl (sw p q j) a b c
 |.rptr j a b c=>.rptr (sw p q j) a b c
 |.mref j=>.mref (sw p q j)
 |.fn f l=>.fn f (AVal.renL p q l)
 |.fresh a b c k=>.fresh a b c k
def AVal.renL (p q:Nat):List AVal→List AVal
 | []=>[]
 |x::r=>AVal.ren p q x::AVal.renL p q r
end
theorem AVal.renL_eq (p q:Nat):∀l,AVal.renL p q l=l.map (AVal.ren p q)
 | []=>rfl
 |x::r=>by rw [AVal.renL,AVal.renL_eq p q r];rfl
def AObj.ren (p q:Nat):AObj→AObj
 |.box l tag=>.box (AVal.renL p q l) tag
 |.row t sz n f=>.row t sz n f
 |.mp l=>.mp (l.map fun x=>(x.1,x.2.ren p q))
 |.vrow t l=>.vrow t (AVal.renL p q l)
 |.dmp l=>.dmp l
def Lay.ren (p q:Nat) (L:Lay):Lay:=⟨fun i=>L.blk (sw p q i),fun i=>L.cap (sw p q i),L.old⟩
theorem RepA.ren {w:World} {L:Lay} (p q:Nat) {gd:Nat→Prop} {x:AVal} {v:Value} (h:RepA w L gd x v):RepA w (L.ren p q) gd (x.ren p q) v:=by
 have hb:∀id,(L.ren p q).blk (sw p q id)=L.blk id:=fun id=>by simp only [Lay.ren,sw_sw]
 have hc:∀id,(L.ren p q).cap (sw p q id)=L.cap id:=fun id=>by simp only [Lay.ren,sw_sw]
 induction h with
 |any=>exact .any
 |d h=>exact .d h
 |agg hz h1 h ih=>
  rw [AVal.ren,AVal.renL_eq]
  refine .agg (by simpa using hz) (fun i hi=>h1 i (by simpa using hi)) fun i x hx=>?_
  rw [List.getElem?_map] at hx
  obtain ⟨y,hy,rfl⟩:=Option.map_eq_some_iff.1 hx
  exact ih i y hy
 |tup hz h ih=>
  rw [AVal.ren,AVal.renL_eq]
  refine .tup (by simpa using hz) fun i x hx=>?_
  rw [List.getElem?_map] at hx
  obtain ⟨y,hy,rfl⟩:=Option.map_eq_some_iff.1 hx
  exact ih i y hy
 |ptr h=>rw [AVal.ren];exact .ptr (by rw [hb];exact h)
 |eptr h hk=>exact .eptr h hk
 | @rsl good id sz o n ad hcap hbl ha=>
  rw [AVal.ren]
  have:=RepA.rsl (w:=w) (L:=L.ren p q) (good:=good) (id:=sw p q id) (sz:=sz) (o:=o) (n:=n) (ad:=ad) (by rw [hc];exact hcap) (by rw [hb];exact hbl) (by rw [hb,hc];exact ha)
  rw [hc] at this
  exact this
 |rptr h=>rw [AVal.ren];exact .rptr (by rw [hb];exact h)
 |mref h=>rw [AVal.ren];exact .mref (by rw [hb];exact h)
 |fn hz h ih=>
  rw [AVal.ren,AVal.renL_eq]
  refine .fn (by simpa using hz) fun i x hx=>?_
  rw [List.getElem?_map] at hx
  obtain ⟨y,hy,rfl⟩:=Option.map_eq_some_iff.1 hx
  exact ih i y hy
def renE (p q:Nat):Env→Env
 | []=>[]
 |(t,v)::r=>(t,v.ren p q)::renE p q r
def renH (p q:Nat):Heap→Heap
 | []=>[]
 |(t,o)::r=>(sw p q t,o.ren p q)::renH p q r
theorem look_renE (p q t:Nat):∀env:Env,look t (renE p q env)=(look t env).ren p q
 | []=>by simp [renE,look,AVal.ren]
 |(s,v)::r=>by
  simp only [renE,look_cons]
  split
  ·rfl
  ·exact look_renE p q t r
theorem lookO_renH (p q t:Nat):∀heap:Heap,lookO t (renH p q heap)=(lookO (sw p q t) heap).map (AObj.ren p q)
 | []=>by simp [renH,lookO]
 |(s,v)::r=>by
  simp only [renH,lookO_cons]
  by_cases h:t=sw p q s
  ·rw [if_pos h,if_pos (by rw [h,sw_sw])];rfl
  ·rw [if_neg h,if_neg (fun e=>h (by rw [←e,sw_sw]))];exact lookO_renH p q t r
theorem RepO.ren {w:World} {L:Lay} (p q:Nat) {gd:Nat→Prop} {id:Nat} {o:AObj} (h:RepO w gd L id o):RepO w gd (L.ren p q) (sw p q id) (o.ren p q):=by
 have hb:∀id,(L.ren p q).blk (sw p q id)=L.blk id:=fun id=>by simp only [Lay.ren,sw_sw]
 have hc:∀id,(L.ren p q).cap (sw p q id)=L.cap id:=fun id=>by simp only [Lay.ren,sw_sw]
 cases h with
 |box h0 h1 h2 h3 h4 h5=>
  rw [AObj.ren,AVal.renL_eq]
  refine .box h0 (by rw [hb];exact h1) h2 (by simpa using h3) (fun i hi=>h4 i (by simpa using hi)) fun i x hx=>?_
  rw [List.getElem?_map] at hx
  obtain ⟨y,hy,rfl⟩:=Option.map_eq_some_iff.1 hx
  exact (h5 i y hy).ren p q
 |mp h1 h2 h3 h4 h5 h6=>
  refine .mp (by rw [hb];exact h1) h2 (by simpa using h3) (fun i x e hx he=>?_) h5 fun i x e hx he=>?_
  all_goals (rw [List.getElem?_map] at hx;obtain ⟨y,hy,rfl⟩:=Option.map_eq_some_iff.1 hx)
  ·exact h4 i y e hy he
  ·exact (h6 i y e hy he).ren p q
 |vrow0 h1 h2=>exact .vrow0 (by rw [hb];exact h1) (by rw [hc];exact h2)
 |vrow h1 h2 h3 h4 h5 h6 h7=>
  rw [AObj.ren,AVal.renL_eq]
  refine .vrow (by rw [hb];exact h1) h2 (by rw [List.length_map,hc];exact h3) (by rw [hc];exact h4) (by rw [hc];exact h5) (fun i hi=>h6 i (by simpa using hi)) fun i x hx=>?_
  rw [List.getElem?_map] at hx
  obtain ⟨y,hy,rfl⟩:=Option.map_eq_some_iff.1 hx
  exact (h7 i y hy).ren p q
 |dmp h1 h2 h3 h4 h5=>exact .dmp (by rw [hb];exact h1) h2 h3 h4 h5
 |row0 h1 h2=>exact .row0 (by rw [hb];exact h1) (by rw [hc];exact h2)
 |row h1 h2 h3 h4 h5 h6 h7 h8 h9 h10=>exact .row (by rw [hb];exact h1) h2 (by rw [hc];exact h3) (by rw [hc];exact h4) (by rw [hc];exact h5) h6 h7 h8 h9 (by rw [hc];exact h10)
theorem Rel.ren {C:Ctx} {L:Lay} {env:Env} {heap:Heap} {a:Act} {w:World} (p q:Nat) (hp:p∉C.lid) (hq:q∉C.lid) (H:Rel C L (lk env) (lko heap) a w):Rel C (L.ren p q) (lk (renE p q env)) (lko (renH p q heap)) a w:=by
 have ho:∀id o,lko (renH p q heap) id=some o→∃o',lko heap (sw p q id)=some o'∧o=o'.ren p q:=by
  intro id o h
  have h:lookO id (renH p q heap)=some o:=h
  rw [lookO_renH] at h
  obtain ⟨o',h1,h2⟩:=Option.map_eq_some_iff.1 h
  exact ⟨o',h1,h2.symm⟩
 have ho2:∀id o,lko heap id=some o→lko (renH p q heap) (sw p q id)=some (o.ren p q):=by
  intro id o h
  have h:lookO id heap=some o:=h
  show lookO _ _=_
  rw [lookO_renH,sw_sw,h];rfl
 have hg:∀b,good C L (lko heap) w b→good C (L.ren p q) (lko (renH p q heap)) w b:=by
  intro b hb
  refine ⟨hb.1,hb.2.1,fun ⟨id,o,h1,h2⟩=>hb.2.2 ?_⟩
  obtain ⟨o',h3,_⟩:=ho id o h1
  exact ⟨sw p q id,o',h3,h2⟩
 have hmono:∀{x v},RepA w (L.ren p q) (good C L (lko heap) w) x v→RepA w (L.ren p q) (good C (L.ren p q) (lko (renH p q heap)) w) x v:=
  fun h=>h.mono (Nat.le_refl _) (fun _=>true) (fun id _=>⟨rfl,rfl⟩) (fun b hlt hb=>⟨hb,rfl⟩) (fun b hlt hb=>⟨hg b hb,rfl⟩) (fun id h=>by cases h)
 exact {
  below:=H.below
  top:=H.top
  size:=H.size
  defers:=H.defers
  slot:=fun t=>by
   show RepA _ _ _ (look t (renE p q env)) _
   rw [look_renE]
   exact hmono ((H.slot t).ren p q)
  obj:=fun id o h=>by
   obtain ⟨o',h1,rfl⟩:=ho id o h
   have:=((H.obj _ o' h1).ren p q)
   rw [sw_sw] at this
   exact this.mono (Nat.le_refl _) (fun b hlt hb=>⟨hg b hb,rfl⟩) (fun b _=>rfl) (fun b _ hb=>⟨hb,rfl⟩) (fun _=>true) (fun id _=>⟨rfl,rfl⟩) rfl (fun id h=>by cases h)
  inj:=fun i j oi oj b h1 h2 h3 h4=>by
   obtain ⟨o1,k1,_⟩:=ho i oi h1
   obtain ⟨o2,k2,_⟩:=ho j oj h2
   have:=H.inj _ _ _ _ b k1 k2 h3 h4
   rw [←sw_sw p q i,this,sw_sw]
  own0:=fun id o b h1 h2=>by
   obtain ⟨o1,k1,_⟩:=ho id o h1
   exact H.own0 _ _ b k1 h2
  kept:=fun id o hl h1=>by
   obtain ⟨o1,k1,_⟩:=ho id o h1
   have e:sw p q id=id:=by
    have h1:id≠p:=fun e=>hp (e▸hl)
    have h2:id≠q:=fun e=>hq (e▸hl)
    rw [sw_eq,if_neg h1,if_neg h2]
   simp only [Lay.ren,e]
   rw [e] at k1
   exact H.kept id o1 hl k1
  lidn:=H.lidn}
def renEs (lid:List Nat):List (Nat×Nat)→Env→Env
 | [],e=>e
 |(p,q)::r,e=>match memN p lid with
  |true=>e
  |false=>match memN q lid with
   |true=>e
   |false=>renEs lid r (renE p q e)
def renHs (lid:List Nat):List (Nat×Nat)→Heap→Heap
 | [],e=>e
 |(p,q)::r,e=>match memN p lid with
  |true=>e
  |false=>match memN q lid with
   |true=>e
   |false=>renHs lid r (renH p q e)
theorem Rel.rens {C:Ctx} {a:Act} {w:World}:∀(ps:List (Nat×Nat)) {L:Lay} {env:Env} {heap:Heap},Rel C L (lk env) (lko heap) a w→∃L',Rel C L' (lk (renEs C.lid ps env)) (lko (renHs C.lid ps heap)) a w
 | [],L,_,_,H=>⟨L,H⟩
 |(p,q)::r,L,env,heap,H=>by
  unfold renEs renHs
  cases hp:memN p C.lid with
  |true=>exact ⟨L,H⟩
  |false=>
   cases hq:memN q C.lid with
   |true=>exact ⟨L,H⟩
   |false=>exact Rel.rens r (H.ren p q (not_memN hp) (not_memN hq))
section
variable {C : Ctx} {T : Tys}
theorem ALoop.introR {X:Type} {c:Code} {Q:Exit→Env→Heap→Prop} {env:Env} {heap:Heap} (hT:TysOk C.P T) (hM:C.P.follows .mixedOrders=true) (S:X→Env×Heap) (μ:X→Nat) (x0:X) (h0:CovE env (S x0).1 (CovH heap (S x0).2))
  (round:∀x,ARun C T c (fun e env' heap'=>match e with|.normal=>∃x' ps,μ x'<μ x∧CovE (renEs C.lid ps env') (S x').1 (CovH (renHs C.lid ps heap') (S x').2)|e=>Q e env' heap') (S x).1 (S x).2):ALoop C c Q env heap:=
 ⟨AWp.loop (fun x=>(S x).1) (fun x=>(S x).2) μ x0 (Covers.mk' h0) fun x L a w hr=>wp_mono ((ARun_ok hT hM (round x)) L a w hr) fun e a' w' ⟨L',env',heap',h1,h2⟩=>by
  cases e with
  |normal=>
   obtain ⟨x',ps,h3,h4⟩:=h2
   obtain ⟨L2,h5⟩:=h1.rens ps
   exact ⟨L2,_,_,h5,x',h3,Covers.mk' h4⟩
  |_=>exact ⟨L',env',heap',h1,h2⟩⟩
def ARoundsR (C:Ctx) (T:Tys) (c:Code) (Q:Exit→Env→Heap→Prop) (ps:List (Nat×Nat)) (ks os:List Nat):Nat→Env→Heap→Prop
 |0,_,_=>False
 |n+1,env,heap=>ARun C T c (fun e env heap=>match e with|.normal=>keepE (fun env=>keepH (fun heap=>deepH (fun heap=>ARoundsR C T c Q ps ks os n env heap) heap) (renHs C.lid ps heap) os) (renEs C.lid ps env) ks|e=>Q e env heap) env heap
theorem ARoundsR_ok (hT:TysOk C.P T) (hM:C.P.follows .mixedOrders=true) {c:Code} {Q:Exit→Env→Heap→Prop} {ps:List (Nat×Nat)} {ks os:List Nat}:∀(n:Nat) {env:Env} {heap:Heap},ARoundsR C T c Q ps ks os n env heap→∀L a w,Rel C L (lk env) (lko heap) a w→
  Code.rounds C.P c (fun e a w=>∃L env heap,Rel C L (lk env) (lko heap) a w∧Q e env heap) n a w
 |0,env,heap,h,L,a,w,H=>h.elim
 |n+1,env,heap,h,L,a,w,H=>by
  have h1:=ARun_ok hT hM h L a w H
  rw [rounds_succ]
  refine wp_mono h1 fun e a' w' ⟨L',env',heap',k1,k2⟩=>?_
  cases e with
  |normal=>
   obtain ⟨L2,h5⟩:=k1.rens ps
   obtain ⟨e2,q1,q2⟩:=keepE_ok k2
   obtain ⟨h2,q3,q4⟩:=keepH_ok q1
   refine ARoundsR_ok hT hM n (deepH_eq (k:=fun heap=>ARoundsR C T c Q ps ks os n e2 heap) q3) L2 a' w' (h5.weaken ⟨fun t=>?_,fun id o ho=>⟨o,q4 id o ho,OLe.refl o⟩⟩)
   rcases q2 t with q|q
   ·rw [q];exact .refl _
   ·rw [q];exact ⟨fun w L gd v _=>.any⟩
  |_=>exact ⟨L',env',heap',k1,k2⟩
theorem ALoop.roundsR (hT:TysOk C.P T) (hM:C.P.follows .mixedOrders=true) (n:Nat) (ps:List (Nat×Nat)) (ks os:List Nat) {c:Code} {Q:Exit→Env→Heap→Prop} {env:Env} {heap:Heap} (h:ARoundsR C T c Q ps ks os n env heap):ALoop C c Q env heap:=
 ⟨fun L a w H=>wp_loop_rounds n (ARoundsR_ok hT hM n h L a w H)⟩
end
end Towline
