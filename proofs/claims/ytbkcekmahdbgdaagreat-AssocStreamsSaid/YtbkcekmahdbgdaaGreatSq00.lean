/- AssocStreams: the engine, contracts and plain laws that its proof leans on, part 00. -/
import Derived.Calls
import Derived.Tactics
import Derived.Below
import Derived.Laws.OwnMore
import Derived.WalkLawsBesides
import Derived.WalkSpells
import Derived.IntWalk
import Derived.Laws.Cells
import Derived.Laws.Tables
import Derived.MapKept
theorem tnC (n : Nat) : Int.toNat (n : Int) = n := rfl
theorem gO {p q : Prop} (b : q) (a : p := by first | omega | (simp only [tnC]; omega) | (simp; done) | (simp; omega)) : p ∧ q := ⟨a, b⟩
theorem gK {p q : Prop} (b : q) (a : p := by first | omega | decide +kernel) : p ∧ q := ⟨a, b⟩
theorem gR {p q : Prop} (b : q) (a : p := by kernel_rfl) : p ∧ q := ⟨a, b⟩
namespace Towline
open Go Go.RowKit
set_option linter.unusedVariables false
inductive D
 |i (k:IntKind) (n:Int)
 |b (x:Bool)
 |s (l:List UInt8)
 |v (x:Value)
 |sl (sz n:Nat) (f:Nat→List D)
 |cl (f n:Nat) (ds:Nat→List D)
 |o
 |pt (ds:List D)
 |slF (sz n:Nat) (f:Nat→List D)
inductive AVal
 |any
 |d (x:D)
 |agg (l:List AVal)
 |tup (l:List AVal)
 |ptr (id off:Nat)
 |eptr (sz n:Nat) (f:Nat→List D) (k off:Nat)
 |rsl (id sz o n:Nat)
 |rptr (id sz k off:Nat)
 |mref (id:Nat)
 |fn (f:FuncId) (caps:List AVal)
 |fresh (t:TypeId) (sz n:Nat) (f:Nat→List D)
inductive AObj
 |box (cells:List AVal) (tag:Option TypeId:=none)
 |row (t:TypeId) (sz n:Nat) (f:Nat→List D)
 |mp (l:List (D×AVal))
 |vrow (t:TypeId) (cells:List AVal)
 |dmp (l:List (D×D))
abbrev Env:=List (Nat×AVal)
abbrev Heap:=List (Nat×AObj)
def look (i:Nat):Env→AVal
 | []=>.any
 |(j,v)::r=>match Nat.beq j i with|true=>v|false=>look i r
def lookO (i:Nat):Heap→Option AObj
 | []=>none
 |(j,v)::r=>match Nat.beq j i with|true=>some v|false=>lookO i r
def setO (i:Nat) (o:AObj):Heap→Option Heap
 | []=>none
 |(j,v)::r=>match Nat.beq j i with
  |true=>some ((j,o)::r)
  |false=>match setO i o r with|some r'=>some ((j,v)::r')|none=>none
theorem beq_self (i:Nat):Nat.beq i i=true:=Nat.beq_refl i
theorem beq_false {i j:Nat} (h:i≠j):Nat.beq i j=false:=by rw [Bool.eq_false_iff];exact fun e=>h (Nat.eq_of_beq_eq_true e)
theorem look_eq (j:Nat) (v:AVal) (r:Env) (i:Nat):look i ((j,v)::r)=(match Nat.beq j i with|true=>v|false=>look i r):=rfl
theorem lookO_eq (j:Nat) (v:AObj) (r:Heap) (i:Nat):lookO i ((j,v)::r)=(match Nat.beq j i with|true=>some v|false=>lookO i r):=rfl
theorem setO_eq (i:Nat) (o:AObj) (j:Nat) (v:AObj) (r:Heap):setO i o ((j,v)::r)=(match Nat.beq j i with
  |true=>some ((j,o)::r)
  |false=>match setO i o r with|some r'=>some ((j,v)::r')|none=>none):=rfl
theorem look_cons (t:Nat) (v:AVal) (env:Env) (j:Nat):look j ((t,v)::env)=if j=t then v else look j env:=by
 rw [look_eq]
 by_cases h:j=t
 ·subst h;simp
 ·rw [beq_false (fun e=>h e.symm)];simp [h]
theorem lookO_cons (t:Nat) (v:AObj) (h:Heap) (j:Nat):lookO j ((t,v)::h)=if j=t then some v else lookO j h:=by
 rw [lookO_eq]
 by_cases h:j=t
 ·subst h;simp
 ·rw [beq_false (fun e=>h e.symm)];simp [h]
theorem lookO_setO {i:Nat} {o:AObj}:∀{h h':Heap},setO i o h=some h'→∀j,lookO j h'=if j=i then some o else lookO j h
 | [],_,e,_=>by simp [setO] at e
 |(k,v)::r,h',e,j=>by
  rw [setO_eq] at e
  by_cases hk:k=i
  ·subst hk
   rw [beq_self] at e
   simp only [Option.some.injEq] at e
   subst e
   rw [lookO_cons,lookO_cons]
   by_cases hj:j=k
   ·simp [hj]
   ·simp [hj]
  ·rw [beq_false hk] at e
   simp only at e
   cases hs:setO i o r with
   |none=>rw [hs] at e;cases e
   |some r'=>
    rw [hs] at e
    simp only [Option.some.injEq] at e
    subst e
    rw [lookO_cons,lookO_cons,lookO_setO hs j]
    by_cases hj:j=k
    ·have:j≠i:=by omega
     simp [hj,hk]
    ·simp [hj]
inductive RepD (w:World) (good:Nat→Prop):D→Value→Prop
 |i (k n):RepD w good (.i k n) (.int k n)
 |b (x):RepD w good (.b x) (.bool x)
 |s (l:List UInt8):RepD w good (.s l) (.string ⟨l.toArray⟩)
 |v (x:Value) (h:x.oneCell'=true):RepD w good (.v x) x
 |o (x:Value) (h:x.oneCell'=true):RepD w good .o x
 |sl0 (sz f A c) (h:c≤maxLen):RepD w good (.sl sz 0 f) (.slice A 0 c)
 |sl (sz n:Nat) (f:Nat→List D) (b o c:Nat) (cs:Nat→Nat→Value) (hn:0<n) (hc:n≤c) (hm:c≤maxLen) (hg:good b) (hb:b<w.heap.size)
   (hz:∀k,k<n→(f k).length=sz)
   (hcell:∀k,k<n→∀j,j<sz→w.cell? ⟨b,o+k*sz+j,none⟩=some (cs k j))
   (hrep:∀k,k<n→∀j x,(f k)[j]? = some x→RepD w good x (cs k j)):RepD w good (.sl sz n f) (.slice (some ⟨b,o,none⟩) n c)
 |pt (ds:List D) (b:Nat) (hr:RepD w good (.sl ds.length 1 fun _=>ds) (.slice (some ⟨b,0,none⟩) 1 1)):RepD w good (.pt ds) (.pointer (some ⟨b,0,none⟩))
 |slF (sz n:Nat) (f:Nat→List D) (A:Option Addr) (hr:RepD w good (.sl sz n f) (.slice A n n)):RepD w good (.slF sz n f) (.slice A n n)
 |cl (f n:Nat) (ds:Nat→List D) (bs:Nat→Nat) (vs:Array Value) (hz:vs.size=n) (hv:∀i,i<n→vs.getD i undef=.pointer (some ⟨bs i,0,none⟩))
   (hr:∀i,i<n→RepD w good (.sl (ds i).length 1 fun _=>ds i) (.slice (some ⟨bs i,0,none⟩) 1 1)):RepD w good (.cl f n ds) (.func (.func f) #[] vs)
theorem RepD.one {w:World} {good:Nat→Prop} {x:D} {v:Value} (h:RepD w good x v):v.oneCell'=true:=by
 cases h<;>first|rfl|assumption
theorem RepD.mono {w w':World} {good good':Nat→Prop} (hs:w.heap.size≤w'.heap.size) (hg:∀b,b<w.heap.size→good b→good' b∧w'.heap[b]? = w.heap[b]?) :
  ∀{x:D} {v:Value},RepD w good x v→RepD w' good' x v:=by
 intro x v h
 induction h with
 |i k n=>exact .i k n
 |b x=>exact .b x
 |s l=>exact .s l
 |v x h=>exact .v x h
 |o x h=>exact .o x h
 |sl0 sz f A c h=>exact .sl0 sz f A c h
 |cl f n ds bs vs hz hv hr ih=>exact .cl f n ds bs vs hz hv ih
 |pt ds b hr ih=>exact .pt ds b ih
 |slF sz n f A hr ih=>exact .slF sz n f A ih
 |sl sz n f b o c cs hn hc hm hgb hb hz hcell hrep ih=>
  obtain ⟨h1,h2⟩:=hg b hb hgb
  exact .sl sz n f b o c cs hn hc hm h1 (by omega) hz (fun k hk j hj=>by rw [←hcell k hk j hj];exact World.cell?_of_block (w:=w) h2) ih
structure Lay where
 blk:Nat→Option Nat
 cap:Nat→Nat
 old:Nat→Prop
inductive RepA (w:World) (L:Lay):(Nat→Prop)→AVal→Value→Prop
 |any {good v}:RepA w L good .any v
 |d {good x v} (h:RepD w good x v):RepA w L good (.d x) v
 |agg {good} {l:List AVal} {vs:Array Value} (hz:vs.size=l.length) (h1:∀i,i<l.length→(vs.getD i undef).oneCell'=true)
   (h:∀i x,l[i]? = some x→RepA w L good x (vs.getD i undef)):RepA w L good (.agg l) (.agg vs)
 |tup {good} {l:List AVal} {vs:Array Value} (hz:vs.size=l.length) (h:∀i x,l[i]? = some x→RepA w L good x (vs.getD i undef)):RepA w L good (.tup l) (.tuple vs)
 |ptr {good id off b} (h:L.blk id=some b):RepA w L good (.ptr id off) (.pointer (some ⟨b,off,none⟩))
 |eptr {good sz n f k off b o c m} (h:RepD w good (.sl sz n f) (.slice (some ⟨b,o,none⟩) m c)) (hk:k<n):RepA w L good (.eptr sz n f k off) (.pointer (some ⟨b,o+k*sz+off,none⟩))
 |rsl {good id sz o n ad} (hc:o+n≤L.cap id) (hb:0<n→∃b,L.blk id=some b) (ha:o=0∨o<L.cap id→ad=(L.blk id).map fun b=>⟨b,o*sz,none⟩):RepA w L good (.rsl id sz o n) (.slice ad n (L.cap id-o))
 |rptr {good id sz k off b} (h:L.blk id=some b):RepA w L good (.rptr id sz k off) (.pointer (some ⟨b,k*sz+off,none⟩))
 |mref {good id b} (h:L.blk id=some b):RepA w L good (.mref id) (.map (some b))
 |fn {good f caps} {vs:Array Value} (hz:vs.size=caps.length) (h:∀i x,caps[i]? = some x→RepA w L (fun b=>good b∨L.old b) x (vs.getD i undef)):RepA w L good (.fn f caps) (.func (.func f) #[] vs)
mutual
def AVal.free (id:Nat):AVal→Bool
 |.any=>true
 |.d _=>true
 |.eptr ..=>true
 |.agg l=>AVal.freeL id l
 |.tup l=>AVal.freeL id l
 |.ptr j _=>!Nat.beq j id
 |.rsl j _ _ _=>!Nat.beq j id
 |.rptr j _ _ _=>!Nat.beq j id
 |.mref j=>!Nat.beq j id
 |.fn _ l=>AVal.freeL id l
 |.fresh ..=>true
def AVal.freeL (id:Nat):List AVal→Bool
 | []=>true
 |x::r=>AVal.free id x&&AVal.freeL id r
end
theorem AVal.freeL_get {id:Nat}:∀{l:List AVal},AVal.freeL id l=true→∀(i:Nat) (x:AVal),l[i]? = some x→x.free id=true
 | [],_,i,x,e=>by simp at e
 |y::r,h,i,x,e=>by
  simp only [AVal.freeL,Bool.and_eq_true] at h
  cases i with
  |zero=>
   simp only [List.getElem?_cons_zero,Option.some.injEq] at e
   rw [←e];exact h.1
  |succ i=>
   simp only [List.getElem?_cons_succ] at e
   exact AVal.freeL_get h.2 i x e
theorem beq_ne {i j:Nat} (h:(!Nat.beq i j)=true):i≠j:=by
 intro e;subst e;simp [Nat.beq_refl] at h
theorem RepA.mono {w w':World} {L L':Lay} (hs:w.heap.size≤w'.heap.size) (p:Nat→Bool) (hL:∀id,p id=true→L'.blk id=L.blk id∧L'.cap id=L.cap id)
  (ht:∀b,b<w.heap.size→L.old b→L'.old b∧w'.heap[b]? = w.heap[b]?) :
  ∀{good:Nat→Prop} {x:AVal} {v:Value},RepA w L good x v→∀{good':Nat→Prop},(∀b,b<w.heap.size→good b→good' b∧w'.heap[b]? = w.heap[b]?)→(∀id,p id=false→x.free id=true)→RepA w' L' good' x v:=by
 intro good x v h
 have key:∀j:Nat,(∀id,p id=false→(!Nat.beq j id)=true)→p j=true:=by
  intro j hj
  cases hp:p j with
  |true=>rfl
  |false=>have:=hj j hp;simp [Nat.beq_refl] at this
 induction h with
 |any=>intro _ _ _;exact .any
 |d h=>intro _ hg _;exact .d (h.mono hs hg)
 |agg hz h1 h ih=>intro _ hg hp;exact .agg hz h1 fun i x hx=>ih i x hx hg fun id hid=>AVal.freeL_get (hp id hid) i x hx
 |tup hz h ih=>intro _ hg hp;exact .tup hz fun i x hx=>ih i x hx hg fun id hid=>AVal.freeL_get (hp id hid) i x hx
 |ptr h=>intro _ hg hp;exact .ptr ((hL _ (key _ hp)).1.trans h)
 |eptr h hk=>intro _ hg _;exact .eptr (h.mono hs hg) hk
 | @rsl good id sz o n ad hc hb ha=>
  intro _ hg hp
  obtain ⟨e1,e2⟩:=hL _ (key id hp)
  rw [←e2]
  rw [←e2] at hc ha
  rw [←e1] at ha
  exact .rsl hc (fun h0=>(hb h0).imp fun b h=>e1.trans h) ha
 |rptr h=>intro _ hg hp;exact .rptr ((hL _ (key _ hp)).1.trans h)
 |mref h=>intro _ hg hp;exact .mref ((hL _ (key _ hp)).1.trans h)
 |fn hz h ih=>
  intro _ hg hp
  exact .fn hz fun i x hx=>ih i x hx (fun b hlt hb=>by
   rcases hb with hb|hb
   ·exact ⟨.inl (hg b hlt hb).1,(hg b hlt hb).2⟩
   ·exact ⟨.inr (ht b hlt hb).1,(ht b hlt hb).2⟩) fun id hid=>AVal.freeL_get (hp id hid) i x hx
theorem RepA.mono1 {w w':World} {good good':Nat→Prop} {L:Lay} (hs:w.heap.size≤w'.heap.size) (hg:∀b,b<w.heap.size→good b→good' b∧w'.heap[b]? = w.heap[b]?) (ht:∀b,L.old b→w'.heap[b]? = w.heap[b]?)
  {x:AVal} {v:Value} (h:RepA w L good x v):RepA w' L good' x v:=
 h.mono hs (fun _=>true) (fun _ _=>⟨rfl,rfl⟩) (fun b _ hb=>⟨hb,ht b hb⟩) hg (fun _ h=>by cases h)
abbrev markT:Nat:=1000000000
abbrev arT:Nat:=5000000000
abbrev fsT:Nat:=8000000000
def keyV:D→Option Value
 |.i k n=>some (.int k n)
 |.s l=>some (.string ⟨l.toArray⟩)
 |_=>none
inductive RepO (w:World) (good:Nat→Prop) (L:Lay) (id:Nat):AObj→Prop
 |box {cells:List AVal} {tag:Option TypeId} {cs:Array Value} {t:TypeId} {b:Nat} (htag:∀t',tag=some t'→t=t') (hb:L.blk id=some b) (hh:w.heap[b]? = some (.cells cs t (0,0))) (hz:cs.size=cells.length)
   (h1:∀i,i<cells.length→(cs.getD i undef).oneCell'=true) (h:∀i x,cells[i]? = some x→RepA w L good x (cs.getD i undef)):RepO w good L id (.box cells tag)
 |row0 {t sz f} (hb:L.blk id=none) (hc:L.cap id=0):RepO w good L id (.row t sz 0 f)
 |row {t sz n:Nat} {f:Nat→List D} {cs:Array Value} {b:Nat} {t2:Nat} {mk:Nat×Nat} (hb:L.blk id=some b) (hh:w.heap[b]? = some (.cells cs t2 mk)) (hn:n≤L.cap id) (hm:L.cap id≤maxLen)
   (hz:cs.size=L.cap id*sz) (hf:∀k,k<n→(f k).length=sz) (h:∀k,k<n→∀j x,(f k)[j]? = some x→RepD w good x (cs.getD (k*sz+j) undef))
   (hty:t<markT→t2=t) (hmk:mk=(0,0)∨(t=markT∧cs.size≤mk.1)) (hcap:∀m,t=arT+m→L.cap id=m):RepO w good L id (.row t sz n f)
 |mp {l:List (D×AVal)} {es:Array MapEntry} {clock b:Nat} (hb:L.blk id=some b) (hh:w.heap[b]? = some (.map es clock)) (hz:es.size=l.length)
   (hk:∀(i:Nat) (x:D×AVal) (e:MapEntry),l[i]? = some x→es[i]? = some e→keyV x.1=some e.key)
   (h1:∀(i:Nat) (e:MapEntry),es[i]? = some e→e.val.oneCell'=true)
   (h:∀(i:Nat) (x:D×AVal) (e:MapEntry),l[i]? = some x→es[i]? = some e→RepA w L good x.2 e.val):RepO w good L id (.mp l)
 |vrow0 {t:TypeId} (hb:L.blk id=none) (hc:L.cap id=0):RepO w good L id (.vrow t [])
 |vrow {t:TypeId} {cells:List AVal} {cs:Array Value} {b:Nat} (hb:L.blk id=some b) (hh:w.heap[b]? = some (.cells cs t (0,0))) (hn:cells.length≤L.cap id) (hm:L.cap id≤maxLen) (hz:cs.size=L.cap id)
   (h1:∀i,i<cells.length→(cs.getD i undef).oneCell'=true) (h:∀i x,cells[i]? = some x→RepA w L good x (cs.getD i undef)):RepO w good L id (.vrow t cells)
 |dmp {l:List (D×D)} {es:Array MapEntry} {clock b:Nat} (hb:L.blk id=some b) (hh:w.heap[b]? = some (.map es clock)) (hz:es.size=l.length)
   (hk:∀(i:Nat) (x:D×D) (e:MapEntry),l[i]? = some x→es[i]? = some e→keyV x.1=some e.key)
   (h:∀(i:Nat) (x:D×D) (e:MapEntry),l[i]? = some x→es[i]? = some e→RepD w good x.2 e.val):RepO w good L id (.dmp l)
def liftM (l:List (D×D)):List (D×AVal):=l.map fun x=>(x.1,.d x.2)
theorem liftM_get {l:List (D×D)} {i:Nat} {x:D×AVal} (h:(liftM l)[i]? = some x):∃y,l[i]? = some y∧x=(y.1,.d y.2):=by
 unfold liftM at h
 rw [List.getElem?_map] at h
 obtain ⟨y,hy,rfl⟩:=Option.map_eq_some_iff.1 h
 exact ⟨y,hy,rfl⟩
theorem RepO.dmp_mp {w:World} {good:Nat→Prop} {L:Lay} {id:Nat} {l:List (D×D)} (h:RepO w good L id (.dmp l)):RepO w good L id (.mp (liftM l)):=by
 cases h with
 |dmp hb hh hz hk h=>
  refine .mp hb hh (by simpa [liftM] using hz) (fun i x e hx he=>?_) (fun i e he=>?_) fun i x e hx he=>?_
  ·obtain ⟨y,hy,rfl⟩:=liftM_get hx
   exact hk i y e hy he
  ·have hlt:=(Array.getElem?_eq_some_iff.1 he).1
   exact (h i _ e (List.getElem?_eq_getElem (by omega)) he).one
  ·obtain ⟨y,hy,rfl⟩:=liftM_get hx
   exact .d (h i y e hy he)
theorem RepO.mp_dmp {w:World} {good:Nat→Prop} {L:Lay} {id:Nat} {l:List (D×D)} (h:RepO w good L id (.mp (liftM l))):RepO w good L id (.dmp l):=by
 cases h with
 |mp hb hh hz hk h1 h=>
  have hget:∀{i:Nat} {x:D×D},l[i]? = some x→(liftM l)[i]? = some (x.1,.d x.2):=fun hx=>by unfold liftM;rw [List.getElem?_map,hx];rfl
  refine .dmp hb hh (by simpa [liftM] using hz) (fun i x e hx he=>hk i _ e (hget hx) he) fun i x e hx he=>?_
  cases h i _ e (hget hx) he with
  |d h=>exact h
def freeM (id:Nat):List (D×AVal)→Bool
 | []=>true
 |(_,v)::r=>v.free id&&freeM id r
theorem freeM_get {id:Nat}:∀{l:List (D×AVal)},freeM id l=true→∀(i:Nat) (x:D×AVal),l[i]? = some x→x.2.free id=true
 | [],_,i,x,e=>by simp at e
 |(k,y)::r,h,i,x,e=>by
  simp only [freeM,Bool.and_eq_true] at h
  cases i with
  |zero=>
   simp only [List.getElem?_cons_zero,Option.some.injEq] at e
   rw [←e];exact h.1
  |succ i=>
   simp only [List.getElem?_cons_succ] at e
   exact freeM_get h.2 i x e
def AObj.free (id:Nat):AObj→Bool
 |.box l _=>AVal.freeL id l
 |.row ..=>true
 |.mp l=>freeM id l
 |.vrow _ l=>AVal.freeL id l
 |.dmp _=>true
theorem RepO.mono {w w':World} {good good':Nat→Prop} {L L':Lay} {id:Nat} {o:AObj} (h:RepO w good L id o) (hs:w.heap.size≤w'.heap.size)
  (hg:∀b,b<w.heap.size→good b→good' b∧w'.heap[b]? = w.heap[b]?) (hb:∀b,L.blk id=some b→w'.heap[b]? = w.heap[b]?) (ht:∀b,b<w.heap.size→L.old b→L'.old b∧w'.heap[b]? = w.heap[b]?)
  (p:Nat→Bool) (hL:∀id,p id=true→L'.blk id=L.blk id∧L'.cap id=L.cap id) (hp:p id=true) (hf:∀id,p id=false→o.free id=true):RepO w' good' L' id o:=by
 obtain ⟨e1,e2⟩:=hL id hp
 cases h with
 |box htag hb1 hh hz h1 h=>
  exact .box htag (e1.trans hb1) ((hb _ hb1).trans hh) hz h1 fun i x hx=>(h i x hx).mono hs p hL ht hg fun id hid=>AVal.freeL_get (hf id hid) i x hx
 |row0 hb1 hc=>exact .row0 (e1.trans hb1) (e2.trans hc)
 |mp hb1 hh hz hk h1 h=>
  exact .mp (e1.trans hb1) ((hb _ hb1).trans hh) hz hk h1 fun i x e hx he=>(h i x e hx he).mono hs p hL ht hg fun id hid=>freeM_get (hf id hid) i x hx
 |row hb1 hh hn hm hz hfl h hty hmk hcap=>exact .row (e1.trans hb1) ((hb _ hb1).trans hh) (e2▸hn) (e2▸hm) (e2▸hz) hfl (fun k hk j x hx=>(h k hk j x hx).mono hs hg) hty hmk fun m hm=>e2.trans (hcap m hm)
 |vrow0 hb1 hc=>exact .vrow0 (e1.trans hb1) (e2.trans hc)
 |vrow hb1 hh hn hm hz h1 h=>
  exact .vrow (e1.trans hb1) ((hb _ hb1).trans hh) (e2▸hn) (e2▸hm) (e2▸hz) h1 fun i x hx=>(h i x hx).mono hs p hL ht hg fun id hid=>AVal.freeL_get (hf id hid) i x hx
 |dmp hb1 hh hz hk h=>
  exact .dmp (e1.trans hb1) ((hb _ hb1).trans hh) hz hk fun i x e hx he=>(h i x e hx he).mono hs hg
def engTabs:List (Nat×IntKind×List Int):=
 []
def lookG (i:Nat):List (Nat×IntKind×List Int)→Option (IntKind×List Int)
 | []=>none
 |(j,v)::r=>match Nat.beq j i with|true=>some v|false=>lookG i r
def globV (n:Nat):AVal:=match lookG n engTabs with
 |some (k,l)=>.eptr l.length 1 (fun _=>l.map (D.i k)) 0 0
 |none=>.any
def GoodW (w:World) (R:Nat→Prop):Prop:=∀n k l,lookG n engTabs=some (k,l)→R n∧∃ty mk,w.heap[n]? = some (.cells (l.map (Value.int k)).toArray ty mk)
theorem GoodW.mono {w w':World} {R R':Nat→Prop} (h:GoodW w R) (hm:∀n k l,lookG n engTabs=some (k,l)→R n→n<w.heap.size→R' n∧w'.heap[n]? = w.heap[n]?):GoodW w' R':=fun n k l e=>by
 obtain ⟨h1,ty,mk,h2⟩:=h n k l e
 have hlt:n<w.heap.size:=(Array.getElem?_eq_some_iff.1 h2).1
 obtain ⟨h3,h4⟩:=hm n k l e h1 hlt
 exact ⟨h3,ty,mk,h4.trans h2⟩
theorem GoodW.empty (h:engTabs=[]) (w:World) (R:Nat→Prop):GoodW w R:=fun n k l e=>by rw [h] at e;cases e
theorem globV_free (n id:Nat):(globV n).free id=true:=by
 unfold globV
 split<;>rfl
theorem GoodW.rep {w:World} {R:Nat→Prop} (h:GoodW w R) (L:Lay) (n:Nat):RepA w L R (globV n) (.pointer (some ⟨n,0,none⟩)):=by
 unfold globV
 split
 ·rename_i k l e
  obtain ⟨h1,ty,mk,h2⟩:=h n k l e
  have hlt:n<w.heap.size:=(Array.getElem?_eq_some_iff.1 h2).1
  have hsl:RepD w R (.sl l.length 1 fun _=>l.map (D.i k)) (.slice (some ⟨n,0,none⟩) 1 1):=by
   refine .sl _ _ _ n 0 1 (fun _ j=>(l.map (Value.int k)).getD j undef) (by decide) (Nat.le_refl _) (by decide) h1 hlt (fun _ _=>by simp) (fun i hi j hj=>?_) fun i hi j x hx=>?_
   ·have hi0:i=0:=by omega
    subst hi0
    have hj':j<(l.map (Value.int k)).length:=by simpa using hj
    simp [World.cell?,h2,hj]
   ·rw [List.getElem?_map] at hx
    obtain ⟨z,hz,rfl⟩:=Option.map_eq_some_iff.1 hx
    have:(l.map (Value.int k)).getD j undef=.int k z:=by simp [List.getD_eq_getElem?_getD,hz]
    rw [this]
    exact .i k z
  have:=RepA.eptr (L:=L) (off:=0) hsl (k:=0) (by decide)
  simpa using this
 ·exact .any
def GoodC (w0:World) (R0:Nat→Prop) (lid:List Nat) (Lo:Lay):Prop:=GoodW w0 R0∧∀n k l,lookG n engTabs=some (k,l)→¬∃i,i∈lid∧Lo.blk i=some n
theorem GoodC.nil {w:World} {R:Nat→Prop} {Lo:Lay} (h:GoodW w R):GoodC w R [] Lo:=⟨h,fun _ _ _ _ ⟨_,h,_⟩=>by cases h⟩
structure Ctx where
 P:Program
 nt:Nat
 w0:World
 R0:Nat→Prop
 lid:List Nat
 Lo:Lay
 hG:GoodC w0 R0 lid Lo
def Ctx.lent (C:Ctx) (b:Nat):Prop:=∃i,i∈C.lid∧C.Lo.blk i=some b
abbrev lentBase:Nat:=1000000000
structure BelowL (ln:Nat→Prop) (w0 w:World):Prop where
 os:w.os=w0.os
 tape:w.tape=w0.tape
 output:w.output=w0.output
 size:w0.heap.size≤w.heap.size
 block:∀k,k<w0.heap.size→¬ln k→w.heap[k]? = w0.heap[k]?
theorem BelowL.refl (ln:Nat→Prop) (w:World):BelowL ln w w:=⟨rfl,rfl,rfl,Nat.le_refl _,fun _ _ _=>rfl⟩
theorem BelowL.next {ln:Nat→Prop} {w0 w w':World} (h:BelowL ln w0 w) (hos:w'.os=w.os) (htp:w'.tape=w.tape) (hout:w'.output=w.output) (hsz:w.heap.size≤w'.heap.size) (hw:∀k,k<w0.heap.size→¬ln k→w'.heap[k]? = w.heap[k]?):BelowL ln w0 w':=
 ⟨hos.trans h.os,htp.trans h.tape,hout.trans h.output,Nat.le_trans h.size hsz,fun k hk hl=>(hw k hk hl).trans (h.block k hk hl)⟩
theorem BelowL.trans {ln:Nat→Prop} {w0 w w':World} (h:BelowL ln w0 w) {n:Nat} (k:Below n w w') (hn:w0.heap.size≤n):BelowL ln w0 w':=
 h.next k.os k.tape k.output k.size fun i hi _=>k.block i (Nat.lt_of_lt_of_le hi hn)
theorem BelowL.plain {ln:Nat→Prop} {w0 w:World} (h:BelowL ln w0 w) (hl:∀b,¬ln b):Below w0.heap.size w0 w:=⟨h.os,h.tape,h.output,h.size,fun k hk=>h.block k hk (hl k)⟩
abbrev lk (env:Env):Nat→AVal:=fun t=>look t env
abbrev lko (heap:Heap):Nat→Option AObj:=fun i=>lookO i heap
def gput (g:Nat→AVal) (d:Nat) (x:AVal):Nat→AVal:=fun t=>if t=d then x else g t
def hput (h:Nat→Option AObj) (d:Nat) (o:AObj):Nat→Option AObj:=fun t=>if t=d then some o else h t
theorem lk_cons (d:Nat) (x:AVal) (env:Env):lk ((d,x)::env)=gput (lk env) d x:=funext fun t=>look_cons d x env t
theorem lko_cons (d:Nat) (o:AObj) (heap:Heap):lko ((d,o)::heap)=hput (lko heap) d o:=funext fun t=>lookO_cons d o heap t
theorem lko_set {id:Nat} {o:AObj} {h h':Heap} (e:setO id o h=some h'):lko h'=hput (lko h) id o:=funext fun t=>lookO_setO e t
def owned (L:Lay) (h:Nat→Option AObj) (b:Nat):Prop:=∃id o,h id=some o∧L.blk id=some b
def good (C:Ctx) (L:Lay) (h:Nat→Option AObj) (w:World) (b:Nat):Prop:=b<w.heap.size∧(C.R0 b∨C.w0.heap.size≤b∨C.lent b)∧¬owned L h b
structure Rel (C:Ctx) (L:Lay) (g:Nat→AVal) (h:Nat→Option AObj) (a:Act) (w:World):Prop where
 below:BelowL C.lent C.w0 w
 top:∀b,L.old b↔b<C.w0.heap.size∧¬C.lent b
 size:a.tmps.size=C.nt
 defers:a.defers=[]
 slot:∀t,RepA w L (good C L h w) (g t) (a.tmps.getD t undef)
 obj:∀id o,h id=some o→RepO w (good C L h w) L id o
 inj:∀i j oi oj b,h i=some oi→h j=some oj→L.blk i=some b→L.blk j=some b→i=j
 own0:∀id o b,h id=some o→L.blk id=some b→(C.w0.heap.size≤b∨C.lent b)∧b<w.heap.size
 kept:∀id o,id∈C.lid→h id=some o→L.blk id=C.Lo.blk id∧L.cap id=C.Lo.cap id
 lidn:∀i,i∈C.lid→lentBase≤i∧C.nt≤i
theorem Act.getD_put (a:Act) (d:Tmp) (v:Value) (t:Nat) (h:d<a.tmps.size):(a.put (some d) v).tmps.getD t undef=if t=d then v else a.tmps.getD t undef:=by
 unfold Act.put
 simp only [Array.getD_eq_getD_getElem?,Array.getElem?_setIfInBounds]
 by_cases e:d=t
 ·subst e;simp [h]
 ·rw [if_neg e,if_neg (fun h=>e h.symm)]
section
variable {C : Ctx} {L : Lay} {g : Nat → AVal} {h : Nat → Option AObj} {a : Act} {w w' : World}
theorem Rel.put (H:Rel C L g h a w) {d:Tmp} (hd:d<C.nt) {x:AVal} {v:Value} (hv:RepA w L (good C L h w) x v):Rel C L (gput g d x) h (a.put (some d) v) w where
 below:=H.below
 top:=H.top
 size:=by simp [Act.put,H.size]
 defers:=H.defers
 slot t:=by
  rw [Act.getD_put a d v t (by rw [H.size];exact hd)]
  unfold gput
  split
  ·exact hv
  ·exact H.slot t
 obj:=H.obj
 inj:=H.inj
 own0:=H.own0
 kept:=H.kept
 lidn:=H.lidn
theorem Rel.old_own (H:Rel C L g h a w) {b:Nat} (hb:L.old b) {id:Nat} {o:AObj} (ho:h id=some o):L.blk id≠some b:=by
 intro e
 obtain ⟨h1,h2⟩:=(H.top b).1 hb
 rcases (H.own0 id o b ho e).1 with h3|h3
 ·omega
 ·exact h2 h3
theorem Rel.lid_slot (H:Rel C L g h a w) {t:Nat} (hlt:t<C.nt):t∉C.lid:=fun e=>absurd (H.lidn t e).2 (Nat.not_le_of_lt hlt)
theorem Rel.old_lt (H:Rel C L g h a w) {b:Nat} (hb:L.old b):b<w.heap.size:=Nat.lt_of_lt_of_le ((H.top b).1 hb).1 H.below.size
theorem Rel.world (H:Rel C L g h a w) {n:Nat} (hb:Below n w w') (hw:∀b,b<w.heap.size→w'.heap[b]? = w.heap[b]?):Rel C L g h a w':=by
 have hg:∀b,b<w.heap.size→good C L h w b→good C L h w' b∧w'.heap[b]? = w.heap[b]?:=fun b hb' hgb=>⟨⟨Nat.lt_of_lt_of_le hb' hb.size,hgb.2⟩,hw b hb'⟩
 have ht:∀b,L.old b→w'.heap[b]? = w.heap[b]?:=fun b h=>hw b (H.old_lt h)
 exact {
  below:=H.below.next hb.os hb.tape hb.output hb.size fun k hk _=>hw k (Nat.lt_of_lt_of_le hk H.below.size)
  top:=H.top
  size:=H.size
  defers:=H.defers
  slot:=fun t=>(H.slot t).mono1 hb.size hg ht
  obj:=fun id o ho=>(H.obj id o ho).mono hb.size hg (fun b hlb=>hw b (H.own0 id o b ho hlb).2) (fun b _ hb=>⟨hb,ht b hb⟩) (fun _=>true) (fun _ _=>⟨rfl,rfl⟩) rfl (fun _ h=>by cases h)
  inj:=H.inj
  own0:=fun id o b ho hlb=>⟨(H.own0 id o b ho hlb).1,Nat.lt_of_lt_of_le (H.own0 id o b ho hlb).2 hb.size⟩
  kept:=H.kept
  lidn:=H.lidn}
def Lay.upd (L:Lay) (d:Nat) (nb:Option Nat) (nc:Nat):Lay:=⟨fun i=>if i=d then nb else L.blk i,fun i=>if i=d then nc else L.cap i,L.old⟩
def Stays (w w':World) (gd gd':Nat→Prop):Prop:=∀b,b<w.heap.size→gd b→gd' b∧w'.heap[b]? = w.heap[b]?
theorem stays_new (hb:Below w.heap.size w w') {id:Nat} {nb:Option Nat} {nc:Nat} (hnb:∀b,nb=some b→w.heap.size≤b∧b<w'.heap.size) (o:AObj) :
  Stays w w' (good C L h w) (good C (L.upd id nb nc) (hput h id o) w'):=by
 intro b hlt hgb
 refine ⟨⟨Nat.lt_of_lt_of_le hlt hb.size,hgb.2.1,?_⟩,hb.block b hlt⟩
 rintro ⟨i,oi,h1,h2⟩
 unfold hput at h1
 split at h1
 ·rename_i hi
  simp only [Lay.upd,hi,if_true] at h2
  have:=(hnb b h2).1
  omega
 ·rename_i hi
  simp only [Lay.upd,hi,if_false] at h2
  exact hgb.2.2 ⟨i,oi,h1,h2⟩
theorem Rel.new_good (H:Rel C L g h a w) {d:Nat} {nb:Option Nat} {nc:Nat} {ob:AObj}:∀b,w.heap.size≤b→b<w'.heap.size→nb≠some b→good C (L.upd d nb nc) (hput h d ob) w' b:=by
 intro b h1 h2 h3
 refine ⟨h2,.inr (.inl (Nat.le_trans H.below.size h1)),?_⟩
 rintro ⟨i,oi,k1,k2⟩
 unfold hput at k1
 split at k1
 ·rename_i hi
  simp only [Lay.upd,hi,if_true] at k2
  exact h3 k2
 ·rename_i hi
  simp only [Lay.upd,hi,if_false] at k2
  have:=(H.own0 i oi b k1 k2).2
  omega
theorem Rel.new (H:Rel C L g h a w) {id:Nat} (hlid:id∉C.lid) (he:∀t,(g t).free id=true) (hh:∀j o,h j=some o→j≠id∧o.free id=true)
  (hb:Below w.heap.size w w') (nb:Option Nat) (nc:Nat) (hnb:∀b,nb=some b→w.heap.size≤b∧b<w'.heap.size) {o:AObj}
  (ho:RepO w' (good C (L.upd id nb nc) (hput h id o) w') (L.upd id nb nc) id o):Rel C (L.upd id nb nc) g (hput h id o) a w':=by
 have hL:∀i,(i != id)=true→(L.upd id nb nc).blk i=L.blk i∧(L.upd id nb nc).cap i=L.cap i:=by
  intro i hi
  have:i≠id:=by simpa using hi
  simp [Lay.upd,this]
 have hg:=stays_new (C:=C) (L:=L) (h:=h) hb (id:=id) (nb:=nb) (nc:=nc) hnb o
 have hp:∀i,(i != id)=false→i=id:=by intro i hi;simpa using hi
 have ht:∀b,b<w.heap.size→L.old b→(L.upd id nb nc).old b∧w'.heap[b]? = w.heap[b]?:=fun b hlt h=>⟨h,hb.block b hlt⟩
 exact {
  below:=H.below.trans hb H.below.size
  top:=H.top
  size:=H.size
  defers:=H.defers
  slot:=fun t=>(H.slot t).mono hb.size (· != id) hL ht hg (fun i hi=>by rw [hp i hi];exact he t)
  obj:=fun j oj hj=>by
   unfold hput at hj
   split at hj
   ·rename_i hi
    cases hj
    rw [hi]
    exact ho
   ·rename_i hi
    exact (H.obj j oj hj).mono hb.size hg (fun b hlb=>hb.block b (H.own0 j oj b hj hlb).2) ht (· != id) hL (by simpa using hi) (fun i hi'=>by rw [hp i hi'];exact (hh j oj hj).2)
  inj:=fun i j oi oj b hi hj hbi hbj=>by
   unfold hput at hi hj
   simp only [Lay.upd] at hbi hbj
   by_cases h1:i=id
   ·by_cases h2:j=id
    ·rw [h1,h2]
    ·rw [if_neg h2] at hj hbj
     rw [if_pos h1] at hbi
     have:=(hnb b hbi).1
     have:=(H.own0 j oj b hj hbj).2
     omega
   ·rw [if_neg h1] at hi hbi
    by_cases h2:j=id
    ·rw [if_pos h2] at hbj
     have:=(hnb b hbj).1
     have:=(H.own0 i oi b hi hbi).2
     omega
    ·rw [if_neg h2] at hj hbj
     exact H.inj i j oi oj b hi hj hbi hbj
  own0:=fun i oi b hi hbi=>by
   unfold hput at hi
   simp only [Lay.upd] at hbi
   by_cases h1:i=id
   ·rw [if_pos h1] at hbi
    have:=hnb b hbi
    exact ⟨.inl (Nat.le_trans H.below.size this.1),this.2⟩
   ·rw [if_neg h1] at hi hbi
    have:=H.own0 i oi b hi hbi
    exact ⟨this.1,Nat.lt_of_lt_of_le this.2 hb.size⟩
  kept:=fun i oi hl hi=>by
   have hne:i≠id:=fun e=>hlid (e▸hl)
   unfold hput at hi
   rw [if_neg hne] at hi
   simp only [Lay.upd,if_neg hne]
   exact H.kept i oi hl hi
  lidn:=H.lidn}
theorem Rel.set (H:Rel C L g h a w) {id:Nat} {o o':AObj} (hl:h id=some o) {b0:Nat} (hb0:L.blk id=some b0)
  (hos:w'.os=w.os) (htp:w'.tape=w.tape) (hout:w'.output=w.output) (hsz:w'.heap.size=w.heap.size) (hw:∀b,b≠b0→w'.heap[b]? = w.heap[b]?)
  (ho:∀gd',Stays w w' (good C L h w) gd'→(∀b,L.old b→w'.heap[b]? = w.heap[b]?)→RepO w' gd' L id o'):Rel C L g (hput h id o') a w':=by
 have hold:∀{i oi},hput h id o' i=some oi→∃oi',h i=some oi':=by
  intro i oi hi
  unfold hput at hi
  split at hi
  ·rename_i e;exact ⟨o,e▸hl⟩
  ·exact ⟨oi,hi⟩
 have hg:Stays w w' (good C L h w) (good C L (hput h id o') w'):=by
  intro b hlt hgb
  refine ⟨⟨by omega,hgb.2.1,?_⟩,hw b ?_⟩
  ·rintro ⟨i,oi,h1,h2⟩
   obtain ⟨oi',h1'⟩:=hold h1
   exact hgb.2.2 ⟨i,oi',h1',h2⟩
  ·intro e
   exact hgb.2.2 ⟨id,o,hl,by rw [hb0,e]⟩
 have h0:=H.own0 id o b0 hl hb0
 have ht:∀b,L.old b→w'.heap[b]? = w.heap[b]?:=fun b h=>hw b (fun e=>H.old_own h hl (by rw [hb0,e]))
 exact {
  below:=H.below.next hos htp hout (by omega) fun k hk hnl=>hw k (fun e=>by rcases h0.1 with h1|h1;omega;exact hnl (e▸h1))
  top:=H.top
  size:=H.size
  defers:=H.defers
  slot:=fun t=>(H.slot t).mono1 (by omega) hg ht
  obj:=fun j oj hj=>by
   unfold hput at hj
   split at hj
   ·rename_i hi
    cases hj
    rw [hi]
    exact ho _ hg ht
   ·rename_i hi
    exact (H.obj j oj hj).mono (by omega) hg (fun b hlb=>hw b (fun e=>hi (H.inj j id oj o b hj hl hlb (by rw [hb0,e])))) (fun b _ hb=>⟨hb,ht b hb⟩) (fun _=>true) (fun _ _=>⟨rfl,rfl⟩) rfl (fun _ h=>by cases h)
  inj:=fun i j oi oj b hi hj hbi hbj=>by
   obtain ⟨oi',h1⟩:=hold hi
   obtain ⟨oj',h2⟩:=hold hj
   exact H.inj i j oi' oj' b h1 h2 hbi hbj
  own0:=fun i oi b hi hbi=>by
   obtain ⟨oi',h1⟩:=hold hi
   have:=H.own0 i oi' b h1 hbi
   exact ⟨this.1,by omega⟩
  kept:=fun i oi hl' hi=>by
   obtain ⟨oi',h1⟩:=hold hi
   exact H.kept i oi' hl' h1
  lidn:=H.lidn}
end
def killG (id:Nat) (g:Nat→AVal):Nat→AVal:=fun t=>match (g t).free id with|true=>g t|false=>.any
def killL (id:Nat):List AVal→Option (List AVal)
 | []=>some []
 |x::r=>match killL id r with
  |some r'=>match x.free id with
   |true=>some (x::r')
   |false=>some (.any::r')
  |none=>none
def killM (id:Nat):List (D×AVal)→Option (List (D×AVal))
 | []=>some []
 |(k,x)::r=>match killM id r with
  |some r'=>match x.free id with
   |true=>some ((k,x)::r')
   |false=>some ((k,.any)::r')
  |none=>none
theorem killM_get {id:Nat}:∀{l m:List (D×AVal)},killM id l=some m→m.length=l.length∧∀(i:Nat) (x:D×AVal),m[i]? = some x→∃y,l[i]? = some (x.1,y)∧(x.2=.any∨(y=x.2∧y.free id=true))
 | [],m,h=>by simp [killM] at h;subst h;exact ⟨rfl,fun i x hx=>by simp at hx⟩
 |(k,y)::r,m,h=>by
  simp only [killM] at h
  cases hr:killM id r with
  |none=>rw [hr] at h;cases h
  |some r'=>
   rw [hr] at h
   obtain ⟨h1,h2⟩:=killM_get hr
   cases hf:y.free id with
   |true=>
    rw [hf] at h
    simp only [Option.some.injEq] at h
    subst h
    refine ⟨by simp [h1],fun i x hx=>?_⟩
    cases i with
    |zero=>simp only [List.getElem?_cons_zero,Option.some.injEq] at hx;subst hx;exact ⟨y,rfl,.inr ⟨rfl,hf⟩⟩
    |succ i=>simp only [List.getElem?_cons_succ] at hx ⊢;exact h2 i x hx
   |false=>
    rw [hf] at h
    simp only [Option.some.injEq] at h
    subst h
    refine ⟨by simp [h1],fun i x hx=>?_⟩
    cases i with
    |zero=>simp only [List.getElem?_cons_zero,Option.some.injEq] at hx;subst hx;exact ⟨y,rfl,.inl rfl⟩
    |succ i=>simp only [List.getElem?_cons_succ] at hx ⊢;exact h2 i x hx
def killO (id:Nat):AObj→Option AObj
 |.mp l=>match killM id l with
  |some l=>some (.mp l)
  |none=>none
 |.box l tag=>match killL id l with
  |some l=>some (.box l tag)
  |none=>none
 |.row t sz n f=>some (.row t sz n f)
 |.vrow t l=>match killL id l with
  |some l=>some (.vrow t l)
  |none=>none
 |.dmp l=>some (.dmp l)
def killH (id:Nat) (h:Nat→Option AObj):Nat→Option AObj:=fun j=>if j=id then none else match h j with|some o=>killO id o|none=>none
def killE (id:Nat):Env→Option Env
 | []=>some []
 |(t,v)::r=>match killE id r with
  |some r'=>match v.free id with
   |true=>some ((t,v)::r')
   |false=>some ((t,.any)::r')
  |none=>none
def killHp (id:Nat):Heap→Option Heap
 | []=>some []
 |(j,o)::r=>match killHp id r with
  |some r'=>match Nat.beq j id with
   |true=>some r'
   |false=>match killO id o with
    |some o'=>some ((j,o')::r')
    |none=>none
  |none=>none
theorem killL_get {id:Nat}:∀{l m:List AVal},killL id l=some m→m.length=l.length∧∀(i:Nat) (x:AVal),m[i]? = some x→x=.any∨(l[i]? = some x∧x.free id=true)
 | [],m,h=>by simp [killL] at h;subst h;exact ⟨rfl,fun i x hx=>by simp at hx⟩
 |y::r,m,h=>by
  simp only [killL] at h
  cases hr:killL id r with
  |none=>rw [hr] at h;cases h
  |some r'=>
   rw [hr] at h
   obtain ⟨h1,h2⟩:=killL_get hr
   cases hf:y.free id with
   |true=>
    rw [hf] at h
    simp only [Option.some.injEq] at h
    subst h
    refine ⟨by simp [h1],fun i x hx=>?_⟩
    cases i with
    |zero=>simp only [List.getElem?_cons_zero,Option.some.injEq] at hx;subst hx;exact .inr ⟨rfl,hf⟩
    |succ i=>simp only [List.getElem?_cons_succ] at hx ⊢;exact h2 i x hx
   |false=>
    rw [hf] at h
    simp only [Option.some.injEq] at h
    subst h
    refine ⟨by simp [h1],fun i x hx=>?_⟩
    cases i with
    |zero=>simp only [List.getElem?_cons_zero,Option.some.injEq] at hx;subst hx;exact .inl rfl
    |succ i=>simp only [List.getElem?_cons_succ] at hx ⊢;exact h2 i x hx
theorem killE_look {id:Nat}:∀{env env':Env},killE id env=some env'→lk env'=killG id (lk env)
 | [],env',h=>by simp [killE] at h;subst h;rfl
 |(t,v)::r,env',h=>by
  simp only [killE] at h
  cases hr:killE id r with
  |none=>rw [hr] at h;cases h
  |some r'=>
   rw [hr] at h
   have ih:=killE_look hr
   cases hf:v.free id with
   |true=>
    rw [hf] at h
    simp only [Option.some.injEq] at h
    subst h
    rw [lk_cons,lk_cons,ih]
    funext s
    unfold gput killG
    by_cases hs:s=t
    ·simp [hs,hf]
    ·simp [hs]
   |false=>
    rw [hf] at h
    simp only [Option.some.injEq] at h
    subst h
    rw [lk_cons,lk_cons,ih]
    funext s
    unfold gput killG
    by_cases hs:s=t
    ·simp [hs,hf]
    ·simp [hs]
theorem killHp_look {id:Nat}:∀{h h':Heap},killHp id h=some h'→lko h'=killH id (lko h)
 | [],h',e=>by simp [killHp] at e;subst e;funext j;simp [killH,lookO]
 |(t,o)::r,h',e=>by
  simp only [killHp] at e
  cases hr:killHp id r with
  |none=>rw [hr] at e;cases e
  |some r'=>
   rw [hr] at e
   have ih:=killHp_look hr
   cases hb:Nat.beq t id with
   |true=>
    rw [hb] at e
    simp only [Option.some.injEq] at e
    subst e
    have:=Nat.eq_of_beq_eq_true hb
    subst this
    rw [ih,lko_cons]
    funext j
    unfold killH hput
    by_cases hj:j=t
    ·simp [hj]
    ·simp [hj]
   |false=>
    rw [hb] at e
    simp only at e
    have hne:t≠id:=fun h=>by subst h;rw [beq_self] at hb;cases hb
    cases hk:killO id o with
    |none=>rw [hk] at e;cases e
    |some o'=>
     rw [hk] at e
     simp only [Option.some.injEq] at e
     subst e
     rw [lko_cons,lko_cons,ih]
     funext j
     unfold killH hput
     by_cases hj:j=t
     ·subst hj;simp [hne,hk]
     ·simp [hj]
section
variable {C : Ctx} {L : Lay} {g : Nat → AVal} {h : Nat → Option AObj} {a : Act} {w w' : World}
theorem Rel.app (H:Rel C L g h a w) {id d:Nat} (hlid:d∉C.lid) {o0 o:AObj} (hid:h id=some o0) (he:∀t,(killG id g t).free d=true) (hh:∀j o,killH id h j=some o→j≠d∧o.free d=true)
  (hos:w'.os=w.os) (htp:w'.tape=w.tape) (hout:w'.output=w.output) (hsz:w.heap.size≤w'.heap.size) (hw:∀b,b<w.heap.size→some b≠L.blk id→w'.heap[b]? = w.heap[b]?)
  (nb:Option Nat) (nc:Nat) (hnb:∀b,nb=some b→b<w'.heap.size∧(some b=L.blk id∨w.heap.size≤b))
  (ho:∀gd',Stays w w' (good C L h w) gd'→RepO w' gd' (L.upd d nb nc) d o) :
  Rel C (L.upd d nb nc) (killG id g) (hput (killH id h) d o) a w'∧Stays w w' (good C L h w) (good C (L.upd d nb nc) (hput (killH id h) d o) w'):=by
 have hkold:∀{j oj},killH id h j=some oj→∃o',h j=some o'∧j≠id∧killO id o'=some oj:=by
  intro j oj hj
  unfold killH at hj
  split at hj
  ·cases hj
  ·rename_i hne
   cases ho':h j with
   |none=>rw [ho'] at hj;cases hj
   |some o'=>rw [ho'] at hj;exact ⟨o',rfl,hne,hj⟩
 have hgood:Stays w w' (good C L h w) (good C (L.upd d nb nc) (hput (killH id h) d o) w'):=by
  intro b hlt hgb
  have hne:some b≠L.blk id:=fun e=>hgb.2.2 ⟨id,o0,hid,e.symm⟩
  refine ⟨⟨Nat.lt_of_lt_of_le hlt hsz,hgb.2.1,?_⟩,hw b hlt hne⟩
  rintro ⟨i,oi,h1,h2⟩
  unfold hput at h1
  split at h1
  ·rename_i hi
   simp only [Lay.upd,hi,if_true] at h2
   rcases (hnb b h2).2 with e|e
   ·exact hne e
   ·omega
  ·rename_i hi
   simp only [Lay.upd,hi,if_false] at h2
   obtain ⟨o',e1,_,_⟩:=hkold h1
   exact hgb.2.2 ⟨i,o',e1,h2⟩
 refine ⟨?_,hgood⟩
 have hL:∀i,(i != d)=true→(L.upd d nb nc).blk i=L.blk i∧(L.upd d nb nc).cap i=L.cap i:=by
  intro i hi
  have:i≠d:=by simpa using hi
  simp [Lay.upd,this]
 have hp:∀i,(i != d)=false→i=d:=by intro i hi;simpa using hi
 have hown:=fun b e=>H.own0 id o0 b hid e
 have ht:∀b,b<w.heap.size→L.old b→(L.upd d nb nc).old b∧w'.heap[b]? = w.heap[b]?:=fun b hlt hb=>⟨hb,hw b hlt (fun e=>H.old_own hb hid e.symm)⟩
 exact {
  below:=H.below.next hos htp hout hsz fun k hk hnl=>hw k (Nat.lt_of_lt_of_le hk H.below.size) (fun e=>by rcases (hown k e.symm).1 with h1|h1;omega;exact hnl h1)
  top:=H.top
  size:=H.size
  defers:=H.defers
  slot:=fun t=>by
   have hs:=H.slot t
   have hf:=he t
   unfold killG at hf ⊢
   split
   ·rename_i e
    rw [e] at hf
    exact hs.mono hsz (· != d) hL ht hgood (fun i hi=>by rw [hp i hi];exact hf)
   ·exact .any
  obj:=fun j oj hj=>by
   unfold hput at hj
   split at hj
   ·rename_i hi
    cases hj
    rw [hi]
    exact ho _ hgood
   ·rename_i hi
    obtain ⟨o',e1,e2,e3⟩:=hkold hj
    have hfree:=(hh j oj hj).2
    have hro:=H.obj j o' e1
    have hblk:∀b,L.blk j=some b→w'.heap[b]? = w.heap[b]?:=fun b hb=>hw b (H.own0 j o' b e1 hb).2 (fun e=>e2 (H.inj j id o' o0 b e1 hid hb e.symm))
    have hjd:(j != d)=true:=by simpa using hi
    cases o' with
    |row t sz n f=>
     simp only [killO,Option.some.injEq] at e3
     subst e3
     exact hro.mono hsz hgood hblk ht (· != d) hL hjd (fun _ _=>rfl)
    |dmp l=>
     simp only [killO,Option.some.injEq] at e3
     subst e3
     exact hro.mono hsz hgood hblk ht (· != d) hL hjd (fun _ _=>rfl)
    |vrow tv l=>
     simp only [killO] at e3
     cases hk:killL id l with
     |none=>rw [hk] at e3;cases e3
     |some m=>
      rw [hk] at e3
      simp only [Option.some.injEq] at e3
      subst e3
      obtain ⟨k1,k2⟩:=killL_get hk
      cases hro with
      |vrow0 hb1 hc=>
       obtain rfl:m=[]:=by cases m with|nil=>rfl|cons _ _=>simp at k1
       exact .vrow0 ((hL j hjd).1.trans hb1) ((hL j hjd).2.trans hc)
      |vrow hb1 hheap hn hm hz h1 hrep=>
       have hc:=(hL j hjd).2
       refine .vrow ((hL j hjd).1.trans hb1) ((hblk _ hb1).trans hheap) (by rw [hc];omega) (by rw [hc];exact hm) (by rw [hc];exact hz) (fun i hi=>h1 i (by omega)) (fun i x hx=>?_)
       rcases k2 i x hx with rfl|⟨e1,_⟩
       ·exact .any
       ·exact (hrep i x e1).mono hsz (· != d) hL ht hgood (fun i' hi'=>by rw [hp i' hi'];exact AVal.freeL_get hfree i x hx)
    |mp l=>
     simp only [killO] at e3
     cases hk:killM id l with
     |none=>rw [hk] at e3;cases e3
     |some m=>
      rw [hk] at e3
      simp only [Option.some.injEq] at e3
      subst e3
      obtain ⟨k1,k2⟩:=killM_get hk
      cases hro with
      |mp hb1 hheap hz hkk h1 hrep=>
       refine .mp ((hL j hjd).1.trans hb1) ((hblk _ hb1).trans hheap) (by omega) (fun i x e hx he=>?_) h1 (fun i x e hx he=>?_)
       ·obtain ⟨y,hy,_⟩:=k2 i x hx
        exact hkk i (x.1,y) e hy he
       ·obtain ⟨y,hy,hor⟩:=k2 i x hx
        rcases hor with h0|⟨rfl,_⟩
        ·rw [h0];exact .any
        ·exact (hrep i (x.1,x.2) e hy he).mono hsz (· != d) hL ht hgood (fun i' hi'=>by rw [hp i' hi'];exact freeM_get hfree i x hx)
    |box l tag=>
     simp only [killO] at e3
     cases hk:killL id l with
     |none=>rw [hk] at e3;cases e3
     |some m=>
      rw [hk] at e3
      simp only [Option.some.injEq] at e3
      subst e3
      obtain ⟨k1,k2⟩:=killL_get hk
      cases hro with
      |box htag hb1 hheap hz h1 hrep=>
       refine .box htag ((hL j hjd).1.trans hb1) ((hblk _ hb1).trans hheap) (by omega) (fun i hi=>h1 i (by omega)) (fun i x hx=>?_)
       rcases k2 i x hx with rfl|⟨e1,_⟩
       ·exact .any
       ·exact (hrep i x e1).mono hsz (· != d) hL ht hgood (fun i' hi'=>by rw [hp i' hi'];exact AVal.freeL_get hfree i x hx)
  inj:=fun i j oi oj b hi hj hbi hbj=>by
   unfold hput at hi hj
   simp only [Lay.upd] at hbi hbj
   by_cases h1:i=d
   ·by_cases h2:j=d
    ·rw [h1,h2]
    ·rw [if_neg h2] at hj hbj
     rw [if_pos h1] at hbi
     obtain ⟨o',e1,e2,_⟩:=hkold hj
     rcases (hnb b hbi).2 with e|e
     ·exact (e2 (H.inj j id o' o0 b e1 hid hbj e.symm)).elim
     ·have:=(H.own0 j o' b e1 hbj).2;omega
   ·rw [if_neg h1] at hi hbi
    obtain ⟨o',e1,e2,_⟩:=hkold hi
    by_cases h2:j=d
    ·rw [if_pos h2] at hbj
     rcases (hnb b hbj).2 with e|e
     ·exact (e2 (H.inj i id o' o0 b e1 hid hbi e.symm)).elim
     ·have:=(H.own0 i o' b e1 hbi).2;omega
    ·rw [if_neg h2] at hj hbj
     obtain ⟨o'',e1',_,_⟩:=hkold hj
     exact H.inj i j o' o'' b e1 e1' hbi hbj
  own0:=fun i oi b hi hbi=>by
   unfold hput at hi
   simp only [Lay.upd] at hbi
   by_cases h1:i=d
   ·rw [if_pos h1] at hbi
    obtain ⟨e1,e2⟩:=hnb b hbi
    refine ⟨?_,e1⟩
    rcases e2 with e|e
    ·exact (hown b e.symm).1
    ·exact .inl (Nat.le_trans H.below.size e)
   ·rw [if_neg h1] at hi hbi
    obtain ⟨o',e1,_,_⟩:=hkold hi
    have:=H.own0 i o' b e1 hbi
    exact ⟨this.1,Nat.lt_of_lt_of_le this.2 hsz⟩
  kept:=fun i oi hl hi=>by
   have hne:i≠d:=fun e=>hlid (e▸hl)
   unfold hput at hi
   rw [if_neg hne] at hi
   simp only [Lay.upd,if_neg hne]
   obtain ⟨o',e1,_,_⟩:=hkold hi
   exact H.kept i o' hl e1
  lidn:=H.lidn}
end
def freeEnv (id:Nat):Env→Bool
 | []=>true
 |(_,v)::r=>v.free id&&freeEnv id r
def freeHeap (id:Nat):Heap→Bool
 | []=>true
 |(j,o)::r=>!Nat.beq j id&&o.free id&&freeHeap id r
theorem freeEnv_look {id:Nat}:∀{env:Env},freeEnv id env=true→∀t,(look t env).free id=true
 | [],_,t=>rfl
 |(j,v)::r,h,t=>by
  simp only [freeEnv,Bool.and_eq_true] at h
  rw [look_cons]
  split
  ·exact h.1
  ·exact freeEnv_look h.2 t
theorem freeHeap_look {id:Nat}:∀{h:Heap},freeHeap id h=true→∀j o,lookO j h=some o→j≠id∧o.free id=true
 | [],_,j,o,e=>by simp [lookO] at e
 |(k,v)::r,h,j,o,e=>by
  simp only [freeHeap,Bool.and_eq_true] at h
  rw [lookO_cons] at e
  split at e
  ·rename_i hj
   cases e
   rw [hj]
   exact ⟨beq_ne h.1.1,h.1.2⟩
  ·exact freeHeap_look h.2 j o e
inductive TyK
 |bool|int (k:IntKind)|string|slice (e:TypeId)|struct (fs:List (Nat×Nat×TypeId))|array (n:Nat) (e:TypeId)|pointer (e:TypeId)|func|map (k e:TypeId)|other
structure TyD where
 kind:TyK
 size:Nat
 bytes:Nat
 zero:List D
def kindOf (P:Program):TypeDesc→TyK
 |.bool=>.bool
 |.int k=>.int k
 |.string=>.string
 |.slice e=>.slice e
 |.struct fs=>.struct (fs.toList.map fun f=>(f.offset,match P.info? f.type with|some i=>i.size|none=>0,f.type))
 |.array n e=>.array n e
 |.pointer e=>.pointer e
 |.func ..=>.func
 |.map k e=>.map k e
 |_=>.other
def D.val:D→Value
 |.i k n=>.int k n
 |.b x=>.bool x
 |.s l=>.string ⟨l.toArray⟩
 |.v x=>x
 |.sl ..=>undef
 |.cl ..=>undef
 |.o=>undef
 |.pt _=>undef
 |.slF ..=>undef
def isStr:TyK→Bool
 |.struct _=>true
 |.array _ _=>true
 |_=>false
def TyD.zeroVal (d:TyD):Value:=match isStr d.kind with
 |true=>.agg (d.zero.map D.val).toArray
 |false=>match d.zero with | [x]=>x.val|_=>undef
def plainF (P:Program) (f:Field):Bool:=match P.underlying f.type with|some (.int _)=>true|some .bool=>true|some .string=>true|_=>false
def cmpOk (P:Program) (t:TypeId):Bool:=match P.underlying t with
 |some (.struct fs)=>!(fs.toList.all (plainF P)) ||
   (fs.toList.all (fun f => f.name != "_") && !P.stoodInHeld t && !P.eqGuardType P.depth t)
 |some (.array _ e)=>match P.underlying e with
  |some (.int _)=>!P.eqGuardType P.depth t
  |_=>true
 |_=>true
structure TyOk (P:Program) (t:TypeId) (d:TyD):Prop where
 info:(P.info? t).map (fun i=>(i.zero,i.size,i.bytes))=some (some d.zeroVal,d.size,d.bytes)
 kind:(P.underlying t).map (kindOf P)=some d.kind
 zlen:d.zero.length=d.size
 ceq:cmpOk P t=true
 fok:(match P.underlying t with|some (.struct fs)=>fs.toList.all (fun f=>(P.info? f.type).isSome)|_=>true)=true
 zwf:(isStr d.kind ||d.zero.length==1)=true
 lt:t<markT
 zone:d.zero.all (fun x=>x.val.oneCell'&&match x with|.sl ..=>false|.cl ..=>false|.o=>false|.pt _=>false|.slF ..=>false|_=>true)=true
def tagMem (t:Nat):List Nat→Bool
 | []=>false
 |j::r=>match Nat.beq j t with|true=>true|false=>tagMem t r
structure Tys where
 l:List (Nat×TyD)
 wrap:Bool
 pub:List Nat
 lnt:List (Nat×List Bool)
 tg:List Nat
def lookL (i:Nat):List (Nat×TyD)→Option TyD
 | []=>none
 |(j,v)::r=>match Nat.beq j i with|true=>some v|false=>lookL i r
def lookT (i:Nat) (T:Tys):Option TyD:=lookL i T.l
def TysOkL (P:Program):List (Nat×TyD)→Prop
 | []=>True
 |(t,d)::r=>TyOk P t d∧TysOkL P r
def TysOk (P:Program) (T:Tys):Prop:=TysOkL P T.l
theorem TysOkL.get {P:Program} {t:Nat} {d:TyD}:∀{T:List (Nat×TyD)},TysOkL P T→lookL t T=some d→TyOk P t d
 | [],_,e=>by simp [lookL] at e
 |(j,v)::r,h,e=>by
  have eq:lookL t ((j,v)::r)=(match Nat.beq j t with|true=>some v|false=>lookL t r):=rfl
  rw [eq] at e
  cases hb:Nat.beq j t with
  |true=>
   rw [hb] at e
   cases e
   rw [←Nat.eq_of_beq_eq_true hb]
   exact h.1
  |false=>
   rw [hb] at e
   exact TysOkL.get h.2 e
theorem TysOk.get {P:Program} {t:Nat} {d:TyD} {T:Tys} (h:TysOk P T) (e:lookT t T=some d):TyOk P t d:=TysOkL.get h e
theorem TyOk.info' {P:Program} {t:TypeId} {d:TyD} (h:TyOk P t d):∃i,P.info? t=some i∧i.zero=some d.zeroVal∧i.size=d.size∧i.bytes=d.bytes:=by
 have:=h.info
 cases hi:P.info? t with
 |none=>rw [hi] at this;cases this
 |some i=>
  rw [hi] at this
  simp only [Option.map_some,Option.some.injEq,Prod.mk.injEq] at this
  exact ⟨i,rfl,this.1,this.2.1,this.2.2⟩
theorem TyOk.und {P:Program} {t:TypeId} {d:TyD} (h:TyOk P t d):∃u,P.underlying t=some u∧kindOf P u=d.kind:=by
 have:=h.kind
 cases hi:P.underlying t with
 |none=>rw [hi] at this;cases this
 |some u=>
  rw [hi] at this
  simp only [Option.map_some,Option.some.injEq] at this
  exact ⟨u,rfl,this⟩
section
variable {P : Program} {t : TypeId} {d : TyD}
theorem TyOk.slice {e:TypeId} (h:TyOk P t d) (hk:d.kind=.slice e):P.underlying t=some (.slice e):=by
 obtain ⟨u,h1,h2⟩:=h.und
 rw [hk] at h2
 cases u<;>simp [kindOf] at h2
 rw [h1,h2]
theorem TyOk.bool (h:TyOk P t d) (hk:d.kind=.bool):P.underlying t=some .bool:=by
 obtain ⟨u,h1,h2⟩:=h.und
 rw [hk] at h2
 cases u<;>simp [kindOf] at h2<;>first|(subst h2;exact h1)|exact h1
theorem TyOk.string (h:TyOk P t d) (hk:d.kind=.string):P.underlying t=some .string:=by
 obtain ⟨u,h1,h2⟩:=h.und
 rw [hk] at h2
 cases u<;>simp [kindOf] at h2
 exact h1
theorem TyOk.int {k:IntKind} (h:TyOk P t d) (hk:d.kind=.int k):P.underlying t=some (.int k):=by
 obtain ⟨u,h1,h2⟩:=h.und
 rw [hk] at h2
 cases u<;>simp [kindOf] at h2
 rw [h1,h2]
theorem TyOk.array {n:Nat} {e:TypeId} (h:TyOk P t d) (hk:d.kind=.array n e):P.underlying t=some (.array n e):=by
 obtain ⟨u,h1,h2⟩:=h.und
 rw [hk] at h2
 cases u<;>simp [kindOf] at h2
 rw [h1,h2.1,h2.2]
theorem TyOk.struct {fs:List (Nat×Nat×TypeId)} (h:TyOk P t d) (hk:d.kind=.struct fs):∃l,P.underlying t=some (.struct l)∧(l.toList.map fun f=>(f.offset,match P.info? f.type with|some i=>i.size|none=>0,f.type))=fs:=by
 obtain ⟨u,h1,h2⟩:=h.und
 rw [hk] at h2
 cases u with
 |struct l=>refine ⟨l,h1,?_⟩;simpa [kindOf] using h2
 |_=>simp [kindOf] at h2
theorem TyOk.map {k e:TypeId} (h:TyOk P t d) (hk:d.kind=.map k e):P.underlying t=some (.map k e):=by
 obtain ⟨u,h1,h2⟩:=h.und
 rw [hk] at h2
 cases u<;>simp [kindOf] at h2
 rw [h1,h2.1,h2.2]
theorem TyOk.isAgg (h:TyOk P t d) (w:World):(isAgg t).run P w=.ok (isStr d.kind) w:=by
 obtain ⟨u,h1,h2⟩:=h.und
 cases u<;>simp [Go.isAgg,run_underlying h1,←h2,kindOf,isStr]
theorem TyOk.sizeOf (h:TyOk P t d) (w:World):(Go.sizeOf t).run P w=.ok d.size w:=by
 obtain ⟨i,h1,h2,h3,h4⟩:=h.info'
 simp [Go.sizeOf,typeInfo,h1,h3]
theorem TyOk.zeroValue (h:TyOk P t d) (w:World):(zeroValue t).run P w=.ok d.zeroVal w:=by
 obtain ⟨i,h1,h2,h3,h4⟩:=h.info'
 simp [Go.zeroValue,typeInfo,h1,h2]
end
def takeF {α:Type}:Nat→List α→Option (List α)
 |0,_=>some []
 |_+1,[]=>none
 |n+1,c::r=>match takeF n r with|some l=>some (c::l)|none=>none
def dropF {α:Type}:Nat→List α→List α
 |0,l=>l
 |_+1,[]=>[]
 |n+1,_::r=>dropF n r
def overF {α:Type}:List α→Nat→List α→Option (List α)
 |cs,0,[]=>some cs
 |_::cs,0,x::l=>match overF cs 0 l with|some r=>some (x::r)|none=>none
 |c::cs,n+1,l=>match overF cs n l with|some r=>some (c::r)|none=>none
 | [],_,_=>none
def liftF:List D→Option (List AVal)
 | []=>some []
 |x::r=>match liftF r with|some l=>some (.d x::l)|none=>none
theorem takeF_eq {α:Type}:∀{n:Nat} {l m:List α},takeF n l=some m→m=l.take n∧n≤l.length
 |0,l,m,h=>by simp [takeF] at h;subst h;simp
 |n+1,[],m,h=>by simp [takeF] at h
 |n+1,c::r,m,h=>by
  simp only [takeF] at h
  cases hr:takeF n r with
  |none=>rw [hr] at h;cases h
  |some l=>
   rw [hr] at h
   simp only [Option.some.injEq] at h
   obtain ⟨e1,e2⟩:=takeF_eq hr
   subst h
   rw [e1]
   exact ⟨rfl,by simp;omega⟩
theorem dropF_eq {α:Type}:∀(n:Nat) (l:List α),dropF n l=l.drop n
 |0,l=>rfl
 |n+1,[]=>by simp [dropF]
 |n+1,c::r=>by simp only [dropF,List.drop_succ_cons];exact dropF_eq n r
theorem liftF_eq:∀{l:List D} {m:List AVal},liftF l=some m→m=l.map .d
 | [],m,h=>by simp [liftF] at h;subst h;rfl
 |x::r,m,h=>by
  simp only [liftF] at h
  cases hr:liftF r with
  |none=>rw [hr] at h;cases h
  |some l=>
   rw [hr] at h
   simp only [Option.some.injEq] at h
   subst h
   rw [liftF_eq hr];rfl
theorem overF_eq {α:Type}:∀{cs:List α} {n:Nat} {l m:List α},overF cs n l=some m→n+l.length≤cs.length∧m.length=cs.length∧∀i,m[i]? = if n≤i∧i<n+l.length then l[i-n]? else cs[i]?
 |cs,0,[],m,h=>by
  have h:some cs=some m:=by cases cs<;>simpa [overF] using h
  cases h
  exact ⟨by simp,rfl,fun i=>by rw [if_neg (by simp)]⟩
 |c::cs,0,x::l,m,h=>by
  simp only [overF] at h
  cases hr:overF cs 0 l with
  |none=>rw [hr] at h;cases h
  |some r=>
   rw [hr] at h
   simp only [Option.some.injEq] at h
   subst h
   obtain ⟨h1,h2,h3⟩:=overF_eq hr
   refine ⟨by simp at h1 ⊢;omega,by simp [h2],fun i=>?_⟩
   cases i with
   |zero=>simp
   |succ i=>
    have:=h3 i
    simp only [Nat.zero_le,true_and,Nat.zero_add,Nat.sub_zero] at this
    simp only [List.getElem?_cons_succ,this,Nat.zero_le,true_and,Nat.zero_add,List.length_cons,Nat.add_lt_add_iff_right,Nat.sub_zero]
 |c::cs,n+1,l,m,h=>by
  simp only [overF] at h
  cases hr:overF cs n l with
  |none=>rw [hr] at h;cases h
  |some r=>
   rw [hr] at h
   simp only [Option.some.injEq] at h
   subst h
   obtain ⟨h1,h2,h3⟩:=overF_eq hr
   refine ⟨by simp;omega,by simp [h2],fun i=>?_⟩
   cases i with
   |zero=>simp
   |succ i=>
    have e:(n+1≤i+1∧i+1<n+1+l.length)↔(n≤i∧i<n+l.length):=by omega
    simp only [List.getElem?_cons_succ,h3 i,e,Nat.add_sub_add_right]
 | [],n+1,l,m,h=>by simp [overF] at h
 | [],0,x::l,m,h=>by simp [overF] at h
def aconst:Value→AVal
 |.int k n=>.d (.i k n)
 |.bool b=>.d (.b b)
 |.string s=>.d (.s s.data.toList)
 |.agg _=>.any
 |.tuple _=>.any
 |v=>.d (.v v)
theorem aconst_rep (w:World) (good:Nat→Prop) (L:Lay) (v:Value):RepA w L good (aconst v) v:=by
 cases v with
 |int k n=>exact .d (.i k n)
 |bool b=>exact .d (.b b)
 |string s=>exact .d (by have:=RepD.s (w:=w) (good:=good) s.data.toList;simpa using this)
 |agg _=>exact .any
 |tuple _=>exact .any
 |_=>exact .d (.v _ rfl)
def AVal.cells:AVal→List AVal
 |.agg l=>l
 |v=>[v]
inductive Res
 |val (v:AVal)
 |cond (v:AVal) (c:Prop)
 |new (o:AObj)
 |newv (o:AObj) (v:Nat→AVal) (c:Option Prop)
 |set (id:Nat) (o:AObj)
 |setc (id:Nat) (o:AObj) (c:Prop)
 |mkrow (t:TypeId) (sz n:Nat) (f:Nat→List D) (c:Option Prop)
 |app (old:Nat) (t:TypeId) (sz n:Nat) (f:Nat→List D) (c:Prop)
 |appv (old:Nat) (t:TypeId) (cells:List AVal) (c:Prop)
 |mkv (t:TypeId) (cells:List AVal) (c:Prop)
 |mget (k:D) (l:List (D×D)) (z:D) (ok:Bool)
 |mput (id:Nat) (k x:D) (l:List (D×D))
 |mdel (id:Nat) (k:D) (l:List (D×D))
 |ndb (c:Bool→Prop)
 |str (c:List UInt8→Prop)
 |pub (id:Nat) (v:AVal)
def wraps (T:Tys):Bool:=T.wrap
def arith (w:Bool) (k:IntKind) (n:Int):Res:=
 match k with
 |.i64=>match w with
  |true=>.val (.d (.i .i64 (IntKind.i64.wrap n)))
  |false=>.cond (.d (.i .i64 n)) (-9223372036854775808≤n∧n≤9223372036854775807)
 |k=>.val (.d (.i k (k.wrap n)))
def bitsOp (op:BinOp) (k:IntKind) (a b:Int):Int:=
 let x:=BitVec.ofInt k.bits a
 let y:=BitVec.ofInt k.bits b
 match op with
 |.and=>k.wrap (x &&& y).toNat
 |.or=>k.wrap (x |||y).toNat
 |.xor=>k.wrap (x ^^^ y).toNat
 |_=>k.wrap (x &&& ~~~y).toNat
def kEq:IntKind→IntKind→Bool
 |.i8,.i8=>true|.i16,.i16=>true|.i32,.i32=>true|.i64,.i64=>true
 |.u8,.u8=>true|.u16,.u16=>true|.u32,.u32=>true|.u64,.u64=>true
 |_,_=>false
theorem kEq_eq {a b:IntKind} (h:kEq a b=true):a=b:=by cases a<;>cases b<;>simp_all [kEq]
def aBinI (w:Bool) (op:BinOp) (k:IntKind) (a b:Int):Option Res:=
 match op with
 |.add=>some (arith w k (a+b))
 |.sub=>some (arith w k (a-b))
 |.mul=>some (arith w k (a*b))
 |.eql=>some (.val (.d (.b (a==b))))
 |.neq=>some (.val (.d (.b (a != b))))
 |.lss=>some (.val (.d (.b (decide (a<b)))))
 |.leq=>some (.val (.d (.b (decide (a≤b)))))
 |.gtr=>some (.val (.d (.b (decide (b<a)))))
 |.geq=>some (.val (.d (.b (decide (b≤a)))))
 |.quo=>some (.cond (.d (.i k (k.wrap (a.tdiv b)))) (b≠0))
 |.rem=>some (.cond (.d (.i k (a.tmod b))) (b≠0))
 |.and=>some (.val (.d (.i k (bitsOp .and k a b))))
 |.or=>some (.val (.d (.i k (bitsOp .or k a b))))
 |.xor=>some (.val (.d (.i k (bitsOp .xor k a b))))
 |.andNot=>some (.val (.d (.i k (bitsOp .andNot k a b))))
 |_=>none
def shlOp (k:IntKind) (a b:Int):Int:=k.wrap (a*2 ^ min b.toNat k.bits)
def shrOp (k:IntKind) (a b:Int):Int:=a.fdiv (2 ^ min b.toNat k.bits)
def aBin (w:Bool) (op:BinOp):AVal→AVal→Option Res
 |.d (.i k a),.d (.i k' b)=>
  match op with
  |.shl=>some (.cond (.d (.i k (shlOp k a b))) (0≤b))
  |.shr=>some (.cond (.d (.i k (shrOp k a b))) (0≤b))
  |op=>match kEq k k' with
   |true=>aBinI w op k a b
   |false=>none
 |.d (.s a),.d (.s b)=>
  match op with
  |.add=>some (.cond (.d (.s (a++b))) (a.length+b.length≤9223372036854775807))
  |.eql=>some (.val (.d (.b (a==b))))
  |.neq=>some (.val (.d (.b (a != b))))
  |.lss=>some (.val (.d (.b (Op.bytesLess a b))))
  |_=>none
 |_,_=>none
def aLen:AVal→Option Int
 |.d (.s l)=>some l.length
 |.d (.sl _ n _)=>some n
 |.rsl _ _ _ n=>some n
 |.d (.v (.slice none 0 _))=>some 0
 |_=>none
def mkCond (v:AVal):Option Prop→Res
 |some c=>.cond v c
 |none=>.val v
def aCells (h:Nat→Option AObj):AVal→Option (List AVal×Option Prop)
 |.ptr id off=>match h id with
  |some (.box cells _)=>some (dropF off cells,none)
  |_=>none
 |.eptr _ _ f k off=>match liftF (dropF off (f k)) with
  |some l=>some (l,none)
  |none=>none
 |.rptr id sz k off=>match h id with
  |some (.row _ sz' n f)=>match Nat.beq sz sz' with
   |true=>match liftF (dropF off (f k)) with
    |some l=>some (l,some (k<n))
    |none=>none
   |false=>none
  |some (.box cells _)=>some (dropF (k*sz+off) cells,none)
  |some (.mp _)=>none
  |some (.vrow ..)=>none
  |some (.dmp _)=>none
  |none=>none
 |.d (.pt ds)=>match liftF ds with
  |some l=>some (l,none)
  |none=>none
 |_=>none
def aPart (d:TyD) (l:List AVal):Option AVal:=
 match takeF d.size l with
 |some l=>match isStr d.kind with
  |true=>some (.agg l)
  |false=>match l with | [x]=>some x|_=>none
 |none=>none
def aLoad (h:Nat→Option AObj) (d:TyD) (p:AVal):Option Res:=
 match aCells h p with
 |some (l,c)=>match aPart d l with
  |some v=>some (mkCond v c)
  |none=>none
 |none=>none
def AVal.sure:AVal→Bool
 |.any=>false
 |.tup _=>false
 |.agg _=>false
 |_=>true
def aStored (d:TyD):AVal→Option (List AVal)
 |.agg l=>match isStr d.kind with|true=>some l|false=>none
 |.any=>none
 |.tup _=>none
 |v=>match isStr d.kind with|true=>none|false=>some [v]
def fupd (f:Nat→List D) (k:Nat) (r:List D):Nat→List D:=fun j=>if j=k then r else f j
def unliftF:List AVal→Option (List D)
 | []=>some []
 |.d x::r=>match unliftF r with|some l=>some (x::l)|none=>none
 |_=>none
theorem unliftF_eq:∀{l:List AVal} {m:List D},unliftF l=some m→l=m.map .d
 | [],m,h=>by simp [unliftF] at h;subst h;rfl
 |x::r,m,h=>by
  cases x with
  |d x=>
   simp only [unliftF] at h
   cases hr:unliftF r with
   |none=>rw [hr] at h;cases h
   |some l=>
    rw [hr] at h
    simp only [Option.some.injEq] at h
    subst h
    rw [unliftF_eq hr];rfl
  |_=>simp [unliftF] at h
def aStore (h:Nat→Option AObj) (d:TyD) (v:AVal):AVal→Option Res
 |.ptr id off=>match h id with
  |some (.box cells tag)=>match aStored d v with
   |some vs=>match Nat.beq vs.length d.size with
    |true=>match overF cells off vs with
     |some l=>some (.set id (.box l tag))
     |none=>none
    |false=>none
   |none=>none
  |_=>none
 |.rptr id sz k off=>match h id with
  |some (.row t sz' n f)=>match Nat.beq sz sz' with
   |true=>match aStored d v with
    |some vs=>match Nat.beq vs.length d.size with
     |true=>match unliftF vs with
      |some vs=>match overF (f k) off vs with
       |some l=>some (.setc id (.row t sz' n (fupd f k l)) (k<n))
       |none=>none
      |none=>none
     |false=>none
    |none=>none
   |false=>none
  |some (.box cells tag)=>match aStored d v with
   |some vs=>match Nat.beq vs.length d.size with
    |true=>match overF cells (k*sz+off) vs with
     |some l=>some (.set id (.box l tag))
     |none=>none
    |false=>none
   |none=>none
  |some (.mp _)=>none
  |some (.vrow ..)=>none
  |some (.dmp _)=>none
  |none=>none
 |_=>none
def aAddr (n:Nat):AVal→Option AVal
 |.ptr id off=>some (.ptr id (Nat.add off n))
 |.eptr sz m f k off=>some (.eptr sz m f k (Nat.add off n))
 |.rptr id sz k off=>some (.rptr id sz k (Nat.add off n))
 |.d (.pt ds)=>some (.eptr ds.length 1 (fun _=>ds) 0 n)
 |_=>none
def fieldAt:Nat→List (Nat×Nat×TypeId)→Option (Nat×Nat×TypeId)
 |0,x::_=>some x
 |n+1,_::r=>fieldAt n r
 |_,[]=>none
def aIndex (es:Nat):AVal→AVal→Option Res
 |.d (.sl sz n f),.d (.i _ k)=>match Nat.beq es sz with
  |true=>some (.cond (.eptr sz n f k.toNat 0) (0≤k∧k<n))
  |false=>none
 |.rsl id sz o n,.d (.i _ k)=>match Nat.beq es sz with
  |true=>some (.cond (.rptr id sz (o+k.toNat) 0) (0≤k∧k<n))
  |false=>none
 |_,_=>none
def sliceOf (n:Nat):Option Int→Option Int→Nat×Nat×Option Prop
 |none,none=>(0,n,none)
 |some a,none=>(a.toNat,n,some (0≤a∧a≤n))
 |none,some b=>(0,b.toNat,some (0≤b∧b≤n))
 |some a,some b=>(a.toNat,b.toNat,some (0≤a∧a≤b∧b≤n))
def cutS (l:List UInt8):Option Int→Option Int→List UInt8
 |none,none=>l
 |some a,none=>l.drop a.toNat
 |none,some b=>l.take b.toNat
 |some a,some b=>(l.take b.toNat).drop a.toNat
def aSlice:AVal→Option Int→Option Int→Option Res
 |.d (.s l),lo,hi=>some (mkCond (.d (.s (cutS l lo hi))) (sliceOf l.length lo hi).2.2)
 |.d (.sl sz n f),lo,hi=>match sliceOf n lo hi with
  |(a,b,c)=>match a with
   |0=>some (mkCond (.d (.sl sz b f)) c)
   |a=>some (mkCond (.d (.sl sz (b-a) fun k=>f (a+k))) c)
 |.rsl id sz o n,lo,hi=>match sliceOf n lo hi with
  |(a,b,c)=>match a with
   |0=>some (mkCond (.rsl id sz o b) c)
   |a=>some (mkCond (.rsl id sz (o+a) (b-a)) c)
 |_,_,_=>none
def opnd (g:Nat→AVal):Operand→AVal
 |.tmp t=>g t
 |.const v=>aconst v
 |.func f=>.fn f []
 |.global n=>globV n
def optI (g:Nat→AVal):Option Operand→Option (Option Int)
 |none=>some none
 |some x=>match opnd g x with
  |.d (.i _ n)=>some (some n)
  |_=>none
def boundsN (n:Nat):Option (Option Int)→Option (Option Int)→Option (Nat×Nat)
 |some none,some none=>some (0,n)
 |some (some (.ofNat A)),some none=>match Nat.ble A n with|true=>some (A,n)|false=>none
 |some none,some (some (.ofNat B))=>match Nat.ble B n with|true=>some (0,B)|false=>none
 |some (some (.ofNat A)),some (some (.ofNat B))=>match Nat.ble A B&&Nat.ble B n with|true=>some (A,B)|false=>none
 |_,_=>none
theorem boundsN_ok {n A B:Nat} {x y:Option (Option Int)} (h:boundsN n x y=some (A,B)):∃ra rb,x=some ra∧y=some rb∧(sliceOf n ra rb).1=A∧(sliceOf n ra rb).2.1=B∧(∀q,(sliceOf n ra rb).2.2=some q→q):=by
 unfold boundsN at h
 split at h
 ·cases h;exact ⟨_,_,rfl,rfl,rfl,rfl,fun q hq=>by cases hq⟩
 ·split at h
  ·rename_i hb
   cases h
   have:=Nat.le_of_ble_eq_true hb
   exact ⟨_,_,rfl,rfl,rfl,rfl,fun q hq=>by simp only [sliceOf,Option.some.injEq] at hq;subst hq;exact ⟨Int.natCast_nonneg _,Int.ofNat_le.2 this⟩⟩
  ·cases h
 ·split at h
  ·rename_i hb
   cases h
   have:=Nat.le_of_ble_eq_true hb
   exact ⟨_,_,rfl,rfl,rfl,rfl,fun q hq=>by simp only [sliceOf,Option.some.injEq] at hq;subst hq;exact ⟨Int.natCast_nonneg _,Int.ofNat_le.2 this⟩⟩
  ·cases h
 ·split at h
  ·rename_i hb
   cases h
   rw [Bool.and_eq_true] at hb
   have h1:=Nat.le_of_ble_eq_true hb.1
   have h2:=Nat.le_of_ble_eq_true hb.2
   exact ⟨_,_,rfl,rfl,rfl,rfl,fun q hq=>by simp only [sliceOf,Option.some.injEq] at hq;subst hq;exact ⟨Int.natCast_nonneg _,Int.ofNat_le.2 h1,Int.ofNat_le.2 h2⟩⟩
  ·cases h
 ·cases h
def aParts (fs:List (Nat×Nat×TypeId)) (g:Nat→AVal):List (Nat×Operand)→List AVal→Option (List AVal)
 | [],cs=>some cs
 |(j,x)::r,cs=>match fieldAt j fs with
  |some (off,size,_)=>match opnd g x with
   |.any=>none
   |.tup _=>none
   |v=>match Nat.beq v.cells.length size with
    |true=>match overF cs off v.cells with
     |some cs'=>aParts fs g r cs'
     |none=>none
    |false=>none
  |none=>none
def arrF (s e:Nat):Nat→Nat→List (Nat×Nat×Nat)
 |0,_=>[]
 |n+1,off=>(off,s,e)::arrF s e n (off+s)
def strictV:AVal→Option AVal
 |.any=>some .any
 |.d x=>some (.d x)
 |.agg l=>some (.agg l)
 |.tup l=>some (.tup l)
 |.ptr a b=>some (.ptr a b)
 |.eptr a b c d e=>some (.eptr a b c d e)
 |.rsl a b c d=>some (.rsl a b c d)
 |.rptr a b c d=>some (.rptr a b c d)
 |.mref a=>some (.mref a)
 |.fn a b=>some (.fn a b)
 |.fresh a b c d=>some (.fresh a b c d)
def strictL:List AVal→Option (List AVal)
 | []=>some []
 |x::r=>match strictV x with
  |some x=>match strictL r with
   |some r=>some (x::r)
   |none=>none
  |none=>none
theorem strictL_eq:∀{l m:List AVal},strictL l=some m→m=l
 | [],m,h=>by simpa [strictL] using h.symm
 |x::r,m,h=>by
  have hx:strictV x=some x:=by cases x<;>rfl
  rw [strictL,hx] at h
  simp only at h
  cases hr:strictL r with
  |none=>rw [hr] at h;cases h
  |some r'=>
   rw [hr] at h
   cases h
   rw [strictL_eq hr]
def listAt {α:Type}:Nat→List α→Option α
 |0,x::_=>some x
 |n+1,_::r=>listAt n r
 |_,[]=>none
def replF {α:Type}:Nat→α→List α
 |0,_=>[]
 |n+1,x=>x::replF n x
def setF {α:Type}:Nat→α→List α→Option (List α)
 |_,_,[]=>none
 |0,x,_::r=>some (x::r)
 |n+1,x,y::r=>match setF n x r with
  |some r'=>some (y::r')
  |none=>none
theorem replF_eq {α:Type} (x:α):∀n,replF n x=List.replicate n x
 |0=>rfl
 |n+1=>by simp only [replF,replF_eq x n,List.replicate_succ]
theorem setF_eq {α:Type} {x:α}:∀{n:Nat} {l m:List α},setF n x l=some m→n<l.length∧m=l.set n x
 |n,[],m,h=>by cases n<;>simp [setF] at h
 |0,y::r,m,h=>by simp only [setF,Option.some.injEq] at h;subst h;simp
 |n+1,y::r,m,h=>by
  simp only [setF] at h
  cases hr:setF n x r with
  |none=>rw [hr] at h;cases h
  |some r'=>
   rw [hr] at h
   simp only [Option.some.injEq] at h
   subst h
   obtain ⟨h1,h2⟩:=setF_eq hr
   subst h2
   exact ⟨by simp;omega,rfl⟩
def aElems (d:TyD) (g:Nat→AVal):List (Nat×Operand)→List (List D)→Option (List (List D))
 | [],l=>some l
 |(j,x)::r,l=>match aStored d (opnd g x) with
  |some vs=>match Nat.beq vs.length d.size with
   |true=>match unliftF vs with
    |some us=>match setF j us l with
     |some l'=>aElems d g r l'
     |none=>none
    |none=>none
   |false=>none
  |none=>none
def aElemsA (d:TyD) (g:Nat→AVal):List (Nat×Operand)→List AVal→Option (List AVal)
 | [],l=>some l
 |(j,x)::r,l=>match aStored d (opnd g x) with
  |some vs=>match Nat.beq vs.length d.size with
   |true=>match overF l (j*d.size) vs with
    |some l'=>aElemsA d g r l'
    |none=>none
   |false=>none
  |none=>none
def fcat (f:Nat→List D) (n:Nat) (f2:Nat→List D):Nat→List D:=fun k=>if k<n then f k else f2 (k-n)
def aSrc (h:Nat→Option AObj) (sz:Nat):AVal→Option (Nat×(Nat→List D)×Option Prop)
 |.d (.sl sz' m f)=>match Nat.beq sz' sz with
  |true=>some (m,f,none)
  |false=>none
 |.d (.v (.slice none 0 _))=>some (0,fun _=>[],none)
 |.rsl id sz' o m=>match o with
  |0=>match h id with
   |some (.row _ sz2 n f)=>match Nat.beq sz' sz with
    |true=>match Nat.beq sz2 sz with
     |true=>some (m,f,some (m≤n))
     |false=>none
    |false=>none
   |_=>none
  |_=>none
 |_=>none
def andC (p:Prop):Option Prop→Prop
 |some q=>p∧q
 |none=>p
def eqT (a b:Nat):Bool:=match Nat.beq a b with|true=>Nat.blt b markT|false=>false
theorem eqT_ok {a b:Nat} (h:eqT a b=true):a=b∧b<markT:=by
 unfold eqT at h
 cases hb:Nat.beq a b with
 |false=>rw [hb] at h;cases h
 |true=>
  rw [hb] at h
  exact ⟨Nat.eq_of_beq_eq_true hb,Nat.le_of_ble_eq_true h⟩
def aAppend (e:TypeId) (d:TyD) (h:Nat→Option AObj) (s x:AVal):Option Res:=
 match d.size with
 |0=>none
 |_+1=>match aSrc h d.size x with
  |some (m,f2,c)=>match s with
   |.d (.v (.slice none 0 0))=>some (.mkrow e d.size m f2 (some (andC (m≤9223372036854775807∧m*d.bytes≤140737488355328) c)))
   |.d (.slF sz n f)=>match Nat.beq sz d.size with
    |true=>some (.mkrow e d.size (n+m) (fcat f n f2) (some (andC (1≤m∧n+m≤9223372036854775807∧(n+m)*d.bytes≤140737488355328) c)))
    |false=>none
   |.rsl id sz o n=>match o with
    |0=>match h id with
     |some (.row e' sz' n' f)=>match eqT e' e with
      |true=>match Nat.beq sz' d.size with
       |true=>match Nat.beq sz d.size with
        |true=>some (.app id e d.size (n'+m) (fcat f n' f2) (andC (n=n'∧n'+m≤9223372036854775807∧(n'+m)*d.bytes≤140737488355328) c))
        |false=>none
       |false=>none
      |false=>none
     |_=>none
    |_=>none
   |_=>none
  |none=>none
def bytesF (l:List UInt8):Nat→List D:=fun k=>[.i .u8 ((l.getD k 0).toNat:Nat)]
def aAppendX (e:TypeId) (d:TyD) (h:Nat→Option AObj) (s:AVal) (m:Nat) (f2:Nat→List D) (c:Option Prop):Option Res:=
 match d.size with
 |0=>none
 |_+1=>match s with
  |.d (.v (.slice none 0 0))=>some (.mkrow e d.size m f2 (some (andC (m≤9223372036854775807∧m*d.bytes≤140737488355328) c)))
  |.rsl id sz o n=>match o with
   |0=>match h id with
    |some (.row e' sz' n' f)=>match eqT e' e with
     |true=>match Nat.beq sz' d.size with
      |true=>match Nat.beq sz d.size with
       |true=>some (.app id e d.size (n'+m) (fcat f n' f2) (andC (n=n'∧n'+m≤9223372036854775807∧(n'+m)*d.bytes≤140737488355328) c))
       |false=>none
      |false=>none
     |false=>none
    |_=>none
   |_=>none
  |_=>none
def isNil:AVal→Bool
 |.d (.v (.slice none 0 0))=>true
 |_=>false
def isNilP:AVal→Bool
 |.d (.v (.pointer none))=>true
 |_=>false
def aNilP (op:BinOp) (x:AVal):Option Res:=
 match x with
 |.ptr _ _=>match op with
  |.eql=>some (.val (.d (.b false)))
  |.neq=>some (.val (.d (.b true)))
  |_=>none
 |.d (.pt _)=>match op with
  |.eql=>some (.val (.d (.b false)))
  |.neq=>some (.val (.d (.b true)))
  |_=>none
 |.d (.v (.pointer none))=>match op with
  |.eql=>some (.val (.d (.b true)))
  |.neq=>some (.val (.d (.b false)))
  |_=>none
 |_=>none
def aNil (op:BinOp) (x:AVal):Option Res:=
 match x with
 |.d (.sl _ n _)=>match op with
  |.eql=>some (.ndb fun b=>0<n→b=false)
  |.neq=>some (.ndb fun b=>0<n→b=true)
  |_=>none
 |.rsl _ _ _ n=>match op with
  |.eql=>some (.ndb fun b=>0<n→b=false)
  |.neq=>some (.ndb fun b=>0<n→b=true)
  |_=>none
 |.d (.v (.slice none 0 0))=>match op with
  |.eql=>some (.val (.d (.b true)))
  |.neq=>some (.val (.d (.b false)))
  |_=>none
 |_=>none
def eqF (T:Tys):List (Nat×Nat×TypeId)→List AVal→List AVal→Option Bool
 | [],_,_=>some true
 |(off,_,ft)::r,l,m=>match lookT ft T with
  |some ⟨.int _,_,_,_⟩=>match l[off]?,m[off]? with
   |some (.d (.i k a)),some (.d (.i k' b))=>match kEq k k' with
    |true=>match eqF T r l m with
     |some c=>some ((a==b)&&c)
     |none=>none
    |false=>none
   |_,_=>none
  |some ⟨.bool,_,_,_⟩=>match l[off]?,m[off]? with
   |some (.d (.b a)),some (.d (.b b))=>match eqF T r l m with
    |some c=>some ((a==b)&&c)
    |none=>none
   |_,_=>none
  |some ⟨.string,_,_,_⟩=>match l[off]?,m[off]? with
   |some (.d (.s a)),some (.d (.s b))=>match eqF T r l m with
    |some c=>some ((a==b)&&c)
    |none=>none
   |_,_=>none
  |_=>none
def eqA:List Nat→List AVal→List AVal→Option Bool
 | [],_,_=>some true
 |i::is,l,m=>match l[i]?,m[i]? with
  |some (.d (.i k a)),some (.d (.i k' b))=>match kEq k k' with
   |true=>match eqA is l m with
    |some c=>some ((a==b)&&c)
    |none=>none
   |false=>none
  |_,_=>none
def aCmp (T:Tys) (op:BinOp) (t:TypeId) (l m:List AVal):Option Res:=
 match lookT t T with
 |some ⟨.struct fs,_,_,_⟩=>match eqF T fs l m with
  |some b=>match op with
   |.eql=>some (.val (.d (.b b)))
   |.neq=>some (.val (.d (.b (!b))))
   |_=>none
  |none=>none
 |some ⟨.array n e,_,_,_⟩=>match lookT e T with
  |some ⟨.int _,sz,_,_⟩=>match Nat.beq sz 1 with
   |true=>match eqA (List.range n) l m with
    |some b=>match op with
     |.eql=>some (.val (.d (.b b)))
     |.neq=>some (.val (.d (.b (!b))))
     |_=>none
    |none=>none
   |false=>none
  |_=>none
 |_=>none
abbrev bxT:Nat:=2000000000
abbrev pbT:Nat:=3000000000
abbrev pxT:Nat:=9000000000
def dsOf:List AVal→Option (List D)
 | []=>some []
 |.d x::r=>match dsOf r with
  |some l=>some (x::l)
  |none=>none
 |_::_=>none
def copyF {α:Type}:Nat→List α→List α
 |0,_=>[]
 |n+1,l=>l++copyF n l
theorem copyF_len {α:Type} (l:List α):∀n,(copyF n l).length=n*l.length
 |0=>by simp [copyF]
 |n+1=>by rw [copyF,List.length_append,copyF_len l n,Nat.add_mul];omega
theorem copyF_get {α:Type} (l:List α):∀(n:Nat) (i:Nat) (x:α),(copyF n l)[i]? = some x→∃k j,k<n∧j<l.length∧i=k*l.length+j∧l[j]? = some x
 |0,i,x,h=>by simp [copyF] at h
 |n+1,i,x,h=>by
  rw [copyF] at h
  by_cases hi:i<l.length
  ·rw [List.getElem?_append_left hi] at h
   exact ⟨0,i,by omega,hi,by omega,h⟩
  ·rw [List.getElem?_append_right (by omega)] at h
   obtain ⟨k,j,h1,h2,h3,h4⟩:=copyF_get l n _ x h
   exact ⟨k+1,j,by omega,h2,by rw [Nat.add_mul];omega,h4⟩
abbrev mpT:Nat:=4000000000
def keyK:TyK→D→Bool
 |.int K,.i k _=>kEq K k
 |.string,.s _=>true
 |_,_=>false
def keyEq:D→D→Option Bool
 |.i k a,.i k' b=>match kEq k k' with
  |true=>some (a==b)
  |false=>none
 |.s a,.s b=>some (a==b)
 |_,_=>none
def findM (k:D):List (D×AVal)→Nat→Option (Option (Nat×AVal))
 | [],_=>some none
 |(k',v)::r,i=>match keyEq k k' with
  |some true=>some (some (i,v))
  |some false=>findM k r (i+1)
  |none=>none
def findD0 (k:D):List (D×D)→Nat→Option (Option (Nat×D))
 | [],_=>some none
 |(k',v)::r,i=>match keyEq k k' with
  |some true=>some (some (i,v))
  |some false=>findD0 k r (i+1)
  |none=>none
@[irreducible] def findD (k:D) (l:List (D×D)):Option (Option (Nat×D)):=findD0 k l 0
@[irreducible] def putM (f:Option (Nat×D)) (k v:D) (l:List (D×D)):List (D×D):=match f with|some (i,_)=>l.set i (k,v)|none=>l++[(k,v)]
@[irreducible] def delM (f:Option (Nat×D)) (l:List (D×D)):List (D×D):=match f with|some (i,_)=>l.eraseIdx i|none=>l
def getD2 (z:D) (f:Option (Nat×D)):D:=match f with|some p=>p.2|none=>z
def isS (f:Option (Nat×D)):Bool:=match f with|some _=>true|none=>false
def okM (ok:Bool) (x:AVal) (b:Bool):AVal:=match ok with|true=>.tup [x,.d (.b b)]|false=>x
def aMap (T:Tys) (h:Nat→Option AObj) (t:TypeId) (m k:AVal):Option (Nat×TypeId×D×List (D×AVal)):=
 match lookT t T with
 |some ⟨.map kt et,_,_,_⟩=>match lookT kt T with
  |some dk=>match m with
   |.mref id=>match h id with
    |some (.mp l)=>match k with
     |.d k=>match keyK dk.kind k with
      |true=>some (id,et,k,l)
      |false=>none
     |_=>none
    |_=>none
   |_=>none
  |none=>none
 |_=>none
def tagOf (T:Tys) (t:TypeId):Option TypeId:=match tagMem t T.tg with|true=>some t|false=>none
def aop0 (T : Tys) (g : Nat → AVal) (h : Nat → Option AObj) (op : Op) : Option Res :=
  match op with
  | .move x => some (.val (opnd g x))
  | .assign x => some (.val (opnd g x))
  | .pick c a b => match opnd g c with
    | .d (.b true) => some (.val (opnd g a))
    | .d (.b false) => some (.val (opnd g b))
    | _ => none
  | .box _ x => match opnd g x with
    | .agg l => some (.new (.box l))
    | .any => none
    | .tup _ => none
    | v => some (.new (.box [v]))
  | .alloc t => match lookT t T with
    | some d => match liftF d.zero with
      | some l => some (.new (.box l (tagOf T t)))
      | none => none
    | none => none
  | .build t ps => match lookT t T with
    | some ⟨.struct fs, _, _, z⟩ => match liftF z with
      | some l => match aParts fs g ps.toList l with
        | some l => match strictL l with
          | some l => some (.val (.agg l))
          | none => none
        | none => none
      | none => none
    | some ⟨.array n e, _, _, z⟩ => match lookT e T with
      | some d => match liftF z with
        | some l => match aParts (arrF d.size e n 0) g ps.toList l with
          | some l => match strictL l with
            | some l => some (.val (.agg l))
            | none => none
          | none => none
        | none => none
      | none => none
    | _ => none
  | .load t x => match lookT t T with
    | some d => aLoad h d (opnd g x)
    | none => none
  | .store t p x => match lookT t T with
    | some d => aStore h d (opnd g x) (opnd g p)
    | none => none
  | .fieldAddr t x f => match lookT t T with
    | some ⟨.struct fs, _, _, _⟩ => match fieldAt f fs with
      | some (o, s, _) => match s with
        | 0 => none
        | _ + 1 => match aAddr o (opnd g x) with
          | some v => some (.val v)
          | none => none
      | none => none
    | _ => none
  | .indexAddr t x k => match lookT t T with
    | some ⟨.slice e, _, _, _⟩ => match lookT e T with
      | some d => aIndex d.size (opnd g x) (opnd g k)
      | none => none
    | some ⟨.array n e, _, _, _⟩ => match lookT e T, opnd g x, opnd g k with
      | some d, .ptr id off, .d (.i _ kk) => some (.cond (.ptr id (off + kk.toNat * d.size)) (0 ≤ kk ∧ kk < n))
      | some d, .eptr sz m f j off, .d (.i _ kk) => some (.cond (.eptr sz m f j (off + kk.toNat * d.size)) (0 ≤ kk ∧ kk < n))
      | some d, .rptr id sz j off, .d (.i _ kk) => some (.cond (.rptr id sz j (off + kk.toNat * d.size)) (0 ≤ kk ∧ kk < n))
      | _, _, _ => none
    | _ => none
  | .field t x f => match lookT t T with
    | some ⟨.struct fs, _, _, _⟩ => match fieldAt f fs with
      | some (o, _, ft) => match lookT ft T, opnd g x with
        | some d, .agg l => match aPart d (dropF o l) with
          | some v => some (.val v)
          | none => none
        | _, _ => none
      | none => none
    | _ => none
  | .index t x k => match lookT t T with
    | some ⟨.string, _, _, _⟩ => match opnd g x, opnd g k with
      | .d (.s l), .d (.i _ k) => some (.cond (.d (.i .u8 ((l.getD k.toNat 0).toNat : Nat))) (0 ≤ k ∧ k < l.length))
      | _, _ => none
    | _ => none
  | .nilCheck x => match opnd g x with
    | .ptr id o => some (.val (.ptr id o))
    | .eptr a b c d e => some (.val (.eptr a b c d e))
    | .rptr a b c d => some (.val (.rptr a b c d))
    | .fn f l => some (.val (.fn f l))
    | .d (.pt ds) => some (.val (.d (.pt ds)))
    | _ => none
  | .lookup t m k ok => match aMap T h t (opnd g m) (opnd g k) with
    | some (_, et, k, l) => match lookT et T with
      | some d => match isStr d.kind with
        | false => match d.zero with
          | [z] => match findM k l 0 with
            | some (some (_, v)) => match ok with
              | true => some (.val (.tup [v, .d (.b true)]))
              | false => some (.val v)
            | some none => match ok with
              | true => some (.val (.tup [.d z, .d (.b false)]))
              | false => some (.val (.d z))
            | none => none
          | _ => none
        | true => none
      | none => none
    | none => none
  | .mapUpdate t m k x => match aMap T h t (opnd g m) (opnd g k) with
    | some (id, _, k, l) => match (opnd g x).sure with
      | true => match findM k l 0 with
        | some (some (i, _)) => some (.set id (.mp (l.set i (k, opnd g x))))
        | some none => some (.set id (.mp (l ++ [(k, opnd g x)])))
        | none => none
      | false => none
    | none => none
  | .insert t m k x => match aMap T h t (opnd g m) (opnd g k) with
    | some (id, _, k, l) => match (opnd g x).sure with
      | true => match findM k l 0 with
        | some (some (i, _)) => some (.set id (.mp (l.set i (k, opnd g x))))
        | some none => some (.set id (.mp (l ++ [(k, opnd g x)])))
        | none => none
      | false => none
    | none => none
  | .call { callee := .builtin .delete, args := as, argTypes := ts } => match as.toList, ts.toList with
    | [m, k], [t, _] => match aMap T h t (opnd g m) (opnd g k) with
      | some (id, _, k, l) => match findM k l 0 with
        | some (some (i, _)) => some (.set id (.mp (l.eraseIdx i)))
        | some none => some (.set id (.mp l))
        | none => none
      | none => none
    | _, _ => none
  | .binOp op t x y _ => match isNilP (opnd g y) with
   | true => match lookT t T with
    | some ⟨.pointer _, _, _, _⟩ => aNilP op (opnd g x)
    | _ => none
   | false => match isNil (opnd g y) with
    | true => match lookT t T with
      | some ⟨.slice _, _, _, _⟩ => aNil op (opnd g x)
      | _ => none
    | false => match opnd g x with
      | .agg l => match opnd g y with
        | .agg m => aCmp T op t l m
        | _ => none
      | .d (.b a) => match opnd g y with
        | .d (.b b) => match lookT t T with
          | some ⟨.bool, _, _, _⟩ => match op with
            | .eql => some (.val (.d (.b (a == b))))
            | .neq => some (.val (.d (.b (a != b))))
            | _ => none
          | _ => none
        | _ => none
      | u => aBin (wraps T) op u (opnd g y)
  | .unOp .not _ x => match opnd g x with
    | .d (.b x) => some (.val (.d (.b (!x))))
    | _ => none
  | .unOp .neg _ x => match opnd g x with
    | .d (.i k x) => some (arith (wraps T) k (0 - x))
    | _ => none
  | .unOp .xor _ x => match opnd g x with
    | .d (.i k x) => some (.val (.d (.i k (bitsOp .xor k (if k.signed then -1 else k.max) x))))
    | _ => none
  | .convert src dst x => match lookT src T, lookT dst T, opnd g x with
    | some _, some ⟨.int k, _, _, _⟩, .d (.i _ n) => some (arith (wraps T) k n)
    | some ⟨.string, _, _, _⟩, some ⟨.string, _, _, _⟩, .d (.s l) => some (.val (.d (.s l)))
    | some ⟨.slice e, _, _, _⟩, some ⟨.string, _, _, _⟩, .d (.sl sz n f) => match lookT e T with
      | some ⟨.int .u8, _, _, _⟩ => match Nat.beq sz 1 with
        | true => some (.str fun l => l.length = n ∧ ∀ k, k < n → f k = bytesF l k)
        | false => none
      | _ => none
    | some ⟨.slice e, _, _, _⟩, some ⟨.string, _, _, _⟩, .d (.v (.slice none 0 _)) => match lookT e T with
      | some ⟨.int .u8, _, _, _⟩ => some (.val (.d (.s [])))
      | _ => none
    | some ⟨.slice e, _, _, _⟩, some ⟨.string, _, _, _⟩, .rsl id sz o n => match lookT e T with
      | some ⟨.int .u8, _, _, _⟩ => match h id with
        | some (.row _ sz' n' f) => match Nat.beq sz 1 with
          | true => match Nat.beq sz' 1 with
            | true => some (.str fun l => l.length = n ∧ o + n ≤ n' ∧ ∀ k, k < n → f (o + k) = bytesF l k)
            | false => none
          | false => none
        | _ => none
      | _ => none
    | _, _, _ => none
  | .slice t x lo hi none => match lookT t T with
   | some ⟨.array n e, _, _, _⟩ => match lo, hi, lookT e T, opnd g x with
     | none, none, some d, .ptr id 0 => match h id with
       | some (.box cells _) => match unliftF cells with
         | some ds => match Nat.beq ds.length (n * d.size) with
           | true => match Nat.ble n 9223372036854775807 with
             | true => some (.pub id (.d (.sl d.size n fun k => (ds.drop (k * d.size)).take d.size)))
             | false => none
           | false => none
         | none => none
       | _ => none
     | lo, hi, some d, .ptr id 0 => match boundsN n (optI g lo) (optI g hi) with
       | some (A, B) => match h id with
         | some (.box cells _) => match unliftF cells with
           | some ds => match Nat.beq ds.length (n * d.size) with
             | true => match Nat.ble n 9223372036854775807 with
               | true => some (.pub id (.d (.sl d.size (B - A) fun k => (ds.drop ((A + k) * d.size)).take d.size)))
               | false => none
             | false => none
           | none => none
         | _ => none
       | none => none
     | _, _, _, _ => none
   | _ => match optI g lo, optI g hi with
    | some lo, some hi => match lookT t T with
      | some ⟨.string, _, _, _⟩ => match opnd g x with
        | .d (.s l) => aSlice (.d (.s l)) lo hi
        | _ => none
      | some ⟨.slice e, _, _, _⟩ => match lookT e T, opnd g x with
        | some d, .d (.sl sz n f) => match Nat.beq d.size sz with
          | true => aSlice (.d (.sl sz n f)) lo hi
          | false => none
        | some d, .rsl id sz o n => match Nat.beq d.size sz with
          | true => aSlice (.rsl id sz o n) lo hi
          | false => none
        | _, _ => none
      | _ => none
    | _, _ => none
  | .extract x k => match opnd g x with
    | .tup l => match listAt k l with
      | some v => some (.val v)
      | none => none
    | _ => none
  | .makeFunc (.func f) first caps => match first.toList with
    | [] => some (.val (.fn f (caps.toList.map (opnd g))))
    | _ => none
  | .call { callee := .builtin .len, args := as, argTypes := ts } => match as.toList, ts.toList with
    | [x], [t] => match lookT t T with
      | some ⟨.string, _, _, _⟩ => match opnd g x with
        | .d (.s l) => some (.val (.d (.i .i64 l.length)))
        | _ => none
      | some ⟨.slice _, _, _, _⟩ => match opnd g x with
        | .d (.sl _ n _) => some (.val (.d (.i .i64 n)))
        | .rsl _ _ _ n => some (.val (.d (.i .i64 n)))
        | .d (.v (.slice none 0 _)) => some (.val (.d (.i .i64 0)))
        | _ => none
      | some ⟨.map _ _, _, _, _⟩ => match opnd g x with
        | .mref id => match h id with
          | some (.mp l) => some (.val (.d (.i .i64 l.length)))
          | _ => none
        | _ => none
      | _ => none
    | _, _ => none
  | .call { callee := .builtin .cap, args := as, argTypes := ts } => match as.toList, ts.toList with
    | [x], [t] => match lookT t T with
      | some ⟨.slice _, _, _, _⟩ => match opnd g x with
        | .d (.v (.slice none 0 c)) => some (.val (.d (.i .i64 c)))
        | _ => none
      | _ => none
    | _, _ => none
  | .call { callee := .builtin .min, args := as, .. } => match as.toList with
    | [x, y] => match opnd g x, opnd g y with
      | .d (.i k a), .d (.i _ b) => some (.val (.d (.i k (min a b))))
      | _, _ => none
    | _ => none
  | .call { callee := .builtin .max, args := as, .. } => match as.toList with
    | [x, y] => match opnd g x, opnd g y with
      | .d (.i k a), .d (.i _ b) => some (.val (.d (.i k (max a b))))
      | _, _ => none
    | _ => none
  | .call { callee := .builtin .clear, args := as, argTypes := ts } => match as.toList, ts.toList with
    | [x], [t] => match lookT t T with
      | some ⟨.slice e, _, _, _⟩ => match lookT e T, opnd g x with
        | some d, .rsl id sz o n => match h id with
          | some (.row ty sz' n' f) => match Nat.beq sz sz' with
            | true => match Nat.beq d.size sz with
              | true => some (.setc id (.row ty sz' n' (fun k => if o ≤ k ∧ k < o + n then d.zero else f k)) (o + n ≤ n' ∧ 0 < n'))
              | false => none
            | false => none
          | _ => none
        | _, _ => none
      | _ => none
    | _, _ => none
  | .buildSlice t len ps => match lookT t T with
    | some ⟨.slice e, _, _, _⟩ => match lookT e T with
      | some d => match Nat.ble (len + len * d.size) 16777216 with
        | true => match aElems d g ps.toList (replF len d.zero) with
          | none => match tagMem (bxT + e) T.tg with
            | true => match liftF (copyF len d.zero) with
              | some cs => match aElemsA d g ps.toList cs with
                | some l => some (.newv (.box l) (fun id => .rsl id d.size 0 len) none)
                | none => none
              | none => none
            | false => none
          | some l => match tagMem (pbT + e) T.tg with
            | true => some (.newv (.row 0 1 0 fun _ => []) (fun _ => .d (.sl d.size len fun k => l.getD k [])) none)
            | false => some (.mkrow e d.size len (fun k => l.getD k []) none)
        | false => none
      | none => none
    | _ => none
  | .makeMap t none => match tagMem (mpT + t) T.tg with
    | true => some (.newv (.mp []) (fun id => .mref id) none)
    | false => some (.newv (.row 0 1 0 fun _ => []) (fun _ => .d .o) none)
  | .makeMap t (some x) => match lookT t T, opnd g x with
    | some ⟨.map _ _, _, _, _⟩, .d (.i _ _) => match tagMem (mpT + t) T.tg with
      | true => some (.newv (.mp []) (fun id => .mref id) none)
      | false => some (.newv (.row 0 1 0 fun _ => []) (fun _ => .d .o) none)
    | _, _ => none
  | .makeSlice t l c => match lookT t T with
    | some ⟨.slice e, _, _, _⟩ => match tagMem (bxT + e) T.tg with
     | true => match lookT e T, opnd g l, opnd g c with
      | some d, .d (.i _ (.ofNat n)), .d (.i _ (.ofNat m)) => match Nat.beq n m with
        | true => match liftF (copyF n d.zero) with
          | some cells => some (.newv (.box cells) (fun id => .rsl id d.size 0 n) (some (d.bytes * n ≤ 281474976710656 ∧ n ≤ 9223372036854775807)))
          | none => none
        | false => none
      | _, _, _ => none
     | false => match lookT e T, opnd g l, opnd g c with
      | some d, .d (.i _ n), .d (.i _ m) => some (.mkrow e d.size n.toNat (fun _ => d.zero) (some (0 ≤ n ∧ n ≤ m ∧ d.bytes * m ≤ 281474976710656 ∧ m ≤ 9223372036854775807)))
      | _, _, _ => none
    | _ => none
  | .call { callee := .builtin .append, args := as, argTypes := ts } => match as.toList, ts.toList with
    | [s, x], [t, t'] => match Nat.beq t t' with
      | true => match lookT t T with
        | some ⟨.slice e, _, _, _⟩ => match lookT e T with
          | some d => aAppend e d h (opnd g s) (opnd g x)
          | none => none
        | _ => none
      | false => match lookT t T with
        | some ⟨.slice e, _, _, _⟩ => match lookT e T, lookT t' T, opnd g x with
          | some d, some ⟨.string, _, _, _⟩, .d (.s l) => match Nat.beq d.size 1 with
            | true => aAppendX e d h (opnd g s) l.length (bytesF l) none
            | false => none
          | some d, some ⟨.int .i64, _, _, _⟩, .d (.i .i64 n) => aAppendX e d h (opnd g s) n.toNat (fun _ => d.zero) (some (0 ≤ n ∧ n.toNat ≤ 9223372036854775807 ∧ n.toNat * d.bytes ≤ 281474976710656))
          | _, _, _ => none
        | _ => none
    | _, _ => none
  | _ => none
def arrRow (h:Nat→Option AObj) (id sz:Nat):Option (Nat×(Nat→List D)):=
 match h id with
 |some (.row t sz' n f)=>match Nat.ble arT t with
  |true=>match Nat.beq t (arT+n) with
   |true=>match Nat.beq sz sz' with
    |true=>some (n,f)
    |false=>none
   |false=>none
  |false=>none
 |_=>none
def flatG (f:Nat→List D):Nat→Nat→List D
 |0,_=>[]
 |n+1,k=>f k++flatG f n (k+1)
abbrev flatF (n:Nat) (f:Nat→List D):List D:=flatG f n 0
def aCellsA (h:Nat→Option AObj) (p:AVal):Option (List AVal×Option Prop):=
 match p with
 |.rptr id sz 0 0=>match arrRow h id sz with
  |some (n,f)=>some ((flatF n f).map .d,none)
  |none=>aCells h (.rptr id sz 0 0)
 |p=>aCells h p
def cpySrc (h:Nat→Option AObj):AVal→Option (Nat×(Nat→List D)×Prop)
 |.d (.sl sz m f)=>match Nat.beq sz 1 with
  |true=>some (m,f,True)
  |false=>none
 |.rsl id sz o m=>match Nat.beq sz 1 with
  |true=>match h id with
   |some (.row _ sz' n f)=>match Nat.beq sz' 1 with
    |true=>some (m,fun k=>f (o+k),o+m≤n)
    |false=>none
   |_=>none
  |false=>none
 |_=>none
def arrOp (T:Tys) (g:Nat→AVal) (h:Nat→Option AObj) (op:Op):Option Res:=
 match op with
 |.alloc t=>match tagMem (arT+t) T.tg with
  |true=>match lookT t T with
   |some ⟨.array n e,s,_,z⟩=>match lookT e T with
    |some d=>match Nat.beq s (n*d.size) with
     |true=>match Nat.ble n 9223372036854775807 with
      |true=>some (.newv (.row (arT+n) d.size n (fun k=>(z.drop (k*d.size)).take d.size)) (fun id=>.rptr id d.size 0 0) none)
      |false=>none
     |false=>none
    |none=>none
   |_=>none
  |false=>none
 |.indexAddr t x k=>match lookT t T with
  |some ⟨.array n e,_,_,_⟩=>match lookT e T,opnd g x,opnd g k with
   |some d,.rptr id sz j off,.d (.i _ kk)=>match arrRow h id sz with
    |some _=>match Nat.beq d.size sz with
     |true=>match off with
      |0=>some (.cond (.rptr id sz (j+kk.toNat) 0) (0≤kk∧kk<n))
      |_+1=>none
     |false=>none
    |none=>none
   |_,_,_=>none
  |_=>none
 |.load t x=>match lookT t T with
  |some ⟨.array m e,s,_,_⟩=>match opnd g x with
   |.rptr id sz j off=>match arrRow h id sz with
    |some (n,f)=>match Nat.beq s (n*sz) with
     |true=>match j with
      |0=>match off with
       |0=>some (.val (.agg ((flatF n f).map .d)))
       |_+1=>none
      |_+1=>none
     |false=>none
    |none=>none
   |_=>none
  |_=>none
 |.store t p x=>match lookT t T with
  |some ⟨.array m e,s,_,_⟩=>match opnd g p with
   |.rptr id sz j off=>match arrRow h id sz with
    |some (n,_)=>match Nat.beq s (n*sz) with
     |true=>match j with
      |0=>match off with
       |0=>match opnd g x with
        |.agg l=>match unliftF l with
         |some ds=>match Nat.beq ds.length s with
          |true=>some (.set id (.row (arT+n) sz n (fun k=>(ds.drop (k*sz)).take sz)))
          |false=>none
         |none=>none
        |_=>none
       |_+1=>none
      |_+1=>none
     |false=>none
    |none=>none
   |_=>none
  |_=>none
 |.index t x k=>match lookT t T with
  |some ⟨.array n e,_,_,_⟩=>match lookT e T,opnd g x,opnd g k with
   |some d,.agg l,.d (.i _ kk)=>match isStr d.kind with
    |false=>match Nat.beq d.size 1 with
     |true=>match listAt kk.toNat l with
      |some v=>some (.cond v (0≤kk∧kk<n))
      |none=>none
     |false=>none
    |true=>none
   |_,_,_=>none
  |_=>none
 |.slice t x lo hi none=>match lookT t T with
  |some ⟨.array n e,_,_,_⟩=>match lookT e T,opnd g x with
   |some d,.rptr id sz j off=>match arrRow h id sz with
    |some (n',_)=>match Nat.beq n n' with
     |true=>match Nat.beq d.size sz with
      |true=>match j with
       |0=>match off with
        |0=>match optI g lo,optI g hi with
         |some lo,some hi=>aSlice (.rsl id sz 0 n) lo hi
         |_,_=>none
        |_+1=>none
       |_+1=>none
      |false=>none
     |false=>none
    |none=>none
   |_,_=>none
  |_=>none
 |.slice t x lo (some hi) (some mx)=>match lookT t T with
  |some ⟨.slice e,_,_,_⟩=>match lookT e T,opnd g x,opnd g hi,opnd g mx,optI g lo with
   |some d,.d (.sl sz n f),.d (.i _ b),.d (.i _ m),some lo=>match Nat.beq d.size sz with
    |true=>match lo with
     |none=>match tagMem (fsT+e) T.tg with
      |true=>some (.cond (.d (.slF sz b.toNat f)) (0≤b∧b=m∧m≤n))
      |false=>some (.cond (.d (.sl sz b.toNat f)) (0≤b∧b≤m∧m≤n))
     |some a=>some (.cond (.d (.sl sz (b.toNat-a.toNat) fun k=>f (a.toNat+k))) (0≤a∧a≤b∧b≤m∧m≤n))
    |false=>none
   |_,_,_,_,_=>none
  |_=>none
 |.call { callee:=.builtin .copy,args:=as,argTypes:=ts}=>match as.toList,ts.toList with
  | [p,x],[t,_]=>match lookT t T with
   |some ⟨.slice e,_,_,_⟩=>match lookT e T with
    |some d=>match Nat.beq d.size 1 with
     |true=>match opnd g p with
      |.rsl id sz o n=>match h id with
       |some (.row ty sz' n' f)=>match Nat.beq sz 1 with
        |true=>match Nat.beq sz' 1 with
         |true=>match Nat.beq ty markT with
          |true=>none
          |false=>match cpySrc h (opnd g x) with
           |some (m,f2,c)=>some (.setc id (.row ty 1 n' (fun k=>if o≤k∧k<o+min m n then f2 (k-o) else f k)) (c∧0<m∧0<n∧o+n≤n'))
           |none=>none
         |false=>none
        |false=>none
       |_=>none
      |_=>none
     |false=>none
    |none=>none
   |_=>none
  |_,_=>none
 |_=>none
abbrev vrT:Nat:=6000000000
abbrev dmT:Nat:=7000000000
def aMapD (T:Tys) (h:Nat→Option AObj) (t:TypeId) (m k:AVal):Option (Nat×TypeId×D×List (D×D)):=
 match lookT t T with
 |some ⟨.map kt et,_,_,_⟩=>match lookT kt T with
  |some dk=>match m with
   |.mref id=>match h id with
    |some (.dmp l)=>match k with
     |.d k=>match keyK dk.kind k with
      |true=>some (id,et,k,l)
      |false=>none
     |_=>none
    |_=>none
   |_=>none
  |none=>none
 |_=>none
def vSrc (h:Nat→Option AObj):AVal→Option (List AVal)
 |.rsl id sz o m=>match Nat.beq sz 1 with
  |true=>match o with
   |0=>match h id with
    |some (.box cells _)=>match Nat.beq cells.length m with
     |true=>some cells
     |false=>none
    |some (.vrow _ cells)=>match Nat.beq cells.length m with
     |true=>some cells
     |false=>none
    |_=>none
   |_+1=>none
  |false=>none
 |.d (.v (.slice none 0 _))=>some []
 |_=>none
def newOp (T:Tys) (g:Nat→AVal) (h:Nat→Option AObj) (op:Op):Option Res:=
 match op with
 |.load t x=>match opnd g x with
  |.rptr id sz k off=>match h id with
   |some (.vrow _ cells)=>match lookT t T with
    |some d=>match aPart d (dropF (k*sz+off) cells) with
     |some v=>some (.val v)
     |none=>none
    |none=>none
   |_=>none
  |_=>none
 |.store t p x=>match opnd g p with
  |.rptr id sz k off=>match h id with
   |some (.vrow t' cells)=>match lookT t T with
    |some d=>match aStored d (opnd g x) with
     |some vs=>match Nat.beq vs.length d.size with
      |true=>match overF cells (k*sz+off) vs with
       |some l=>some (.set id (.vrow t' l))
       |none=>none
      |false=>none
     |none=>none
    |none=>none
   |_=>none
  |_=>none
 |.lookup t m k ok=>match aMapD T h t (opnd g m) (opnd g k) with
  |some (_,et,k,l)=>match lookT et T with
   |some d=>match isStr d.kind with
    |false=>match d.zero with
     | [z]=>some (.mget k l z ok)
     |_=>none
    |true=>none
   |none=>none
  |none=>none
 |.mapUpdate t m k x=>match aMapD T h t (opnd g m) (opnd g k) with
  |some (id,_,k,l)=>match opnd g x with
   |.d x=>some (.mput id k x l)
   |_=>none
  |none=>none
 |.insert t m k x=>match aMapD T h t (opnd g m) (opnd g k) with
  |some (id,_,k,l)=>match opnd g x with
   |.d x=>some (.mput id k x l)
   |_=>none
  |none=>none
 |.makeMap t none=>match tagMem (dmT+t) T.tg with
  |true=>some (.newv (.dmp []) (fun id=>.mref id) none)
  |false=>none
 |.makeMap t (some x)=>match lookT t T,opnd g x with
  |some ⟨.map _ _,_,_,_⟩,.d (.i _ _)=>match tagMem (dmT+t) T.tg with
   |true=>some (.newv (.dmp []) (fun id=>.mref id) none)
   |false=>none
  |_,_=>none
 |.call { callee:=.builtin .delete,args:=as,argTypes:=ts}=>match as.toList,ts.toList with
  | [m,k],[t,_]=>match aMapD T h t (opnd g m) (opnd g k) with
   |some (id,_,k,l)=>some (.mdel id k l)
   |none=>none
  |_,_=>none
 |.call { callee:=.builtin .len,args:=as,argTypes:=ts}=>match as.toList,ts.toList with
  | [x],[t]=>match lookT t T with
   |some ⟨.map _ _,_,_,_⟩=>match opnd g x with
    |.mref id=>match h id with
     |some (.dmp l)=>some (.val (.d (.i .i64 l.length)))
     |_=>none
    |_=>none
   |_=>none
  |_,_=>none
 |.call { callee:=.builtin .append,args:=as,argTypes:=ts}=>match as.toList,ts.toList with
  | [s,x],[t,t']=>match Nat.beq t t' with
   |true=>match lookT t T with
    |some ⟨.slice e,_,_,_⟩=>match tagMem (vrT+e) T.tg with
     |true=>match lookT e T with
      |some d=>match Nat.beq d.size 1 with
       |true=>match vSrc h (opnd g x) with
        |some new=>match opnd g s with
         |.d (.v (.slice none 0 0))=>some (.mkv e new (new.length≤9223372036854775807∧new.length*d.bytes≤140737488355328))
         |.rsl id sz o n=>match o with
          |0=>match h id with
           |some (.vrow e' old)=>match eqT e' e with
            |true=>match Nat.beq sz 1 with
             |true=>match Nat.beq n old.length with
              |true=>some (.appv id e (old++new) (old.length+new.length≤9223372036854775807∧(old.length+new.length)*d.bytes≤140737488355328))
              |false=>none
             |false=>none
            |false=>none
           |_=>none
          |_+1=>none
         |_=>none
        |none=>none
       |false=>none
      |none=>none
     |false=>none
    |_=>none
   |false=>none
  |_,_=>none
 |.slice t x none (some hi) none=>match lookT t T with
  |some ⟨.slice e,_,_,_⟩=>match lookT e T,opnd g x,opnd g hi with
   |some _,.d (.v (.slice none 0 0)),.d (.i _ n)=>some (.cond (.d (.v (.slice none 0 0))) (n=0))
   |_,_,_=>none
  |_=>none
 |.box t x=>match tagMem (pxT+t) T.tg with
  |true=>match opnd g x with
   |.agg l=>match dsOf l with
    |some ds=>some (.newv (.row 0 1 0 fun _=>[]) (fun _=>.d (.pt ds)) none)
    |none=>none
   |_=>none
  |false=>none
 |_=>none
def aop (T:Tys) (g:Nat→AVal) (h:Nat→Option AObj) (op:Op):Option Res:=
 match newOp T g h op with
 |some r=>some r
 |none=>match arrOp T g h op with
  |some r=>some r
  |none=>aop0 T g h op
structure Holds (w:World) (gd:Nat→Prop) (L:Lay) (g:Nat→AVal) (h:Nat→Option AObj) (a:Act):Prop where
 slot:∀t,RepA w L gd (g t) (a.tmps.getD t undef)
 obj:∀id o,h id=some o→RepO w gd L id o
 glob:GoodW w gd
section
variable {P : Program} {T : Tys} {w : World} {gd : Nat → Prop} {L : Lay} {g : Nat → AVal} {h : Nat → Option AObj} {a : Act}
theorem Holds.opnd (H:Holds w gd L g h a) (x:Operand):RepA w L gd (opnd g x) (a.eval x):=by
 cases x with
 |tmp t=>exact H.slot t
 |const v=>exact aconst_rep w gd L v
 |global n=>exact H.glob.rep L n
 |func f=>exact .fn rfl (fun i x hx=>by simp at hx)
def MakesOk (P:Program) (w:World) (gd:Nat→Prop) (L:Lay) (a:Act) (o:Oper) (d:Nat) (v:AVal) (ob:AObj):Prop:=
 ∃w' nb nc u,(execOp a.eval o).run P w=.ok (.value u) w'∧Below w.heap.size w w'∧(∀b,nb=some b→w.heap.size≤b∧b<w'.heap.size)∧
  ∀gd',Stays w w' gd gd'→(∀b,w.heap.size≤b→b<w'.heap.size→nb≠some b→gd' b)→RepO w' gd' (L.upd d nb nc) d ob∧RepA w' (L.upd d nb nc) gd' v u
def WritesOk (P:Program) (w:World) (gd:Nat→Prop) (L:Lay) (a:Act) (o:Oper) (id:Nat) (ob:AObj):Prop:=
 ∃b w',L.blk id=some b∧((execOp a.eval o).run P w=.ok .skip w'∨∃u,(execOp a.eval o).run P w=.ok (.value u) w')∧w'.os=w.os∧w'.tape=w.tape∧w'.output=w.output∧w'.heap.size=w.heap.size∧(∀b',b'≠b→w'.heap[b']? = w.heap[b']?)∧
  ∀gd',Stays w w' gd gd'→(∀b,L.old b→w'.heap[b]? = w.heap[b]?)→RepO w' gd' L id ob
def MovesOk (P:Program) (w:World) (gd:Nat→Prop) (L:Lay) (a:Act) (o:Oper) (old:Nat) (t:TypeId) (sz n:Nat) (f:Nat→List D):Prop:=
 ∃w' nb nc u,(execOp a.eval o).run P w=.ok (.value u) w'∧w'.os=w.os∧w'.tape=w.tape∧w'.output=w.output∧w.heap.size≤w'.heap.size∧(∀b,b<w.heap.size→some b≠L.blk old→w'.heap[b]? = w.heap[b]?)∧
  (∀b,nb=some b→b<w'.heap.size∧(some b=L.blk old∨w.heap.size≤b))∧
  ∀d gd',Stays w w' gd gd'→RepO w' gd' (L.upd d nb nc) d (.row t sz n f)∧RepA w' (L.upd d nb nc) gd' (.rsl d sz 0 n) u
def MovesOkV (P:Program) (w:World) (gd:Nat→Prop) (L:Lay) (a:Act) (o:Oper) (old:Nat) (t:TypeId) (cells:List AVal):Prop:=
 ∃w' nb nc u,(execOp a.eval o).run P w=.ok (.value u) w'∧w'.os=w.os∧w'.tape=w.tape∧w'.output=w.output∧w.heap.size≤w'.heap.size∧(∀b,b<w.heap.size→some b≠L.blk old→w'.heap[b]? = w.heap[b]?)∧
  (∀b,nb=some b→b<w'.heap.size∧(some b=L.blk old∨w.heap.size≤b))∧
  ∀d gd',AVal.freeL d cells=true→Stays w w' gd gd'→(∀b,L.old b→w'.heap[b]? = w.heap[b]?)→RepO w' gd' (L.upd d nb nc) d (.vrow t cells)∧RepA w' (L.upd d nb nc) gd' (.rsl d 1 0 cells.length) u
def Res.Ok (P:Program) (w:World) (gd:Nat→Prop) (L:Lay) (g:Nat→AVal) (h:Nat→Option AObj) (a:Act) (o:Oper):Res→Prop
 |.val v=>∃u,(execOp a.eval o).run P w=.ok (.value u) w∧RepA w L gd v u
 |.cond v c=>c→∃u,(execOp a.eval o).run P w=.ok (.value u) w∧RepA w L gd v u
 |.new ob=>∀d,(∀t,(g t).free d=true)→MakesOk P w gd L a o d (.ptr d 0) ob
 |.newv ob v c=>(∀q,c=some q→q)→∀d,(∀t,(g t).free d=true)→MakesOk P w gd L a o d (v d) ob
 |.set id ob=>(∃o0,h id=some o0)∧WritesOk P w gd L a o id ob
 |.setc id ob c=>(∃o0,h id=some o0)∧(c→WritesOk P w gd L a o id ob)
 |.mkrow t sz n f c=>(∀q,c=some q→q)→∀d,MakesOk P w gd L a o d (.rsl d sz 0 n) (.row t sz n f)
 |.app old t sz n f c=>(∃t0 sz0 n0 f0,h old=some (.row t0 sz0 n0 f0))∧(c→(∀b,L.blk old=some b→¬gd b)→MovesOk P w gd L a o old t sz n f)
 |.appv old t cells c=>(∃t0 c0,h old=some (.vrow t0 c0))∧(c→(∀b,L.blk old=some b→¬gd b)→MovesOkV P w gd L a o old t cells)
 |.mkv t cells c=>c→∀d,AVal.freeL d cells=true→MakesOk P w gd L a o d (.rsl d 1 0 cells.length) (.vrow t cells)
 |.mget k l z ok=>∀f,findD k l=some f→∃u,(execOp a.eval o).run P w=.ok (.value u) w∧RepA w L gd (okM ok (.d (getD2 z f)) (isS f)) u
 |.mput id k x l=>(∃o0,h id=some o0)∧∀f,findD k l=some f→WritesOk P w gd L a o id (.dmp (putM f k x l))
 |.mdel id k l=>(∃o0,h id=some o0)∧∀f,findD k l=some f→WritesOk P w gd L a o id (.dmp (delM f l))
 |.ndb c=>∃b,(execOp a.eval o).run P w=.ok (.value (.bool b)) w∧c b
 |.str c=>∀l,c l→∃u,(execOp a.eval o).run P w=.ok (.value u) w∧RepA w L gd (.d (.s l)) u
 |.pub id v=>(∃o0,h id=some o0)∧∃u,(execOp a.eval o).run P w=.ok (.value u) w∧∀gd':Nat→Prop,(∀b,gd b→gd' b)→(∀b,L.blk id=some b→gd' b∧b<w.heap.size)→RepA w L gd' v u
theorem repA_agg {l:List AVal} {v:Value} (hv:RepA w L gd (.agg l) v):∃vs:Array Value,v=.agg vs∧vs.size=l.length∧(∀i,i<l.length→(vs.getD i undef).oneCell'=true)∧∀i x,l[i]? = some x→RepA w L gd x (vs.getD i undef):=by
 cases hv with
 |agg hz h1 h=>exact ⟨_,rfl,hz,h1,h⟩
theorem repA_i {k:IntKind} {n:Int} {v:Value} (hv:RepA w L gd (.d (.i k n)) v):v=.int k n:=by
 cases hv with|d h=>cases h;rfl
theorem repA_b {x:Bool} {v:Value} (hv:RepA w L gd (.d (.b x)) v):v=.bool x:=by
 cases hv with|d h=>cases h;rfl
theorem repA_s {l:List UInt8} {v:Value} (hv:RepA w L gd (.d (.s l)) v):v=.string ⟨l.toArray⟩:=by
 cases hv with|d h=>cases h;rfl
theorem repA_v {x v:Value} (hv:RepA w L gd (.d (.v x)) v):v=x:=by
 cases hv with|d h=>cases h;rfl
theorem repA_sl {sz n:Nat} {f:Nat→List D} {v:Value} (hv:RepA w L gd (.d (.sl sz n f)) v):RepD w gd (.sl sz n f) v:=by
 cases hv with|d h=>exact h
theorem repD_sl_len {sz n:Nat} {f:Nat→List D} {v:Value} (hv:RepD w gd (.sl sz n f) v):∃A c,v=.slice A n c:=by
 cases hv with
 |sl0=>exact ⟨_,_,rfl⟩
 |sl=>exact ⟨_,_,rfl⟩
theorem repA_one {x:AVal} {v:Value} (hv:RepA w L gd x v) (h1:x.sure=true):v.oneCell'=true:=by
 cases hv with
 |any=>cases h1
 |d h=>exact h.one
 |agg=>cases h1
 |tup=>cases h1
 |ptr=>rfl
 |eptr=>rfl
 |rsl=>rfl
 |rptr=>rfl
 |mref=>rfl
 |fn=>rfl
theorem addr_add0 (b o i:Nat):(⟨b,o,none⟩:Addr).add i=⟨b,o+i,none⟩:=Addr.add_lit b o i
theorem getD_eq_of {α:Type} {l:Array α} {i:Nat} {x y:α} (h:l[i]? = some x):l.getD i y=x:=by
 rw [Array.getD_eq_getD_getElem?,h];rfl
theorem aCells_ok (H:Holds w gd L g h a) {p:AVal} {v:Value} (hv:RepA w L gd p v) {l:List AVal} {c:Option Prop} (hl:aCells h p=some (l,c)) (hc:∀q,c=some q→q) :
  ∃b o,v=.pointer (some ⟨b,o,none⟩)∧∀i x,l[i]? = some x→∃u,w.cell? ⟨b,o+i,none⟩=some u∧u.oneCell'=true∧RepA w L gd x u:=by
 cases hv with
 | @ptr _ id off b hb=>
  simp only [aCells] at hl
  cases ho:h id with
  |none=>rw [ho] at hl;cases hl
  |some ob=>
   rw [ho] at hl
   cases ob with
   |row=>cases hl
   |mp=>cases hl
   |vrow=>cases hl
   |dmp=>cases hl
   |box cells tag0=>
    simp only [Option.some.injEq,Prod.mk.injEq] at hl
    obtain ⟨rfl,_⟩:=hl
    refine ⟨b,off,rfl,fun i x hx=>?_⟩
    have hr:=H.obj id _ ho
    cases hr with
    | @box _ tag cs t b' htag hb' hh hz h1 hrep=>
     rw [hb] at hb'
     cases hb'
     rw [dropF_eq,List.getElem?_drop] at hx
     have hlt:off+i<cells.length:=(List.getElem?_eq_some_iff.1 hx).1
     refine ⟨cs.getD (off+i) undef,?_,h1 _ hlt,hrep _ _ hx⟩
     rw [cell_of_row w b (off+i) cs t (0,0) hh,Array.getD_eq_getD_getElem?,Array.getElem?_eq_getElem (by omega)]
     rfl
 | @eptr _ sz n f k off b o c' m hs hk=>
  simp only [aCells] at hl
  cases hlf:liftF (dropF off (f k)) with
  |none=>rw [hlf] at hl;cases hl
  |some l'=>
   rw [hlf] at hl
   simp only [Option.some.injEq,Prod.mk.injEq] at hl
   obtain ⟨rfl,_⟩:=hl
   refine ⟨b,o+k*sz+off,rfl,fun i x hx=>?_⟩
   rw [liftF_eq hlf,dropF_eq,List.getElem?_map,List.getElem?_drop] at hx
   cases hs with
   |sl0=>omega
   |sl _ _ _ _ _ _ cs hn hc' hm hg hb hz hcell hrep=>
    cases hfx:(f k)[off+i]? with
    |none=>rw [hfx] at hx;cases hx
    |some y=>
     rw [hfx] at hx
     simp only [Option.map_some,Option.some.injEq] at hx
     subst hx
     have hlt:off+i<sz:=by rw [←hz k hk];exact (List.getElem?_eq_some_iff.1 hfx).1
     have hr:=hrep k hk _ _ hfx
     exact ⟨cs k (off+i),by rw [Nat.add_assoc];exact hcell k hk _ hlt,hr.one,.d hr⟩
 |d hd=>
  cases hd with
  |pt ds b hr=>
   simp only [aCells] at hl
   cases hlf:liftF ds with
   |none=>rw [hlf] at hl;cases hl
   |some l'=>
    rw [hlf] at hl
    simp only [Option.some.injEq,Prod.mk.injEq] at hl
    obtain ⟨rfl,_⟩:=hl
    refine ⟨b,0,rfl,fun i x hx=>?_⟩
    rw [liftF_eq hlf,List.getElem?_map] at hx
    cases hr with
    |sl _ _ _ _ _ _ cs hn hc' hm hg hb hz hcell hrep=>
     cases hfx:ds[i]? with
     |none=>rw [hfx] at hx;cases hx
     |some y=>
      rw [hfx] at hx
      simp only [Option.map_some,Option.some.injEq] at hx
      subst hx
      have hlt:i<ds.length:=(List.getElem?_eq_some_iff.1 hfx).1
      have hr:=hrep 0 (by omega) _ _ hfx
      have hcl:=hcell 0 (by omega) _ hlt
      simp only [Nat.zero_mul,Nat.zero_add,Nat.add_zero] at hcl
      exact ⟨cs 0 i,by rw [Nat.zero_add];exact hcl,hr.one,.d hr⟩
  |_=>simp [aCells] at hl
 | @rptr _ id sz k off b hb=>
  simp only [aCells] at hl
  cases ho:h id with
  |none=>rw [ho] at hl;cases hl
  |some ob=>
   rw [ho] at hl
   cases ob with
   |mp=>cases hl
   |vrow=>cases hl
   |dmp=>cases hl
   |box cells tag0=>
    simp only [Option.some.injEq,Prod.mk.injEq] at hl
    obtain ⟨rfl,_⟩:=hl
    refine ⟨b,k*sz+off,rfl,fun i x hx=>?_⟩
    have hr:=H.obj id _ ho
    cases hr with
    | @box _ tag cs t b' htag hb' hh hz h1 hrep=>
     rw [hb] at hb'
     cases hb'
     rw [dropF_eq,List.getElem?_drop] at hx
     have hlt:k*sz+off+i<cells.length:=(List.getElem?_eq_some_iff.1 hx).1
     refine ⟨cs.getD (k*sz+off+i) undef,?_,h1 _ hlt,hrep _ _ hx⟩
     rw [cell_of_row w b (k*sz+off+i) cs t (0,0) hh,Array.getD_eq_getD_getElem?,Array.getElem?_eq_getElem (by omega)]
     rfl
   |row t sz' n f=>
    simp only at hl
    cases hbq:Nat.beq sz sz' with
    |false=>rw [hbq] at hl;cases hl
    |true=>
     rw [hbq] at hl
     have:=Nat.eq_of_beq_eq_true hbq
     subst this
     simp only at hl
     cases hlf:liftF (dropF off (f k)) with
     |none=>rw [hlf] at hl;cases hl
     |some l'=>
      rw [hlf] at hl
      simp only [Option.some.injEq,Prod.mk.injEq] at hl
      obtain ⟨rfl,rfl⟩:=hl
      have hk:k<n:=hc _ rfl
      refine ⟨b,k*sz+off,rfl,fun i x hx=>?_⟩
      rw [liftF_eq hlf,dropF_eq,List.getElem?_map,List.getElem?_drop] at hx
      cases hfx:(f k)[off+i]? with
      |none=>rw [hfx] at hx;cases hx
      |some y=>
       rw [hfx] at hx
       simp only [Option.map_some,Option.some.injEq] at hx
       subst hx
       have hr:=H.obj id _ ho
       cases hr with
       |row0=>omega
       | @row _ _ _ _ cs b' t2 mk hb' hh hn hm hz hf hrep hty hmk hcap0=>
        rw [hb] at hb'
        cases hb'
        have hlt:off+i<sz:=by rw [←hf k hk];exact (List.getElem?_eq_some_iff.1 hfx).1
        have hr:=hrep k hk _ _ hfx
        refine ⟨cs.getD (k*sz+(off+i)) undef,?_,hr.one,.d hr⟩
        have hsz:k*sz+(off+i)<cs.size:=by
         have:=Nat.mul_le_mul_right sz (show k+1≤L.cap id from by omega)
         rw [Nat.add_mul] at this;omega
        rw [Nat.add_assoc,cell_of_row w b _ cs t2 mk hh,Array.getD_eq_getD_getElem?,Array.getElem?_eq_getElem hsz]
        rfl
 |_=>simp [aCells] at hl
theorem loadAt_ok (hT:TysOk P T) {t:TypeId} {d:TyD} (ht:lookT t T=some d) {b o:Nat} {l:List AVal} {x:AVal} (hx:aPart d l=some x)
  (hl:∀i x,l[i]? = some x→∃u,w.cell? ⟨b,o+i,none⟩=some u∧u.oneCell'=true∧RepA w L gd x u) :
  ∃u,(Instr.loadAt t (.pointer (some ⟨b,o,none⟩))).run P w=.ok u w∧RepA w L gd x u:=by
 have hd:=hT.get ht
 unfold aPart at hx
 cases htk:takeF d.size l with
 |none=>rw [htk] at hx;cases hx
 |some m=>
  rw [htk] at hx
  obtain ⟨hm,hlen⟩:=takeF_eq htk
  have hcell:∀j,j<d.size→∃u,w.cell? ⟨b,o+j,none⟩=some u∧u.oneCell'=true∧∀x,m[j]? = some x→RepA w L gd x u:=by
   intro j hj
   obtain ⟨u,h1,h2,h3⟩:=hl j l[j] (List.getElem?_eq_getElem (by omega))
   refine ⟨u,h1,h2,fun x hx=>?_⟩
   rw [hm,List.getElem?_take,if_pos hj,List.getElem?_eq_getElem (by omega)] at hx
   cases hx
   exact h3
  have hmlen:m.length=d.size:=by rw [hm,List.length_take];omega
  let us:Nat→Value:=fun j=>(w.cell? ⟨b,o+j,none⟩).getD undef
  have hus:∀j,j<d.size→w.cell? ((⟨b,o,none⟩:Addr).add j)=some (us j):=by
   intro j hj
   obtain ⟨u,h1,_⟩:=hcell j hj
   rw [addr_add0]
   show _=some ((w.cell? ⟨b,o+j,none⟩).getD undef)
   rw [h1];rfl
  have hrun:=run_loadCells (P:=P) w ⟨b,o,none⟩ d.size us hus
  have hisAgg:=hd.isAgg w
  cases hs:isStr d.kind with
  |true=>
   rw [hs] at hx hisAgg
   simp only [Option.some.injEq] at hx
   subst hx
   refine ⟨_,by simp [Instr.loadAt,Instr.sureAddr,loadVar,hisAgg,hd.sizeOf w,hrun];rfl,?_⟩
   refine .agg (by simp [hmlen]) (fun i hi=>?_) (fun i x hx=>?_)
   ·have hi':i<d.size:=by omega
    obtain ⟨u,h1,h2,_⟩:=hcell i hi'
    have:us i=u:=by show (w.cell? ⟨b,o+i,none⟩).getD undef=u;rw [h1];rfl
    rw [Array.getD_eq_getD_getElem?]
    simp [hi',this,h2]
   ·have hi':i<d.size:=by rw [←hmlen];exact (List.getElem?_eq_some_iff.1 hx).1
    obtain ⟨u,h1,h2,h3⟩:=hcell i hi'
    have:us i=u:=by show (w.cell? ⟨b,o+i,none⟩).getD undef=u;rw [h1];rfl
    rw [Array.getD_eq_getD_getElem?]
    simp [hi',this]
    exact h3 x hx
  |false=>
   rw [hs] at hx hisAgg
   cases m with
   |nil=>cases hx
   |cons y r=>
    cases r with
    |cons z r=>cases hx
    |nil=>
     simp only [Option.some.injEq] at hx
     subst hx
     have hz:d.size=1:=by simpa using hmlen.symm
     obtain ⟨u,h1,h2,h3⟩:=hcell 0 (by omega)
     refine ⟨u,?_,h3 _ rfl⟩
     simp only [Nat.add_zero] at h1
     simp [Instr.loadAt,Instr.sureAddr,loadVar,hisAgg,h1]
theorem aLoad_ok (hT:TysOk P T) (H:Holds w gd L g h a) {t:TypeId} {d:TyD} (ht:lookT t T=some d) {p:Operand} {r:Res} (hr:aLoad h d (opnd g p)=some r) {o:Oper} (ho:o.op=.load t p) :
  r.Ok P w gd L g h a o:=by
 have hv:=H.opnd p
 unfold aLoad at hr
 cases hc:aCells h (opnd g p) with
 |none=>rw [hc] at hr;cases hr
 |some lc=>
  obtain ⟨l,c⟩:=lc
  rw [hc] at hr
  simp only at hr
  cases hp:aPart d l with
  |none=>rw [hp] at hr;cases hr
  |some v=>
   rw [hp] at hr
   simp only [Option.some.injEq] at hr
   subst hr
   have key:(∀q,c=some q→q)→∃u,(execOp a.eval o).run P w=.ok (.value u) w∧RepA w L gd v u:=by
    intro hq
    obtain ⟨b,off,hv',hl⟩:=aCells_ok H hv hc hq
    obtain ⟨u,h1,h2⟩:=loadAt_ok (P:=P) hT ht hp hl
    exact ⟨u,by simp [execOp,ho,hv',h1],h2⟩
   cases c with
   |none=>exact key (fun q hq=>by cases hq)
   |some c=>exact fun hc=>key (fun q hq=>by cases hq;exact hc)
end
end Towline
