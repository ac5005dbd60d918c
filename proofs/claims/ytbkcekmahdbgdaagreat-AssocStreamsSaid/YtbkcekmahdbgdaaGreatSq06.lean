/- AssocStreams: the engine, contracts and plain laws that its proof leans on, part 06. -/
import Derived.Test.YtbkcekmahdbgdaaGreatSq05
import Derived.Deep.Slices
import Derived.ChangeArms
import Derived.Carry
import Derived.WideShapes
import Derived.OpenShut
import Derived.Test.YtbkcekmahdbgdaaGreatChecked
namespace Towline
open Go Go.RowKit
set_option linter.unusedVariables false
def resL (T:Tys) (g:Nat→AVal) (h:Nat→Option AObj) (k:List AVal→Prop):List ResultVar→Prop
 | []=>k []
 |.tmp t::r=>resL T g h (fun l=>k (g t::l)) r
 |.cell a t::r=>match lookT t T with
  |some d=>match aCellsA h (g a) with
   |some (l,none)=>match aPart d l with
    |some v=>resL T g h (fun l=>k (v::l)) r
    |none=>False
   |_=>False
  |none=>False
def keysH:Heap→List Nat
 | []=>[]
 |(i,_)::r=>i::keysH r
theorem keysH_ok {i:Nat}:∀{hl:Heap},i∈keysH hl↔∃o,lookO i hl=some o
 | []=>by simp [keysH,lookO]
 |(j,o)::r=>by
  have ih:=keysH_ok (i:=i) (hl:=r)
  rw [keysH,List.mem_cons,ih]
  constructor
  ·rintro (rfl|⟨o',h⟩)
   ·exact ⟨o,by rw [lookO_cons,if_pos rfl]⟩
   ·by_cases e:i=j
    ·exact ⟨o,by rw [lookO_cons,if_pos e]⟩
    ·exact ⟨o',by rw [lookO_cons,if_neg e];exact h⟩
  ·rintro ⟨o',h⟩
   rw [lookO_cons] at h
   split at h
   ·rename_i e;exact .inl e
   ·exact .inr ⟨o',h⟩
def idsOk (nt:Nat):List Nat→Bool
 | []=>true
 |i::r=>match Nat.ble lentBase i with
  |true=>match Nat.ble nt i with
   |true=>idsOk nt r
   |false=>false
  |false=>false
theorem idsOk_ok {nt:Nat}:∀{l:List Nat},idsOk nt l=true→∀i,i∈l→lentBase≤i∧nt≤i
 | [],_,i,hi=>by cases hi
 |j::r,h,i,hi=>by
  rw [idsOk] at h
  cases h1:Nat.ble lentBase j with
  |false=>rw [h1] at h;cases h
  |true=>
   rw [h1] at h
   simp only at h
   cases h2:Nat.ble nt j with
   |false=>rw [h2] at h;cases h
   |true=>
    rw [h2] at h
    rcases List.mem_cons.1 hi with rfl|hi
    ·exact ⟨Nat.le_of_ble_eq_true h1,Nat.le_of_ble_eq_true h2⟩
    ·exact idsOk_ok h i hi
section
variable {C : Ctx} {T : Tys} {L : Lay} {env : Env} {heap : Heap} {a : Act} {w : World}
theorem resL_ok (hT:TysOk C.P T) (hr:Rel C L (lk env) (lko heap) a w):∀(rs:List ResultVar) (k:List AVal→Prop),resL T (fun t=>look t env) (fun i=>lookO i heap) k rs→
  ∃(vs:List Value) (l:List AVal),(rs.mapM (resSem a.tmps)).run C.P w=.ok vs w∧k l∧vs.length=l.length∧∀(i:Nat) (x:AVal),l[i]? = some x→RepA w L (good C L (lko heap) w) x (vs.getD i undef)
 | [],k,hk=>⟨[],[],rfl,hk,rfl,fun i x hx=>by simp at hx⟩
 |rv::r,k,hk=>by
  have fin:∀(x:AVal) (v:Value),RepA w L (good C L (lko heap) w) x v→resL T (fun t=>look t env) (fun i=>lookO i heap) (fun l=>k (x::l)) r→
    ∀m:Sem Value,m.run C.P w=.ok v w→∃(vs:List Value) (l:List AVal),(do let y ←m;let ys ←r.mapM (resSem a.tmps);Pure.pure (y::ys)).run C.P w=.ok vs w∧k l∧vs.length=l.length∧∀(i:Nat) (x:AVal),l[i]? = some x→RepA w L (good C L (lko heap) w) x (vs.getD i undef):=by
   intro x v hv hk m hm
   obtain ⟨vs,l,e1,e2,e4,e5⟩:=resL_ok hT hr r _ hk
   refine ⟨v::vs,x::l,by simp [hm,e1],e2,by simp [e4],fun i z hz=>?_⟩
   cases i with
   |zero=>simp only [List.getElem?_cons_zero,Option.some.injEq] at hz;subst hz;exact hv
   |succ i=>simp only [List.getElem?_cons_succ] at hz;simpa using e5 i z hz
  cases rv with
  |tmp t=>
   simp only [resL] at hk
   obtain ⟨vs,l,h⟩:=fin _ _ (hr.slot t) hk (resSem a.tmps (.tmp t)) rfl
   exact ⟨vs,l,by rw [List.mapM_cons];exact h.1,h.2⟩
  |cell b t=>
   simp only [resL] at hk
   cases ht:lookT t T with
   |none=>rw [ht] at hk;exact hk.elim
   |some d=>
    rw [ht] at hk
    simp only at hk
    cases hc:aCellsA (fun i=>lookO i heap) (look b env) with
    |none=>rw [hc] at hk;exact hk.elim
    |some lc=>
     obtain ⟨cl,c⟩:=lc
     rw [hc] at hk
     cases c with
     |some c=>exact hk.elim
     |none=>
      simp only at hk
      cases hp:aPart d cl with
      |none=>rw [hp] at hk;exact hk.elim
      |some x=>
       rw [hp] at hk
       simp only at hk
       obtain ⟨bb,off,hv',hl⟩:=aCellsA_ok hr.holds (hr.slot b) hc (fun q hq=>by cases hq)
       obtain ⟨u,h1,h2⟩:=loadAt_ok (P:=C.P) hT ht hp hl
       have h1':(loadVar t ⟨bb,off,none⟩).run C.P w=.ok u w:=by simpa [Instr.loadAt,Instr.sureAddr] using h1
       obtain ⟨vs,l,h⟩:=fin _ _ h2 hk (resSem a.tmps (.cell b t)) (by simp [resSem,hv',asAddr,h1'])
       exact ⟨vs,l,by rw [List.mapM_cons];exact h.1,h.2⟩
end
def finL (heap:Heap) (post:AVal→Heap→Prop) (r:AVal):Prop:=∃r' hl',r.le r'∧CovH heap hl'∧post r' hl'
theorem LSpec.introW {P : Program} {T : Tys} {f : FuncId} {fn : Func} {c : Code} {args : List AVal} {hl : Heap} {post : AVal → Heap → Prop} (hT : TysOk P T) (hM : P.follows .mixedOrders = true) (hf : P.funcs[f]? = some fn) (hname : (fn.name == "runtime.NumGoroutine") = false) (hb : fn.body = some c) {nt : Nat} (hn : fn.ntmps = nt) (ha : args.length ≤ nt)
  (hid:idsOk nt (keysH hl)=true) {rs:List ResultVar} (hrs:fn.results.toList=rs)
  (h:∀w0 R0 Lo hG,AWp ⟨P,nt,w0,R0,keysH hl,Lo,hG⟩ c (fun e env heap=>match e with|.normal=>resL T (fun t=>look t env) (fun i=>lookO i heap) (postL (finL heap post)) rs|.ret=>resL T (fun t=>look t env) (fun i=>lookO i heap) (postL (finL heap post)) rs|_=>False) (argEnv 0 args) hl) :
  LSpec P f args hl post:=by
 refine ⟨⟨fn,c,hf,hname,hb⟩,fun w R L vs hgw hR hz hold hargs hobj hinj hown=>?_⟩
 have hG:GoodC w R (keysH hl) L:=⟨hgw,fun n k l e ⟨i,h1,h2⟩=>by
  obtain ⟨o,h3⟩:=keysH_ok.1 h1
  exact (hown i o n h3 h2).2 (hgw n k l e).1⟩
 have hlent:∀b,Ctx.lent ⟨P,nt,w,R,keysH hl,L,hG⟩ b↔owned L (lko hl) b:=fun b=>by
  constructor
  ·rintro ⟨i,h1,h2⟩
   obtain ⟨o,h3⟩:=keysH_ok.1 h1
   exact ⟨i,o,h3,h2⟩
  ·rintro ⟨i,o,h1,h2⟩
   exact ⟨i,keysH_ok.2 ⟨o,h1⟩,h2⟩
 have hgood:∀b,b<w.heap.size→R b→good ⟨P,nt,w,R,keysH hl,L,hG⟩ L (lko hl) w b∧w.heap[b]? = w.heap[b]?:=fun b hlt hb=>⟨⟨hlt,.inl hb,fun ⟨i,o,h1,h2⟩=>(hown i o b h1 h2).2 hb⟩,rfl⟩
 have hrel:Rel ⟨P,nt,w,R,keysH hl,L,hG⟩ L (lk (argEnv 0 args)) (lko hl) { tmps:=vs++Array.replicate (fn.ntmps-vs.size) undef,defers:=[]} w:={
  below:=BelowL.refl _ _
  top:=fun b=>(hold b).trans (and_congr_right fun _=>not_congr (hlent b).symm)
  size:=by simp [hn,hz];omega
  defers:=rfl
  slot:=fun t=>by
   show RepA _ _ _ (look t _) _
   rw [look_argEnv]
   split
   ·rename_i hlt
    have hlt':t<args.length:=by omega
    have:=hargs t args[t] (List.getElem?_eq_getElem hlt')
    simp only [Nat.sub_zero,List.getD_eq_getElem?_getD,List.getElem?_eq_getElem hlt',Option.getD_some]
    have e:(vs++Array.replicate (fn.ntmps-vs.size) undef).getD t undef=vs.getD t undef:=by
     simp only [Array.getD_eq_getD_getElem?]
     rw [Array.getElem?_append_left (by omega)]
    rw [e]
    exact this.mono1 (Nat.le_refl _) hgood (fun _ _=>rfl)
   ·exact .any
  obj:=fun id o h=>(hobj id o h).mono (Nat.le_refl _) hgood (fun _ _=>rfl) (fun b _ hb=>⟨hb,rfl⟩) (fun _=>true) (fun _ _=>⟨rfl,rfl⟩) rfl (fun _ h=>by cases h)
  inj:=hinj
  own0:=fun id o b h1 h2=>⟨.inr ((hlent b).2 ⟨id,o,h1,h2⟩),(hown id o b h1 h2).1⟩
  kept:=fun id o _ _=>⟨rfl,rfl⟩
  lidn:=fun i hi=>idsOk_ok hid i hi}
 refine calls_of_wp hf hb (wp_mono (h w R L hG _ _ w hrel) fun e a' w' ⟨L',env',heap',h1,h2⟩=>?_)
 have fin:resL T (fun t=>look t env') (fun i=>lookO i heap') (postL (finL heap' post)) rs→a'.defers=[]∧∃v,(results fn a'.tmps).run P w'=.ok v w'∧∃v' r hl' L',Ending.returned v=.returned v'∧post r hl'∧LPost w w' R L hl L' hl'∧RepA w' L' (lgood w w' R L hl L' hl') r v':=by
  intro h2
  obtain ⟨us,l,e1,e2,e4,e5⟩:=resL_ok (C:=⟨P,nt,w,R,keysH hl,L,hG⟩) hT h1 rs _ h2
  refine ⟨h1.defers,(if h:us.toArray.size=1 then us.toArray[0] else .tuple us.toArray),?_,?_⟩
  ·rw [results_eq,Array.mapM_eq_mapM_toList,hrs]
   simp only [Sem.run_bind,Sem.run_map,e1,Result.andThen_ok,Sem.run_pure]
  ·have done:∀(r:AVal) (v:Value),finL heap' post r→RepA w' L' (good ⟨P,nt,w,R,keysH hl,L,hG⟩ L' (lko heap') w') r v→∃v' r hl' L',Ending.returned v=.returned v'∧post r hl'∧LPost w w' R L hl L' hl'∧RepA w' L' (lgood w w' R L hl L' hl') r v':=by
    rintro r v ⟨r',hl',k1,k2,k3⟩ hv
    have hcov:=CovH_ok k2
    have hw:Rel ⟨P,nt,w,R,keysH hl,L,hG⟩ L' (lk env') (lko hl') a' w':=h1.weaken ⟨fun t=>.refl _,hcov⟩
    have hlg:∀b,good ⟨P,nt,w,R,keysH hl,L,hG⟩ L' (lko hl') w' b→lgood w w' R L hl L' hl' b:=fun b hb=>⟨hb.1,hb.2.1.imp id (fun h=>h.imp id (hlent b).1),hb.2.2⟩
    refine ⟨v,r',hl',L',rfl,k3,⟨?_,fun id o ho=>?_,hw.inj,fun id o b h3 h4=>?_,fun id o o' h3 h4=>hw.kept id o' (keysH_ok.2 ⟨o,h3⟩) h4⟩,?_⟩
    ·exact ⟨h1.below.os,h1.below.tape,h1.below.output,h1.below.size,fun k hk hnl=>h1.below.block k hk fun hl=>hnl ((hlent k).1 hl)⟩
    ·exact (hw.obj id o ho).mono (Nat.le_refl _) (fun b _ hb=>⟨hlg b hb,rfl⟩) (fun _ _=>rfl) (fun b _ hb=>⟨hb,rfl⟩) (fun _=>true) (fun _ _=>⟨rfl,rfl⟩) rfl (fun _ h=>by cases h)
    ·obtain ⟨q1,q2⟩:=hw.own0 id o b h3 h4
     exact ⟨q1.imp (fun h=>h) (hlent b).1,q2⟩
    ·refine (k1.out _ _ _ _ hv).mono1 (Nat.le_refl _) (fun b _ hb=>⟨hlg b ⟨hb.1,hb.2.1,fun ⟨i,o,q1,q2⟩=>?_⟩,rfl⟩) (fun _ _=>rfl)
     obtain ⟨o',q3,_⟩:=hcov i o q1
     exact hb.2.2 ⟨i,o',q3,q2⟩
   have tup:finL heap' post (.tup l)→us.toArray.size≠1→∃v' r hl' L',Ending.returned (if h:us.toArray.size=1 then us.toArray[0] else .tuple us.toArray)=.returned v'∧post r hl'∧LPost w w' R L hl L' hl'∧RepA w' L' (lgood w w' R L hl L' hl') r v':=by
    intro hp hne
    rw [dif_neg hne]
    refine done _ _ hp (.tup (by simpa using e4) fun i x hx=>?_)
    have:=e5 i x hx
    simpa [Array.getD_eq_getD_getElem?,List.getD_eq_getElem?_getD] using this
   cases l with
   |nil=>exact tup e2 (by simp [List.length_eq_zero_iff.1 e4])
   |cons x r=>
    cases r with
    |cons y r=>exact tup e2 (by simp [e4])
    |nil=>
     obtain ⟨u,rfl⟩:=List.length_eq_one_iff.1 e4
     have hx:=e5 0 x rfl
     obtain ⟨v',r,hl',L'',q1,q2⟩:=done x u e2 hx
     exact ⟨v',r,hl',L'',by simpa using q1,q2⟩
 cases e with
 |normal=>exact fin h2
 |ret=>exact fin h2
 |_=>exact h2.elim
theorem LSpec.run {P : Program} {T : Tys} {f : FuncId} {fn : Func} {c : Code} {args : List AVal} {hl : Heap} {post : AVal → Heap → Prop} (hT : TysOk P T) (hM : P.follows .mixedOrders = true) (hf : P.funcs[f]? = some fn) (hname : (fn.name == "runtime.NumGoroutine") = false) (hb : fn.body = some c) {nt : Nat} (hn : fn.ntmps = nt) (ha : args.length ≤ nt)
  (hid:idsOk nt (keysH hl)=true) {rs:List ResultVar} (hrs:fn.results.toList=rs)
  (h:∀w0 R0 Lo hG,ARun ⟨P,nt,w0,R0,keysH hl,Lo,hG⟩ T c (fun e env heap=>match e with|.normal=>resL T (fun t=>look t env) (fun i=>lookO i heap) (postL (finL heap post)) rs|.ret=>resL T (fun t=>look t env) (fun i=>lookO i heap) (postL (finL heap post)) rs|_=>False) (argEnv 0 args) hl) :
  LSpec P f args hl post:=
 LSpec.introW hT hM hf hname hb hn ha hid hrs fun w0 R0 Lo hG=>ARun_ok (C:=⟨P,nt,w0,R0,keysH hl,Lo,hG⟩) hT hM (h w0 R0 Lo hG)
theorem LSpec.raw {P : Program} {f : FuncId} {args : List AVal} {hl : Heap} {post : AVal → Heap → Prop} (hf : ∃ fn c, P.funcs[f]? = some fn ∧ (fn.name == "runtime.NumGoroutine") = false ∧ fn.body = some c) (hid : idsOk 0 (keysH hl) = true)
  (h:∀(C:Ctx) (L:Lay) (w:World) (vs:Array Value),C.w0=w→C.nt=0→Rel C L (fun _=>.any) (lko hl) ⟨#[],[]⟩ w→vs.size=args.length→(∀i x,args[i]? = some x→RepA w L (good C L (lko hl) w) x (vs.getD i undef))→
   Calls P f vs w fun e w'=>∃v r hl' L',e=.returned v∧post r hl'∧Rel C L' (fun _=>.any) (lko hl') ⟨#[],[]⟩ w'∧RepA w' L' (good C L' (lko hl') w') r v):LSpec P f args hl post:=by
 refine ⟨hf,fun w R L vs hgw hR hz hold hargs hobj hinj hown=>?_⟩
 have hG:GoodC w R (keysH hl) L:=⟨hgw,fun n k l e ⟨i,h1,h2⟩=>by
  obtain ⟨o,h3⟩:=keysH_ok.1 h1
  exact (hown i o n h3 h2).2 (hgw n k l e).1⟩
 have hlent:∀b,Ctx.lent ⟨P,0,w,R,keysH hl,L,hG⟩ b↔owned L (lko hl) b:=fun b=>by
  constructor
  ·rintro ⟨i,h1,h2⟩
   obtain ⟨o,h3⟩:=keysH_ok.1 h1
   exact ⟨i,o,h3,h2⟩
  ·rintro ⟨i,o,h1,h2⟩
   exact ⟨i,keysH_ok.2 ⟨o,h1⟩,h2⟩
 have hgood:∀b,b<w.heap.size→R b→good ⟨P,0,w,R,keysH hl,L,hG⟩ L (lko hl) w b∧w.heap[b]? = w.heap[b]?:=fun b hlt hb=>⟨⟨hlt,.inl hb,fun ⟨i,o,h1,h2⟩=>(hown i o b h1 h2).2 hb⟩,rfl⟩
 have hrel:Rel ⟨P,0,w,R,keysH hl,L,hG⟩ L (fun _=>.any) (lko hl) ⟨#[],[]⟩ w:={
  below:=BelowL.refl _ _
  top:=fun b=>(hold b).trans (and_congr_right fun _=>not_congr (hlent b).symm)
  size:=rfl
  defers:=rfl
  slot:=fun t=>.any
  obj:=fun id o h=>(hobj id o h).mono (Nat.le_refl _) hgood (fun _ _=>rfl) (fun b _ hb=>⟨hb,rfl⟩) (fun _=>true) (fun _ _=>⟨rfl,rfl⟩) rfl (fun _ h=>by cases h)
  inj:=hinj
  own0:=fun id o b h1 h2=>⟨.inr ((hlent b).2 ⟨id,o,h1,h2⟩),(hown id o b h1 h2).1⟩
  kept:=fun id o _ _=>⟨rfl,rfl⟩
  lidn:=fun i hi=>idsOk_ok hid i hi}
 refine (h ⟨P,0,w,R,keysH hl,L,hG⟩ L w vs rfl rfl hrel hz fun i x hx=>(hargs i x hx).mono1 (Nat.le_refl _) hgood (fun _ _=>rfl)).mono ?_
 rintro e w' ⟨v,r,hl',L',rfl,hp,hw,hr⟩
 have hlg:∀b,good ⟨P,0,w,R,keysH hl,L,hG⟩ L' (lko hl') w' b→lgood w w' R L hl L' hl' b:=fun b hb=>⟨hb.1,hb.2.1.imp id (fun h=>h.imp id (hlent b).1),hb.2.2⟩
 refine ⟨v,r,hl',L',rfl,hp,⟨⟨hw.below.os,hw.below.tape,hw.below.output,hw.below.size,fun k hk hnl=>hw.below.block k hk fun hl=>hnl ((hlent k).1 hl)⟩,fun id o ho=>?_,hw.inj,fun id o b h3 h4=>?_,fun id o o' h3 h4=>hw.kept id o' (keysH_ok.2 ⟨o,h3⟩) h4⟩,?_⟩
 ·exact (hw.obj id o ho).mono (Nat.le_refl _) (fun b _ hb=>⟨hlg b hb,rfl⟩) (fun _ _=>rfl) (fun b _ hb=>⟨hb,rfl⟩) (fun _=>true) (fun _ _=>⟨rfl,rfl⟩) rfl (fun _ h=>by cases h)
 ·obtain ⟨q1,q2⟩:=hw.own0 id o b h3 h4
  exact ⟨q1.imp (fun h=>h) (hlent b).1,q2⟩
 ·exact hr.mono1 (Nat.le_refl _) (fun b _ hb=>⟨hlg b hb,rfl⟩) (fun _ _=>rfl)
theorem Rel.gone {C:Ctx} {L:Lay} {g:Nat→AVal} {h:Nat→Option AObj} {a:Act} {w w':World} (H:Rel C L g h a w) {id:Nat} {o0:AObj} (hid:h id=some o0) (hos:w'.os=w.os) (htp:w'.tape=w.tape) (hout:w'.output=w.output) (hsz:w.heap.size≤w'.heap.size)
  (hw:∀b,b<w.heap.size→L.blk id≠some b→w'.heap[b]? = w.heap[b]?):Rel C L g (fun j=>if j=id then none else h j) a w':=by
 have hsome:∀{j oj},(if j=id then none else h j)=some oj→h j=some oj∧j≠id:=by
  intro j oj e
  split at e
  ·cases e
  ·rename_i hne;exact ⟨e,hne⟩
 have hg:Stays w w' (good C L h w) (good C L (fun j=>if j=id then none else h j) w'):=by
  intro b hlt hgb
  refine ⟨⟨Nat.lt_of_lt_of_le hlt hsz,hgb.2.1,fun ⟨i,oi,h1,h2⟩=>hgb.2.2 ⟨i,oi,(hsome h1).1,h2⟩⟩,hw b hlt fun e=>hgb.2.2 ⟨id,o0,hid,e⟩⟩
 have ht:∀b,L.old b→w'.heap[b]? = w.heap[b]?:=fun b hb=>hw b (H.old_lt hb) (H.old_own hb hid)
 exact {
  below:=H.below.next hos htp hout hsz fun k hk hnl=>hw k (Nat.lt_of_lt_of_le hk H.below.size) fun e=>by
   rcases (H.own0 id o0 k hid e).1 with h1|h1
   ·omega
   ·exact hnl h1
  top:=H.top
  size:=H.size
  defers:=H.defers
  slot:=fun t=>(H.slot t).mono1 hsz hg ht
  obj:=fun j oj hj=>by
   obtain ⟨h1,h2⟩:=hsome hj
   exact (H.obj j oj h1).mono hsz hg (fun b hb=>hw b (H.own0 j oj b h1 hb).2 fun e=>h2 (H.inj j id oj o0 b h1 hid hb e)) (fun b _ hb=>⟨hb,ht b hb⟩) (fun _=>true) (fun _ _=>⟨rfl,rfl⟩) rfl (fun _ h=>by cases h)
  inj:=fun i j oi oj b h1 h2=>H.inj i j oi oj b (hsome h1).1 (hsome h2).1
  own0:=fun i o b h1 h2=>by
   obtain ⟨q1,q2⟩:=H.own0 i o b (hsome h1).1 h2
   exact ⟨q1,Nat.lt_of_lt_of_le q2 hsz⟩
  kept:=fun i o hl h1=>H.kept i o hl (hsome h1).1
  lidn:=H.lidn}
open Go Go.RowKit Go.Deep
def plainT (T:Tys):Nat→TypeId→Bool
 |0,_=>false
 |n+1,t=>match lookT t T with
  |some ⟨.bool,_,_,_⟩=>true
  |some ⟨.int _,_,_,_⟩=>true
  |some ⟨.string,_,_,_⟩=>true
  |some ⟨.slice e,_,_,_⟩=>match lookT e T with
   |some d=>Nat.blt 0 d.size&&plainT T n e
   |none=>false
  |some ⟨.struct fs,sz,_,_⟩=>laid 0 fs sz&&fs.all fun f=>plainT T n f.2.2
  |some ⟨.array m e,sz,_,_⟩=>match lookT e T with
   |some d=>Nat.beq sz (m*d.size)&&plainT T n e
   |none=>false
  |_=>false
where laid:Nat→List (Nat×Nat×TypeId)→Nat→Bool
 |o,[],sz=>Nat.beq o sz
 |o,(off,s,_)::r,sz=>Nat.beq o off&&laid (o+s) r sz
def wt (T:Tys):Nat→TypeId→List D→Prop
 |0,_,_=>False
 |n+1,t,l=>match lookT t T with
  |some ⟨.bool,_,_,_⟩=>∃b,l=[.b b]
  |some ⟨.int k,_,_,_⟩=>∃x,l=[.i k x]∧(Lit.int k x).wf=true
  |some ⟨.string,_,_,_⟩=>∃s:List UInt8,l=[.s s]∧s.length≤maxLen
  |some ⟨.slice e,_,_,_⟩=>match lookT e T with
   |some d=>∃(m:Nat) (f:Nat→List D),l=[.sl d.size m f]∧m≤maxLen∧∀k,k<m→(f k).length=d.size∧wt T n e (f k)
   |none=>False
  |some ⟨.struct fs,sz,_,_⟩=>l.length=sz∧wtL (wt T n) l fs
  |some ⟨.array m e,sz,_,_⟩=>match lookT e T with
   |some d=>l.length=sz∧∀k,k<m→wt T n e ((l.drop (k*d.size)).take d.size)
   |none=>False
  |_=>False
where wtL (p:TypeId→List D→Prop) (l:List D):List (Nat×Nat×TypeId)→Prop
 | []=>True
 |(off,s,t)::r=>p t ((l.drop off).take s)∧wtL p l r
theorem cellsOf_eq {P:Program} {t:TypeId} {d:TyD} (h:TyOk P t d):P.cellsOf t=d.size:=by
 obtain ⟨i,h1,_,h2,_⟩:=h.info'
 simp [Program.cellsOf,h1,h2]
theorem cell_lt {w:World} {a:Addr} {v:Value} (h:w.cell? a=some v):a.block<w.heap.size:=by
 unfold World.cell? at h
 split at h
 ·rename_i e;exact (Array.getElem?_eq_some_iff.1 e).1
 ·cases h
theorem open_cells {H:Type} {enc:TypeId×Value→H} {P:Program} {T:Tys} {w:World} {base:Nat} {sp:Nat→Bool} {hd:Bool} (hT:TysOk P T) :
  ∀(n fuel:Nat) (t:TypeId) (cs:List Value) (x:DataW H×List MemPlace),plainT T n t=true→DataW.trod enc P w base sp hd fuel t cs=some x→
   ∃l:List D,wt T n t l∧l.length=cs.length∧∀(i:Nat) (y:D),l[i]? = some y→RepD w (fun b=>b<w.heap.size) y (cs.getD i undef):=by
 intro n
 induction n with
 |zero=>intro fuel t cs x hp;simp [plainT] at hp
 |succ n ih=>
  intro fuel t cs x hp h
  unfold plainT at hp
  unfold wt
  split at hp
  ·rename_i ht
   obtain ⟨b,rfl,_⟩:=DataW.trod_bool ((hT.get ht).bool rfl) h
   refine ⟨[.b b],⟨b,rfl⟩,rfl,fun i y hy=>?_⟩
   obtain ⟨rfl,rfl⟩:i=0∧y=.b b:=by cases i<;>simp_all
   exact .b b
  ·rename_i k _ _ _ ht
   obtain ⟨m,rfl,_,hw⟩:=DataW.trod_int ((hT.get ht).int rfl) h
   refine ⟨[.i k m],⟨m,rfl,hw⟩,rfl,fun i y hy=>?_⟩
   obtain ⟨rfl,rfl⟩:i=0∧y=.i k m:=by cases i<;>simp_all
   exact .i k m
  ·rename_i ht
   obtain ⟨s,rfl,_,hs⟩:=DataW.trod_string ((hT.get ht).string rfl) h
   refine ⟨[.s s.data.toList],⟨s.data.toList,rfl,by simpa using hs⟩,rfl,fun i y hy=>?_⟩
   obtain ⟨rfl,rfl⟩:i=0∧y=.s s.data.toList:=by cases i<;>simp_all
   have:=RepD.s (w:=w) (good:=fun b=>b<w.heap.size) s.data.toList
   simpa using this
  ·rename_i e _ _ _ ht
   split at hp
   ·rename_i d hde
    simp only [Bool.and_eq_true] at hp
    have hpos:1≤d.size:=by simpa [Nat.blt] using hp.1
    have hcell:=cellsOf_eq (hT.get hde)
    rcases open_slice ((hT.get ht).slice rfl) h with ⟨rfl,_⟩|⟨a,len,cap,m,n',Dx,Pl,rfl,hb,hl,hm,hmm,_,hx⟩
    ·refine ⟨[.sl d.size 0 fun _=>[]],⟨0,_,rfl,Nat.zero_le _,fun k hk=>absurd hk (Nat.not_lt_zero k)⟩,rfl,fun i y hy=>?_⟩
     obtain ⟨rfl,rfl⟩:i=0∧y=.sl d.size 0 fun _=>[]:=by cases i<;>simp_all
     exact .sl0 _ _ _ _ (Nat.zero_le _)
    ·have hlm:len≤m:=by rw [hmm];split<;>omega
     have hel:∀i,i<len→∃p:List D×List Value,p.1.length=d.size∧wt T n e p.1∧(∀j,j<d.size→w.cell? (a.add (i*d.size+j))=some (p.2.getD j undef))∧∀(j:Nat) (y:D),p.1[j]? = some y→RepD w (fun b=>b<w.heap.size) y (p.2.getD j undef):=by
      intro i hi
      obtain ⟨cs',h1,h2⟩:=hx i (by omega)
      rw [hcell] at h1
      obtain ⟨_,c1,c2⟩:=World.cells?_some h1
      obtain ⟨l,k1,k2,k3⟩:=ih n' e cs' _ hp.2 h2
      refine ⟨(l,cs'),by simp only;omega,k1,fun j hj=>?_,k3⟩
      have:=c2 j hj
      rw [add_add] at this
      rw [this,List.getD_eq_getElem?_getD,List.getElem?_eq_getElem (by omega)]
      rfl
     obtain ⟨f,hf⟩:=choose_lt hel
     refine ⟨[.sl d.size len fun k=>(f k).1],⟨len,_,rfl,by omega,fun k hk=>⟨(hf k hk).1,(hf k hk).2.1⟩⟩,rfl,fun i y hy=>?_⟩
     obtain ⟨rfl,rfl⟩:i=0∧y=.sl d.size len fun k=>(f k).1:=by cases i<;>simp_all
     simp only [List.getD_cons_zero]
     rcases Nat.eq_zero_or_pos len with rfl|hlen
     ·exact .sl0 _ _ _ _ (by omega)
     ·have h00:=(hf 0 hlen).2.2.1 0 hpos
      have e0:a.add (0*d.size+0)=a:=by simp [Addr.add]
      rw [e0] at h00
      have hspot:=World.cell?_spot h00
      have hblk:=cell_lt h00
      obtain ⟨b,o,spot⟩:=a
      simp only at hspot
      subst hspot
      refine .sl d.size len _ b o cap (fun k j=>(f k).2.getD j undef) hlen hl hm hblk hblk (fun k hk=>(hf k hk).1) (fun k hk j hj=>?_) (fun k hk j y hy=>(hf k hk).2.2.2 j y hy)
      have:=(hf k hk).2.2.1 j hj
      rw [←this]
      congr 1
      unfold Addr.add
      split
      ·rename_i hz;rw [Nat.add_assoc,hz,Nat.add_zero]
      ·simp [Nat.add_assoc]
   ·cases hp
  ·rename_i fs sz _ _ ht
   simp only [Bool.and_eq_true] at hp
   obtain ⟨fields,hu,hfs⟩:=(hT.get ht).struct rfl
   obtain ⟨xs,n',_,_,hlen,hxl,hx⟩:=DataW.trod_struct hu h
   have hcell:=cellsOf_eq (hT.get ht)
   have hsz:cs.length=sz:=by rw [hlen,hcell]
   have key:∀(gs:List Field) (o:Nat),(∀(i:Nat) (g:Field),gs[i]? = some g→∃y,DataW.trod enc P w base sp hd n' g.type ((cs.drop g.offset).take (P.cellsOf g.type))=some y)→
     plainT.laid o (gs.map fun f=>(f.offset,match P.info? f.type with|some i=>i.size|none=>0,f.type)) sz=true→((gs.map fun f=>(f.offset,match P.info? f.type with|some i=>i.size|none=>0,f.type)).all fun f=>plainT T n f.2.2)=true→o≤sz→
     ∃l:List D,l.length=sz-o∧(∀(i:Nat) (y:D),l[i]? = some y→RepD w (fun b=>b<w.heap.size) y (cs.getD (o+i) undef))∧
      ∀pre:List D,pre.length=o→wt.wtL (wt T n) (pre++l) (gs.map fun f=>(f.offset,match P.info? f.type with|some i=>i.size|none=>0,f.type)):=by
    intro gs
    induction gs with
    |nil=>
     intro o _ hl _ ho
     have:o=sz:=Nat.eq_of_beq_eq_true hl
     exact ⟨[],by simp;omega,fun i y hy=>by simp at hy,fun pre _=>trivial⟩
    |cons g gs ihg=>
     intro o hg hl ha ho
     simp only [List.map_cons,plainT.laid,Bool.and_eq_true] at hl
     simp only [List.map_cons,List.all_cons,Bool.and_eq_true] at ha
     obtain ⟨hl1,hl2⟩:=hl
     have hoff:o=g.offset:=Nat.eq_of_beq_eq_true hl1
     obtain ⟨y,hy⟩:=hg 0 g rfl
     have hsg:(match P.info? g.type with|some i=>i.size|none=>0)=P.cellsOf g.type:=by
      unfold Program.cellsOf;cases P.info? g.type<;>rfl
     rw [hsg] at hl2
     obtain ⟨l1,k1,k2,k3⟩:=ih n' g.type _ y ha.1 hy
     have hmono:∀(gs:List Field) (o:Nat),plainT.laid o (gs.map fun f=>(f.offset,match P.info? f.type with|some i=>i.size|none=>0,f.type)) sz=true→o≤sz:=by
      intro gs
      induction gs with
      |nil=>intro o h;exact Nat.le_of_eq (Nat.eq_of_beq_eq_true h)
      |cons g gs ih=>
       intro o h
       simp only [List.map_cons,plainT.laid,Bool.and_eq_true] at h
       have:=ih _ h.2
       omega
     have ho2:=hmono gs _ hl2
     have k2':l1.length=P.cellsOf g.type:=by rw [k2,List.length_take,List.length_drop];omega
     obtain ⟨l2,j1,j2,j3⟩:=ihg (o+P.cellsOf g.type) (fun i g' hg'=>hg (i+1) g' (by simpa using hg')) hl2 ha.2 ho2
     refine ⟨l1++l2,by rw [List.length_append];omega,fun i z hz=>?_,fun pre hpre=>?_⟩
     ·by_cases hi:i<l1.length
      ·rw [List.getElem?_append_left hi] at hz
       have:=k3 i z hz
       rwa [List.getD_eq_getElem?_getD,List.getElem?_take,if_pos (by omega),List.getElem?_drop,←hoff,←List.getD_eq_getElem?_getD] at this
      ·rw [List.getElem?_append_right (by omega)] at hz
       have:=j2 _ z hz
       rwa [show o+P.cellsOf g.type+(i-l1.length)=o+i from by omega] at this
     ·simp only [List.map_cons,wt.wtL]
      refine ⟨?_,?_⟩
      ·rw [hsg,←hoff,←hpre,List.drop_left,←k2',List.take_left]
       exact k1
      ·have:=j3 (pre++l1) (by rw [List.length_append];omega)
       rwa [List.append_assoc] at this
   rw [←hfs] at hp
   obtain ⟨l,h1,h2,h3⟩:=key fields.toList 0 (fun i g hg=>by
    have hg':fields[i]? = some g:=by simpa using hg
    have hi:i<xs.length:=by rw [hxl];exact (Array.getElem?_eq_some_iff.1 hg').1
    exact ⟨xs[i],by rw [hx i g hg',List.getElem?_eq_getElem hi]⟩) hp.1 hp.2 (Nat.zero_le _)
   refine ⟨l,⟨by omega,?_⟩,by omega,fun i y hy=>by have:=h2 i y hy;rwa [Nat.zero_add] at this⟩
   have:=h3 [] rfl
   rw [List.nil_append] at this
   rw [←hfs]
   exact this
  ·rename_i m e sz _ _ ht
   split at hp
   ·rename_i d hde
    simp only [Bool.and_eq_true] at hp
    have hsz:=Nat.eq_of_beq_eq_true hp.1
    have hu:P.underlying t=some (.array m e):=by
     obtain ⟨u,hu,hk⟩:=(hT.get ht).und
     cases u<;>simp [kindOf] at hk
     rw [hu];simp [hk]
    obtain ⟨xs,n',_,_,hlen,hxl,hx⟩:=DataW.trod_array hu h
    have hcell:=cellsOf_eq (hT.get ht)
    have hce:=cellsOf_eq (hT.get hde)
    have hcs:cs.length=m*d.size:=by rw [hlen,hcell];exact hsz
    have key:∀j,j≤m→∃l:List D,l.length=j*d.size∧(∀k,k<j→wt T n e ((l.drop (k*d.size)).take d.size))∧∀(i:Nat) (y:D),l[i]? = some y→RepD w (fun b=>b<w.heap.size) y (cs.getD i undef):=by
     intro j
     induction j with
     |zero=>intro _;exact ⟨[],by simp,fun k hk=>absurd hk (Nat.not_lt_zero k),fun i y hy=>by simp at hy⟩
     |succ j ihj=>
      intro hj
      obtain ⟨l,k1,k2,k3⟩:=ihj (by omega)
      have hel:=hx j (by omega)
      rw [List.getElem?_eq_getElem (by omega),hce] at hel
      obtain ⟨l1,e1,e2,e3⟩:=ih n' e _ _ hp.2 hel
      have hle:j*d.size+d.size≤m*d.size:=by
       have:=Nat.mul_le_mul_right d.size (show j+1≤m from hj)
       rwa [Nat.add_mul,Nat.one_mul] at this
      have e2':l1.length=d.size:=by rw [e2,List.length_take,List.length_drop];omega
      refine ⟨l++l1,by rw [List.length_append,Nat.add_mul];omega,fun k hk=>?_,fun i y hy=>?_⟩
      ·by_cases hkj:k<j
       ·have hk2:k*d.size+d.size≤j*d.size:=by
         have:=Nat.mul_le_mul_right d.size (show k+1≤j from hkj)
         rwa [Nat.add_mul,Nat.one_mul] at this
        rw [List.drop_append_of_le_length (by omega),List.take_append_of_le_length (by rw [List.length_drop];omega)]
        exact k2 k hkj
       ·have:k=j:=by omega
        subst this
        rw [←k1,List.drop_left,←e2',List.take_length]
        exact e1
      ·by_cases hi:i<l.length
       ·rw [List.getElem?_append_left hi] at hy
        exact k3 i y hy
       ·rw [List.getElem?_append_right (by omega)] at hy
        have:=e3 _ y hy
        have hlt:i-l.length<l1.length:=(List.getElem?_eq_some_iff.1 hy).1
        rwa [List.getD_eq_getElem?_getD,List.getElem?_take,if_pos (by omega),List.getElem?_drop,show j*d.size+(i-l.length)=i from by omega,←List.getD_eq_getElem?_getD] at this
    obtain ⟨l,k1,k2,k3⟩:=key m (Nat.le_refl _)
    exact ⟨l,⟨by omega,k2⟩,by omega,k3⟩
   ·cases hp
  ·cases hp
def asV (str:Bool) (l:List D):AVal:=match str with
 |true=>.agg (l.map .d)
 |false=>match l with
  | [d]=>.d d
  |_=>.any
theorem open_arg {H:Type} {enc:TypeId×Value→H} {P:Program} {T:Tys} {w:World} {base b0:Nat} {r:Reach} {sp:Nat→Bool} {hd:Bool} {t:TypeId} {v:Value} {d:DataW H} {ps:List MemPlace} {td:TyD} (hT:TysOk P T) (n:Nat) (hp:plainT T n t=true) (ht:lookT t T=some td)
  (hval:Value.okWide P w r b0 t v) (h:DataW.Trod enc P w base sp hd t v d ps):∃l,wt T n t l∧∀L,RepA w L (fun b=>b<w.heap.size) (asV (isStr td.kind) l) v:=by
 obtain ⟨fuel,h⟩:=h
 obtain ⟨l,h1,h2,h3⟩:=open_cells hT n fuel t _ _ hp h
 refine ⟨l,h1,fun L=>?_⟩
 cases hs:isStr td.kind with
 |true=>
  have:∃cs,v=.agg cs:=by
   obtain ⟨u,hu,hk⟩:=(hT.get ht).und
   unfold Value.okWide at hval
   rw [hu] at hval
   rw [←hk] at hs
   cases u<;>simp [kindOf,isStr] at hs
   all_goals (obtain ⟨cs,e,_⟩:=hval;exact ⟨cs,e⟩)
  obtain ⟨cs,rfl⟩:=this
  have h2:l.length=cs.size:=by rw [h2];simp [Value.cells]
  refine .agg (by simp [h2]) (fun i hi=>?_) fun i y hy=>?_
  ·have hi:i<l.length:=by simpa using hi
   have:=(h3 i l[i] (List.getElem?_eq_getElem hi)).one
   simpa [Value.cells,List.getD_eq_getElem?_getD,Array.getD_eq_getD_getElem?] using this
  ·rw [List.getElem?_map] at hy
   obtain ⟨z,hz,rfl⟩:=Option.map_eq_some_iff.1 hy
   have:=h3 i z hz
   exact .d (by simpa [Value.cells,List.getD_eq_getElem?_getD,Array.getD_eq_getD_getElem?] using this)
 |false=>
  unfold asV
  simp only
  split
  ·rename_i x
   have:=h3 0 x rfl
   have hc:v.cells.toList=[v]:=by
    have hna:∀cs,v≠.agg cs:=by
     rintro cs rfl
     obtain ⟨u,hu,hk⟩:=(hT.get ht).und
     rw [←hk] at hs
     unfold Value.okWide at hval
     rw [hu] at hval
     cases u<;>simp_all [Cell.okWide,Cell.ok,kindOf,isStr]
    cases v<;>first|rfl|exact absurd rfl (hna _)
   rw [hc] at this
   exact .d this
  ·exact .any
theorem PSpec.isTrue {P:Program} {f:FuncId} {args:List AVal} (h:PSpec P f args (· = .d (.b true))) {w:World} {vs:Array Value} (hG:GoodW w fun b=>b<w.heap.size) (hz:vs.size=args.length) (ha:∀(i:Nat) (x:AVal),args[i]? = some x→RepA w (L0 w.heap.size) (fun b=>b<w.heap.size) x (vs.getD i undef)) :
  Calls P f vs w fun e w'=>e=.returned (.bool true)∧Below w.heap.size w w':=
 (h.2 w (fun b=>b<w.heap.size) vs hG (fun _ h=>h) hz ha).mono fun e w' ⟨v,r,h1,h2,h3,h4⟩=>by
  subst h2
  have:=repA_b h4.2
  rw [h1,this]
  exact ⟨rfl,h3⟩
structure AGo (C:Ctx) (c:Code) (Q:Exit→Env→Heap→Prop) (env:Env) (heap:Heap):Prop where
 out:AWp C c Q env heap
def ARunS (C:Ctx) (T:Tys):Code→(Exit→Env→Heap→Prop)→Env→Heap→Prop
 |.skip,Q,env,heap=>Q .normal env heap
 |.region _ ops draw,Q,env,heap=>match draw with
  |false=>AOps C.P T C.nt ops (Q .normal) ops.toList env heap
  |true=>AOpsD C.P T C.nt ops (fun recs env' heap'=>drawOk ops.toList recs.reverse env heap=true∧Q .normal env' heap') ops.toList [] env heap
 |.seq x y,Q,env,heap=>ARunS C T x (fun e env heap=>match e with|.normal=>ARunS C T y Q env heap|e=>Q e env heap) env heap
 |.cond c x y,Q,env,heap=>match opnd (fun t=>look t env) c with
  |.d (.b b)=>match b with
   |true=>AGo C x Q env heap
   |false=>AGo C y Q env heap
  |_=>False
 |.block id x,Q,env,heap=>ARunS C T x (fun e env heap=>match e with|.exit i=>(match Nat.beq i id with|true=>Q .normal env heap|false=>Q (.exit i) env heap)|e=>Q e env heap) env heap
 |.loop c,Q,env,heap=>ALoop C c Q env heap
 |.exit id,Q,env,heap=>Q (.exit id) env heap
 |.ret,Q,env,heap=>Q .ret env heap
 |.rangeFunc ..,_,_,_=>False
 |.scope x,Q,env,heap=>ARunS C T x (fun e env heap=>match e with|.goto _=>False|e=>Q e env heap) env heap
 |.label _,Q,env,heap=>Q .normal env heap
 |.goto _,_,_,_=>False
 |.refuse _,_,_,_=>False
section
variable {C : Ctx} {T : Tys}
theorem ARunS_ok (hT:TysOk C.P T) (hM:C.P.follows .mixedOrders=true):∀{c:Code} {Q:Exit→Env→Heap→Prop} {env:Env} {heap:Heap},ARunS C T c Q env heap→AWp C c Q env heap:=by
 intro c
 induction c with
 |skip=>exact fun h=>AWp.skip h
 |region id ops draw=>
  intro Q env heap h
  cases draw with
  |false=>exact AWp.region hT h
  |true=>exact AWp.draw hT hM h
 |seq x y ihx ihy=>
  intro Q env heap h
  refine AWp.seq ((ihx h).mono fun e env heap h=>?_)
  cases e with
  |normal=>exact ihy h
  |_=>exact h
 |cond c x y ihx ihy=>
  intro Q env heap h
  simp only [ARunS] at h
  split at h
  ·rename_i b e
   refine AWp.cond e (fun hb=>?_) (fun hb=>?_)
   ·subst hb;exact h.out
   ·subst hb;exact h.out
  ·exact h.elim
 |block id x ih=>intro Q env heap h;exact AWp.block (ih h)
 |loop c ih=>exact fun h=>h.out
 |exit id=>exact fun h=>AWp.exit h
 |ret=>exact fun h=>AWp.ret h
 |label l=>exact fun h=>fun L a w hr=>wp_label ⟨L,_,_,hr,h⟩
 |scope x ih=>
  intro Q env heap h L a w hr
  refine wp_scope_straight (wp_mono (ih h L a w hr) fun e a' w' ⟨L',env',heap',h1,h2⟩=>?_)
  cases e with
  |goto l=>exact h2.elim
  |_=>exact ⟨L',env',heap',h1,h2⟩
 |_=>exact fun h=>h.elim
theorem AGo.go {c:Code} {Q:Exit→Env→Heap→Prop} {env:Env} {heap:Heap} (hT:TysOk C.P T) (hM:C.P.follows .mixedOrders=true) (h:ARunS C T c Q env heap):AGo C c Q env heap:=⟨ARunS_ok hT hM h⟩
theorem ALoop.introS {X:Type} {c:Code} {Q:Exit→Env→Heap→Prop} {env:Env} {heap:Heap} (hT:TysOk C.P T) (hM:C.P.follows .mixedOrders=true) (S:X→Env×Heap) (μ:X→Nat) (x0:X) (h0:CovE env (S x0).1 (CovH heap (S x0).2))
  (round:∀x,ARunS C T c (fun e env' heap'=>match e with|.normal=>∃x' ps,μ x'<μ x∧CovE (renEs C.lid ps env') (S x').1 (CovH (renHs C.lid ps heap') (S x').2)|e=>Q e env' heap') (S x).1 (S x).2):ALoop C c Q env heap:=
 ⟨AWp.loop (fun x=>(S x).1) (fun x=>(S x).2) μ x0 (Covers.mk' h0) fun x L a w hr=>wp_mono ((ARunS_ok hT hM (round x)) L a w hr) fun e a' w' ⟨L',env',heap',h1,h2⟩=>by
  cases e with
  |normal=>
   obtain ⟨x',ps,h3,h4⟩:=h2
   obtain ⟨L2,h5⟩:=h1.rens ps
   exact ⟨L2,_,_,h5,x',h3,Covers.mk' h4⟩
  |_=>exact ⟨L',env',heap',h1,h2⟩⟩
theorem ALoop.frz {c:Code} {Q:Exit→Env→Heap→Prop} {env:Env} {heap:Heap} (s:Nat) (h:frzK (fun e hp=>ALoop C c Q e hp) [(0,.tmp s)] env heap):ALoop C c Q env heap:=
 ⟨fun L a w H=>by obtain ⟨e,hp,h1,h2⟩:=frzK_ok h H;exact h1.out L a w h2⟩
theorem AGo.adoptCell {C:Ctx} {c:Code} {Q:Exit→Env→Heap→Prop} {env:Env} {heap heap':Heap} (b i id sz:Nat) (t:TypeId) (f:Nat→List D) {cells:List AVal} {tag:Option TypeId} (hb:lookO b heap=some (.box cells tag)) (hs:cells[i]? = some (.d (.v (.slice none 0 0)))) (he:freeEnv id env=true) (hh:freeHeap id heap=true)
  (hset:setO b (.box (cells.set i (.rsl id sz 0 0)) tag) heap=some heap') (h:AGo C c Q env ((id,.row t sz 0 f)::heap')) (hl:memN id C.lid=false:=by rfl):AGo C c Q env heap:=
 ⟨AWp.adoptCell b i id sz t f hb hs he hh hset h.out hl⟩
theorem AGo.pub {c:Code} {Q:Exit→Env→Heap→Prop} {env:Env} {heap heap':Heap} (b i id:Nat) {cells:List AVal} {tag:Option TypeId} {t:TypeId} {sz n n':Nat} {f:Nat→List D} (hb:lookO b heap=some (.box cells tag)) (hs:cells[i]? = some (.rsl id sz 0 n)) (hid:lookO id heap=some (.row t sz n' f)) (hn:n≤n') (hne:Nat.beq b id=false)
  (hset:setO b (.box (cells.set i (.d (.sl sz n f))) tag) (dropH [id] heap)=some heap') (h:AGo C c Q env heap'):AGo C c Q env heap:=by
 refine ⟨fun L a w H=>?_⟩
 have hnb:b≠id:=fun e=>by subst e;simp [Nat.beq_refl] at hne
 have hsub:∀i o,lko (dropH [id] heap) i=some o→lko heap i=some o:=by
  intro i o e
  have e:lookO i (dropH [id] heap)=some o:=e
  rw [lookO_dropH] at e
  exact (dropped_some e).1
 have hd:=H.drop hsub
 have hobj:lko (dropH [id] heap) b=some (.box cells tag):=by
  show lookO b (dropH [id] heap)=_
  rw [lookO_dropH]
  have hm:memN b [id]=false:=by simp [memN,beq_false (show id≠b from fun e=>hnb e.symm)]
  rw [hm]
  exact hb
 refine h.out L a w ?_
 have hgood:∀b',good C L (lko (dropH [id] heap)) w b'→good C L (lko heap') w b':=by
  intro b' hgb
  refine ⟨hgb.1,hgb.2.1,?_⟩
  rintro ⟨j,oj,h1,h2⟩
  rw [lko_set hset] at h1
  unfold hput at h1
  by_cases hjb:j=b
  ·exact hgb.2.2 ⟨b,.box cells tag,hobj,by rw [←hjb];exact h2⟩
  ·rw [if_neg hjb] at h1
   exact hgb.2.2 ⟨j,oj,h1,h2⟩
 have hlook:∀j oj,lko heap' j=some oj→(j=b∧oj=.box (cells.set i (.d (.sl sz n f))) tag)∨lko (dropH [id] heap) j=some oj:=by
  intro j oj hj
  rw [lko_set hset] at hj
  unfold hput at hj
  by_cases h2:j=b
  ·left;rw [if_pos h2] at hj;exact ⟨h2,(Option.some.inj hj).symm⟩
  ·right;rw [if_neg h2] at hj;exact hj
 have hsome:∀j oj,lko heap' j=some oj→∃o',lko (dropH [id] heap) j=some o':=by
  intro j oj hj
  rcases hlook j oj hj with ⟨rfl,_⟩|h
  ·exact ⟨_,hobj⟩
  ·exact ⟨_,h⟩
 have hview:∀v,RepA w L (good C L (lko (dropH [id] heap)) w) (.rsl id sz 0 n) v→RepA w L (good C L (lko (dropH [id] heap)) w) (.d (.sl sz n f)) v:=by
  intro v hv
  obtain ⟨y,h1,h2,h3⟩:=viewK_ok (gd:=good C L (lko (dropH [id] heap)) w) (gd':=good C L (lko (dropH [id] heap)) w) (h:=restrictH [id] (lko heap)) L (fun i ob e=>by
    refine (H.obj i ob (restrictH_some e)).mono (Nat.le_refl _) (fun b _ hb=>⟨⟨hb.1,hb.2.1,fun ⟨i,o,h1,h2⟩=>hb.2.2 ⟨i,o,hsub i o h1,h2⟩⟩,rfl⟩) (fun _ _=>rfl) (fun b _ hb=>⟨hb,rfl⟩) (fun _=>true) (fun _ _=>⟨rfl,rfl⟩) rfl (fun _ h=>by cases h)) (fun b hb=>hb) (fun i ob b h1 h2=>by
    have h1':=restrictH_some h1
    have h3:=H.own0 i ob b h1' h2
    refine ⟨⟨h3.2,.inr h3.1,fun ⟨j,o,k1,k2⟩=>?_⟩,h3.2⟩
    have hi:=H.inj j i o ob b (hsub j o k1) h1' k2 h2
    subst hi
    have k1:lookO j (dropH [id] heap)=some o:=k1
    rw [lookO_dropH] at k1
    unfold restrictH at h1
    cases hm:memN j [id] with
    |true=>rw [hm] at k1;simp at k1
    |false=>rw [hm] at h1;cases h1) (.rsl id sz 0 n) (fun y=>y=.d (.sl sz n f)) v (by
     have hr:restrictH [id] (lko heap) id=some (.row t sz n' f):=by
      unfold restrictH
      rw [show memN id [id]=true from by simp [memN,Nat.beq_refl]]
      exact hid
     simp only [viewK,hr,Nat.beq_refl]
     exact ⟨by omega,trivial⟩) hv
  rw [h1] at h3
  exact h3
 exact { hd with
  slot:=fun x=>(hd.slot x).mono1 (Nat.le_refl _) (fun b' _ hb'=>⟨hgood b' hb',rfl⟩) (fun _ _=>rfl)
  obj:=fun j oj hj=>by
   have mono:∀{o},RepO w (good C L (lko (dropH [id] heap)) w) L j o→RepO w (good C L (lko heap') w) L j o:=fun h=>
    h.mono (Nat.le_refl _) (fun b' _ hb'=>⟨hgood b' hb',rfl⟩) (fun _ _=>rfl) (fun b _ hb=>⟨hb,rfl⟩) (fun _=>true) (fun _ _=>⟨rfl,rfl⟩) rfl (fun _ h=>by cases h)
   rcases hlook j oj hj with ⟨rfl,rfl⟩|h
   ·have hro:=hd.obj _ _ hobj
    refine mono ?_
    cases hro with
    |box htag hbk hheap hz h1 hr=>
     refine .box htag hbk hheap (by simpa using hz) (fun q hq=>h1 q (by simpa using hq)) (fun q y hy=>?_)
     rw [List.getElem?_set] at hy
     split at hy
     ·rename_i e
      subst e
      split at hy
      ·cases hy
       exact hview _ (hr i _ hs)
      ·cases hy
     ·exact hr q y hy
   ·exact mono (hd.obj j oj h)
  inj:=fun x y ox oy b' h1 h2=>by
   obtain ⟨o1,e1⟩:=hsome x ox h1
   obtain ⟨o2,e2⟩:=hsome y oy h2
   exact hd.inj x y o1 o2 b' e1 e2
  own0:=fun x ox b' h1=>by
   obtain ⟨o1,e1⟩:=hsome x ox h1
   exact hd.own0 x o1 b' e1
  kept:=fun x ox hl' h1=>by
   obtain ⟨o1,e1⟩:=hsome x ox h1
   exact hd.kept x o1 hl' e1}
end
theorem PSpec.runS {P : Program} {T : Tys} {f : FuncId} {fn : Func} {c : Code} {args : List AVal} {post : AVal → Prop} (hT : TysOk P T) (hM : P.follows .mixedOrders = true) (hf : P.funcs[f]? = some fn) (hname : (fn.name == "runtime.NumGoroutine") = false) (hb : fn.body = some c) {nt : Nat} (hn : fn.ntmps = nt) (ha : args.length ≤ nt)
  {rs:List ResultVar} (hrs:fn.results.toList=rs) (h:∀w0 R0 hG,ARunS ⟨P,nt,w0,R0,[],L0 0,hG⟩ T c (fun e env heap=>match e with|.normal=>resK T (fun t=>look t env) (fun i=>lookO i heap) (postL fun r=>∃r',r.le r'∧post r'∧r'.data=true) rs|.ret=>resK T (fun t=>look t env) (fun i=>lookO i heap) (postL fun r=>∃r',r.le r'∧post r'∧r'.data=true) rs|_=>False) (argEnv 0 args) []) :
  PSpec P f args post:=by
 refine (PSpec.intro hT hf hname hb hn ha hrs fun w0 R0 hG=>ARunS_ok (C:=⟨P,nt,w0,R0,[],L0 0,hG⟩) hT hM (h w0 R0 hG)).weaken (fun r ⟨⟨r',h1,h2,h3⟩,_⟩ hd=>⟨r',h1,h2,h3⟩) ?_
 rintro t sz n g ⟨_,h3⟩
 cases h3
def rensV:List (Nat×Nat)→AVal→AVal
 | [],x=>x
 |(p,q)::r,x=>rensV r (x.ren p q)
def rensH:List (Nat×Nat)→Heap→Heap
 | [],h=>h
 |(p,q)::r,h=>rensH r (renH p q h)
def rensOk (K:List Nat):List (Nat×Nat)→Heap→Bool
 | [],_=>true
 |(p,q)::r,h=>match memN q K with
  |true=>false
  |false=>match memN q (keysH h) with
   |true=>false
   |false=>rensOk K r (renH p q h)
section
variable {w w' : World} {R : Nat → Prop} {L L' : Lay} {hl h0 : Heap}
theorem lookO_ren_some {p q id:Nat} {o:AObj} (h:lookO id (renH p q h0)=some o):∃o',lookO (sw p q id) h0=some o'∧o=o'.ren p q:=by
 rw [lookO_renH] at h
 obtain ⟨o',h1,h2⟩:=Option.map_eq_some_iff.1 h
 exact ⟨o',h1,h2.symm⟩
theorem owned_ren {p q b:Nat}:owned (L'.ren p q) (lko (renH p q h0)) b↔owned L' (lko h0) b:=by
 constructor
 ·rintro ⟨id,o,h1,h2⟩
  obtain ⟨o',h3,_⟩:=lookO_ren_some h1
  exact ⟨_,o',h3,h2⟩
 ·rintro ⟨id,o,h1,h2⟩
  refine ⟨sw p q id,o.ren p q,?_,by simpa only [Lay.ren,sw_sw] using h2⟩
  show lookO _ _=_
  have h1:lookO id h0=some o:=h1
  rw [lookO_renH,sw_sw,h1];rfl
theorem lgood_ren {p q b:Nat}:lgood w w' R L hl (L'.ren p q) (renH p q h0) b↔lgood w w' R L hl L' h0 b:=by
 unfold lgood
 rw [owned_ren]
theorem LPost.ren {p q:Nat} (hq1:memN q (keysH hl)=false) (hq2:memN q (keysH h0)=false) (h:LPost w w' R L hl L' h0):LPost w w' R L hl (L'.ren p q) (renH p q h0) where
 below:=h.below
 obj id o ho:=by
  obtain ⟨o',h1,rfl⟩:=lookO_ren_some ho
  have:=(h.obj _ o' h1).ren p q
  rw [sw_sw] at this
  exact this.mono (Nat.le_refl _) (fun b hlt hb=>⟨lgood_ren.2 hb,rfl⟩) (fun b _=>rfl) (fun b _ hb=>⟨hb,rfl⟩) (fun _=>true) (fun id _=>⟨rfl,rfl⟩) rfl (fun id h=>by cases h)
 inj i j oi oj b h1 h2 h3 h4:=by
  obtain ⟨o1,k1,_⟩:=lookO_ren_some h1
  obtain ⟨o2,k2,_⟩:=lookO_ren_some h2
  have:=h.inj _ _ _ _ b k1 k2 h3 h4
  rw [←sw_sw p q i,this,sw_sw]
 own id o b h1 h2:=by
  obtain ⟨o1,k1,_⟩:=lookO_ren_some h1
  exact h.own _ _ b k1 h2
 kept id o o' h1 h2:=by
  obtain ⟨o1,k1,_⟩:=lookO_ren_some h2
  have hnq:id≠q:=fun e=>not_memN hq1 (keysH_ok.2 ⟨o,e▸h1⟩)
  have hnp:id≠p:=fun e=>by
   subst e
   rw [sw_eq,if_pos rfl] at k1
   exact not_memN hq2 (keysH_ok.2 ⟨o1,k1⟩)
  have e:sw p q id=id:=by rw [sw_eq,if_neg hnp,if_neg hnq]
  rw [e] at k1
  simp only [Lay.ren,e]
  exact h.kept id o o1 h1 k1
theorem LPost.rens:∀(ps:List (Nat×Nat)) {L':Lay} {h0:Heap} {r:AVal} {v:Value},rensOk (keysH hl) ps h0=true→LPost w w' R L hl L' h0→RepA w' L' (lgood w w' R L hl L' h0) r v→∃L'',LPost w w' R L hl L'' (rensH ps h0)∧RepA w' L'' (lgood w w' R L hl L'' (rensH ps h0)) (rensV ps r) v
 | [],L',_,_,_,_,h,hr=>⟨L',h,hr⟩
 |(p,q)::ps,L',h0,r,v,ok,h,hr=>by
  unfold rensOk at ok
  split at ok
  ·cases ok
  ·rename_i g1
   split at ok
   ·cases ok
   ·rename_i g2
    refine LPost.rens ps (r:=r.ren p q) ok (h.ren g1 g2) ?_
    exact (hr.ren p q).mono (Nat.le_refl _) (fun _=>true) (fun id _=>⟨rfl,rfl⟩) (fun b hlt hb=>⟨hb,rfl⟩) (fun b hlt hb=>⟨lgood_ren.2 hb,rfl⟩) (fun id h=>by cases h)
theorem LPost.weaken {h1:Heap} (h:LPost w w' R L hl L' h0) (hc:CovH h0 h1):LPost w w' R L hl L' h1∧∀b,lgood w w' R L hl L' h0 b→lgood w w' R L hl L' h1 b:=by
 have hcov:=CovH_ok hc
 have hlg:∀b,lgood w w' R L hl L' h0 b→lgood w w' R L hl L' h1 b:=fun b hb=>⟨hb.1,hb.2.1,fun ⟨i,o,q1,q2⟩=>by
  obtain ⟨o',q3,_⟩:=hcov i o q1
  exact hb.2.2 ⟨i,o',q3,q2⟩⟩
 refine ⟨⟨h.below,fun id o ho=>?_,fun i j oi oj b k1 k2 k3 k4=>?_,fun id o b k1 k2=>?_,fun id o o' k1 k2=>?_⟩,hlg⟩
 ·obtain ⟨o',q1,q2⟩:=hcov id o ho
  exact ((h.obj id o' q1).weaken q2).mono (Nat.le_refl _) (fun b _ hb=>⟨hlg b hb,rfl⟩) (fun _ _=>rfl) (fun b _ hb=>⟨hb,rfl⟩) (fun _=>true) (fun _ _=>⟨rfl,rfl⟩) rfl (fun _ h=>by cases h)
 ·obtain ⟨o1,q1,_⟩:=hcov _ _ k1
  obtain ⟨o2,q2,_⟩:=hcov _ _ k2
  exact h.inj _ _ _ _ b q1 q2 k3 k4
 ·obtain ⟨o1,q1,_⟩:=hcov _ _ k1
  exact h.own _ _ b q1 k2
 ·obtain ⟨o1,q1,_⟩:=hcov _ _ k2
  exact h.kept id o o1 k1 q1
end
def HLe:Heap→Heap→Prop
 | [],[]=>True
 |(i,o)::r,(j,o')::s=>i=j∧OLe o o'∧HLe r s
 |_,_=>False
theorem HLe.get:∀{h h':Heap},HLe h h'→∀i,(∀o,lookO i h=some o→∃o',lookO i h'=some o'∧OLe o o')∧(∀o',lookO i h'=some o'→∃o,lookO i h=some o∧OLe o o')
 | [],[],_,i=>⟨fun o h=>by simp [lookO] at h,fun o h=>by simp [lookO] at h⟩
 |(j,o)::r,(k,o')::s,h,i=>by
  obtain ⟨rfl,h2,h3⟩:=h
  rw [lookO_cons,lookO_cons]
  by_cases e:i=j
  ·rw [if_pos e,if_pos e]
   exact ⟨fun a h=>⟨o',rfl,by cases h;exact h2⟩,fun a h=>⟨o,rfl,by cases h;exact h2⟩⟩
  ·rw [if_neg e,if_neg e]
   exact HLe.get h3 i
 | [],_::_,h,_=>h.elim
 |_::_,[],h,_=>h.elim
theorem LSpec.heapC {P:Program} {f:FuncId} {args:List AVal} {hl h':Heap} {post:AVal→Heap→Prop} (h:LSpec P f args hl post) (hc:HLe h' hl):LSpec P f args h' post:=by
 have hg:=fun i=>HLe.get hc i
 have e:∀L,owned L (lko h')=owned L (lko hl):=fun L=>funext fun b=>propext
  ⟨fun ⟨id,x,k1,k2⟩=>by obtain ⟨o',q,_⟩:=(hg id).1 x k1;exact ⟨id,o',q,k2⟩,fun ⟨id,x,k1,k2⟩=>by obtain ⟨o',q,_⟩:=(hg id).2 x k1;exact ⟨id,o',q,k2⟩⟩
 refine ⟨h.1,fun w R L vs k0 k1 k2 k3 k4 k5 k6 k7=>?_⟩
 refine (h.2 w R L vs k0 k1 k2 (fun b=>by rw [k3 b,e]) k4 (fun id x hx=>?_) (fun a b oa ob bb ha hb=>?_) (fun id x b hx=>?_)).mono ?_
 ·obtain ⟨o,q1,q2⟩:=(hg id).2 x hx
  exact (k5 _ _ q1).weaken q2
 ·obtain ⟨o,q1,_⟩:=(hg a).2 _ ha
  obtain ⟨o2,q2,_⟩:=(hg b).2 _ hb
  exact k6 _ _ _ _ bb q1 q2
 ·obtain ⟨o,q1,_⟩:=(hg id).2 x hx
  exact k7 _ _ b q1
 ·rintro e' w' ⟨v,r,hl',L',m1,m2,m3,m4⟩
  refine ⟨v,r,hl',L',m1,m2,⟨?_,?_,m3.inj,?_,?_⟩,?_⟩
  ·rw [e];exact m3.below
  ·have:=m3.obj
   unfold lgood at this ⊢
   rw [e];exact this
  ·have:=m3.own
   rw [e];exact this
  ·intro id x x' hx hx'
   obtain ⟨o,q1,_⟩:=(hg id).1 x hx
   exact m3.kept _ _ _ q1 hx'
  ·unfold lgood at m4 ⊢
   rw [e];exact m4
def notArr:TyK→Bool
 |.array _ _=>false
 |_=>true
def PostR (K:List Nat) (post:AVal→Heap→Prop) (r0:AVal) (h0:Heap):Prop:=∃ps,rensOk K ps h0=true∧∃r' hl',(rensV ps r0).le r'∧CovH (rensH ps h0) hl'∧post r' hl'
theorem LSpec.rens {P:Program} {f:FuncId} {args:List AVal} {hl:Heap} {post:AVal→Heap→Prop} (h:LSpec P f args hl (PostR (keysH hl) post)):LSpec P f args hl post:=
 ⟨h.1,fun w R L vs k0 k1 k2 k3 k4 k5 k6 k7=>(h.2 w R L vs k0 k1 k2 k3 k4 k5 k6 k7).mono fun e w' ⟨v,r,h0,L',m1,⟨ps,m2,r',hl',m3,m4,m5⟩,m6,m7⟩=>by
  obtain ⟨L'',n1,n2⟩:=LPost.rens ps m2 m6 m7
  obtain ⟨n3,n4⟩:=n1.weaken m4
  exact ⟨v,r',hl',L'',m1,m5,n3,(m3.out _ _ _ _ n2).mono1 (Nat.le_refl _) (fun b _ hb=>⟨n4 b hb,rfl⟩) (fun _ _=>rfl)⟩⟩
def nodupK:Heap→Bool
 | []=>true
 |(i,_)::r=>match memN i (keysH r) with
  |true=>false
  |false=>nodupK r
theorem CovH_self {heap:Heap}:∀{e:Heap},(∀t o,lookO t e=some o→lookO t heap=some o)→nodupK e=true→CovH heap e
 | [],_,_=>trivial
 |(t,o)::r,h,hn=>by
  unfold nodupK at hn
  split at hn
  ·cases hn
  ·rename_i g
   refine ⟨?_,CovH_self (fun t' o' h'=>h t' o' ?_) hn⟩
   ·rw [h t o (by rw [lookO_cons,if_pos rfl])]
    exact OLe.refl o
   ·have hne:t'≠t:=fun e=>by
     subst e
     exact not_memN g (keysH_ok.2 ⟨o',h'⟩)
    rw [lookO_cons,if_neg hne]
    exact h'
theorem finR {heap:Heap} {K:List Nat} {post:AVal→Heap→Prop} {r r':AVal} {hl':Heap} (ps:List (Nat×Nat)) (hn:nodupK heap=true) (ok:rensOk K ps heap=true) (h1:(rensV ps r).le r') (h2:CovH (rensH ps heap) hl') (hp:post r' hl'):finL heap (PostR K post) r:=
 ⟨r,heap,.refl _,CovH_self (fun _ _ h=>h) hn,ps,ok,r',hl',h1,h2,hp⟩
section
variable {C : Ctx}
theorem Rel.renL {L:Lay} {env:Env} {heap:Heap} {a:Act} {w:World} (p q:Nat) (hq:q∉C.lid) (hq2:lookO q heap=none) (H:Rel C L (lk env) (lko heap) a w):Rel C (L.ren p q) (lk (renE p q env)) (lko (renH p q heap)) a w:=by
 have ho:∀id o,lko (renH p q heap) id=some o→∃o',lko heap (sw p q id)=some o'∧o=o'.ren p q:=fun id o h=>lookO_ren_some h
 have ho2:∀id o,lko heap id=some o→lko (renH p q heap) (sw p q id)=some (o.ren p q):=by
  intro id o h
  have h:lookO id heap=some o:=h
  show lookO _ _=_
  rw [lookO_renH,sw_sw,h];rfl
 have hg:∀b,good C L (lko heap) w b→good C (L.ren p q) (lko (renH p q heap)) w b:=by
  intro b hb
  refine ⟨hb.1,hb.2.1,fun ⟨id,o,h1,h2⟩=>hb.2.2 ?_⟩
  obtain ⟨o',h3,_⟩:=ho id o h1
  exact ⟨sw p q id,o',h3,h2⟩
 have hmono:∀{x v},RepA w (L.ren p q) (good C L (lko heap) w) x v→RepA w (L.ren p q) (good C (L.ren p q) (lko (renH p q heap)) w) x v:=
  fun h=>h.mono (Nat.le_refl _) (fun _=>true) (fun id _=>⟨rfl,rfl⟩) (fun b hlt hb=>⟨hb,rfl⟩) (fun b hlt hb=>⟨hg b hb,rfl⟩) (fun id h=>by cases h)
 exact {
  below:=H.below
  top:=H.top
  size:=H.size
  defers:=H.defers
  slot:=fun t=>by
   show RepA _ _ _ (look t (renE p q env)) _
   rw [look_renE]
   exact hmono ((H.slot t).ren p q)
  obj:=fun id o h=>by
   obtain ⟨o',h1,rfl⟩:=ho id o h
   have:=((H.obj _ o' h1).ren p q)
   rw [sw_sw] at this
   exact this.mono (Nat.le_refl _) (fun b hlt hb=>⟨hg b hb,rfl⟩) (fun b _=>rfl) (fun b _ hb=>⟨hb,rfl⟩) (fun _=>true) (fun id _=>⟨rfl,rfl⟩) rfl (fun id h=>by cases h)
  inj:=fun i j oi oj b h1 h2 h3 h4=>by
   obtain ⟨o1,k1,_⟩:=ho i oi h1
   obtain ⟨o2,k2,_⟩:=ho j oj h2
   have:=H.inj _ _ _ _ b k1 k2 h3 h4
   rw [←sw_sw p q i,this,sw_sw]
  own0:=fun id o b h1 h2=>by
   obtain ⟨o1,k1,_⟩:=ho id o h1
   exact H.own0 _ _ b k1 h2
  kept:=fun id o hl h1=>by
   obtain ⟨o1,k1,_⟩:=ho id o h1
   have h2:id≠q:=fun e=>hq (e▸hl)
   have h1:id≠p:=fun e=>by
    subst e
    rw [sw_eq,if_pos rfl] at k1
    have k1:lookO q heap=some o1:=k1
    rw [hq2] at k1;cases k1
   have e:sw p q id=id:=by rw [sw_eq,if_neg h1,if_neg h2]
   simp only [Lay.ren,e]
   rw [e] at k1
   exact H.kept id o1 hl k1
  lidn:=H.lidn}
def rensE:List (Nat×Nat)→Env→Env
 | [],e=>e
 |(p,q)::r,e=>rensE r (renE p q e)
theorem Rel.rensL {a:Act} {w:World}:∀(ps:List (Nat×Nat)) {L:Lay} {env:Env} {heap:Heap},rensOk C.lid ps heap=true→Rel C L (lk env) (lko heap) a w→∃L',Rel C L' (lk (rensE ps env)) (lko (rensH ps heap)) a w
 | [],L,_,_,_,H=>⟨L,H⟩
 |(p,q)::r,L,env,heap,ok,H=>by
  unfold rensOk at ok
  split at ok
  ·cases ok
  ·rename_i g1
   split at ok
   ·cases ok
   ·rename_i g2
    refine Rel.rensL r ok (H.renL p q (not_memN g1) ?_)
    cases h:lookO q heap with
    |none=>rfl
    |some o=>exact (not_memN g2 (keysH_ok.2 ⟨o,h⟩)).elim
theorem ALoop.rensL {c:Code} {Q:Exit→Env→Heap→Prop} {env:Env} {heap:Heap} (ps:List (Nat×Nat)) (ok:rensOk C.lid ps heap=true) (h:deepH (fun hp=>ALoop C c Q (rensE ps env) hp) (rensH ps heap)):ALoop C c Q env heap:=
 ⟨fun L a w H=>by
  obtain ⟨L2,h5⟩:=H.rensL ps ok
  exact (deepH_eq h).out L2 a w h5⟩
end
theorem LSpec.runN {P : Program} {T : Tys} {f : FuncId} {fn : Func} {c : Code} {args : List AVal} {hl : Heap} {post : AVal → Heap → Prop} (ps : List (Nat × Nat)) {h2 : Heap} (hT : TysOk P T) (hM : P.follows .mixedOrders = true) (hf : P.funcs[f]? = some fn) (hname : (fn.name == "runtime.NumGoroutine") = false) (hb : fn.body = some c) {nt : Nat} (hn : fn.ntmps = nt) (ha : args.length ≤ nt)
  (hid:idsOk nt (keysH hl)=true) (ok:rensOk (keysH hl) ps hl=true) (he:rensE ps (argEnv 0 args)=argEnv 0 args) (hh:rensH ps hl=h2) {rs:List ResultVar} (hrs:fn.results.toList=rs)
  (h:∀w0 R0 Lo hG,ARun ⟨P,nt,w0,R0,keysH hl,Lo,hG⟩ T c (fun e env heap=>match e with|.normal=>resL T (fun t=>look t env) (fun i=>lookO i heap) (postL (finL heap post)) rs|.ret=>resL T (fun t=>look t env) (fun i=>lookO i heap) (postL (finL heap post)) rs|_=>False) (argEnv 0 args) h2) :
  LSpec P f args hl post:=
 LSpec.introW hT hM hf hname hb hn ha hid hrs fun w0 R0 Lo hG L a w H=>by
  obtain ⟨L2,h5⟩:=H.rensL ps ok
  rw [he,hh] at h5
  exact ARun_ok (C:=⟨P,nt,w0,R0,keysH hl,Lo,hG⟩) hT hM (h w0 R0 Lo hG) L2 a w h5
theorem LSpec.runNS {P : Program} {T : Tys} {f : FuncId} {fn : Func} {c : Code} {args : List AVal} {hl : Heap} {post : AVal → Heap → Prop} (ps : List (Nat × Nat)) {h2 : Heap} (hT : TysOk P T) (hM : P.follows .mixedOrders = true) (hf : P.funcs[f]? = some fn) (hname : (fn.name == "runtime.NumGoroutine") = false) (hb : fn.body = some c) {nt : Nat} (hn : fn.ntmps = nt) (ha : args.length ≤ nt)
  (hid:idsOk nt (keysH hl)=true) (ok:rensOk (keysH hl) ps hl=true) (he:rensE ps (argEnv 0 args)=argEnv 0 args) (hh:rensH ps hl=h2) {rs:List ResultVar} (hrs:fn.results.toList=rs)
  (h:∀w0 R0 Lo hG,ARunS ⟨P,nt,w0,R0,keysH hl,Lo,hG⟩ T c (fun e env heap=>match e with|.normal=>resL T (fun t=>look t env) (fun i=>lookO i heap) (postL (finL heap post)) rs|.ret=>resL T (fun t=>look t env) (fun i=>lookO i heap) (postL (finL heap post)) rs|_=>False) (argEnv 0 args) h2) :
  LSpec P f args hl post:=
 LSpec.introW hT hM hf hname hb hn ha hid hrs fun w0 R0 Lo hG L a w H=>by
  obtain ⟨L2,h5⟩:=H.rensL ps ok
  rw [he,hh] at h5
  exact ARunS_ok (C:=⟨P,nt,w0,R0,keysH hl,Lo,hG⟩) hT hM (h w0 R0 Lo hG) L2 a w h5
theorem Rel.adoptCell {C:Ctx} {L:Lay} {a:Act} {w:World} {env:Env} {heap heap':Heap} (b i id sz:Nat) (t:TypeId) (f:Nat→List D) {cells:List AVal} {tag:Option TypeId} (hb:lookO b heap=some (.box cells tag)) (hs:cells[i]? = some (.d (.v (.slice none 0 0)))) (he:freeEnv id env=true) (hh:freeHeap id heap=true)
  (hset:setO b (.box (cells.set i (.rsl id sz 0 0)) tag) heap=some heap') (hl:memN id C.lid=false) (H:Rel C L (lk env) (lko heap) a w):∃L',Rel C L' (lk env) (lko ((id,.row t sz 0 f)::heap')) a w:=by
 have hfree:=freeHeap_look hh
 have hne:b≠id:=(hfree b _ hb).1
 have hnew:=H.new (not_memN hl) (freeEnv_look he) hfree (Below.refl _ w) none 0 (fun b h=>by cases h) (o:=.row t sz 0 f) (.row0 (by simp [Lay.upd]) (by simp [Lay.upd]))
 refine ⟨L.upd id none 0,?_⟩
 have hobj:hput (lko heap) id (.row t sz 0 f) b=some (.box cells tag):=by unfold hput;rw [if_neg hne];exact hb
 have hgood:∀b',good C (L.upd id none 0) (hput (lko heap) id (.row t sz 0 f)) w b'→good C (L.upd id none 0) (lko ((id,.row t sz 0 f)::heap')) w b':=by
  intro b' hgb
  refine ⟨hgb.1,hgb.2.1,?_⟩
  rintro ⟨j,oj,h1,h2⟩
  rw [lko_cons,lko_set hset] at h1
  unfold hput at h1
  by_cases hj:j=id
  ·exact hgb.2.2 ⟨j,.row t sz 0 f,by unfold hput;rw [if_pos hj],h2⟩
  ·rw [if_neg hj] at h1
   by_cases hjb:j=b
   ·exact hgb.2.2 ⟨b,.box cells tag,hobj,by rw [←hjb];exact h2⟩
   ·rw [if_neg hjb] at h1
    exact hgb.2.2 ⟨j,oj,by unfold hput;rw [if_neg hj];exact h1,h2⟩
 have hlook:∀j oj,lko ((id,.row t sz 0 f)::heap') j=some oj→(j=b∧oj=.box (cells.set i (.rsl id sz 0 0)) tag)∨hput (lko heap) id (.row t sz 0 f) j=some oj:=by
  intro j oj hj
  rw [lko_cons,lko_set hset] at hj
  unfold hput at hj ⊢
  by_cases h1:j=id
  ·right;rw [if_pos h1] at hj ⊢;exact hj
  ·rw [if_neg h1] at hj ⊢
   by_cases h2:j=b
   ·left;rw [if_pos h2] at hj;exact ⟨h2,(Option.some.inj hj).symm⟩
   ·right;rw [if_neg h2] at hj;exact hj
 have hsome:∀j oj,lko ((id,.row t sz 0 f)::heap') j=some oj→∃o',hput (lko heap) id (.row t sz 0 f) j=some o':=by
  intro j oj hj
  rcases hlook j oj hj with ⟨rfl,_⟩|h
  ·exact ⟨_,hobj⟩
  ·exact ⟨_,h⟩
 exact { hnew with
  slot:=fun x=>(hnew.slot x).mono1 (Nat.le_refl _) (fun b' _ hb'=>⟨hgood b' hb',rfl⟩) (fun _ _=>rfl)
  obj:=fun j oj hj=>by
   have mono:∀{o},RepO w (good C (L.upd id none 0) (hput (lko heap) id (.row t sz 0 f)) w) (L.upd id none 0) j o→RepO w (good C (L.upd id none 0) (lko ((id,.row t sz 0 f)::heap')) w) (L.upd id none 0) j o:=fun h=>
    h.mono (Nat.le_refl _) (fun b' _ hb'=>⟨hgood b' hb',rfl⟩) (fun _ _=>rfl) (fun b _ hb=>⟨hb,rfl⟩) (fun _=>true) (fun _ _=>⟨rfl,rfl⟩) rfl (fun _ h=>by cases h)
   rcases hlook j oj hj with ⟨rfl,rfl⟩|h
   ·have hro:=hnew.obj _ _ hobj
    refine mono ?_
    cases hro with
    |box htag hbk hheap hz h1 hr=>
     refine .box htag hbk hheap (by simpa using hz) (fun q hq=>h1 q (by simpa using hq)) (fun q y hy=>?_)
     rw [List.getElem?_set] at hy
     split at hy
     ·rename_i e
      subst e
      split at hy
      ·cases hy
       have hv:=hr i _ hs
       rw [repA_v hv]
       have:RepA w (L.upd id none 0) (good C (L.upd id none 0) (hput (lko heap) id (.row t sz 0 f)) w) (.rsl id sz 0 0) (.slice (((L.upd id none 0).blk id).map fun b=>⟨b,0*sz,none⟩) 0 ((L.upd id none 0).cap id-0)):=.rsl (by simp [Lay.upd]) (fun h=>by omega) (fun _=>rfl)
       simpa [Lay.upd] using this
      ·cases hy
     ·exact hr q y hy
   ·exact mono (hnew.obj j oj h)
  inj:=fun x y ox oy b' h1 h2=>by
   obtain ⟨o1,e1⟩:=hsome x ox h1
   obtain ⟨o2,e2⟩:=hsome y oy h2
   exact hnew.inj x y o1 o2 b' e1 e2
  own0:=fun x ox b' h1=>by
   obtain ⟨o1,e1⟩:=hsome x ox h1
   exact hnew.own0 x o1 b' e1
  kept:=fun x ox hl' h1=>by
   obtain ⟨o1,e1⟩:=hsome x ox h1
   exact hnew.kept x o1 hl' e1}
structure AEnd (C:Ctx) (Q:Env→Heap→Prop) (env:Env) (heap:Heap):Prop where
 out:∀L a w,Rel C L (lk env) (lko heap) a w→∃L' env' heap',Rel C L' (lk env') (lko heap') a w∧Q env' heap'
theorem AEnd.done {C:Ctx} {Q:Env→Heap→Prop} {env:Env} {heap:Heap} (h:Q env heap):AEnd C Q env heap:=⟨fun L a w H=>⟨L,env,heap,H,h⟩⟩
theorem AEnd.adoptCell {C:Ctx} {Q:Env→Heap→Prop} {env:Env} {heap heap':Heap} (b i id sz:Nat) (t:TypeId) (f:Nat→List D) {cells:List AVal} {tag:Option TypeId} (hb:lookO b heap=some (.box cells tag)) (hs:cells[i]? = some (.d (.v (.slice none 0 0)))) (he:freeEnv id env=true) (hh:freeHeap id heap=true)
  (hset:setO b (.box (cells.set i (.rsl id sz 0 0)) tag) heap=some heap') (h:AEnd C Q env ((id,.row t sz 0 f)::heap')) (hl:memN id C.lid=false:=by rfl):AEnd C Q env heap:=
 ⟨fun L a w H=>by
  obtain ⟨L2,H2⟩:=Rel.adoptCell b i id sz t f hb hs he hh hset hl H
  exact h.out L2 a w H2⟩
theorem AEnd.rensL {C:Ctx} {Q:Env→Heap→Prop} {env:Env} {heap:Heap} (ps:List (Nat×Nat)) (ok:rensOk C.lid ps heap=true) (h:AEnd C Q (rensE ps env) (rensH ps heap)):AEnd C Q env heap:=
 ⟨fun L a w H=>by
  obtain ⟨L2,H2⟩:=H.rensL ps ok
  exact h.out L2 a w H2⟩
theorem AWp.endK {C:Ctx} {c:Code} {Q:Exit→Env→Heap→Prop} {env:Env} {heap:Heap} (h:AWp C c (fun e env heap=>AEnd C (Q e) env heap) env heap):AWp C c Q env heap:=
 fun L a w hr=>wp_mono (h L a w hr) fun e a w ⟨L',env',heap',h1,h2⟩=>h2.out L' a w h1
theorem LSpec.runE {P : Program} {T : Tys} {f : FuncId} {fn : Func} {c : Code} {args : List AVal} {hl : Heap} {post : AVal → Heap → Prop} (ps : List (Nat × Nat)) {h2 : Heap} (hT : TysOk P T) (hM : P.follows .mixedOrders = true) (hf : P.funcs[f]? = some fn) (hname : (fn.name == "runtime.NumGoroutine") = false) (hb : fn.body = some c) {nt : Nat} (hn : fn.ntmps = nt) (ha : args.length ≤ nt)
  (hid:idsOk nt (keysH hl)=true) (ok:rensOk (keysH hl) ps hl=true) (he:rensE ps (argEnv 0 args)=argEnv 0 args) (hh:rensH ps hl=h2) {rs:List ResultVar} (hrs:fn.results.toList=rs)
  (h:∀w0 R0 Lo hG,ARun ⟨P,nt,w0,R0,keysH hl,Lo,hG⟩ T c (fun e env heap=>AEnd ⟨P,nt,w0,R0,keysH hl,Lo,hG⟩ (fun env heap=>match e with|.normal=>resL T (fun t=>look t env) (fun i=>lookO i heap) (postL (finL heap post)) rs|.ret=>resL T (fun t=>look t env) (fun i=>lookO i heap) (postL (finL heap post)) rs|_=>False) env heap) (argEnv 0 args) h2) :
  LSpec P f args hl post:=
 LSpec.introW hT hM hf hname hb hn ha hid hrs fun w0 R0 Lo hG L a w H=>by
  obtain ⟨L2,h5⟩:=H.rensL ps ok
  rw [he,hh] at h5
  exact AWp.endK (C:=⟨P,nt,w0,R0,keysH hl,Lo,hG⟩) (ARun_ok (C:=⟨P,nt,w0,R0,keysH hl,Lo,hG⟩) hT hM (h w0 R0 Lo hG)) L2 a w h5
theorem LSpec.runES {P : Program} {T : Tys} {f : FuncId} {fn : Func} {c : Code} {args : List AVal} {hl : Heap} {post : AVal → Heap → Prop} (ps : List (Nat × Nat)) {h2 : Heap} (hT : TysOk P T) (hM : P.follows .mixedOrders = true) (hf : P.funcs[f]? = some fn) (hname : (fn.name == "runtime.NumGoroutine") = false) (hb : fn.body = some c) {nt : Nat} (hn : fn.ntmps = nt) (ha : args.length ≤ nt)
  (hid:idsOk nt (keysH hl)=true) (ok:rensOk (keysH hl) ps hl=true) (he:rensE ps (argEnv 0 args)=argEnv 0 args) (hh:rensH ps hl=h2) {rs:List ResultVar} (hrs:fn.results.toList=rs)
  (h:∀w0 R0 Lo hG,ARunS ⟨P,nt,w0,R0,keysH hl,Lo,hG⟩ T c (fun e env heap=>AEnd ⟨P,nt,w0,R0,keysH hl,Lo,hG⟩ (fun env heap=>match e with|.normal=>resL T (fun t=>look t env) (fun i=>lookO i heap) (postL (finL heap post)) rs|.ret=>resL T (fun t=>look t env) (fun i=>lookO i heap) (postL (finL heap post)) rs|_=>False) env heap) (argEnv 0 args) h2) :
  LSpec P f args hl post:=
 LSpec.introW hT hM hf hname hb hn ha hid hrs fun w0 R0 Lo hG L a w H=>by
  obtain ⟨L2,h5⟩:=H.rensL ps ok
  rw [he,hh] at h5
  exact AWp.endK (C:=⟨P,nt,w0,R0,keysH hl,Lo,hG⟩) (ARunS_ok (C:=⟨P,nt,w0,R0,keysH hl,Lo,hG⟩) hT hM (h w0 R0 Lo hG)) L2 a w h5
theorem AGo.restate {C:Ctx} {c:Code} {Q:Exit→Env→Heap→Prop} {env:Env} {heap:Heap} (ps:List (Nat×Nat)) (e:Env) (hp:Heap) (ok:rensOk C.lid ps heap=true) (h0:CovE (rensE ps env) e (CovH (rensH ps heap) hp)) (h:AGo C c Q e hp):AGo C c Q env heap:=
 ⟨fun L a w H=>by
  obtain ⟨L2,h5⟩:=H.rensL ps ok
  exact h.out L2 a w (h5.weaken (Covers.mk' h0))⟩
theorem ALoop.restate {C:Ctx} {c:Code} {Q:Exit→Env→Heap→Prop} {env:Env} {heap:Heap} (ps:List (Nat×Nat)) (e:Env) (hp:Heap) (ok:rensOk C.lid ps heap=true) (h0:CovE (rensE ps env) e (CovH (rensH ps heap) hp)) (h:ALoop C c Q e hp):ALoop C c Q env heap:=
 ⟨fun L a w H=>by
  obtain ⟨L2,h5⟩:=H.rensL ps ok
  exact h.out L2 a w (h5.weaken (Covers.mk' h0))⟩
theorem AEnd.restate {C:Ctx} {Q:Env→Heap→Prop} {env:Env} {heap:Heap} (ps:List (Nat×Nat)) (e:Env) (hp:Heap) (ok:rensOk C.lid ps heap=true) (h0:CovE (rensE ps env) e (CovH (rensH ps heap) hp)) (h:AEnd C Q e hp):AEnd C Q env heap:=
 ⟨fun L a w H=>by
  obtain ⟨L2,h5⟩:=H.rensL ps ok
  exact h.out L2 a w (h5.weaken (Covers.mk' h0))⟩
end Towline
namespace Go.Proofs.YtbkcekmahdbgdaaGreat
open Towline
def ty1:TyD:=⟨.func,1,8,[.v .nilFunc]⟩
theorem tyOk1:TyOk Tryz.prog 1 ty1:=by constructor<;>first|kernel_rfl|decide
def ty2:TyD:=⟨.int .i64,1,8,[.i .i64 0]⟩
theorem tyOk2:TyOk Tryz.prog 2 ty2:=by constructor<;>first|kernel_rfl|decide
def ty3:TyD:=⟨.int .i64,1,8,[.i .i64 0]⟩
theorem tyOk3:TyOk Tryz.prog 3 ty3:=by constructor<;>first|kernel_rfl|decide
def ty4:TyD:=⟨.bool,1,1,[.b false]⟩
theorem tyOk4:TyOk Tryz.prog 4 ty4:=by constructor<;>first|kernel_rfl|decide
def ty5:TyD:=⟨.int .u8,1,1,[.i .u8 0]⟩
theorem tyOk5:TyOk Tryz.prog 5 ty5:=by constructor<;>first|kernel_rfl|decide
def ty6:TyD:=⟨.int .u8,1,1,[.i .u8 0]⟩
theorem tyOk6:TyOk Tryz.prog 6 ty6:=by constructor<;>first|kernel_rfl|decide
def ty9:TyD:=⟨.string,1,16,[.s []]⟩
theorem tyOk9:TyOk Tryz.prog 9 ty9:=by constructor<;>first|kernel_rfl|decide
def ty12:TyD:=⟨.int .u64,1,8,[.i .u64 0]⟩
theorem tyOk12:TyOk Tryz.prog 12 ty12:=by constructor<;>first|kernel_rfl|decide
def ty15:TyD:=⟨.pointer 348,1,8,[.v (.pointer none)]⟩
theorem tyOk15:TyOk Tryz.prog 15 ty15:=by constructor<;>first|kernel_rfl|decide
def ty16:TyD:=⟨.pointer 351,1,8,[.v (.pointer none)]⟩
theorem tyOk16:TyOk Tryz.prog 16 ty16:=by constructor<;>first|kernel_rfl|decide
def ty17:TyD:=⟨.pointer 358,1,8,[.v (.pointer none)]⟩
theorem tyOk17:TyOk Tryz.prog 17 ty17:=by constructor<;>first|kernel_rfl|decide
def ty18:TyD:=⟨.struct [(0,1,17)],1,8,[.v (.pointer none)]⟩
theorem tyOk18:TyOk Tryz.prog 18 ty18:=by constructor<;>first|kernel_rfl|decide
def ty19:TyD:=⟨.struct [(0,1,17)],1,8,[.v (.pointer none)]⟩
theorem tyOk19:TyOk Tryz.prog 19 ty19:=by constructor<;>first|kernel_rfl|decide
def ty21:TyD:=⟨.int .i32,1,4,[.i .i32 0]⟩
theorem tyOk21:TyOk Tryz.prog 21 ty21:=by constructor<;>first|kernel_rfl|decide
def ty22:TyD:=⟨.slice 9,1,24,[.v (.slice none 0 0)]⟩
theorem tyOk22:TyOk Tryz.prog 22 ty22:=by constructor<;>first|kernel_rfl|decide
def ty23:TyD:=⟨.slice 3,1,24,[.v (.slice none 0 0)]⟩
theorem tyOk23:TyOk Tryz.prog 23 ty23:=by constructor<;>first|kernel_rfl|decide
def ty24:TyD:=⟨.func,1,8,[.v .nilFunc]⟩
theorem tyOk24:TyOk Tryz.prog 24 ty24:=by constructor<;>first|kernel_rfl|decide
def ty25:TyD:=⟨.pointer 37,1,8,[.v (.pointer none)]⟩
theorem tyOk25:TyOk Tryz.prog 25 ty25:=by constructor<;>first|kernel_rfl|decide
def ty26:TyD:=⟨.func,1,8,[.v .nilFunc]⟩
theorem tyOk26:TyOk Tryz.prog 26 ty26:=by constructor<;>first|kernel_rfl|decide
def ty27:TyD:=⟨.func,1,8,[.v .nilFunc]⟩
theorem tyOk27:TyOk Tryz.prog 27 ty27:=by constructor<;>first|kernel_rfl|decide
def ty28:TyD:=⟨.func,1,8,[.v .nilFunc]⟩
theorem tyOk28:TyOk Tryz.prog 28 ty28:=by constructor<;>first|kernel_rfl|decide
def ty29:TyD:=⟨.func,1,8,[.v .nilFunc]⟩
theorem tyOk29:TyOk Tryz.prog 29 ty29:=by constructor<;>first|kernel_rfl|decide
def ty30:TyD:=⟨.slice 46,1,24,[.v (.slice none 0 0)]⟩
theorem tyOk30:TyOk Tryz.prog 30 ty30:=by constructor<;>first|kernel_rfl|decide
def ty31:TyD:=⟨.slice 47,1,24,[.v (.slice none 0 0)]⟩
theorem tyOk31:TyOk Tryz.prog 31 ty31:=by constructor<;>first|kernel_rfl|decide
def ty32:TyD:=⟨.slice 30,1,24,[.v (.slice none 0 0)]⟩
theorem tyOk32:TyOk Tryz.prog 32 ty32:=by constructor<;>first|kernel_rfl|decide
def ty33:TyD:=⟨.slice 65,1,24,[.v (.slice none 0 0)]⟩
theorem tyOk33:TyOk Tryz.prog 33 ty33:=by constructor<;>first|kernel_rfl|decide
def ty34:TyD:=⟨.slice 50,1,24,[.v (.slice none 0 0)]⟩
theorem tyOk34:TyOk Tryz.prog 34 ty34:=by constructor<;>first|kernel_rfl|decide
def ty35:TyD:=⟨.slice 62,1,24,[.v (.slice none 0 0)]⟩
theorem tyOk35:TyOk Tryz.prog 35 ty35:=by constructor<;>first|kernel_rfl|decide
def ty36:TyD:=⟨.struct [(0,1,31),(1,1,32),(2,1,33),(3,1,34),(4,1,35),(5,1,3)],6,128,[.v (.slice none 0 0),.v (.slice none 0 0),.v (.slice none 0 0),.v (.slice none 0 0),.v (.slice none 0 0),.i .i64 0]⟩
theorem tyOk36:TyOk Tryz.prog 36 ty36:=by constructor<;>first|kernel_rfl|decide
def ty37:TyD:=⟨.struct [(0,1,31),(1,1,32),(2,1,33),(3,1,34),(4,1,35),(5,1,3)],6,128,[.v (.slice none 0 0),.v (.slice none 0 0),.v (.slice none 0 0),.v (.slice none 0 0),.v (.slice none 0 0),.i .i64 0]⟩
theorem tyOk37:TyOk Tryz.prog 37 ty37:=by constructor<;>first|kernel_rfl|decide
def ty38:TyD:=⟨.int .u32,1,4,[.i .u32 0]⟩
theorem tyOk38:TyOk Tryz.prog 38 ty38:=by constructor<;>first|kernel_rfl|decide
def ty39:TyD:=⟨.int .u16,1,2,[.i .u16 0]⟩
theorem tyOk39:TyOk Tryz.prog 39 ty39:=by constructor<;>first|kernel_rfl|decide
def ty40:TyD:=⟨.slice 285,1,24,[.v (.slice none 0 0)]⟩
theorem tyOk40:TyOk Tryz.prog 40 ty40:=by constructor<;>first|kernel_rfl|decide
def ty41:TyD:=⟨.slice 38,1,24,[.v (.slice none 0 0)]⟩
theorem tyOk41:TyOk Tryz.prog 41 ty41:=by constructor<;>first|kernel_rfl|decide
def ty42:TyD:=⟨.slice 84,1,24,[.v (.slice none 0 0)]⟩
theorem tyOk42:TyOk Tryz.prog 42 ty42:=by constructor<;>first|kernel_rfl|decide
def ty43:TyD:=⟨.struct [(0,1,3),(1,1,3),(2,1,38),(3,1,38),(4,1,38),(5,1,38),(6,1,39),(7,1,39),(8,1,39),(9,1,39),(10,1,40),(11,1,41),(12,1,42),(13,1,9)],14,128,[.i .i64 0,.i .i64 0,.i .u32 0,.i .u32 0,.i .u32 0,.i .u32 0,.i .u16 0,.i .u16 0,.i .u16 0,.i .u16 0,.v (.slice none 0 0),.v (.slice none 0 0),.v (.slice none 0 0),.s []]⟩
theorem tyOk43:TyOk Tryz.prog 43 ty43:=by constructor<;>first|kernel_rfl|decide
def ty44:TyD:=⟨.struct [(0,1,3),(1,1,3),(2,1,38),(3,1,38),(4,1,38),(5,1,38),(6,1,39),(7,1,39),(8,1,39),(9,1,39),(10,1,40),(11,1,41),(12,1,42),(13,1,9)],14,128,[.i .i64 0,.i .i64 0,.i .u32 0,.i .u32 0,.i .u32 0,.i .u32 0,.i .u16 0,.i .u16 0,.i .u16 0,.i .u16 0,.v (.slice none 0 0),.v (.slice none 0 0),.v (.slice none 0 0),.s []]⟩
theorem tyOk44:TyOk Tryz.prog 44 ty44:=by constructor<;>first|kernel_rfl|decide
def ty45:TyD:=⟨.struct [(0,1,3),(1,14,44)],15,136,[.i .i64 0,.i .i64 0,.i .i64 0,.i .u32 0,.i .u32 0,.i .u32 0,.i .u32 0,.i .u16 0,.i .u16 0,.i .u16 0,.i .u16 0,.v (.slice none 0 0),.v (.slice none 0 0),.v (.slice none 0 0),.s []]⟩
theorem tyOk45:TyOk Tryz.prog 45 ty45:=by constructor<;>first|kernel_rfl|decide
def ty46:TyD:=⟨.struct [(0,1,3),(1,14,44)],15,136,[.i .i64 0,.i .i64 0,.i .i64 0,.i .u32 0,.i .u32 0,.i .u32 0,.i .u32 0,.i .u16 0,.i .u16 0,.i .u16 0,.i .u16 0,.v (.slice none 0 0),.v (.slice none 0 0),.v (.slice none 0 0),.s []]⟩
theorem tyOk46:TyOk Tryz.prog 46 ty46:=by constructor<;>first|kernel_rfl|decide
def ty47:TyD:=⟨.pointer 110,1,8,[.v (.pointer none)]⟩
theorem tyOk47:TyOk Tryz.prog 47 ty47:=by constructor<;>first|kernel_rfl|decide
def ty48:TyD:=⟨.func,1,8,[.v .nilFunc]⟩
theorem tyOk48:TyOk Tryz.prog 48 ty48:=by constructor<;>first|kernel_rfl|decide
def ty49:TyD:=⟨.func,1,8,[.v .nilFunc]⟩
theorem tyOk49:TyOk Tryz.prog 49 ty49:=by constructor<;>first|kernel_rfl|decide
def ty50:TyD:=⟨.slice 116,1,24,[.v (.slice none 0 0)]⟩
theorem tyOk50:TyOk Tryz.prog 50 ty50:=by constructor<;>first|kernel_rfl|decide
def ty51:TyD:=⟨.func,1,8,[.v .nilFunc]⟩
theorem tyOk51:TyOk Tryz.prog 51 ty51:=by constructor<;>first|kernel_rfl|decide
def ty52:TyD:=⟨.slice 56,1,24,[.v (.slice none 0 0)]⟩
theorem tyOk52:TyOk Tryz.prog 52 ty52:=by constructor<;>first|kernel_rfl|decide
def ty53:TyD:=⟨.func,1,8,[.v .nilFunc]⟩
theorem tyOk53:TyOk Tryz.prog 53 ty53:=by constructor<;>first|kernel_rfl|decide
def ty54:TyD:=⟨.func,1,8,[.v .nilFunc]⟩
theorem tyOk54:TyOk Tryz.prog 54 ty54:=by constructor<;>first|kernel_rfl|decide
def ty55:TyD:=⟨.struct [(0,1,3),(1,1,3),(2,1,3),(3,1,3),(4,1,9)],5,48,[.i .i64 0,.i .i64 0,.i .i64 0,.i .i64 0,.s []]⟩
theorem tyOk55:TyOk Tryz.prog 55 ty55:=by constructor<;>first|kernel_rfl|decide
def ty56:TyD:=⟨.struct [(0,1,3),(1,1,3),(2,1,3),(3,1,3),(4,1,9)],5,48,[.i .i64 0,.i .i64 0,.i .i64 0,.i .i64 0,.s []]⟩
theorem tyOk56:TyOk Tryz.prog 56 ty56:=by constructor<;>first|kernel_rfl|decide
def ty57:TyD:=⟨.int .i64,1,8,[.i .i64 0]⟩
theorem tyOk57:TyOk Tryz.prog 57 ty57:=by constructor<;>first|kernel_rfl|decide
def ty58:TyD:=⟨.func,1,8,[.v .nilFunc]⟩
theorem tyOk58:TyOk Tryz.prog 58 ty58:=by constructor<;>first|kernel_rfl|decide
def ty59:TyD:=⟨.struct [(0,1,3),(1,1,39),(2,1,38),(3,1,4),(4,1,9),(5,1,3)],6,48,[.i .i64 0,.i .u16 0,.i .u32 0,.b false,.s [],.i .i64 0]⟩
theorem tyOk59:TyOk Tryz.prog 59 ty59:=by constructor<;>first|kernel_rfl|decide
def ty60:TyD:=⟨.struct [(0,1,3),(1,1,39),(2,1,38),(3,1,4),(4,1,9),(5,1,3)],6,48,[.i .i64 0,.i .u16 0,.i .u32 0,.b false,.s [],.i .i64 0]⟩
theorem tyOk60:TyOk Tryz.prog 60 ty60:=by constructor<;>first|kernel_rfl|decide
def ty61:TyD:=⟨.func,1,8,[.v .nilFunc]⟩
theorem tyOk61:TyOk Tryz.prog 61 ty61:=by constructor<;>first|kernel_rfl|decide
def ty62:TyD:=⟨.slice 67,1,24,[.v (.slice none 0 0)]⟩
theorem tyOk62:TyOk Tryz.prog 62 ty62:=by constructor<;>first|kernel_rfl|decide
def ty63:TyD:=⟨.func,1,8,[.v .nilFunc]⟩
theorem tyOk63:TyOk Tryz.prog 63 ty63:=by constructor<;>first|kernel_rfl|decide
def ty64:TyD:=⟨.func,1,8,[.v .nilFunc]⟩
theorem tyOk64:TyOk Tryz.prog 64 ty64:=by constructor<;>first|kernel_rfl|decide
def ty65:TyD:=⟨.slice 60,1,24,[.v (.slice none 0 0)]⟩
theorem tyOk65:TyOk Tryz.prog 65 ty65:=by constructor<;>first|kernel_rfl|decide
def ty66:TyD:=⟨.struct [(0,1,3),(1,1,3)],2,16,[.i .i64 0,.i .i64 0]⟩
theorem tyOk66:TyOk Tryz.prog 66 ty66:=by constructor<;>first|kernel_rfl|decide
def ty67:TyD:=⟨.struct [(0,1,3),(1,1,3)],2,16,[.i .i64 0,.i .i64 0]⟩
theorem tyOk67:TyOk Tryz.prog 67 ty67:=by constructor<;>first|kernel_rfl|decide
def ty68:TyD:=⟨.func,1,8,[.v .nilFunc]⟩
theorem tyOk68:TyOk Tryz.prog 68 ty68:=by constructor<;>first|kernel_rfl|decide
def ty69:TyD:=⟨.struct [(0,1,3),(1,1,3),(2,1,3),(3,1,3),(4,1,3),(5,1,3)],6,48,[.i .i64 0,.i .i64 0,.i .i64 0,.i .i64 0,.i .i64 0,.i .i64 0]⟩
theorem tyOk69:TyOk Tryz.prog 69 ty69:=by constructor<;>first|kernel_rfl|decide
def ty70:TyD:=⟨.struct [(0,1,3),(1,1,3),(2,1,3),(3,1,3),(4,1,3),(5,1,3)],6,48,[.i .i64 0,.i .i64 0,.i .i64 0,.i .i64 0,.i .i64 0,.i .i64 0]⟩
theorem tyOk70:TyOk Tryz.prog 70 ty70:=by constructor<;>first|kernel_rfl|decide
def ty71:TyD:=⟨.func,1,8,[.v .nilFunc]⟩
theorem tyOk71:TyOk Tryz.prog 71 ty71:=by constructor<;>first|kernel_rfl|decide
def ty72:TyD:=⟨.func,1,8,[.v .nilFunc]⟩
theorem tyOk72:TyOk Tryz.prog 72 ty72:=by constructor<;>first|kernel_rfl|decide
def ty74:TyD:=⟨.func,1,8,[.v .nilFunc]⟩
theorem tyOk74:TyOk Tryz.prog 74 ty74:=by constructor<;>first|kernel_rfl|decide
def ty75:TyD:=⟨.slice 79,1,24,[.v (.slice none 0 0)]⟩
theorem tyOk75:TyOk Tryz.prog 75 ty75:=by constructor<;>first|kernel_rfl|decide
def ty76:TyD:=⟨.func,1,8,[.v .nilFunc]⟩
theorem tyOk76:TyOk Tryz.prog 76 ty76:=by constructor<;>first|kernel_rfl|decide
def ty77:TyD:=⟨.slice 44,1,24,[.v (.slice none 0 0)]⟩
theorem tyOk77:TyOk Tryz.prog 77 ty77:=by constructor<;>first|kernel_rfl|decide
def ty78:TyD:=⟨.struct [(0,1,3),(1,1,77)],2,32,[.i .i64 0,.v (.slice none 0 0)]⟩
theorem tyOk78:TyOk Tryz.prog 78 ty78:=by constructor<;>first|kernel_rfl|decide
def ty79:TyD:=⟨.struct [(0,1,3),(1,1,77)],2,32,[.i .i64 0,.v (.slice none 0 0)]⟩
theorem tyOk79:TyOk Tryz.prog 79 ty79:=by constructor<;>first|kernel_rfl|decide
def ty80:TyD:=⟨.struct [(0,1,38),(1,1,38),(2,1,38),(3,1,38),(4,1,38),(5,1,38),(6,1,38),(7,1,39),(8,1,39),(9,1,39),(10,1,39),(11,1,9),(12,1,3),(13,1,3)],14,72,[.i .u32 0,.i .u32 0,.i .u32 0,.i .u32 0,.i .u32 0,.i .u32 0,.i .u32 0,.i .u16 0,.i .u16 0,.i .u16 0,.i .u16 0,.s [],.i .i64 0,.i .i64 0]⟩
theorem tyOk80:TyOk Tryz.prog 80 ty80:=by constructor<;>first|kernel_rfl|decide
def ty81:TyD:=⟨.struct [(0,1,38),(1,1,38),(2,1,38),(3,1,38),(4,1,38),(5,1,38),(6,1,38),(7,1,39),(8,1,39),(9,1,39),(10,1,39),(11,1,9),(12,1,3),(13,1,3)],14,72,[.i .u32 0,.i .u32 0,.i .u32 0,.i .u32 0,.i .u32 0,.i .u32 0,.i .u32 0,.i .u16 0,.i .u16 0,.i .u16 0,.i .u16 0,.s [],.i .i64 0,.i .i64 0]⟩
theorem tyOk81:TyOk Tryz.prog 81 ty81:=by constructor<;>first|kernel_rfl|decide
def ty82:TyD:=⟨.func,1,8,[.v .nilFunc]⟩
theorem tyOk82:TyOk Tryz.prog 82 ty82:=by constructor<;>first|kernel_rfl|decide
def ty83:TyD:=⟨.struct [(0,1,3),(1,1,9)],2,24,[.i .i64 0,.s []]⟩
theorem tyOk83:TyOk Tryz.prog 83 ty83:=by constructor<;>first|kernel_rfl|decide
def ty84:TyD:=⟨.struct [(0,1,3),(1,1,9)],2,24,[.i .i64 0,.s []]⟩
theorem tyOk84:TyOk Tryz.prog 84 ty84:=by constructor<;>first|kernel_rfl|decide
def ty85:TyD:=⟨.func,1,8,[.v .nilFunc]⟩
theorem tyOk85:TyOk Tryz.prog 85 ty85:=by constructor<;>first|kernel_rfl|decide
def ty86:TyD:=⟨.slice 89,1,24,[.v (.slice none 0 0)]⟩
theorem tyOk86:TyOk Tryz.prog 86 ty86:=by constructor<;>first|kernel_rfl|decide
def ty87:TyD:=⟨.func,1,8,[.v .nilFunc]⟩
theorem tyOk87:TyOk Tryz.prog 87 ty87:=by constructor<;>first|kernel_rfl|decide
def ty88:TyD:=⟨.struct [(0,1,39),(1,1,39),(2,1,38),(3,1,77)],4,32,[.i .u16 0,.i .u16 0,.i .u32 0,.v (.slice none 0 0)]⟩
theorem tyOk88:TyOk Tryz.prog 88 ty88:=by constructor<;>first|kernel_rfl|decide
def ty89:TyD:=⟨.struct [(0,1,39),(1,1,39),(2,1,38),(3,1,77)],4,32,[.i .u16 0,.i .u16 0,.i .u32 0,.v (.slice none 0 0)]⟩
theorem tyOk89:TyOk Tryz.prog 89 ty89:=by constructor<;>first|kernel_rfl|decide
def ty90:TyD:=⟨.struct [(0,1,3),(1,1,3),(2,1,3),(3,1,38),(4,1,38),(5,1,38),(6,1,38),(7,1,38),(8,1,38),(9,1,39),(10,1,39),(11,1,9)],12,72,[.i .i64 0,.i .i64 0,.i .i64 0,.i .u32 0,.i .u32 0,.i .u32 0,.i .u32 0,.i .u32 0,.i .u32 0,.i .u16 0,.i .u16 0,.s []]⟩
theorem tyOk90:TyOk Tryz.prog 90 ty90:=by constructor<;>first|kernel_rfl|decide
def ty91:TyD:=⟨.struct [(0,1,3),(1,1,3),(2,1,3),(3,1,38),(4,1,38),(5,1,38),(6,1,38),(7,1,38),(8,1,38),(9,1,39),(10,1,39),(11,1,9)],12,72,[.i .i64 0,.i .i64 0,.i .i64 0,.i .u32 0,.i .u32 0,.i .u32 0,.i .u32 0,.i .u32 0,.i .u32 0,.i .u16 0,.i .u16 0,.s []]⟩
theorem tyOk91:TyOk Tryz.prog 91 ty91:=by constructor<;>first|kernel_rfl|decide
def ty92:TyD:=⟨.slice 137,1,24,[.v (.slice none 0 0)]⟩
theorem tyOk92:TyOk Tryz.prog 92 ty92:=by constructor<;>first|kernel_rfl|decide
def ty93:TyD:=⟨.struct [(0,1,92),(1,1,3),(2,1,3)],3,40,[.v (.slice none 0 0),.i .i64 0,.i .i64 0]⟩
theorem tyOk93:TyOk Tryz.prog 93 ty93:=by constructor<;>first|kernel_rfl|decide
def ty94:TyD:=⟨.struct [(0,1,92),(1,1,3),(2,1,3)],3,40,[.v (.slice none 0 0),.i .i64 0,.i .i64 0]⟩
theorem tyOk94:TyOk Tryz.prog 94 ty94:=by constructor<;>first|kernel_rfl|decide
def ty95:TyD:=⟨.slice 39,1,24,[.v (.slice none 0 0)]⟩
theorem tyOk95:TyOk Tryz.prog 95 ty95:=by constructor<;>first|kernel_rfl|decide
def ty96:TyD:=⟨.struct [(0,1,65),(1,1,3),(2,1,95)],3,56,[.v (.slice none 0 0),.i .i64 0,.v (.slice none 0 0)]⟩
theorem tyOk96:TyOk Tryz.prog 96 ty96:=by constructor<;>first|kernel_rfl|decide
def ty97:TyD:=⟨.struct [(0,1,65),(1,1,3),(2,1,95)],3,56,[.v (.slice none 0 0),.i .i64 0,.v (.slice none 0 0)]⟩
theorem tyOk97:TyOk Tryz.prog 97 ty97:=by constructor<;>first|kernel_rfl|decide
def ty98:TyD:=⟨.slice 194,1,24,[.v (.slice none 0 0)]⟩
theorem tyOk98:TyOk Tryz.prog 98 ty98:=by constructor<;>first|kernel_rfl|decide
def ty99:TyD:=⟨.struct [(0,1,38),(1,1,98)],2,32,[.i .u32 0,.v (.slice none 0 0)]⟩
theorem tyOk99:TyOk Tryz.prog 99 ty99:=by constructor<;>first|kernel_rfl|decide
def ty100:TyD:=⟨.struct [(0,1,38),(1,1,98)],2,32,[.i .u32 0,.v (.slice none 0 0)]⟩
theorem tyOk100:TyOk Tryz.prog 100 ty100:=by constructor<;>first|kernel_rfl|decide
def ty101:TyD:=⟨.map 38 213,1,8,[.v (.map none)]⟩
theorem tyOk101:TyOk Tryz.prog 101 ty101:=by constructor<;>first|kernel_rfl|decide
def ty102:TyD:=⟨.struct [(0,1,38),(1,1,41),(2,1,41)],3,56,[.i .u32 0,.v (.slice none 0 0),.v (.slice none 0 0)]⟩
theorem tyOk102:TyOk Tryz.prog 102 ty102:=by constructor<;>first|kernel_rfl|decide
def ty103:TyD:=⟨.struct [(0,1,38),(1,1,41),(2,1,41)],3,56,[.i .u32 0,.v (.slice none 0 0),.v (.slice none 0 0)]⟩
theorem tyOk103:TyOk Tryz.prog 103 ty103:=by constructor<;>first|kernel_rfl|decide
def ty104:TyD:=⟨.slice 167,1,24,[.v (.slice none 0 0)]⟩
theorem tyOk104:TyOk Tryz.prog 104 ty104:=by constructor<;>first|kernel_rfl|decide
def ty105:TyD:=⟨.struct [(0,1,104)],1,24,[.v (.slice none 0 0)]⟩
theorem tyOk105:TyOk Tryz.prog 105 ty105:=by constructor<;>first|kernel_rfl|decide
def ty106:TyD:=⟨.struct [(0,1,104)],1,24,[.v (.slice none 0 0)]⟩
theorem tyOk106:TyOk Tryz.prog 106 ty106:=by constructor<;>first|kernel_rfl|decide
def ty107:TyD:=⟨.struct [(0,1,95),(1,1,50)],2,48,[.v (.slice none 0 0),.v (.slice none 0 0)]⟩
theorem tyOk107:TyOk Tryz.prog 107 ty107:=by constructor<;>first|kernel_rfl|decide
def ty108:TyD:=⟨.struct [(0,1,95),(1,1,50)],2,48,[.v (.slice none 0 0),.v (.slice none 0 0)]⟩
theorem tyOk108:TyOk Tryz.prog 108 ty108:=by constructor<;>first|kernel_rfl|decide
def ty109:TyD:=⟨.struct [(0,12,91),(12,3,94),(15,3,97),(18,2,100),(20,1,101),(21,3,103),(24,1,106),(25,2,108),(27,1,50),(28,1,3),(29,1,75),(30,1,62),(31,1,3),(32,1,4),(33,1,3),(34,1,3),(35,1,23),(36,1,23)],37,496,[.i .i64 0,.i .i64 0,.i .i64 0,.i .u32 0,.i .u32 0,.i .u32 0,.i .u32 0,.i .u32 0,.i .u32 0,.i .u16 0,.i .u16 0,.s [],.v (.slice none 0 0),.i .i64 0,.i .i64 0,.v (.slice none 0 0),.i .i64 0,.v (.slice none 0 0),.i .u32 0,.v (.slice none 0 0),.v (.map none),.i .u32 0,.v (.slice none 0 0),.v (.slice none 0 0),.v (.slice none 0 0),.v (.slice none 0 0),.v (.slice none 0 0),.v (.slice none 0 0),.i .i64 0,.v (.slice none 0 0),.v (.slice none 0 0),.i .i64 0,.b false,.i .i64 0,.i .i64 0,.v (.slice none 0 0),.v (.slice none 0 0)]⟩
theorem tyOk109:TyOk Tryz.prog 109 ty109:=by constructor<;>first|kernel_rfl|decide
def ty110:TyD:=⟨.struct [(0,12,91),(12,3,94),(15,3,97),(18,2,100),(20,1,101),(21,3,103),(24,1,106),(25,2,108),(27,1,50),(28,1,3),(29,1,75),(30,1,62),(31,1,3),(32,1,4),(33,1,3),(34,1,3),(35,1,23),(36,1,23)],37,496,[.i .i64 0,.i .i64 0,.i .i64 0,.i .u32 0,.i .u32 0,.i .u32 0,.i .u32 0,.i .u32 0,.i .u32 0,.i .u16 0,.i .u16 0,.s [],.v (.slice none 0 0),.i .i64 0,.i .i64 0,.v (.slice none 0 0),.i .i64 0,.v (.slice none 0 0),.i .u32 0,.v (.slice none 0 0),.v (.map none),.i .u32 0,.v (.slice none 0 0),.v (.slice none 0 0),.v (.slice none 0 0),.v (.slice none 0 0),.v (.slice none 0 0),.v (.slice none 0 0),.i .i64 0,.v (.slice none 0 0),.v (.slice none 0 0),.i .i64 0,.b false,.i .i64 0,.i .i64 0,.v (.slice none 0 0),.v (.slice none 0 0)]⟩
theorem tyOk110:TyOk Tryz.prog 110 ty110:=by constructor<;>first|kernel_rfl|decide
def ty111:TyD:=⟨.func,1,8,[.v .nilFunc]⟩
theorem tyOk111:TyOk Tryz.prog 111 ty111:=by constructor<;>first|kernel_rfl|decide
def ty112:TyD:=⟨.func,1,8,[.v .nilFunc]⟩
theorem tyOk112:TyOk Tryz.prog 112 ty112:=by constructor<;>first|kernel_rfl|decide
def ty113:TyD:=⟨.func,1,8,[.v .nilFunc]⟩
theorem tyOk113:TyOk Tryz.prog 113 ty113:=by constructor<;>first|kernel_rfl|decide
def ty114:TyD:=⟨.func,1,8,[.v .nilFunc]⟩
theorem tyOk114:TyOk Tryz.prog 114 ty114:=by constructor<;>first|kernel_rfl|decide
def ty115:TyD:=⟨.struct [(0,1,38),(1,1,4),(2,1,39),(3,1,39),(4,1,38),(5,1,9)],6,32,[.i .u32 0,.b false,.i .u16 0,.i .u16 0,.i .u32 0,.s []]⟩
theorem tyOk115:TyOk Tryz.prog 115 ty115:=by constructor<;>first|kernel_rfl|decide
def ty116:TyD:=⟨.struct [(0,1,38),(1,1,4),(2,1,39),(3,1,39),(4,1,38),(5,1,9)],6,32,[.i .u32 0,.b false,.i .u16 0,.i .u16 0,.i .u32 0,.s []]⟩
theorem tyOk116:TyOk Tryz.prog 116 ty116:=by constructor<;>first|kernel_rfl|decide
def ty118:TyD:=⟨.func,1,8,[.v .nilFunc]⟩
theorem tyOk118:TyOk Tryz.prog 118 ty118:=by constructor<;>first|kernel_rfl|decide
def ty119:TyD:=⟨.func,1,8,[.v .nilFunc]⟩
theorem tyOk119:TyOk Tryz.prog 119 ty119:=by constructor<;>first|kernel_rfl|decide
def ty121:TyD:=⟨.func,1,8,[.v .nilFunc]⟩
theorem tyOk121:TyOk Tryz.prog 121 ty121:=by constructor<;>first|kernel_rfl|decide
def ty123:TyD:=⟨.func,1,8,[.v .nilFunc]⟩
theorem tyOk123:TyOk Tryz.prog 123 ty123:=by constructor<;>first|kernel_rfl|decide
def ty125:TyD:=⟨.func,1,8,[.v .nilFunc]⟩
theorem tyOk125:TyOk Tryz.prog 125 ty125:=by constructor<;>first|kernel_rfl|decide
def ty126:TyD:=⟨.func,1,8,[.v .nilFunc]⟩
theorem tyOk126:TyOk Tryz.prog 126 ty126:=by constructor<;>first|kernel_rfl|decide
def ty127:TyD:=⟨.func,1,8,[.v .nilFunc]⟩
theorem tyOk127:TyOk Tryz.prog 127 ty127:=by constructor<;>first|kernel_rfl|decide
def ty128:TyD:=⟨.func,1,8,[.v .nilFunc]⟩
theorem tyOk128:TyOk Tryz.prog 128 ty128:=by constructor<;>first|kernel_rfl|decide
def ty130:TyD:=⟨.func,1,8,[.v .nilFunc]⟩
theorem tyOk130:TyOk Tryz.prog 130 ty130:=by constructor<;>first|kernel_rfl|decide
def ty131:TyD:=⟨.func,1,8,[.v .nilFunc]⟩
theorem tyOk131:TyOk Tryz.prog 131 ty131:=by constructor<;>first|kernel_rfl|decide
def ty132:TyD:=⟨.struct [(0,1,3),(1,1,3),(2,1,3),(3,1,3),(4,1,4)],5,40,[.i .i64 0,.i .i64 0,.i .i64 0,.i .i64 0,.b false]⟩
theorem tyOk132:TyOk Tryz.prog 132 ty132:=by constructor<;>first|kernel_rfl|decide
def ty133:TyD:=⟨.struct [(0,1,3),(1,1,3),(2,1,3),(3,1,3),(4,1,4)],5,40,[.i .i64 0,.i .i64 0,.i .i64 0,.i .i64 0,.b false]⟩
theorem tyOk133:TyOk Tryz.prog 133 ty133:=by constructor<;>first|kernel_rfl|decide
def ty134:TyD:=⟨.struct [(0,1,3),(1,1,3),(2,1,3)],3,24,[.i .i64 0,.i .i64 0,.i .i64 0]⟩
theorem tyOk134:TyOk Tryz.prog 134 ty134:=by constructor<;>first|kernel_rfl|decide
def ty135:TyD:=⟨.struct [(0,1,3),(1,1,3),(2,1,3)],3,24,[.i .i64 0,.i .i64 0,.i .i64 0]⟩
theorem tyOk135:TyOk Tryz.prog 135 ty135:=by constructor<;>first|kernel_rfl|decide
def ty136:TyD:=⟨.struct [(0,1,9),(1,1,3),(2,1,3),(3,5,133),(8,3,135),(11,1,38),(12,1,3),(13,1,3)],14,120,[.s [],.i .i64 0,.i .i64 0,.i .i64 0,.i .i64 0,.i .i64 0,.i .i64 0,.b false,.i .i64 0,.i .i64 0,.i .i64 0,.i .u32 0,.i .i64 0,.i .i64 0]⟩
theorem tyOk136:TyOk Tryz.prog 136 ty136:=by constructor<;>first|kernel_rfl|decide
def ty137:TyD:=⟨.struct [(0,1,9),(1,1,3),(2,1,3),(3,5,133),(8,3,135),(11,1,38),(12,1,3),(13,1,3)],14,120,[.s [],.i .i64 0,.i .i64 0,.i .i64 0,.i .i64 0,.i .i64 0,.i .i64 0,.b false,.i .i64 0,.i .i64 0,.i .i64 0,.i .u32 0,.i .i64 0,.i .i64 0]⟩
theorem tyOk137:TyOk Tryz.prog 137 ty137:=by constructor<;>first|kernel_rfl|decide
def ty138:TyD:=⟨.func,1,8,[.v .nilFunc]⟩
theorem tyOk138:TyOk Tryz.prog 138 ty138:=by constructor<;>first|kernel_rfl|decide
def ty139:TyD:=⟨.int .u64,1,8,[.i .u64 0]⟩
theorem tyOk139:TyOk Tryz.prog 139 ty139:=by constructor<;>first|kernel_rfl|decide
def ty140:TyD:=⟨.slice 5,1,24,[.v (.slice none 0 0)]⟩
theorem tyOk140:TyOk Tryz.prog 140 ty140:=by constructor<;>first|kernel_rfl|decide
def ty141:TyD:=⟨.func,1,8,[.v .nilFunc]⟩
theorem tyOk141:TyOk Tryz.prog 141 ty141:=by constructor<;>first|kernel_rfl|decide
def ty142:TyD:=⟨.func,1,8,[.v .nilFunc]⟩
theorem tyOk142:TyOk Tryz.prog 142 ty142:=by constructor<;>first|kernel_rfl|decide
def ty143:TyD:=⟨.func,1,8,[.v .nilFunc]⟩
theorem tyOk143:TyOk Tryz.prog 143 ty143:=by constructor<;>first|kernel_rfl|decide
def ty144:TyD:=⟨.func,1,8,[.v .nilFunc]⟩
theorem tyOk144:TyOk Tryz.prog 144 ty144:=by constructor<;>first|kernel_rfl|decide
def ty146:TyD:=⟨.func,1,8,[.v .nilFunc]⟩
theorem tyOk146:TyOk Tryz.prog 146 ty146:=by constructor<;>first|kernel_rfl|decide
def ty147:TyD:=⟨.func,1,8,[.v .nilFunc]⟩
theorem tyOk147:TyOk Tryz.prog 147 ty147:=by constructor<;>first|kernel_rfl|decide
def ty148:TyD:=⟨.func,1,8,[.v .nilFunc]⟩
theorem tyOk148:TyOk Tryz.prog 148 ty148:=by constructor<;>first|kernel_rfl|decide
def ty149:TyD:=⟨.func,1,8,[.v .nilFunc]⟩
theorem tyOk149:TyOk Tryz.prog 149 ty149:=by constructor<;>first|kernel_rfl|decide
def ty150:TyD:=⟨.func,1,8,[.v .nilFunc]⟩
theorem tyOk150:TyOk Tryz.prog 150 ty150:=by constructor<;>first|kernel_rfl|decide
def ty152:TyD:=⟨.func,1,8,[.v .nilFunc]⟩
theorem tyOk152:TyOk Tryz.prog 152 ty152:=by constructor<;>first|kernel_rfl|decide
def ty154:TyD:=⟨.func,1,8,[.v .nilFunc]⟩
theorem tyOk154:TyOk Tryz.prog 154 ty154:=by constructor<;>first|kernel_rfl|decide
def ty155:TyD:=⟨.func,1,8,[.v .nilFunc]⟩
theorem tyOk155:TyOk Tryz.prog 155 ty155:=by constructor<;>first|kernel_rfl|decide
def ty156:TyD:=⟨.func,1,8,[.v .nilFunc]⟩
theorem tyOk156:TyOk Tryz.prog 156 ty156:=by constructor<;>first|kernel_rfl|decide
def ty158:TyD:=⟨.func,1,8,[.v .nilFunc]⟩
theorem tyOk158:TyOk Tryz.prog 158 ty158:=by constructor<;>first|kernel_rfl|decide
def ty159:TyD:=⟨.func,1,8,[.v .nilFunc]⟩
theorem tyOk159:TyOk Tryz.prog 159 ty159:=by constructor<;>first|kernel_rfl|decide
def ty160:TyD:=⟨.func,1,8,[.v .nilFunc]⟩
theorem tyOk160:TyOk Tryz.prog 160 ty160:=by constructor<;>first|kernel_rfl|decide
def ty161:TyD:=⟨.func,1,8,[.v .nilFunc]⟩
theorem tyOk161:TyOk Tryz.prog 161 ty161:=by constructor<;>first|kernel_rfl|decide
def ty163:TyD:=⟨.func,1,8,[.v .nilFunc]⟩
theorem tyOk163:TyOk Tryz.prog 163 ty163:=by constructor<;>first|kernel_rfl|decide
def ty165:TyD:=⟨.func,1,8,[.v .nilFunc]⟩
theorem tyOk165:TyOk Tryz.prog 165 ty165:=by constructor<;>first|kernel_rfl|decide
def ty166:TyD:=⟨.struct [(0,1,38),(1,1,4),(2,1,4),(3,1,4),(4,1,39),(5,1,39),(6,1,38),(7,1,9)],8,32,[.i .u32 0,.b false,.b false,.b false,.i .u16 0,.i .u16 0,.i .u32 0,.s []]⟩
theorem tyOk166:TyOk Tryz.prog 166 ty166:=by constructor<;>first|kernel_rfl|decide
def ty167:TyD:=⟨.struct [(0,1,38),(1,1,4),(2,1,4),(3,1,4),(4,1,39),(5,1,39),(6,1,38),(7,1,9)],8,32,[.i .u32 0,.b false,.b false,.b false,.i .u16 0,.i .u16 0,.i .u32 0,.s []]⟩
theorem tyOk167:TyOk Tryz.prog 167 ty167:=by constructor<;>first|kernel_rfl|decide
def ty169:TyD:=⟨.func,1,8,[.v .nilFunc]⟩
theorem tyOk169:TyOk Tryz.prog 169 ty169:=by constructor<;>first|kernel_rfl|decide
def ty170:TyD:=⟨.struct [(0,1,3),(1,1,3),(2,1,4),(3,1,4),(4,1,41),(5,1,41),(6,1,23)],7,96,[.i .i64 0,.i .i64 0,.b false,.b false,.v (.slice none 0 0),.v (.slice none 0 0),.v (.slice none 0 0)]⟩
theorem tyOk170:TyOk Tryz.prog 170 ty170:=by constructor<;>first|kernel_rfl|decide
def ty171:TyD:=⟨.struct [(0,1,3),(1,1,3),(2,1,4),(3,1,4),(4,1,41),(5,1,41),(6,1,23)],7,96,[.i .i64 0,.i .i64 0,.b false,.b false,.v (.slice none 0 0),.v (.slice none 0 0),.v (.slice none 0 0)]⟩
theorem tyOk171:TyOk Tryz.prog 171 ty171:=by constructor<;>first|kernel_rfl|decide
def ty173:TyD:=⟨.func,1,8,[.v .nilFunc]⟩
theorem tyOk173:TyOk Tryz.prog 173 ty173:=by constructor<;>first|kernel_rfl|decide
def ty174:TyD:=⟨.func,1,8,[.v .nilFunc]⟩
theorem tyOk174:TyOk Tryz.prog 174 ty174:=by constructor<;>first|kernel_rfl|decide
def ty175:TyD:=⟨.func,1,8,[.v .nilFunc]⟩
theorem tyOk175:TyOk Tryz.prog 175 ty175:=by constructor<;>first|kernel_rfl|decide
def ty176:TyD:=⟨.func,1,8,[.v .nilFunc]⟩
theorem tyOk176:TyOk Tryz.prog 176 ty176:=by constructor<;>first|kernel_rfl|decide
def ty177:TyD:=⟨.func,1,8,[.v .nilFunc]⟩
theorem tyOk177:TyOk Tryz.prog 177 ty177:=by constructor<;>first|kernel_rfl|decide
def ty179:TyD:=⟨.func,1,8,[.v .nilFunc]⟩
theorem tyOk179:TyOk Tryz.prog 179 ty179:=by constructor<;>first|kernel_rfl|decide
def ty180:TyD:=⟨.func,1,8,[.v .nilFunc]⟩
theorem tyOk180:TyOk Tryz.prog 180 ty180:=by constructor<;>first|kernel_rfl|decide
def ty181:TyD:=⟨.func,1,8,[.v .nilFunc]⟩
theorem tyOk181:TyOk Tryz.prog 181 ty181:=by constructor<;>first|kernel_rfl|decide
def ty182:TyD:=⟨.slice 4,1,24,[.v (.slice none 0 0)]⟩
theorem tyOk182:TyOk Tryz.prog 182 ty182:=by constructor<;>first|kernel_rfl|decide
def ty183:TyD:=⟨.func,1,8,[.v .nilFunc]⟩
theorem tyOk183:TyOk Tryz.prog 183 ty183:=by constructor<;>first|kernel_rfl|decide
def ty184:TyD:=⟨.func,1,8,[.v .nilFunc]⟩
theorem tyOk184:TyOk Tryz.prog 184 ty184:=by constructor<;>first|kernel_rfl|decide
def ty186:TyD:=⟨.func,1,8,[.v .nilFunc]⟩
theorem tyOk186:TyOk Tryz.prog 186 ty186:=by constructor<;>first|kernel_rfl|decide
def ty187:TyD:=⟨.func,1,8,[.v .nilFunc]⟩
theorem tyOk187:TyOk Tryz.prog 187 ty187:=by constructor<;>first|kernel_rfl|decide
def ty188:TyD:=⟨.func,1,8,[.v .nilFunc]⟩
theorem tyOk188:TyOk Tryz.prog 188 ty188:=by constructor<;>first|kernel_rfl|decide
def ty189:TyD:=⟨.func,1,8,[.v .nilFunc]⟩
theorem tyOk189:TyOk Tryz.prog 189 ty189:=by constructor<;>first|kernel_rfl|decide
def ty190:TyD:=⟨.func,1,8,[.v .nilFunc]⟩
theorem tyOk190:TyOk Tryz.prog 190 ty190:=by constructor<;>first|kernel_rfl|decide
def ty191:TyD:=⟨.func,1,8,[.v .nilFunc]⟩
theorem tyOk191:TyOk Tryz.prog 191 ty191:=by constructor<;>first|kernel_rfl|decide
def ty192:TyD:=⟨.func,1,8,[.v .nilFunc]⟩
theorem tyOk192:TyOk Tryz.prog 192 ty192:=by constructor<;>first|kernel_rfl|decide
def ty193:TyD:=⟨.struct [(0,1,38),(1,1,3),(2,1,3),(3,1,3),(4,1,3),(5,1,3),(6,1,3)],7,56,[.i .u32 0,.i .i64 0,.i .i64 0,.i .i64 0,.i .i64 0,.i .i64 0,.i .i64 0]⟩
theorem tyOk193:TyOk Tryz.prog 193 ty193:=by constructor<;>first|kernel_rfl|decide
def ty194:TyD:=⟨.struct [(0,1,38),(1,1,3),(2,1,3),(3,1,3),(4,1,3),(5,1,3),(6,1,3)],7,56,[.i .u32 0,.i .i64 0,.i .i64 0,.i .i64 0,.i .i64 0,.i .i64 0,.i .i64 0]⟩
theorem tyOk194:TyOk Tryz.prog 194 ty194:=by constructor<;>first|kernel_rfl|decide
def ty195:TyD:=⟨.func,1,8,[.v .nilFunc]⟩
theorem tyOk195:TyOk Tryz.prog 195 ty195:=by constructor<;>first|kernel_rfl|decide
def ty196:TyD:=⟨.func,1,8,[.v .nilFunc]⟩
theorem tyOk196:TyOk Tryz.prog 196 ty196:=by constructor<;>first|kernel_rfl|decide
def ty197:TyD:=⟨.func,1,8,[.v .nilFunc]⟩
theorem tyOk197:TyOk Tryz.prog 197 ty197:=by constructor<;>first|kernel_rfl|decide
def ty198:TyD:=⟨.pointer 137,1,8,[.v (.pointer none)]⟩
theorem tyOk198:TyOk Tryz.prog 198 ty198:=by constructor<;>first|kernel_rfl|decide
def ty199:TyD:=⟨.func,1,8,[.v .nilFunc]⟩
theorem tyOk199:TyOk Tryz.prog 199 ty199:=by constructor<;>first|kernel_rfl|decide
def ty200:TyD:=⟨.func,1,8,[.v .nilFunc]⟩
theorem tyOk200:TyOk Tryz.prog 200 ty200:=by constructor<;>first|kernel_rfl|decide
def ty201:TyD:=⟨.func,1,8,[.v .nilFunc]⟩
theorem tyOk201:TyOk Tryz.prog 201 ty201:=by constructor<;>first|kernel_rfl|decide
def ty202:TyD:=⟨.func,1,8,[.v .nilFunc]⟩
theorem tyOk202:TyOk Tryz.prog 202 ty202:=by constructor<;>first|kernel_rfl|decide
def ty204:TyD:=⟨.func,1,8,[.v .nilFunc]⟩
theorem tyOk204:TyOk Tryz.prog 204 ty204:=by constructor<;>first|kernel_rfl|decide
def ty205:TyD:=⟨.func,1,8,[.v .nilFunc]⟩
theorem tyOk205:TyOk Tryz.prog 205 ty205:=by constructor<;>first|kernel_rfl|decide
def ty207:TyD:=⟨.func,1,8,[.v .nilFunc]⟩
theorem tyOk207:TyOk Tryz.prog 207 ty207:=by constructor<;>first|kernel_rfl|decide
def ty208:TyD:=⟨.slice 77,1,24,[.v (.slice none 0 0)]⟩
theorem tyOk208:TyOk Tryz.prog 208 ty208:=by constructor<;>first|kernel_rfl|decide
def ty209:TyD:=⟨.func,1,8,[.v .nilFunc]⟩
theorem tyOk209:TyOk Tryz.prog 209 ty209:=by constructor<;>first|kernel_rfl|decide
def ty210:TyD:=⟨.func,1,8,[.v .nilFunc]⟩
theorem tyOk210:TyOk Tryz.prog 210 ty210:=by constructor<;>first|kernel_rfl|decide
def ty212:TyD:=⟨.func,1,8,[.v .nilFunc]⟩
theorem tyOk212:TyOk Tryz.prog 212 ty212:=by constructor<;>first|kernel_rfl|decide
def ty213:TyD:=⟨.pointer 215,1,8,[.v (.pointer none)]⟩
theorem tyOk213:TyOk Tryz.prog 213 ty213:=by constructor<;>first|kernel_rfl|decide
def ty214:TyD:=⟨.struct [(0,14,44),(14,1,3)],15,136,[.i .i64 0,.i .i64 0,.i .u32 0,.i .u32 0,.i .u32 0,.i .u32 0,.i .u16 0,.i .u16 0,.i .u16 0,.i .u16 0,.v (.slice none 0 0),.v (.slice none 0 0),.v (.slice none 0 0),.s [],.i .i64 0]⟩
theorem tyOk214:TyOk Tryz.prog 214 ty214:=by constructor<;>first|kernel_rfl|decide
def ty215:TyD:=⟨.struct [(0,14,44),(14,1,3)],15,136,[.i .i64 0,.i .i64 0,.i .u32 0,.i .u32 0,.i .u32 0,.i .u32 0,.i .u16 0,.i .u16 0,.i .u16 0,.i .u16 0,.v (.slice none 0 0),.v (.slice none 0 0),.v (.slice none 0 0),.s [],.i .i64 0]⟩
theorem tyOk215:TyOk Tryz.prog 215 ty215:=by constructor<;>first|kernel_rfl|decide
def ty217:TyD:=⟨.func,1,8,[.v .nilFunc]⟩
theorem tyOk217:TyOk Tryz.prog 217 ty217:=by constructor<;>first|kernel_rfl|decide
def ty219:TyD:=⟨.func,1,8,[.v .nilFunc]⟩
theorem tyOk219:TyOk Tryz.prog 219 ty219:=by constructor<;>first|kernel_rfl|decide
def ty220:TyD:=⟨.struct [(0,1,4),(1,1,3)],2,16,[.b false,.i .i64 0]⟩
theorem tyOk220:TyOk Tryz.prog 220 ty220:=by constructor<;>first|kernel_rfl|decide
def ty221:TyD:=⟨.slice 220,1,24,[.v (.slice none 0 0)]⟩
theorem tyOk221:TyOk Tryz.prog 221 ty221:=by constructor<;>first|kernel_rfl|decide
def ty222:TyD:=⟨.func,1,8,[.v .nilFunc]⟩
theorem tyOk222:TyOk Tryz.prog 222 ty222:=by constructor<;>first|kernel_rfl|decide
def ty224:TyD:=⟨.func,1,8,[.v .nilFunc]⟩
theorem tyOk224:TyOk Tryz.prog 224 ty224:=by constructor<;>first|kernel_rfl|decide
def ty225:TyD:=⟨.func,1,8,[.v .nilFunc]⟩
theorem tyOk225:TyOk Tryz.prog 225 ty225:=by constructor<;>first|kernel_rfl|decide
def ty226:TyD:=⟨.func,1,8,[.v .nilFunc]⟩
theorem tyOk226:TyOk Tryz.prog 226 ty226:=by constructor<;>first|kernel_rfl|decide
def ty227:TyD:=⟨.func,1,8,[.v .nilFunc]⟩
theorem tyOk227:TyOk Tryz.prog 227 ty227:=by constructor<;>first|kernel_rfl|decide
def ty228:TyD:=⟨.func,1,8,[.v .nilFunc]⟩
theorem tyOk228:TyOk Tryz.prog 228 ty228:=by constructor<;>first|kernel_rfl|decide
def ty229:TyD:=⟨.func,1,8,[.v .nilFunc]⟩
theorem tyOk229:TyOk Tryz.prog 229 ty229:=by constructor<;>first|kernel_rfl|decide
def ty230:TyD:=⟨.func,1,8,[.v .nilFunc]⟩
theorem tyOk230:TyOk Tryz.prog 230 ty230:=by constructor<;>first|kernel_rfl|decide
def ty231:TyD:=⟨.func,1,8,[.v .nilFunc]⟩
theorem tyOk231:TyOk Tryz.prog 231 ty231:=by constructor<;>first|kernel_rfl|decide
def ty233:TyD:=⟨.func,1,8,[.v .nilFunc]⟩
theorem tyOk233:TyOk Tryz.prog 233 ty233:=by constructor<;>first|kernel_rfl|decide
def ty234:TyD:=⟨.func,1,8,[.v .nilFunc]⟩
theorem tyOk234:TyOk Tryz.prog 234 ty234:=by constructor<;>first|kernel_rfl|decide
def ty235:TyD:=⟨.func,1,8,[.v .nilFunc]⟩
theorem tyOk235:TyOk Tryz.prog 235 ty235:=by constructor<;>first|kernel_rfl|decide
def ty236:TyD:=⟨.func,1,8,[.v .nilFunc]⟩
theorem tyOk236:TyOk Tryz.prog 236 ty236:=by constructor<;>first|kernel_rfl|decide
def ty237:TyD:=⟨.func,1,8,[.v .nilFunc]⟩
theorem tyOk237:TyOk Tryz.prog 237 ty237:=by constructor<;>first|kernel_rfl|decide
def ty238:TyD:=⟨.func,1,8,[.v .nilFunc]⟩
theorem tyOk238:TyOk Tryz.prog 238 ty238:=by constructor<;>first|kernel_rfl|decide
def ty239:TyD:=⟨.func,1,8,[.v .nilFunc]⟩
theorem tyOk239:TyOk Tryz.prog 239 ty239:=by constructor<;>first|kernel_rfl|decide
def ty240:TyD:=⟨.func,1,8,[.v .nilFunc]⟩
theorem tyOk240:TyOk Tryz.prog 240 ty240:=by constructor<;>first|kernel_rfl|decide
def ty241:TyD:=⟨.func,1,8,[.v .nilFunc]⟩
theorem tyOk241:TyOk Tryz.prog 241 ty241:=by constructor<;>first|kernel_rfl|decide
def ty242:TyD:=⟨.pointer 244,1,8,[.v (.pointer none)]⟩
theorem tyOk242:TyOk Tryz.prog 242 ty242:=by constructor<;>first|kernel_rfl|decide
def ty243:TyD:=⟨.struct [(0,1,242),(1,1,140)],2,32,[.v (.pointer none),.v (.slice none 0 0)]⟩
theorem tyOk243:TyOk Tryz.prog 243 ty243:=by constructor<;>first|kernel_rfl|decide
def ty244:TyD:=⟨.struct [(0,1,242),(1,1,140)],2,32,[.v (.pointer none),.v (.slice none 0 0)]⟩
theorem tyOk244:TyOk Tryz.prog 244 ty244:=by constructor<;>first|kernel_rfl|decide
def ty248:TyD:=⟨.func,1,8,[.v .nilFunc]⟩
theorem tyOk248:TyOk Tryz.prog 248 ty248:=by constructor<;>first|kernel_rfl|decide
def ty249:TyD:=⟨.func,1,8,[.v .nilFunc]⟩
theorem tyOk249:TyOk Tryz.prog 249 ty249:=by constructor<;>first|kernel_rfl|decide
def ty250:TyD:=⟨.func,1,8,[.v .nilFunc]⟩
theorem tyOk250:TyOk Tryz.prog 250 ty250:=by constructor<;>first|kernel_rfl|decide
def ty251:TyD:=⟨.func,1,8,[.v .nilFunc]⟩
theorem tyOk251:TyOk Tryz.prog 251 ty251:=by constructor<;>first|kernel_rfl|decide
def ty252:TyD:=⟨.func,1,8,[.v .nilFunc]⟩
theorem tyOk252:TyOk Tryz.prog 252 ty252:=by constructor<;>first|kernel_rfl|decide
def ty253:TyD:=⟨.func,1,8,[.v .nilFunc]⟩
theorem tyOk253:TyOk Tryz.prog 253 ty253:=by constructor<;>first|kernel_rfl|decide
def ty255:TyD:=⟨.func,1,8,[.v .nilFunc]⟩
theorem tyOk255:TyOk Tryz.prog 255 ty255:=by constructor<;>first|kernel_rfl|decide
def ty257:TyD:=⟨.func,1,8,[.v .nilFunc]⟩
theorem tyOk257:TyOk Tryz.prog 257 ty257:=by constructor<;>first|kernel_rfl|decide
def ty258:TyD:=⟨.func,1,8,[.v .nilFunc]⟩
theorem tyOk258:TyOk Tryz.prog 258 ty258:=by constructor<;>first|kernel_rfl|decide
def ty259:TyD:=⟨.pointer 194,1,8,[.v (.pointer none)]⟩
theorem tyOk259:TyOk Tryz.prog 259 ty259:=by constructor<;>first|kernel_rfl|decide
def ty260:TyD:=⟨.func,1,8,[.v .nilFunc]⟩
theorem tyOk260:TyOk Tryz.prog 260 ty260:=by constructor<;>first|kernel_rfl|decide
def ty261:TyD:=⟨.func,1,8,[.v .nilFunc]⟩
theorem tyOk261:TyOk Tryz.prog 261 ty261:=by constructor<;>first|kernel_rfl|decide
def ty262:TyD:=⟨.func,1,8,[.v .nilFunc]⟩
theorem tyOk262:TyOk Tryz.prog 262 ty262:=by constructor<;>first|kernel_rfl|decide
def ty263:TyD:=⟨.func,1,8,[.v .nilFunc]⟩
theorem tyOk263:TyOk Tryz.prog 263 ty263:=by constructor<;>first|kernel_rfl|decide
def ty264:TyD:=⟨.func,1,8,[.v .nilFunc]⟩
theorem tyOk264:TyOk Tryz.prog 264 ty264:=by constructor<;>first|kernel_rfl|decide
def ty265:TyD:=⟨.func,1,8,[.v .nilFunc]⟩
theorem tyOk265:TyOk Tryz.prog 265 ty265:=by constructor<;>first|kernel_rfl|decide
def ty266:TyD:=⟨.map 3 3,1,8,[.v (.map none)]⟩
theorem tyOk266:TyOk Tryz.prog 266 ty266:=by constructor<;>first|kernel_rfl|decide
def ty267:TyD:=⟨.func,1,8,[.v .nilFunc]⟩
theorem tyOk267:TyOk Tryz.prog 267 ty267:=by constructor<;>first|kernel_rfl|decide
def ty268:TyD:=⟨.func,1,8,[.v .nilFunc]⟩
theorem tyOk268:TyOk Tryz.prog 268 ty268:=by constructor<;>first|kernel_rfl|decide
def ty269:TyD:=⟨.func,1,8,[.v .nilFunc]⟩
theorem tyOk269:TyOk Tryz.prog 269 ty269:=by constructor<;>first|kernel_rfl|decide
def ty270:TyD:=⟨.func,1,8,[.v .nilFunc]⟩
theorem tyOk270:TyOk Tryz.prog 270 ty270:=by constructor<;>first|kernel_rfl|decide
def ty271:TyD:=⟨.func,1,8,[.v .nilFunc]⟩
theorem tyOk271:TyOk Tryz.prog 271 ty271:=by constructor<;>first|kernel_rfl|decide
def ty272:TyD:=⟨.func,1,8,[.v .nilFunc]⟩
theorem tyOk272:TyOk Tryz.prog 272 ty272:=by constructor<;>first|kernel_rfl|decide
def ty273:TyD:=⟨.func,1,8,[.v .nilFunc]⟩
theorem tyOk273:TyOk Tryz.prog 273 ty273:=by constructor<;>first|kernel_rfl|decide
def ty274:TyD:=⟨.func,1,8,[.v .nilFunc]⟩
theorem tyOk274:TyOk Tryz.prog 274 ty274:=by constructor<;>first|kernel_rfl|decide
def ty275:TyD:=⟨.func,1,8,[.v .nilFunc]⟩
theorem tyOk275:TyOk Tryz.prog 275 ty275:=by constructor<;>first|kernel_rfl|decide
def ty276:TyD:=⟨.func,1,8,[.v .nilFunc]⟩
theorem tyOk276:TyOk Tryz.prog 276 ty276:=by constructor<;>first|kernel_rfl|decide
def ty277:TyD:=⟨.func,1,8,[.v .nilFunc]⟩
theorem tyOk277:TyOk Tryz.prog 277 ty277:=by constructor<;>first|kernel_rfl|decide
def ty278:TyD:=⟨.func,1,8,[.v .nilFunc]⟩
theorem tyOk278:TyOk Tryz.prog 278 ty278:=by constructor<;>first|kernel_rfl|decide
def ty279:TyD:=⟨.func,1,8,[.v .nilFunc]⟩
theorem tyOk279:TyOk Tryz.prog 279 ty279:=by constructor<;>first|kernel_rfl|decide
def ty280:TyD:=⟨.func,1,8,[.v .nilFunc]⟩
theorem tyOk280:TyOk Tryz.prog 280 ty280:=by constructor<;>first|kernel_rfl|decide
def ty281:TyD:=⟨.func,1,8,[.v .nilFunc]⟩
theorem tyOk281:TyOk Tryz.prog 281 ty281:=by constructor<;>first|kernel_rfl|decide
def ty282:TyD:=⟨.func,1,8,[.v .nilFunc]⟩
theorem tyOk282:TyOk Tryz.prog 282 ty282:=by constructor<;>first|kernel_rfl|decide
def ty283:TyD:=⟨.func,1,8,[.v .nilFunc]⟩
theorem tyOk283:TyOk Tryz.prog 283 ty283:=by constructor<;>first|kernel_rfl|decide
def ty284:TyD:=⟨.func,1,8,[.v .nilFunc]⟩
theorem tyOk284:TyOk Tryz.prog 284 ty284:=by constructor<;>first|kernel_rfl|decide
def ty285:TyD:=⟨.array 2 39,2,4,[.i .u16 0,.i .u16 0]⟩
theorem tyOk285:TyOk Tryz.prog 285 ty285:=by constructor<;>first|kernel_rfl|decide
def ty286:TyD:=⟨.func,1,8,[.v .nilFunc]⟩
theorem tyOk286:TyOk Tryz.prog 286 ty286:=by constructor<;>first|kernel_rfl|decide
def ty287:TyD:=⟨.func,1,8,[.v .nilFunc]⟩
theorem tyOk287:TyOk Tryz.prog 287 ty287:=by constructor<;>first|kernel_rfl|decide
def ty288:TyD:=⟨.func,1,8,[.v .nilFunc]⟩
theorem tyOk288:TyOk Tryz.prog 288 ty288:=by constructor<;>first|kernel_rfl|decide
def ty289:TyD:=⟨.func,1,8,[.v .nilFunc]⟩
theorem tyOk289:TyOk Tryz.prog 289 ty289:=by constructor<;>first|kernel_rfl|decide
def ty290:TyD:=⟨.func,1,8,[.v .nilFunc]⟩
theorem tyOk290:TyOk Tryz.prog 290 ty290:=by constructor<;>first|kernel_rfl|decide
def ty291:TyD:=⟨.func,1,8,[.v .nilFunc]⟩
theorem tyOk291:TyOk Tryz.prog 291 ty291:=by constructor<;>first|kernel_rfl|decide
def ty292:TyD:=⟨.func,1,8,[.v .nilFunc]⟩
theorem tyOk292:TyOk Tryz.prog 292 ty292:=by constructor<;>first|kernel_rfl|decide
def ty293:TyD:=⟨.func,1,8,[.v .nilFunc]⟩
theorem tyOk293:TyOk Tryz.prog 293 ty293:=by constructor<;>first|kernel_rfl|decide
def ty294:TyD:=⟨.map 38 3,1,8,[.v (.map none)]⟩
theorem tyOk294:TyOk Tryz.prog 294 ty294:=by constructor<;>first|kernel_rfl|decide
def ty295:TyD:=⟨.func,1,8,[.v .nilFunc]⟩
theorem tyOk295:TyOk Tryz.prog 295 ty295:=by constructor<;>first|kernel_rfl|decide
def ty296:TyD:=⟨.pointer 5,1,8,[.v (.pointer none)]⟩
theorem tyOk296:TyOk Tryz.prog 296 ty296:=by constructor<;>first|kernel_rfl|decide
def ty297:TyD:=⟨.func,1,8,[.v .nilFunc]⟩
theorem tyOk297:TyOk Tryz.prog 297 ty297:=by constructor<;>first|kernel_rfl|decide
def ty298:TyD:=⟨.func,1,8,[.v .nilFunc]⟩
theorem tyOk298:TyOk Tryz.prog 298 ty298:=by constructor<;>first|kernel_rfl|decide
def ty299:TyD:=⟨.func,1,8,[.v .nilFunc]⟩
theorem tyOk299:TyOk Tryz.prog 299 ty299:=by constructor<;>first|kernel_rfl|decide
def ty300:TyD:=⟨.pointer 171,1,8,[.v (.pointer none)]⟩
theorem tyOk300:TyOk Tryz.prog 300 ty300:=by constructor<;>first|kernel_rfl|decide
def ty302:TyD:=⟨.func,1,8,[.v .nilFunc]⟩
theorem tyOk302:TyOk Tryz.prog 302 ty302:=by constructor<;>first|kernel_rfl|decide
def ty303:TyD:=⟨.func,1,8,[.v .nilFunc]⟩
theorem tyOk303:TyOk Tryz.prog 303 ty303:=by constructor<;>first|kernel_rfl|decide
def ty304:TyD:=⟨.func,1,8,[.v .nilFunc]⟩
theorem tyOk304:TyOk Tryz.prog 304 ty304:=by constructor<;>first|kernel_rfl|decide
def ty305:TyD:=⟨.func,1,8,[.v .nilFunc]⟩
theorem tyOk305:TyOk Tryz.prog 305 ty305:=by constructor<;>first|kernel_rfl|decide
def ty306:TyD:=⟨.slice 308,1,24,[.v (.slice none 0 0)]⟩
theorem tyOk306:TyOk Tryz.prog 306 ty306:=by constructor<;>first|kernel_rfl|decide
def ty307:TyD:=⟨.func,1,8,[.v .nilFunc]⟩
theorem tyOk307:TyOk Tryz.prog 307 ty307:=by constructor<;>first|kernel_rfl|decide
def ty308:TyD:=⟨.array 2 38,2,8,[.i .u32 0,.i .u32 0]⟩
theorem tyOk308:TyOk Tryz.prog 308 ty308:=by constructor<;>first|kernel_rfl|decide
def ty309:TyD:=⟨.func,1,8,[.v .nilFunc]⟩
theorem tyOk309:TyOk Tryz.prog 309 ty309:=by constructor<;>first|kernel_rfl|decide
def ty311:TyD:=⟨.func,1,8,[.v .nilFunc]⟩
theorem tyOk311:TyOk Tryz.prog 311 ty311:=by constructor<;>first|kernel_rfl|decide
def ty312:TyD:=⟨.func,1,8,[.v .nilFunc]⟩
theorem tyOk312:TyOk Tryz.prog 312 ty312:=by constructor<;>first|kernel_rfl|decide
def ty313:TyD:=⟨.func,1,8,[.v .nilFunc]⟩
theorem tyOk313:TyOk Tryz.prog 313 ty313:=by constructor<;>first|kernel_rfl|decide
def ty314:TyD:=⟨.int .u64,1,8,[.i .u64 0]⟩
theorem tyOk314:TyOk Tryz.prog 314 ty314:=by constructor<;>first|kernel_rfl|decide
def ty315:TyD:=⟨.func,1,8,[.v .nilFunc]⟩
theorem tyOk315:TyOk Tryz.prog 315 ty315:=by constructor<;>first|kernel_rfl|decide
def ty317:TyD:=⟨.func,1,8,[.v .nilFunc]⟩
theorem tyOk317:TyOk Tryz.prog 317 ty317:=by constructor<;>first|kernel_rfl|decide
def ty318:TyD:=⟨.int .i16,1,2,[.i .i16 0]⟩
theorem tyOk318:TyOk Tryz.prog 318 ty318:=by constructor<;>first|kernel_rfl|decide
def ty319:TyD:=⟨.func,1,8,[.v .nilFunc]⟩
theorem tyOk319:TyOk Tryz.prog 319 ty319:=by constructor<;>first|kernel_rfl|decide
def ty321:TyD:=⟨.func,1,8,[.v .nilFunc]⟩
theorem tyOk321:TyOk Tryz.prog 321 ty321:=by constructor<;>first|kernel_rfl|decide
def ty323:TyD:=⟨.func,1,8,[.v .nilFunc]⟩
theorem tyOk323:TyOk Tryz.prog 323 ty323:=by constructor<;>first|kernel_rfl|decide
def ty324:TyD:=⟨.func,1,8,[.v .nilFunc]⟩
theorem tyOk324:TyOk Tryz.prog 324 ty324:=by constructor<;>first|kernel_rfl|decide
def ty325:TyD:=⟨.func,1,8,[.v .nilFunc]⟩
theorem tyOk325:TyOk Tryz.prog 325 ty325:=by constructor<;>first|kernel_rfl|decide
def ty326:TyD:=⟨.func,1,8,[.v .nilFunc]⟩
theorem tyOk326:TyOk Tryz.prog 326 ty326:=by constructor<;>first|kernel_rfl|decide
def ty327:TyD:=⟨.func,1,8,[.v .nilFunc]⟩
theorem tyOk327:TyOk Tryz.prog 327 ty327:=by constructor<;>first|kernel_rfl|decide
def ty328:TyD:=⟨.func,1,8,[.v .nilFunc]⟩
theorem tyOk328:TyOk Tryz.prog 328 ty328:=by constructor<;>first|kernel_rfl|decide
def ty329:TyD:=⟨.func,1,8,[.v .nilFunc]⟩
theorem tyOk329:TyOk Tryz.prog 329 ty329:=by constructor<;>first|kernel_rfl|decide
def ty330:TyD:=⟨.int .i64,1,8,[.i .i64 0]⟩
theorem tyOk330:TyOk Tryz.prog 330 ty330:=by constructor<;>first|kernel_rfl|decide
def ty332:TyD:=⟨.func,1,8,[.v .nilFunc]⟩
theorem tyOk332:TyOk Tryz.prog 332 ty332:=by constructor<;>first|kernel_rfl|decide
def ty333:TyD:=⟨.func,1,8,[.v .nilFunc]⟩
theorem tyOk333:TyOk Tryz.prog 333 ty333:=by constructor<;>first|kernel_rfl|decide
def ty334:TyD:=⟨.func,1,8,[.v .nilFunc]⟩
theorem tyOk334:TyOk Tryz.prog 334 ty334:=by constructor<;>first|kernel_rfl|decide
def ty335:TyD:=⟨.func,1,8,[.v .nilFunc]⟩
theorem tyOk335:TyOk Tryz.prog 335 ty335:=by constructor<;>first|kernel_rfl|decide
def ty336:TyD:=⟨.func,1,8,[.v .nilFunc]⟩
theorem tyOk336:TyOk Tryz.prog 336 ty336:=by constructor<;>first|kernel_rfl|decide
def ty337:TyD:=⟨.func,1,8,[.v .nilFunc]⟩
theorem tyOk337:TyOk Tryz.prog 337 ty337:=by constructor<;>first|kernel_rfl|decide
def ty338:TyD:=⟨.int .u64,1,8,[.i .u64 0]⟩
theorem tyOk338:TyOk Tryz.prog 338 ty338:=by constructor<;>first|kernel_rfl|decide
def ty339:TyD:=⟨.func,1,8,[.v .nilFunc]⟩
theorem tyOk339:TyOk Tryz.prog 339 ty339:=by constructor<;>first|kernel_rfl|decide
def ty340:TyD:=⟨.func,1,8,[.v .nilFunc]⟩
theorem tyOk340:TyOk Tryz.prog 340 ty340:=by constructor<;>first|kernel_rfl|decide
def ty341:TyD:=⟨.func,1,8,[.v .nilFunc]⟩
theorem tyOk341:TyOk Tryz.prog 341 ty341:=by constructor<;>first|kernel_rfl|decide
def ty342:TyD:=⟨.pointer 3,1,8,[.v (.pointer none)]⟩
theorem tyOk342:TyOk Tryz.prog 342 ty342:=by constructor<;>first|kernel_rfl|decide
def ty343:TyD:=⟨.func,1,8,[.v .nilFunc]⟩
theorem tyOk343:TyOk Tryz.prog 343 ty343:=by constructor<;>first|kernel_rfl|decide
def ty344:TyD:=⟨.pointer 338,1,8,[.v (.pointer none)]⟩
theorem tyOk344:TyOk Tryz.prog 344 ty344:=by constructor<;>first|kernel_rfl|decide
def ty346:TyD:=⟨.func,1,8,[.v .nilFunc]⟩
theorem tyOk346:TyOk Tryz.prog 346 ty346:=by constructor<;>first|kernel_rfl|decide
def ty349:TyD:=⟨.array 0 16,0,0,[]⟩
theorem tyOk349:TyOk Tryz.prog 349 ty349:=by constructor<;>first|kernel_rfl|decide
def ty352:TyD:=⟨.int .u8,1,1,[.i .u8 0]⟩
theorem tyOk352:TyOk Tryz.prog 352 ty352:=by constructor<;>first|kernel_rfl|decide
def ty353:TyD:=⟨.int .u8,1,1,[.i .u8 0]⟩
theorem tyOk353:TyOk Tryz.prog 353 ty353:=by constructor<;>first|kernel_rfl|decide
def ty354:TyD:=⟨.func,1,8,[.v .nilFunc]⟩
theorem tyOk354:TyOk Tryz.prog 354 ty354:=by constructor<;>first|kernel_rfl|decide
def ty355:TyD:=⟨.int .i32,1,4,[.i .i32 0]⟩
theorem tyOk355:TyOk Tryz.prog 355 ty355:=by constructor<;>first|kernel_rfl|decide
def ty356:TyD:=⟨.int .i32,1,4,[.i .i32 0]⟩
theorem tyOk356:TyOk Tryz.prog 356 ty356:=by constructor<;>first|kernel_rfl|decide
def ty357:TyD:=⟨.struct [(0,1,12),(1,1,12),(2,1,38),(3,1,352),(4,1,5),(5,1,5),(6,1,353),(7,1,354),(8,1,296),(9,1,355),(10,1,356)],11,48,[.i .u64 0,.i .u64 0,.i .u32 0,.i .u8 0,.i .u8 0,.i .u8 0,.i .u8 0,.v .nilFunc,.v (.pointer none),.i .i32 0,.i .i32 0]⟩
theorem tyOk357:TyOk Tryz.prog 357 ty357:=by constructor<;>first|kernel_rfl|decide
def ty358:TyD:=⟨.struct [(0,1,12),(1,1,12),(2,1,38),(3,1,352),(4,1,5),(5,1,5),(6,1,353),(7,1,354),(8,1,296),(9,1,355),(10,1,356)],11,48,[.i .u64 0,.i .u64 0,.i .u32 0,.i .u8 0,.i .u8 0,.i .u8 0,.i .u8 0,.v .nilFunc,.v (.pointer none),.i .i32 0,.i .i32 0]⟩
theorem tyOk358:TyOk Tryz.prog 358 ty358:=by constructor<;>first|kernel_rfl|decide
def tyL:List (Nat×TyD):=[(1,ty1),(2,ty2),(3,ty3),(4,ty4),(5,ty5),(6,ty6),(9,ty9),(12,ty12),(15,ty15),(16,ty16),(17,ty17),(18,ty18),(19,ty19),(21,ty21),(22,ty22),(23,ty23),(24,ty24),(25,ty25),(26,ty26),(27,ty27),(28,ty28),(29,ty29),(30,ty30),(31,ty31),(32,ty32),(33,ty33),(34,ty34),(35,ty35),(36,ty36),(37,ty37),(38,ty38),(39,ty39),(40,ty40),(41,ty41),(42,ty42),(43,ty43),(44,ty44),(45,ty45),(46,ty46),(47,ty47),(48,ty48),(49,ty49),(50,ty50),(51,ty51),(52,ty52),(53,ty53),(54,ty54),(55,ty55),(56,ty56),(57,ty57),(58,ty58),(59,ty59),(60,ty60),(61,ty61),(62,ty62),(63,ty63),(64,ty64),(65,ty65),(66,ty66),(67,ty67),(68,ty68),(69,ty69),(70,ty70),(71,ty71),(72,ty72),(74,ty74),(75,ty75),(76,ty76),(77,ty77),(78,ty78),(79,ty79),(80,ty80),(81,ty81),(82,ty82),(83,ty83),(84,ty84),(85,ty85),(86,ty86),(87,ty87),(88,ty88),(89,ty89),(90,ty90),(91,ty91),(92,ty92),(93,ty93),(94,ty94),(95,ty95),(96,ty96),(97,ty97),(98,ty98),(99,ty99),(100,ty100),(101,ty101),(102,ty102),(103,ty103),(104,ty104),(105,ty105),(106,ty106),(107,ty107),(108,ty108),(109,ty109),(110,ty110),(111,ty111),(112,ty112),(113,ty113),(114,ty114),(115,ty115),(116,ty116),(118,ty118),(119,ty119),(121,ty121),(123,ty123),(125,ty125),(126,ty126),(127,ty127),(128,ty128),(130,ty130),(131,ty131),(132,ty132),(133,ty133),(134,ty134),(135,ty135),(136,ty136),(137,ty137),(138,ty138),(139,ty139),(140,ty140),(141,ty141),(142,ty142),(143,ty143),(144,ty144),(146,ty146),(147,ty147),(148,ty148),(149,ty149),(150,ty150),(152,ty152),(154,ty154),(155,ty155),(156,ty156),(158,ty158),(159,ty159),(160,ty160),(161,ty161),(163,ty163),(165,ty165),(166,ty166),(167,ty167),(169,ty169),(170,ty170),(171,ty171),(173,ty173),(174,ty174),(175,ty175),(176,ty176),(177,ty177),(179,ty179),(180,ty180),(181,ty181),(182,ty182),(183,ty183),(184,ty184),(186,ty186),(187,ty187),(188,ty188),(189,ty189),(190,ty190),(191,ty191),(192,ty192),(193,ty193),(194,ty194),(195,ty195),(196,ty196),(197,ty197),(198,ty198),(199,ty199),(200,ty200),(201,ty201),(202,ty202),(204,ty204),(205,ty205),(207,ty207),(208,ty208),(209,ty209),(210,ty210),(212,ty212),(213,ty213),(214,ty214),(215,ty215),(217,ty217),(219,ty219),(220,ty220),(221,ty221),(222,ty222),(224,ty224),(225,ty225),(226,ty226),(227,ty227),(228,ty228),(229,ty229),(230,ty230),(231,ty231),(233,ty233),(234,ty234),(235,ty235),(236,ty236),(237,ty237),(238,ty238),(239,ty239),(240,ty240),(241,ty241),(242,ty242),(243,ty243),(244,ty244),(248,ty248),(249,ty249),(250,ty250),(251,ty251),(252,ty252),(253,ty253),(255,ty255),(257,ty257),(258,ty258),(259,ty259),(260,ty260),(261,ty261),(262,ty262),(263,ty263),(264,ty264),(265,ty265),(266,ty266),(267,ty267),(268,ty268),(269,ty269),(270,ty270),(271,ty271),(272,ty272),(273,ty273),(274,ty274),(275,ty275),(276,ty276),(277,ty277),(278,ty278),(279,ty279),(280,ty280),(281,ty281),(282,ty282),(283,ty283),(284,ty284),(285,ty285),(286,ty286),(287,ty287),(288,ty288),(289,ty289),(290,ty290),(291,ty291),(292,ty292),(293,ty293),(294,ty294),(295,ty295),(296,ty296),(297,ty297),(298,ty298),(299,ty299),(300,ty300),(302,ty302),(303,ty303),(304,ty304),(305,ty305),(306,ty306),(307,ty307),(308,ty308),(309,ty309),(311,ty311),(312,ty312),(313,ty313),(314,ty314),(315,ty315),(317,ty317),(318,ty318),(319,ty319),(321,ty321),(323,ty323),(324,ty324),(325,ty325),(326,ty326),(327,ty327),(328,ty328),(329,ty329),(330,ty330),(332,ty332),(333,ty333),(334,ty334),(335,ty335),(336,ty336),(337,ty337),(338,ty338),(339,ty339),(340,ty340),(341,ty341),(342,ty342),(343,ty343),(344,ty344),(346,ty346),(349,ty349),(352,ty352),(353,ty353),(354,ty354),(355,ty355),(356,ty356),(357,ty357),(358,ty358)]
def tys:Tys:=⟨tyL,false,[],[],[]⟩
set_option maxRecDepth 20000
theorem tysOk:TysOk Tryz.prog tys:=⟨tyOk1,tyOk2,tyOk3,tyOk4,tyOk5,tyOk6,tyOk9,tyOk12,tyOk15,tyOk16,tyOk17,tyOk18,tyOk19,tyOk21,tyOk22,tyOk23,tyOk24,tyOk25,tyOk26,tyOk27,tyOk28,tyOk29,tyOk30,tyOk31,tyOk32,tyOk33,tyOk34,tyOk35,tyOk36,tyOk37,tyOk38,tyOk39,tyOk40,tyOk41,tyOk42,tyOk43,tyOk44,tyOk45,tyOk46,tyOk47,tyOk48,tyOk49,tyOk50,tyOk51,tyOk52,tyOk53,tyOk54,tyOk55,tyOk56,tyOk57,tyOk58,tyOk59,tyOk60,tyOk61,tyOk62,tyOk63,tyOk64,tyOk65,tyOk66,tyOk67,tyOk68,tyOk69,tyOk70,tyOk71,tyOk72,tyOk74,tyOk75,tyOk76,tyOk77,tyOk78,tyOk79,tyOk80,tyOk81,tyOk82,tyOk83,tyOk84,tyOk85,tyOk86,tyOk87,tyOk88,tyOk89,tyOk90,tyOk91,tyOk92,tyOk93,tyOk94,tyOk95,tyOk96,tyOk97,tyOk98,tyOk99,tyOk100,tyOk101,tyOk102,tyOk103,tyOk104,tyOk105,tyOk106,tyOk107,tyOk108,tyOk109,tyOk110,tyOk111,tyOk112,tyOk113,tyOk114,tyOk115,tyOk116,tyOk118,tyOk119,tyOk121,tyOk123,tyOk125,tyOk126,tyOk127,tyOk128,tyOk130,tyOk131,tyOk132,tyOk133,tyOk134,tyOk135,tyOk136,tyOk137,tyOk138,tyOk139,tyOk140,tyOk141,tyOk142,tyOk143,tyOk144,tyOk146,tyOk147,tyOk148,tyOk149,tyOk150,tyOk152,tyOk154,tyOk155,tyOk156,tyOk158,tyOk159,tyOk160,tyOk161,tyOk163,tyOk165,tyOk166,tyOk167,tyOk169,tyOk170,tyOk171,tyOk173,tyOk174,tyOk175,tyOk176,tyOk177,tyOk179,tyOk180,tyOk181,tyOk182,tyOk183,tyOk184,tyOk186,tyOk187,tyOk188,tyOk189,tyOk190,tyOk191,tyOk192,tyOk193,tyOk194,tyOk195,tyOk196,tyOk197,tyOk198,tyOk199,tyOk200,tyOk201,tyOk202,tyOk204,tyOk205,tyOk207,tyOk208,tyOk209,tyOk210,tyOk212,tyOk213,tyOk214,tyOk215,tyOk217,tyOk219,tyOk220,tyOk221,tyOk222,tyOk224,tyOk225,tyOk226,tyOk227,tyOk228,tyOk229,tyOk230,tyOk231,tyOk233,tyOk234,tyOk235,tyOk236,tyOk237,tyOk238,tyOk239,tyOk240,tyOk241,tyOk242,tyOk243,tyOk244,tyOk248,tyOk249,tyOk250,tyOk251,tyOk252,tyOk253,tyOk255,tyOk257,tyOk258,tyOk259,tyOk260,tyOk261,tyOk262,tyOk263,tyOk264,tyOk265,tyOk266,tyOk267,tyOk268,tyOk269,tyOk270,tyOk271,tyOk272,tyOk273,tyOk274,tyOk275,tyOk276,tyOk277,tyOk278,tyOk279,tyOk280,tyOk281,tyOk282,tyOk283,tyOk284,tyOk285,tyOk286,tyOk287,tyOk288,tyOk289,tyOk290,tyOk291,tyOk292,tyOk293,tyOk294,tyOk295,tyOk296,tyOk297,tyOk298,tyOk299,tyOk300,tyOk302,tyOk303,tyOk304,tyOk305,tyOk306,tyOk307,tyOk308,tyOk309,tyOk311,tyOk312,tyOk313,tyOk314,tyOk315,tyOk317,tyOk318,tyOk319,tyOk321,tyOk323,tyOk324,tyOk325,tyOk326,tyOk327,tyOk328,tyOk329,tyOk330,tyOk332,tyOk333,tyOk334,tyOk335,tyOk336,tyOk337,tyOk338,tyOk339,tyOk340,tyOk341,tyOk342,tyOk343,tyOk344,tyOk346,tyOk349,tyOk352,tyOk353,tyOk354,tyOk355,tyOk356,tyOk357,tyOk358,trivial⟩
def tysW:Tys:=⟨tyL,true,[],[],[]⟩
theorem tysWOk:TysOk Tryz.prog tysW:=tysOk
def tysP (l:List Nat):Tys:=⟨tyL,false,l,[],[]⟩
theorem tysPOk (l:List Nat):TysOk Tryz.prog (tysP l):=tysOk
def tysX (w:Bool) (p:List Nat) (l:List (Nat×List Bool)) (g:List Nat):Tys:=⟨tyL,w,p,l,g⟩
theorem tysXOk (w:Bool) (p:List Nat) (l:List (Nat×List Bool)) (g:List Nat):TysOk Tryz.prog (tysX w p l g):=tysOk
open Go Go.RowKit Towline
theorem followsB:Tryz.prog.follows .mixedOrders=true:=by kernel_rfl
end Go.Proofs.YtbkcekmahdbgdaaGreat
