/- AssocStreams: the engine, contracts and plain laws that its proof leans on, part 04. -/
import Derived.Test.YtbkcekmahdbgdaaGreatSq03
import Derived.Orders
namespace Towline
open Go Go.RowKit
set_option linter.unusedVariables false
mutual
def rowIds:AVal→List Nat
 |.rsl id _ _ _=>[id]
 |.agg l=>rowIdsL l
 |.tup l=>rowIdsL l
 |_=>[]
def rowIdsL:List AVal→List Nat
 | []=>[]
 |x::r=>rowIds x++rowIdsL r
end
def rowsOf (g:Nat→AVal):List Operand→List Nat
 | []=>[]
 |x::r=>rowIds (opnd g x)++rowsOf g r
def pubK (g:Nat→AVal) (h:Nat→Option AObj) (k:List AVal→Prop):List Operand→Prop
 | []=>k []
 |x::r=>match (opnd g x).pure with
  |true=>pubK g h (fun l=>k (opnd g x::l)) r
  |false=>viewK h (fun v=>pubK g h (fun l=>k (v::l)) r) (opnd g x)
def putF (nt:Nat) (d:Option Tmp) (v:AVal) (env:Env) (heap:Heap) (k:Env→Heap→Prop):Prop:=
 match d with
 |some t=>match Nat.blt t nt with
  |true=>forceV (fun v=>k ((t,v)::env) heap) v
  |false=>False
 |none=>k env heap
def newK (nt:Nat) (d:Option Tmp) (o:AObj) (v:Nat→AVal) (env:Env) (heap:Heap) (k:Env→Heap→Prop):Prop:=
 match d with
 |some t=>match freeEnv t env with
  |true=>match freeHeap t heap with
   |true=>putF nt (some t) (v t) env ((t,o)::heap) k
   |false=>False
  |false=>False
 |none=>False
def appK (nt:Nat) (d:Option Tmp) (old:Nat) (o:AObj) (v:Nat→AVal) (env:Env) (heap:Heap) (k:Env→Heap→Prop):Prop:=
 match killE old env with
 |some env=>match killHp old heap with
  |some heap=>newK nt d o v env heap k
  |none=>False
 |none=>False
def chkV (d:Option Tmp) (cells:List AVal) (p:Prop):Prop:=match d with
 |some t=>match AVal.freeL t cells with
  |true=>p
  |false=>False
 |none=>False
theorem chkV_ok {d:Option Tmp} {cells:List AVal} {p:Prop} (h:chkV d cells p):∃t,d=some t∧AVal.freeL t cells=true∧p:=by
 unfold chkV at h
 split at h
 ·rename_i t
  split at h
  ·rename_i hf;exact ⟨t,rfl,hf,h⟩
  ·exact h.elim
 ·exact h.elim
def ARes (nt:Nat) (d:Option Tmp) (env:Env) (heap:Heap) (k:Env→Heap→Prop):Option Res→Prop
 |none=>False
 |some (.val v)=>putF nt d v env heap k
 |some (.cond v c)=>c∧putF nt d v env heap k
 |some (.new o)=>newK nt d o (fun t=>.ptr t 0) env heap k
 |some (.newv o v c)=>match c with
  |some c=>c∧newK nt d o v env heap k
  |none=>newK nt d o v env heap k
 |some (.set id o)=>match setO id o heap with
  |some h=>putF nt d .any env h k
  |none=>False
 |some (.setc id o c)=>c∧match setO id o heap with
  |some h=>putF nt d .any env h k
  |none=>False
 |some (.mkrow t sz n f c)=>match c with
  |some c=>c∧newK nt d (.row t sz n f) (fun d=>.rsl d sz 0 n) env heap k
  |none=>newK nt d (.row t sz n f) (fun d=>.rsl d sz 0 n) env heap k
 |some (.ndb c)=>∀b,c b→putF nt d (.d (.b b)) env heap k
 |some (.str c)=>∃l,c l∧putF nt d (.d (.s l)) env heap k
 |some (.pub id v)=>forceH (fun hp=>putF nt d v env hp k) (dropH [id] heap)
 |some (.app old t sz n f c)=>c∧appK nt d old (.row t sz n f) (fun d=>.rsl d sz 0 n) env heap k
 |some (.appv old t cells c)=>c∧chkV d cells (appK nt d old (.vrow t cells) (fun d=>.rsl d 1 0 cells.length) env heap k)
 |some (.mkv t cells c)=>c∧chkV d cells (newK nt d (.vrow t cells) (fun d=>.rsl d 1 0 cells.length) env heap k)
 |some (.mget ky l z ok)=>∃f,findD ky l=some f∧putF nt d (okM ok (.d (getD2 z f)) (isS f)) env heap k
 |some (.mput id ky x l)=>∃f,findD ky l=some f∧∃l',putM f ky x l=l'∧match setO id (.dmp l') heap with
  |some h=>putF nt d .any env h k
  |none=>False
 |some (.mdel id ky l)=>∃f,findD ky l=some f∧∃l',delM f l=l'∧match setO id (.dmp l') heap with
  |some h=>putF nt d .any env h k
  |none=>False
def frzK (k:Env→Heap→Prop):List (Nat×Operand)→Env→Heap→Prop
 | [],env,heap=>k env heap
 |(_,.tmp t)::r,env,heap=>match look t env with
  |.rsl id sz o n=>viewK (restrictH [id] fun i=>lookO i heap) (fun v=>forceH (fun hp=>frzK k r ((t,v)::env) hp) (dropH [id] heap)) (.rsl id sz o n)
  |_=>frzK k r env heap
 |_::r,env,heap=>frzK k r env heap
def gtmp (ops:Array Oper) (j:Nat):Option Tmp:=(ops[j]?).bind (·.dst)
def putP (nt:Nat) (d:Option Tmp) (exact:Bool) (env:Env) (heap:Heap) (k:Env→Heap→Prop) (r:AVal):Prop:=
 match exact with
 |true=>putF nt d r env heap k
 |false=>match r.flat with
  |true=>putF nt d r env heap k
  |false=>False
def putR (nt:Nat) (d:Option Tmp) (exact:Bool) (env:Env) (heap:Heap) (k:Env→Heap→Prop) (r:AVal):Prop:=
 match r with
 |.fresh t sz n f=>match exact with
  |true=>match Nat.blt t markT with
   |true=>newK nt d (.row t sz n f) (fun d=>.rsl d sz 0 n) env heap k
   |false=>False
  |false=>False
 |r=>putP nt d exact env heap k r
def ACall (P:Program) (nt:Nat) (d:Option Tmp) (env:Env) (heap:Heap) (k:Env→Heap→Prop) (f:FuncId) (args:List AVal) (exact:Bool):Prop:=
 ∃post,PSpec P f args post∧∀r,post r→putR nt d exact env heap k r
def convS (T:Tys) (src dst:TypeId) (v:AVal):Option (List UInt8):=
 match lookT src T with
 |some ⟨.string,_,_,_⟩=>match lookT dst T with
  |some ⟨.slice e,_,_,_⟩=>match lookT e T with
   |some ⟨.int .u8,_,_,_⟩=>match v with
    |.d (.s l)=>some l
    |_=>none
   |_=>none
  |_=>none
 |_=>none
theorem convS_some {P:Program} {T:Tys} (hT:TysOk P T) {src dst:TypeId} {v:AVal} {l:List UInt8} (h:convS T src dst v=some l):v=.d (.s l)∧P.underlying src=some .string∧∃e,P.underlying dst=some (.slice e)∧P.underlying e=some (.int .u8):=by
 unfold convS at h
 split at h
 ·rename_i e1
  split at h
  ·rename_i e2
   split at h
   ·rename_i e3
    split at h
    ·cases h
     exact ⟨rfl,(hT.get e1).string rfl,_,(hT.get e2).slice rfl,(hT.get e3).int rfl⟩
    ·cases h
   ·cases h
  ·cases h
 ·cases h
theorem conv_bytes {P:Program} (w:World) (R:Nat→Prop) {src dst e:TypeId} (l:List UInt8) (hs:P.underlying src=some .string) (hd:P.underlying dst=some (.slice e)) (he:P.underlying e=some (.int .u8)) (hl:l.length≤9223372036854775807) :
  ∃v w',(convert src dst (.string ⟨l.toArray⟩)).run P w=.ok v w'∧Below w.heap.size w w'∧RepA w' (L0 w.heap.size) (fun b=>R b∨(w.heap.size≤b∧b<w'.heap.size)) (.d (.sl 1 l.length (bytesF l))) v:=by
 refine ⟨_,_,run_bytes_of_string (P:=P) w src dst e ⟨l.toArray⟩ hs hd he,(Below.refl _ w).drew.alloc (Nat.le_refl _) _,?_⟩
 have hz:(⟨l.toArray⟩:ByteArray).size=l.length:=by show l.toArray.size=_;simp
 have hge:=grownCap_ge w (⟨l.toArray⟩:ByteArray).size 0 e
 have hle:=grownCap_le_maxLen w (⟨l.toArray⟩:ByteArray).size 0 e (by rw [hz];exact hl)
 rw [hz] at hge hle ⊢
 by_cases h0:l.length=0
 ·obtain rfl:=List.eq_nil_of_length_eq_zero h0
  exact .d (.sl0 _ _ _ _ hle)
 refine .d (.sl 1 l.length (bytesF l) w.heap.size 0 _ (fun k _=>.int .u8 ((l.getD k 0).toNat:Nat)) (by omega) hge hle (.inr ⟨Nat.le_refl _,?_⟩) ?_ (fun _ _=>rfl) (fun k hk j hj=>?_) (fun k hk j x hx=>?_))
 ·show _<(w.heap.push _).size
  simp
 ·show _<(w.heap.push _).size
  simp
 ·have:j=0:=by omega
  subst this
  have h1:=World.cell?_alloc_mark w.drew (bytesRow ⟨l.toArray⟩ (grownCap w l.length 0 e)) e ((bytesRow ⟨l.toArray⟩ (grownCap w l.length 0 e)).size,(bytesRow ⟨l.toArray⟩ (grownCap w l.length 0 e)).size+1) k
  have h3:=bytesRow_at ⟨l.toArray⟩ (grownCap w l.length 0 e) k (by simpa using hk)
  rw [h3] at h1
  have e1:0+k*1+0=k:=by omega
  rw [e1]
  have e2:(⟨l.toArray⟩:ByteArray).data[k]'(by simpa using hk)=l.getD k 0:=by
   rw [List.getD_eq_getElem?_getD,List.getElem?_eq_getElem hk]
   simp
  rw [e2] at h1
  exact h1
 ·match j,hx with
  |0,hx=>
   cases hx
   exact .i _ _
theorem conv_row {P:Program} (w:World) {src dst e:TypeId} (l:List UInt8) (hs:P.underlying src=some .string) (hd:P.underlying dst=some (.slice e)) (he:P.underlying e=some (.int .u8)) (hl:l.length≤9223372036854775807) :
  ∃v w' cap,(convert src dst (.string ⟨l.toArray⟩)).run P w=.ok v w'∧Below w.heap.size w w'∧w.heap.size<w'.heap.size∧∀(L:Lay) (d:Nat) (gd:Nat→Prop),
   RepO w' gd (L.upd d (some w.heap.size) cap) d (.row markT 1 l.length (bytesF l))∧RepA w' (L.upd d (some w.heap.size) cap) gd (.rsl d 1 0 l.length) v:=by
 have hz:(⟨l.toArray⟩:ByteArray).size=l.length:=by show l.toArray.size=_;simp
 have hge:=grownCap_ge w (⟨l.toArray⟩:ByteArray).size 0 e
 have hle:=grownCap_le_maxLen w (⟨l.toArray⟩:ByteArray).size 0 e (by rw [hz];exact hl)
 have hrun:=run_bytes_of_string (P:=P) w src dst e ⟨l.toArray⟩ hs hd he
 rw [hz] at hge hle hrun
 generalize hcap:grownCap w l.length 0 e=cap at hge hle hrun
 have hsz:(bytesRow ⟨l.toArray⟩ cap).size=cap:=by
  unfold bytesRow
  rw [Array.size_append,Array.size_map,Array.size_replicate,hz]
  show l.toArray.size+_=_
  rw [List.size_toArray];omega
 refine ⟨_,_,cap,hrun,(Below.refl _ w).drew.alloc (Nat.le_refl _) _,?_,fun L d gd=>⟨?_,?_⟩⟩
 ·show _<(w.heap.push _).size
  simp
 ·refine .row (b:=w.heap.size) (cs:=bytesRow ⟨l.toArray⟩ cap) (by simp [Lay.upd]) (heap_alloc_new w.drew _) (by simpa [Lay.upd] using hge) (by simpa [Lay.upd] using hle) (by simpa [Lay.upd] using hsz) (fun _ _=>rfl) (fun k hk j x hx=>?_) (fun h=>absurd h (Nat.lt_irrefl _)) (.inr ⟨rfl,Nat.le_refl _⟩) (fun m hm=>by unfold markT arT at hm;omega)
  match j,hx with
  |0,hx=>
   cases hx
   have h3:=bytesRow_at ⟨l.toArray⟩ cap k (by simpa using hk)
   rw [show k*1+0=k from by omega,Array.getD_eq_getD_getElem?,h3]
   have e2:(⟨l.toArray⟩:ByteArray).data[k]'(by simpa using hk)=l.getD k 0:=by
    rw [List.getD_eq_getElem?_getD,List.getElem?_eq_getElem hk]
    simp
   rw [e2]
   exact .i _ _
 ·have:RepA (w.drew.alloc (.cells (bytesRow ⟨l.toArray⟩ cap) e ((bytesRow ⟨l.toArray⟩ cap).size,(bytesRow ⟨l.toArray⟩ cap).size+1))) (L.upd d (some w.heap.size) cap) gd (.rsl d 1 0 l.length) (.slice (((L.upd d (some w.heap.size) cap).blk d).map fun b=>⟨b,0*1,none⟩) l.length ((L.upd d (some w.heap.size) cap).cap d-0)):=
   .rsl (by simpa [Lay.upd] using hge) (fun _=>⟨_,by simp [Lay.upd];rfl⟩) (fun _=>rfl)
  simpa [Lay.upd] using this
def AStep (P : Program) (T : Tys) (nt : Nat) (o : Oper) (env : Env) (heap : Heap) (k : Env → Heap → Prop) : Prop :=
  match o.op with
  | .call { callee := .value f, args := as, .. } => match lentTo T (opnd (fun t => look t env) f) with
    | some ms => match opnd (fun t => look t env) f with
      | .fn f caps => lendK (fun i => lookO i heap) (fun l p => forceH (fun hp => ALend P nt o.dst env hp k f (l ++ capsN caps)) (dropH p heap)) ms (as.toList.map (opnd fun t => look t env)) []
      | _ => False
    | none => match (match o.dst with | some d => memN d T.pub | none => false) with
     | true => match opnd (fun t => look t env) f with
      | .fn f [] => pubK (fun t => look t env) (restrictH (rowsOf (fun t => look t env) as.toList) fun i => lookO i heap) (fun l => ACall P nt o.dst env (dropH (rowsOf (fun t => look t env) as.toList) heap) k f l true) as.toList
      | _ => False
     | false => match opnd (fun t => look t env) f with
      | .fn f caps => argK (fun t => look t env) (fun i => lookO i heap) caps (ACall P nt o.dst env heap k f) as.toList
      | .d (.cl f n ds) => argK (fun t => look t env) (fun i => lookO i heap) [] (fun l b => ACall P nt o.dst env heap k f (l ++ capsF n 0 ds) b) as.toList
      | _ => False
  | .convert src dst x => match convS T src dst (opnd (fun t => look t env) x) with
    | some l => l.length ≤ 9223372036854775807 ∧ (match (match o.dst with | some d => memN d T.pub | none => false) with
      | true => newK nt o.dst (.row markT 1 l.length (bytesF l)) (fun d => .rsl d 1 0 l.length) env heap k
      | false => putR nt o.dst true env heap k (.d (.sl 1 l.length (bytesF l))))
    | none => ARes nt o.dst env heap k (aop T (fun t => look t env) (fun i => lookO i heap) (.convert src dst x))
  | .buildSlice ty n els => frzK (fun env heap => ARes nt o.dst env heap k (aop T (fun t => look t env) (fun i => lookO i heap) (.buildSlice ty n els))) els.toList env heap
  | op => ARes nt o.dst env heap k (aop T (fun t => look t env) (fun i => lookO i heap) op)
def AOps (P:Program) (T:Tys) (nt:Nat) (ops:Array Oper) (K:Env→Heap→Prop):List Oper→Env→Heap→Prop
 | [],env,heap=>K env heap
 |o::r,env,heap=>
  match o.guard with
  |none=>AStep P T nt o env heap (AOps P T nt ops K r)
  |some (j,want)=>match gtmp ops j with
   |some t=>match look t env with
    |.d (.b x)=>match x with
     |true=>match want with
      |true=>AStep P T nt o ((t,.d (.b true))::env) heap (AOps P T nt ops K r)
      |false=>putF nt o.dst (.tup []) ((t,.d (.b true))::env) heap (AOps P T nt ops K r)
     |false=>match want with
      |true=>putF nt o.dst (.tup []) ((t,.d (.b false))::env) heap (AOps P T nt ops K r)
      |false=>AStep P T nt o ((t,.d (.b false))::env) heap (AOps P T nt ops K r)
    |.tup []=>putF nt o.dst (.tup []) env heap (AOps P T nt ops K r)
    |_=>False
   |none=>False
section
variable {C : Ctx} {T : Tys} {L : Lay} {env : Env} {heap : Heap} {a : Act} {w : World}
theorem repA_tup0 {gd:Nat→Prop} {v:Value} (h:RepA w L gd (.tup []) v):v=undef:=by
 cases h with
 | @tup _ l vs hz h=>
  have:vs = #[]:=Array.eq_empty_of_size_eq_zero hz
  rw [this];rfl
theorem yielded_undef {ops:Array Oper} {tmps:Array Value} {j t:Nat} (ht:gtmp ops j=some t) (hb:tmps.getD t undef=undef):yielded ops tmps j=none:=by
 unfold yielded
 have:(ops[j]?).bind (·.dst)=some t:=ht
 rw [this]
 rw [Array.getD_eq_getD_getElem?] at hb
 simp only [Option.bind_some]
 cases h:tmps[t]? with
 |none=>rfl
 |some v=>rw [h] at hb;simp only [Option.getD_some] at hb;rw [hb];rfl
theorem Rel.holds {g:Nat→AVal} {h:Nat→Option AObj} (H:Rel C L g h a w):Holds w (good C L h w) L g h a:=⟨H.slot,H.obj,H.goodW⟩
theorem putF_ok {d:Option Tmp} {v:AVal} {k:Env→Heap→Prop} (h:Rel C L (lk env) (lko heap) a w) (hk:putF C.nt d v env heap k) {u:Value} (hv:RepA w L (good C L (lko heap) w) v u):∃env',k env' heap∧Rel C L (lk env') (lko heap) (a.put d u) w:=by
 unfold putF at hk
 cases d with
 |none=>exact ⟨env,hk,h⟩
 |some t=>
  simp only at hk
  cases hb:Nat.blt t C.nt with
  |false=>rw [hb] at hk;exact hk.elim
  |true=>
   rw [hb] at hk
   have hlt:t<C.nt:=Nat.lt_of_succ_le (by simpa [Nat.blt] using hb)
   exact ⟨_,forceV_eq hk,by rw [lk_cons];exact h.put hlt hv⟩
theorem putF_lt {nt t:Nat} {v:AVal} {env:Env} {heap:Heap} {k:Env→Heap→Prop} (hk:putF nt (some t) v env heap k):t<nt:=by
 unfold putF at hk
 simp only at hk
 cases hbl:Nat.blt t nt with
 |false=>rw [hbl] at hk;exact hk.elim
 |true=>exact Nat.lt_of_succ_le (by simpa [Nat.blt] using hbl)
theorem newK_ok {d:Option Tmp} {o:AObj} {v:Nat→AVal} {k:Env→Heap→Prop} (h:Rel C L (lk env) (lko heap) a w) (hk:newK C.nt d o v env heap k) {w':World} {nb:Option Nat} {nc:Nat} {u:Value} (hb:Below w.heap.size w w') (hnb:∀b,nb=some b→w.heap.size≤b∧b<w'.heap.size)
  (ho:∀t,(∀s,(look s env).free t=true)→RepO w' (good C (L.upd t nb nc) (hput (lko heap) t o) w') (L.upd t nb nc) t o∧RepA w' (L.upd t nb nc) (good C (L.upd t nb nc) (hput (lko heap) t o) w') (v t) u) :
  ∃L' env' heap',k env' heap'∧Rel C L' (lk env') (lko heap') (a.put d u) w':=by
 unfold newK at hk
 cases d with
 |none=>exact hk.elim
 |some t=>
  simp only at hk
  cases h1:freeEnv t env with
  |false=>rw [h1] at hk;exact hk.elim
  |true=>
   rw [h1] at hk
   simp only at hk
   cases h2:freeHeap t heap with
   |false=>rw [h2] at hk;exact hk.elim
   |true=>
    rw [h2] at hk
    simp only at hk
    obtain ⟨o1,o2⟩:=ho t (freeEnv_look h1)
    have hnew:=h.new (h.lid_slot (putF_lt hk)) (freeEnv_look h1) (freeHeap_look h2) hb nb nc hnb (o:=o) o1
    rw [←lko_cons] at hnew o2
    obtain ⟨env',k1,k2⟩:=putF_ok hnew hk o2
    exact ⟨_,env',_,k1,k2⟩
theorem putR_ok {d:Option Tmp} {k:Env→Heap→Prop} {exact_:Bool} (h:Rel C L (lk env) (lko heap) a w) {w':World} (hbel:Below w.heap.size w w') {r:AVal} {v:Value} (hk:putR C.nt d exact_ env heap k r) (hrep:RepR w w' (seen (good C L (lko heap) w) w exact_) r v) :
  ∃L' env' heap',k env' heap'∧Rel C L' (lk env') (lko heap') (a.put d v) w':=by
 have hw':=h.world (hbel.mono h.below.size) (fun b hb=>hbel.block b hb)
 have hnew:∀b,w.heap.size≤b→b<w'.heap.size→good C L (lko heap) w' b:=fun b hb1 hb2=>⟨hb2,.inr (.inl (Nat.le_trans h.below.size hb1)),fun ⟨id,ob,h1,h2⟩=>by have:=(h.own0 id ob b h1 h2).2;omega⟩
 have plain:∀{r:AVal},putP C.nt d exact_ env heap k r→r.data=true→RepA w' (L0 w.heap.size) (fun b=>seen (good C L (lko heap) w) w exact_ b∨(w.heap.size≤b∧b<w'.heap.size)) r v→
   ∃L' env' heap',k env' heap'∧Rel C L' (lk env') (lko heap') (a.put d v) w':=by
  intro r hk hd hrep
  unfold putP at hk
  cases exact_ with
  |true=>
   have hrep':RepA w' L (good C L (lko heap) w') r v:=hrep.data (Nat.le_refl _) hd fun b _ hb=>⟨by
    rcases hb with hb|⟨hb1,hb2⟩
    ·exact ⟨Nat.lt_of_lt_of_le hb.1 hbel.size,hb.2⟩
    ·exact hnew b hb1 hb2,rfl⟩
   obtain ⟨env',k1,k2⟩:=putF_ok hw' hk hrep'
   exact ⟨_,_,_,k1,k2⟩
  |false=>
   simp only at hk
   cases hf:r.flat with
   |false=>rw [hf] at hk;exact hk.elim
   |true=>
    rw [hf] at hk
    obtain ⟨env',k1,k2⟩:=putF_ok hw' hk (hrep.flat hf)
    exact ⟨_,_,_,k1,k2⟩
 cases r with
 |fresh t sz n f=>
  cases exact_ with
  |false=>exact hk.elim
  |true=>
   obtain ⟨xs,hown,hf,hr⟩:=hrep
   cases hbt:Nat.blt t markT with
   |false=>simp only [putR,hbt] at hk
   |true=>
   simp only [putR,hbt] at hk
   refine newK_ok h hk hbel (nb:=v.ownBlock) (nc:=capOf v) (fun b hb=>⟨(hown.lt b hb).1,(hown.lt b hb).2⟩) fun t' _=>?_
   refine row_of_own hown hf (fun k hk j x hx=>(hr k hk j x hx).mono (Nat.le_refl _) fun b hlt hb=>⟨?_,rfl⟩) L t' (Nat.le_of_ble_eq_true hbt)
   obtain ⟨hb1,hb2⟩:=hb
   have hgb:good C L (lko heap) w' b:=by
    rcases hb1 with hb|⟨hb1,hb3⟩
    ·exact ⟨Nat.lt_of_lt_of_le hb.1 hbel.size,hb.2⟩
    ·exact hnew b hb1 hb3
   refine ⟨hgb.1,hgb.2.1,?_⟩
   rintro ⟨i,oi,h1,h2⟩
   unfold hput at h1
   split at h1
   ·rename_i hi
    simp only [Lay.upd,hi,if_true] at h2
    exact hb2 h2
   ·rename_i hi
    simp only [Lay.upd,hi,if_false] at h2
    exact hgb.2.2 ⟨i,oi,h1,h2⟩
 |any=>exact plain hk hrep.1 hrep.2
 |d x=>exact plain hk hrep.1 hrep.2
 |agg l=>exact plain hk hrep.1 hrep.2
 |tup l=>exact plain hk hrep.1 hrep.2
 |fn=>cases hrep.1
 |eptr=>cases hrep.1
 |ptr=>cases hrep.1
 |rsl=>cases hrep.1
 |rptr=>cases hrep.1
 |mref=>cases hrep.1
theorem pubK_ok {gd:Nat→Prop} {g:Nat→AVal} {h:Nat→Option AObj} (hslot:∀x,RepA w L gd (opnd g x) (a.eval x)) (ho:∀id o,h id=some o→RepO w gd L id o) (hb:∀id o b,h id=some o→L.blk id=some b→gd b∧b<w.heap.size) :
  ∀{as:List Operand} {k:List AVal→Prop},pubK g h k as→∃l,k l∧l.length=as.length∧∀(i:Nat) (x:AVal),l[i]? = some x→RepA w (L0 w.heap.size) gd x ((as.map a.eval).getD i undef)
 | [],k,hk=>⟨[],hk,rfl,fun i x hx=>by simp at hx⟩
 |x::r,k,hk=>by
  have main:∀y,pubK g h (fun l=>k (y::l)) r→RepA w (L0 w.heap.size) gd y (a.eval x)→∃l,k l∧l.length=(x::r).length∧∀(i:Nat) (z:AVal),l[i]? = some z→RepA w (L0 w.heap.size) gd z (((x::r).map a.eval).getD i undef):=by
   intro y hk hy
   obtain ⟨l,e1,e2,e3⟩:=pubK_ok hslot ho hb hk
   refine ⟨y::l,e1,by simp [e2],fun i z hz=>?_⟩
   cases i with
   |zero=>simp only [List.getElem?_cons_zero,Option.some.injEq] at hz;subst hz;exact hy
   |succ i=>simpa using e3 i z hz
  simp only [pubK] at hk
  cases hp:(opnd g x).pure with
  |true=>
   rw [hp] at hk
   exact main _ hk ((hslot x).enter hp)
  |false=>
   rw [hp] at hk
   obtain ⟨y,h1,h2,h3⟩:=viewK_ok (gd':=gd) (L0 w.heap.size) ho (fun b hb=>hb) hb _ _ _ hk (hslot x)
   exact main y h1 h3
theorem ARes_ok (hT:TysOk C.P T) {o:Oper} {k:Env→Heap→Prop} (h:Rel C L (lk env) (lko heap) a w) (ares:ARes C.nt o.dst env heap k (aop T (fun t=>look t env) (fun i=>lookO i heap) o.op)) {next:Act→World→Prop} {Q:Exit→Act→World→Prop}
  (hn:∀L env heap a w,k env heap→Rel C L (lk env) (lko heap) a w→next a w):o.wp C.P a w next Q:=by
 cases hr:aop T (fun t=>look t env) (fun i=>lookO i heap) o.op with
 |none=>rw [hr] at ares;exact ares.elim
 |some r=>
  rw [hr] at ares
  have hok:=aop_ok hT h.holds hr
  have makes:∀{ob:AObj} {v:Nat→AVal},newK C.nt o.dst ob v env heap k→(∀d,o.dst=some d→(∀t,(look t env).free d=true)→MakesOk C.P w (good C L (lko heap) w) L a o d (v d) ob)→o.wp C.P a w next Q:=by
   intro ob v hk hok
   have hk':=hk
   unfold newK at hk'
   cases hd:o.dst with
   |none=>rw [hd] at hk';exact hk'.elim
   |some t=>
    rw [hd] at hk' hk
    simp only at hk'
    cases h1:freeEnv t env with
    |false=>rw [h1] at hk';exact hk'.elim
    |true=>
     clear hk'
     obtain ⟨w',nb,nc,u,r1,r2,r3,r4⟩:=hok t hd (freeEnv_look h1)
     unfold newK at hk
     simp only at hk
     rw [h1] at hk
     simp only at hk
     cases h2:freeHeap t heap with
     |false=>rw [h2] at hk;exact hk.elim
     |true=>
      rw [h2] at hk
      simp only at hk
      have hst:=stays_new (C:=C) (L:=L) (h:=lko heap) (id:=t) (nb:=nb) (nc:=nc) r2 r3 ob
      have hng:=h.new_good (w':=w') (d:=t) (nb:=nb) (nc:=nc) (ob:=ob)
      have hnew:=h.new (h.lid_slot (putF_lt hk)) (freeEnv_look h1) (freeHeap_look h2) r2 nb nc r3 (o:=ob) (r4 _ hst hng).1
      have hu:=(r4 _ hst hng).2
      rw [←lko_cons] at hnew hu
      obtain ⟨env',k1,k2⟩:=putF_ok hnew hk hu
      unfold Oper.wp
      rw [r1,Oper.upon_value,hd]
      exact hn _ _ _ _ _ k1 k2
  have writes:∀{id:Nat} {ob:AObj},(match setO id ob heap with|some h=>putF C.nt o.dst .any env h k|none=>False)→(∃o0,lko heap id=some o0)→WritesOk C.P w (good C L (lko heap) w) L a o id ob→o.wp C.P a w next Q:=by
   rintro id ob hk ⟨o0,ho0⟩ ⟨b,w',r1,r2,r3,r4,r5,r6,r7,r8⟩
   cases hs:setO id ob heap with
   |none=>rw [hs] at hk;exact hk.elim
   |some h'=>
    rw [hs] at hk
    simp only at hk
    have hset:=h.set ho0 r1 r3 r4 r5 r6 r7 r8
    rw [←lko_set hs] at hset
    unfold Oper.wp
    rcases r2 with r2|⟨u,r2⟩
    ·obtain ⟨env',k1,k2⟩:=putF_ok hset hk (.any (v:=undef))
     rw [r2,Oper.upon_skip]
     exact hn _ _ _ _ _ k1 k2
    ·obtain ⟨env',k1,k2⟩:=putF_ok hset hk (.any (v:=u))
     rw [r2,Oper.upon_value]
     exact hn _ _ _ _ _ k1 k2
  cases r with
  |val v=>
   obtain ⟨u,h1,h2⟩:=hok
   obtain ⟨env',k1,k2⟩:=putF_ok h ares h2
   unfold Oper.wp
   rw [h1,Oper.upon_value]
   exact hn _ _ _ _ _ k1 k2
  |cond v c=>
   obtain ⟨u,h1,h2⟩:=hok ares.1
   obtain ⟨env',k1,k2⟩:=putF_ok h ares.2 h2
   unfold Oper.wp
   rw [h1,Oper.upon_value]
   exact hn _ _ _ _ _ k1 k2
  |new ob=>exact makes ares fun d _=>hok d
  |newv ob v c=>
   cases c with
   |none=>exact makes ares fun d _=>hok (fun q hq=>by cases hq) d
   |some c=>exact makes ares.2 fun d _=>hok (fun q hq=>by cases hq;exact ares.1) d
  |set id ob=>exact writes ares hok.1 hok.2
  |setc id ob c=>exact writes ares.2 hok.1 (hok.2 ares.1)
  |mkrow t sz n f c=>
   cases c with
   |none=>exact makes ares (fun d _ _=>hok (fun q hq=>by cases hq) d)
   |some c=>exact makes ares.2 (fun d _ _=>hok (fun q hq=>by cases hq;exact ares.1) d)
  |ndb c=>
   obtain ⟨b,h1,h2⟩:=hok
   obtain ⟨env',k1,k2⟩:=putF_ok h (ares b h2) (.d (.b b))
   unfold Oper.wp
   rw [h1,Oper.upon_value]
   exact hn _ _ _ _ _ k1 k2
  |str c=>
   obtain ⟨l,hc,hk⟩:=ares
   obtain ⟨u,h1,h2⟩:=hok l hc
   obtain ⟨env',k1,k2⟩:=putF_ok h hk h2
   unfold Oper.wp
   rw [h1,Oper.upon_value]
   exact hn _ _ _ _ _ k1 k2
  |pub id v=>
   have hk:=forceH_eq ares
   obtain ⟨⟨o0,ho0⟩,u,h1,h2⟩:=hok
   have hsub:∀i o,lko (dropH [id] heap) i=some o→lko heap i=some o:=by
    intro i o e
    have e:lookO i (dropH [id] heap)=some o:=e
    rw [lookO_dropH] at e
    exact (dropped_some e).1
   have hd:=h.drop hsub
   have hv:=h2 (good C L (lko (dropH [id] heap)) w) (fun b hb=>good_drop hsub hb) (fun b hb=>by
    have h3:=h.own0 id o0 b ho0 hb
    refine ⟨⟨h3.2,.inr h3.1,fun ⟨j,oj,k1,k2⟩=>?_⟩,h3.2⟩
    have k1:lookO j (dropH [id] heap)=some oj:=k1
    rw [lookO_dropH] at k1
    obtain ⟨k3,k4⟩:=dropped_some (h0:=fun i=>lookO i heap) k1
    have:=h.inj j id oj o0 b k3 ho0 k2 hb
    subst this
    simp [memN] at k4)
   obtain ⟨env',k1,k2⟩:=putF_ok hd hk hv
   unfold Oper.wp
   rw [h1,Oper.upon_value]
   exact hn _ _ _ _ _ k1 k2
  |app old t sz n f c=>
   obtain ⟨hc,hk⟩:=ares
   obtain ⟨⟨t0,sz0,n0,f0,hold⟩,hmv⟩:=hok
   obtain ⟨w',nb,nc,u,r1,r2,r3,r4,r5,r6,r7,r8⟩:=hmv hc (fun b hb hg=>hg.2.2 ⟨old,_,hold,hb⟩)
   unfold appK at hk
   cases he:killE old env with
   |none=>rw [he] at hk;exact hk.elim
   |some env1=>
    rw [he] at hk
    simp only at hk
    cases hh:killHp old heap with
    |none=>rw [hh] at hk;exact hk.elim
    |some heap1=>
     rw [hh] at hk
     simp only at hk
     unfold newK at hk
     cases hd:o.dst with
     |none=>rw [hd] at hk;exact hk.elim
     |some t'=>
      rw [hd] at hk
      simp only at hk
      cases h1:freeEnv t' env1 with
      |false=>rw [h1] at hk;exact hk.elim
      |true=>
       rw [h1] at hk
       simp only at hk
       cases h2:freeHeap t' heap1 with
       |false=>rw [h2] at hk;exact hk.elim
       |true=>
        rw [h2] at hk
        simp only at hk
        have ke:=killE_look he
        have kh:=killHp_look hh
        obtain ⟨happ,hst⟩:=h.app (d:=t') (h.lid_slot (putF_lt hk)) (o:=.row t sz n f) hold (fun s=>by rw [←ke];exact freeEnv_look h1 s) (fun j oj hj=>by rw [←kh] at hj;exact freeHeap_look h2 j oj hj) r2 r3 r4 r5 r6 nb nc r7 (fun gd' hst=>(r8 t' gd' hst).1)
        have hu:=(r8 t' _ hst).2
        rw [←ke,←kh,←lko_cons] at happ
        rw [←kh,←lko_cons] at hu
        obtain ⟨env',k1,k2⟩:=putF_ok happ hk hu
        unfold Oper.wp
        rw [r1,Oper.upon_value,hd]
        exact hn _ _ _ _ _ k1 k2
  |appv old t cells c=>
   obtain ⟨hc,hk⟩:=ares
   obtain ⟨tf,hdf,hfr,hk⟩:=chkV_ok hk
   obtain ⟨⟨t0,c0,hold⟩,hmv⟩:=hok
   obtain ⟨w',nb,nc,u,r1,r2,r3,r4,r5,r6,r7,r8⟩:=hmv hc (fun b hb hg=>hg.2.2 ⟨old,_,hold,hb⟩)
   unfold appK at hk
   cases he:killE old env with
   |none=>rw [he] at hk;exact hk.elim
   |some env1=>
    rw [he] at hk
    simp only at hk
    cases hh:killHp old heap with
    |none=>rw [hh] at hk;exact hk.elim
    |some heap1=>
     rw [hh] at hk
     simp only at hk
     unfold newK at hk
     cases hd:o.dst with
     |none=>rw [hd] at hk;exact hk.elim
     |some t'=>
      obtain rfl:tf=t':=Option.some.inj (hdf.symm.trans hd)
      rw [hd] at hk
      simp only at hk
      cases h1:freeEnv tf env1 with
      |false=>rw [h1] at hk;exact hk.elim
      |true=>
       rw [h1] at hk
       simp only at hk
       cases h2:freeHeap tf heap1 with
       |false=>rw [h2] at hk;exact hk.elim
       |true=>
        rw [h2] at hk
        simp only at hk
        have ke:=killE_look he
        have kh:=killHp_look hh
        obtain ⟨happ,hst⟩:=h.app (d:=tf) (h.lid_slot (putF_lt hk)) (o:=.vrow t cells) hold (fun s=>by rw [←ke];exact freeEnv_look h1 s) (fun j oj hj=>by rw [←kh] at hj;exact freeHeap_look h2 j oj hj) r2 r3 r4 r5 r6 nb nc r7 (fun gd' hst=>(r8 tf gd' hfr hst fun b hb=>r6 b (h.old_lt hb) (fun e=>h.old_own hb hold e.symm)).1)
        have hu:=(r8 tf _ hfr hst fun b hb=>r6 b (h.old_lt hb) (fun e=>h.old_own hb hold e.symm)).2
        rw [←ke,←kh,←lko_cons] at happ
        rw [←kh,←lko_cons] at hu
        obtain ⟨env',k1,k2⟩:=putF_ok happ hk hu
        unfold Oper.wp
        rw [r1,Oper.upon_value,hd]
        exact hn _ _ _ _ _ k1 k2
  |mget ky l z ok=>
   obtain ⟨f,hf,hk⟩:=ares
   obtain ⟨u,h1,h2⟩:=hok f hf
   obtain ⟨env',k1,k2⟩:=putF_ok h hk h2
   unfold Oper.wp
   rw [h1,Oper.upon_value]
   exact hn _ _ _ _ _ k1 k2
  |mput id ky x l=>
   obtain ⟨f,hf,l',rfl,hk⟩:=ares
   exact writes hk hok.1 (hok.2 f hf)
  |mdel id ky l=>
   obtain ⟨f,hf,l',rfl,hk⟩:=ares
   exact writes hk hok.1 (hok.2 f hf)
  |mkv t cells c=>
   obtain ⟨hc,hk⟩:=ares
   obtain ⟨tf,hdf,hfr,hk⟩:=chkV_ok hk
   exact makes hk fun d hd _=>hok hc d (by obtain rfl:tf=d:=Option.some.inj (hdf.symm.trans hd);exact hfr)
theorem frzK_ok {k:Env→Heap→Prop}:∀{l:List (Nat×Operand)} {env:Env} {heap:Heap},frzK k l env heap→Rel C L (lk env) (lko heap) a w→∃env' heap',k env' heap'∧Rel C L (lk env') (lko heap') a w
 | [],env,heap,hk,h=>⟨env,heap,hk,h⟩
 |(_,.const _)::r,env,heap,hk,h=>frzK_ok (l:=r) hk h
 |(_,.func _)::r,env,heap,hk,h=>frzK_ok (l:=r) hk h
 |(_,.global _)::r,env,heap,hk,h=>frzK_ok (l:=r) hk h
 |(_,.tmp t)::r,env,heap,hk,h=>by
  unfold frzK at hk
  split at hk
  ·rename_i id sz o n e
   have hsub:∀i o,lko (dropH [id] heap) i=some o→lko heap i=some o:=by
    intro i o e
    have e:lookO i (dropH [id] heap)=some o:=e
    rw [lookO_dropH] at e
    exact (dropped_some e).1
   have hd:=h.drop hsub
   obtain ⟨y,h1,h2,h3⟩:=viewK_ok (gd:=good C L (lko (dropH [id] heap)) w) (gd':=good C L (lko (dropH [id] heap)) w) L (fun i ob e=>by
     refine (h.obj i ob (restrictH_some e)).mono (Nat.le_refl _) (fun b _ hb=>⟨⟨hb.1,hb.2.1,fun ⟨i,o,h1,h2⟩=>hb.2.2 ⟨i,o,hsub i o h1,h2⟩⟩,rfl⟩) (fun _ _=>rfl) (fun b _ hb=>⟨hb,rfl⟩) (fun _=>true) (fun _ _=>⟨rfl,rfl⟩) rfl (fun _ h=>by cases h)) (fun b hb=>hb) (fun i ob b h1 h2=>by
     have h1':=restrictH_some h1
     have h3:=h.own0 i ob b h1' h2
     refine ⟨⟨h3.2,.inr h3.1,fun ⟨j,o,k1,k2⟩=>?_⟩,h3.2⟩
     have hi:=h.inj j i o ob b (hsub j o k1) h1' k2 h2
     subst hi
     have k1:lookO j (dropH [id] heap)=some o:=k1
     rw [lookO_dropH] at k1
     unfold restrictH at h1
     cases hm:memN j [id] with
     |true=>rw [hm] at k1;simp at k1
     |false=>rw [hm] at h1;cases h1) _ _ _ hk (by
      have:=hd.slot t
      rw [show lk env t=.rsl id sz o n from e] at this
      exact this)
   have hk2:=forceH_eq h1
   refine frzK_ok (l:=r) hk2 ?_
   rw [lk_cons]
   exact { hd with
    slot:=fun s=>by
     unfold gput
     split
     ·rename_i e;subst e;exact h3
     ·exact hd.slot s}
  ·exact frzK_ok (l:=r) hk h
theorem AStep_ok (hT:TysOk C.P T) {o:Oper} {k:Env→Heap→Prop} (h:Rel C L (lk env) (lko heap) a w) (hk:AStep C.P T C.nt o env heap k) {next:Act→World→Prop} {Q:Exit→Act→World→Prop}
  (hn:∀L env heap a w,k env heap→Rel C L (lk env) (lko heap) a w→next a w):o.wp C.P a w next Q:=by
 unfold AStep at hk
 split at hk
 ·rename_i f as ts hop
  have hf:=h.holds.opnd f
  generalize hfv:a.eval f=fv at hf
  split at hk
  ·split at hk
   ·rename_i fid caps e
    have e':opnd (lk env) f=.fn fid caps:=e
    rw [e'] at hf
    obtain ⟨l,p,hk,hlen,_,hargs⟩:=lendK_st hk
    have hk:=forceH_eq hk
    have hsub:∀i o,lko (dropH p heap) i=some o→lko heap i=some o:=by
     intro i o e
     have e:lookO i (dropH p heap)=some o:=e
     rw [lookO_dropH] at e
     exact (dropped_some e).1
    have hd:=h.drop hsub
    have hlko:lko (dropH p heap)=fun j=>if memN j p=true then none else lko heap j:=by
     funext j
     show lookO j (dropH p heap)=_
     rw [lookO_dropH]
    cases hf with
    | @fn _ _ _ cvs hcz hcr=>
     have hlen':l.length=as.size:=by rw [hlen];simp
     obtain ⟨⟨fn,c,e1,e2,e3⟩,hcalls⟩:=ALend_ok hd hk (vs:=as.map a.eval++cvs) (by rw [Array.size_append,List.length_append,capsN_len,Array.size_map];omega) (fun i y hy=>by
      by_cases hi:i<l.length
      ·rw [List.getElem?_append_left hi] at hy
       have hi':i<as.size:=by omega
       have hx:(as.toList.map (opnd fun t=>look t env))[i]? = some (opnd (lk env) as[i]):=by simp [hi']
       have:=hargs C L (lk env) (lko heap) a w h (fun _ _ h=>h) i _ y (a.eval as[i]) hx hy (h.holds.opnd _)
       rw [hlko]
       rw [Array.getD_eq_getD_getElem?,Array.getElem?_append_left (by simpa using hi'),Array.getElem?_map,Array.getElem?_eq_getElem hi']
       exact this
      ·rw [List.getElem?_append_right (by omega)] at hy
       obtain ⟨x,hx,hr⟩:=capsN_get hy
       have:=hr w L _ (good C L (lko (dropH p heap)) w) _ (hcr _ x hx)
       rw [Array.getD_eq_getD_getElem?,Array.getElem?_append_right (by simp;omega)]
       rw [Array.getD_eq_getD_getElem?,hlen'] at this
       simpa using this)
     have hname : fn.name ≠ "runtime.NumGoroutine" := by simpa using e2
     have hrun:(execOp a.eval o).run C.P w=.ok (.enter fid (as.map a.eval++cvs)) w:=by
      simp [execOp,hop,resolve,hfv,Deferred.ofValue,invoke,callFunc,e1,hname,e3]
     unfold Oper.wp
     rw [hrun,Oper.upon_enter]
     refine hcalls.mono ?_
     rintro e' w' ⟨v,rfl,L',env',heap',k1,k2⟩
     exact hn _ _ _ _ _ k1 k2
   ·exact hk.elim
  split at hk
  ·split at hk
   ·rename_i fid e
    have e':opnd (lk env) f=.fn fid []:=e
    rw [e'] at hf
    generalize hids:rowsOf (fun t=>look t env) as.toList=ids at hk
    have hsub:∀i o,lko (dropH ids heap) i=some o→lko heap i=some o:=by
     intro i o e
     have e:lookO i (dropH ids heap)=some o:=e
     rw [lookO_dropH] at e
     split at e
     ·cases e
     ·exact e
    have hd:=h.drop hsub
    obtain ⟨l,⟨post,⟨⟨fn,c,e1,e2,e3⟩,hcalls⟩,hpost⟩,hl,hargs⟩:=pubK_ok (gd:=good C L (lko (dropH ids heap)) w) (a:=a) (g:=lk env) (h:=restrictH ids (lko heap)) (w:=w) (L:=L) hd.holds.opnd (fun id ob e=>by
     refine (h.obj id ob (restrictH_some e)).mono (Nat.le_refl _) (fun b _ hb=>⟨⟨hb.1,hb.2.1,fun ⟨i,o,h1,h2⟩=>hb.2.2 ⟨i,o,hsub i o h1,h2⟩⟩,rfl⟩) (fun _ _=>rfl) (fun b _ hb=>⟨hb,rfl⟩) (fun _=>true) (fun _ _=>⟨rfl,rfl⟩) rfl (fun _ h=>by cases h)) (fun id ob b h1 h2=>by
     have h1':=restrictH_some h1
     have h3:=h.own0 id ob b h1' h2
     refine ⟨⟨h3.2,.inr h3.1,fun ⟨i,o,k1,k2⟩=>?_⟩,h3.2⟩
     have hi:=h.inj i id o ob b (hsub i o k1) h1' k2 h2
     subst hi
     have k1:lookO i (dropH ids heap)=some o:=k1
     rw [lookO_dropH] at k1
     unfold restrictH at h1
     cases hm:memN i ids with
     |true=>rw [hm] at k1;simp at k1
     |false=>rw [hm] at h1;cases h1) hk
    cases hf with
    | @fn _ _ _ cvs hcz hcr=>
     have hcv:cvs = #[]:=by simpa using hcz
     subst hcv
     have hname : fn.name ≠ "runtime.NumGoroutine" := by simpa using e2
     have hrun:(execOp a.eval o).run C.P w=.ok (.enter fid (as.map a.eval ++ #[])) w:=by
      simp [execOp,hop,resolve,hfv,Deferred.ofValue,invoke,callFunc,e1,hname,e3]
     unfold Oper.wp
     rw [hrun,Oper.upon_enter]
     refine (hcalls w (good C L (lko (dropH ids heap)) w) (as.map a.eval ++ #[]) hd.goodW (fun b hb=>hb.1) (by simp [hl]) (fun i x hx=>by
      have:=hargs i x hx
      simpa [Array.getD_eq_getD_getElem?,List.getD_eq_getElem?_getD] using this)).mono ?_
     rintro e' w' ⟨v,r,rfl,hr,hbel,hrep⟩
     obtain ⟨L',env',heap',k1,k2⟩:=putR_ok hd hbel (hpost r hr) hrep
     exact hn _ _ _ _ _ k1 k2
   ·exact hk.elim
  split at hk
  ·rename_i fid caps e
   have e':opnd (lk env) f=.fn fid caps:=e
   rw [e'] at hf
   cases hf with
   | @fn _ _ _ cvs hcz hcr=>
    obtain ⟨l,b,hk,hl,hargs⟩:=argK_ok h.holds (fun b hb=>hb.1) (fun b hb=>h.old_lt hb) (fun id o b h1 h2=>(h.own0 id o b h1 h2).2) hcz hcr hk
    unfold ACall at hk
    obtain ⟨post,⟨⟨fn,c,e1,e2,e3⟩,hcalls⟩,hpost⟩:=hk
    have hname : fn.name ≠ "runtime.NumGoroutine" := by simpa using e2
    have hrun:(execOp a.eval o).run C.P w=.ok (.enter fid (as.map a.eval++cvs)) w:=by
     simp [execOp,hop,resolve,hfv,Deferred.ofValue,invoke,callFunc,e1,hname,e3]
    unfold Oper.wp
    rw [hrun,Oper.upon_enter]
    have hR:∀b',seen (good C L (lko heap) w) w b b'→b'<w.heap.size:=by
     intro b' hb'
     cases b with
     |true=>exact hb'.1
     |false=>exact hb'
    refine (hcalls w (seen (good C L (lko heap) w) w b) (as.map a.eval++cvs) (h.goodW.seen b) hR (by simp [hl]) (fun i x hx=>by
     have:=hargs b id i x hx
     simpa [Array.getD_eq_getD_getElem?,List.getD_eq_getElem?_getD,Array.getElem?_append,List.getElem?_append] using this)).mono ?_
    rintro e' w' ⟨v,r,rfl,hr,hbel,hrep⟩
    obtain ⟨L',env',heap',k1,k2⟩:=putR_ok h hbel (hpost r hr) hrep
    exact hn _ _ _ _ _ k1 k2
  ·rename_i fid n ds e
   have e':opnd (lk env) f=.d (.cl fid n ds):=e
   rw [e'] at hf
   cases hf with
   |d hcl=>
    obtain ⟨l,b,hk,hl,hargs⟩:=argK_ok h.holds (fun b hb=>hb.1) (fun b hb=>h.old_lt hb) (fun id o b h1 h2=>(h.own0 id o b h1 h2).2) (caps:=[]) (cvs:=#[]) rfl (fun i x hx=>by simp at hx) hk
    unfold ACall at hk
    obtain ⟨post,⟨⟨fn,c,e1,e2,e3⟩,hcalls⟩,hpost⟩:=hk
    have hname : fn.name ≠ "runtime.NumGoroutine" := by simpa using e2
    obtain ⟨cvs,rfl,hcz,hall⟩:=cl_args hcl (l:=l) (xs:=as.map a.eval) (gd'':=seen (good C L (lko heap) w) w b) (by simpa using hl) (fun b' hb'=>by
     cases b with
     |true=>exact hb'
     |false=>exact hb'.1) (fun i x hx=>by
     have:=hargs b id i x hx
     simpa [Array.getD_eq_getD_getElem?,List.getD_eq_getElem?_getD] using this)
    have hrun:(execOp a.eval o).run C.P w=.ok (.enter fid (as.map a.eval++cvs)) w:=by
     simp [execOp,hop,resolve,hfv,Deferred.ofValue,invoke,callFunc,e1,hname,e3]
    unfold Oper.wp
    rw [hrun,Oper.upon_enter]
    have hR:∀b',seen (good C L (lko heap) w) w b b'→b'<w.heap.size:=by
     intro b' hb'
     cases b with
     |true=>exact hb'.1
     |false=>exact hb'
    refine (hcalls w (seen (good C L (lko heap) w) w b) (as.map a.eval++cvs) (h.goodW.seen b) hR (by simp [hl,hcz,(capsF_get n 0 ds).1]) hall).mono ?_
    rintro e' w' ⟨v,r,rfl,hr,hbel,hrep⟩
    obtain ⟨L',env',heap',k1,k2⟩:=putR_ok h hbel (hpost r hr) hrep
    exact hn _ _ _ _ _ k1 k2
  ·exact hk.elim
 ·rename_i src dst x hop
  split at hk
  ·rename_i l e
   obtain ⟨hl,hk⟩:=hk
   obtain ⟨e1,e2,e,e3,e4⟩:=convS_some hT e
   have e1:opnd (lk env) x=.d (.s l):=e1
   have hx:a.eval x=.string ⟨l.toArray⟩:=repA_s (e1▸h.holds.opnd x)
   split at hk
   ·obtain ⟨v,w',cap,r1,r2,r3,r4⟩:=conv_row (P:=C.P) w l e2 e3 e4 hl
    obtain ⟨L',env',heap',k1,k2⟩:=newK_ok h hk r2 (nb:=some w.heap.size) (nc:=cap) (u:=v) (fun b hb=>by cases hb;exact ⟨Nat.le_refl _,r3⟩) fun t _=>r4 L t _
    unfold Oper.wp
    rw [show (execOp a.eval o).run C.P w=.ok (.value v) w' from by simp [execOp,hop,hx,r1,Result.andThen],Oper.upon_value]
    exact hn _ _ _ _ _ k1 k2
   obtain ⟨v,w',r1,r2,r3⟩:=conv_bytes (P:=C.P) w (seen (good C L (lko heap) w) w true) l e2 e3 e4 hl
   obtain ⟨L',env',heap',k1,k2⟩:=putR_ok (exact_:=true) h r2 hk ⟨rfl,r3⟩
   unfold Oper.wp
   rw [show (execOp a.eval o).run C.P w=.ok (.value v) w' from by simp [execOp,hop,hx,r1,Result.andThen],Oper.upon_value]
   exact hn _ _ _ _ _ k1 k2
  ·exact ARes_ok hT h (by rw [hop];exact hk) hn
 ·rename_i ty n els hop
  obtain ⟨env',heap',k1,k2⟩:=frzK_ok hk h
  exact ARes_ok hT k2 (by rw [hop];exact k1) hn
 ·exact ARes_ok hT h hk hn
end
section
variable {C : Ctx} {T : Tys} {L : Lay} {env : Env} {heap : Heap} {a : Act} {w : World}
theorem AOps_ok (hT:TysOk C.P T) {ops:Array Oper} {K:Env→Heap→Prop} {Q:Exit→Act→World→Prop} (hn:∀L env heap a w,K env heap→Rel C L (lk env) (lko heap) a w→Q .normal a w) :
  ∀(l:List Oper) (L:Lay) (env:Env) (heap:Heap) (a:Act) (w:World),AOps C.P T C.nt ops K l env heap→Rel C L (lk env) (lko heap) a w→wpList C.P ops Q l a w
 | [],L,env,heap,a,w,h,hr=>hn L env heap a w h hr
 |o::r,L,env,heap,a,w,h,hr=>by
  have step:∀env,AStep C.P T C.nt o env heap (AOps C.P T C.nt ops K r)→Rel C L (lk env) (lko heap) a w→o.wp C.P a w (wpList C.P ops Q r) Q:=fun env h hr=>
   AStep_ok hT hr h fun L env heap a w hk hr=>AOps_ok hT hn r L env heap a w hk hr
  have skip:∀env,putF C.nt o.dst (.tup []) env heap (AOps C.P T C.nt ops K r)→Rel C L (lk env) (lko heap) a w→wpList C.P ops Q r (a.put o.dst undef) w:=fun env h hr=>by
   obtain ⟨env',k1,k2⟩:=putF_ok hr h (.tup (vs:=#[]) rfl fun i x hx=>by simp at hx)
   exact AOps_ok hT hn r L env' heap _ w k1 k2
  unfold AOps at h
  unfold wpList
  cases hg:o.guard with
  |none=>
   rw [hg] at h
   rw [if_pos (by simp [Region.wanted,hg])]
   exact .inl (step env h hr)
  |some jw=>
   obtain ⟨j,want⟩:=jw
   rw [hg] at h
   simp only at h
   cases ht:gtmp ops j with
   |none=>rw [ht] at h;exact h.elim
   |some t=>
    rw [ht] at h
    simp only at h
    have hslot:RepA w L (good C L (lko heap) w) (look t env) (a.tmps.getD t undef):=hr.slot t
    split at h
    ·rename_i x e
     rw [e] at hslot
     have hb:=repA_b hslot
     have hlt:t<a.tmps.size:=by
      rcases Nat.lt_or_ge t a.tmps.size with h1|h1
      ·exact h1
      ·rw [Array.getD_eq_getD_getElem?,Array.getElem?_eq_none h1] at hb;cases hb
     have hy:yielded ops a.tmps j=some x:=by
      unfold yielded
      have:(ops[j]?).bind (·.dst)=some t:=ht
      rw [this]
      rw [Array.getD_eq_getD_getElem?,Array.getElem?_eq_getElem hlt] at hb
      simp only [Option.bind_some,Array.getElem?_eq_getElem hlt]
      simp only [Option.getD_some] at hb
      rw [hb]
     have hr':∀b,x=b→Rel C L (lk ((t,.d (.b b))::env)) (lko heap) a w:=fun b hxb=>{
      below:=hr.below
      top:=hr.top
      size:=hr.size
      defers:=hr.defers
      slot:=fun s=>by
       rw [lk_cons]
       unfold gput
       split
       ·rename_i hs;rw [hs,hb,←hxb];exact .d (.b _)
       ·exact hr.slot s
      obj:=hr.obj
      inj:=hr.inj
      own0:=hr.own0
      kept:=hr.kept
      lidn:=hr.lidn}
     have hwant:Region.wanted o (yielded ops a.tmps)=(x==want):=by simp [Region.wanted,hg,hy]
     rw [hwant]
     cases x<;>cases want<;>simp only at h
     ·rw [if_pos (by decide)];exact .inl (step _ h (hr' _ rfl))
     ·rw [if_neg (by decide)];exact skip _ h (hr' _ rfl)
     ·rw [if_neg (by decide)];exact skip _ h (hr' _ rfl)
     ·rw [if_pos (by decide)];exact .inl (step _ h (hr' _ rfl))
    ·rename_i e
     rw [e] at hslot
     rw [if_neg]
     ·exact skip _ h hr
     ·have hb:a.tmps.getD t undef=undef:=repA_tup0 hslot
      simp [Region.wanted,hg,yielded_undef ht hb]
    ·exact h.elim
def AWp (C:Ctx) (c:Code) (Q:Exit→Env→Heap→Prop) (env:Env) (heap:Heap):Prop:=
 ∀L a w,Rel C L (lk env) (lko heap) a w→c.wp C.P (fun e a' w'=>∃L' env' heap',Rel C L' (lk env') (lko heap') a' w'∧Q e env' heap') a w
section
variable {Q Q' : Exit → Env → Heap → Prop} {x y : Code}
theorem AWp.mono (h:AWp C x Q env heap) (hq:∀e env heap,Q e env heap→Q' e env heap):AWp C x Q' env heap:=
 fun L a w hr=>wp_mono (h L a w hr) fun e a w ⟨L',env',heap',h1,h2⟩=>⟨L',env',heap',h1,hq _ _ _ h2⟩
theorem AWp.region (hT:TysOk C.P T) {id:Nat} {ops:Array Oper} (h:AOps C.P T C.nt ops (Q .normal) ops.toList env heap):AWp C (.region id ops false) Q env heap:=
 fun L a w hr=>wp_region_list (AOps_ok hT (fun L env heap a w hk hr=>⟨L,env,heap,hr,hk⟩) _ L env heap a w h hr)
theorem AWp.seq (h:AWp C x (fun e env heap=>match e with|.normal=>AWp C y Q env heap|e=>Q e env heap) env heap):AWp C (.seq x y) Q env heap:=
 fun L a w hr=>wp_seq (wp_mono (h L a w hr) fun e a' w' ⟨L',env',heap',h1,h2⟩=>by
  cases e with
  |normal=>exact h2 L' a' w' h1
  |_=>exact ⟨L',env',heap',h1,h2⟩)
theorem AWp.skip (h:Q .normal env heap):AWp C .skip Q env heap:=fun L a w hr=>wp_skip ⟨L,env,heap,hr,h⟩
theorem AWp.exit {id:Nat} (h:Q (.exit id) env heap):AWp C (.exit id) Q env heap:=fun L a w hr=>wp_exit ⟨L,env,heap,hr,h⟩
theorem AWp.ret (h:Q .ret env heap):AWp C .ret Q env heap:=fun L a w hr=>wp_ret ⟨L,env,heap,hr,h⟩
theorem AWp.block {id:Nat} (h:AWp C x (fun e env heap=>match e with|.exit i=>(match Nat.beq i id with|true=>Q .normal env heap|false=>Q (.exit i) env heap)|e=>Q e env heap) env heap):AWp C (.block id x) Q env heap:=
 fun L a w hr=>wp_block (wp_mono (h L a w hr) fun e a' w' ⟨L',env',heap',h1,h2⟩=>by
  cases e with
  |exit i=>
   simp only [Exit.inBlock]
   by_cases hi:i=id
   ·subst hi
    rw [if_pos rfl]
    simp only [beq_self] at h2
    exact ⟨L',env',heap',h1,h2⟩
   ·rw [if_neg hi]
    simp only [beq_false hi] at h2
    exact ⟨L',env',heap',h1,h2⟩
  |_=>exact ⟨L',env',heap',h1,h2⟩)
theorem AWp.cond {c:Operand} {b:Bool} (hc:opnd (fun t=>look t env) c=.d (.b b)) (h1:b=true→AWp C x Q env heap) (h0:b=false→AWp C y Q env heap):AWp C (.cond c x y) Q env heap:=
 fun L a w hr=>by
  have hv:=repA_b (hc▸hr.holds.opnd c)
  exact wp_cond_split hv (fun e=>h1 e L a w hr) (fun e=>h0 e L a w hr)
def MLe:List (D×AVal)→List (D×AVal)→Prop
 | [],[]=>True
 |x::r,y::s=>(x.1=y.1∧x.2.le y.2)∧MLe r s
 |_,_=>False
def OLe:AObj→AObj→Prop
 |.box l a,.box m b=>match b with|none=>CLe l m|some t=>CLe l m∧a=some t
 |.row t sz n f,.row t' sz' n' f'=>t=t'∧sz=sz'∧n=n'∧∀k,k<n→f k=f' k
 |.mp l,.mp m=>MLe l m
 |.vrow t l,.vrow t' m=>t=t'∧CLe l m
 |.dmp l,.dmp m=>l=m
 |_,_=>False
where CLe:List AVal→List AVal→Prop
 | [],[]=>True
 |x::r,y::s=>x.le y∧CLe r s
 |_,_=>False
theorem MLe_get:∀{l m:List (D×AVal)},MLe l m→m.length=l.length∧∀(i:Nat) (y:D×AVal),m[i]? = some y→∃x,l[i]? = some x∧x.1=y.1∧x.2.le y.2
 | [],[],_=>⟨rfl,fun i y h=>by simp at h⟩
 |x::r,y::s,h=>by
  obtain ⟨h1,h2⟩:=MLe_get h.2
  refine ⟨by simp [h1],fun i z hz=>?_⟩
  cases i with
  |zero=>simp only [List.getElem?_cons_zero,Option.some.injEq] at hz;subst hz;exact ⟨x,rfl,h.1⟩
  |succ i=>simp only [List.getElem?_cons_succ] at hz ⊢;exact h2 i z hz
 | [],_::_,h=>h.elim
 |_::_,[],h=>h.elim
theorem MLe_refl:∀l:List (D×AVal),MLe l l
 | []=>trivial
 |x::r=>⟨⟨rfl,.refl x.2⟩,MLe_refl r⟩
theorem CLe_get:∀{l m:List AVal},OLe.CLe l m→m.length=l.length∧∀(i:Nat) (y:AVal),m[i]? = some y→∃x,l[i]? = some x∧x.le y
 | [],[],_=>⟨rfl,fun i y h=>by simp at h⟩
 |x::r,y::s,h=>by
  obtain ⟨h1,h2⟩:=CLe_get h.2
  refine ⟨by simp [h1],fun i z hz=>?_⟩
  cases i with
  |zero=>simp only [List.getElem?_cons_zero,Option.some.injEq] at hz;subst hz;exact ⟨x,rfl,h.1⟩
  |succ i=>simp only [List.getElem?_cons_succ] at hz ⊢;exact h2 i z hz
 | [],_::_,h=>h.elim
 |_::_,[],h=>h.elim
theorem RepO.weaken {gd:Nat→Prop} {id:Nat} {o o':AObj} (h:RepO w gd L id o) (hl:OLe o o'):RepO w gd L id o':=by
 cases h with
 | @box cells tag cs t b htag hb hh hz h1 hr=>
  cases o' with
  |row=>exact hl.elim
  |mp=>exact hl.elim
  |vrow=>exact hl.elim
  |dmp=>exact hl.elim
  |box m tag'=>
   have hl':OLe.CLe cells m∧∀t',tag'=some t'→t=t':=by
    cases tag' with
    |none=>exact ⟨hl,fun _ h=>by cases h⟩
    |some t'=>exact ⟨hl.1,fun q hq=>by cases hq;exact htag _ hl.2⟩
   obtain ⟨hl,ht⟩:=hl'
   obtain ⟨k1,k2⟩:=CLe_get hl
   exact .box ht hb hh (by omega) (fun i hi=>h1 i (by omega)) fun i y hy=>by
    obtain ⟨x,hx,hle⟩:=k2 i y hy
    exact hle.out _ _ _ _ (hr i x hx)
 |mp hb hh hz hk h1 hr=>
  cases o' with
  |row=>exact hl.elim
  |box=>exact hl.elim
  |vrow=>exact hl.elim
  |dmp=>exact hl.elim
  |mp m=>
   obtain ⟨k1,k2⟩:=MLe_get hl
   refine .mp hb hh (by omega) (fun i y e hy he=>?_) h1 fun i y e hy he=>?_
   all_goals obtain ⟨x,hx,h0,hle⟩:=k2 i y hy
   ·rw [←h0];exact hk i x e hx he
   ·exact hle.out _ _ _ _ (hr i x e hx he)
 | @vrow0 t hb hc=>
  cases o' with
  |row=>exact hl.elim
  |box=>exact hl.elim
  |mp=>exact hl.elim
  |dmp=>exact hl.elim
  |vrow t' m=>
   obtain ⟨rfl,hl⟩:=hl
   obtain ⟨k1,_⟩:=CLe_get hl
   obtain rfl:m=[]:=by cases m with|nil=>rfl|cons _ _=>simp at k1
   exact .vrow0 hb hc
 | @vrow t cells cs b hb hh hn hm hz h1 hr=>
  cases o' with
  |row=>exact hl.elim
  |box=>exact hl.elim
  |mp=>exact hl.elim
  |dmp=>exact hl.elim
  |vrow t' m=>
   obtain ⟨rfl,hl⟩:=hl
   obtain ⟨k1,k2⟩:=CLe_get hl
   exact .vrow hb hh (by omega) hm hz (fun i hi=>h1 i (by omega)) fun i y hy=>by
    obtain ⟨x,hx,hle⟩:=k2 i y hy
    exact hle.out _ _ _ _ (hr i x hx)
 | @dmp l es clock b hb hh hz hk hr=>
  cases o' with
  |row=>exact hl.elim
  |box=>exact hl.elim
  |mp=>exact hl.elim
  |vrow=>exact hl.elim
  |dmp m=>
   obtain rfl:l=m:=hl
   exact .dmp hb hh hz hk hr
 | @row0 t sz f hb hc=>
  cases o' with
  |box=>exact hl.elim
  |mp=>exact hl.elim
  |vrow=>exact hl.elim
  |dmp=>exact hl.elim
  |row t' sz' n' f'=>
   obtain ⟨rfl,rfl,rfl,_⟩:=hl
   exact .row0 hb hc
 | @row t sz n f cs b t2 mk hb hh hn hm hz hf hr hty hmk hcap0=>
  cases o' with
  |box=>exact hl.elim
  |mp=>exact hl.elim
  |vrow=>exact hl.elim
  |dmp=>exact hl.elim
  |row t' sz' n' f'=>
   obtain ⟨rfl,rfl,rfl,hff⟩:=hl
   exact .row hb hh hn hm hz (fun k hk=>by rw [←hff k hk];exact hf k hk) (fun k hk j x hx=>hr k hk j x (by rw [hff k hk];exact hx)) hty hmk hcap0
theorem OLe.box_refl:∀l:List AVal,OLe.CLe l l
 | []=>trivial
 |x::r=>⟨.refl x,OLe.box_refl r⟩
theorem OLe.refl (o:AObj):OLe o o:=by
 cases o with
 |box l tag=>
  cases tag with
  |none=>exact OLe.box_refl l
  |some t=>exact ⟨OLe.box_refl l,rfl⟩
 |row t sz n f=>exact ⟨rfl,rfl,rfl,fun _ _=>rfl⟩
 |mp l=>exact MLe_refl l
 |vrow t l=>exact ⟨rfl,OLe.box_refl l⟩
 |dmp l=>rfl
def Covers (env':Env) (heap':Heap) (env:Env) (heap:Heap):Prop:=
 (∀t,(look t env').le (look t env))∧∀id o,lookO id heap=some o→∃o',lookO id heap'=some o'∧OLe o' o
theorem Rel.weaken {env':Env} {heap':Heap} (h:Rel C L (lk env') (lko heap') a w) (hc:Covers env' heap' env heap):Rel C L (lk env) (lko heap) a w:=by
 have hg:∀b,b<w.heap.size→good C L (lko heap') w b→good C L (lko heap) w b∧w.heap[b]? = w.heap[b]?:=fun b _ hb=>⟨⟨hb.1,hb.2.1,fun ⟨id,o,h1,h2⟩=>by
  obtain ⟨o',e1,_⟩:=hc.2 id o h1
  exact hb.2.2 ⟨id,o',e1,h2⟩⟩,rfl⟩
 exact {
  below:=h.below
  top:=h.top
  size:=h.size
  defers:=h.defers
  slot:=fun t=>((hc.1 t).out _ _ _ _ (h.slot t)).mono1 (Nat.le_refl _) hg (fun _ _=>rfl)
  obj:=fun id o ho=>by
   obtain ⟨o',e1,e2⟩:=hc.2 id o ho
   exact ((h.obj id o' e1).weaken e2).mono (Nat.le_refl _) hg (fun _ _=>rfl) (fun b _ hb=>⟨hb,rfl⟩) (fun _=>true) (fun _ _=>⟨rfl,rfl⟩) rfl (fun _ h=>by cases h)
  inj:=fun i j oi oj b h1 h2=>by
   obtain ⟨o1,e1,_⟩:=hc.2 i oi h1
   obtain ⟨o2,e2,_⟩:=hc.2 j oj h2
   exact h.inj i j o1 o2 b e1 e2
  own0:=fun id o b h1=>by
   obtain ⟨o1,e1,_⟩:=hc.2 id o h1
   exact h.own0 id o1 b e1
  kept:=fun id o hl h1=>by
   obtain ⟨o1,e1,_⟩:=hc.2 id o h1
   exact h.kept id o1 hl e1
  lidn:=h.lidn}
end
end
theorem least_of {p:Nat→Prop} (h:∃n,p n):∃n,p n∧∀m,p m→n≤m:=by
 obtain ⟨n,hn⟩:=h
 induction n using Nat.strongRecOn with
 |_ n ih=>
  by_cases hlt:∃m,m<n∧p m
  ·obtain ⟨m,h1,h2⟩:=hlt
   exact ih m h1 h2
  ·exact ⟨n,hn,fun m hm=>by
    rcases Nat.lt_or_ge m n with h1|h1
    ·exact (hlt ⟨m,h1,hm⟩).elim
    ·exact h1⟩
section
variable {C : Ctx} {T : Tys} {L : Lay} {env : Env} {heap : Heap} {a : Act} {w : World} {Q : Exit → Env → Heap → Prop}
theorem AWp.loop {X:Type} {c:Code} (E:X→Env) (H:X→Heap) (μ:X→Nat) (x0:X) (h0:Covers env heap (E x0) (H x0))
  (round:∀x,AWp C c (fun e env' heap'=>match e with|.normal=>∃x',μ x'<μ x∧Covers env' heap' (E x') (H x')|e=>Q e env' heap') (E x) (H x)):AWp C (.loop c) Q env heap:=by
 intro L a w hr
 let I:Nat→Act→World→Prop:=fun n a w=>∃x L,μ x=n∧Rel C L (lk (E x)) (lko (H x)) a w
 let M:Act→World→Nat:=fun a w=>Classical.epsilon fun n=>I n a w∧∀m,I m a w→n≤m
 have hM:∀a w,(∃n,I n a w)→I (M a w) a w∧∀m,I m a w→M a w≤m:=fun a w h=>Classical.epsilon_spec (p:=fun n=>I n a w∧∀m,I m a w→n≤m) (least_of h)
 refine wp_loop (fun a w=>∃n,I n a w) M ⟨_,x0,L,rfl,hr.weaken h0⟩ fun a w hI=>?_
 obtain ⟨⟨x,L,hx,hrel⟩,hmin⟩:=hM a w hI
 refine wp_mono (round x L a w hrel) fun e a' w' ⟨L',env',heap',h1,h2⟩=>?_
 cases e with
 |normal=>
  obtain ⟨x',hlt,hcov⟩:=h2
  have hI':I (μ x') a' w':=⟨x',L',rfl,h1.weaken hcov⟩
  refine ⟨⟨_,hI'⟩,?_⟩
  have:=(hM a' w' ⟨_,hI'⟩).2 _ hI'
  omega
 |_=>exact ⟨L',env',heap',h1,h2⟩
end
def resK (T:Tys) (g:Nat→AVal) (h:Nat→Option AObj) (k:List AVal→Prop):List ResultVar→Prop
 | []=>k []
 |.tmp t::r=>viewK h (fun v=>resK T g h (fun l=>k (v::l)) r) (g t)
 |.cell a t::r=>match lookT t T with
  |some d=>match aCellsA h (g a) with
   |some (l,none)=>match aPart d l with
    |some v=>viewK h (fun v=>resK T g h (fun l=>k (v::l)) r) v
    |none=>False
   |_=>False
  |none=>False
def postL (post:AVal→Prop):List AVal→Prop
 | [x]=>post x
 |l=>post (.tup l)
def argEnv:Nat→List AVal→Env
 |_,[]=>[]
 |n,x::r=>(n,x)::argEnv (n+1) r
theorem look_argEnv:∀(l:List AVal) (n t:Nat),look t (argEnv n l)=if n≤t∧t<n+l.length then l.getD (t-n) .any else .any
 | [],n,t=>by rw [if_neg (by simp)];rfl
 |x::r,n,t=>by
  show look t ((n,x)::argEnv (n+1) r)=_
  rw [look_cons,look_argEnv r (n+1) t]
  by_cases h:t=n
  ·subst h;simp
  ·rw [if_neg h]
   by_cases h2:n+1≤t∧t<n+1+r.length
   ·rw [if_pos h2,if_pos (by simp;omega),show t-n=(t-(n+1))+1 from by omega];rfl
   ·rw [if_neg h2,if_neg (by simp;omega)]
section
variable {C : Ctx} {T : Tys} {L : Lay} {env : Env} {heap : Heap} {a : Act} {w : World}
def resSem (tmps:Array Value):ResultVar→Sem Value
 |.tmp t=>Pure.pure (tmps.getD t undef)
 |.cell a t=>do loadVar t (←asAddr (tmps.getD a undef))
theorem results_eq (fn:Func) (tmps:Array Value):results fn tmps=(do let vs ←fn.results.mapM (resSem tmps);Pure.pure (if h:vs.size=1 then vs[0] else .tuple vs)):=rfl
def bare (C:Ctx) (w:World) (b:Nat):Prop:=b<w.heap.size∧(C.R0 b∨C.w0.heap.size≤b∨C.lent b)
theorem resK_ok (hT:TysOk C.P T) (hr:Rel C L (lk env) (lko heap) a w):∀(rs:List ResultVar) (k:List AVal→Prop),resK T (fun t=>look t env) (fun i=>lookO i heap) k rs→
  ∃(vs:List Value) (l:List AVal),(rs.mapM (resSem a.tmps)).run C.P w=.ok vs w∧k l∧AVal.dataL l=true∧vs.length=l.length∧∀(i:Nat) (x:AVal),l[i]? = some x→RepA w (L0 C.w0.heap.size) (bare C w) x (vs.getD i undef)
 | [],k,hk=>⟨[],[],rfl,hk,rfl,rfl,fun i x hx=>by simp at hx⟩
 |rv::r,k,hk=>by
  have hown:∀id o b,lko heap id=some o→L.blk id=some b→bare C w b∧b<w.heap.size:=fun id o b h1 h2=>⟨⟨(hr.own0 id o b h1 h2).2,.inr (hr.own0 id o b h1 h2).1⟩,(hr.own0 id o b h1 h2).2⟩
  have fin:∀(x:AVal) (v:Value),RepA w L (good C L (lko heap) w) x v→viewK (fun i=>lookO i heap) (fun v=>resK T (fun t=>look t env) (fun i=>lookO i heap) (fun l=>k (v::l)) r) x→
    ∀m:Sem Value,m.run C.P w=.ok v w→∃(vs:List Value) (l:List AVal),(do let y ←m;let ys ←r.mapM (resSem a.tmps);Pure.pure (y::ys)).run C.P w=.ok vs w∧k l∧AVal.dataL l=true∧vs.length=l.length∧∀(i:Nat) (x:AVal),l[i]? = some x→RepA w (L0 C.w0.heap.size) (bare C w) x (vs.getD i undef):=by
   intro x v hv hk m hm
   obtain ⟨y,h1,h2,h3⟩:=viewK_ok (L0 C.w0.heap.size) hr.obj (fun b hb=>⟨hb.1,hb.2.1⟩) hown x _ v hk hv
   obtain ⟨vs,l,e1,e2,e3,e4,e5⟩:=resK_ok hT hr r _ h1
   refine ⟨v::vs,y::l,by simp [hm,e1],e2,by simp [AVal.dataL,h2,e3],by simp [e4],fun i z hz=>?_⟩
   cases i with
   |zero=>simp only [List.getElem?_cons_zero,Option.some.injEq] at hz;subst hz;exact h3
   |succ i=>simp only [List.getElem?_cons_succ] at hz;simpa using e5 i z hz
  cases rv with
  |tmp t=>
   simp only [resK] at hk
   obtain ⟨vs,l,h⟩:=fin _ _ (hr.slot t) hk (resSem a.tmps (.tmp t)) rfl
   exact ⟨vs,l,by rw [List.mapM_cons];exact h.1,h.2⟩
  |cell b t=>
   simp only [resK] at hk
   cases ht:lookT t T with
   |none=>rw [ht] at hk;exact hk.elim
   |some d=>
    rw [ht] at hk
    simp only at hk
    cases hc:aCellsA (fun i=>lookO i heap) (look b env) with
    |none=>rw [hc] at hk;exact hk.elim
    |some lc=>
     obtain ⟨cl,c⟩:=lc
     rw [hc] at hk
     cases c with
     |some c=>exact hk.elim
     |none=>
      simp only at hk
      cases hp:aPart d cl with
      |none=>rw [hp] at hk;exact hk.elim
      |some x=>
       rw [hp] at hk
       simp only at hk
       obtain ⟨bb,off,hv',hl⟩:=aCellsA_ok hr.holds (hr.slot b) hc (fun q hq=>by cases hq)
       obtain ⟨u,h1,h2⟩:=loadAt_ok (P:=C.P) hT ht hp hl
       have h1':(loadVar t ⟨bb,off,none⟩).run C.P w=.ok u w:=by simpa [Instr.loadAt,Instr.sureAddr] using h1
       obtain ⟨vs,l,h⟩:=fin _ _ h2 hk (resSem a.tmps (.cell b t)) (by simp [resSem,hv',asAddr,h1'])
       exact ⟨vs,l,by rw [List.mapM_cons];exact h.1,h.2⟩
end
theorem no_lent {P:Program} {nt:Nat} {w:World} {R:Nat→Prop} {L:Lay} {hG:GoodC w R [] L} (b:Nat):¬Ctx.lent ⟨P,nt,w,R,[],L,hG⟩ b:=fun ⟨i,h,_⟩=>by cases h
theorem PSpec.intro {P : Program} {T : Tys} {f : FuncId} {fn : Func} {c : Code} {args : List AVal} {post : AVal → Prop} (hT : TysOk P T) (hf : P.funcs[f]? = some fn) (hname : (fn.name == "runtime.NumGoroutine") = false) (hb : fn.body = some c) {nt : Nat} (hn : fn.ntmps = nt) (ha : args.length ≤ nt)
  {rs:List ResultVar} (hrs:fn.results.toList=rs) (h:∀w0 R0 hG,AWp ⟨P,nt,w0,R0,[],L0 0,hG⟩ c (fun e env heap=>match e with|.normal=>resK T (fun t=>look t env) (fun i=>lookO i heap) (postL post) rs|.ret=>resK T (fun t=>look t env) (fun i=>lookO i heap) (postL post) rs|_=>False) (argEnv 0 args) []) :
  PSpec P f args (fun r=>post r∧r.data=true):=by
 refine ⟨⟨fn,c,hf,hname,hb⟩,fun w R vs hG hR hz hargs=>?_⟩
 have hG:=GoodC.nil (Lo:=L0 0) hG
 have hrel:Rel ⟨P,nt,w,R,[],L0 0,hG⟩ (L0 w.heap.size) (lk (argEnv 0 args)) (lko []) { tmps:=vs++Array.replicate (fn.ntmps-vs.size) undef,defers:=[]} w:={
  below:=BelowL.refl _ _
  top:=fun b=>⟨fun h=>⟨h,no_lent b⟩,fun h=>h.1⟩
  size:=by simp [hn,hz];omega
  defers:=rfl
  slot:=fun t=>by
   show RepA _ _ _ (look t _) _
   rw [look_argEnv]
   split
   ·rename_i hlt
    have hlt':t<args.length:=by omega
    have:=hargs t args[t] (List.getElem?_eq_getElem hlt')
    simp only [Nat.sub_zero,List.getD_eq_getElem?_getD,List.getElem?_eq_getElem hlt',Option.getD_some]
    have e:(vs++Array.replicate (fn.ntmps-vs.size) undef).getD t undef=vs.getD t undef:=by
     simp only [Array.getD_eq_getD_getElem?]
     rw [Array.getElem?_append_left (by omega)]
    rw [e]
    exact this.mono1 (Nat.le_refl _) (fun b hlt hb=>⟨⟨hlt,.inl hb,fun ⟨id,o,h1,_⟩=>by simp [lookO] at h1⟩,rfl⟩) (fun _ _=>rfl)
   ·exact .any
  obj:=fun id o h=>by simp [lookO] at h
  inj:=fun i j oi oj b h=>by simp [lookO] at h
  own0:=fun id o b h=>by simp [lookO] at h
  kept:=fun id o h=>by cases h
  lidn:=fun i h=>by cases h}
 refine calls_of_wp hf hb (wp_mono (h w R hG _ _ w hrel) fun e a' w' ⟨L',env',heap',h1,h2⟩=>?_)
 have fin:resK T (fun t=>look t env') (fun i=>lookO i heap') (postL post) rs→a'.defers=[]∧∃v,(results fn a'.tmps).run P w'=.ok v w'∧∃v' r,Ending.returned v=.returned v'∧(post r∧r.data=true)∧Below w.heap.size w w'∧RepR w w' R r v':=by
  intro h2
  obtain ⟨us,l,e1,e2,e3,e4,e5⟩:=resK_ok (C:=⟨P,nt,w,R,[],L0 0,hG⟩) hT h1 rs _ h2
  refine ⟨h1.defers,(if h:us.toArray.size=1 then us.toArray[0] else .tuple us.toArray),?_,?_⟩
  ·rw [results_eq,Array.mapM_eq_mapM_toList,hrs]
   simp only [Sem.run_bind,Sem.run_map,e1,Result.andThen_ok,Sem.run_pure]
  ·have hw:∀b,bare ⟨P,nt,w,R,[],L0 0,hG⟩ w' b→R b∨(w.heap.size≤b∧b<w'.heap.size):=fun b hb=>hb.2.imp id fun h=>⟨h.resolve_right (no_lent b),hb.1⟩
   have hd:=AVal.dataL_get e3
   have e5':∀(i:Nat) (x:AVal),l[i]? = some x→RepA w' (L0 w.heap.size) (fun b=>R b∨(w.heap.size≤b∧b<w'.heap.size)) x (us.getD i undef):=fun i x hx=>(e5 i x hx).data (Nat.le_refl _) (hd i x hx) fun b _ hb=>⟨hw b hb,rfl⟩
   have tup:post (.tup l)→us.toArray.size≠1→∃v' r,Ending.returned (if h:us.toArray.size=1 then us.toArray[0] else .tuple us.toArray)=.returned v'∧(post r∧r.data=true)∧Below w.heap.size w w'∧RepR w w' R r v':=by
    intro hp hne
    refine ⟨.tuple us.toArray,.tup l,by rw [dif_neg hne],⟨hp,by simpa [AVal.data] using e3⟩,h1.below.plain no_lent,by simpa [AVal.data] using e3,.tup (by simpa using e4) fun i x hx=>?_⟩
    have:=e5' i x hx
    simpa [Array.getD_eq_getD_getElem?,List.getD_eq_getElem?_getD] using this
   cases l with
   |nil=>exact tup e2 (by simp at e4;simp [e4])
   |cons x r=>
    cases r with
    |cons y r=>exact tup e2 (by simp at e4;simp [e4])
    |nil=>
     have hl:us.length=1:=by simpa using e4
     obtain ⟨u,rfl⟩:=List.length_eq_one_iff.1 hl
     have:=e5' 0 x rfl
     have hdx:=hd 0 x rfl
     refine ⟨u,x,by simp,⟨e2,hdx⟩,h1.below.plain no_lent,?_⟩
     cases x with
     |fresh=>cases hdx
     |_=>exact ⟨hdx,by simpa using this⟩
 cases e with
 |normal=>exact fin h2
 |ret=>exact fin h2
 |_=>exact h2.elim
def resF (env:Env) (heap:Heap) (post:AVal→Prop) (t:Nat):Prop:=
 match look t env with
 |.rsl id sz o n=>match o with
  |0=>match lookO id heap with
   |some (.row ty sz' n' f)=>match Nat.blt ty markT with
    |true=>sz=sz'∧n=n'∧∃m f',n'=m∧(∀k,k<m→f k=f' k)∧post (.fresh ty sz m f')
    |false=>False
   |_=>False
  |_=>False
 |.d (.v (.slice none 0 0))=>∃ty sz f',post (.fresh ty sz 0 f')
 |_=>False
theorem PSpec.introF {P : Program} {T : Tys} {f : FuncId} {fn : Func} {c : Code} {args : List AVal} {post : AVal → Prop} (hT : TysOk P T) (hf : P.funcs[f]? = some fn) (hname : (fn.name == "runtime.NumGoroutine") = false) (hb : fn.body = some c) {nt : Nat} (hn : fn.ntmps = nt) (ha : args.length ≤ nt)
  {t:Nat} (hrs:fn.results = #[.tmp t]) (h:∀w0 R0 hG,AWp ⟨P,nt,w0,R0,[],L0 0,hG⟩ c (fun e env heap=>match e with|.normal=>resF env heap post t|.ret=>resF env heap post t|_=>False) (argEnv 0 args) []) :
  PSpec P f args post:=by
 refine ⟨⟨fn,c,hf,hname,hb⟩,fun w R vs hG hR hz hargs=>?_⟩
 have hG:=GoodC.nil (Lo:=L0 0) hG
 have hrel:Rel ⟨P,nt,w,R,[],L0 0,hG⟩ (L0 w.heap.size) (lk (argEnv 0 args)) (lko []) { tmps:=vs++Array.replicate (fn.ntmps-vs.size) undef,defers:=[]} w:={
  below:=BelowL.refl _ _
  top:=fun b=>⟨fun h=>⟨h,no_lent b⟩,fun h=>h.1⟩
  size:=by simp [hn,hz];omega
  defers:=rfl
  slot:=fun t=>by
   show RepA _ _ _ (look t _) _
   rw [look_argEnv]
   split
   ·rename_i hlt
    have hlt':t<args.length:=by omega
    have:=hargs t args[t] (List.getElem?_eq_getElem hlt')
    simp only [Nat.sub_zero,List.getD_eq_getElem?_getD,List.getElem?_eq_getElem hlt',Option.getD_some]
    have e:(vs++Array.replicate (fn.ntmps-vs.size) undef).getD t undef=vs.getD t undef:=by
     simp only [Array.getD_eq_getD_getElem?]
     rw [Array.getElem?_append_left (by omega)]
    rw [e]
    exact this.mono1 (Nat.le_refl _) (fun b hlt hb=>⟨⟨hlt,.inl hb,fun ⟨id,o,h1,_⟩=>by simp [lookO] at h1⟩,rfl⟩) (fun _ _=>rfl)
   ·exact .any
  obj:=fun id o h=>by simp [lookO] at h
  inj:=fun i j oi oj b h=>by simp [lookO] at h
  own0:=fun id o b h=>by simp [lookO] at h
  kept:=fun id o h=>by cases h
  lidn:=fun i h=>by cases h}
 refine calls_of_wp hf hb (wp_mono (h w R hG _ _ w hrel) fun e a' w' ⟨L',env',heap',h1,h2⟩=>?_)
 have fin:resF env' heap' post t→a'.defers=[]∧∃v,(results fn a'.tmps).run P w'=.ok v w'∧∃v' r,Ending.returned v=.returned v'∧post r∧Below w.heap.size w w'∧RepR w w' R r v':=by
  intro h2
  refine ⟨h1.defers,a'.tmps.getD t undef,results_tmp hrs _ _ _,?_⟩
  have hslot:RepA w' L' (good ⟨P,nt,w,R,[],L0 0,hG⟩ L' (lko heap') w') (look t env') (a'.tmps.getD t undef):=h1.slot t
  generalize a'.tmps.getD t undef=v at hslot
  unfold resF at h2
  split at h2
  ·rename_i id sz o n e
   rw [e] at hslot
   split at h2
   ·split at h2
    ·rename_i ty sz' n' ff hrow
     cases hbt:Nat.blt ty markT with
     |false=>rw [hbt] at h2;exact h2.elim
     |true=>
     rw [hbt] at h2
     have hmt:ty<markT:=Nat.le_of_ble_eq_true hbt
     obtain ⟨rfl,rfl,m,f',rfl,hff,hp⟩:=h2
     refine ⟨v,_,rfl,hp,h1.below.plain no_lent,?_⟩
     have hro:=h1.obj id _ hrow
     have hgood:∀b,good ⟨P,nt,w,R,[],L0 0,hG⟩ L' (lko heap') w' b→(R b∨(w.heap.size≤b∧b<w'.heap.size))∧L'.blk id≠some b:=fun b hb=>⟨hb.2.1.imp (fun h=>h) fun h=>⟨h.resolve_right (no_lent b),hb.1⟩,fun e=>hb.2.2 ⟨id,_,hrow,e⟩⟩
     cases hslot with
     |rsl hcap hbb had=>
      have had:=had (.inl rfl)
      subst had
      cases hro with
      |row0 hbk hck=>
       refine ⟨[],?_,fun k hk=>by omega,fun k hk=>by omega⟩
       rw [hbk,hck]
       exact World.ownsRow_nil w' w.heap.size ty sz
      | @row _ _ _ _ cs b t9 mk hbk hh hn' hm hz' hfl hr hty hmk hcap0=>
       have ht9:=hty hmt
       subst ht9
       have hmk0:mk=(0,0):=hmk.resolve_right fun h=>absurd h.1 (Nat.ne_of_lt hmt)
       subst hmk0
       have hb0:=h1.own0 id _ b hrow hbk
       refine ⟨cs.toList.take (n*sz),⟨?_,.inr ⟨b,L'.cap id,cs,by rw [hbk];simp,hb0.1.resolve_right (no_lent b),hh,hn',hm,hz',rfl⟩⟩,fun k hk=>by rw [←hff k hk];exact hfl k hk,fun k hk j x hx=>?_⟩
       ·rw [List.length_take,Array.length_toList,hz']
        exact Nat.min_eq_left (Nat.mul_le_mul_right _ hn')
       ·rw [←hff k hk] at hx
        have hj:j<sz:=by rw [←hfl k hk];exact (List.getElem?_eq_some_iff.1 hx).1
        have hlt:k*sz+j<n*sz:=by
         have:=Nat.mul_le_mul_right sz (show k+1≤n from hk)
         rw [Nat.add_mul] at this;omega
        have:=hr k hk j x hx
        rw [List.getD_eq_getElem?_getD,List.getElem?_take,if_pos hlt]
        have h':=this.mono (Nat.le_refl _) (good':=fun b=>(R b∨(w.heap.size≤b∧b<w'.heap.size))∧(Value.slice ((L'.blk id).map fun b=>⟨b,0*sz,none⟩) n (L'.cap id-0)).ownBlock≠some b) (fun b' _ hb'=>⟨⟨(hgood b' hb').1,by
         have:=(hgood b' hb').2
         rw [hbk] at this ⊢
         simpa [Value.ownBlock] using this⟩,rfl⟩)
        simpa [Array.getD_eq_getD_getElem?] using h'
    ·exact h2.elim
   ·exact h2.elim
  ·rename_i e
   rw [e] at hslot
   obtain ⟨ty,sz,f',hp⟩:=h2
   rw [repA_v hslot]
   exact ⟨_,_,rfl,hp,h1.below.plain no_lent,[],World.ownsRow_nil w' w.heap.size ty sz,fun k hk=>by omega,fun k hk=>by omega⟩
  ·exact h2.elim
 cases e with
 |normal=>exact fin h2
 |ret=>exact fin h2
 |_=>exact h2.elim
structure Rc where
 rt:List Nat
 rh:List Nat
 wt:List (Nat×AVal)
 wh:List (Nat×Option AObj)
 fr:List Nat
def Rc.g (r:Rc) (g:Nat→AVal):Nat→AVal:=fun t=>match lookW t r.wt with|some v=>v|none=>g t
def Rc.h (r:Rc) (h:Nat→Option AObj):Nat→Option AObj:=fun t=>match lookW t r.wh with|some v=>v|none=>h t
structure Agrees (r:Rc) (g0:Nat→AVal) (h0:Nat→Option AObj) (g:Nat→AVal) (h:Nat→Option AObj):Prop where
 t:∀t∈r.rt,g t=g0 t
 o:∀i∈r.rh,h i=h0 i
 ft:∀d∈r.fr,∀t,(g t).free d=true
 fo:∀d∈r.fr,∀j o,h j=some o→j≠d∧o.free d=true
def StepOk (C:Ctx) (o:Oper) (r:Rc) (g0:Nat→AVal) (h0:Nat→Option AObj):Prop:=
 ∀g h,Agrees r g0 h0 g h→∀L a w,Rel C L g h a w→∀(next:Act→World→Prop) (Q:Exit→Act→World→Prop),(∀L' a' w',Rel C L' (r.g g) (r.h h) a' w'→next a' w')→o.wp C.P a w next Q
def restrict (rt:List Nat) (g:Nat→AVal):Nat→AVal:=fun t=>match memN t rt with|true=>g t|false=>.any
theorem restrict_eq {rt:List Nat} {g g0:Nat→AVal} (h:∀t∈rt,g t=g0 t):restrict rt g=restrict rt g0:=by
 funext t
 unfold restrict
 cases hm:memN t rt with
 |true=>exact h t (memN_of.1 hm)
 |false=>rfl
theorem restrictH_eq {rh:List Nat} {h h0:Nat→Option AObj} (e:∀t∈rh,h t=h0 t):restrictH rh h=restrictH rh h0:=by
 funext t
 unfold restrictH
 cases hm:memN t rh with
 |true=>exact e t (memN_of.1 hm)
 |false=>rfl
section
variable {C : Ctx} {T : Tys} {L : Lay} {g : Nat → AVal} {h : Nat → Option AObj} {a : Act} {w : World}
theorem Holds.restrict {gd:Nat→Prop} (H:Holds w gd L g h a) (rt rh:List Nat):Holds w gd L (restrict rt g) (restrictH rh h) a where
 slot t:=by
  unfold Towline.restrict
  cases memN t rt with
  |true=>exact H.slot t
  |false=>exact .any
 obj id o e:=H.obj id o (restrictH_some e)
 glob:=H.glob
theorem Rel.swap {w':World} (H:Rel C L g h a w) {id d:Nat} (hlid:d∉C.lid) (hne:d≠id) {o0 o:AObj} (hid:h id=some o0) (he:∀t,(g t).free d=true) (hh:∀j o,h j=some o→j≠d∧o.free d=true)
  (hos:w'.os=w.os) (htp:w'.tape=w.tape) (hout:w'.output=w.output) (hsz:w.heap.size≤w'.heap.size) (hw:∀b,b<w.heap.size→some b≠L.blk id→w'.heap[b]? = w.heap[b]?)
  (nb:Option Nat) (nc:Nat) (hnb:∀b,nb=some b→b<w'.heap.size∧(some b=L.blk id∨w.heap.size≤b))
  (ho:∀gd',Stays w w' (good C L h w) gd'→RepO w' gd' (L.upd d nb nc) d o) :
  Rel C (L.upd d nb nc) g (fun j=>if j=d then some o else if j=id then none else h j) a w'∧Stays w w' (good C L h w) (good C (L.upd d nb nc) (fun j=>if j=d then some o else if j=id then none else h j) w'):=by
 have hown:=fun b e=>H.own0 id o0 b hid e
 have hkold:∀{j oj},j≠d→(if j=d then some o else if j=id then none else h j)=some oj→h j=some oj∧j≠id:=by
  intro j oj hj e
  rw [if_neg hj] at e
  split at e
  ·cases e
  ·rename_i h1;exact ⟨e,h1⟩
 have hgood:Stays w w' (good C L h w) (good C (L.upd d nb nc) (fun j=>if j=d then some o else if j=id then none else h j) w'):=by
  intro b hlt hgb
  have hne':some b≠L.blk id:=fun e=>hgb.2.2 ⟨id,o0,hid,e.symm⟩
  refine ⟨⟨Nat.lt_of_lt_of_le hlt hsz,hgb.2.1,?_⟩,hw b hlt hne'⟩
  rintro ⟨i,oi,h1,h2⟩
  by_cases hi:i=d
  ·simp only [Lay.upd,hi,if_true] at h2
   rcases (hnb b h2).2 with e|e
   ·exact hne' e
   ·omega
  ·simp only [Lay.upd,hi,if_false] at h2
   obtain ⟨e1,_⟩:=hkold hi h1
   exact hgb.2.2 ⟨i,oi,e1,h2⟩
 refine ⟨?_,hgood⟩
 have hL:∀i,(i != d)=true→(L.upd d nb nc).blk i=L.blk i∧(L.upd d nb nc).cap i=L.cap i:=by
  intro i hi
  have:i≠d:=by simpa using hi
  simp [Lay.upd,this]
 have hp:∀i,(i != d)=false→i=d:=by intro i hi;simpa using hi
 have ht:∀b,b<w.heap.size→L.old b→(L.upd d nb nc).old b∧w'.heap[b]? = w.heap[b]?:=fun b hlt hb=>⟨hb,hw b hlt (fun e=>H.old_own hb hid e.symm)⟩
 exact {
  below:=H.below.next hos htp hout hsz fun k hk hnl=>hw k (Nat.lt_of_lt_of_le hk H.below.size) (fun e=>by rcases (hown k e.symm).1 with h1|h1;omega;exact hnl h1)
  top:=H.top
  size:=H.size
  defers:=H.defers
  slot:=fun t=>(H.slot t).mono hsz (· != d) hL ht hgood (fun i hi=>by rw [hp i hi];exact he t)
  obj:=fun j oj hj=>by
   by_cases hi:j=d
   ·rw [if_pos hi] at hj
    cases hj
    rw [hi]
    exact ho _ hgood
   ·obtain ⟨e1,e2⟩:=hkold hi hj
    have hblk:∀b,L.blk j=some b→w'.heap[b]? = w.heap[b]?:=fun b hb=>hw b (H.own0 j oj b e1 hb).2 (fun e=>e2 (H.inj j id oj o0 b e1 hid hb e.symm))
    exact (H.obj j oj e1).mono hsz hgood hblk ht (· != d) hL (by simpa using hi) (fun i' hi'=>by rw [hp i' hi'];exact (hh j oj e1).2)
  inj:=fun i j oi oj b hi hj hbi hbj=>by
   simp only [Lay.upd] at hbi hbj
   by_cases h1:i=d
   ·by_cases h2:j=d
    ·rw [h1,h2]
    ·rw [if_neg h2] at hbj
     rw [if_pos h1] at hbi
     obtain ⟨e1,e2⟩:=hkold h2 hj
     rcases (hnb b hbi).2 with e|e
     ·exact (e2 (H.inj j id oj o0 b e1 hid hbj e.symm)).elim
     ·have:=(H.own0 j oj b e1 hbj).2;omega
   ·rw [if_neg h1] at hbi
    obtain ⟨e1,e2⟩:=hkold h1 hi
    by_cases h2:j=d
    ·rw [if_pos h2] at hbj
     rcases (hnb b hbj).2 with e|e
     ·exact (e2 (H.inj i id oi o0 b e1 hid hbi e.symm)).elim
     ·have:=(H.own0 i oi b e1 hbi).2;omega
    ·rw [if_neg h2] at hbj
     obtain ⟨e1',_⟩:=hkold h2 hj
     exact H.inj i j oi oj b e1 e1' hbi hbj
  own0:=fun i oi b hi hbi=>by
   simp only [Lay.upd] at hbi
   by_cases h1:i=d
   ·rw [if_pos h1] at hbi
    obtain ⟨e1,e2⟩:=hnb b hbi
    refine ⟨?_,e1⟩
    rcases e2 with e|e
    ·exact (hown b e.symm).1
    ·exact .inl (Nat.le_trans H.below.size e)
   ·rw [if_neg h1] at hbi
    obtain ⟨e1,_⟩:=hkold h1 hi
    have:=H.own0 i oi b e1 hbi
    exact ⟨this.1,Nat.lt_of_lt_of_le this.2 hsz⟩
  kept:=fun i oi hl hi=>by
   have hne:i≠d:=fun e=>hlid (e▸hl)
   simp only [Lay.upd,if_neg hne]
   obtain ⟨e1,_⟩:=hkold hne hi
   exact H.kept i oi hl e1
  lidn:=H.lidn}
end
mutual
def idsA:AVal→List Nat
 |.ptr id _=>[id]
 |.rsl id _ _ _=>[id]
 |.rptr id _ _ _=>[id]
 |.mref id=>[id]
 |.agg l=>idsL l
 |.tup l=>idsL l
 |.fn _ l=>idsL l
 |_=>[]
def idsL:List AVal→List Nat
 | []=>[]
 |x::r=>idsA x++idsL r
end
def tmpsOf:List Operand→List Nat
 | []=>[]
 |.tmp t::r=>t::tmpsOf r
 |_::r=>tmpsOf r
def idsOf (g:Nat→AVal):List Nat→List Nat
 | []=>[]
 |t::r=>idsA (g t)++idsOf g r
def putD (nt:Nat) (d:Option Tmp) (v:AVal) (rt rh:List Nat) (env:Env) (heap:Heap) (k:Rc→Env→Heap→Prop):Prop:=
 match d with
 |some t=>match Nat.blt t nt with
  |true=>forceV (fun v=>k ⟨rt,rh,[(t,v)],[],[]⟩ ((t,v)::env) heap) v
  |false=>False
 |none=>k ⟨rt,rh,[],[],[]⟩ env heap
def setD (nt:Nat) (d:Option Tmp) (id:Nat) (o:AObj) (rt rh:List Nat) (env:Env) (heap:Heap) (k:Rc→Env→Heap→Prop):Prop:=
 match setO id o heap with
 |some h=>match d with
  |some t=>match Nat.blt t nt with
   |true=>k ⟨rt,id::rh,[(t,.any)],[(id,some o)],[]⟩ ((t,.any)::env) h
   |false=>False
  |none=>k ⟨rt,id::rh,[],[(id,some o)],[]⟩ env h
 |none=>False
def newD (nt:Nat) (d:Option Tmp) (o:AObj) (v:Nat→AVal) (rt rh:List Nat) (env:Env) (heap:Heap) (k:Rc→Env→Heap→Prop):Prop:=
 match d with
 |some t=>match Nat.blt t nt with
  |true=>match lookO t heap with
   |none=>k ⟨rt,rh,[(t,v t)],[(t,some o)],[t]⟩ ((t,v t)::env) ((t,o)::heap)
   |some _=>False
  |false=>False
 |none=>False
def remO (id:Nat):Heap→Heap
 | []=>[]
 |(j,o)::r=>match Nat.beq j id with
  |true=>remO id r
  |false=>(j,o)::remO id r
def appD (nt:Nat) (d:Option Tmp) (old:Nat) (o:AObj) (v:Nat→AVal) (rt rh:List Nat) (env:Env) (heap:Heap) (k:Rc→Env→Heap→Prop):Prop:=
 match d with
 |some t=>match Nat.blt t nt with
  |true=>match Nat.beq t old with
   |true=>False
   |false=>match lookO t heap with
    |none=>forceH (fun heap=>k ⟨rt,old::rh,[(t,v t)],[(t,some o),(old,none)],[t]⟩ ((t,v t)::env) ((t,o)::heap)) (remO old heap)
    |some _=>False
  |false=>False
 |none=>False
def AResD (nt:Nat) (d:Option Tmp) (rt rh:List Nat) (env:Env) (heap:Heap) (k:Rc→Env→Heap→Prop):Option Res→Prop
 |none=>False
 |some (.val v)=>putD nt d v rt rh env heap k
 |some (.cond v c)=>c∧putD nt d v rt rh env heap k
 |some (.new o)=>newD nt d o (fun t=>.ptr t 0) rt rh env heap k
 |some (.newv o v c)=>match c with
  |some c=>c∧newD nt d o v rt rh env heap k
  |none=>newD nt d o v rt rh env heap k
 |some (.set id o)=>setD nt d id o rt rh env heap k
 |some (.setc id o c)=>c∧setD nt d id o rt rh env heap k
 |some (.mkrow t sz n f c)=>match c with
  |some c=>c∧newD nt d (.row t sz n f) (fun d=>.rsl d sz 0 n) rt rh env heap k
  |none=>newD nt d (.row t sz n f) (fun d=>.rsl d sz 0 n) rt rh env heap k
 |some (.ndb _)=>False
 |some (.pub _ _)=>False
 |some (.str c)=>∃l,c l∧putD nt d (.d (.s l)) rt rh env heap k
 |some (.app old t sz n f c)=>c∧appD nt d old (.row t sz n f) (fun d=>.rsl d sz 0 n) rt rh env heap k
 |some (.appv old t cells c)=>c∧chkV d cells (appD nt d old (.vrow t cells) (fun d=>.rsl d 1 0 cells.length) rt rh env heap k)
 |some (.mkv t cells c)=>c∧chkV d cells (newD nt d (.vrow t cells) (fun d=>.rsl d 1 0 cells.length) rt rh env heap k)
 |some (.mget ky l z ok)=>∃f,findD ky l=some f∧putD nt d (okM ok (.d (getD2 z f)) (isS f)) rt rh env heap k
 |some (.mput id ky x l)=>∃f,findD ky l=some f∧∃l',putM f ky x l=l'∧setD nt d id (.dmp l') rt rh env heap k
 |some (.mdel id ky l)=>∃f,findD ky l=some f∧∃l',delM f l=l'∧setD nt d id (.dmp l') rt rh env heap k
def putRD (nt:Nat) (d:Option Tmp) (exact:Bool) (rt rh:List Nat) (env:Env) (heap:Heap) (k:Rc→Env→Heap→Prop) (r:AVal):Prop:=
 match r with
 |.fresh t sz n f=>match exact with
  |true=>match Nat.blt t markT with
   |true=>newD nt d (.row t sz n f) (fun d=>.rsl d sz 0 n) rt rh env heap k
   |false=>False
  |false=>False
 |r=>match exact with
  |true=>putD nt d r rt rh env heap k
  |false=>match r.flat with
   |true=>putD nt d r rt rh env heap k
   |false=>False
def ACallD (P:Program) (nt:Nat) (d:Option Tmp) (rt rh:List Nat) (env:Env) (heap:Heap) (k:Rc→Env→Heap→Prop) (f:FuncId) (args:List AVal) (exact:Bool):Prop:=
 ∃r,PSpec P f args (· = r)∧putRD nt d exact rt rh env heap k r
def ABackD (nt:Nat) (dst:Option Tmp) (S p:List Nat) (rt rh:List Nat) (env:Env) (heap:Heap) (k:Rc→Env→Heap→Prop) (r:AVal) (hl':Heap):Prop:=
 forceN (fun fr=>match ltAll fr with
  |true=>deepV (fun r'=>deepH (fun hm=>forceH (fun hn=>match dst with
   |some t=>match Nat.blt t nt with
    |true=>k ⟨rt,S++p++rh,[(t,r')],whOf hm (S++p),fr⟩ ((t,r')::env) hn
    |false=>False
   |none=>k ⟨rt,S++p++rh,[],whOf hm (S++p),fr⟩ env hn) (hm++dropH S heap)) (mapH (tauOf (sigI S lentBase) hl' (newBase env dst)) hl')) (r.map (tauOf (sigI S lentBase) hl' (newBase env dst)))
  |false=>False) (firsts (newOf (sigI S lentBase) hl' (newBase env dst)))
def ALendD (P:Program) (nt:Nat) (dst:Option Tmp) (rt rh:List Nat) (env:Env) (heap:Heap) (k:Rc→Env→Heap→Prop) (f:FuncId) (args:List AVal) (p:List Nat):Prop:=
 forceN (fun S=>match nodupN S with
  |true=>match allIn (fun i=>lookO i heap) S with
   |true=>deepL (fun args'=>deepH (fun hl=>∃r hl',LSpec P f args' hl (fun a b=>a=r∧b=hl')∧ABackD nt dst S p rt rh env heap k r hl') (pickH (sig S lentBase) (fun i=>lookO i heap) S lentBase)) (AVal.mapL (sig S lentBase) args)
   |false=>False
  |false=>False) (reach 500 (fun i=>lookO i heap) args [])
def AStepD (P : Program) (T : Tys) (nt : Nat) (rt rh : List Nat) (o : Oper) (env : Env) (heap : Heap) (k : Rc → Env → Heap → Prop) : Prop :=
  match o.op with
  | .call { callee := .value f, args := as, .. } => match lentTo T (opnd (restrict rt fun t => look t env) f) with
   | some ms => match opnd (restrict rt fun t => look t env) f with
    | .fn f caps => lendK (restrictH rh fun i => lookO i heap) (fun l p => forceH (fun hp => ALendD P nt o.dst rt rh env hp k f (l ++ capsN caps) p) (dropH p heap)) ms (as.toList.map (opnd (restrict rt fun t => look t env))) []
    | _ => False
   | none => match opnd (restrict rt fun t => look t env) f with
    | .fn f caps => argK (restrict rt fun t => look t env) (restrictH rh fun i => lookO i heap) caps (ACallD P nt o.dst rt rh env heap k f) as.toList
    | .d (.cl f n ds) => argK (restrict rt fun t => look t env) (restrictH rh fun i => lookO i heap) [] (fun l b => ACallD P nt o.dst rt rh env heap k f (l ++ capsF n 0 ds) b) as.toList
    | _ => False
  | .convert src dst x => match convS T src dst (opnd (restrict rt fun t => look t env) x) with
    | some l => l.length ≤ 9223372036854775807 ∧ putRD nt o.dst true rt rh env heap k (.d (.sl 1 l.length (bytesF l)))
    | none => AResD nt o.dst rt rh env heap k (aop T (restrict rt fun t => look t env) (restrictH rh fun i => lookO i heap) (.convert src dst x))
  | op => AResD nt o.dst rt rh env heap k (aop T (restrict rt fun t => look t env) (restrictH rh fun i => lookO i heap) op)
end Towline
