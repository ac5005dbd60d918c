/- AssocStreams: the engine, contracts and plain laws that its proof leans on, part 11. -/
import Derived.Test.YtbkcekmahdbgdaaGreatSq10
import Derived.Test.YtbkcekmahdbgdaaGreatSq09
namespace Towline.Ac
open Towline.Hand Towline.Chunk Towline.Store
namespace As
def againA (a:As) (i:Nat) (n now:Int):As:=({ a with xl:=againF a.xl n i now}:As).watch i now
def againL (i:Nat) (now:Int):List Int→As→As×List Ch
 | [],a=>(a,[])
 |n::r,a=>if a.may i=false then (a,[]) else
  match (if 0≤lostAt a.xl n then dget a.data n else none) with
  |some d=>((againL i now r (a.againA i n now)).1,d.1::(againL i now r (a.againA i n now)).2)
  |none=>againL i now r a
end As
end Towline.Ac
namespace Go.Proofs.YtbkcekmahdbgdaaGreat
open Go Go.RowKit Towline Towline.Hand Towline.Ac Towline.Chunk Towline.Store
set_option linter.unusedVariables false
set_option linter.unusedSimpArgs false
set_option maxRecDepth 20000
set_option maxHeartbeats 4000000
theorem againF_len (l:List Sp) (n p t:Int):(againF l n p t).length=l.length:=by unfold againF;split<;>simp
theorem againF_mem (l:List Sp) (n p t:Int) (x:Sp) (h:x∈againF l n p t):x∈l∨∃y∈l,x={ y with state:=1,path:=p,at_:=t,times:=y.times+1}:=by
 unfold againF at h
 split at h
 ·exact Or.inl h
 ·rename_i h0
  rcases List.mem_or_eq_of_mem_set h with h|h
  ·exact Or.inl h
  ·right
   have hlt:(lostAt l n).toNat<l.length:=by have:=(idx_lt (fun p:Sp=>p.tsn==n&&p.state==3) l).1;unfold lostAt at h0 ⊢;omega
   refine ⟨l.getD (lostAt l n).toNat default,?_,h⟩
   rw [List.getD_eq_getElem?_getD,List.getElem?_eq_getElem hlt]
   exact List.getElem_mem hlt
theorem lossF_len (l:List Sp):(lossF l).length≤l.length:=by unfold lossF;rw [List.length_map];exact List.length_filter_le _ _
theorem againA_ok (a:As) (i:Nat) (n now:Int) (h:a.FrOk i):(a.againA i n now).FrOk i:=by
 have hp:(a.againA i n now).p=a.p:=by unfold As.againA As.watch;split<;>rfl
 have hh:(a.againA i n now).h=a.h:=by unfold As.againA As.watch;split<;>rfl
 have hs:(a.againA i n now).s=a.s:=by unfold As.againA As.watch;split<;>rfl
 have hd:(a.againA i n now).due.length=a.due.length:=by
  unfold As.againA As.watch
  split<;>simp
 have hx:(a.againA i n now).xl=againF a.xl n i now:=by unfold As.againA As.watch;split<;>rfl
 refine ⟨by rw [hp];exact h.ii,by rw [hd,hp];exact h.due,by rw [hp];exact h.rto,by rw [hx,againF_len];exact h.xl,fun p hp'=>?_,by rw [hh];exact h.win,by rw [hs];exact h.s⟩
 rw [hx] at hp'
 rcases againF_mem _ _ _ _ _ hp' with hp'|⟨y,hy,rfl⟩
 ·exact h.xs p hp'
 ·exact h.xs y hy
theorem againL_ok (i:Nat) (now:Int):∀(L:List Int) (a:As),a.FrOk i→(As.againL i now L a).1.FrOk i
 | [],a,h=>h
 |n::r,a,h=>by
  unfold As.againL
  split
  ·exact h
  ·split
   ·exact againL_ok i now r _ (againA_ok a i n now h)
   ·exact againL_ok i now r a h
theorem again0_spec (a:As) (i:Nat) (now:Int) (hx:a.xl.length≤64) (h0:lossF a.xl=[]):LSpec Tryz.prog 63 [.ptr F0 0,vi i,vi now] (asH a) (fun r hl=>r=.d (slT 14 encCh (As.againL i now (lossF a.xl) a).2)∧hl=asP (As.againL i now (lossF a.xl) a).1):=by
 refine LSpec.rens (LSpec.runES (h2:=asP a) psN (TFrOk) followsB Tryz.func63 (by decide) rfl Tryz.ntmps63 (Nat.le_of_ble_eq_true rfl) rfl rfl rfl rfl rfl fun w0 R0 Lo hGw=>?_)
 conv=>whnf
 have hll:=lossG_spec a.xc a.xl (by omega)
 rw [h0] at hll ⊢
 have hcx:=hll
 first|(refine ⟨_,hcx,?_⟩;rintro q rfl)|refine ⟨_,hcx,?_⟩
 clear hcx
 conv=>whnf
 refine ALoop.adopt 7 59 14 44 (fun j=>encCh (([]:List Ch).getD j default)) rfl rfl rfl ?_
 refine ALoop.introR TFrOk followsB (fun _:Unit=>([(0,.ptr F0 0),(1,vi i),(2,vi now),(7,.rsl 59 14 0 0),(17,.d (slT 1 encU [])),(18,vi 0),(19,vi 0)],(59,.row 44 14 0 fun j=>encCh (([]:List Ch).getD j default))::asP a)) (fun _=>0) () ?_ ?_
 ·(repeat' (first|exact ⟨⟩|exact OLe.refl _|exact .refl _|exact .nil|exact rfl|refine ⟨?_,?_⟩|fail))
 ·rintro _
  have hrel:As.againL i now [] a=(a,[]):=rfl
  rw [hrel]
  conv=>whnf
  refine AEnd.frz 6 ?_
  conv=>whnf
  refine gK ?_
  conv=>whnf
  refine AEnd.done ?_
  conv=>whnf
  refine finR [] rfl rfl (.refl _) ?_ ⟨rfl,rfl⟩
  exact ⟨OLe.refl _,OLe.refl _,OLe.refl _,OLe.refl _,OLe.refl _,OLe.refl _,OLe.refl _,trivial⟩
end Go.Proofs.YtbkcekmahdbgdaaGreat
namespace Towline.Ac
open Towline.Hand Towline.Chunk Towline.Store
namespace As
def sackOf (a:As):Ch:=Go.Proofs.YtbkcekmahdbgdaaGreat.sackC a.g (Go.IntKind.u32.wrap (max (a.win-a.held) 0))
def tell (a:As):As:=if a.sack=true∧3≤a.h.st then { ({ a with g:=⟨a.g.cum,a.g.ab,[]⟩}:As).reply a.sackTo [a.sackOf] with sack:=false,sackDue:=0,owe:=0} else a
end As
end Towline.Ac
namespace Go.Proofs.YtbkcekmahdbgdaaGreat
open Go Go.RowKit Towline Towline.Hand Towline.Ac Towline.Chunk Towline.Store
set_option linter.unusedVariables false
set_option linter.unusedSimpArgs false
set_option maxRecDepth 20000
set_option maxHeartbeats 4000000
abbrev TTe:Tys:=tysX false [] [(34,[])] [pbT+44]
theorem TTeOk:TysOk Tryz.prog TTe:=tysXOk _ _ _ _
theorem tell0_spec (a:As) (hsk:a.sack=false):LSpec Tryz.prog 61 [.ptr F0 0] (asH a) (fun r hl=>r=.tup []∧hl=asP a.tell):=by
 refine LSpec.rens (LSpec.runN (h2:=asP a) psN (TTeOk) followsB Tryz.func61 (by decide) rfl Tryz.ntmps61 (Nat.le_of_ble_eq_true rfl) rfl rfl rfl rfl rfl fun w0 R0 Lo hGw=>?_)
 conv=>whnf
 cases g1:a.sack
 ·rw [show a.tell=a from by unfold As.tell;rw [g1];simp]
  conv=>whnf
  refine finR [] rfl rfl (.refl _) ?_ ⟨rfl,rfl⟩
  exact ⟨OLe.refl _,OLe.refl _,OLe.refl _,OLe.refl _,OLe.refl _,OLe.refl _,OLe.refl _,trivial⟩
 ·rw [hsk] at g1;cases g1
end Go.Proofs.YtbkcekmahdbgdaaGreat
namespace Towline.Ac
open Towline.Hand Towline.Chunk Towline.Store
namespace As
def hearing (a:As) (from_ now:Int):As:=if 0≤from_∧from_<a.heard.length then { a with heard:=a.heard.set from_.toNat now} else a
end As
end Towline.Ac
namespace Go.Proofs.YtbkcekmahdbgdaaGreat
open Go Go.RowKit Towline Towline.Hand Towline.Ac Towline.Chunk Towline.Store
set_option linter.unusedVariables false
set_option linter.unusedSimpArgs false
set_option maxRecDepth 20000
set_option maxHeartbeats 4000000
abbrev TTk:Tys:=tysX false [] [(32,[]),(33,[]),(34,[]),(36,[]),(37,[])] [pbT+44]
theorem TTkOk:TysOk Tryz.prog TTk:=tysXOk _ _ _ _
theorem takeD_spec (a:As) (c:Ch) (from_ now:Int) (hc:c.ty=0) (hco:ChOk c) (hr:(buildC c).2=0) (hst:3≤a.h.st∧a.h.st≤5) (h:a.InOk c) (hn : -2 ^ 60≤now∧now≤2 ^ 60) (hfr:0≤from_∧from_<a.heard.length) :
  LSpec Tryz.prog 13 [.ptr F0 0,chA c,vi from_,vi now] (asH a) (fun r hl=>r=.tup []∧hl=asP ((a.hearing from_ now).takeC c from_ now)):=by
 refine LSpec.rens (LSpec.runNS (h2:=asP a) psN (TTkOk) followsB Tryz.func13 (by decide) rfl Tryz.ntmps13 (Nat.le_of_ble_eq_true rfl) rfl rfl rfl rfl rfl fun w0 R0 Lo hGw=>?_)
 conv=>whnf
 repeat (refine gK ?_;conv=>whnf)
 have hcx:=(closed_spec a)
 first|(refine ⟨_,hcx,?_⟩;rintro q rfl)|refine ⟨_,hcx,?_⟩
 clear hcx
 conv=>whnf
 rw [show a.closed=false from by unfold As.closed;exact beq_eq_false_iff_ne.2 (by omega)]
 conv=>whnf
 have hrs:=right_spec c hco
 rw [hr] at hrs
 have hcx:=hrs
 first|(refine ⟨_,hcx,?_⟩;rintro q rfl)|refine ⟨_,hcx,?_⟩
 clear hcx
 conv=>whnf
 refine AGo.go (TTkOk) followsB ?_
 conv=>whnf
 rw [show decide (0≤from_)=true from decide_eq_true hfr.1]
 conv=>whnf
 repeat (refine gK ?_;conv=>whnf)
 rw [show decide (from_<(a.heard.length:Int))=true from decide_eq_true hfr.2]
 conv=>whnf
 refine AGo.endK ?_
 refine AGo.go (TTkOk) followsB ?_
 conv=>whnf
 repeat (refine gK ?_;conv=>whnf)
 have heq:a.hearing from_ now={ a with heard:=a.heard.set from_.toNat now}:=by unfold As.hearing;rw [if_pos hfr]
 have hhl:a.heard.length=(a.heard.set from_.toNat now).length:=by simp
 refine AEnd.restate [] [(0,.ptr F0 0),(2,vi from_),(3,vi now),(5,.ptr 5 0)] ((5,.box (chL c))::asP (a.hearing from_ now)) rfl ?_ ?_
 ·rw [heq]
  (repeat' (first|exact ⟨⟩|exact OLe.refl _|exact .refl _|exact .nil|exact rfl|refine ⟨?_,?_⟩|fail))
  ·exact .of_eq (congrArg (AVal.rsl F6 1 0) hhl)
  ·exact hhl
  ·rw [Nat.zero_add]
   exact fun k _=>fupd_setD default encZ a.heard from_.toNat now (by omega) k
 ·refine AEnd.done ?_
  have hbh:(a.hearing from_ now).h=a.h:=by rw [heq]
  have hbi:(a.hearing from_ now).InOk c:=by rw [heq];exact ⟨h.p,h.pr,h.g,h.tsn,h.bag,h.bagB,h.w,h.wB,h.inn,h.innB,h.text,h.win,h.owe,h.fok,h.ook,h.many⟩
  generalize a.hearing from_ now=b at hbh hbi ⊢
  rw [←hbh] at hst
  conv=>whnf
  rw [show (c.ty==0)=true from by rw [hc];rfl]
  conv=>whnf
  refine AGo.go (TTkOk) followsB ?_
  conv=>whnf
  rw [show decide (3≤b.h.st)=true from decide_eq_true hst.1]
  conv=>whnf
  repeat (refine gK ?_;conv=>whnf)
  rw [show decide (b.h.st≤5)=true from decide_eq_true hst.2]
  conv=>whnf
  refine AGo.go (TTkOk) followsB ?_
  conv=>whnf
  refine ⟨_,(take_specA b c from_ now hbi hn),?_⟩
  rintro q hq ⟨rfl,rfl⟩
  unfold ABack
  generalize hfr:freshN _ _ _ _=fb
  have hb:fb=true:=by
   rw [←hfr]
   conv=>lhs;whnf
  subst hb
  clear hfr
  dsimp only
  conv=>whnf
  try dsimp only [newBase,Nat.reduceAdd,Nat.reduceMul]
  refine finR [(68000,2001),(68001,2002),(68002,2003),(68003,2004)] rfl rfl (.refl _) ?_ ⟨rfl,rfl⟩
  exact ⟨OLe.refl _,OLe.refl _,OLe.refl _,OLe.refl _,OLe.refl _,OLe.refl _,OLe.refl _,trivial⟩
end Go.Proofs.YtbkcekmahdbgdaaGreat
namespace Towline.Ac
open Towline.Hand Towline.Chunk Towline.Store
namespace As
def flush (a:As) (i:Nat) (now:Int):As×List (Int×List Ch):=
 if a.h.st=3∨a.h.st=4∨a.h.st=6 then
  let c:As:={ a.tell with out:=[]}
  let d:=againL i now (lossF c.xl) c
  let e:=freshL i now (64-d.1.xl.length) d.1
  (e.1,if d.2++e.2=[] then a.tell.out else a.tell.out++[((i:Int),d.2++e.2)])
 else ({ a.tell with out:=[]},a.tell.out)
theorem againL_len (i:Nat) (now:Int):∀(L:List Int) (a:As),(againL i now L a).2.length≤L.length
 | [],a=>Nat.le_refl _
 |n::r,a=>by
  unfold againL
  split
  ·exact Nat.zero_le _
  ·split
   ·have:=againL_len i now r (a.againA i n now);simp;omega
   ·have:=againL_len i now r a;simp;omega
theorem freshL_len (i:Nat) (now:Int):∀(f:Nat) (a:As),(freshL i now f a).2.length≤f
 |0,a=>Nat.le_refl _
 |f+1,a=>by
  unfold freshL
  split
  ·have:=freshL_len i now f (a.freshA i now);simp;omega
  ·exact Nat.zero_le _
end As
end Towline.Ac
namespace Go.Proofs.YtbkcekmahdbgdaaGreat
open Go Go.RowKit Towline Towline.Hand Towline.Ac Towline.Chunk Towline.Store
set_option linter.unusedVariables false
set_option linter.unusedSimpArgs false
set_option maxRecDepth 20000
set_option maxHeartbeats 4000000
abbrev TFl:Tys:=tysX false [] [(61,[]),(63,[]),(64,[])] [dmT+101,pbT+44,pbT+77]
theorem TFlOk:TysOk Tryz.prog TFl:=tysXOk _ _ _ _
structure FlOk (a:As):Prop where
 g:a.g.Ok
 p:a.p.l.length≤2 ^ 30
 pr:0≤a.p.pr∧a.p.pr<2 ^ 30
 out:a.out.length≤2 ^ 29
 bag:a.bag.length≤2 ^ 30
 bagB:fbytes a.bag≤2 ^ 40
 w:a.q.w.length≤2 ^ 30
 wB:mbytes a.q.w≤2 ^ 40
 inn:a.inn.length≤2 ^ 30
 innB:mbytes a.inn≤2 ^ 40
 win:0≤a.win∧a.win<4294967296
theorem tell_h (a:As):a.tell.h=a.h:=by unfold As.tell;split<;>rfl
theorem tell_p (a:As):a.tell.p=a.p:=by unfold As.tell;split<;>rfl
theorem tell_out (a:As):a.tell.out.length≤a.out.length+1:=by
 unfold As.tell
 split
 ·show (a.out++_).length≤_;simp
 ·omega
theorem flush_specT (a:As) (i:Nat) (now T:Int) (h:FlOk a) (hi:a.there (-1)=i) (hn : -2 ^ 60≤now∧now≤2 ^ 60) (hf:a.tell.FrOk i) (ht:∀p∈a.tell.xl,0≤p.times∧p.times≤T) (hT:T≤2 ^ 50) (hte:LSpec Tryz.prog 61 [.ptr F0 0] (asH a) (fun r hl=>r=.tup []∧hl=asP a.tell)) (hag0:LSpec Tryz.prog 63 [.ptr F0 0,vi i,vi now] (asH { a.tell with out:=[]}) (fun r hl=>r=.d (slT 14 encCh (As.againL i now (lossF ({ a.tell with out:=[]}:As).xl) { a.tell with out:=[]}).2)∧hl=asP (As.againL i now (lossF ({ a.tell with out:=[]}:As).xl) { a.tell with out:=[]}).1)):LSpec Tryz.prog 27 [.ptr F0 0,vi now] (asH a) (fun r hl=>r=.rsl 2005 2 0 (a.flush i now).2.length∧hl=asP (a.flush i now).1++[(2005,rowOut (a.flush i now).2)]):=by
 refine LSpec.rens (LSpec.runES (h2:=asP a) psN (TFlOk) followsB Tryz.func27 (by decide) rfl Tryz.ntmps27 (Nat.le_of_ble_eq_true rfl) rfl rfl rfl rfl rfl fun w0 R0 Lo hGw=>?_)
 conv=>whnf
 have hth:=tell_h a
 have htp:=tell_p a
 have hto:=tell_out a
 have ho:=h.out
 have hfl:a.flush i now=if a.tell.h.st=3∨a.tell.h.st=4∨a.tell.h.st=6 then ((As.freshL i now (64-(As.againL i now (lossF ({ a.tell with out:=[]}:As).xl) { a.tell with out:=[]}).1.xl.length) (As.againL i now (lossF ({ a.tell with out:=[]}:As).xl) { a.tell with out:=[]}).1).1,if (As.againL i now (lossF ({ a.tell with out:=[]}:As).xl) { a.tell with out:=[]}).2++(As.freshL i now (64-(As.againL i now (lossF ({ a.tell with out:=[]}:As).xl) { a.tell with out:=[]}).1.xl.length) (As.againL i now (lossF ({ a.tell with out:=[]}:As).xl) { a.tell with out:=[]}).1).2=[] then a.tell.out else a.tell.out++[((i:Int),(As.againL i now (lossF ({ a.tell with out:=[]}:As).xl) { a.tell with out:=[]}).2++(As.freshL i now (64-(As.againL i now (lossF ({ a.tell with out:=[]}:As).xl) { a.tell with out:=[]}).1.xl.length) (As.againL i now (lossF ({ a.tell with out:=[]}:As).xl) { a.tell with out:=[]}).1).2)]) else ({ a.tell with out:=[]},a.tell.out):=by rw [hth];rfl
 rw [hfl]
 have hi':a.tell.there (-1)=i:=by unfold As.there;rw [htp];exact hi
 clear hfl
 generalize a.tell=b at hte hag0 hth htp hto hf ht hi' ⊢
 have hcf:({ b with out:=[]}:As).FrOk i:=⟨hf.ii,hf.due,hf.rto,hf.xl,hf.xs,hf.win,hf.s⟩
 have hag:=hag0
 have hdok:=againL_ok i now (lossF ({ b with out:=[]}:As).xl) { b with out:=[]} hcf
 have hdl:=As.againL_len i now (lossF ({ b with out:=[]}:As).xl) { b with out:=[]}
 have hll:=lossF_len ({ b with out:=[]}:As).xl
 have hxl:({ b with out:=[]}:As).xl.length≤64:=hf.xl
 generalize As.againL i now (lossF ({ b with out:=[]}:As).xl) { b with out:=[]}=d at hag hdok hdl ⊢
 obtain ⟨d,ld⟩:=d
 dsimp only at hag hdok hdl ⊢
 have hfs:=fresh_spec d i now hdok hn
 have hel:=As.freshL_len i now (64-d.xl.length) d
 generalize As.freshL i now (64-d.xl.length) d=e at hfs hel ⊢
 obtain ⟨e,le⟩:=e
 dsimp only at hfs hel ⊢
 dsimp only at hll hxl
 have hcc:=concatC_spec ld le (by omega)
 refine ⟨_,hte,?_⟩
 rintro q hq ⟨rfl,rfl⟩
 unfold ABack
 generalize hfr:freshN _ _ _ _=fb
 have hb:fb=true:=by
  rw [←hfr]
  conv=>lhs;whnf
 subst hb
 clear hfr
 dsimp only
 conv=>whnf
 try dsimp only [newBase,Nat.reduceAdd,Nat.reduceMul]
 cases g1:(b.h.st==3)
 ·conv=>whnf
  refine AGo.go (TFlOk) followsB ?_
  conv=>whnf
  cases g2:(b.h.st==4)
  ·conv=>whnf
   refine AGo.go (TFlOk) followsB ?_
   conv=>whnf
   cases g3:(b.h.st==6)
   ·rw [if_neg (fun h=>h.elim (beq_eq_false_iff_ne.1 g1) fun h=>h.elim (beq_eq_false_iff_ne.1 g2) (beq_eq_false_iff_ne.1 g3))]
    conv=>whnf
    refine AGo.adoptCell F0 29 2003 2 79 (fun j=>encOut (([]:List (Int×List Ch)).getD j default)) rfl rfl rfl rfl rfl ?_
    refine AGo.restate [(10000,2001),(10001,2002),(10002,2005),(10003,2004)] [(0,.ptr F0 0),(1,vi now),(5,.rsl 2005 2 0 b.out.length)] ((2005,rowOut b.out)::asP { b with out:=[]}) rfl (by (repeat' (first|exact ⟨⟩|exact OLe.refl _|exact .refl _|exact .nil|exact rfl|refine ⟨?_,?_⟩|fail))) ?_
    refine AGo.go (TFlOk) followsB ?_
    conv=>whnf
    refine AEnd.done ?_
    conv=>whnf
    refine finR [] rfl rfl (.refl _) ?_ ⟨rfl,rfl⟩
    exact ⟨OLe.refl _,OLe.refl _,OLe.refl _,OLe.refl _,OLe.refl _,OLe.refl _,OLe.refl _,OLe.refl _,trivial⟩
   ·rw [if_pos (Or.inr (Or.inr (eq_of_beq g3)))]
    conv=>whnf
    refine AGo.adoptCell F0 29 2003 2 79 (fun j=>encOut (([]:List (Int×List Ch)).getD j default)) rfl rfl rfl rfl rfl ?_
    refine AGo.restate [(10000,2001),(10001,2002),(10002,2005),(10003,2004)] [(0,.ptr F0 0),(1,vi now),(5,.rsl 2005 2 0 b.out.length),(22,vb true)] ((2005,rowOut b.out)::asP { b with out:=[]}) rfl (by (repeat' (first|exact ⟨⟩|exact OLe.refl _|exact .refl _|exact .nil|exact rfl|refine ⟨?_,?_⟩|fail))) ?_
    refine AGo.go (TFlOk) followsB ?_
    conv=>whnf
    repeat (refine gK ?_;conv=>whnf)
    have hcx:=(there_spec { b with out:=[]} (-1) (by show b.p.l.length≤_;rw [htp];exact h.p) (by show 0≤b.p.pr∧b.p.pr<_;rw [htp];exact h.pr))
    first|(refine ⟨_,hcx,?_⟩;rintro q rfl)|refine ⟨_,hcx,?_⟩
    clear hcx
    conv=>whnf
    rw [show ({ b with out:=[]}:As).there (-1)=(i:Int) from hi']
    refine ⟨_,hag,?_⟩
    rintro q hq ⟨rfl,rfl⟩
    unfold ABack
    generalize hfr:freshN _ _ _ _=fb
    have hb:fb=true:=by
     rw [←hfr]
     conv=>lhs;whnf
    subst hb
    clear hfr
    dsimp only
    conv=>whnf
    try dsimp only [newBase,Nat.reduceAdd,Nat.reduceMul]
    refine ⟨_,hfs,?_⟩
    rintro q hq ⟨rfl,rfl⟩
    unfold ABack
    generalize hfr:freshN _ _ _ _=fb
    have hb:fb=true:=by
     rw [←hfr]
     conv=>lhs;whnf
    subst hb
    clear hfr
    dsimp only
    conv=>whnf
    try dsimp only [newBase,Nat.reduceAdd,Nat.reduceMul]
    have hcx:=hcc
    first|(refine ⟨_,hcx,?_⟩;rintro q rfl)|refine ⟨_,hcx,?_⟩
    clear hcx
    conv=>whnf
    cases g5:decide (0<((ld++le).length:Int))
    ·have hnil:ld++le=[]:=List.eq_nil_of_length_eq_zero (by have:=of_decide_eq_false g5;omega)
     rw [if_pos hnil]
     conv=>whnf
     refine AGo.go (TFlOk) followsB ?_
     conv=>whnf
     refine AEnd.done ?_
     conv=>whnf
     refine finR [(36000,2001),(36001,2002),(36002,2003),(36003,2004)] rfl rfl (.refl _) ?_ ⟨rfl,rfl⟩
     exact ⟨OLe.refl _,OLe.refl _,OLe.refl _,OLe.refl _,OLe.refl _,OLe.refl _,OLe.refl _,OLe.refl _,trivial⟩
    ·have hne:ld++le≠[]:=fun hn=>by rw [hn] at g5;exact absurd (of_decide_eq_true g5) (by simp)
     rw [if_neg hne]
     conv=>whnf
     refine AGo.go (TFlOk) followsB ?_
     conv=>whnf
     refine ⟨⟨⟨rfl,by omega,by simp only [ty79];omega⟩,by omega⟩,?_⟩
     conv=>whnf
     refine AEnd.done ?_
     conv=>whnf
     have hln:b.out.length+1=(b.out++[((i:Int),ld++le)]).length:=by simp
     refine finR [(36000,2001),(36001,2002),(36002,2003),(36003,2004),(46,2005)] rfl rfl (.of_eq (congrArg (AVal.rsl 2005 2 0) hln)) ?_ ⟨rfl,rfl⟩
     (repeat' (first|exact ⟨⟩|exact OLe.refl _|exact .refl _|exact .nil|exact rfl|refine ⟨?_,?_⟩|fail))
     ·exact hln
     ·exact fun k hk=>slT_app encOut b.out ((i:Int),ld++le) k hk rfl
  ·rw [if_pos (Or.inr (Or.inl (eq_of_beq g2)))]
   conv=>whnf
   refine AGo.adoptCell F0 29 2003 2 79 (fun j=>encOut (([]:List (Int×List Ch)).getD j default)) rfl rfl rfl rfl rfl ?_
   refine AGo.restate [(10000,2001),(10001,2002),(10002,2005),(10003,2004)] [(0,.ptr F0 0),(1,vi now),(5,.rsl 2005 2 0 b.out.length),(22,vb true)] ((2005,rowOut b.out)::asP { b with out:=[]}) rfl (by (repeat' (first|exact ⟨⟩|exact OLe.refl _|exact .refl _|exact .nil|exact rfl|refine ⟨?_,?_⟩|fail))) ?_
   refine AGo.go (TFlOk) followsB ?_
   conv=>whnf
   refine AGo.go (TFlOk) followsB ?_
   conv=>whnf
   repeat (refine gK ?_;conv=>whnf)
   have hcx:=(there_spec { b with out:=[]} (-1) (by show b.p.l.length≤_;rw [htp];exact h.p) (by show 0≤b.p.pr∧b.p.pr<_;rw [htp];exact h.pr))
   first|(refine ⟨_,hcx,?_⟩;rintro q rfl)|refine ⟨_,hcx,?_⟩
   clear hcx
   conv=>whnf
   rw [show ({ b with out:=[]}:As).there (-1)=(i:Int) from hi']
   refine ⟨_,hag,?_⟩
   rintro q hq ⟨rfl,rfl⟩
   unfold ABack
   generalize hfr:freshN _ _ _ _=fb
   have hb:fb=true:=by
    rw [←hfr]
    conv=>lhs;whnf
   subst hb
   clear hfr
   dsimp only
   conv=>whnf
   try dsimp only [newBase,Nat.reduceAdd,Nat.reduceMul]
   refine ⟨_,hfs,?_⟩
   rintro q hq ⟨rfl,rfl⟩
   unfold ABack
   generalize hfr:freshN _ _ _ _=fb
   have hb:fb=true:=by
    rw [←hfr]
    conv=>lhs;whnf
   subst hb
   clear hfr
   dsimp only
   conv=>whnf
   try dsimp only [newBase,Nat.reduceAdd,Nat.reduceMul]
   have hcx:=hcc
   first|(refine ⟨_,hcx,?_⟩;rintro q rfl)|refine ⟨_,hcx,?_⟩
   clear hcx
   conv=>whnf
   cases g5:decide (0<((ld++le).length:Int))
   ·have hnil:ld++le=[]:=List.eq_nil_of_length_eq_zero (by have:=of_decide_eq_false g5;omega)
    rw [if_pos hnil]
    conv=>whnf
    refine AGo.go (TFlOk) followsB ?_
    conv=>whnf
    refine AEnd.done ?_
    conv=>whnf
    refine finR [(36000,2001),(36001,2002),(36002,2003),(36003,2004)] rfl rfl (.refl _) ?_ ⟨rfl,rfl⟩
    exact ⟨OLe.refl _,OLe.refl _,OLe.refl _,OLe.refl _,OLe.refl _,OLe.refl _,OLe.refl _,OLe.refl _,trivial⟩
   ·have hne:ld++le≠[]:=fun hn=>by rw [hn] at g5;exact absurd (of_decide_eq_true g5) (by simp)
    rw [if_neg hne]
    conv=>whnf
    refine AGo.go (TFlOk) followsB ?_
    conv=>whnf
    refine ⟨⟨⟨rfl,by omega,by simp only [ty79];omega⟩,by omega⟩,?_⟩
    conv=>whnf
    refine AEnd.done ?_
    conv=>whnf
    have hln:b.out.length+1=(b.out++[((i:Int),ld++le)]).length:=by simp
    refine finR [(36000,2001),(36001,2002),(36002,2003),(36003,2004),(46,2005)] rfl rfl (.of_eq (congrArg (AVal.rsl 2005 2 0) hln)) ?_ ⟨rfl,rfl⟩
    (repeat' (first|exact ⟨⟩|exact OLe.refl _|exact .refl _|exact .nil|exact rfl|refine ⟨?_,?_⟩|fail))
    ·exact hln
    ·exact fun k hk=>slT_app encOut b.out ((i:Int),ld++le) k hk rfl
 ·rw [if_pos (Or.inl (eq_of_beq g1))]
  conv=>whnf
  refine AGo.adoptCell F0 29 2003 2 79 (fun j=>encOut (([]:List (Int×List Ch)).getD j default)) rfl rfl rfl rfl rfl ?_
  refine AGo.restate [(10000,2001),(10001,2002),(10002,2005),(10003,2004)] [(0,.ptr F0 0),(1,vi now),(5,.rsl 2005 2 0 b.out.length),(22,vb true)] ((2005,rowOut b.out)::asP { b with out:=[]}) rfl (by (repeat' (first|exact ⟨⟩|exact OLe.refl _|exact .refl _|exact .nil|exact rfl|refine ⟨?_,?_⟩|fail))) ?_
  refine AGo.go (TFlOk) followsB ?_
  conv=>whnf
  refine AGo.go (TFlOk) followsB ?_
  conv=>whnf
  repeat (refine gK ?_;conv=>whnf)
  have hcx:=(there_spec { b with out:=[]} (-1) (by show b.p.l.length≤_;rw [htp];exact h.p) (by show 0≤b.p.pr∧b.p.pr<_;rw [htp];exact h.pr))
  first|(refine ⟨_,hcx,?_⟩;rintro q rfl)|refine ⟨_,hcx,?_⟩
  clear hcx
  conv=>whnf
  rw [show ({ b with out:=[]}:As).there (-1)=(i:Int) from hi']
  refine ⟨_,hag,?_⟩
  rintro q hq ⟨rfl,rfl⟩
  unfold ABack
  generalize hfr:freshN _ _ _ _=fb
  have hb:fb=true:=by
   rw [←hfr]
   conv=>lhs;whnf
  subst hb
  clear hfr
  dsimp only
  conv=>whnf
  try dsimp only [newBase,Nat.reduceAdd,Nat.reduceMul]
  refine ⟨_,hfs,?_⟩
  rintro q hq ⟨rfl,rfl⟩
  unfold ABack
  generalize hfr:freshN _ _ _ _=fb
  have hb:fb=true:=by
   rw [←hfr]
   conv=>lhs;whnf
  subst hb
  clear hfr
  dsimp only
  conv=>whnf
  try dsimp only [newBase,Nat.reduceAdd,Nat.reduceMul]
  have hcx:=hcc
  first|(refine ⟨_,hcx,?_⟩;rintro q rfl)|refine ⟨_,hcx,?_⟩
  clear hcx
  conv=>whnf
  cases g5:decide (0<((ld++le).length:Int))
  ·have hnil:ld++le=[]:=List.eq_nil_of_length_eq_zero (by have:=of_decide_eq_false g5;omega)
   rw [if_pos hnil]
   conv=>whnf
   refine AGo.go (TFlOk) followsB ?_
   conv=>whnf
   refine AEnd.done ?_
   conv=>whnf
   refine finR [(36000,2001),(36001,2002),(36002,2003),(36003,2004)] rfl rfl (.refl _) ?_ ⟨rfl,rfl⟩
   exact ⟨OLe.refl _,OLe.refl _,OLe.refl _,OLe.refl _,OLe.refl _,OLe.refl _,OLe.refl _,OLe.refl _,trivial⟩
  ·have hne:ld++le≠[]:=fun hn=>by rw [hn] at g5;exact absurd (of_decide_eq_true g5) (by simp)
   rw [if_neg hne]
   conv=>whnf
   refine AGo.go (TFlOk) followsB ?_
   conv=>whnf
   refine ⟨⟨⟨rfl,by omega,by simp only [ty79];omega⟩,by omega⟩,?_⟩
   conv=>whnf
   refine AEnd.done ?_
   conv=>whnf
   have hln:b.out.length+1=(b.out++[((i:Int),ld++le)]).length:=by simp
   refine finR [(36000,2001),(36001,2002),(36002,2003),(36003,2004),(46,2005)] rfl rfl (.of_eq (congrArg (AVal.rsl 2005 2 0) hln)) ?_ ⟨rfl,rfl⟩
   (repeat' (first|exact ⟨⟩|exact OLe.refl _|exact .refl _|exact .nil|exact rfl|refine ⟨?_,?_⟩|fail))
   ·exact hln
   ·exact fun k hk=>slT_app encOut b.out ((i:Int),ld++le) k hk rfl
theorem flush_spec0 (a:As) (i:Nat) (now T:Int) (h:FlOk a) (hi:a.there (-1)=i) (hn : -2 ^ 60≤now∧now≤2 ^ 60) (hf:a.tell.FrOk i) (ht:∀p∈a.tell.xl,0≤p.times∧p.times≤T) (hT:T≤2 ^ 50) (hsk:a.sack=false) (hx:lossF a.tell.xl=[]):LSpec Tryz.prog 27 [.ptr F0 0,vi now] (asH a) (fun r hl=>r=.rsl 2005 2 0 (a.flush i now).2.length∧hl=asP (a.flush i now).1++[(2005,rowOut (a.flush i now).2)]):=
 flush_specT a i now T h hi hn hf ht hT (tell0_spec a hsk) (again0_spec { a.tell with out:=[]} i now hf.xl hx)
end Go.Proofs.YtbkcekmahdbgdaaGreat
namespace Towline.Ac
open Towline.Hand Towline.Chunk Towline.Store
def kOf (c:Ch):K:=⟨c.ty,c.flags,c.tsn,c.tag,c.window,c.ppid,c.stream,c.ssn,c.outs,c.ins,c.text⟩
def itOf (c:Ch):List Hand.It:=c.items.map fun x=>⟨x.ty,x.v⟩
namespace As
def ctlR (a:As) (c:Ch) (now:Int):R:=takeR a.h (kOf c) (itOf c) a.empty now
end As
end Towline.Ac
namespace Go.Proofs.YtbkcekmahdbgdaaGreat
open Go Go.RowKit Towline Towline.Hand Towline.Ac Towline.Chunk Towline.Store
set_option linter.unusedVariables false
set_option linter.unusedSimpArgs false
set_option maxRecDepth 20000
set_option maxHeartbeats 4000000
abbrev TCt:Tys:=tysX false [] [(42,[]),(34,[]),(67,[])] [pbT+44]
theorem TCtOk:TysOk Tryz.prog TCt:=tysXOk _ _ _ _
theorem handTake_spec (a:As) (c:Ch) (e:Bool) (now:Int) (hi:c.items.length≤maxLen) (ht:0≤a.h.tries):PSpec Tryz.prog 86 [hA a.h,chA c,vb e,vi now] (· = rA (takeR a.h (kOf c) (itOf c) e now)):=
 (Go.Proofs.YtbkcekmahdbgdaaGreat.take_spec a.h (kOf c) (slT 2 encG c.gaps) (slT 1 enc32 c.dups) (itOf c) e now (by unfold itOf;rw [List.length_map];exact hi) (by omega)).argsC
  ⟨.refl _,.agg ⟨.refl _,.refl _,.refl _,.refl _,.refl _,.refl _,.refl _,.refl _,.refl _,.refl _,.refl _,.refl _,.sl (by unfold itOf;rw [List.length_map]) (fun k hk=>by
   unfold itOf
   rw [List.getD_eq_getElem?_getD,List.getD_eq_getElem?_getD,List.getElem?_map,List.getElem?_eq_getElem hk];rfl),.refl _,trivial⟩,.refl _,.refl _,trivial⟩
end Go.Proofs.YtbkcekmahdbgdaaGreat
namespace Towline.Ac
namespace As
end As
end Towline.Ac
namespace Go.Proofs.YtbkcekmahdbgdaaGreat
open Go Go.RowKit Towline Towline.Hand Towline.Ac Towline.Chunk Towline.Store
set_option linter.unusedVariables false
set_option linter.unusedSimpArgs false
set_option maxRecDepth 20000
set_option maxHeartbeats 4000000
end Go.Proofs.YtbkcekmahdbgdaaGreat
namespace Towline
open Go Go.RowKit
set_option linter.unusedVariables false
def forceK (n:Nat) (k:Nat→Prop):Prop:=match n with
 |0=>k 0
 |m+1=>k (m+1)
theorem forceK_eq {n:Nat} {k:Nat→Prop} (h:forceK n k):k n:=by cases n<;>exact h
def keyD:Heap→(Heap→Prop)→Prop
 | [],k=>k []
 |(i,o)::r,k=>forceK i fun i=>keyD r fun r=>k ((i,o)::r)
theorem keyD_eq:∀{h:Heap} {k:Heap→Prop},keyD h k→k h
 | [],_,h=>h
 |(i,o)::r,k,h=>keyD_eq (h:=r) (k:=fun r=>k ((i,o)::r)) (forceK_eq h)
theorem AEnd.rensD {C:Ctx} {Q:Env→Heap→Prop} {env:Env} {heap:Heap} (ps:List (Nat×Nat)) (ok:rensOk C.lid ps heap=true) (h:keyD (rensH ps heap) fun h0=>deepH (fun hp=>AEnd C Q (rensE ps env) hp) h0):AEnd C Q env heap:=
 AEnd.rensL ps ok (deepH_eq (k:=fun hp=>AEnd C Q (rensE ps env) hp) (keyD_eq (k:=fun h0=>deepH (fun hp=>AEnd C Q (rensE ps env) hp) h0) h))
def CovL:Heap→Heap→Prop
 | [],[]=>True
 |(i,a)::r,(j,b)::s=>i=j∧OLe a b∧CovL r s
 |_,_=>False
def pickHp:List Nat→Heap→Heap
 | [],_=>[]
 |i::r,h=>match lookO i h with|some o=>(i,o)::pickHp r h|none=>pickHp r h
theorem pickHp_len:∀(l:List Nat) (h:Heap),(pickHp l h).length≤l.length
 | [],_=>Nat.le_refl _
 |i::r,h=>by
  have:=pickHp_len r h
  unfold pickHp
  split
  ·simp;omega
  ·simp;omega
theorem keysH_len:∀(h:Heap),(keysH h).length=h.length
 | []=>rfl
 |(_,_)::r=>by show (keysH r).length+1=r.length+1;rw [keysH_len r]
theorem CovL.len:∀{a b:Heap},CovL a b→a.length=b.length
 | [],[],_=>rfl
 |(_,_)::r,(_,_)::s,h=>by rw [List.length_cons,List.length_cons,CovL.len h.2.2]
 | [],_::_,h=>h.elim
 |_::_,[],h=>h.elim
theorem CovH_pick {heap:Heap}:∀{hl:Heap},CovL (pickHp (keysH hl) heap) hl→CovH heap hl
 | [],_=>trivial
 |(j,b)::s,h=>by
  have hk:keysH ((j,b)::s)=j::keysH s:=rfl
  rw [hk] at h
  unfold pickHp at h
  unfold CovH
  cases e:lookO j heap with
  |some o=>
   rw [e] at h
   exact ⟨h.2.1,CovH_pick h.2.2⟩
  |none=>
   rw [e] at h
   have h:CovL (pickHp (keysH s) heap) ((j,b)::s):=h
   have h1:=CovL.len h
   have h2:=pickHp_len (keysH s) heap
   rw [keysH_len] at h2
   rw [List.length_cons] at h1
   omega
theorem CovE_and {env:Env} {p:Prop}:∀{e:Env},CovE env e True→p→CovE env e p
 | [],_,h=>h
 |(_,_)::r,h,hp=>⟨h.1,CovE_and (e:=r) h.2 hp⟩
section
variable {C : Ctx} {T : Tys}
def covD (heap hl:Heap):Prop:=keyD heap fun h0=>deepH (fun h1=>CovL h1 hl) (pickHp (keysH hl) h0)
theorem covD_ok {heap hl:Heap} (h:covD heap hl):CovH heap hl:=CovH_pick (deepH_eq (k:=fun h1=>CovL h1 hl) (keyD_eq (k:=fun h0=>deepH (fun h1=>CovL h1 hl) (pickHp (keysH hl) h0)) h))
theorem finD {heap:Heap} {K:List Nat} {post:AVal→Heap→Prop} {r r':AVal} {hl':Heap} (hn:nodupK heap=true) (h1:r.le r') (h2:covD heap hl') (hp:post r' hl'):finL heap (PostR K post) r:=
 finR [] hn rfl h1 (covD_ok h2) hp
theorem ALoop.introD {X:Type} {c:Code} {Q:Exit→Env→Heap→Prop} {env:Env} {heap:Heap} (hT:TysOk C.P T) (hM:C.P.follows .mixedOrders=true) (S:X→Env×Heap) (μ:X→Nat) (x0:X) (h0:CovE env (S x0).1 True) (h00:covD heap (S x0).2)
  (round:∀x,ARun C T c (fun e env' heap'=>match e with|.normal=>∃x' ps,μ x'<μ x∧CovE (renEs C.lid ps env') (S x').1 True∧covD (renHs C.lid ps heap') (S x').2|e=>Q e env' heap') (S x).1 (S x).2):ALoop C c Q env heap:=
 ⟨AWp.loop (fun x=>(S x).1) (fun x=>(S x).2) μ x0 (Covers.mk' (CovE_and h0 (covD_ok h00))) fun x L a w hr=>wp_mono ((ARun_ok hT hM (round x)) L a w hr) fun e a' w' ⟨L',env',heap',h1,h2⟩=>by
  cases e with
  |normal=>
   obtain ⟨x',ps,h3,h4,h6⟩:=h2
   obtain ⟨L2,h5⟩:=h1.rens ps
   exact ⟨L2,_,_,h5,x',h3,Covers.mk' (CovE_and h4 (covD_ok h6))⟩
  |_=>exact ⟨L',env',heap',h1,h2⟩⟩
end
end Towline
namespace Towline.Ac
open Towline.Hand Towline.Chunk Towline.Store
def pt0 (ad:List UInt8) (st:Int):Pt:=⟨ad,st,0,⟨0,0,1000,0,false⟩,⟨4500,60000,0⟩,0,0,0⟩
namespace As
def begun (l:List Pt):As:=⟨H.nil,⟨l,0,0⟩,⟨[],0,[]⟩,0,[],[],⟨0,[],[]⟩,[],⟨[],[]⟩,[],60000,[],[],0,false,0,0,List.replicate l.length 0,List.replicate l.length 0⟩
end As
end Towline.Ac
namespace Go.Proofs.YtbkcekmahdbgdaaGreat
open Go Go.RowKit Towline Towline.Hand Towline.Ac Towline.Chunk Towline.Store
set_option linter.unusedVariables false
set_option linter.unusedSimpArgs false
set_option maxRecDepth 20000
set_option maxHeartbeats 4000000
theorem z1 {k:Nat} (h:k<1):k=0:=by omega
theorem z2 {k:Nat} (h:k<2):k=0∨k=1:=by omega
abbrev ad1 (s:List UInt8):AVal:=.d (.sl 1 1 fun _=>[.s s])
abbrev ad2 (s t:List UInt8):AVal:=.d (.sl 1 2 fun k=>match k with|0=>[.s s]|_+1=>[.s t])
theorem pnew1_spec (s:List UInt8) (h:s.length=4):PSpec Tryz.prog 163 [vs s] (· = vb false):=by
 refine PSpec.run (tysOk) followsB Tryz.func163 (by decide) rfl Tryz.ntmps163 (Nat.le_of_ble_eq_true rfl) rfl fun w0 R0 hGw=>?_
 conv=>whnf
 rw [show ((s.length:Int) != 4)=false from by rw [h];rfl]
 conv=>whnf
 exact ⟨_,.refl _,rfl,rfl⟩
theorem pidx1_spec (s:List UInt8) (h:s.length=4):PSpec Tryz.prog 205 [ad1 s,.fn 163 []] (· = vi (-1)):=by
 refine PSpec.run (tysOk) followsB Tryz.func205 (by decide) rfl Tryz.ntmps205 (Nat.le_of_ble_eq_true rfl) rfl fun w0 R0 hGw=>?_
 conv=>whnf
 refine ALoop.rounds (tysOk) followsB 3 ?_
 conv=>whnf
 refine gK ?_
 conv=>whnf
 refine ⟨_,(pnew1_spec s h),?_⟩
 rintro q rfl
 conv=>whnf
 refine gK ?_
 conv=>whnf
 exact ⟨_,.refl _,rfl,rfl⟩
theorem pidx2_spec (s t:List UInt8) (h:s.length=4) (h2:t.length=4):PSpec Tryz.prog 205 [ad2 s t,.fn 163 []] (· = vi (-1)):=by
 refine PSpec.run (tysOk) followsB Tryz.func205 (by decide) rfl Tryz.ntmps205 (Nat.le_of_ble_eq_true rfl) rfl fun w0 R0 hGw=>?_
 conv=>whnf
 refine ALoop.rounds (tysOk) followsB 3 ?_
 conv=>whnf
 refine gK ?_
 conv=>whnf
 refine ⟨_,(pnew1_spec s h),?_⟩
 rintro q rfl
 conv=>whnf
 refine gK ?_
 conv=>whnf
 refine gK ?_
 conv=>whnf
 refine ⟨_,(pnew1_spec t h2),?_⟩
 rintro q rfl
 conv=>whnf
 refine gK ?_
 conv=>whnf
 exact ⟨_,.refl _,rfl,rfl⟩
theorem pcon1_spec (s:List UInt8) (h:s.length=4):PSpec Tryz.prog 164 [ad1 s,.fn 163 []] (· = vb false):=by
 refine PSpec.run (tysOk) followsB Tryz.func164 (by decide) rfl Tryz.ntmps164 (Nat.le_of_ble_eq_true rfl) rfl fun w0 R0 hGw=>?_
 conv=>whnf
 refine ⟨_,(pidx1_spec s h),?_⟩
 rintro q rfl
 conv=>whnf
 exact ⟨_,.refl _,rfl,rfl⟩
theorem pcon2_spec (s t:List UInt8) (h:s.length=4) (h2:t.length=4):PSpec Tryz.prog 164 [ad2 s t,.fn 163 []] (· = vb false):=by
 refine PSpec.run (tysOk) followsB Tryz.func164 (by decide) rfl Tryz.ntmps164 (Nat.le_of_ble_eq_true rfl) rfl fun w0 R0 hGw=>?_
 conv=>whnf
 refine ⟨_,(pidx2_spec s t h h2),?_⟩
 rintro q rfl
 conv=>whnf
 exact ⟨_,.refl _,rfl,rfl⟩
theorem ptag_spec (p:Pt) (s:List UInt8):PSpec Tryz.prog 207 [.agg ((encPt p).map .d),.eptr 1 1 (fun _=>[.s s]) 0 0] (· = vb (p.ad==s)):=by
 refine PSpec.run (tysOk) followsB Tryz.func207 (by decide) rfl Tryz.ntmps207 (Nat.le_of_ble_eq_true rfl) rfl fun w0 R0 hGw=>?_
 conv=>whnf
 exact ⟨_,.refl _,rfl,rfl⟩
theorem pidxN_spec:PSpec Tryz.prog 206 [.d nilD,.any] (· = vi (-1)):=by
 refine PSpec.run (tysOk) followsB Tryz.func206 (by decide) rfl Tryz.ntmps206 (Nat.le_of_ble_eq_true rfl) rfl fun w0 R0 hGw=>?_
 conv=>whnf
 refine ALoop.rounds (tysOk) followsB 1 ?_
 conv=>whnf
 exact ⟨_,.refl _,rfl,rfl⟩
theorem pidxO_spec (p:Pt) (s:List UInt8) (h:p.ad≠s):PSpec Tryz.prog 206 [.d (.sl 14 1 fun _=>encPt p),.fn 207 [.eptr 1 1 (fun _=>[.s s]) 0 0]] (· = vi (-1)):=by
 refine PSpec.run (tysOk) followsB Tryz.func206 (by decide) rfl Tryz.ntmps206 (Nat.le_of_ble_eq_true rfl) rfl fun w0 R0 hGw=>?_
 conv=>whnf
 refine ALoop.rounds (tysOk) followsB 2 ?_
 conv=>whnf
 refine gK ?_
 conv=>whnf
 refine ⟨_,(ptag_spec p s),?_⟩
 rintro q rfl
 conv=>whnf
 rw [show (p.ad==s)=false from beq_eq_false_iff_ne.2 h]
 conv=>whnf
 refine gK ?_
 conv=>whnf
 exact ⟨_,.refl _,rfl,rfl⟩
theorem pfindN_spec (s:List UInt8):PSpec Tryz.prog 165 [.agg [.d nilD,vi 0,vi 0],vs s] (· = vi (-1)):=by
 refine PSpec.run (tysOk) followsB Tryz.func165 (by decide) rfl Tryz.ntmps165 (Nat.le_of_ble_eq_true rfl) rfl fun w0 R0 hGw=>?_
 conv=>whnf
 refine ⟨_,(pidxN_spec.argsC ⟨.refl _,.any _,trivial⟩),?_⟩
 rintro q rfl
 conv=>whnf
 exact ⟨_,.refl _,rfl,rfl⟩
theorem pfindO_spec (p:Pt) (s:List UInt8) (h:p.ad≠s):PSpec Tryz.prog 165 [.agg [.d (.sl 14 1 fun _=>encPt p),vi 0,vi 0],vs s] (· = vi (-1)):=by
 refine PSpec.run (tysOk) followsB Tryz.func165 (by decide) rfl Tryz.ntmps165 (Nat.le_of_ble_eq_true rfl) rfl fun w0 R0 hGw=>?_
 conv=>whnf
 refine ⟨_,(pidxO_spec p s h),?_⟩
 rintro q rfl
 conv=>whnf
 exact ⟨_,.refl _,rfl,rfl⟩
theorem tnew_spec:PSpec Tryz.prog 166 [] (· = .agg [vi 0,vi 0,vi 1000,vi 0,vb false]):=by
 refine PSpec.run (tysOk) followsB Tryz.func166 (by decide) rfl Tryz.ntmps166 (Nat.le_of_ble_eq_true rfl) rfl fun w0 R0 hGw=>?_
 conv=>whnf
 exact ⟨_,.refl _,rfl,rfl⟩
theorem wnew_spec:PSpec Tryz.prog 167 [vi 60000] (· = .agg [vi 4500,vi 60000,vi 0]):=by
 refine PSpec.run (tysOk) followsB Tryz.func167 (by decide) rfl Tryz.ntmps167 (Nat.le_of_ble_eq_true rfl) rfl fun w0 R0 hGw=>?_
 conv=>whnf
 refine ⟨_,(whold_spec 60000 0),?_⟩
 rintro q rfl
 conv=>whnf
 exact ⟨_,.refl _,rfl,rfl⟩
theorem pathN1_spec (s:List UInt8) (h:s.length=4):PSpec Tryz.prog 107 [ad1 s,vi 60000] (· = .tup [.agg [.d (.sl 14 1 fun k=>encPt ([pt0 s 2].getD k default)),vi 0,vi 0],vi 0]):=by
 refine PSpec.run (tysOk) followsB Tryz.func107 (by decide) rfl Tryz.ntmps107 (Nat.le_of_ble_eq_true rfl) rfl fun w0 R0 hGw=>?_
 conv=>whnf
 refine ⟨_,(pcon1_spec s h),?_⟩
 rintro q rfl
 conv=>whnf
 refine ALoop.rounds (tysOk) followsB 2 ?_
 conv=>whnf
 refine gK ?_
 conv=>whnf
 refine ⟨_,(pfindN_spec s),?_⟩
 rintro q rfl
 conv=>whnf
 refine ⟨_,tnew_spec,?_⟩
 conv=>whnf
 refine ⟨_,wnew_spec,?_⟩
 conv=>whnf
 refine ⟨⟨⟨by omega,by simp only [ty137];omega⟩,by omega⟩,?_⟩
 conv=>whnf
 refine gR ?_
 conv=>whnf
 refine gK ?_
 conv=>whnf
 refine gK ?_
 conv=>whnf
 refine gK ?_
 conv=>whnf
 refine gK ?_
 conv=>whnf
 refine ⟨.tup [.agg [.d (.sl 14 1 fun k=>encPt ([pt0 s 2].getD k default)),vi 0,vi 0],vi 0],.tup ⟨.agg ⟨.sl rfl fun k hk=>?_,.refl _,.refl _,trivial⟩,.refl _,trivial⟩,rfl,rfl⟩
 obtain rfl:=z1 hk
 rfl
theorem pathNil_spec':PSpec Tryz.prog 107 [.d nilD,vi 60000] (· = .tup [.agg [.d nilD,vi 0,vi 0],vi 1]):=by
 refine PSpec.run (tysOk) followsB Tryz.func107 (by decide) rfl Tryz.ntmps107 (Nat.le_of_ble_eq_true rfl) rfl fun w0 R0 hGw=>?_
 conv=>whnf
 exact ⟨_,.refl _,rfl,rfl⟩
theorem pathN2_spec (s t:List UInt8) (h:s.length=4) (h2:t.length=4) (hne:s≠t):PSpec Tryz.prog 107 [ad2 s t,vi 60000] (· = .tup [.agg [.d (.sl 14 2 fun k=>encPt ([pt0 s 2,pt0 t 1].getD k default)),vi 0,vi 0],vi 0]):=by
 refine PSpec.run (tysOk) followsB Tryz.func107 (by decide) rfl Tryz.ntmps107 (Nat.le_of_ble_eq_true rfl) rfl fun w0 R0 hGw=>?_
 conv=>whnf
 refine ⟨_,(pcon2_spec s t h h2),?_⟩
 rintro q rfl
 conv=>whnf
 refine ALoop.roundsR tysOk followsB 3 [(44,900)] [0,1,4,5,6,7,25,26,27] [4,7,900] ?_
 conv=>whnf
 refine gK ?_
 conv=>whnf
 refine ⟨_,(pfindN_spec s),?_⟩
 rintro q rfl
 conv=>whnf
 refine ⟨_,tnew_spec,?_⟩
 conv=>whnf
 refine ⟨_,wnew_spec,?_⟩
 conv=>whnf
 refine ⟨⟨⟨by omega,by simp only [ty137];omega⟩,by omega⟩,?_⟩
 conv=>whnf
 refine gR ?_
 conv=>whnf
 refine gK ?_
 conv=>whnf
 refine gK ?_
 conv=>whnf
 refine gK ?_
 conv=>whnf
 refine ⟨_,((pfindO_spec (pt0 s 1) t hne).argsC ⟨.agg ⟨.sl rfl fun k hk=>by cases z1 hk;rfl,.refl _,.refl _,trivial⟩,.refl _,trivial⟩),?_⟩
 rintro q rfl
 conv=>whnf
 refine ⟨_,tnew_spec,?_⟩
 conv=>whnf
 refine ⟨_,wnew_spec,?_⟩
 conv=>whnf
 refine ⟨⟨⟨rfl,by omega,by simp only [ty137];omega⟩,by omega⟩,?_⟩
 conv=>whnf
 refine gR ?_
 conv=>whnf
 refine gK ?_
 conv=>whnf
 refine gK ?_
 conv=>whnf
 refine gK ?_
 conv=>whnf
 refine gK ?_
 conv=>whnf
 refine ⟨.tup [.agg [.d (.sl 14 2 fun k=>encPt ([pt0 s 2,pt0 t 1].getD k default)),vi 0,vi 0],vi 0],.tup ⟨.agg ⟨.sl rfl fun k hk=>?_,.refl _,.refl _,trivial⟩,.refl _,trivial⟩,rfl,rfl⟩
 rcases z2 hk with rfl|rfl<;>rfl
abbrev asF (a:As):Heap:=[(2000,asB a 2001 2002 2003 2004 2005 2006),(2001,.dmp (encDat a.data)),(2002,rowFm a.inn),(2003,rowOut a.out),(2004,rowNo a.notes),(2005,rowZ a.due),(2006,rowZ a.heard)]
abbrev TBe:Tys:=tysX false [] [(57,[]),(34,[]),(67,[]),(45,[])] [dmT+101,pbT+44]
theorem TBeOk:TysOk Tryz.prog TBe:=tysXOk _ _ _ _
theorem begin2_spec' (s t:List UInt8) (h1:s.length=4) (h2:t.length=4) (hne:s≠t):LSpec Tryz.prog 57 [ad2 s t,v32 60000,vi 0] [] (fun r hl=>r=.tup [.ptr 2000 0,vi 0]∧hl=asF (.begun [pt0 s 2,pt0 t 1])):=by
 refine LSpec.rens (LSpec.runE (h2:=[]) [] (TBeOk) followsB Tryz.func57 (by decide) rfl Tryz.ntmps57 (Nat.le_of_ble_eq_true rfl) rfl rfl rfl rfl rfl fun w0 R0 Lo hGw=>?_)
 conv=>whnf
 refine ⟨_,(pathN2_spec s t h1 h2 hne),?_⟩
 rintro q rfl
 conv=>whnf
 refine gO ?_
 conv=>whnf
 refine ⟨by simp only [ty3];omega,?_⟩
 conv=>whnf
 refine gR ?_
 conv=>whnf
 refine ALoop.roundsR TBeOk followsB 3 [] [0,1,2,6,7,10,31,32] [22,26,28,41] ?_
 conv=>whnf
 refine ⟨⟨⟨by omega,by simp only [ty3];omega⟩,by omega⟩,?_⟩
 conv=>whnf
 refine gK ?_
 conv=>whnf
 refine ⟨⟨⟨rfl,by omega,by simp only [ty3];omega⟩,by omega⟩,?_⟩
 conv=>whnf
 refine gK ?_
 conv=>whnf
 refine AEnd.adoptCell 28 27 3001 6 116 (fun j=>encFm (([]:List Fm).getD j default)) rfl rfl rfl rfl rfl ?_
 refine AEnd.adoptCell 28 29 3002 2 79 (fun j=>encOut (([]:List (Int×List Ch)).getD j default)) rfl rfl rfl rfl rfl ?_
 refine AEnd.adoptCell 28 30 3003 2 67 (fun j=>encNote (([]:List (Int×Int)).getD j default)) rfl rfl rfl rfl rfl ?_
 refine AEnd.done ?_
 conv=>whnf
 refine finR [(28,2000),(22,2001),(3001,2002),(3002,2003),(3003,2004),(26,2005),(41,2006)] rfl rfl (.refl _) ?_ ⟨rfl,rfl⟩
 (repeat' (first|exact ⟨⟩|exact OLe.refl _|exact .refl _|exact .nil|exact rfl|refine ⟨?_,?_⟩|fail))
 all_goals (intro k hk;rcases z2 hk with rfl|rfl<;>rfl)
theorem begin1_spec' (s:List UInt8) (h1:s.length=4):LSpec Tryz.prog 57 [ad1 s,v32 60000,vi 0] [] (fun r hl=>r=.tup [.ptr 2000 0,vi 0]∧hl=asF (.begun [pt0 s 2])):=by
 refine LSpec.rens (LSpec.runE (h2:=[]) [] (TBeOk) followsB Tryz.func57 (by decide) rfl Tryz.ntmps57 (Nat.le_of_ble_eq_true rfl) rfl rfl rfl rfl rfl fun w0 R0 Lo hGw=>?_)
 conv=>whnf
 refine ⟨_,(pathN1_spec s h1),?_⟩
 rintro q rfl
 conv=>whnf
 refine gO ?_
 conv=>whnf
 refine ⟨by simp only [ty3];omega,?_⟩
 conv=>whnf
 refine gR ?_
 conv=>whnf
 refine ALoop.roundsR TBeOk followsB 2 [] [0,1,2,6,7,10,31,32] [22,26,28,41] ?_
 conv=>whnf
 refine ⟨⟨⟨by omega,by simp only [ty3];omega⟩,by omega⟩,?_⟩
 conv=>whnf
 refine gK ?_
 conv=>whnf
 refine AEnd.adoptCell 28 27 3001 6 116 (fun j=>encFm (([]:List Fm).getD j default)) rfl rfl rfl rfl rfl ?_
 refine AEnd.adoptCell 28 29 3002 2 79 (fun j=>encOut (([]:List (Int×List Ch)).getD j default)) rfl rfl rfl rfl rfl ?_
 refine AEnd.adoptCell 28 30 3003 2 67 (fun j=>encNote (([]:List (Int×Int)).getD j default)) rfl rfl rfl rfl rfl ?_
 refine AEnd.done ?_
 conv=>whnf
 refine finR [(28,2000),(22,2001),(3001,2002),(3002,2003),(3003,2004),(26,2005),(41,2006)] rfl rfl (.refl _) ?_ ⟨rfl,rfl⟩
 (repeat' (first|exact ⟨⟩|exact OLe.refl _|exact .refl _|exact .nil|exact rfl|refine ⟨?_,?_⟩|fail))
 all_goals (intro k hk;obtain rfl:=z1 hk;rfl)
theorem rep0 (n k:Nat) (h:k<n):(List.replicate n (0:Nat)).getD k default=0:=by
 rw [List.getD_eq_getElem?_getD,List.getElem?_eq_getElem (by simpa using h)];simp
theorem rep0i (n k:Nat) (h:k<n):(List.replicate n (0:Int)).getD k default=0:=by
 rw [List.getD_eq_getElem?_getD,List.getElem?_eq_getElem (by simpa using h)];simp
theorem snew_spec (n:Nat) (h:1≤n∧n≤16):PSpec Tryz.prog 58 [vi n] (· = .tup [St.stA [] 0 (List.replicate n 0),vi 0]):=by
 refine PSpec.run (tysOk) followsB Tryz.func58 (by decide) rfl Tryz.ntmps58 (Nat.le_of_ble_eq_true rfl) rfl fun w0 R0 hGw=>?_
 conv=>whnf
 rw [show decide ((n:Int)<1)=false from decide_eq_false (by omega)]
 conv=>whnf
 rw [show decide ((16:Int)<n)=false from decide_eq_false (by omega)]
 conv=>whnf
 refine ⟨by simp only [ty39];omega,?_⟩
 rw [tnC]
 conv=>whnf
 refine gO ?_
 conv=>whnf
 refine ⟨.tup [St.stA [] 0 (List.replicate n 0),vi 0],.tup ⟨.agg ⟨.nil,.refl _,.sl (by simp) fun k hk=>?_,trivial⟩,.refl _,trivial⟩,rfl,rfl⟩
 show _=St.encN _
 rw [rep0 n k hk];rfl
theorem onew_spec (n:Nat) (h:1≤n∧n≤16):PSpec Tryz.prog 118 [vi n] (· = .tup [quA (List.replicate n 0) [],vi 0]):=by
 refine PSpec.run (tysOk) followsB Tryz.func118 (by decide) rfl Tryz.ntmps118 (Nat.le_of_ble_eq_true rfl) rfl fun w0 R0 hGw=>?_
 conv=>whnf
 rw [show decide ((n:Int)<1)=false from decide_eq_false (by omega)]
 conv=>whnf
 rw [show decide ((16:Int)<n)=false from decide_eq_false (by omega)]
 conv=>whnf
 refine ⟨by simp only [ty39];omega,?_⟩
 rw [tnC]
 conv=>whnf
 refine gO ?_
 conv=>whnf
 refine ⟨.tup [quA (List.replicate n 0) [],vi 0],.tup ⟨.agg ⟨.sl (by simp) fun k hk=>?_,.nil,trivial⟩,.refl _,trivial⟩,rfl,rfl⟩
 show _=encS _
 rw [rep0i n k hk];rfl
theorem xnew_spec (n:Int):PSpec Tryz.prog 60 [v32 n] (· = sentA (IntKind.u32.wrap (n-1)) []):=by
 refine PSpec.run (tysOk) followsB Tryz.func60 (by decide) rfl Tryz.ntmps60 (Nat.le_of_ble_eq_true rfl) rfl fun w0 R0 hGw=>?_
 conv=>whnf
 exact ⟨sentA (IntKind.u32.wrap (n-1)) [],.agg ⟨.refl _,.nil,trivial⟩,rfl,rfl⟩
theorem gnew_spec (n:Int):PSpec Tryz.prog 117 [v32 n] (· = gtA ⟨IntKind.u32.wrap (n-1),[],[]⟩):=by
 refine PSpec.run (tysOk) followsB Tryz.func117 (by decide) rfl Tryz.ntmps117 (Nat.le_of_ble_eq_true rfl) rfl fun w0 R0 hGw=>?_
 conv=>whnf
 exact ⟨gtA ⟨IntKind.u32.wrap (n-1),[],[]⟩,.agg ⟨.refl _,.nil,.nil,trivial⟩,rfl,rfl⟩
theorem idxM0_spec (f:Nat→List D):PSpec Tryz.prog 174 [.d (.sl 6 0 f),.any] (· = vi (-1)):=by
 refine PSpec.run (tysOk) followsB Tryz.func174 (by decide) rfl Tryz.ntmps174 (Nat.le_of_ble_eq_true rfl) rfl fun w0 R0 hGw=>?_
 conv=>whnf
 refine ALoop.rounds (tysOk) followsB 1 ?_
 conv=>whnf
 exact ⟨_,.refl _,rfl,rfl⟩
theorem delM0_spec (f:Nat→List D):PSpec Tryz.prog 119 [.d (.sl 6 0 f),.any] (· = .d (.sl 6 0 f)):=by
 refine PSpec.run (tysOk) followsB Tryz.func119 (by decide) rfl Tryz.ntmps119 (Nat.le_of_ble_eq_true rfl) rfl fun w0 R0 hGw=>?_
 conv=>whnf
 refine ⟨_,(idxM0_spec _),?_⟩
 rintro q rfl
 conv=>whnf
 exact ⟨_,.refl _,rfl,rfl⟩
theorem PSpec.fresh0 {P:Program} {f:FuncId} {args:List AVal} {t:TypeId} {sz:Nat} {g g':Nat→List D} (h:PSpec P f args (· = .fresh t sz 0 g)):PSpec P f args (· = .d (.sl sz 0 g')):=
 ⟨h.1,fun w R vs hG hR hz ha=>(h.2 w R vs hG hR hz ha).mono fun e w' ⟨v,r,h1,h2,h3,h4⟩=>by
  subst h2
  obtain ⟨xs,ho,_⟩:=h4
  refine ⟨v,_,h1,rfl,h3,rfl,.d ?_⟩
  rcases ho.2 with ⟨rfl,_⟩|⟨b,cap,cur,rfl,_,_,_,hcm,_⟩
  ·exact .sl0 _ _ _ _ (Nat.zero_le _)
  ·exact .sl0 _ _ _ _ hcm⟩
theorem cloM0_spec:PSpec Tryz.prog 91 [.d (slT 6 St.encM [])] (· = .d (slT 6 St.encM [])):=PSpec.fresh0 (St.clone_spec St.encM [] (by decide))
end Go.Proofs.YtbkcekmahdbgdaaGreat
namespace Towline.Ac
open Towline.Hand Towline.Chunk Towline.Store
namespace As
def metA (a:As):As:={ a with g:=⟨Go.IntKind.u32.wrap (a.h.peerTsn-1),[],[]⟩,q:=⟨List.replicate a.h.ins.toNat 0,[]⟩,bag:=[],inn:=[]}
end As
end Towline.Ac
namespace Go.Proofs.YtbkcekmahdbgdaaGreat
open Go Go.RowKit Towline Towline.Hand Towline.Ac Towline.Chunk Towline.Store
set_option linter.unusedVariables false
set_option linter.unusedSimpArgs false
set_option maxRecDepth 20000
set_option maxHeartbeats 4000000
abbrev TMe:Tys:=tysX false [] [(45,[])] []
theorem TMeOk:TysOk Tryz.prog TMe:=tysXOk _ _ _ _
theorem metA_spec (a:As) (hs:a.s.l=[]) (m:Nat) (hm:a.h.ins=m) (hm1:1≤m∧m≤16) (hn:(a.s.next.length:Int)≤a.h.outs∧a.h.outs≤65535) (hnn:a.s.next.length≤16):LSpec Tryz.prog 67 [.ptr F0 0] (asH a) (fun r hl=>r=.tup []∧hl=asP a.metA):=by
 refine LSpec.rens (LSpec.runE (h2:=asP a) psN (TMeOk) followsB Tryz.func67 (by decide) rfl Tryz.ntmps67 (Nat.le_of_ble_eq_true rfl) rfl rfl rfl rfl rfl fun w0 R0 Lo hGw=>?_)
 conv=>whnf
 refine ⟨_,(gnew_spec a.h.peerTsn),?_⟩
 conv=>whnf
 refine gR ?_
 conv=>whnf
 repeat (refine gK ?_;conv=>whnf)
 rw [hm]
 refine ⟨_,(onew_spec m hm1),?_⟩
 conv=>whnf
 refine gR ?_
 conv=>whnf
 rw [hs]
 refine ALoop.rounds TMeOk followsB 1 ?_
 conv=>whnf
 repeat (refine gK ?_;conv=>whnf)
 refine ⟨_,cloM0_spec,?_⟩
 conv=>whnf
 refine ⟨_,((delM0_spec _).argsC ⟨.refl _,.any _,trivial⟩),?_⟩
 conv=>whnf
 refine gR ?_
 conv=>whnf
 repeat (refine gK ?_;conv=>whnf)
 refine gR ?_
 conv=>whnf
 refine gR ?_
 conv=>whnf
 refine AEnd.adoptCell F0 27 3001 6 116 (fun j=>encFm (([]:List Fm).getD j default)) rfl rfl rfl rfl rfl ?_
 refine AEnd.done ?_
 conv=>whnf
 have hmn:(min (a.s.next.length:Int) a.h.outs).toNat=a.s.next.length:=by omega
 refine finR [(2002,3002),(3001,2002)] rfl rfl (.refl _) ?_ ⟨rfl,rfl⟩
 (repeat' (first|exact ⟨⟩|exact OLe.refl _|exact .refl _|exact .nil|exact rfl|refine ⟨?_,?_⟩|fail))
 ·exact .of_eq (by show v16 (m:Int)=v16 a.h.ins;rw [hm])
 ·show (AVal.d (.sl 6 0 _)).le (.d (slT 6 St.encM a.s.l))
  rw [hs]
  exact .refl _
 ·exact .sl hmn fun _ _=>rfl
 ·show (AVal.d (slT 1 encS (List.replicate m 0))).le (.d (slT 1 encS (List.replicate a.h.ins.toNat 0)))
  rw [hm,tnC]
  exact .refl _
namespace Op
def hOpen (tag tsn n:Int):H:=⟨1,1,1000,tag,0,tsn,0,60000,0,n,n,[]⟩
def cInit (tag tsn n:Int):K:=⟨1,0,tsn,tag,60000,0,0,0,n,n,[]⟩
def opened (tag tsn:Int) (n:Nat) (l:List Pt):As:=({ As.begun l with h:=hOpen tag tsn n,s:=⟨[],0,List.replicate n 0⟩,xc:=IntKind.u32.wrap (tsn-1)}:As).reply (-1) [kCh (cInit tag tsn n)]
end Op
open Op
theorem openR_okA (tag tsn:Int) (n:Int) (ht:tag≠0) (hn:n≠0):openR H.nil tag tsn 60000 n 0=⟨hOpen tag tsn n,[cInit tag tsn n],0⟩:=by
 unfold openR
 rw [if_neg (by simp [H.nil]),if_neg (by simp [ht,hn])]
 rfl
theorem openA2_spec (s t:List UInt8) (h1:s.length=4) (h2:t.length=4) (hne:s≠t) (tag tsn:Int) (ht:tag≠0) (n:Nat) (hn:1≤n∧n≤16):LSpec Tryz.prog 26 [ad2 s t,v32 tag,v32 tsn,v32 60000,v16 n,vi 0] [] (fun r hl=>r=.tup [.ptr 2000 0,vi 0]∧hl=asF (opened tag tsn n [pt0 s 2,pt0 t 1])):=by
 refine LSpec.rens (LSpec.runE (h2:=[]) [] (TBeOk) followsB Tryz.func26 (by decide) rfl Tryz.ntmps26 (Nat.le_of_ble_eq_true rfl) rfl rfl rfl rfl rfl fun w0 R0 Lo hGw=>?_)
 conv=>whnf
 refine ⟨_,(begin2_spec' s t h1 h2 hne),?_⟩
 rintro q hq ⟨rfl,rfl⟩
 unfold ABack
 generalize hfr:freshN _ _ _ _=fb
 have hb:fb=true:=by
  rw [←hfr]
  conv=>lhs;whnf
 subst hb
 clear hfr
 dsimp only
 conv=>whnf
 try dsimp only [newBase,Nat.reduceAdd,Nat.reduceMul]
 repeat (refine gK ?_;conv=>whnf)
 refine ⟨_,(snew_spec n hn),?_⟩
 rintro q rfl
 conv=>whnf
 have hp:=open_spec H.nil tag tsn 60000 n 0
 rw [openR_okA tag tsn n ht (by omega)] at hp
 refine ⟨_,hp,?_⟩
 rintro q rfl
 conv=>whnf
 refine ⟨_,(xnew_spec tsn),?_⟩
 conv=>whnf
 refine gR ?_
 conv=>whnf
 have hre:=LSpec.argsC (reply_spec ({ As.begun [pt0 s 2,pt0 t 1] with h:=hOpen tag tsn n,s:=⟨[],0,List.replicate n 0⟩,xc:=IntKind.u32.wrap (tsn-1)}:As) (-1) ([cInit tag tsn n].map kCh) (by show (2:Nat)≤_;decide) (by show (0:Int)≤0∧(0:Int)<_;decide) (by simp) (by show (0:Nat)≤_;decide)) (args':=[.ptr F0 0,vi (-1),ksA [cInit tag tsn n]]) ⟨.refl _,.refl _,ks_le _,trivial⟩
 refine ⟨_,hre,?_⟩
 rintro q hq ⟨rfl,rfl⟩
 unfold ABack
 generalize hfr:freshN _ _ _ _=fb
 have hb:fb=true:=by
  rw [←hfr]
  conv=>lhs;whnf
 subst hb
 clear hfr
 dsimp only
 conv=>whnf
 try dsimp only [newBase,Nat.reduceAdd,Nat.reduceMul]
 refine AEnd.done ?_
 conv=>whnf
 refine finR [(25000,2000),(69000,2001),(69001,2002),(69002,2003),(69003,2004),(25005,2005),(25006,2006)] rfl rfl (.refl _) ?_ ⟨rfl,rfl⟩
 (repeat' (first|exact ⟨⟩|exact OLe.refl _|exact .refl _|exact .nil|exact rfl|refine ⟨?_,?_⟩|fail))
theorem openA1_spec (s:List UInt8) (h1:s.length=4) (tag tsn:Int) (ht:tag≠0) (n:Nat) (hn:1≤n∧n≤16):LSpec Tryz.prog 26 [ad1 s,v32 tag,v32 tsn,v32 60000,v16 n,vi 0] [] (fun r hl=>r=.tup [.ptr 2000 0,vi 0]∧hl=asF (opened tag tsn n [pt0 s 2])):=by
 refine LSpec.rens (LSpec.runE (h2:=[]) [] (TBeOk) followsB Tryz.func26 (by decide) rfl Tryz.ntmps26 (Nat.le_of_ble_eq_true rfl) rfl rfl rfl rfl rfl fun w0 R0 Lo hGw=>?_)
 conv=>whnf
 refine ⟨_,(begin1_spec' s h1),?_⟩
 rintro q hq ⟨rfl,rfl⟩
 unfold ABack
 generalize hfr:freshN _ _ _ _=fb
 have hb:fb=true:=by
  rw [←hfr]
  conv=>lhs;whnf
 subst hb
 clear hfr
 dsimp only
 conv=>whnf
 try dsimp only [newBase,Nat.reduceAdd,Nat.reduceMul]
 repeat (refine gK ?_;conv=>whnf)
 refine ⟨_,(snew_spec n hn),?_⟩
 rintro q rfl
 conv=>whnf
 have hp:=open_spec H.nil tag tsn 60000 n 0
 rw [openR_okA tag tsn n ht (by omega)] at hp
 refine ⟨_,hp,?_⟩
 rintro q rfl
 conv=>whnf
 refine ⟨_,(xnew_spec tsn),?_⟩
 conv=>whnf
 refine gR ?_
 conv=>whnf
 have hre:=LSpec.argsC (reply_spec ({ As.begun [pt0 s 2] with h:=hOpen tag tsn n,s:=⟨[],0,List.replicate n 0⟩,xc:=IntKind.u32.wrap (tsn-1)}:As) (-1) ([cInit tag tsn n].map kCh) (by show (1:Nat)≤_;decide) (by show (0:Int)≤0∧(0:Int)<_;decide) (by simp) (by show (0:Nat)≤_;decide)) (args':=[.ptr F0 0,vi (-1),ksA [cInit tag tsn n]]) ⟨.refl _,.refl _,ks_le _,trivial⟩
 refine ⟨_,hre,?_⟩
 rintro q hq ⟨rfl,rfl⟩
 unfold ABack
 generalize hfr:freshN _ _ _ _=fb
 have hb:fb=true:=by
  rw [←hfr]
  conv=>lhs;whnf
 subst hb
 clear hfr
 dsimp only
 conv=>whnf
 try dsimp only [newBase,Nat.reduceAdd,Nat.reduceMul]
 refine AEnd.done ?_
 conv=>whnf
 refine finR [(25000,2000),(69000,2001),(69001,2002),(69002,2003),(69003,2004),(25005,2005),(25006,2006)] rfl rfl (.refl _) ?_ ⟨rfl,rfl⟩
 (repeat' (first|exact ⟨⟩|exact OLe.refl _|exact .refl _|exact .nil|exact rfl|refine ⟨?_,?_⟩|fail))
theorem begin0_spec':LSpec Tryz.prog 57 [.d nilD,v32 60000,vi 0] [] (fun r hl=>r=.tup [.d (.v (.pointer none)),vi 1]∧hl=[]):=by
 refine LSpec.run (TBeOk) followsB Tryz.func57 (by decide) rfl Tryz.ntmps57 (Nat.le_of_ble_eq_true rfl) rfl rfl fun w0 R0 Lo hGw=>?_
 conv=>whnf
 refine ⟨_,pathNil_spec',?_⟩
 rintro q rfl
 conv=>whnf
 exact ⟨_,[],.refl _,trivial,rfl,rfl⟩
theorem openA0_spec (tag tsn n:Int):LSpec Tryz.prog 26 [.d nilD,v32 tag,v32 tsn,v32 60000,v16 n,vi 0] [] (fun r hl=>r=.tup [.d (.v (.pointer none)),vi 1]∧hl=[]):=by
 refine LSpec.run (TBeOk) followsB Tryz.func26 (by decide) rfl Tryz.ntmps26 (Nat.le_of_ble_eq_true rfl) rfl rfl fun w0 R0 Lo hGw=>?_
 conv=>whnf
 refine ⟨_,begin0_spec',?_⟩
 rintro q hq ⟨rfl,rfl⟩
 conv=>whnf
 exact ⟨_,[],.refl _,trivial,rfl,rfl⟩
theorem openAT_spec (s:List UInt8) (h1:s.length=4) (tsn:Int) (n:Nat) (hn:1≤n∧n≤16):LSpec Tryz.prog 26 [ad1 s,v32 0,v32 tsn,v32 60000,v16 n,vi 0] [] (fun r hl=>r=.tup [.d (.v (.pointer none)),vi 1]∧hl=[]):=by
 refine LSpec.run (TBeOk) followsB Tryz.func26 (by decide) rfl Tryz.ntmps26 (Nat.le_of_ble_eq_true rfl) rfl rfl fun w0 R0 Lo hGw=>?_
 conv=>whnf
 refine ⟨_,(begin1_spec' s h1),?_⟩
 rintro q hq ⟨rfl,rfl⟩
 unfold ABack
 generalize hfr:freshN _ _ _ _=fb
 have hb:fb=true:=by
  rw [←hfr]
  conv=>lhs;whnf
 subst hb
 clear hfr
 dsimp only
 conv=>whnf
 try dsimp only [newBase,Nat.reduceAdd,Nat.reduceMul]
 repeat (refine gK ?_;conv=>whnf)
 refine ⟨_,(snew_spec n hn),?_⟩
 rintro q rfl
 conv=>whnf
 have hp:=open_spec H.nil 0 tsn 60000 n 0
 rw [show openR H.nil 0 tsn 60000 n 0=⟨H.nil,[],1⟩ from by unfold openR;rw [if_neg (by simp [H.nil]),if_pos (Or.inl rfl)]] at hp
 refine ⟨_,hp,?_⟩
 rintro q rfl
 conv=>whnf
 exact ⟨_,[],.refl _,trivial,rfl,rfl⟩
structure RightS (s:S):Prop where
 p:s.peer.length=4∨s.peer.length=16
 m:0≤s.made∧s.made≤1099511627776∧0≤s.life∧s.life≤1099511627776
 n:s.ourTag≠0∧s.peerTag≠0∧s.outs≠0∧s.ins≠0∧s.ourPort≠0∧s.peerPort≠0
theorem RightS.iff (s:S):RightS s↔(s.peer.length=4∨s.peer.length=16)∧(0≤s.made∧s.made≤1099511627776∧0≤s.life∧s.life≤1099511627776)∧s.ourTag≠0∧s.peerTag≠0∧s.outs≠0∧s.ins≠0∧s.ourPort≠0∧s.peerPort≠0:=
 ⟨fun ⟨a,b,c⟩=>⟨a,b,c⟩,fun ⟨a,b,c⟩=>⟨a,b,c⟩⟩
theorem wrap32 {n:Int} (h:0≤n∧n<65536):IntKind.u32.wrap n=n:=by
 simp [IntKind.wrap,IntKind.signed,IntKind.bits]
 omega
def rightB (s:S):Bool:=decide ((s.peer.length=4∨s.peer.length=16)∧(0≤s.made∧s.made≤1099511627776∧0≤s.life∧s.life≤1099511627776)∧s.ourTag≠0∧s.peerTag≠0∧s.outs≠0∧s.ins≠0∧s.ourPort≠0∧s.peerPort≠0)
theorem cright_spec (s:S) (h1:0≤s.outs∧s.outs<65536) (h2:0≤s.ins∧s.ins<65536) (h3:0≤s.ourPort∧s.ourPort<65536) (h4:0≤s.peerPort∧s.peerPort<65536) :
  PSpec Tryz.prog 65 [sA s] (· = vb (rightB s)):=by
 have e1:=wrap32 h1
 have e2:=wrap32 h2
 have e3:=wrap32 h3
 have e4:=wrap32 h4
 have fin:∀b:Bool,(b=true↔RightS s)→b=rightB s:=fun b hb=>by
  rw [RightS.iff] at hb
  unfold rightB
  cases b with
  |true=>exact (decide_eq_true (hb.1 rfl)).symm
  |false=>exact (decide_eq_false (fun h=>absurd (hb.2 h) (by decide))).symm
 refine PSpec.run (tysOk) followsB Tryz.func65 (by decide) rfl Tryz.ntmps65 (Nat.le_of_ble_eq_true rfl) rfl fun w0 R0 hGw=>?_
 conv=>whnf
 repeat' first
  |exact ⟨_,.refl _,congrArg vb (fin _ (by rw [RightS.iff];simp only [beq_iff_eq,beq_eq_false_iff_ne,decide_eq_true_eq,decide_eq_false_iff_not,ne_eq,Bool.false_eq_true,false_iff,true_iff,e1,e2,e3,e4] at *;omega)),rfl⟩
  |(refine ALoop.rounds tysOk followsB 7 ?_;conv=>whnf)
  |(refine ⟨by first|omega|decide,?_⟩;conv=>whnf)
  |(split<;>conv=>whnf)
abbrev tA4:List UInt8:=[97,97,97,97]
abbrev tB4:List UInt8:=[98,98,98,98]
abbrev tC4:List UInt8:=[99,99,99,99]
abbrev tD4:List UInt8:=[100,100,100,100]
abbrev sMet:S:=⟨50,5,1000,4294967290,0,0,60000,4,4,1,2,tA4,0,60000⟩
def acc1:As:={ As.begun [pt0 tA4 2,pt0 tD4 1] with h:=accepted sMet 60000,s:=⟨[],0,List.replicate 4 0⟩,xc:=999}
def acc2:As:=(acc1.metA.note 1 0).reply (-1) [kCh (K.of 11)]
theorem acceptA_spec:LSpec Tryz.prog 28 [sA sMet,ad2 tA4 tD4,v32 60000,vi 0] [] (fun r hl=>r=.tup [.ptr 2000 0,vi 0]∧hl=asF acc2):=by
 refine LSpec.rens (LSpec.runE (h2:=[]) [] (TBeOk) followsB Tryz.func28 (by decide) rfl Tryz.ntmps28 (Nat.le_of_ble_eq_true rfl) rfl rfl rfl rfl rfl fun w0 R0 Lo hGw=>?_)
 conv=>whnf
 refine ⟨_,(begin2_spec' tA4 tD4 rfl rfl (by decide)),?_⟩
 rintro q hq ⟨rfl,rfl⟩
 unfold ABack
 generalize hfr:freshN _ _ _ _=fb
 have hb:fb=true:=by
  rw [←hfr]
  conv=>lhs;whnf
 subst hb
 clear hfr
 dsimp only
 conv=>whnf
 try dsimp only [newBase,Nat.reduceAdd,Nat.reduceMul]
 have hc:=cright_spec sMet (by decide) (by decide) (by decide) (by decide)
 rw [show rightB sMet=true from by decide +kernel] at hc
 refine ⟨_,hc,?_⟩
 rintro q rfl
 conv=>whnf
 refine ⟨_,(accept_spec sMet 60000),?_⟩
 rintro q rfl
 conv=>whnf
 refine ⟨_,(xnew_spec 1000),?_⟩
 conv=>whnf
 refine gR ?_
 conv=>whnf
 repeat (refine gK ?_;conv=>whnf)
 refine ⟨_,(snew_spec 4 (by decide)),?_⟩
 rintro q rfl
 conv=>whnf
 refine ⟨_,(metA_spec acc1 rfl 4 rfl (by decide) (by decide) (by decide)),?_⟩
 rintro q hq ⟨rfl,rfl⟩
 unfold ABack
 generalize hfr:freshN _ _ _ _=fb
 have hb:fb=true:=by
  rw [←hfr]
  conv=>lhs;whnf
 subst hb
 clear hfr
 dsimp only
 conv=>whnf
 try dsimp only [newBase,Nat.reduceAdd,Nat.reduceMul]
 refine ⟨_,(note_spec acc1.metA 1 0 (by decide)),?_⟩
 rintro q hq ⟨rfl,rfl⟩
 unfold ABack
 generalize hfr:freshN _ _ _ _=fb
 have hb:fb=true:=by
  rw [←hfr]
  conv=>lhs;whnf
 subst hb
 clear hfr
 dsimp only
 conv=>whnf
 try dsimp only [newBase,Nat.reduceAdd,Nat.reduceMul]
 have hre:=LSpec.argsC (reply_spec (acc1.metA.note 1 0) (-1) ([K.of 11].map kCh) (by decide) (by decide) (by decide) (by decide)) (args':=[.ptr F0 0,vi (-1),ksA [K.of 11]]) ⟨.refl _,.refl _,ks_le _,trivial⟩
 refine ⟨_,hre,?_⟩
 rintro q hq ⟨rfl,rfl⟩
 unfold ABack
 generalize hfr:freshN _ _ _ _=fb
 have hb:fb=true:=by
  rw [←hfr]
  conv=>lhs;whnf
 subst hb
 clear hfr
 dsimp only
 conv=>whnf
 try dsimp only [newBase,Nat.reduceAdd,Nat.reduceMul]
 refine AEnd.done ?_
 conv=>whnf
 refine finR [(19000,2000),(70000,2001),(70001,2002),(70002,2003),(70003,2004),(19005,2005),(19006,2006)] rfl rfl (.refl _) ?_ ⟨rfl,rfl⟩
 (repeat' (first|exact ⟨⟩|exact OLe.refl _|exact .refl _|exact .nil|exact rfl|refine ⟨?_,?_⟩|fail))
theorem notedZ_spec (a:As):LSpec Tryz.prog 42 [.ptr F0 0,vi 0] (asH a) (fun r hl=>r=.tup []∧hl=asP a):=by
 refine LSpec.rens (LSpec.runN (h2:=asP a) psN (TNoOk) followsB Tryz.func42 (by decide) rfl Tryz.ntmps42 (Nat.le_of_ble_eq_true rfl) rfl rfl rfl rfl rfl fun w0 R0 Lo hGw=>?_)
 conv=>whnf
 refine finR [] rfl rfl (.refl _) ?_ ⟨rfl,rfl⟩
 exact ⟨OLe.refl _,OLe.refl _,OLe.refl _,OLe.refl _,OLe.refl _,OLe.refl _,OLe.refl _,trivial⟩
theorem controlW_spec (a:As) (c:Ch) (from_ now:Int) {B:Nat} (hb:a.Bd B) (hB:B≤2 ^ 18) (hi:c.items.length≤maxLen) (hst:a.h.st=1) (rh:H) (x:K) (hr:a.ctlR c now=⟨rh,[x],0⟩) (hrs:rh.st=2) (hx:x.ty≠7)
  (hs:a.s.l=[]) (m:Nat) (hm:rh.ins=m) (hm1:1≤m∧m≤16) (hn:(a.s.next.length:Int)≤rh.outs∧rh.outs≤65535) (hnn:a.s.next.length≤16) (htr:0≤rh.tries) :
  LSpec Tryz.prog 37 [.ptr F0 0,chA c,vi from_,vi now] (asH a) (fun r hl=>r=.tup []∧hl=asP ((({ a with h:=rh}:As).metA).reply from_ [kCh x])):=by
 refine LSpec.rens (LSpec.runN (h2:=asP a) psN (TCtOk) followsB Tryz.func37 (by decide) rfl Tryz.ntmps37 (Nat.le_of_ble_eq_true rfl) rfl rfl rfl rfl rfl fun w0 R0 Lo hGw=>?_)
 conv=>whnf
 have hht:=handTake_spec a c a.empty now hi hb.tries
 rw [show takeR a.h (kOf c) (itOf c) a.empty now=a.ctlR c now from rfl,hr] at hht
 have hmt:=metA_spec ({ a with h:=rh}:As) hs m hm hm1 hn hnn
 have hb1:(({ a with h:=rh}:As).metA).Bd B:={ hb with tries:=htr}
 have hnd:=notedZ_spec (({ a with h:=rh}:As).metA)
 generalize hbe:(({ a with h:=rh}:As).metA)=b at hmt hb1 hnd ⊢
 have hre:=LSpec.argsC (reply_specK b hb1 (by omega) from_ [x] (by simp)) (args':=[.ptr F0 0,vi from_,.d (.sl 14 1 fun k=>(encK x::replF 0 ty44.zero).getD k [])]) ⟨.refl _,.refl _,.sl rfl (fun k hk=>by match k,hk with|0,_=>rfl),trivial⟩
 repeat (refine gK ?_;conv=>whnf)
 have hcx:=(empty_spec' a)
 first|(refine ⟨_,hcx,?_⟩;rintro q rfl)|refine ⟨_,hcx,?_⟩
 clear hcx
 conv=>whnf
 have hcx:=hht
 first|(refine ⟨_,hcx,?_⟩;rintro q rfl)|refine ⟨_,hcx,?_⟩
 clear hcx
 conv=>whnf
 refine gR ?_
 conv=>whnf
 rw [show (a.h.st==1)=true from beq_iff_eq.2 hst]
 conv=>whnf
 rw [show (rh.st==2)=true from beq_iff_eq.2 hrs]
 conv=>whnf
 refine ⟨_,hmt,?_⟩
 rintro q hq ⟨rfl,rfl⟩
 unfold ABack
 generalize hfr:freshN _ _ _ _=fb
 have hb:fb=true:=by
  rw [←hfr]
  conv=>lhs;whnf
 subst hb
 clear hfr
 dsimp only
 conv=>whnf
 try dsimp only [newBase,Nat.reduceAdd,Nat.reduceMul]
 refine ⟨_,hnd,?_⟩
 rintro q hq ⟨rfl,rfl⟩
 unfold ABack
 generalize hfr:freshN _ _ _ _=fb
 have hb:fb=true:=by
  rw [←hfr]
  conv=>lhs;whnf
 subst hb
 clear hfr
 dsimp only
 conv=>whnf
 try dsimp only [newBase,Nat.reduceAdd,Nat.reduceMul]
 refine ALoop.rounds TCtOk followsB 2 ?_
 conv=>whnf
 refine ⟨⟨by omega,by simp⟩,?_⟩
 conv=>whnf
 rw [show ([x].getD (Int.toNat 0) default)=x from rfl]
 rw [show (x.ty==7)=false from beq_eq_false_iff_ne.2 hx]
 conv=>whnf
 refine ⟨_,hre,?_⟩
 rintro q hq ⟨rfl,rfl⟩
 unfold ABack
 generalize hfr:freshN _ _ _ _=fb
 have hb:fb=true:=by
  rw [←hfr]
  conv=>lhs;whnf
 subst hb
 clear hfr
 dsimp only
 conv=>whnf
 try dsimp only [newBase,Nat.reduceAdd,Nat.reduceMul]
 repeat (refine gK ?_;conv=>whnf)
 refine finR [(74000,2001),(74001,2002),(74002,2003),(74003,2004)] rfl rfl (.refl _) ?_ ⟨rfl,rfl⟩
 exact ⟨OLe.refl _,OLe.refl _,OLe.refl _,OLe.refl _,OLe.refl _,OLe.refl _,OLe.refl _,trivial⟩
theorem takeCtl_spec (a b:As) (c:Ch) (from_ now:Int) (hc:c.ty≠0∧c.ty≠3∧c.ty≠4∧c.ty≠5∧c.ty≠10∧c.ty≠7) (hco:ChOk c) (hr:(buildC c).2=0) (hst:a.h.st≠0) (hfr:0≤from_∧from_<a.heard.length)
  (hctl:LSpec Tryz.prog 37 [.ptr F0 0,chA c,vi from_,vi now] (asH (a.hearing from_ now)) (fun r hl=>r=.tup []∧hl=asP b)) :
  LSpec Tryz.prog 13 [.ptr F0 0,chA c,vi from_,vi now] (asH a) (fun r hl=>r=.tup []∧hl=asP b):=by
 refine LSpec.rens (LSpec.runNS (h2:=asP a) psN (TTkOk) followsB Tryz.func13 (by decide) rfl Tryz.ntmps13 (Nat.le_of_ble_eq_true rfl) rfl rfl rfl rfl rfl fun w0 R0 Lo hGw=>?_)
 conv=>whnf
 obtain ⟨c0,c3,c4,c5,c10,c7⟩:=hc
 repeat (refine gK ?_;conv=>whnf)
 have hcx:=(closed_spec a)
 first|(refine ⟨_,hcx,?_⟩;rintro q rfl)|refine ⟨_,hcx,?_⟩
 clear hcx
 conv=>whnf
 rw [show a.closed=false from by unfold As.closed;exact beq_eq_false_iff_ne.2 hst]
 conv=>whnf
 have hrs:=right_spec c hco
 rw [hr] at hrs
 have hcx:=hrs
 first|(refine ⟨_,hcx,?_⟩;rintro q rfl)|refine ⟨_,hcx,?_⟩
 clear hcx
 conv=>whnf
 refine AGo.go (TTkOk) followsB ?_
 conv=>whnf
 rw [show decide (0≤from_)=true from decide_eq_true hfr.1]
 conv=>whnf
 repeat (refine gK ?_;conv=>whnf)
 rw [show decide (from_<(a.heard.length:Int))=true from decide_eq_true hfr.2]
 conv=>whnf
 refine AGo.endK ?_
 refine AGo.go (TTkOk) followsB ?_
 conv=>whnf
 repeat (refine gK ?_;conv=>whnf)
 have heq:a.hearing from_ now={ a with heard:=a.heard.set from_.toNat now}:=by unfold As.hearing;rw [if_pos hfr]
 have hhl:a.heard.length=(a.heard.set from_.toNat now).length:=by simp
 refine AEnd.restate [] [(0,.ptr F0 0),(2,vi from_),(3,vi now),(5,.ptr 5 0)] ((5,.box (chL c))::asP (a.hearing from_ now)) rfl ?_ ?_
 ·rw [heq]
  (repeat' (first|exact ⟨⟩|exact OLe.refl _|exact .refl _|exact .nil|exact rfl|refine ⟨?_,?_⟩|fail))
  ·exact .of_eq (congrArg (AVal.rsl F6 1 0) hhl)
  ·exact hhl
  ·rw [Nat.zero_add]
   exact fun k _=>fupd_setD default encZ a.heard from_.toNat now (by omega) k
 ·refine AEnd.done ?_
  generalize a.hearing from_ now=d at hctl ⊢
  conv=>whnf
  rw [show (c.ty==0)=false from beq_eq_false_iff_ne.2 c0]
  conv=>whnf
  refine AGo.go (TTkOk) followsB ?_
  conv=>whnf
  rw [show (c.ty==3)=false from beq_eq_false_iff_ne.2 c3]
  conv=>whnf
  refine AGo.go (TTkOk) followsB ?_
  conv=>whnf
  rw [show (c.ty==4)=false from beq_eq_false_iff_ne.2 c4]
  conv=>whnf
  refine AGo.go (TTkOk) followsB ?_
  conv=>whnf
  rw [show (c.ty==5)=false from beq_eq_false_iff_ne.2 c5]
  conv=>whnf
  refine AGo.go (TTkOk) followsB ?_
  conv=>whnf
  rw [show (c.ty==10)=false from beq_eq_false_iff_ne.2 c10]
  conv=>whnf
  refine AGo.go (TTkOk) followsB ?_
  conv=>whnf
  rw [show (c.ty==7)=false from beq_eq_false_iff_ne.2 c7]
  conv=>whnf
  refine AGo.go (TTkOk) followsB ?_
  conv=>whnf
  refine ⟨_,hctl,?_⟩
  rintro q hq ⟨rfl,rfl⟩
  unfold ABack
  generalize hfr:freshN _ _ _ _=fb
  have hb:fb=true:=by
   rw [←hfr]
   conv=>lhs;whnf
  subst hb
  clear hfr
  dsimp only
  conv=>whnf
  try dsimp only [newBase,Nat.reduceAdd,Nat.reduceMul]
  refine finR [(47000,2001),(47001,2002),(47002,2003),(47003,2004)] rfl rfl (.refl _) ?_ ⟨rfl,rfl⟩
  exact ⟨OLe.refl _,OLe.refl _,OLe.refl _,OLe.refl _,OLe.refl _,OLe.refl _,OLe.refl _,trivial⟩
abbrev psA:List Pt:=[pt0 tB4 2,pt0 tC4 1]
abbrev psB:List Pt:=[pt0 tA4 2,pt0 tD4 1]
abbrev h2A:H:=⟨2,1,1000,5,50,4294967290,1000,60000,60000,4,4,[99]⟩
abbrev h3A:H:=⟨3,0,0,5,50,4294967290,1000,60000,60000,4,4,[99]⟩
abbrev h3B:H:=⟨3,0,0,50,5,1000,4294967290,60000,60000,4,4,[]⟩
abbrev cEchoA:K:=⟨10,0,0,0,0,0,0,0,0,0,[99]⟩
abbrev cIAc:Ch:=⟨2,0,1000,50,60000,0,0,0,4,4,[],[],[⟨7,[99]⟩],[]⟩
abbrev cCAc:Ch:=⟨11,0,0,0,0,0,0,0,0,0,[],[],[],[]⟩
def stA0:As:=opened 5 4294967290 4 psA
def stA1:As:={ stA0 with out:=[]}
def stA2:As:=(({ stA1 with h:=h2A}:As).metA).reply 0 [kCh cEchoA]
def stA3:As:={ stA2 with out:=[]}
def endA:As:=⟨h3A,⟨psA,0,0⟩,⟨[],0,List.replicate 4 0⟩,4294967289,[],[],⟨999,[],[]⟩,[],⟨List.replicate 4 0,[]⟩,[],60000,[],[(1,0)],0,false,0,0,[0,0],[0,0]⟩
def endB:As:=⟨h3B,⟨psB,0,0⟩,⟨[],0,List.replicate 4 0⟩,999,[],[],⟨4294967289,[],[]⟩,[],⟨List.replicate 4 0,[]⟩,[],60000,[],[(1,0)],0,false,0,0,[0,0],[0,0]⟩
theorem gOk0 {a:As} (h1:a.g.ab=[]) (h2:a.g.du=[]) (h3:0≤a.g.cum∧a.g.cum<4294967296):a.g.Ok:=⟨h3,by rw [h1];exact .nil,by rw [h1];simp,by rw [h1];simp,by rw [h2];simp⟩
theorem sOk0 {s:S2} (h1:s.l=[]) (h2:s.next.length≤2 ^ 20):As.SOk s:=⟨fun m r e=>absurd (h1.symm.trans e) (by simp),fun m hm=>absurd (h1▸hm) (by simp),by rw [h1];simp,h2⟩
theorem flush0_spec (a:As) (o:List (Int×List Ch)) (hg:a.g.Ok) (hp:a.p.l.length≤256) (hpr:0≤a.p.pr∧a.p.pr<2 ^ 30) (ho:a.out.length≤100) (hb:a.bag=[]) (hq:a.q.w=[]) (hi:a.inn=[]) (hw:0≤a.win∧a.win<4294967296) (ht:a.there (-1)=0) (hsk:a.sack=false)
  (hp1:0<a.p.l.length) (hd:a.due.length=a.p.l.length) (hr : -2 ^ 60≤(a.p.l.getD 0 default).tm.rto∧(a.p.l.getD 0 default).tm.rto≤2 ^ 60) (hx:a.xl=[]) (hwn:0≤a.h.window∧a.h.window<4294967296) (hs:As.SOk a.s) (hf:a.flush 0 0=({ a with out:=[]},a.out)) :
  LSpec Tryz.prog 27 [.ptr F0 0,vi 0] (asH a) (fun r hl=>r=.rsl 2005 2 0 a.out.length∧hl=asP { a with out:=[]}++[(2005,rowOut a.out)]):=by
 have hte:a.tell=a:=by unfold As.tell;rw [hsk];rfl
 have h:=flush_spec0 a 0 0 0 ⟨hg,by omega,hpr,by omega,by rw [hb];simp,by rw [hb];simp [fbytes],by rw [hq];simp,by rw [hq];simp [mbytes],by rw [hi];simp,by rw [hi];simp [mbytes],hw⟩ ht (by decide) (by rw [hte];exact ⟨hp1,hd,hr,by rw [hx];simp,fun p hp=>absurd (hx▸hp) (by simp),hwn,hs⟩) (by rw [hte,hx];intro p hp;exact absurd hp (by simp)) (by decide) hsk (by rw [hte,hx];rfl)
 rw [hf] at h
 exact h
theorem fl1:stA0.flush 0 0=(stA1,stA0.out):=by kernel_rfl
theorem fl2:stA2.flush 0 0=(stA3,stA2.out):=by kernel_rfl
theorem fl3:acc2.flush 0 0=(endB,acc2.out):=by kernel_rfl
theorem ct1:(stA1.hearing 0 0)=stA1:=by kernel_rfl
theorem ct2:stA1.ctlR cIAc 0=⟨h2A,[cEchoA],0⟩:=by kernel_rfl
abbrev lentLw:List (Nat×List Bool):=[(26,[true]),(28,[false,true]),(27,[]),(13,[]),(9,[])]
abbrev TLw:Tys:=tysX false [] lentLw [3000000000+44,3000000000+84,2000000000+47,2000000000+30,2000000000+65,2000000000+50,2000000000+62]
theorem TLwOk:TysOk Tryz.prog TLw:=tysXOk _ _ _ _
theorem flA1:LSpec Tryz.prog 27 [.ptr F0 0,vi 0] (asH stA0) (fun r hl=>r=.rsl 2005 2 0 stA0.out.length∧hl=asP stA1++[(2005,rowOut stA0.out)]):=
 flush0_spec stA0 [] (gOk0 rfl rfl (by decide)) (by decide) (by decide) (by decide) rfl rfl rfl (by decide) (by kernel_rfl) rfl (by decide) rfl (by decide) rfl (by decide) (sOk0 rfl (by decide)) fl1
theorem flA2:LSpec Tryz.prog 27 [.ptr F0 0,vi 0] (asH stA2) (fun r hl=>r=.rsl 2005 2 0 stA2.out.length∧hl=asP stA3++[(2005,rowOut stA2.out)]):=
 flush0_spec stA2 [] (gOk0 rfl rfl (by decide)) (by decide) (by decide) (by decide) rfl rfl rfl (by decide) (by kernel_rfl) rfl (by decide) rfl (by decide) rfl (by decide) (sOk0 rfl (by decide)) fl2
theorem flB1:LSpec Tryz.prog 27 [.ptr F0 0,vi 0] (asH acc2) (fun r hl=>r=.rsl 2005 2 0 acc2.out.length∧hl=asP endB++[(2005,rowOut acc2.out)]):=
 flush0_spec acc2 [] (gOk0 rfl rfl (by decide)) (by decide) (by decide) (by decide) rfl rfl rfl (by decide) (by kernel_rfl) rfl (by decide) rfl (by decide) rfl (by decide) (sOk0 rfl (by decide)) fl3
theorem pt0Ok (ad:List UInt8) (st:Int):PtOk 100 (pt0 ad st):=⟨⟨Int.le_refl 0,by show (0:Int)≤_;decide⟩,by show (-1000:Int)≤0∧(0:Int)≤1000;decide,by show (-2 ^ 50:Int)≤0∧(0:Int)≤2 ^ 50;decide,by show (-2 ^ 50:Int)≤1000∧(1000:Int)≤2 ^ 50;decide⟩
theorem psOk {l:List Pt} (h:l=psA∨l=psB):∀p∈l,PtOk 100 p:=fun p hp=>by
 rcases h with rfl|rfl<;>(rcases List.mem_cons.1 hp with rfl|hp;· exact pt0Ok _ _)<;>(rw [List.mem_singleton.1 hp];exact pt0Ok _ _)
theorem bd0 (a:As) (h1:a.p.l.length=2) (h2:a.p.pr=0) (h3:∀p∈a.p.l,PtOk 100 p) (h4:a.p.all=0) (h5:a.due=[0,0]) (h6:a.heard=[0,0]) (h7:a.xl=[]) (h8:a.notes.length≤100) (h9:a.out.length≤100) (h10:a.s.l=[]) (h11:0≤a.h.tries):a.Bd 100:=
 ⟨by omega,by omega,h3,by omega,by rw [h5,h1];rfl,by rw [h6,h1];rfl,by rw [h6];intro t ht;simp at ht;omega,by rw [h7];simp,by rw [h7];intro p hp;exact absurd hp (by simp),h8,h9,by rw [h10];simp,h11⟩
theorem chOk0 (c:Ch) (h1:c.gaps=[]) (h2:c.dups=[]) (h3:c.items.length≤2 ^ 20):ChOk c:=⟨by rw [h1];simp,by rw [h2];simp,h3,fun j=>by rw [h1];simp [default]⟩
theorem noted1_spec (a:As) (hn:a.notes.length≤2 ^ 30):LSpec Tryz.prog 42 [.ptr F0 0,vi 1] (asH a) (fun r hl=>r=.tup []∧hl=asP (a.note 1 0)):=by
 refine LSpec.rens (LSpec.runN (h2:=asP a) psN (TNoOk) followsB Tryz.func42 (by decide) rfl Tryz.ntmps42 (Nat.le_of_ble_eq_true rfl) rfl rfl rfl rfl rfl fun w0 R0 Lo hGw=>?_)
 conv=>whnf
 refine ⟨_,(note_spec a 1 0 hn),?_⟩
 rintro q hq ⟨rfl,rfl⟩
 unfold ABack
 generalize hfr:freshN _ _ _ _=fb
 have hb:fb=true:=by
  rw [←hfr]
  conv=>lhs;whnf
 subst hb
 clear hfr
 dsimp only
 conv=>whnf
 try dsimp only [newBase,Nat.reduceAdd,Nat.reduceMul]
 refine finR [(9000,2001),(9001,2002),(9002,2003),(9003,2004)] rfl rfl (.refl _) ?_ ⟨rfl,rfl⟩
 exact ⟨OLe.refl _,OLe.refl _,OLe.refl _,OLe.refl _,OLe.refl _,OLe.refl _,OLe.refl _,trivial⟩
theorem controlU_spec (a:As) (c:Ch) (from_ now:Int) (rh:H) (hr:a.ctlR c now=⟨rh,[],1⟩) (hi:c.items.length≤maxLen) (ht:0≤a.h.tries) (hst:a.h.st≠1) (hn:a.notes.length≤2 ^ 30):LSpec Tryz.prog 37 [.ptr F0 0,chA c,vi from_,vi now] (asH a) (fun r hl=>r=.tup []∧hl=asP (({ a with h:=rh}:As).note 1 0)):=by
 refine LSpec.rens (LSpec.runNS (h2:=asP a) psN (TCtOk) followsB Tryz.func37 (by decide) rfl Tryz.ntmps37 (Nat.le_of_ble_eq_true rfl) rfl rfl rfl rfl rfl fun w0 R0 Lo hGw=>?_)
 conv=>whnf
 have hht:=handTake_spec a c a.empty now hi ht
 rw [show takeR a.h (kOf c) (itOf c) a.empty now=a.ctlR c now from rfl,hr] at hht
 repeat (refine gK ?_;conv=>whnf)
 have hcx:=(empty_spec' a)
 first|(refine ⟨_,hcx,?_⟩;rintro q rfl)|refine ⟨_,hcx,?_⟩
 clear hcx
 conv=>whnf
 have hcx:=hht
 first|(refine ⟨_,hcx,?_⟩;rintro q rfl)|refine ⟨_,hcx,?_⟩
 clear hcx
 conv=>whnf
 refine gR ?_
 conv=>whnf
 refine AGo.go (TCtOk) followsB ?_
 conv=>whnf
 rw [show (a.h.st==1)=false from beq_eq_false_iff_ne.2 hst]
 conv=>whnf
 refine AGo.go (TCtOk) followsB ?_
 conv=>whnf
 refine ⟨_,(noted1_spec { a with h:=rh} hn),?_⟩
 rintro q hq ⟨rfl,rfl⟩
 unfold ABack
 generalize hfr:freshN _ _ _ _=fb
 have hb:fb=true:=by
  rw [←hfr]
  conv=>lhs;whnf
 subst hb
 clear hfr
 dsimp only
 conv=>whnf
 try dsimp only [newBase,Nat.reduceAdd,Nat.reduceMul]
 generalize ({ a with h:=rh}:As).note 1 0=b
 refine ALoop.restate [(54000,2001),(54001,2002),(54002,2003),(54003,2004)] [(0,.ptr F0 0),(2,vi from_),(54,ksA []),(55,vi 0),(56,vi 0)] (asP b) rfl (by (repeat' (first|exact ⟨⟩|exact OLe.refl _|exact .refl _|exact .nil|exact rfl|refine ⟨?_,?_⟩|fail))) ?_
 refine ALoop.introR TCtOk followsB (fun _:Unit=>([(0,.ptr F0 0),(2,vi from_),(54,ksA []),(55,vi 0),(56,vi 0)],asP b)) (fun _=>0) () ?_ ?_
 ·(repeat' (first|exact ⟨⟩|exact OLe.refl _|exact .refl _|exact .nil|exact rfl|refine ⟨?_,?_⟩|fail))
 ·rintro _
  conv=>whnf
  refine finR [] rfl rfl (.refl _) ?_ ⟨rfl,rfl⟩
  exact ⟨OLe.refl _,OLe.refl _,OLe.refl _,OLe.refl _,OLe.refl _,OLe.refl _,OLe.refl _,trivial⟩
theorem ct4:({ stA3.hearing 0 0 with h:=h3A}:As).note 1 0=endA:=by kernel_rfl
theorem ct5:(stA3.hearing 0 0).ctlR cCAc 0=⟨h3A,[],1⟩:=by kernel_rfl
theorem tkA1:LSpec Tryz.prog 13 [.ptr F0 0,chA cIAc,vi 0,vi 0] (asH stA1) (fun r hl=>r=.tup []∧hl=asP stA2):=
 takeCtl_spec stA1 stA2 cIAc 0 0 (by decide) (chOk0 _ rfl rfl (by decide)) (by decide +kernel) (by decide) (by decide)
  (by rw [ct1];exact controlW_spec stA1 cIAc 0 0 (bd0 stA1 rfl rfl (psOk (.inl rfl)) rfl rfl rfl rfl (by decide) (by decide) rfl (by decide)) (by decide) (by decide) rfl h2A cEchoA ct2 rfl (by decide) rfl 4 rfl (by decide) (by decide) (by decide) (by decide))
theorem tkA2:LSpec Tryz.prog 13 [.ptr F0 0,chA cCAc,vi 0,vi 0] (asH stA3) (fun r hl=>r=.tup []∧hl=asP endA):=
 takeCtl_spec stA3 endA cCAc 0 0 (by decide) (chOk0 _ rfl rfl (by decide)) (by decide +kernel) (by decide) (by decide)
  (ct4▸controlU_spec (stA3.hearing 0 0) cCAc 0 0 h3A ct5 (by decide) (by decide) (by decide) (by decide))
end Go.Proofs.YtbkcekmahdbgdaaGreat
namespace Towline.Ac
open Towline.Hand Towline.Chunk Towline.Store
structure Pr where
 a:As
 b:As
 wa:List (Int×Ch)
 wb:List (Int×Ch)
 ia:List Msg
 ib:List Msg
 ra:List Fm
 rb:List Fm
 na:List (Int×Int)
 nb:List (Int×Int)
 now:Int
end Towline.Ac
namespace Go.Proofs.YtbkcekmahdbgdaaGreat
open Go Go.RowKit Towline Towline.Hand Towline.Ac Towline.Chunk Towline.Store
open Op
set_option linter.unusedVariables false
set_option linter.unusedSimpArgs false
set_option maxRecDepth 20000
set_option maxHeartbeats 4000000
def encSnt (x:Int×Ch):List D:=.i .i64 x.1::encCh x.2
abbrev rowW (l:List (Int×Ch)):AObj:=.row 46 15 l.length fun j=>encSnt (l.getD j default)
abbrev rowM (l:List Msg):AObj:=.row 60 6 l.length fun j=>St.encM (l.getD j default)
abbrev prO (P:Pr) (n1 n2 n3 n4 n5:Nat):AObj:=.box [.rsl n1 1 0 2,.rsl n2 1 0 2,.rsl n3 1 0 2,.rsl n4 1 0 2,.rsl n5 1 0 2,vi P.now]
abbrev prF (P:Pr):Heap:=[(2000,prO P 2001 2002 2003 2004 2005),(2001,.box [.ptr 2006 0,.ptr 2007 0]),(2002,.box [.rsl 2008 15 0 P.wa.length,.rsl 2009 15 0 P.wb.length]),(2003,.box [.rsl 2010 6 0 P.ia.length,.rsl 2011 6 0 P.ib.length]),(2004,.box [.rsl 2012 6 0 P.ra.length,.rsl 2013 6 0 P.rb.length]),(2005,.box [.rsl 2014 2 0 P.na.length,.rsl 2015 2 0 P.nb.length]),
 (2006,asB P.a 2016 2017 2018 2019 2020 2021),(2007,asB P.b 2022 2023 2024 2025 2026 2027),(2008,rowW P.wa),(2009,rowW P.wb),(2010,rowM P.ia),(2011,rowM P.ib),(2012,rowFm P.ra),(2013,rowFm P.rb),(2014,rowNo P.na),(2015,rowNo P.nb),
 (2016,.dmp (encDat P.a.data)),(2017,rowFm P.a.inn),(2018,rowOut P.a.out),(2019,rowNo P.a.notes),(2020,rowZ P.a.due),(2021,rowZ P.a.heard),(2022,.dmp (encDat P.b.data)),(2023,rowFm P.b.inn),(2024,rowOut P.b.out),(2025,rowNo P.b.notes),(2026,rowZ P.b.due),(2027,rowZ P.b.heard)]
def met0:Pr:=⟨endA,endB,[],[],[],[],[],[],[],[],0⟩
theorem it1_le (f:Nat→List D) (hf:f 0=encI ⟨7,[99]⟩):(AVal.d (.sl 2 1 f)).le (.d (slT 2 encI [⟨7,[99]⟩])):=.sl rfl fun k hk=>by
 obtain rfl:=z1 hk
 exact hf
theorem met0_spec:LSpec Tryz.prog 9 [] [] (fun r hl=>r=.ptr 2000 0∧hl=prF met0):=by
 refine LSpec.rens (LSpec.runE (h2:=[]) [] (TLwOk) followsB Tryz.func9 (by decide) rfl Tryz.ntmps9 (Nat.le_of_ble_eq_true rfl) rfl rfl rfl rfl rfl fun w0 R0 Lo hGw=>?_)
 conv=>whnf
 repeat (refine gK ?_;conv=>whnf)
 refine ⟨_,(LSpec.argsC (openA2_spec tB4 tC4 rfl rfl (by decide) 5 4294967290 (by decide) 4 (by decide)) ⟨.sl rfl fun k hk=>by rcases z2 hk with rfl|rfl<;>rfl,.refl _,.refl _,.refl _,.refl _,.refl _,trivial⟩),?_⟩
 rintro q hq ⟨rfl,rfl⟩
 unfold ABack
 generalize hfr:freshN _ _ _ _=fb
 have hb:fb=true:=by
  rw [←hfr]
  conv=>lhs;whnf
 subst hb
 clear hfr
 dsimp only
 conv=>whnf
 try dsimp only [newBase,Nat.reduceAdd,Nat.reduceMul]
 repeat (refine gK ?_;conv=>whnf)
 refine ⟨_,(LSpec.argsC acceptA_spec ⟨.refl _,.sl rfl fun k hk=>by rcases z2 hk with rfl|rfl<;>rfl,.refl _,.refl _,trivial⟩),?_⟩
 rintro q hq ⟨rfl,rfl⟩
 unfold ABack
 generalize hfr:freshN _ _ _ _=fb
 have hb:fb=true:=by
  rw [←hfr]
  conv=>lhs;whnf
 subst hb
 clear hfr
 dsimp only
 conv=>whnf
 try dsimp only [newBase,Nat.reduceAdd,Nat.reduceMul]
 refine ⟨_,flA1,?_⟩
 rintro q hq ⟨rfl,rfl⟩
 unfold ABack
 generalize hfr:freshN _ _ _ _=fb
 have hb:fb=true:=by
  rw [←hfr]
  conv=>lhs;whnf
 subst hb
 clear hfr
 dsimp only
 conv=>whnf
 try dsimp only [newBase,Nat.reduceAdd,Nat.reduceMul]
 refine ⟨_,(LSpec.argsC tkA1 ⟨.refl _,.agg ⟨.refl _,.refl _,.refl _,.refl _,.refl _,.refl _,.refl _,.refl _,.refl _,.refl _,.nil,.nil,it1_le _ rfl,.refl _,trivial⟩,.refl _,.refl _,trivial⟩),?_⟩
 rintro q hq ⟨rfl,rfl⟩
 unfold ABack
 generalize hfr:freshN _ _ _ _=fb
 have hb:fb=true:=by
  rw [←hfr]
  conv=>lhs;whnf
 subst hb
 clear hfr
 dsimp only
 conv=>whnf
 try dsimp only [newBase,Nat.reduceAdd,Nat.reduceMul]
 refine ⟨_,flA2,?_⟩
 rintro q hq ⟨rfl,rfl⟩
 unfold ABack
 generalize hfr:freshN _ _ _ _=fb
 have hb:fb=true:=by
  rw [←hfr]
  conv=>lhs;whnf
 subst hb
 clear hfr
 dsimp only
 conv=>whnf
 try dsimp only [newBase,Nat.reduceAdd,Nat.reduceMul]
 refine ⟨_,(LSpec.argsC tkA2 ⟨.refl _,.agg ⟨.refl _,.refl _,.refl _,.refl _,.refl _,.refl _,.refl _,.refl _,.refl _,.refl _,.nil,.nil,.nil,.refl _,trivial⟩,.refl _,.refl _,trivial⟩),?_⟩
 rintro q hq ⟨rfl,rfl⟩
 unfold ABack
 generalize hfr:freshN _ _ _ _=fb
 have hb:fb=true:=by
  rw [←hfr]
  conv=>lhs;whnf
 subst hb
 clear hfr
 dsimp only
 conv=>whnf
 try dsimp only [newBase,Nat.reduceAdd,Nat.reduceMul]
 refine ⟨_,flB1,?_⟩
 rintro q hq ⟨rfl,rfl⟩
 unfold ABack
 generalize hfr:freshN _ _ _ _=fb
 have hb:fb=true:=by
  rw [←hfr]
  conv=>lhs;whnf
 subst hb
 clear hfr
 dsimp only
 conv=>whnf
 try dsimp only [newBase,Nat.reduceAdd,Nat.reduceMul]
 repeat (refine gK ?_;conv=>whnf)
 refine ⟨_,(state_spec' endA),?_⟩
 rintro q rfl
 conv=>whnf
 repeat (refine gK ?_;conv=>whnf)
 refine ⟨_,(state_spec' endB),?_⟩
 rintro q rfl
 conv=>whnf
 refine ⟨⟨by decide,by decide⟩,?_⟩
 conv=>whnf
 refine ⟨⟨by decide,by decide⟩,?_⟩
 conv=>whnf
 refine ⟨⟨by decide,by decide⟩,?_⟩
 conv=>whnf
 refine ⟨⟨by decide,by decide⟩,?_⟩
 conv=>whnf
 refine gR ?_
 conv=>whnf
 refine AEnd.adoptCell 57 0 3001 15 46 (fun j=>encSnt (([]:List (Int×Ch)).getD j default)) rfl rfl rfl rfl rfl ?_
 refine AEnd.adoptCell 57 1 3002 15 46 (fun j=>encSnt (([]:List (Int×Ch)).getD j default)) rfl rfl rfl rfl rfl ?_
 refine AEnd.adoptCell 58 0 3003 6 60 (fun j=>St.encM (([]:List Msg).getD j default)) rfl rfl rfl rfl rfl ?_
 refine AEnd.adoptCell 58 1 3004 6 60 (fun j=>St.encM (([]:List Msg).getD j default)) rfl rfl rfl rfl rfl ?_
 refine AEnd.adoptCell 59 0 3005 6 116 (fun j=>encFm (([]:List Fm).getD j default)) rfl rfl rfl rfl rfl ?_
 refine AEnd.adoptCell 59 1 3006 6 116 (fun j=>encFm (([]:List Fm).getD j default)) rfl rfl rfl rfl rfl ?_
 refine AEnd.adoptCell 60 0 3007 2 67 (fun j=>encNote (([]:List (Int×Int)).getD j default)) rfl rfl rfl rfl rfl ?_
 refine AEnd.adoptCell 60 1 3008 2 67 (fun j=>encNote (([]:List (Int×Int)).getD j default)) rfl rfl rfl rfl rfl ?_
 refine AEnd.done ?_
 conv=>whnf
 refine finR [(62,2000),(56,2001),(57,2002),(58,2003),(59,2004),(60,2005),(9000,2006),(16000,2007),(3001,2008),(3002,2009),(3003,2010),(3004,2011),(3005,2012),(3006,2013),(3007,2014),(3008,2015),(44000,2016),(44001,2017),(44002,2018),(44003,2019),(9005,2020),(9006,2021),(46000,2022),(46001,2023),(46002,2024),(46003,2025),(16005,2026),(16006,2027)] rfl rfl (.refl _) ?_ ⟨rfl,rfl⟩
 (repeat' (first|exact ⟨⟩|exact OLe.refl _|exact .refl _|exact .nil|exact rfl|refine ⟨?_,?_⟩|fail))
def stS:As:=opened 5 6 2 [pt0 tA4 2]
theorem flS0:stS.flush 0 0=({ stS with out:=[]},stS.out):=by kernel_rfl
theorem flS1:LSpec Tryz.prog 27 [.ptr F0 0,vi 0] (asH stS) (fun r hl=>r=.rsl 2005 2 0 stS.out.length∧hl=asP { stS with out:=[]}++[(2005,rowOut stS.out)]):=
 flush0_spec stS [] (gOk0 rfl rfl (by decide)) (by decide) (by decide) (by decide) rfl rfl rfl (by decide) (by kernel_rfl) rfl (by decide) rfl (by decide) rfl (by decide) (sOk0 rfl (by decide)) flS0
theorem shownL_spec:PSpec Tryz.prog 8 [] (· = vb true):=by
 refine PSpec.run (TLwOk) followsB Tryz.func8 (by decide) rfl Tryz.ntmps8 (Nat.le_of_ble_eq_true rfl) rfl fun w0 R0 hGw=>?_
 conv=>whnf
 repeat (refine gK ?_;conv=>whnf)
 refine ⟨_,(LSpec.argsC (openA1_spec tA4 rfl 5 6 (by decide) 2 (by decide)) ⟨.sl rfl fun k hk=>by obtain rfl:=z1 hk;rfl,.refl _,.refl _,.refl _,.refl _,.refl _,trivial⟩),?_⟩
 rintro q hq ⟨rfl,rfl⟩
 unfold ABack
 generalize hfr:freshN _ _ _ _=fb
 have hb:fb=true:=by
  rw [←hfr]
  conv=>lhs;whnf
 subst hb
 clear hfr
 dsimp only
 conv=>whnf
 try dsimp only [newBase,Nat.reduceAdd,Nat.reduceMul]
 refine ⟨_,(openA0_spec 5 6 2),?_⟩
 rintro q hq ⟨rfl,rfl⟩
 conv=>whnf
 repeat (refine gK ?_;conv=>whnf)
 refine ⟨_,(LSpec.argsC (openAT_spec tA4 rfl 6 2 (by decide)) ⟨.sl rfl fun k hk=>by obtain rfl:=z1 hk;rfl,.refl _,.refl _,.refl _,.refl _,.refl _,trivial⟩),?_⟩
 rintro q hq ⟨rfl,rfl⟩
 conv=>whnf
 repeat (refine gK ?_;conv=>whnf)
 refine ⟨_,(state_spec' stS),?_⟩
 rintro q rfl
 conv=>whnf
 refine ⟨_,flS1,?_⟩
 rintro q hq ⟨rfl,rfl⟩
 unfold ABack
 generalize hfr:freshN _ _ _ _=fb
 have hb:fb=true:=by
  rw [←hfr]
  conv=>lhs;whnf
 subst hb
 clear hfr
 dsimp only
 conv=>whnf
 try dsimp only [newBase,Nat.reduceAdd,Nat.reduceMul]
 repeat (refine gK ?_;conv=>whnf)
 exact ⟨_,.refl _,rfl,rfl⟩
end Go.Proofs.YtbkcekmahdbgdaaGreat
namespace Towline.Ac
open Towline.Hand Towline.Chunk Towline.Store
namespace Pr
def msgOf (l:List Msg) (stream:Nat) (free:Bool) (text:List UInt8):Msg:=⟨l.length+1,stream,text.length,free,text,0⟩
def sendA (p:Pr) (stream:Nat) (free:Bool) (text:List UInt8):Pr:={ p with a:=p.a.send (msgOf p.ia stream free text),ia:=if p.a.sendE (msgOf p.ia stream free text)=0 then p.ia++[msgOf p.ia stream free text] else p.ia}
end Pr
end Towline.Ac
namespace Go.Proofs.YtbkcekmahdbgdaaGreat
open Go Go.RowKit Towline Towline.Hand Towline.Ac Towline.Chunk Towline.Store
open Op
set_option linter.unusedVariables false
set_option linter.unusedSimpArgs false
set_option maxRecDepth 20000
set_option maxHeartbeats 4000000
def pickN (c:Int) (n:Nat):Nat:=((if c<0 then -(c+1) else c) % (n:Int)).toNat
theorem pickN_lt (c:Int) (n:Nat) (h:0<n):pickN c n<n:=by
 unfold pickN
 have h1:=Int.emod_nonneg (if c<0 then -(c+1) else c) (show (n:Int)≠0 by omega)
 have h2:=Int.emod_lt_of_pos (if c<0 then -(c+1) else c) (show (0:Int)<n by omega)
 omega
theorem pick_specL (c:Int) (n:Nat) (hc : -9223372036854775808≤c∧c≤9223372036854775807) (hn:0<n) (hn2:n≤2 ^ 40):PSpec Tryz.prog 10 [vi c,vi n] (· = vi (pickN c n)):=by
 have h1:=Int.emod_nonneg (if c<0 then -(c+1) else c) (show (n:Int)≠0 by omega)
 refine PSpec.run (tysOk) followsB Tryz.func10 (by decide) rfl Tryz.ntmps10 (Nat.le_of_ble_eq_true rfl) rfl fun w0 R0 hGw=>?_
 conv=>whnf
 cases g:decide (c<0)
 ·have g:=of_decide_eq_false g
  rw [if_neg g] at h1
  conv=>whnf
  refine ⟨by omega,?_⟩
  conv=>whnf
  exact ⟨_,.refl _,by unfold pickN;rw [if_neg g,Int.tmod_eq_emod_of_nonneg (by omega),Int.toNat_of_nonneg h1],rfl⟩
 ·have g:=of_decide_eq_true g
  rw [if_pos g] at h1
  conv=>whnf
  refine ⟨by omega,?_⟩
  conv=>whnf
  refine ⟨by omega,?_⟩
  conv=>whnf
  refine ⟨by omega,?_⟩
  conv=>whnf
  exact ⟨_,.refl _,by unfold pickN;rw [if_pos g,Int.tmod_eq_emod_of_nonneg (by omega),Int.toNat_of_nonneg h1,Int.zero_sub],rfl⟩
abbrev F7:Nat:=1000000007
abbrev F8:Nat:=1000000008
abbrev F9:Nat:=1000000009
abbrev F10:Nat:=1000000010
abbrev F11:Nat:=1000000011
abbrev F12:Nat:=1000000012
abbrev F13:Nat:=1000000013
abbrev F14:Nat:=1000000014
abbrev F15:Nat:=1000000015
abbrev F16:Nat:=1000000016
abbrev F17:Nat:=1000000017
abbrev F18:Nat:=1000000018
abbrev F19:Nat:=1000000019
abbrev F20:Nat:=1000000020
abbrev F21:Nat:=1000000021
abbrev F22:Nat:=1000000022
abbrev F23:Nat:=1000000023
abbrev F24:Nat:=1000000024
abbrev F25:Nat:=1000000025
abbrev F26:Nat:=1000000026
abbrev F27:Nat:=1000000027
abbrev prG (p:Pr) (n3 n4 n5 n6 n10 n11 n12 n13 n17 n18 n20 n21 n23 n24 n26 n27:Nat):Heap:=[(F0,prO p F1 F16 F19 F22 F25),(F1,.box [.ptr F2 0,.ptr F9 0]),(F2,asB p.a n3 n4 n5 n6 F7 F8),(n3,.dmp (encDat p.a.data)),(n4,rowFm p.a.inn),(n5,rowOut p.a.out),(n6,rowNo p.a.notes),(F7,rowZ p.a.due),(F8,rowZ p.a.heard),
 (F9,asB p.b n10 n11 n12 n13 F14 F15),(n10,.dmp (encDat p.b.data)),(n11,rowFm p.b.inn),(n12,rowOut p.b.out),(n13,rowNo p.b.notes),(F14,rowZ p.b.due),(F15,rowZ p.b.heard),
 (F16,.box [.rsl n17 15 0 p.wa.length,.rsl n18 15 0 p.wb.length]),(n17,rowW p.wa),(n18,rowW p.wb),(F19,.box [.rsl n20 6 0 p.ia.length,.rsl n21 6 0 p.ib.length]),(n20,rowM p.ia),(n21,rowM p.ib),
 (F22,.box [.rsl n23 6 0 p.ra.length,.rsl n24 6 0 p.rb.length]),(n23,rowFm p.ra),(n24,rowFm p.rb),(F25,.box [.rsl n26 2 0 p.na.length,.rsl n27 2 0 p.nb.length]),(n26,rowNo p.na),(n27,rowNo p.nb)]
abbrev prH (p:Pr):Heap:=prG p F3 F4 F5 F6 F10 F11 F12 F13 F17 F18 F20 F21 F23 F24 F26 F27
abbrev TPr:Tys:=tysX false [] [(20,[]),(27,[]),(13,[]),(38,[])] []
theorem TPrOk:TysOk Tryz.prog TPr:=tysXOk _ _ _ _
theorem wrap16N (n:Nat) (h:n<65536):IntKind.u16.wrap (n:Int)=n:=by simp [IntKind.wrap,IntKind.signed,IntKind.bits];omega
theorem wrap32N (n:Nat) (h:n<4294967296):IntKind.u32.wrap (n:Int)=n:=by simp [IntKind.wrap,IntKind.signed,IntKind.bits];omega
theorem sendA_specP (p:Pr) (stream:Nat) (free:Bool) (text:List UInt8) (h1:total p.a.s.l≤2 ^ 40) (h3:p.a.s.a≤2 ^ 40) (h4:p.a.s.l.length≤2 ^ 40) (h5:stream≤65535) (h6:text.length≤2 ^ 30) (h7:p.ia.length≤2 ^ 20) :
  LSpec Tryz.prog 11 [.ptr F0 0,vi 0,vi stream,vb free,vs text] (prH p) (fun r hl=>r=.tup []∧hl=prG (p.sendA stream free text) 2000 2001 2002 2003 F10 F11 F12 F13 F17 F18 2004 F21 F23 F24 F26 F27):=by
 refine LSpec.rens (LSpec.runE (h2:=prH p) [] (TPrOk) followsB Tryz.func11 (by decide) rfl Tryz.ntmps11 (Nat.le_of_ble_eq_true rfl) rfl rfl rfl rfl rfl fun w0 R0 Lo hGw=>?_)
 conv=>whnf
 have hsd:=send_specA p.a (Pr.msgOf p.ia stream free text) p.now h1 h3 h4 h5
 have e1:IntKind.u16.wrap (stream:Int)=stream:=wrap16N stream (by omega)
 have e2:IntKind.u32.wrap (text.length:Int)=text.length:=wrap32N text.length (by omega)
 repeat (refine gK ?_;conv=>whnf)
 rw [e1,e2]
 refine ⟨_,_,hsd,?_⟩
 conv=>whnf
 try dsimp only [newBase,Nat.reduceAdd,Nat.reduceMul]
 refine gR ?_
 conv=>whnf
 cases g:(p.a.sendE (Pr.msgOf p.ia stream free text)==0)
 ·conv=>whnf
  rw [show p.sendA stream free text={ p with a:=p.a.send (Pr.msgOf p.ia stream free text)} from by unfold Pr.sendA;rw [if_neg (beq_eq_false_iff_ne.1 g)]]
  refine AEnd.rensD [(42000,2000),(42001,2001),(42002,2002),(42003,2003),(F20,2004)] (by kernel_rfl) ?_
  conv=>whnf
  refine AEnd.done ?_
  conv=>whnf
  refine finD (by kernel_rfl) (.refl _) ?_ ⟨rfl,rfl⟩
  conv=>whnf
  (repeat' (first|exact ⟨⟩|exact OLe.refl _|exact .refl _|exact .nil|exact rfl|refine ⟨?_,?_⟩|fail))
 ·conv=>whnf
  repeat (refine gK ?_;conv=>whnf)
  refine ⟨⟨⟨rfl,by omega,by simp only [ty60];omega⟩,by omega⟩,?_⟩
  conv=>whnf
  repeat (refine gK ?_;conv=>whnf)
  refine gR ?_
  conv=>whnf
  rw [show p.sendA stream free text={ p with a:=p.a.send (Pr.msgOf p.ia stream free text),ia:=p.ia++[Pr.msgOf p.ia stream free text]} from by unfold Pr.sendA;rw [if_pos (eq_of_beq g)]]
  have hln:p.ia.length+1=(p.ia++[Pr.msgOf p.ia stream free text]).length:=by simp
  refine AEnd.rensD [(42000,2000),(42001,2001),(42002,2002),(42003,2003),(58,2004)] (by kernel_rfl) ?_
  conv=>whnf
  refine AEnd.done ?_
  conv=>whnf
  refine finD (by kernel_rfl) (.refl _) ?_ ⟨rfl,rfl⟩
  conv=>whnf
  (repeat' (first|exact ⟨⟩|exact OLe.refl _|exact .refl _|exact .nil|exact rfl|refine ⟨?_,?_⟩|fail))
  ·exact .of_eq (congrArg (AVal.rsl 2004 6 0) hln)
  ·exact hln
  ·exact fun k hk=>slT_app St.encM p.ia (Pr.msgOf p.ia stream free text) k hk rfl
end Go.Proofs.YtbkcekmahdbgdaaGreat
namespace Towline.Ac
open Towline.Hand Towline.Chunk Towline.Store
def recvs:Nat→As→As×List Fm
 |0,b=>(b,[])
 |f+1,b=>match b.inn with
  | []=>(b,[])
  |m::r=>((recvs f (b.recv r)).1,m::(recvs f (b.recv r)).2)
theorem recvs_nil (b:As) (h:b.inn=[]):∀f,recvs f b=(b,[])
 |0=>rfl
 |f+1=>by unfold recvs;rw [h]
theorem recvs_cons (b:As) (f:Nat) (m:Fm) (r:List Fm) (h:b.inn=m::r):recvs (f+1) b=((recvs f (b.recv r)).1,m::(recvs f (b.recv r)).2):=by
 conv=>lhs;unfold recvs
 rw [h]
structure RdOk (b:As):Prop where
 bag:b.bag.length≤2 ^ 30
 bagB:fbytes b.bag≤2 ^ 40
 w:b.q.w.length≤2 ^ 30
 wB:mbytes b.q.w≤2 ^ 40
 inn:b.inn.length≤2 ^ 30
 innB:mbytes b.inn≤2 ^ 40
 win:0≤b.win∧b.win<4294967296
theorem RdOk.recv {b:As} (h:RdOk b) {m:Fm} {r:List Fm} (hi:b.inn=m::r):RdOk (b.recv r):=by
 have h5:=h.inn
 have h6:=h.innB
 rw [hi] at h5 h6
 exact ⟨h.bag,h.bagB,h.w,h.wB,by simp at h5;show r.length≤_;omega,by unfold mbytes at h6 ⊢;simp at h6;show (r.map _).sum≤_;omega,h.win⟩
namespace Pr
def readB (p:Pr):Pr:={ p with b:=(recvs 200 p.b).1,rb:=p.rb++(recvs 200 p.b).2}
end Pr
end Towline.Ac
namespace Go.Proofs.YtbkcekmahdbgdaaGreat
open Go Go.RowKit Towline Towline.Hand Towline.Ac Towline.Chunk Towline.Store
open Op
set_option linter.unusedVariables false
set_option linter.unusedSimpArgs false
set_option maxRecDepth 20000
set_option maxHeartbeats 4000000
theorem readB_specP (p:Pr) (hb:RdOk p.b) (hr:p.rb.length≤2 ^ 30):LSpec Tryz.prog 14 [.ptr F0 0,vi 1] (prH p) (fun r hl=>r=.tup []∧hl=prG p.readB F3 F4 F5 F6 2000 2001 2002 2003 F17 F18 F20 F21 F23 2004 F26 F27):=by
 refine LSpec.rens (LSpec.runE (h2:=prH p) [] (TPrOk) followsB Tryz.func14 (by decide) rfl Tryz.ntmps14 (Nat.le_of_ble_eq_true rfl) rfl rfl rfl rfl rfl fun w0 R0 Lo hGw=>?_)
 conv=>whnf
 refine ALoop.rensL [(F10,2000),(F11,2001),(F12,2002),(F13,2003),(F24,2004)] (by kernel_rfl) ?_
 conv=>whnf
 refine ALoop.introD TPrOk followsB (fun x:{x:Nat×Pr // x.1≤200∧RdOk x.2.b∧x.2.rb.length≤p.rb.length+x.1∧p.readB={ x.2 with b:=(recvs (200-x.1) x.2.b).1,rb:=x.2.rb++(recvs (200-x.1) x.2.b).2}}=>([(0,.ptr F0 0),(1,vi 1),(4,vi x.1.1)],prG x.1.2 F3 F4 F5 F6 2000 2001 2002 2003 F17 F18 F20 F21 F23 2004 F26 F27)) (fun x=>200-x.1.1) ⟨(0,p),Nat.zero_le _,hb,Nat.le_refl _,rfl⟩ ?_ ?_ ?_
 ·(repeat' (first|exact ⟨⟩|exact OLe.refl _|exact .refl _|exact .nil|exact rfl|refine ⟨?_,?_⟩|fail))
 ·conv=>whnf
  (repeat' (first|exact ⟨⟩|exact OLe.refl _|exact .refl _|exact .nil|exact rfl|refine ⟨?_,?_⟩|fail))
 ·rintro ⟨⟨k,q⟩,hk,hbo,hll,hrel⟩
  dsimp only at hk hbo hll hrel ⊢
  obtain ⟨g1,g2,g3,g4,g5,g6,g7⟩:=hbo
  conv=>whnf
  cases gk:decide ((k:Int)<200)
  ·have gk:k=200:=by have:=of_decide_eq_false gk;omega
   subst gk
   conv=>whnf
   refine AEnd.done ?_
   conv=>whnf
   rw [show p.readB=q from by rw [hrel];simp [recvs]]
   refine finD (by kernel_rfl) (.refl _) ?_ ⟨rfl,rfl⟩
   conv=>whnf
   (repeat' (first|exact ⟨⟩|exact OLe.refl _|exact .refl _|exact .nil|exact rfl|refine ⟨?_,?_⟩|fail))
  ·have gk:k<200:=by have:=of_decide_eq_true gk;omega
   obtain ⟨f,hf⟩:∃f,200-k=f+1:=⟨199-k,by omega⟩
   rw [hf] at hrel
   conv=>whnf
   repeat (refine gK ?_;conv=>whnf)
   rcases (show q.b.inn=[]∨∃m r,q.b.inn=m::r from by cases q.b.inn with|nil=>exact .inl rfl|cons m r=>exact .inr ⟨m,r,rfl⟩) with hi|⟨m,r,hi⟩
   ·rw [recvs_nil q.b hi] at hrel
    refine ⟨_,(recvN_spec q.b hi),?_⟩
    rintro q hq ⟨rfl,rfl⟩
    unfold ABack
    generalize hfr:freshN _ _ _ _=fb
    have hb:fb=true:=by
     rw [←hfr]
     conv=>lhs;whnf
    subst hb
    clear hfr
    dsimp only
    conv=>whnf
    try dsimp only [newBase,Nat.reduceAdd,Nat.reduceMul]
    rw [show p.readB=q from by rw [hrel];simp]
    refine AEnd.rensD [(20000,2000),(20001,2001),(20002,2002),(20003,2003)] (by kernel_rfl) ?_
    conv=>whnf
    refine AEnd.done ?_
    conv=>whnf
    refine finD (by kernel_rfl) (.refl _) ?_ ⟨rfl,rfl⟩
    conv=>whnf
    (repeat' (first|exact ⟨⟩|exact OLe.refl _|exact .refl _|exact .nil|exact rfl|refine ⟨?_,?_⟩|fail))
   ·rw [recvs_cons q.b f m r hi] at hrel
    have hok:=RdOk.recv ⟨g1,g2,g3,g4,g5,g6,g7⟩ hi
    refine ⟨_,(recv_spec q.b m r hi g1 g2 g3 g4 g5 g6 g7),?_⟩
    rintro q hq ⟨rfl,rfl⟩
    unfold ABack
    generalize hfr:freshN _ _ _ _=fb
    have hb:fb=true:=by
     rw [←hfr]
     conv=>lhs;whnf
    subst hb
    clear hfr
    dsimp only
    conv=>whnf
    try dsimp only [newBase,Nat.reduceAdd,Nat.reduceMul]
    repeat (refine gK ?_;conv=>whnf)
    refine ⟨⟨⟨rfl,by omega,by simp only [ty116];omega⟩,by omega⟩,?_⟩
    conv=>whnf
    repeat (refine gK ?_;conv=>whnf)
    refine gR ?_
    conv=>whnf
    repeat (refine gK ?_;conv=>whnf)
    have hln:q.rb.length+1=(q.rb++[m]).length:=by simp
    refine ⟨⟨(k+1,{ q with b:=q.b.recv r,rb:=q.rb++[m]}),gk,hok,by dsimp only;rw [←hln];omega,by rw [hrel];dsimp only;rw [show 200-(k+1)=f from by omega,List.append_assoc];rfl⟩,[(20000,2000),(20001,2001),(20002,2002),(20003,2003),(38,2004)],by (try dsimp only);omega,?_,?_⟩
    ·(repeat' (first|exact ⟨⟩|exact OLe.refl _|exact .refl _|exact .nil|exact rfl|refine ⟨?_,?_⟩|fail))
    ·try dsimp only
     conv=>whnf
     (repeat' (first|exact ⟨⟩|exact OLe.refl _|exact .refl _|exact .nil|exact rfl|refine ⟨?_,?_⟩|fail))
     ·exact .of_eq (congrArg (AVal.rsl 2004 6 0) hln)
     ·exact hln
     ·exact fun j hj=>slT_app encFm q.rb m j hj rfl
end Go.Proofs.YtbkcekmahdbgdaaGreat
namespace Towline.Store
def pcAt (m:Msg) (ssn a:Nat):Pc:=⟨0,a==0,decide (m.text.length≤a+cut m a 1000),m.free,m.stream,ssn,m.ppid,(m.text.drop a).take (cut m a 1000)⟩
def cutL (m:Msg) (ssn:Nat):Nat→Nat→List Pc
 |0,_=>[]
 |f+1,a=>pcAt m ssn a::(if a+cut m a 1000<m.text.length then cutL m ssn f (a+cut m a 1000) else [])
def allP:List Nat→List Msg→List (List Pc)
 |_,[]=>[]
 |nx,m::r=>cutL m (num m nx) m.text.length 0::allP (bump m nx) r
def remP (s:S2):List Pc:=match s.l with
 | []=>[]
 |m::r=>cutL m (num m s.next) (m.text.length-s.a) s.a++(allP (bump m s.next) r).flatten
def bumps (nx:List Nat) (l:List Msg):List Nat:=l.foldl (fun nx m=>bump m nx) nx
theorem cutL_fuel (m:Msg) (ssn:Nat):∀(f a:Nat),a<m.text.length→m.text.length-a≤f→cutL m ssn f a=cutL m ssn (m.text.length-a) a
 |0,a,h,h2=>by omega
 |f+1,a,h,h2=>by
  obtain ⟨k1,k2,k3⟩:=cut_le (most:=1000) h
  obtain ⟨g,hg⟩:∃g,m.text.length-a=g+1:=⟨m.text.length-a-1,by omega⟩
  rw [hg,cutL,cutL]
  congr 1
  split
  ·rename_i hlt
   rw [cutL_fuel m ssn f _ hlt (by omega),cutL_fuel m ssn g _ hlt (by omega)]
  ·rfl
theorem allP_app (m:Msg):∀(l:List Msg) (nx:List Nat),allP nx (l++[m])=allP nx l++[cutL m (num m (bumps nx l)) m.text.length 0]
 | [],nx=>rfl
 |x::l,nx=>by
  show cutL x (num x nx) x.text.length 0::allP (bump x nx) (l++[m])=_
  rw [allP_app m l (bump x nx)];rfl
theorem remP_step {m:Msg} {r:List Msg} {s:S2} (hl:s.l=m::r) (ha:s.a<m.text.length) (hr:∀x∈r,0<x.text.length):remP s=pieceOf m s.a s.next 1000::remP (after m r s.a s.next 1000):=by
 obtain ⟨k1,k2,k3⟩:=cut_le (most:=1000) ha
 unfold remP
 rw [hl]
 obtain ⟨g,hg⟩:∃g,m.text.length-s.a=g+1:=⟨m.text.length-s.a-1,by omega⟩
 dsimp only
 rw [hg,cutL,List.cons_append]
 congr 1
 unfold after
 split
 ·rename_i hlt
  dsimp only
  rw [cutL_fuel m (num m s.next) g _ hlt (by omega)]
 ·dsimp only
  rw [List.nil_append]
  cases r with
  |nil=>rfl
  |cons x r=>show (allP (bump m s.next) (x::r)).flatten=_;rw [allP,List.flatten_cons];rfl
structure BlockOk (m:Msg) (ssn:Nat) (b:List Pc):Prop where
 ne:b≠[]
 first:∀i (h:i<b.length),b[i].first=(i==0)
 last:∀i (h:i<b.length),b[i].last=(i+1==b.length)
 kin:∀p∈b,p.free=m.free∧p.stream=m.stream∧p.ssn=ssn∧p.ppid=m.ppid
 text:(b.map (·.text)).flatten=m.text
 txt:∀p∈b,1≤p.text.length∧p.text.length≤1000
theorem cutL_ok (m:Msg) (ssn:Nat):∀(f a:Nat),a<m.text.length→m.text.length-a≤f→cutL m ssn f a≠[]∧
  (∀i (h:i<(cutL m ssn f a).length),((cutL m ssn f a)[i].first=(decide (i=0)&&a==0)))∧(∀i (h:i<(cutL m ssn f a).length),(cutL m ssn f a)[i].last=(i+1==(cutL m ssn f a).length))∧
  (∀p∈cutL m ssn f a,p.free=m.free∧p.stream=m.stream∧p.ssn=ssn∧p.ppid=m.ppid)∧((cutL m ssn f a).map (·.text)).flatten=m.text.drop a∧∀p∈cutL m ssn f a,1≤p.text.length∧p.text.length≤1000
 |0,a,h,h2=>by omega
 |f+1,a,h,h2=>by
  obtain ⟨k1,k2,k3⟩:=cut_le (most:=1000) h
  have htx:(pcAt m ssn a).text.length=cut m a 1000:=by show ((m.text.drop a).take _).length=_;rw [List.length_take,List.length_drop];omega
  have ht1:1≤(pcAt m ssn a).text.length∧(pcAt m ssn a).text.length≤1000:=by omega
  rw [cutL]
  by_cases hlt:a+cut m a 1000<m.text.length
  ·rw [if_pos hlt]
   obtain ⟨i1,i2,i3,i4,i5,i6⟩:=cutL_ok m ssn f _ hlt (by omega)
   have hlen:0<(cutL m ssn f (a+cut m a 1000)).length:=List.length_pos_iff.2 i1
   refine ⟨List.cons_ne_nil _ _,fun i hi=>?_,fun i hi=>?_,fun p hp=>?_,?_,fun p hp=>?_⟩
   ·cases i with
    |zero=>simp [pcAt]
    |succ i=>rw [List.getElem_cons_succ,i2 i (by simpa using hi)];simp;omega
   ·cases i with
    |zero=>
     rw [List.getElem_cons_zero,List.length_cons]
     show decide _=_
     rw [decide_eq_false (by omega)]
     symm
     rw [beq_eq_false_iff_ne];omega
    |succ i=>rw [List.getElem_cons_succ,i3 i (by simpa using hi),List.length_cons];simp
   ·rcases List.mem_cons.1 hp with rfl|hp
    ·exact ⟨rfl,rfl,rfl,rfl⟩
    ·exact i4 p hp
   ·rw [List.map_cons,List.flatten_cons,i5]
    show (m.text.drop a).take _++_=_
    rw [←List.drop_drop,List.take_append_drop]
   ·rcases List.mem_cons.1 hp with rfl|hp
    ·exact ht1
    ·exact i6 p hp
  ·rw [if_neg hlt]
   refine ⟨List.cons_ne_nil _ _,fun i hi=>?_,fun i hi=>?_,fun p hp=>?_,?_,fun p hp=>?_⟩
   ·obtain rfl:i=0:=by simpa using hi
    simp [pcAt]
   ·obtain rfl:i=0:=by simpa using hi
    show decide _=_
    rw [decide_eq_true (by omega)];rfl
   ·obtain rfl:=List.mem_singleton.1 hp
    exact ⟨rfl,rfl,rfl,rfl⟩
   ·show ((m.text.drop a).take _++[])=_
    rw [List.append_nil,List.take_of_length_le (by rw [List.length_drop];omega)]
   ·obtain rfl:=List.mem_singleton.1 hp
    exact ht1
theorem cutL_block (m:Msg) (ssn:Nat) (h:0<m.text.length):BlockOk m ssn (cutL m ssn m.text.length 0):=by
 obtain ⟨i1,i2,i3,i4,i5,i6⟩:=cutL_ok m ssn m.text.length 0 h (by omega)
 exact ⟨i1,fun i hi=>by rw [i2 i hi];simp;cases i<;>rfl,i3,i4,i5,i6⟩
def nth (l:List Msg) (m:Msg):Nat:=if m.free then 0 else (l.filter fun x=>!x.free&&x.stream==m.stream).length
theorem bumps_get:∀(l:List Msg) (nx:List Nat) (s:Nat),s<nx.length→(∀x∈l,x.stream<nx.length)→nx.getD s 0+l.length<65536→(bumps nx l).getD s 0=nx.getD s 0+(l.filter fun x=>!x.free&&x.stream==s).length∧(bumps nx l).length=nx.length
 | [],nx,s,_,_,_=>⟨rfl,rfl⟩
 |x::l,nx,s,hs,hx,hb=>by
  have hbl:=bump_length x nx
  have hxs:=hx x List.mem_cons_self
  have hg:(bump x nx).getD s 0=nx.getD s 0+(if !x.free&&x.stream==s then 1 else 0):=by
   unfold bump
   cases x.free with
   |true=>simp
   |false=>
    rw [if_neg (by simp)]
    by_cases e:x.stream=s
    ·subst e
     rw [List.getD_eq_getElem?_getD,List.getElem?_set_self hs]
     simp at hb ⊢;omega
    ·rw [List.getD_eq_getElem?_getD,List.getElem?_set_ne e]
     simp [e]
  have hlc:(x::l).length=l.length+1:=rfl
  obtain ⟨i1,i2⟩:=bumps_get l (bump x nx) s (by omega) (fun y hy=>by rw [hbl];exact hx y (List.mem_cons_of_mem _ hy)) (by rw [hg];split<;>omega)
  refine ⟨?_,by rw [←hbl];exact i2⟩
  show (bumps (bump x nx) l).getD s 0=_
  rw [i1,hg,List.filter_cons]
  split
  ·rw [List.length_cons];omega
  ·omega
theorem num_nth (N:Nat) (l:List Msg) (m:Msg) (hm:m.stream<N) (hl:∀x∈l,x.stream<N) (hn:l.length<65536):num m (bumps (List.replicate N 0) l)=nth l m:=by
 unfold num nth
 split
 ·rfl
 ·have hz:(List.replicate N 0).getD m.stream 0=0:=by rw [List.getD_eq_getElem?_getD,List.getElem?_eq_getElem (by simpa using hm)];simp
  rw [(bumps_get l (List.replicate N 0) m.stream (by simpa using hm) (fun x hx=>by simpa using hl x hx) (by rw [hz];omega)).1,hz];simp
theorem allP_len:∀(l:List Msg) (nx:List Nat),(allP nx l).length=l.length
 | [],_=>rfl
 |x::l,nx=>by rw [allP,List.length_cons,List.length_cons,allP_len l]
theorem allP_get:∀(l:List Msg) (nx:List Nat) (j:Nat) (h:j<l.length),(allP nx l)[j]? = some (cutL l[j] (num l[j] (bumps nx (l.take j))) l[j].text.length 0)
 |x::l,nx,0,_=>rfl
 |x::l,nx,j+1,h=>by
  rw [allP,List.getElem?_cons_succ,allP_get l (bump x nx) j (by simpa using h)];rfl
def rows (N:Nat) (l:List Msg):List (List Pc):=allP (List.replicate N 0) l
structure MsOk (N:Nat) (l:List Msg):Prop where
 st:∀m∈l,m.stream<N
 tx:∀m∈l,0<m.text.length
 few:l.length<65536
theorem rows_get {N:Nat} {l:List Msg} (h:MsOk N l) (j:Nat) (hj:j<l.length):∃b,(rows N l)[j]? = some b∧BlockOk l[j] (nth (l.take j) l[j]) b:=by
 refine ⟨_,allP_get l _ j hj,?_⟩
 rw [num_nth N (l.take j) l[j] (h.st _ (List.getElem_mem hj)) (fun x hx=>h.st x (List.mem_of_mem_take hx)) (by rw [List.length_take];have:=h.few;omega)]
 exact cutL_block _ _ (h.tx _ (List.getElem_mem hj))
def locB {α:Type}:List (List α)→Nat→Nat×Nat
 | [],k=>(0,k)
 |b::r,k=>if k<b.length then (0,k) else ((locB r (k-b.length)).1+1,(locB r (k-b.length)).2)
def startB {α:Type} (bl:List (List α)) (j:Nat):Nat:=((bl.take j).map (·.length)).sum
theorem startB_cons {α:Type} (b:List α) (r:List (List α)) (j:Nat):startB (b::r) (j+1)=b.length+startB r j:=by unfold startB;simp
theorem locB_ok {α:Type}:∀(bl:List (List α)) (k:Nat),k<bl.flatten.length→∃b,bl[(locB bl k).1]? = some b∧(locB bl k).2<b.length∧k=startB bl (locB bl k).1+(locB bl k).2∧bl.flatten[k]? = b[(locB bl k).2]?
 | [],k,h=>by simp at h
 |b::r,k,h=>by
  rw [locB]
  split
  ·rename_i hk
   exact ⟨b,rfl,hk,by simp [startB],by rw [List.flatten_cons,List.getElem?_append_left hk]⟩
  ·rename_i hk
   obtain ⟨c,h1,h2,h3,h4⟩:=locB_ok r (k-b.length) (by rw [List.flatten_cons,List.length_append] at h;omega)
   refine ⟨c,by simpa using h1,h2,by dsimp only;rw [startB_cons];omega,?_⟩
   rw [List.flatten_cons,List.getElem?_append_right (by omega),h4]
theorem locB_at {α:Type}:∀(bl:List (List α)) (j i:Nat) (b:List α),bl[j]? = some b→i<b.length→locB bl (startB bl j+i)=(j,i)
 | [],j,i,b,h,_=>by simp at h
 |c::r,0,i,b,h,hi=>by
  obtain rfl:c=b:=by simpa using h
  rw [locB,show startB (c::r) 0=0 from rfl,Nat.zero_add,if_pos hi]
 |c::r,j+1,i,b,h,hi=>by
  rw [startB_cons,locB,if_neg (by omega),show c.length+startB r j+i-c.length=startB r j+i from by omega,locB_at r j i b (by simpa using h) hi]
theorem startB_le {α:Type}:∀(bl:List (List α)) (j:Nat) (b:List α),bl[j]? = some b→startB bl j+b.length≤bl.flatten.length
 | [],j,b,h=>by simp at h
 |c::r,0,b,h=>by
  obtain rfl:c=b:=by simpa using h
  rw [List.flatten_cons,List.length_append,show startB (c::r) 0=0 from rfl];omega
 |c::r,j+1,b,h=>by
  have:=startB_le r j b (by simpa using h)
  rw [startB_cons,List.flatten_cons,List.length_append];omega
end Towline.Store
namespace Towline.Ac
open Towline.Hand Towline.Chunk Towline.Store
set_option linter.unusedVariables false
theorem and2 {a b:Bool} (h:(a&&b)=true):a=true∧b=true:=by cases a<;>cases b<;>first|exact ⟨rfl,rfl⟩|cases h
theorem nodup_filter {α:Type} (p:α→Bool) {l:List α} (h:l.Nodup):(l.filter p).Nodup:=List.Pairwise.filter p h
def fpP (n:Int) (p:Pc):Fp:=⟨n,p.first,p.last,p.free,p.stream,p.ssn,p.ppid,p.text⟩
section
variable (base : Int) (ms : List Msg)
def nR:Nat:=(rows 4 ms).flatten.length
def mi (k:Nat):Nat:=(locB (rows 4 ms) k).1
def bk (j:Nat):List Pc:=(rows 4 ms).getD j []
def st (j:Nat):Nat:=startB (rows 4 ms) j
def msg (j:Nat):Msg:=ms.getD j default
def nthM (j:Nat):Nat:=nth (ms.take j) (msg ms j)
def Qf (k:Nat):Fp:=match (rows 4 ms).flatten[k]? with|some p=>fpP (w32 (base+k)) p|none=>default
def fmOf (j:Nat):Fm:=⟨w32 (base+st ms j),(msg ms j).free,(msg ms j).stream,nthM ms j,(msg ms j).ppid,(msg ms j).text⟩
def isS (s j:Nat):Bool:=!(msg ms j).free&&(msg ms j).stream==s
def Ss (s:Nat):List Nat:=(List.range ms.length).filter (isS ms s)
end
theorem at_mi {base:Int} {ms:List Msg} (H:MsOk 4 ms) {k:Nat} (hk:k<nR ms):mi ms k<ms.length∧st ms (mi ms k)≤k∧k<st ms (mi ms k)+(bk ms (mi ms k)).length∧∀hi,Qf base ms k=fpP (w32 (base+k)) ((bk ms (mi ms k))[k-st ms (mi ms k)]'hi):=by
 obtain ⟨b,h1,h2,h3,h4⟩:=locB_ok (rows 4 ms) k hk
 have hb:bk ms (mi ms k)=b:=by unfold bk mi;rw [List.getD_eq_getElem?_getD,h1];rfl
 have hst:st ms (mi ms k)=startB (rows 4 ms) (locB (rows 4 ms) k).1:=rfl
 have hl:mi ms k<ms.length:=by
  have:=(List.getElem?_eq_some_iff.1 h1).1
  unfold rows at this
  rwa [allP_len] at this
 refine ⟨hl,by omega,by rw [hb];omega,fun hi=>?_⟩
 unfold Qf
 have e:(locB (rows 4 ms) k).2=k-st ms (mi ms k):=by omega
 rw [h4,e]
 subst hb
 rw [List.getElem?_eq_getElem hi]
section
variable {base : Int} {ms : List Msg} (H : MsOk 4 ms)
include H
theorem bk_ok {j:Nat} (hj:j<ms.length):(rows 4 ms)[j]? = some (bk ms j)∧BlockOk (msg ms j) (nthM ms j) (bk ms j):=by
 obtain ⟨b,h1,h2⟩:=rows_get H j hj
 have hm:msg ms j=ms[j]:=by unfold msg;rw [List.getD_eq_getElem?_getD,List.getElem?_eq_getElem hj];rfl
 have hb:bk ms j=b:=by unfold bk;rw [List.getD_eq_getElem?_getD,h1];rfl
 unfold nthM
 rw [hb,hm]
 exact ⟨h1,h2⟩
theorem mi_at {j i:Nat} (hj:j<ms.length) (hi:i<(bk ms j).length):mi ms (st ms j+i)=j∧st ms j+i<nR ms:=by
 obtain ⟨h1,_⟩:=bk_ok H hj
 have h2:=startB_le (rows 4 ms) j _ h1
 refine ⟨?_,?_⟩
 ·show (locB (rows 4 ms) (startB (rows 4 ms) j+i)).1=j
  rw [locB_at (rows 4 ms) j i _ h1 hi]
 ·show startB (rows 4 ms) j+i<(rows 4 ms).flatten.length
  omega
theorem bk_pos {j:Nat} (hj:j<ms.length):0<(bk ms j).length:=List.length_pos_iff.2 (bk_ok H hj).2.ne
theorem Q_at {j i:Nat} (hj:j<ms.length) (hi:i<(bk ms j).length):Qf base ms (st ms j+i)=fpP (w32 (base+(st ms j+i:Nat))) (bk ms j)[i]:=by
 obtain ⟨h1,h2⟩:=mi_at H hj hi
 obtain ⟨_,_,_,h3⟩:=at_mi H (base:=base) h2
 rw [h1] at h3
 have e:st ms j+i-st ms j=i:=by omega
 have:=h3 (by rw [e];exact hi)
 rw [this]
 congr 1
 simp only [e]
theorem msgs_rows (hn:nR ms≤2147483648):Msgs base (Qf base ms) (nR ms) (fun k=>st ms (mi ms k)) (fun k=>st ms (mi ms k)+(bk ms (mi ms k)).length) where
 num:=fun k hk=>by
  obtain ⟨h1,h2,h3,h4⟩:=at_mi H (base:=base) hk
  rw [h4 (by omega)];rfl
 few:=hn
 le:=fun k hk=>by
  obtain ⟨h1,h2,h3,h4⟩:=at_mi H (base:=base) hk
  exact ⟨h2,h3⟩
 same:=fun k hk j h5 h6 h7=>by
  obtain ⟨h1,h2,h3,h4⟩:=at_mi H (base:=base) hk
  obtain ⟨i,hi⟩:∃i,j=st ms (mi ms k)+i:=⟨j-st ms (mi ms k),by omega⟩
  have hil:i<(bk ms (mi ms k)).length:=by omega
  have e:mi ms j=mi ms k:=by rw [hi];exact (mi_at H h1 hil).1
  refine ⟨by rw [e],by rw [e],?_⟩
  have hb:=(bk_ok H h1).2.kin
  rw [h4 (by omega),hi,Q_at H h1 hil]
  obtain ⟨a1,a2,a3,a4⟩:=hb _ (List.getElem_mem hil)
  obtain ⟨b1,b2,b3,b4⟩:=hb _ (List.getElem_mem (show k-st ms (mi ms k)<(bk ms (mi ms k)).length from by omega))
  unfold kin fpP
  dsimp only
  rw [a1,a2,a3,b1,b2,b3];simp
 b:=fun k hk=>by
  obtain ⟨h1,h2,h3,h4⟩:=at_mi H (base:=base) hk
  rw [h4 (by omega)]
  show ((bk ms (mi ms k))[k-st ms (mi ms k)]'_).first=true↔_
  rw [(bk_ok H h1).2.first];simp;omega
 e:=fun k hk=>by
  obtain ⟨h1,h2,h3,h4⟩:=at_mi H (base:=base) hk
  rw [h4 (by omega)]
  show ((bk ms (mi ms k))[k-st ms (mi ms k)]'_).last=true↔_
  rw [(bk_ok H h1).2.last];simp;omega
end
theorem mem_Ss {ms:List Msg} {s j:Nat}:j∈Ss ms s↔j<ms.length∧isS ms s j=true:=by unfold Ss;simp
theorem nthM_eq {ms:List Msg} {s j:Nat} (h:isS ms s j=true) (hj:j<ms.length):nthM ms j=((List.range j).filter (isS ms s)).length:=by
 unfold isS at h
 have h:=and2 h
 have hf:(msg ms j).free=false:=by simpa using h.1
 have hs:(msg ms j).stream=s:=by simpa using h.2
 unfold nthM nth
 rw [hf,if_neg (by simp),hs]
 have e:ms.take j=(List.range j).map (msg ms):=by
  apply List.ext_getElem
  ·simp;omega
  ·intro i h1 h2
   simp only [List.getElem_take,List.getElem_map,List.getElem_range]
   unfold msg
   rw [List.getD_eq_getElem?_getD,List.getElem?_eq_getElem (by simp at h1;omega)];rfl
 rw [e,List.filter_map,List.length_map]
 rfl
theorem Ss_get {ms:List Msg} {s j:Nat} (h:isS ms s j=true) (hj:j<ms.length):(Ss ms s)[nthM ms j]? = some j:=by
 rw [nthM_eq h hj]
 unfold Ss
 have e:List.range ms.length=List.range j++j::(List.range' (j+1) (ms.length-(j+1))):=by
  rw [List.range_eq_range',List.range_eq_range',show j::List.range' (j+1) (ms.length-(j+1))=List.range' j (ms.length-j) from by rw [show ms.length-j=(ms.length-(j+1))+1 from by omega];rfl]
  have:=List.range'_append_1 (s:=0) (m:=j) (n:=ms.length-j)
  rw [Nat.zero_add] at this
  rw [this];congr 1;omega
 rw [e,List.filter_append,List.filter_cons,if_pos h,List.getElem?_append_right (Nat.le_refl _),Nat.sub_self];rfl
theorem Ss_nodup (ms:List Msg) (s:Nat):(Ss ms s).Nodup:=nodup_filter _ List.nodup_range
theorem Ss_nth {ms:List Msg} {s r j:Nat} (h:(Ss ms s)[r]? = some j):j<ms.length∧isS ms s j=true∧nthM ms j=r:=by
 have hm:=mem_Ss.1 (List.mem_of_getElem? h)
 refine ⟨hm.1,hm.2,?_⟩
 have h2:=Ss_get hm.2 hm.1
 obtain ⟨l1,e1⟩:=List.getElem?_eq_some_iff.1 h
 obtain ⟨l2,e2⟩:=List.getElem?_eq_some_iff.1 h2
 exact (List.getElem_inj (Ss_nodup ms s)).1 (e2.trans e1.symm)
theorem Ss_len (ms:List Msg) (s:Nat):(Ss ms s).length≤ms.length:=by
 have:=List.length_filter_le (isS ms s) (List.range ms.length)
 unfold Ss;simpa using this
theorem fm_match {base:Int} {ms:List Msg} {s r j:Nat} (hj:j<ms.length) (hn:(msg ms j).free=false):((fmOf base ms j).stream==(s:Int)&&(fmOf base ms j).ssn==(r:Int))=true↔(Ss ms s)[r]? = some j:=by
 show ((((msg ms j).stream:Int)==(s:Int))&&((nthM ms j:Int)==(r:Int)))=true↔_
 constructor
 ·intro h
  have h:=and2 h
  have h1:(msg ms j).stream=s:=by have:=eq_of_beq h.1;omega
  have h2:nthM ms j=r:=by have:=eq_of_beq h.2;omega
  rw [←h2]
  exact Ss_get (by unfold isS;rw [hn,h1];simp) hj
 ·intro h
  obtain ⟨_,h2,h3⟩:=Ss_nth h
  unfold isS at h2
  have h2:=and2 h2
  rw [h3,show (msg ms j).stream=s from by simpa using h2.2];simp
theorem map_erase {α β:Type} (f:α→β):∀(l:List α) (i:Nat),(l.map f).eraseIdx i=(l.eraseIdx i).map f
 | [],_=>rfl
 |x::l,0=>rfl
 |x::l,i+1=>by show f x::(l.map f).eraseIdx i=_;rw [map_erase f l i];rfl
theorem erase_perm {α:Type}:∀(l:List α) (i:Nat) (h:i<l.length),(l[i]::l.eraseIdx i).Perm l
 |x::l,0,_=>List.Perm.refl _
 |x::l,i+1,h=>by
  have hi:i<l.length:=by simpa using h
  have ih:=erase_perm l i hi
  show (l[i]::x::l.eraseIdx i).Perm (x::l)
  exact (List.Perm.swap x l[i] _).trans (List.Perm.cons x ih)
theorem idx_pos {α:Type} [Inhabited α] (t:α→Bool) (l:List α):(idx t l = -1∧∀x∈l,t x=false)∨∃i:Nat,idx t l=i∧∃h:i<l.length,t l[i]=true:=by
 unfold idx
 cases h:l.findIdx? t with
 |none=>exact .inl ⟨rfl,fun x hx=>by simpa using List.findIdx?_eq_none_iff.1 h x hx⟩
 |some i=>
  obtain ⟨h1,h2,_⟩:=List.findIdx?_eq_some_iff_getElem.1 h
  exact .inr ⟨i,rfl,h1,h2⟩
theorem told_law (base:Int) (ms:List Msg) (s:Nat) (hs:s<4) (hfew:ms.length<65535):∀(f:Nat) (wl:List Nat) (nx:List Int) (acc:List Fm) (r:Nat),wl.length≤f→wl.Nodup→(∀j∈wl,j<ms.length∧(msg ms j).free=false)→nx.length=4→nx.getD s default=r→r≤(Ss ms s).length→
  ∃dl wl',toldQ s f nx (wl.map (fmOf base ms)) acc=(⟨nx.set s ((r+dl.length:Nat):Int),wl'.map (fmOf base ms)⟩,acc++dl.map (fmOf base ms))∧dl=((Ss ms s).drop r).take dl.length∧(dl++wl').Perm wl∧(∀j,(Ss ms s)[r+dl.length]? = some j→j∉wl')
 |0,wl,nx,acc,r,h,_,_,hnx,hr,_=>by
  obtain rfl:=List.eq_nil_of_length_eq_zero (Nat.le_zero.1 h)
  refine ⟨[],[],?_,rfl,List.Perm.refl _,fun j _ hm=>by cases hm⟩
  have:nx.set s ((r+([]:List Nat).length:Nat):Int)=nx:=by
   rw [List.length_nil,Nat.add_zero,←hr];exact set_self (by omega)
  rw [this];simp [toldQ]
 |f+1,wl,nx,acc,r,hf,hnd,hwl,hnx,hr,hrl=>by
  rw [toldQ,hr]
  rcases idx_pos (fun m:Fm=>m.stream==(s:Int)&&m.ssn==(r:Int)) (wl.map (fmOf base ms)) with ⟨h1,h2⟩|⟨i,h1,h2,h3⟩
  ·rw [h1,if_pos (by decide)]
   refine ⟨[],wl,?_,rfl,List.Perm.refl _,fun j hj hm=>?_⟩
   ·have:nx.set s ((r+([]:List Nat).length:Nat):Int)=nx:=by
     rw [List.length_nil,Nat.add_zero,←hr];exact set_self (by omega)
    rw [this];simp
   ·have:=h2 _ (List.mem_map.2 ⟨j,hm,rfl⟩)
    have hj':(Ss ms s)[r]? = some j:=hj
    rw [(fm_match (hwl j hm).1 (hwl j hm).2).2 hj'] at this
    cases this
  ·have hi:i<wl.length:=by simpa using h2
   rw [h1,if_neg (by omega),tnC]
   have hS:(Ss ms s)[r]? = some wl[i]:=by
    rw [List.getElem_map] at h3
    exact (fm_match (hwl _ (List.getElem_mem hi)).1 (hwl _ (List.getElem_mem hi)).2).1 h3
   have hrlt:r<(Ss ms s).length:=(List.getElem?_eq_some_iff.1 hS).1
   have hSl:=Ss_len ms s
   have hmod:((r:Int)+1) % 65536=((r+1:Nat):Int):=by omega
   rw [hmod,show (wl.map (fmOf base ms)).eraseIdx i=(wl.eraseIdx i).map (fmOf base ms) from map_erase _ _ _]
   have hge:(wl.map (fmOf base ms)).getD i default=fmOf base ms wl[i]:=by
    rw [List.getD_eq_getElem?_getD,List.getElem?_eq_getElem h2,List.getElem_map];rfl
   rw [hge]
   have hper:(wl[i]::wl.eraseIdx i).Perm wl:=erase_perm wl i hi
   obtain ⟨dl,wl',e1,e2,e3,e4⟩:=told_law base ms s hs hfew f (wl.eraseIdx i) (nx.set s ((r+1:Nat):Int)) (acc++[fmOf base ms wl[i]]) (r+1)
    (by rw [List.length_eraseIdx,if_pos hi];omega) (hnd.sublist (List.eraseIdx_sublist wl i)) (fun j hj=>hwl j (List.mem_of_mem_eraseIdx hj)) (by simpa using hnx)
    (by rw [List.getD_eq_getElem?_getD,List.getElem?_set_self (by omega)];rfl) (by omega)
   refine ⟨wl[i]::dl,wl',?_,?_,?_,?_⟩
   ·rw [e1,List.set_set,List.length_cons,show r+1+dl.length=r+(dl.length+1) from by omega]
    simp
   ·have hd:(Ss ms s).drop r=wl[i]::(Ss ms s).drop (r+1):=by
     rw [List.drop_eq_getElem_cons hrlt]
     congr 1
     have:=(List.getElem?_eq_some_iff.1 hS).2
     exact this
    rw [hd,List.length_cons,List.take_succ_cons,←e2]
   ·rw [List.cons_append]
    exact (List.Perm.cons _ e3).trans hper
   ·intro j hj
    rw [List.length_cons,show r+(dl.length+1)=r+1+dl.length from by omega] at hj
    exact e4 j hj
end Towline.Ac
