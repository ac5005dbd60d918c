/- AssocStreams: the engine, contracts and plain laws that its proof leans on, part 08. -/
import Derived.Test.YtbkcekmahdbgdaaGreatSq07
import Derived.Test.YtbkcekmahdbgdaaGreatSq06
namespace Towline.Chunk
open Towline.Tlv
def sealB (v:List UInt8):List UInt8:=(v.set 2 (u8 ((v.length:Int).fdiv 256))).set 3 (u8 v.length)
end Towline.Chunk
namespace Go.Proofs.YtbkcekmahdbgdaaGreat
open Go Go.RowKit Towline Towline.Tlv Towline.Chunk
set_option linter.unusedVariables false
set_option linter.unusedSimpArgs false
set_option maxRecDepth 20000
set_option maxHeartbeats 4000000
theorem lheap1 {P:Program} {f:FuncId} {args:List AVal} {i:Nat} {o o':AObj} {post:AVal→Heap→Prop} (h:LSpec P f args [(i,o)] post) (ho:OLe o' o):LSpec P f args [(i,o')] post:=by
 have e1:∀(o:AObj) id x,lookO id [(i,o)]=some x→id=i∧x=o:=fun o id x hx=>by
  simp only [lookO] at hx
  split at hx
  ·rename_i hb
   exact ⟨(Nat.eq_of_beq_eq_true hb).symm,by cases hx;rfl⟩
  ·cases hx
 have e2:∀o:AObj,lookO i [(i,o)]=some o:=fun o=>by simp [lookO]
 have e:∀L,owned L (lko [(i,o')])=owned L (lko [(i,o)]):=fun L=>funext fun b=>propext
  ⟨fun ⟨id,x,k1,k2⟩=>by obtain ⟨rfl,rfl⟩:=e1 _ _ _ k1;exact ⟨id,o,e2 o,k2⟩,fun ⟨id,x,k1,k2⟩=>by obtain ⟨rfl,rfl⟩:=e1 _ _ _ k1;exact ⟨id,o',e2 o',k2⟩⟩
 refine ⟨h.1,fun w R L vs k0 k1 k2 k3 k4 k5 k6 k7=>?_⟩
 refine (h.2 w R L vs k0 k1 k2 (fun b=>by rw [k3 b,e]) k4 (fun id x hx=>?_) (fun a b oa ob bb ha hb=>?_) (fun id x b hx=>?_)).mono ?_
 ·obtain ⟨rfl,rfl⟩:=e1 _ _ _ hx
  exact (k5 _ _ (e2 o')).weaken ho
 ·obtain ⟨rfl,rfl⟩:=e1 _ _ _ ha
  obtain ⟨rfl,rfl⟩:=e1 _ _ _ hb
  exact fun _ _=>rfl
 ·obtain ⟨rfl,rfl⟩:=e1 _ _ _ hx
  exact k7 _ _ b (e2 o')
 ·rintro e' w' ⟨v,r,hl',L',m1,m2,m3,m4⟩
  refine ⟨v,r,hl',L',m1,m2,⟨?_,?_,m3.inj,?_,?_⟩,?_⟩
  ·rw [e];exact m3.below
  ·have:=m3.obj
   unfold lgood at this ⊢
   rw [e];exact this
  ·have:=m3.own
   rw [e];exact this
  ·intro id x x' hx hx'
   obtain ⟨rfl,rfl⟩:=e1 _ _ _ hx
   exact m3.kept _ _ _ (e2 o) hx'
  ·unfold lgood at m4 ⊢
   rw [e];exact m4
def headB (c:Ch):List UInt8:=[u8 c.ty,u8 c.flags,0,0]
theorem headB_row (c:Ch):∀k,k<4→([D.i .u8 (IntKind.u8.wrap c.ty)]::[D.i .u8 (IntKind.u8.wrap c.flags)]::[D.i .u8 0]::[D.i .u8 0]::replF 0 ty5.zero).getD k []=bytesF (headB c) k:=by
 intro j hj
 match j,hj with
 |0,_=>show [D.i .u8 (IntKind.u8.wrap c.ty)]=[D.i .u8 ((u8 c.ty).toNat:Nat)];rw [u8_wrap]
 |1,_=>show [D.i .u8 (IntKind.u8.wrap c.flags)]=[D.i .u8 ((u8 c.flags).toNat:Nat)];rw [u8_wrap]
 |2,_=>rfl
 |3,_=>rfl
theorem bytes_set (v:List UInt8) (i:Nat) (x:UInt8) (hi:i<v.length) (k:Nat):fupd (bytesF v) i [.i .u8 (x.toNat:Nat)] k=bytesF (v.set i x) k:=by
 unfold fupd bytesF
 by_cases h:k=i
 ·subst h
  rw [if_pos rfl,List.getD_eq_getElem?_getD,List.getElem?_set_self hi]
  rfl
 ·rw [if_neg h,List.getD_eq_getElem?_getD,List.getD_eq_getElem?_getD,List.getElem?_set_ne (fun e=>h e.symm)]
theorem fupd_congr {f g:Nat→List D} (h:∀k,f k=g k) (i:Nat) (r:List D) (k:Nat):fupd f i r k=fupd g i r k:=by
 unfold fupd
 split
 ·rfl
 ·exact h k
theorem seal_row (v:List UInt8) (h:4≤v.length) (k:Nat):fupd (fupd (bytesF v) 2 [D.i .u8 (IntKind.u8.wrap ((v.length:Int).fdiv 256))]) 3 [D.i .u8 (IntKind.u8.wrap v.length)] k=bytesF (sealB v) k:=by
 rw [←u8_wrap,←u8_wrap]
 rw [fupd_congr (fun k=>bytes_set v 2 _ (by omega) k)]
 exact bytes_set _ 3 _ (by simp;omega) k
theorem noughts (n k:Nat):bytesF (List.replicate n 0) k=[D.i .u8 0]:=by
 unfold bytesF
 rw [List.getD_eq_getElem?_getD,List.getElem?_replicate]
 split<;>rfl
def goodC (c:Ch):Bool:=((buildL c.items).2==0)&&fitsB c&&decide (c=onlyC c)
def encC (c:Ch):List UInt8:=sealB (valB (headB c) c)++List.replicate (padN (valB (headB c) c).length) 0
theorem encC_len (c:Ch):(encC c).length=(valB (headB c) c).length+padN (valB (headB c) c).length:=by
 simp [encC,sealB]
theorem encC_row (c:Ch) (h:4≤(valB (headB c) c).length) (k:Nat) (hk:k<(valB (headB c) c).length+padN (valB (headB c) c).length):fcat (fupd (fupd (bytesF (valB (headB c) c)) 2 [D.i .u8 (IntKind.u8.wrap (((valB (headB c) c).length:Int).fdiv 256))]) 3 [D.i .u8 (IntKind.u8.wrap (valB (headB c) c).length)]) (valB (headB c) c).length (fun _=>[D.i .u8 0]) k=bytesF (encC c) k:=by
 have e:(valB (headB c) c).length=(sealB (valB (headB c) c)).length:=by simp [sealB]
 rw [fcat_congr (fun k _=>seal_row _ h k) (fun j _=>(noughts (padN (valB (headB c) c).length) j).symm) k hk,encC]
 have:=fcat_bytes (sealB (valB (headB c) c)) (List.replicate (padN (valB (headB c) c).length) 0) k (by rw [←e,List.length_replicate];exact hk)
 rw [←e] at this
 exact this
def buildC (c:Ch):List UInt8×Int:=if goodC c=true then (if 1400<(encC c).length then ([],4) else (encC c,0)) else ([],1)
structure ChOk (c:Ch):Prop where
 gaps:c.gaps.length≤2 ^ 40
 dups:c.dups.length≤2 ^ 40
 items:c.items.length≤2 ^ 20
 gap:GapsOk c.gaps
theorem good_sizes (c:Ch) (g2:fitsB c=true) (g3:c=onlyC c):c.gaps.length≤100∧c.dups.length≤100∧c.text.length≤1000:=by
 have eg:=congrArg Ch.gaps g3
 have ed:=congrArg Ch.dups g3
 have et:=congrArg Ch.text g3
 by_cases h0:c.ty=0
 ·rw [only_0 h0] at eg ed et
  simp [fitsB,textB,risesB,h0] at g2
  simp at eg ed et
  refine ⟨?_,?_,?_⟩<;>first|(rw [eg];simp;done)|(rw [ed];simp;done)|(rw [et];simp;done)|omega
 by_cases h1:c.ty=1
 ·rw [only_1 h1] at eg ed et
  simp [fitsB,textB,risesB,h1] at g2
  simp at eg ed et
  refine ⟨?_,?_,?_⟩<;>first|(rw [eg];simp;done)|(rw [ed];simp;done)|(rw [et];simp;done)|omega
 by_cases h2:c.ty=2
 ·rw [only_2 h2] at eg ed et
  simp [fitsB,textB,risesB,h2] at g2
  simp at eg ed et
  refine ⟨?_,?_,?_⟩<;>first|(rw [eg];simp;done)|(rw [ed];simp;done)|(rw [et];simp;done)|omega
 by_cases h3:c.ty=3
 ·rw [only_3 h3] at eg ed et
  simp [fitsB,textB,risesB,h3] at g2
  simp at eg ed et
  refine ⟨?_,?_,?_⟩<;>first|(rw [eg];simp;done)|(rw [ed];simp;done)|(rw [et];simp;done)|omega
 by_cases h4:c.ty=4
 ·rw [only_4 h4] at eg ed et
  simp [fitsB,textB,risesB,h4] at g2
  simp at eg ed et
  refine ⟨?_,?_,?_⟩<;>first|(rw [eg];simp;done)|(rw [ed];simp;done)|(rw [et];simp;done)|omega
 by_cases h5:c.ty=5
 ·rw [only_5 h5] at eg ed et
  simp [fitsB,textB,risesB,h5] at g2
  simp at eg ed et
  refine ⟨?_,?_,?_⟩<;>first|(rw [eg];simp;done)|(rw [ed];simp;done)|(rw [et];simp;done)|omega
 by_cases h9:c.ty=9
 ·rw [only_9 h9] at eg ed et
  simp [fitsB,textB,risesB,h9] at g2
  simp at eg ed et
  refine ⟨?_,?_,?_⟩<;>first|(rw [eg];simp;done)|(rw [ed];simp;done)|(rw [et];simp;done)|omega
 by_cases h6:c.ty=6
 ·rw [only_6 h6] at eg ed et
  simp [fitsB,textB,risesB,h6] at g2
  simp at eg ed et
  refine ⟨?_,?_,?_⟩<;>first|(rw [eg];simp;done)|(rw [ed];simp;done)|(rw [et];simp;done)|omega
 by_cases h7:c.ty=7
 ·rw [only_7 h7] at eg ed et
  simp [fitsB,textB,risesB,h7] at g2
  simp at eg ed et
  refine ⟨?_,?_,?_⟩<;>first|(rw [eg];simp;done)|(rw [ed];simp;done)|(rw [et];simp;done)|omega
 by_cases h8:c.ty=8
 ·rw [only_8 h8] at eg ed et
  simp [fitsB,textB,risesB,h8] at g2
  simp at eg ed et
  refine ⟨?_,?_,?_⟩<;>first|(rw [eg];simp;done)|(rw [ed];simp;done)|(rw [et];simp;done)|omega
 by_cases h11:c.ty=11
 ·rw [only_11 h11] at eg ed et
  simp [fitsB,textB,risesB,h11] at g2
  simp at eg ed et
  refine ⟨?_,?_,?_⟩<;>first|(rw [eg];simp;done)|(rw [ed];simp;done)|(rw [et];simp;done)|omega
 by_cases h10:c.ty=10
 ·rw [only_10 h10] at eg ed et
  simp [fitsB,textB,risesB,h10] at g2
  simp at eg ed et
  refine ⟨?_,?_,?_⟩<;>first|(rw [eg];simp;done)|(rw [ed];simp;done)|(rw [et];simp;done)|omega
 by_cases h14:c.ty=14
 ·rw [only_14 h14] at eg ed et
  simp [fitsB,textB,risesB,h14] at g2
  simp at eg ed et
  refine ⟨?_,?_,?_⟩<;>first|(rw [eg];simp;done)|(rw [ed];simp;done)|(rw [et];simp;done)|omega
 rw [only_other h0 h1 h2 h3 h4 h5 h9 h6 h7 h8 h11 h10 h14] at eg ed et
 simp [fitsB,textB,h0,h1,h2,h3,h4,h5,h9,h6,h7,h8,h11,h10,h14] at g2
 simp at eg ed et
 refine ⟨?_,?_,?_⟩<;>first|(rw [eg];simp;done)|(rw [ed];simp;done)|omega
theorem valB_len (s:List UInt8) (c:Ch) (h:c.gaps.length≤100∧c.dups.length≤100∧c.text.length≤1000) (hb:(Tlv.bytes c.items).length≤4000):s.length≤(valB s c).length∧(valB s c).length≤s.length+10000:=by
 have h4:=cut_len c.items
 have h5:s.length≤(preB s c).length∧(preB s c).length≤s.length+2000:=by
  unfold preB
  split
  ·simp [be4,be2]<;>omega
  ·split
   ·simp [be4,be2]<;>omega
   ·split
    ·rw [List.length_append,List.length_append,len32,gapB_len]
     simp [be4,be2]
     omega
    ·split
     ·simp [be4]
     ·omega
 unfold valB
 rw [List.length_append,List.length_append]
 omega
abbrev buiT:Tys:=tysX false [] [(125,[])] []
abbrev buiTOk:TysOk Tryz.prog buiT:=tysXOk _ _ _ _
theorem build_spec7 (c:Ch) (h:ChOk c):PSpec Tryz.prog 68 [cA c] (· = .tup [tvs (buildC c).1,tvi (buildC c).2]):=by
 refine PSpec.run (buiTOk) followsB Tryz.func68 (by decide) rfl Tryz.ntmps68 (Nat.le_of_ble_eq_true rfl) rfl fun w0 R0 hGw=>?_
 conv=>whnf
 refine ⟨_,build_spec c.items h.items,?_⟩
 rintro q rfl
 conv=>whnf
 split<;>rename_i g1
 ·have g1:((buildL c.items).2==0)=false:=by
   rw [bne,Bool.not_eq_true'] at g1
   exact g1
  have e:buildC c=([],1):=by rw [buildC,if_neg (by simp [goodC,g1])]
  conv=>whnf
  refine gR ?_
  conv=>whnf
  rw [e]
  exact ⟨_,.refl _,rfl,rfl⟩
 have g1:((buildL c.items).2==0)=true:=by
  rw [bne,Bool.not_eq_false'] at g1
  exact g1
 conv=>whnf
 refine ⟨_,fits_spec c h.gaps h.gap,?_⟩
 conv=>whnf
 cases g2:fitsB c
 ·have e:buildC c=([],1):=by rw [buildC,if_neg (by simp [goodC,g2])]
  conv=>whnf
  refine gR ?_
  conv=>whnf
  rw [e]
  exact ⟨_,.refl _,rfl,rfl⟩
 conv=>whnf
 refine ⟨_,only_spec c,?_⟩
 conv=>whnf
 refine ⟨_,same_spec7 c (onlyC c) h.gaps h.dups (Nat.le_trans h.items (by decide)),?_⟩
 conv=>whnf
 by_cases g3:c=onlyC c
 rotate_left
 ·have e:buildC c=([],1):=by rw [buildC,if_neg (by simp [goodC,g3])]
  rw [decide_eq_false g3]
  conv=>whnf
  refine gR ?_
  conv=>whnf
  rw [e]
  exact ⟨_,.refl _,rfl,rfl⟩
 rw [decide_eq_true g3]
 conv=>whnf
 refine gR ?_
 conv=>whnf
 obtain ⟨hb1,hb2,hb3⟩:=ok_bytes (show (buildL c.items).2=0 from by simpa using g1)
 have hz:=good_sizes c g2 g3
 have hv:=valB_len (headB c) c hz hb2
 have hc:goodC c=true:=by simp [goodC,g1,g2,←g3]
 rw [show (headB c).length=4 from rfl] at hv
 refine ⟨_,(lheap1 (value_spec (headB c) c (by rw [show (headB c).length=4 from rfl];decide) hz.1 hz.2.1 h.items (by simpa using g1) (by omega)) ⟨rfl,rfl,rfl,headB_row c⟩),?_⟩
 rintro q hq ⟨rfl,rfl⟩
 conv=>whnf
 refine gO ?_
 conv=>whnf
 refine gO ?_
 conv=>whnf
 refine gO ?_
 conv=>whnf
 refine gO ?_
 conv=>whnf
 refine gO ?_
 conv=>whnf
 refine ⟨_,pad_spec (valB (headB c) c).length (by omega),?_⟩
 rintro q rfl
 conv=>whnf
 have hpad:=pad_lt (valB (headB c) c).length
 refine ⟨⟨⟨rfl,by simp only [tnC];omega,by simp only [tnC,ty5];omega⟩,⟨by omega,by simp only [tnC];omega,by simp only [tnC,ty5];omega⟩⟩,?_⟩
 conv=>whnf
 split<;>rename_i h5
 ·replace h5:=of_decide_eq_true h5
  conv=>whnf
  have e:buildC c=([],4):=by
   rw [buildC,if_pos hc,if_pos (by rw [encC_len];simp only [tnC] at h5;omega)]
  rw [e]
  exact ⟨_,.refl _,rfl,rfl⟩
 ·replace h5:=of_decide_eq_false h5
  conv=>whnf
  have e:buildC c=(encC c,0):=by
   rw [buildC,if_pos hc,if_neg (by rw [encC_len];simp only [tnC] at h5;omega)]
  refine ⟨encC c,⟨encC_len c,by omega,fun k hk=>?_⟩,?_⟩
  ·have e0:0+k=k:=Nat.zero_add k
   rw [e0]
   exact encC_row c hv.1 k hk
  conv=>whnf
  rw [e]
  exact ⟨_,.refl _,rfl,rfl⟩
theorem right_spec (c:Ch) (h:ChOk c):PSpec Tryz.prog 29 [cA c] (· = tvb ((buildC c).2==0)):=by
 refine PSpec.run (tysOk) followsB Tryz.func29 (by decide) rfl Tryz.ntmps29 (Nat.le_of_ble_eq_true rfl) rfl fun w0 R0 hGw=>?_
 conv=>whnf
 refine ⟨_,build_spec7 c h,?_⟩
 rintro q rfl
 conv=>whnf
 exact ⟨_,.refl _,rfl,rfl⟩
end Go.Proofs.YtbkcekmahdbgdaaGreat
namespace Towline.Hand
structure H where
 st:Int
 tries:Int
 due:Int
 ourTag:Int
 peerTag:Int
 ourTsn:Int
 peerTsn:Int
 mine:Int
 window:Int
 outs:Int
 ins:Int
 cookie:List UInt8
 deriving DecidableEq,Inhabited
structure K where
 ty:Int
 flags:Int
 tsn:Int
 tag:Int
 window:Int
 ppid:Int
 stream:Int
 ssn:Int
 outs:Int
 ins:Int
 text:List UInt8
 deriving DecidableEq,Inhabited
structure S where
 ourTag:Int
 peerTag:Int
 ourTsn:Int
 peerTsn:Int
 tieOurs:Int
 tiePeer:Int
 window:Int
 outs:Int
 ins:Int
 ourPort:Int
 peerPort:Int
 peer:List UInt8
 made:Int
 life:Int
def K.of (ty:Int):K:=⟨ty,0,0,0,0,0,0,0,0,0,[]⟩
def H.nil:H:=⟨0,0,0,0,0,0,0,0,0,0,0,[]⟩
def accepted (s:S) (mine:Int):H:=⟨3,0,0,s.ourTag,s.peerTag,s.ourTsn,s.peerTsn,mine,s.window,s.outs,s.ins,[]⟩
end Towline.Hand
namespace Go.Proofs.YtbkcekmahdbgdaaGreat
open Go Towline Towline.Hand
set_option linter.unusedVariables false
set_option maxRecDepth 20000
set_option maxHeartbeats 2000000
theorem follows:Tryz.prog.follows .mixedOrders=true:=by kernel_rfl
abbrev vi (n:Int):AVal:=.d (.i .i64 n)
abbrev v32 (n:Int):AVal:=.d (.i .u32 n)
abbrev v16 (n:Int):AVal:=.d (.i .u16 n)
abbrev vb (b:Bool):AVal:=.d (.b b)
abbrev vs (l:List UInt8):AVal:=.d (.s l)
abbrev nilD:D:=.v (.slice none 0 0)
abbrev hA (h:H):AVal:=.agg [vi h.st,vi h.tries,vi h.due,v32 h.ourTag,v32 h.peerTag,v32 h.ourTsn,v32 h.peerTsn,v32 h.mine,v32 h.window,v16 h.outs,v16 h.ins,vs h.cookie]
def encK (c:K):List D:=[.i .i64 c.ty,.i .i64 c.flags,.i .u32 c.tsn,.i .u32 c.tag,.i .u32 c.window,.i .u32 c.ppid,.i .u16 c.stream,.i .u16 c.ssn,.i .u16 c.outs,.i .u16 c.ins,nilD,nilD,nilD,.s c.text]
abbrev ksA (l:List K):AVal:=.d (slT 14 encK l)
abbrev sA (s:S):AVal:=.agg [v32 s.ourTag,v32 s.peerTag,v32 s.ourTsn,v32 s.peerTsn,v32 s.tieOurs,v32 s.tiePeer,v32 s.window,v16 s.outs,v16 s.ins,v16 s.ourPort,v16 s.peerPort,vs s.peer,vi s.made,vi s.life]
theorem accept_spec (s:S) (m:Int):PSpec Tryz.prog 66 [sA s,v32 m] (· = .tup [hA (accepted s m),ksA [K.of 11]]):=by
 refine PSpec.run tysOk follows Tryz.func66 (by decide) rfl Tryz.ntmps66 (Nat.le_of_ble_eq_true rfl) rfl fun w0 R0 hGw=>?_
 conv=>whnf
 refine ⟨by omega,?_⟩
 conv=>whnf
 refine ⟨_,?_,rfl,rfl⟩
 exact .tup ⟨.refl _,.sl rfl (fun j hj=>by match j,hj with|0,_=>rfl),trivial⟩
end Go.Proofs.YtbkcekmahdbgdaaGreat
namespace Towline.Ac
structure Sp where
 tsn:Int
 size:Int
 state:Int
 misses:Int
 times:Int
 path:Int
 at_:Int
 deriving Inhabited
structure Fp where
 tsn:Int
 b:Bool
 e:Bool
 f:Bool
 stream:Int
 ssn:Int
 ppid:Int
 text:List UInt8
 deriving Inhabited,DecidableEq
structure Fm where
 first:Int
 free:Bool
 stream:Int
 ssn:Int
 ppid:Int
 text:List UInt8
 deriving Inhabited,DecidableEq
def Sp.out (p:Sp) (path:Int):Bool:=p.state==1&&(decide (path<0) ||p.path==path)
def under (l:List Sp) (path:Int):Int:=((l.filter (·.out path)).map (·.size)).sum
theorem under_take (l:List Sp) (path:Int) (k:Nat) (h:k<l.length):under (l.take (k+1)) path=under (l.take k) path+(if (l.getD k default).out path then (l.getD k default).size else 0):=by
 have e:l.take (k+1)=l.take k++[l.getD k default]:=by
  rw [List.take_add_one,List.getElem?_eq_getElem h];simp [List.getD_eq_getElem?_getD,List.getElem?_eq_getElem h]
 rw [e]
 unfold under
 rw [List.filter_append,List.map_append,List.sum_append]
 generalize l.getD k default=x
 split
 ·rename_i hb;simp [hb]
 ·rename_i hb;simp [hb]
theorem sum_bound (l:List Sp) (hs:∀p∈l,0≤p.size∧p.size≤1500) (path:Int):0≤under l path∧under l path≤1500*l.length:=by
 induction l with
 |nil=>simp [under]
 |cons x r ih=>
  have h1:=hs x List.mem_cons_self
  have h2:=ih fun p hp=>hs p (List.mem_cons_of_mem _ hp)
  unfold under at h2 ⊢
  rw [List.filter_cons,List.length_cons]
  split
  ·rw [List.map_cons,List.sum_cons];omega
  ·omega
theorem under_le (l:List Sp) (path:Int) (hs:∀p∈l,0≤p.size∧p.size≤1500) (k:Nat):0≤under (l.take k) path∧under (l.take k) path≤1500*l.length:=by
 have h:=sum_bound (l.take k) (fun p hp=>hs p (List.mem_of_mem_take hp)) path
 have:(l.take k).length≤l.length:=by rw [List.length_take];omega
 omega
def kin (a b:Fp):Bool:=a.f==b.f&&a.stream==b.stream&&(a.f ||a.ssn==b.ssn)
def fbytes (l:List Fp):Nat:=(l.map (·.text.length)).sum
def mbytes (l:List Fm):Nat:=(l.map (·.text.length)).sum
theorem take_snoc {α:Type} [Inhabited α] (l:List α) (k:Nat) (h:k<l.length):l.take (k+1)=l.take k++[l.getD k default]:=by
 rw [List.take_add_one,List.getElem?_eq_getElem h];simp [List.getD_eq_getElem?_getD,List.getElem?_eq_getElem h]
theorem sum_take {α:Type} [Inhabited α] (f:α→Nat) (l:List α) (k:Nat) (h:k<l.length):((l.take (k+1)).map f).sum=((l.take k).map f).sum+f (l.getD k default):=by
 rw [take_snoc l k h,List.map_append,List.sum_append];simp
theorem sum_take_le {α:Type} [Inhabited α] (f:α→Nat) (l:List α) (k:Nat):((l.take k).map f).sum≤(l.map f).sum:=by
 conv=>rhs;rw [←List.take_append_drop k l,List.map_append,List.sum_append]
 omega
def idx {α:Type} (t:α→Bool) (l:List α):Int:=match l.findIdx? t with|some i=>(i:Int)|none=>-1
theorem getD_mem' {α:Type} [Inhabited α] {l:List α} {k:Nat} (h:k<l.length):l.getD k default∈l:=by rw [List.getD_eq_getElem?_getD,List.getElem?_eq_getElem h];exact List.getElem_mem h
theorem idx_at {α:Type} [Inhabited α] (t:α→Bool) (l:List α) (k:Nat) (h:k<l.length) (hn:∀j,j<k→t (l.getD j default)=false) (ht:t (l.getD k default)=true):idx t l=k:=by
 unfold idx
 rw [List.findIdx?_eq_some_iff_getElem.2 ⟨h,by simpa [List.getD_eq_getElem?_getD,List.getElem?_eq_getElem h] using ht,fun j hj=>by
  have:=hn j hj
  have hj':j<l.length:=by omega
  simpa [List.getD_eq_getElem?_getD,List.getElem?_eq_getElem hj'] using this⟩]
theorem idx_none {α:Type} [Inhabited α] (t:α→Bool) (l:List α) (hn:∀j,j<l.length→t (l.getD j default)=false):idx t l = -1:=by
 unfold idx
 rw [List.findIdx?_eq_none_iff.2 fun x hx=>by
  obtain ⟨j,hj,rfl⟩:=List.getElem_of_mem hx
  have:=hn j hj
  simpa [List.getD_eq_getElem?_getD,List.getElem?_eq_getElem hj] using this]
end Towline.Ac
namespace Go.Proofs.YtbkcekmahdbgdaaGreat
open Go Go.RowKit Towline Towline.Hand Towline.Ac
set_option linter.unusedVariables false
set_option linter.unusedSimpArgs false
set_option maxRecDepth 20000
set_option maxHeartbeats 4000000
def encSp (p:Sp):List D:=[.i .u32 p.tsn,.i .i64 p.size,.i .i64 p.state,.i .i64 p.misses,.i .i64 p.times,.i .i64 p.path,.i .i64 p.at_]
abbrev spA (p:Sp):AVal:=.agg [v32 p.tsn,vi p.size,vi p.state,vi p.misses,vi p.times,vi p.path,vi p.at_]
def encFp (p:Fp):List D:=[.i .u32 p.tsn,.b p.b,.b p.e,.b p.f,.i .u16 p.stream,.i .u16 p.ssn,.i .u32 p.ppid,.s p.text]
abbrev fpA (p:Fp):AVal:=.agg [v32 p.tsn,vb p.b,vb p.e,vb p.f,v16 p.stream,v16 p.ssn,v32 p.ppid,vs p.text]
def encFm (m:Fm):List D:=[.i .u32 m.first,.b m.free,.i .u16 m.stream,.i .u16 m.ssn,.i .u32 m.ppid,.s m.text]
abbrev fmA (m:Fm):AVal:=.agg [v32 m.first,vb m.free,v16 m.stream,v16 m.ssn,v32 m.ppid,vs m.text]
theorem spOut_spec (p:Sp) (path:Int):PSpec Tryz.prog 99 [spA p,vi path] (· = vb (p.out path)):=by
 refine PSpec.run (tysOk) followsB Tryz.func99 (by decide) rfl Tryz.ntmps99 (Nat.le_of_ble_eq_true rfl) rfl fun w0 R0 hGw=>?_
 conv=>whnf
 cases g1:(p.state==1)
 ·conv=>whnf
  exact ⟨_,.refl _,congrArg vb (by simp [Sp.out,g1]),rfl⟩
 ·conv=>whnf
  cases g2:decide (path<0)
  ·conv=>whnf
   exact ⟨_,.refl _,congrArg vb (by simp [Sp.out,g1,g2]),rfl⟩
  ·conv=>whnf
   exact ⟨_,.refl _,congrArg vb (by simp [Sp.out,g1,g2]),rfl⟩
theorem under_spec (xc:Int) (l:List Sp) (path:Int) (hl:l.length≤2 ^ 30) (hs:∀p∈l,0≤p.size∧p.size≤1500):PSpec Tryz.prog 55 [.agg [v32 xc,.d (slT 7 encSp l)],vi path] (· = vi (under l path)):=by
 refine PSpec.run (tysOk) followsB Tryz.func55 (by decide) rfl Tryz.ntmps55 (Nat.le_of_ble_eq_true rfl) rfl fun w0 R0 hGw=>?_
 conv=>whnf
 refine ALoop.intro tysOk followsB (fun k:{k // k≤l.length}=>([(1,vi path),(5,vi (under (l.take k.1) path)),(9,.d (slT 7 encSp l)),(10,vi l.length),(11,vi k.1)],[])) (fun k=>l.length-k.1) ⟨0,by omega⟩ ?_ ?_
 ·exact ⟨.refl _,.refl _,.refl _,.refl _,.refl _,trivial⟩
 ·rintro ⟨k,hk⟩
  dsimp only
  conv=>whnf
  split<;>rename_i hlt
  ·have hlt:k<l.length:=by simpa using hlt
   have ht:=under_take l path k hlt
   have hb1:=under_le l path hs k
   have hb2:=hs _ (getD_mem' hlt)
   conv=>whnf
   refine gO ?_
   conv=>whnf
   refine ⟨_,(spOut_spec (l.getD k default) path),?_⟩
   rintro q rfl
   conv=>whnf
   cases hout:(l.getD k default).out path
   ·conv=>whnf
    refine gO ?_
    conv=>whnf
    refine ⟨⟨k+1,by omega⟩,by dsimp only;omega,.refl _,?_,.refl _,.refl _,.refl _,trivial⟩
    refine .of_eq ?_
    dsimp only
    rw [ht,hout];simp
   ·conv=>whnf
    refine gO ?_
    conv=>whnf
    refine gO ?_
    conv=>whnf
    refine ⟨⟨k+1,by omega⟩,by dsimp only;omega,.refl _,?_,.refl _,.refl _,.refl _,trivial⟩
    refine .of_eq ?_
    dsimp only
    rw [ht,hout,tnC];rfl
  ·have hlt:¬k<l.length:=by simpa using hlt
   obtain rfl:k=l.length:=by omega
   conv=>whnf
   exact ⟨_,.refl _,by rw [List.take_length],rfl⟩
theorem kin_spec (a b:Fp):PSpec Tryz.prog 193 [fpA a,fpA b] (· = vb (kin a b)):=by
 refine PSpec.run (tysOk) followsB Tryz.func193 (by decide) rfl Tryz.ntmps193 (Nat.le_of_ble_eq_true rfl) rfl fun w0 R0 hGw=>?_
 conv=>whnf
 cases g1:(a.f==b.f)
 ·conv=>whnf
  exact ⟨_,.refl _,congrArg vb (by simp [kin,g1]),rfl⟩
 ·conv=>whnf
  cases g2:(a.stream==b.stream)
  ·conv=>whnf
   exact ⟨_,.refl _,congrArg vb (by simp [kin,g1,g2]),rfl⟩
  ·conv=>whnf
   cases g3:a.f
   ·conv=>whnf
    exact ⟨_,.refl _,congrArg vb (by rw [kin,g1,g2,g3];rfl),rfl⟩
   ·conv=>whnf
    exact ⟨_,.refl _,congrArg vb (by rw [kin,g1,g2,g3];rfl),rfl⟩
theorem fbytes_spec (l:List Fp) (hl:l.length≤2 ^ 30) (hb:fbytes l≤2 ^ 40):PSpec Tryz.prog 105 [.agg [.d (slT 8 encFp l)]] (· = vi (fbytes l)):=by
 refine PSpec.run (tysOk) followsB Tryz.func105 (by decide) rfl Tryz.ntmps105 (Nat.le_of_ble_eq_true rfl) rfl fun w0 R0 hGw=>?_
 conv=>whnf
 refine ALoop.intro tysOk followsB (fun k:{k // k≤l.length}=>([(3,vi (fbytes (l.take k.1))),(7,.d (slT 8 encFp l)),(8,vi l.length),(9,vi k.1)],[])) (fun k=>l.length-k.1) ⟨0,by omega⟩ ?_ ?_
 ·exact ⟨.refl _,.refl _,.refl _,.refl _,trivial⟩
 ·rintro ⟨k,hk⟩
  dsimp only
  conv=>whnf
  split<;>rename_i hlt
  ·have hlt:k<l.length:=by simpa using hlt
   have ht:fbytes (l.take (k+1))=fbytes (l.take k)+(l.getD k default).text.length:=sum_take _ l k hlt
   have hle:fbytes (l.take (k+1))≤fbytes l:=sum_take_le _ l (k+1)
   conv=>whnf
   refine gO ?_
   conv=>whnf
   refine gO ?_
   conv=>whnf
   refine gO ?_
   conv=>whnf
   refine ⟨⟨k+1,by omega⟩,by dsimp only;omega,?_,.refl _,.refl _,.refl _,trivial⟩
   refine .of_eq ?_
   dsimp only
   rw [ht,tnC,Int.natCast_add]
  ·have hlt:¬k<l.length:=by simpa using hlt
   obtain rfl:k=l.length:=by omega
   conv=>whnf
   exact ⟨_,.refl _,by rw [List.take_length],rfl⟩
theorem obytes_spec (nx:D) (l:List Fm) (hl:l.length≤2 ^ 30) (hb:mbytes l≤2 ^ 40):PSpec Tryz.prog 106 [.agg [.d nx,.d (slT 6 encFm l)]] (· = vi (mbytes l)):=by
 refine PSpec.run (tysOk) followsB Tryz.func106 (by decide) rfl Tryz.ntmps106 (Nat.le_of_ble_eq_true rfl) rfl fun w0 R0 hGw=>?_
 conv=>whnf
 refine ALoop.intro tysOk followsB (fun k:{k // k≤l.length}=>([(3,vi (mbytes (l.take k.1))),(7,.d (slT 6 encFm l)),(8,vi l.length),(9,vi k.1)],[])) (fun k=>l.length-k.1) ⟨0,by omega⟩ ?_ ?_
 ·exact ⟨.refl _,.refl _,.refl _,.refl _,trivial⟩
 ·rintro ⟨k,hk⟩
  dsimp only
  conv=>whnf
  split<;>rename_i hlt
  ·have hlt:k<l.length:=by simpa using hlt
   have ht:mbytes (l.take (k+1))=mbytes (l.take k)+(l.getD k default).text.length:=sum_take _ l k hlt
   have hle:mbytes (l.take (k+1))≤mbytes l:=sum_take_le _ l (k+1)
   conv=>whnf
   refine gO ?_
   conv=>whnf
   refine gO ?_
   conv=>whnf
   refine gO ?_
   conv=>whnf
   refine ⟨⟨k+1,by omega⟩,by dsimp only;omega,?_,.refl _,.refl _,.refl _,trivial⟩
   refine .of_eq ?_
   dsimp only
   rw [ht,tnC,Int.natCast_add]
  ·have hlt:¬k<l.length:=by simpa using hlt
   obtain rfl:k=l.length:=by omega
   conv=>whnf
   exact ⟨_,.refl _,by rw [List.take_length],rfl⟩
theorem isNaN_spec (a:Int):PSpec Tryz.prog 214 [v32 a] (· = vb false):=by
 refine PSpec.run (tysOk) followsB Tryz.func214 (by decide) rfl Tryz.ntmps214 (Nat.le_of_ble_eq_true rfl) rfl fun w0 R0 hGw=>?_
 conv=>whnf
 rw [show (a != a)=false from by simp]
 conv=>whnf
 exact ⟨_,.refl _,rfl,rfl⟩
theorem cmp32_spec (a b:Int):PSpec Tryz.prog 189 [v32 a,v32 b] (· = vi (if a<b then -1 else if b<a then 1 else 0)):=by
 refine PSpec.run (tysOk) followsB Tryz.func189 (by decide) rfl Tryz.ntmps189 (Nat.le_of_ble_eq_true rfl) rfl fun w0 R0 hGw=>?_
 conv=>whnf
 refine ⟨_,(isNaN_spec a),?_⟩
 rintro q rfl
 conv=>whnf
 refine ⟨_,(isNaN_spec b),?_⟩
 rintro q rfl
 conv=>whnf
 split<;>rename_i g
 ·conv=>whnf
  exact ⟨_,.refl _,by rw [if_pos (of_decide_eq_true g)],rfl⟩
 ·conv=>whnf
  have g:=of_decide_eq_false g
  split<;>rename_i g2
  ·conv=>whnf
   exact ⟨_,.refl _,by rw [if_neg g,if_pos (of_decide_eq_true g2)],rfl⟩
  ·conv=>whnf
   exact ⟨_,.refl _,by rw [if_neg g,if_neg (of_decide_eq_false g2)],rfl⟩
theorem place1_spec (n a cum:Int) (x y:D):PSpec Tryz.prog 188 [v32 a,v32 n,.eptr 3 1 (fun _=>[.i .u32 cum,x,y]) 0 0] (· = vi (if IntKind.u32.wrap (a-cum)<IntKind.u32.wrap (n-cum) then -1 else if IntKind.u32.wrap (n-cum)<IntKind.u32.wrap (a-cum) then 1 else 0)):=by
 refine PSpec.run (tysOk) followsB Tryz.func188 (by decide) rfl Tryz.ntmps188 (Nat.le_of_ble_eq_true rfl) rfl fun w0 R0 hGw=>?_
 conv=>whnf
 refine ⟨_,(cmp32_spec _ _),?_⟩
 rintro q rfl
 conv=>whnf
 exact ⟨_,.refl _,rfl,rfl⟩
theorem dist16_spec (a b:Int):PSpec Tryz.prog 195 [v16 a,v16 b] (· = vi (IntKind.i16.wrap (IntKind.u16.wrap (b-a)))):=by
 have h : -32768≤IntKind.i16.wrap (IntKind.u16.wrap (b-a))∧IntKind.i16.wrap (IntKind.u16.wrap (b-a))≤32767:=by simp [IntKind.wrap,IntKind.signed,IntKind.bits,-Int.emod_emod_of_dvd];omega
 refine PSpec.run (tysOk) followsB Tryz.func195 (by decide) rfl Tryz.ntmps195 (Nat.le_of_ble_eq_true rfl) rfl fun w0 R0 hGw=>?_
 conv=>whnf
 refine ⟨by omega,?_⟩
 conv=>whnf
 exact ⟨_,.refl _,rfl,rfl⟩
theorem dist_spec (a b:Int):PSpec Tryz.prog 131 [v32 a,v32 b] (· = vi (IntKind.i32.wrap (IntKind.u32.wrap (b-a)))):=by
 have h : -2147483648≤IntKind.i32.wrap (IntKind.u32.wrap (b-a))∧IntKind.i32.wrap (IntKind.u32.wrap (b-a))≤2147483647:=by simp [IntKind.wrap,IntKind.signed,IntKind.bits,-Int.emod_emod_of_dvd];omega
 refine PSpec.run (tysOk) followsB Tryz.func131 (by decide) rfl Tryz.ntmps131 (Nat.le_of_ble_eq_true rfl) rfl fun w0 R0 hGw=>?_
 conv=>whnf
 refine ⟨by omega,?_⟩
 conv=>whnf
 exact ⟨_,.refl _,rfl,rfl⟩
theorem late_spec (n next:Int):PSpec Tryz.prog 142 [v16 n,v16 next] (· = vb (decide (IntKind.i16.wrap (IntKind.u16.wrap (n-next))<0))):=by
 refine PSpec.run (tysOk) followsB Tryz.func142 (by decide) rfl Tryz.ntmps142 (Nat.le_of_ble_eq_true rfl) rfl fun w0 R0 hGw=>?_
 conv=>whnf
 refine ⟨_,(dist16_spec next n),?_⟩
 rintro q rfl
 conv=>whnf
 exact ⟨_,.refl _,rfl,rfl⟩
end Go.Proofs.YtbkcekmahdbgdaaGreat
namespace Towline.Ac
abbrev w32 (n:Int):Int:=n % 4294967296
def atF (l:List Fp) (n:Int):Nat:=match l.findIdx? (·.tsn==n) with|some i=>i+1|none=>0
def pcF (l:List Fp) (i:Nat):Fp:=l.getD (i-1) default
def rowBack (l:List Fp) (p:Fp):Nat→Int→Option Int
 |0,_=>none
 |f+1,first=>if (pcF l (atF l first)).b then some first else
  if atF l (w32 (first-1))=0∨(pcF l (atF l (w32 (first-1)))).e=true∨kin (pcF l (atF l (w32 (first-1)))) p=false∨w32 (first-1)=p.tsn then none else rowBack l p f (w32 (first-1))
def rowFwd (l:List Fp) (p:Fp) (first:Int):Nat→Int→List Nat→Option (List Nat)
 |0,_,_=>none
 |f+1,n,out=>if atF l n=0∨(n≠first∧(pcF l (atF l n)).b=true)∨kin (pcF l (atF l n)) p=false then none else
  if (pcF l (atF l n)).e then some (out++[atF l n-1]) else rowFwd l p first f (w32 (n+1)) (out++[atF l n-1])
def rowF (l:List Fp):Option (List Nat):=match rowBack l (l.getLastD default) l.length (l.getLastD default).tsn with
 |none=>none
 |some first=>rowFwd l (l.getLastD default) first l.length first []
structure Msgs (base:Int) (Q:Nat→Fp) (len:Nat) (A B:Nat→Nat):Prop where
 num:∀k,k<len→(Q k).tsn=w32 (base+k)
 few:len≤2147483648
 le:∀k,k<len→A k≤k∧k<B k
 same:∀k,k<len→∀j,A k≤j→j<B k→j<len→A j=A k∧B j=B k∧kin (Q j) (Q k)=true
 b:∀k,k<len→((Q k).b=true↔k=A k)
 e:∀k,k<len→((Q k).e=true↔k+1=B k)
theorem w32_inj {base:Int} {i j:Nat} (hi:i<4294967296) (hj:j<4294967296) (h:w32 (base+i)=w32 (base+j)):i=j:=by
 unfold w32 at h;omega
theorem w32_succ (base:Int) (k:Nat):w32 (w32 (base+k)+1)=w32 (base+(k+1:Nat)):=by unfold w32;omega
theorem w32_pred (base:Int) (k:Nat):w32 (w32 (base+(k+1:Nat))-1)=w32 (base+k):=by unfold w32;omega
section
open Classical
variable {base : Int} {Q : Nat → Fp} {len : Nat} {A B : Nat → Nat} (M : Msgs base Q len A B) {ks : List Nat} (hks : ∀ k ∈ ks, k < len) (hnd : ks.Nodup)
include M hks
theorem at_none {k:Nat} (hk:k<4294967296) (h:k∉ks):atF (ks.map Q) (w32 (base+k))=0:=by
 unfold atF
 rw [List.findIdx?_eq_none_iff.2 fun x hx=>?_]
 obtain ⟨j,hj,rfl⟩:=List.mem_map.1 hx
 rw [beq_eq_false_iff_ne,M.num j (hks j hj)]
 intro e
 have:=hks j hj
 have:=M.few
 rw [w32_inj (by omega) hk e] at hj
 exact h hj
include hnd
theorem at_some {k:Nat} {i:Nat} (hi:i<ks.length) (h:ks[i]=k):atF (ks.map Q) (w32 (base+k))=i+1∧pcF (ks.map Q) (i+1)=Q k:=by
 have hkl:=hks _ (List.getElem_mem hi)
 have hfew:=M.few
 constructor
 ·unfold atF
  rw [List.findIdx?_eq_some_iff_getElem.2 ⟨by simpa using hi,?_,?_⟩]
  ·simp only [List.getElem_map,beq_iff_eq]
   rw [M.num _ hkl,h]
  ·intro j hj
   simp only [List.getElem_map,Bool.not_eq_true,beq_eq_false_iff_ne]
   have hj2:j<ks.length:=by omega
   have hjl:=hks _ (List.getElem_mem hj2)
   rw [M.num _ hjl,←h]
   intro e
   exact List.pairwise_iff_getElem.1 hnd j i hj2 hi hj (w32_inj (by omega) (by omega) e)
 ·unfold pcF
  simp [List.getD_eq_getElem?_getD,hi,h]
theorem rowBack_spec {p:Nat} (hp:p<len):∀(f k:Nat),A p≤k→k≤p→(∀j,k≤j→j≤p→j∈ks)→p-k+f≥ks.length→
  rowBack (ks.map Q) (Q p) f (w32 (base+k))=if (∀j,A p≤j→j<k→j∈ks) then some (w32 (base+A p)) else none:=by
 intro f
 induction f with
 |zero=>
  intro k _ h2 h3 h4
  have hsub:List.range' k (p-k+1)⊆ks:=fun j hj=>by
   have:=List.mem_range'_1.1 hj
   exact h3 j (by omega) (by omega)
  have hn:(List.range' k (p-k+1)).Nodup:=List.nodup_range'
  have:=hn.length_le_of_subset hsub
  simp at this
  omega
 |succ f ih=>
  intro k h1 h2 h3 h4
  have hfew:=M.few
  have hB:=M.le p hp
  obtain ⟨i,hi,e⟩:=List.getElem_of_mem (h3 k (by omega) h2)
  obtain ⟨e1,e2⟩:=at_some M hks hnd hi e
  obtain ⟨s1,s2,s3⟩:=M.same p hp k h1 (by omega) (by omega)
  unfold rowBack
  rw [e1,e2]
  have hb:=M.b k (by omega)
  by_cases hk:k=A p
  ·rw [if_pos (hb.2 (by omega)),if_pos (fun j h5 h6=>by omega),hk]
  ·rw [if_neg (fun h=>hk (by rw [←s1];exact hb.1 h))]
   obtain ⟨k',rfl⟩:∃k',k=k'+1:=⟨k-1,by omega⟩
   rw [w32_pred]
   by_cases hin:k'∈ks
   ·obtain ⟨i',hi',e'⟩:=List.getElem_of_mem hin
    obtain ⟨e1',e2'⟩:=at_some M hks hnd hi' e'
    obtain ⟨t1,t2,t3⟩:=M.same p hp k' (by omega) (by omega) (by omega)
    rw [e1',e2',if_neg ?_,ih k' (by omega) (by omega) (fun j h5 h6=>by
     rcases Nat.lt_or_ge j (k'+1) with h7|h7
     ·obtain rfl:j=k':=by omega
      exact hin
     ·exact h3 j h7 h6) (by omega)]
    ·by_cases hall:∀j,A p≤j→j<k'→j∈ks
     ·rw [if_pos hall,if_pos (fun j h5 h6=>by
       rcases Nat.lt_or_ge j k' with h7|h7
       ·exact hall j h5 h7
       ·obtain rfl:j=k':=by omega
        exact hin)]
     ·rw [if_neg hall,if_neg (fun h=>hall fun j h5 h6=>h j h5 (by omega))]
    ·rintro (h|h|h|h)
     ·omega
     ·have:=(M.e k' (by omega)).1 h
      omega
     ·rw [t3] at h;cases h
     ·rw [M.num p hp] at h
      have:=w32_inj (by omega) (by omega) h
      omega
   ·rw [at_none M hks (by omega) hin,if_pos (.inl rfl),if_neg (fun h=>hin (h k' (by omega) (by omega)))]
def placesF (ks:List Nat) (k n:Nat):List Nat:=(List.range n).map fun i=>ks.idxOf (k+i)
omit M hks hnd in
theorem placesF_succ (ks:List Nat) (k n:Nat):placesF ks k (n+1)=placesF ks k n++[ks.idxOf (k+n)]:=by
 unfold placesF;rw [List.range_succ,List.map_append];rfl
theorem rowFwd_spec {p:Nat} (hp:p<len):∀(f n:Nat),A p+n<B p→n+f≥ks.length→(∀j,A p≤j→j<A p+n→j∈ks)→
  rowFwd (ks.map Q) (Q p) (w32 (base+A p)) f (w32 (base+(A p+n:Nat))) (placesF ks (A p) n)=if (∀j,A p≤j→j<B p→j∈ks) then some (placesF ks (A p) (B p-A p)) else none:=by
 intro f
 induction f with
 |zero=>
  intro n h1 h2 h4
  rw [if_neg]
  ·rfl
  ·intro h
   have hsub:List.range' (A p) (n+1)⊆ks:=fun j hj=>by
    have:=List.mem_range'_1.1 hj
    exact h j (by omega) (by omega)
   have hn:(List.range' (A p) (n+1)).Nodup:=List.nodup_range'
   have:=hn.length_le_of_subset hsub
   simp at this
   omega
 |succ f ih=>
  intro n h1 h2 h4
  have hfew:=M.few
  have hB:=M.le p hp
  unfold rowFwd
  by_cases hin:A p+n∈ks
  ·obtain ⟨i,hi,e⟩:=List.getElem_of_mem hin
   have hlen:=hks _ hin
   obtain ⟨e1,e2⟩:=at_some M hks hnd hi e
   obtain ⟨s1,s2,s3⟩:=M.same p hp (A p+n) (by omega) (by omega) hlen
   have hidx:ks.idxOf (A p+n)=i:=by
    rw [←e]
    exact hnd.idxOf_getElem i hi
   rw [e1,e2,if_neg ?_]
   ·have he:=M.e (A p+n) hlen
    by_cases hend:(Q (A p+n)).e=true
    ·have hh:=he.1 hend
     rw [s2] at hh
     rw [if_pos hend,if_pos (fun j h5 h6=>by
      rcases Nat.lt_or_ge j (A p+n) with h7|h7
      ·exact h4 j h5 h7
      ·obtain rfl:j=A p+n:=by omega
       exact hin),show B p-A p=n+1 from by omega,placesF_succ,hidx]
     rfl
    ·rw [if_neg hend,w32_succ,show A p+n+1=A p+(n+1) from rfl]
     have hlt:A p+(n+1)<B p:=by
      rcases Nat.lt_or_ge (A p+(n+1)) (B p) with h|h
      ·exact h
      ·exact absurd (he.2 (by rw [s2];omega)) hend
     rw [show i+1-1=i from rfl,←hidx,←placesF_succ]
     exact ih (n+1) hlt (by omega) (fun j h5 h6=>by
      rcases Nat.lt_or_ge j (A p+n) with h7|h7
      ·exact h4 j h5 h7
      ·obtain rfl:j=A p+n:=by omega
       exact hin)
   ·rintro (h|⟨h,h'⟩|h)
    ·omega
    ·have:=(M.b (A p+n) hlen).1 h'
     rw [s1] at this
     exact h (by rw [this])
    ·rw [s3] at h;cases h
  ·have hle:A p+n≤len:=by
    rcases Nat.eq_zero_or_pos n with h0|h0
    ·omega
    ·have:=hks _ (h4 (A p+n-1) (by omega) (by omega))
     omega
   rw [at_none M hks (by omega) hin,if_pos (.inl rfl),if_neg (fun h=>hin (h _ (by omega) h1))]
theorem rowF_spec {p:Nat} (hl:ks.getLast? = some p) :
  rowF (ks.map Q)=if (∀j,A p≤j→j<B p→j∈ks) then some (placesF ks (A p) (B p-A p)) else none:=by
 have hmem:p∈ks:=List.mem_of_getLast? hl
 have hp:=hks p hmem
 have hB:=M.le p hp
 have e:(ks.map Q).getLastD default=Q p:=by rw [List.getLastD_eq_getLast?,List.getLast?_map,hl];rfl
 unfold rowF
 rw [e,List.length_map,M.num p hp,rowBack_spec M hks hnd hp ks.length p (by omega) (by omega) (fun j h1 h2=>(show j=p from by omega)▸hmem) (by omega)]
 by_cases h:∀j,A p≤j→j<p→j∈ks
 ·rw [if_pos h]
  exact rowFwd_spec M hks hnd hp ks.length 0 (by omega) (by omega) (fun j h1 h2=>by omega)
 ·rw [if_neg h,if_neg fun h'=>h fun j h1 h2=>h' j h1 (by omega)]
end
abbrev key (cum n:Int):Int:=w32 (n-cum)
def posG (cum:Int) (l:List Int) (n:Int):Nat:=(l.takeWhile fun a=>decide (key cum a<key cum n)).length
def sgn32 (n:Int):Int:=if n<2147483648 then n else n-4294967296
def hasG (cum:Int) (l:List Int) (n:Int):Bool:=l.contains n ||decide (0≤sgn32 (w32 (cum-n)))
def absorbG:Int→List Int→Int×List Int
 |cum,[]=>(cum,[])
 |cum,x::t=>if x=w32 (cum+1) then absorbG (w32 (cum+1)) t else (cum,x::t)
def insG (cum:Int) (l:List Int) (n:Int):List Int:=l.take (posG cum l n)++n::l.drop (posG cum l n)
def takeG (cum:Int) (l:List Int) (n:Int):(Int×List Int)×Bool:=
 if 4000<key cum n then ((cum,l),false) else (absorbG cum (insG cum l n),true)
structure GotIs (base:Int) (cum:Int) (l:List Int) (c:Nat) (ks:List Nat):Prop where
 cum:cum=w32 (base+c-1)
 l:l=ks.map fun k=>w32 (base+(k:Nat))
 up:ks.Pairwise (· < ·)
 gt:∀k∈ks,c<k
section
variable {base cum : Int} {l : List Int} {c : Nat} {ks : List Nat}
theorem key_ge (hc:cum=w32 (base+c-1)) {k:Nat} (h:c≤k) (hk:k<2147483648):key cum (w32 (base+k))=(k:Int)-c+1:=by
 subst hc;unfold key w32;omega
theorem has_iff (G:GotIs base cum l c ks) (hk:∀k∈ks,k<2147483648) (hc:c<2147483648) {j:Nat} (hj:j<2147483648):hasG cum l (w32 (base+j))=true↔j<c∨j∈ks:=by
 unfold hasG
 rw [Bool.or_eq_true,decide_eq_true_iff,List.contains_iff_mem,G.l,G.cum]
 constructor
 ·rintro (h|h)
  ·obtain ⟨k,hk',e⟩:=List.mem_map.1 h
   have:=hk k hk'
   have:k=j:=w32_inj (base:=base) (by omega) (by omega) e
   exact .inr (this▸hk')
  ·refine .inl ?_
   unfold sgn32 w32 at h
   split at h<;>omega
 ·rintro (h|h)
  ·refine .inr ?_
   unfold sgn32 w32
   split<;>omega
  ·exact .inl (List.mem_map.2 ⟨j,h,rfl⟩)
theorem pos_map (hc:cum=w32 (base+c-1)) {j:Nat} (hcj:c≤j) (hj:j<2147483648):∀(ks:List Nat),(∀k∈ks,c≤k∧k<2147483648)→
  posG cum (ks.map fun k=>w32 (base+(k:Nat))) (w32 (base+j))=(ks.takeWhile fun k=>decide (k<j)).length
 | [],_=>rfl
 |k::r,h=>by
  have ih:=pos_map hc hcj hj r fun k hk=>h k (List.mem_cons_of_mem _ hk)
  obtain ⟨h1,h2⟩:=h k List.mem_cons_self
  unfold posG at ih ⊢
  rw [List.map_cons,List.takeWhile_cons,List.takeWhile_cons,key_ge hc h1 h2,key_ge hc hcj hj]
  by_cases hkj:k<j
  ·rw [if_pos (decide_eq_true (by omega)),if_pos (decide_eq_true hkj),List.length_cons,List.length_cons]
   rw [key_ge hc hcj hj] at ih
   rw [ih]
  ·rw [if_neg (by simp;omega),if_neg (by simp;omega)]
   rfl
def insK (ks:List Nat) (j:Nat):List Nat:=ks.takeWhile (fun k=>decide (k<j))++j::ks.dropWhile (fun k=>decide (k<j))
theorem take_len_takeWhile {α:Type} (p:α→Bool):∀l:List α,l.take (l.takeWhile p).length=l.takeWhile p∧l.drop (l.takeWhile p).length=l.dropWhile p
 | []=>⟨rfl,rfl⟩
 |x::r=>by
  obtain ⟨h1,h2⟩:=take_len_takeWhile p r
  rw [List.takeWhile_cons,List.dropWhile_cons]
  split
  ·simp [h1,h2]
  ·simp
theorem ins_map (hc:cum=w32 (base+c-1)) {j:Nat} (hcj:c≤j) (hj:j<2147483648) {ks:List Nat} (hks:∀k∈ks,c≤k∧k<2147483648) :
  insG cum (ks.map fun k=>w32 (base+(k:Nat))) (w32 (base+j))=(insK ks j).map fun k=>w32 (base+(k:Nat)):=by
 unfold insG insK
 rw [pos_map hc hcj hj ks hks,←List.map_take,←List.map_drop,(take_len_takeWhile _ ks).1,(take_len_takeWhile _ ks).2,List.map_append,List.map_cons]
theorem mem_takeWhile_lt:∀{ks:List Nat} {j k:Nat},k∈ks.takeWhile (fun k=>decide (k<j))→k<j
 |x::r,j,k,h=>by
  rw [List.takeWhile_cons] at h
  split at h
  ·rename_i hx
   rcases List.mem_cons.1 h with rfl|h
   ·simpa using hx
   ·exact mem_takeWhile_lt h
  ·cases h
theorem mem_dropWhile_ge:∀{ks:List Nat} {j k:Nat},ks.Pairwise (· < ·)→j∉ks→k∈ks.dropWhile (fun k=>decide (k<j))→j<k
 |x::r,j,k,hp,hj,h=>by
  rw [List.dropWhile_cons] at h
  split at h
  ·exact mem_dropWhile_ge hp.of_cons (fun h'=>hj (List.mem_cons_of_mem _ h')) h
  ·rename_i hx
   have hx:¬x<j:=by simpa using hx
   have hne:x≠j:=fun e=>hj (e▸List.mem_cons_self)
   rcases List.mem_cons.1 h with rfl|h
   ·omega
   ·have:=(List.pairwise_cons.1 hp).1 k h
    omega
theorem insK_up {ks:List Nat} (hp:ks.Pairwise (· < ·)) {j:Nat} (hj:j∉ks):(insK ks j).Pairwise (· < ·):=by
 unfold insK
 have e:=List.takeWhile_append_dropWhile (p:=fun k=>decide (k<j)) (l:=ks)
 rw [←e,List.pairwise_append] at hp
 rw [List.pairwise_append]
 refine ⟨hp.1,List.pairwise_cons.2 ⟨fun k hk=>?_,hp.2.1⟩,fun a ha b hb=>?_⟩
 ·rw [←e] at hj
  have hp':ks.Pairwise (· < ·):=by rw [←e,List.pairwise_append];exact hp
  exact mem_dropWhile_ge hp' (by rw [←e];exact hj) hk
 ·rcases List.mem_cons.1 hb with rfl|hb
  ·exact mem_takeWhile_lt ha
  ·exact hp.2.2 a ha b hb
theorem mem_insK {ks:List Nat} {j k:Nat}:k∈insK ks j↔k=j∨k∈ks:=by
 unfold insK
 have e:=List.takeWhile_append_dropWhile (p:=fun k=>decide (k<j)) (l:=ks)
 conv=>rhs;rw [←e]
 simp only [List.mem_append,List.mem_cons]
 constructor
 ·rintro (h|h|h)
  ·exact .inr (.inl h)
  ·exact .inl h
  ·exact .inr (.inr h)
 ·rintro (h|h|h)
  ·exact .inr (.inl h)
  ·exact .inl h
  ·exact .inr (.inr h)
def absorbK:Nat→List Nat→Nat×List Nat
 |c,[]=>(c,[])
 |c,k::t=>if k=c then absorbK (c+1) t else (c,k::t)
theorem absorb_map:∀{ks:List Nat} {c:Nat} {cum:Int},cum=w32 (base+c-1)→(∀k∈ks,c≤k∧k<2147483647)→c≤2147483647→ks.Pairwise (· < ·)→
  GotIs base (absorbG cum (ks.map fun k=>w32 (base+(k:Nat)))).1 (absorbG cum (ks.map fun k=>w32 (base+(k:Nat)))).2 (absorbK c ks).1 (absorbK c ks).2∧
   ∀j,j<(absorbK c ks).1∨j∈(absorbK c ks).2↔j<c∨j∈ks
 | [],c,cum,hc,_,_,_=>⟨⟨hc,rfl,.nil,fun k h=>by cases h⟩,fun j=>Iff.rfl⟩
 |k::t,c,cum,hc,hks,hl,hp=>by
  obtain ⟨h1,h2⟩:=hks k List.mem_cons_self
  have e:w32 (cum+1)=w32 (base+c):=by rw [hc];unfold w32;omega
  rw [List.map_cons]
  unfold absorbG absorbK
  by_cases hk:k=c
  ·subst hk
   rw [if_pos (by rw [e]),if_pos rfl]
   have hp':=List.pairwise_cons.1 hp
   obtain ⟨r1,r2⟩:=absorb_map (ks:=t) (c:=k+1) (cum:=w32 (cum+1)) (by rw [e];unfold w32;omega) (fun j hj=>⟨by have:=hp'.1 j hj;omega,(hks j (List.mem_cons_of_mem _ hj)).2⟩) (by omega) hp'.2
   refine ⟨r1,fun j=>(r2 j).trans ?_⟩
   rw [List.mem_cons]
   constructor
   ·rintro (h|h)
    ·rcases Nat.lt_or_ge j k with h'|h'
     ·exact .inl h'
     ·exact .inr (.inl (by omega))
    ·exact .inr (.inr h)
   ·rintro (h|h|h)
    ·exact .inl (by omega)
    ·exact .inl (by omega)
    ·exact .inr h
  ·rw [if_neg (fun h=>hk (by rw [e] at h;exact w32_inj (by omega) (by omega) h)),if_neg hk]
   refine ⟨⟨hc,by rw [List.map_cons],hp,fun j hj=>?_⟩,fun j=>Iff.rfl⟩
   rcases List.mem_cons.1 hj with rfl|hj
   ·omega
   ·have:=(List.pairwise_cons.1 hp).1 j hj
    omega
theorem take_spec (G:GotIs base cum l c ks) (hk:∀k∈ks,k<2147483647) (hc:c≤2147483647) {j:Nat} (hj:j<2147483647) (hn:¬(j<c∨j∈ks)) (hf:j≤c+3999) :
  (takeG cum l (w32 (base+j))).2=true∧∃c' ks',GotIs base (takeG cum l (w32 (base+j))).1.1 (takeG cum l (w32 (base+j))).1.2 c' ks'∧∀k,k<c'∨k∈ks'↔k=j∨k<c∨k∈ks:=by
 have hcj:c≤j:=by omega
 unfold takeG
 rw [key_ge G.cum hcj (by omega),if_neg (by omega)]
 have hks:∀k∈ks,c≤k∧k<2147483648:=fun k h=>⟨Nat.le_of_lt (G.gt k h),by have:=hk k h;omega⟩
 obtain ⟨r1,r2⟩:=absorb_map (base:=base) (ks:=insK ks j) G.cum (fun k h=>by
  rcases mem_insK.1 h with rfl|h
  ·exact ⟨hcj,hj⟩
  ·exact ⟨(hks k h).1,hk k h⟩) hc (insK_up G.up fun h=>hn (.inr h))
 rw [G.l,ins_map G.cum hcj (by omega) hks]
 refine ⟨rfl,_,_,r1,fun k=>(r2 k).trans ?_⟩
 rw [mem_insK]
 constructor
 ·rintro (h|h|h)
  ·exact .inr (.inl h)
  ·exact .inl h
  ·exact .inr (.inr h)
 ·rintro (h|h|h)
  ·exact .inr (.inl h)
  ·exact .inl h
  ·exact .inr (.inr h)
end
end Towline.Ac
namespace Go.Proofs.YtbkcekmahdbgdaaGreat
open Go Go.RowKit Towline Towline.Hand Towline.Ac
set_option linter.unusedVariables false
set_option linter.unusedSimpArgs false
set_option maxRecDepth 20000
set_option maxHeartbeats 4000000
theorem slT_app {α:Type} [Inhabited α] (enc:α→List D) (l:List α) (x:α) (k:Nat) (hk:k<l.length+1) {f:Nat→List D} (hf:f 0=enc x):fcat (fun k=>enc (l.getD k default)) l.length f k=enc ((l++[x]).getD k default):=by
 unfold fcat
 split
 ·rename_i h
  simp only [List.getD_eq_getElem?_getD,List.getElem?_append,h,if_true]
 ·have:k=l.length:=by omega
  subst this
  simp [hf]
theorem cloneSp_spec {α:Type} [Inhabited α] (enc:α→List D) (l:List α) (hl:l.length≤2 ^ 30) :
  PSpec Tryz.prog 98 [.d (slT 7 enc l)] (· = .fresh 194 7 l.length fun k=>enc (l.getD k default)):=by
 refine PSpec.runF (tysOk) followsB Tryz.func98 (by decide) rfl Tryz.ntmps98 (Nat.le_of_ble_eq_true rfl) rfl fun w0 R0 hGw=>?_
 conv=>whnf
 intro b hb
 cases b with
 |true=>
  have h0:l.length=0:=by
   rcases Nat.eq_zero_or_pos l.length with h|h
   ·exact h
   ·have:=hb h;cases this
  conv=>whnf
  exact ⟨194,7,_,by rw [h0]⟩
 |false=>
  conv=>whnf
  refine ⟨⟨rfl,by omega,by simp only [ty194];omega⟩,?_⟩
  conv=>whnf
  refine ⟨rfl,rfl,l.length,_,by omega,fun k hk=>?_,rfl⟩
  simp [fcat]
theorem cloneFp_spec {α:Type} [Inhabited α] (enc:α→List D) (l:List α) (hl:l.length≤2 ^ 30) :
  PSpec Tryz.prog 136 [.d (slT 8 enc l)] (· = .fresh 167 8 l.length fun k=>enc (l.getD k default)):=by
 refine PSpec.runF (tysOk) followsB Tryz.func136 (by decide) rfl Tryz.ntmps136 (Nat.le_of_ble_eq_true rfl) rfl fun w0 R0 hGw=>?_
 conv=>whnf
 intro b hb
 cases b with
 |true=>
  have h0:l.length=0:=by
   rcases Nat.eq_zero_or_pos l.length with h|h
   ·exact h
   ·have:=hb h;cases this
  conv=>whnf
  exact ⟨167,8,_,by rw [h0]⟩
 |false=>
  conv=>whnf
  refine ⟨⟨rfl,by omega,by simp only [ty167];omega⟩,?_⟩
  conv=>whnf
  refine ⟨rfl,rfl,l.length,_,by omega,fun k hk=>?_,rfl⟩
  simp [fcat]
theorem cloneFm_spec {α:Type} [Inhabited α] (enc:α→List D) (l:List α) (hl:l.length≤2 ^ 30) :
  PSpec Tryz.prog 88 [.d (slT 6 enc l)] (· = .fresh 116 6 l.length fun k=>enc (l.getD k default)):=by
 refine PSpec.runF (tysOk) followsB Tryz.func88 (by decide) rfl Tryz.ntmps88 (Nat.le_of_ble_eq_true rfl) rfl fun w0 R0 hGw=>?_
 conv=>whnf
 intro b hb
 cases b with
 |true=>
  have h0:l.length=0:=by
   rcases Nat.eq_zero_or_pos l.length with h|h
   ·exact h
   ·have:=hb h;cases this
  conv=>whnf
  exact ⟨116,6,_,by rw [h0]⟩
 |false=>
  conv=>whnf
  refine ⟨⟨rfl,by omega,by simp only [ty116];omega⟩,?_⟩
  conv=>whnf
  refine ⟨rfl,rfl,l.length,_,by omega,fun k hk=>?_,rfl⟩
  simp [fcat]
theorem cloneU32_spec {α:Type} [Inhabited α] (enc:α→List D) (l:List α) (hl:l.length≤2 ^ 30) :
  PSpec Tryz.prog 133 [.d (slT 1 enc l)] (· = .fresh 38 1 l.length fun k=>enc (l.getD k default)):=by
 refine PSpec.runF (tysOk) followsB Tryz.func133 (by decide) rfl Tryz.ntmps133 (Nat.le_of_ble_eq_true rfl) rfl fun w0 R0 hGw=>?_
 conv=>whnf
 intro b hb
 cases b with
 |true=>
  have h0:l.length=0:=by
   rcases Nat.eq_zero_or_pos l.length with h|h
   ·exact h
   ·have:=hb h;cases this
  conv=>whnf
  exact ⟨38,1,_,by rw [h0]⟩
 |false=>
  conv=>whnf
  refine ⟨⟨rfl,by omega,by simp only [ty38];omega⟩,?_⟩
  conv=>whnf
  refine ⟨rfl,rfl,l.length,_,by omega,fun k hk=>?_,rfl⟩
  simp [fcat]
theorem cloneU16_spec {α:Type} [Inhabited α] (enc:α→List D) (l:List α) (hl:l.length≤2 ^ 30) :
  PSpec Tryz.prog 144 [.d (slT 1 enc l)] (· = .fresh 39 1 l.length fun k=>enc (l.getD k default)):=by
 refine PSpec.runF (tysOk) followsB Tryz.func144 (by decide) rfl Tryz.ntmps144 (Nat.le_of_ble_eq_true rfl) rfl fun w0 R0 hGw=>?_
 conv=>whnf
 intro b hb
 cases b with
 |true=>
  have h0:l.length=0:=by
   rcases Nat.eq_zero_or_pos l.length with h|h
   ·exact h
   ·have:=hb h;cases this
  conv=>whnf
  exact ⟨39,1,_,by rw [h0]⟩
 |false=>
  conv=>whnf
  refine ⟨⟨rfl,by omega,by simp only [ty39];omega⟩,?_⟩
  conv=>whnf
  refine ⟨rfl,rfl,l.length,_,by omega,fun k hk=>?_,rfl⟩
  simp [fcat]
theorem sentNext_spec (xc:Int) (l:List Sp) (hl:l.length≤2 ^ 30):PSpec Tryz.prog 173 [.agg [v32 xc,.d (slT 7 encSp l)]] (· = v32 (IntKind.u32.wrap (IntKind.u32.wrap (xc+IntKind.u32.wrap (l.length:Int))+1))):=by
 refine PSpec.run (tysOk) followsB Tryz.func173 (by decide) rfl Tryz.ntmps173 (Nat.le_of_ble_eq_true rfl) rfl fun w0 R0 hGw=>?_
 conv=>whnf
 exact ⟨_,.refl _,rfl,rfl⟩
abbrev nextX (xc:Int) (l:List Sp):Int:=IntKind.u32.wrap (IntKind.u32.wrap (xc+IntKind.u32.wrap (l.length:Int))+1)
abbrev xA (xc:Int) (l:List Sp):AVal:=.agg [v32 xc,.d (slT 7 encSp l)]
theorem sentPut_spec (xc:Int) (l:List Sp) (size path now:Int) (hl:l.length<64) (hs:1≤size∧size≤1500):PSpec Tryz.prog 116 [xA xc l,vi size,vi path,vi now] (· = .tup [xA xc (l++[⟨nextX xc l,size,1,0,1,path,now⟩]),v32 (nextX xc l),vi 0]):=by
 refine PSpec.run (tysOk) followsB Tryz.func116 (by decide) rfl Tryz.ntmps116 (Nat.le_of_ble_eq_true rfl) rfl fun w0 R0 hGw=>?_
 conv=>whnf
 rw [show decide (size<1)=false from decide_eq_false (by omega)]
 conv=>whnf
 rw [show decide (1500<size)=false from decide_eq_false (by omega)]
 conv=>whnf
 rw [show decide ((64:Int)≤l.length)=false from decide_eq_false (by omega)]
 conv=>whnf
 refine ⟨_,(sentNext_spec xc l (by omega)),?_⟩
 rintro q rfl
 conv=>whnf
 refine ⟨_,(cloneSp_spec encSp l (by omega)),?_⟩
 conv=>whnf
 refine ⟨⟨⟨rfl,by omega,by simp only [ty194];omega⟩,Nat.le_refl _⟩,?_⟩
 conv=>whnf
 refine gR ?_
 conv=>whnf
 refine gR ?_
 conv=>whnf
 refine gO ?_
 conv=>whnf
 refine ⟨_,?_,rfl,rfl⟩
 exact .tup ⟨.agg ⟨.refl _,.sl (by simp) (fun k hk=>slT_app encSp l ⟨nextX xc l,size,1,0,1,path,now⟩ k hk rfl),trivial⟩,.refl _,.refl _,trivial⟩
theorem find1_spec (m:Fm) (stream ssn:Int):PSpec Tryz.prog 197 [fmA m,.eptr 1 1 (fun _=>[.i .u16 stream]) 0 0,.eptr 1 1 (fun _=>[.i .u16 ssn]) 0 0] (· = vb (m.stream==stream&&m.ssn==ssn)):=by
 refine PSpec.run (tysOk) followsB Tryz.func197 (by decide) rfl Tryz.ntmps197 (Nat.le_of_ble_eq_true rfl) rfl fun w0 R0 hGw=>?_
 conv=>whnf
 cases g1:(m.stream==stream)
 ·conv=>whnf
  exact ⟨_,.refl _,rfl,rfl⟩
 ·conv=>whnf
  exact ⟨_,.refl _,rfl,rfl⟩
theorem indexFm_spec (stream ssn:Int) (l:List Fm) (hl:l.length≤2 ^ 30):PSpec Tryz.prog 196 [.d (slT 6 encFm l),.fn 197 [.eptr 1 1 (fun _=>[.i .u16 stream]) 0 0,.eptr 1 1 (fun _=>[.i .u16 ssn]) 0 0]] (· = vi (idx (fun m=>m.stream==stream&&m.ssn==ssn) l)):=by
 refine PSpec.run (tysOk) followsB Tryz.func196 (by decide) rfl Tryz.ntmps196 (Nat.le_of_ble_eq_true rfl) rfl fun w0 R0 hGw=>?_
 conv=>whnf
 refine ALoop.intro tysOk followsB (fun k:{k // k≤l.length∧∀j,j<k→(fun m:Fm=>m.stream==stream&&m.ssn==ssn) (l.getD j default)=false}=>([(0,.d (slT 6 encFm l)),(1,.fn 197 [.eptr 1 1 (fun _=>[.i .u16 stream]) 0 0,.eptr 1 1 (fun _=>[.i .u16 ssn]) 0 0]),(6,.d (slT 6 encFm l)),(7,vi l.length),(8,vi k.1)],[])) (fun k=>l.length-k.1) ⟨0,by omega,fun j hj=>by omega⟩ ?_ ?_
 ·exact ⟨.refl _,.refl _,.refl _,.refl _,.refl _,trivial⟩
 ·rintro ⟨k,hk,hall⟩
  dsimp only
  conv=>whnf
  split<;>rename_i hlt
  ·have hlt:k<l.length:=by simpa using hlt
   conv=>whnf
   refine gO ?_
   conv=>whnf
   refine ⟨_,(find1_spec (l.getD k default) stream ssn),?_⟩
   rintro q rfl
   conv=>whnf
   cases hout:((l.getD k default).stream==stream&&(l.getD k default).ssn==ssn)
   ·conv=>whnf
    refine gO ?_
    conv=>whnf
    refine ⟨⟨k+1,by omega,fun j hj=>?_⟩,by dsimp only;omega,.refl _,.refl _,.refl _,.refl _,.refl _,trivial⟩
    rcases Nat.lt_or_eq_of_le (show j≤k from by omega) with h|rfl
    ·exact hall j h
    ·exact hout
   ·conv=>whnf
    exact ⟨_,.refl _,by rw [idx_at (fun m:Fm=>m.stream==stream&&m.ssn==ssn) l k hlt hall hout],rfl⟩
  ·have hlt:¬k<l.length:=by simpa using hlt
   obtain rfl:k=l.length:=by omega
   conv=>whnf
   exact ⟨_,.refl _,by rw [idx_none (fun m:Fm=>m.stream==stream&&m.ssn==ssn) l hall],rfl⟩
theorem find_spec (nx:D) (l:List Fm) (stream ssn:Int) (hl:l.length≤2 ^ 30):PSpec Tryz.prog 143 [.agg [.d nx,.d (slT 6 encFm l)],v16 stream,v16 ssn] (· = vi (idx (fun m=>m.stream==stream&&m.ssn==ssn) l)):=by
 refine PSpec.run (tysOk) followsB Tryz.func143 (by decide) rfl Tryz.ntmps143 (Nat.le_of_ble_eq_true rfl) rfl fun w0 R0 hGw=>?_
 conv=>whnf
 refine ⟨_,(indexFm_spec stream ssn l hl),?_⟩
 rintro q rfl
 conv=>whnf
 exact ⟨_,.refl _,rfl,rfl⟩
theorem wrapU (n:Int):IntKind.u32.wrap n=w32 n:=by simp [IntKind.wrap,IntKind.signed,IntKind.bits,w32]
abbrev encU (n:Int):List D:=[.i .u32 n]
theorem half_eq (i j:Nat) (h:i+j<4294967296):shrOp .u64 (IntKind.u64.wrap ((i:Int)+j)) 1=(((i+j) / 2:Nat):Int):=by
 have e:IntKind.u64.wrap ((i:Int)+j)=((i+j:Nat):Int):=by simp [IntKind.wrap,IntKind.signed,IntKind.bits];omega
 rw [e]
 unfold shrOp
 rw [show min (Int.toNat 1) IntKind.u64.bits=1 from rfl,Int.fdiv_eq_ediv_of_nonneg _ (by decide)]
 simp
theorem place1k_spec (n a cum:Int) (x y:D):PSpec Tryz.prog 188 [v32 a,v32 n,.eptr 3 1 (fun _=>[.i .u32 cum,x,y]) 0 0] (· = vi (if key cum a<key cum n then -1 else if key cum n<key cum a then 1 else 0)):=by
 have:=place1_spec n a cum x y
 simpa only [wrapU] using this
abbrev plF (cum:Int) (x y:D):AVal:=.fn 188 [.eptr 3 1 (fun _=>[.i .u32 cum,x,y]) 0 0]
theorem posG_eq {cum:Int}:∀(l:List Int) (n:Int) (i:Nat),i≤l.length→(∀a,a<i→key cum (l.getD a default)<key cum n)→(∀a,i≤a→a<l.length→¬key cum (l.getD a default)<key cum n)→posG cum l n=i
 | [],n,i,h,_,_=>by simp at h;simp [posG,h]
 |x::r,n,0,_,_,h=>by
  have:=h 0 (by omega) (by simp)
  unfold posG
  rw [List.takeWhile_cons,if_neg (by simpa using this)];rfl
 |x::r,n,i+1,h1,h2,h3=>by
  have h0:=h2 0 (by omega)
  have ih:=posG_eq r n i (by simpa using h1) (fun a ha=>by simpa using h2 (a+1) (by omega)) (fun a ha hb=>by simpa using h3 (a+1) (by omega) (by simpa using hb))
  unfold posG at ih ⊢
  rw [List.takeWhile_cons,if_pos (by simpa using h0),List.length_cons,ih]
theorem bsearch_spec (cum:Int) (x y:D) (l:List Int) (n:Int) (hl:l.length≤2 ^ 30) (hp:l.Pairwise fun a b=>key cum a<key cum b):PSpec Tryz.prog 187 [.d (slT 1 encU l),v32 n,plF cum x y] (· = .tup [vi (posG cum l n),vb (decide (posG cum l n<l.length∧key cum (l.getD (posG cum l n) default)=key cum n))]):=by
 refine PSpec.run (tysOk) followsB Tryz.func187 (by decide) rfl Tryz.ntmps187 (Nat.le_of_ble_eq_true rfl) rfl fun w0 R0 hGw=>?_
 conv=>whnf
 refine ALoop.intro tysOk followsB (fun k:{k:Nat×Nat // k.1≤k.2∧k.2≤l.length∧(∀a,a<k.1→key cum (l.getD a default)<key cum n)∧∀a,k.2≤a→a<l.length→¬key cum (l.getD a default)<key cum n}=>([(0,.d (slT 1 encU l)),(1,v32 n),(2,plF cum x y),(8,vi l.length),(9,vi k.1.1),(10,vi k.1.2)],[])) (fun k=>k.1.2-k.1.1) ⟨(0,l.length),by omega,by omega,fun a ha=>by omega,fun a h1 h2=>by omega⟩ ?_ ?_
 ·exact ⟨.refl _,.refl _,.refl _,.refl _,.refl _,.refl _,trivial⟩
 ·rintro ⟨⟨i,j⟩,hij,hjl,hlo,hhi⟩
  dsimp only at hij hjl hlo hhi ⊢
  conv=>whnf
  split<;>rename_i hlt
  ·have hlt:i<j:=by simpa using hlt
   conv=>whnf
   refine ⟨by omega,?_⟩
   conv=>whnf
   refine gK ?_
   conv=>whnf
   rw [half_eq i j (by omega)]
   refine ⟨by omega,?_⟩
   conv=>whnf
   have hh:(i+j) / 2<j:=by omega
   have hi':i≤(i+j) / 2:=by omega
   generalize (i+j) / 2=h at hh hi'
   refine gO ?_
   conv=>whnf
   rw [tnC]
   refine ⟨_,(place1k_spec n (l.getD h default) cum x y),?_⟩
   rintro q rfl
   conv=>whnf
   have hsort:∀a b,a<b→b<l.length→key cum (l.getD a default)<key cum (l.getD b default):=fun a b hab hb=>by
    have:=List.pairwise_iff_getElem.1 hp a b (by omega) hb hab
    simpa [List.getD_eq_getElem?_getD,List.getElem?_eq_getElem hb,List.getElem?_eq_getElem (show a<l.length from by omega)] using this
   by_cases hlt2:key cum (l.getD h default)<key cum n
   ·rw [if_pos hlt2]
    conv=>whnf
    refine gO ?_
    conv=>whnf
    refine ⟨⟨(h+1,j),by dsimp only;omega,by dsimp only;omega,fun a ha=>?_,hhi⟩,by dsimp only;omega,.refl _,.refl _,.refl _,.refl _,.refl _,.refl _,trivial⟩
    rcases Nat.lt_or_eq_of_le (show a≤h from by dsimp only at ha;omega) with h'|rfl
    ·have:=hsort a h h' (by omega)
     omega
    ·exact hlt2
   ·rw [if_neg hlt2]
    have hf:decide ((if key cum n<key cum (l.getD h default) then (1:Int) else 0)<0)=false:=by split<;>rfl
    conv=>whnf
    rw [hf]
    conv=>whnf
    refine ⟨⟨(i,h),by dsimp only;omega,by dsimp only;omega,hlo,fun a ha hb=>?_⟩,by dsimp only;omega,.refl _,.refl _,.refl _,.refl _,.refl _,.refl _,trivial⟩
    rcases Nat.lt_or_eq_of_le (show h≤a from ha) with h'|rfl
    ·have:=hsort h a h' hb
     omega
    ·exact hlt2
  ·have hlt:¬i<j:=by simpa using hlt
   obtain rfl:i=j:=by omega
   have hpos:=posG_eq l n i hjl hlo hhi
   rw [hpos]
   conv=>whnf
   cases hi:decide ((i:Int)<l.length)
   ·have hi:=of_decide_eq_false hi
    conv=>whnf
    exact ⟨_,.refl _,by rw [decide_eq_false (fun h=>hi (by omega))],rfl⟩
   ·have hi:=of_decide_eq_true hi
    have hi:i<l.length:=by omega
    conv=>whnf
    refine gO ?_
    conv=>whnf
    refine ⟨_,(place1k_spec n (l.getD i default) cum x y),?_⟩
    rintro q rfl
    conv=>whnf
    have hge:=hhi i (Nat.le_refl _) hi
    rw [if_neg hge]
    by_cases hlt2:key cum n<key cum (l.getD i default)
    ·rw [if_pos hlt2]
     conv=>whnf
     exact ⟨_,.refl _,by rw [decide_eq_false (fun h=>by omega)];rfl,rfl⟩
    ·rw [if_neg hlt2]
     conv=>whnf
     exact ⟨_,.refl _,by rw [decide_eq_true (⟨hi,by omega⟩:_∧_)];rfl,rfl⟩
theorem place_spec (cum:Int) (l:List Int) (y:D) (n:Int) (hl:l.length≤2 ^ 30) (hp:l.Pairwise fun a b=>key cum a<key cum b):PSpec Tryz.prog 130 [.agg [v32 cum,.d (slT 1 encU l),.d y],v32 n] (· = .tup [vi (posG cum l n),vb (decide (posG cum l n<l.length∧key cum (l.getD (posG cum l n) default)=key cum n))]):=by
 refine PSpec.run (tysOk) followsB Tryz.func130 (by decide) rfl Tryz.ntmps130 (Nat.le_of_ble_eq_true rfl) rfl fun w0 R0 hGw=>?_
 conv=>whnf
 refine ⟨_,(bsearch_spec cum (slT 1 encU l) y l n hl hp),?_⟩
 rintro q rfl
 conv=>whnf
 exact ⟨_,.refl _,rfl,rfl⟩
def rmap:Nat→List Fp→List (D×D)
 |_,[]=>[]
 |i,x::r=>(.i .u32 x.tsn,.i .i64 ((i+1:Nat):Int))::rmap (i+1) r
theorem rmap_snoc:∀(l:List Fp) (i:Nat) (x:Fp),rmap i (l++[x])=rmap i l++[(.i .u32 x.tsn,.i .i64 ((i+l.length+1:Nat):Int))]
 | [],i,x=>rfl
 |y::r,i,x=>by
  show _::rmap (i+1) (r++[x])=_
  rw [rmap_snoc r (i+1) x,show i+1+r.length+1=i+(y::r).length+1 from by simp;omega]
  rfl
theorem findD0_rmap (n:Int):∀(l:List Fp) (i j:Nat),findD0 (.i .u32 n) (rmap i l) j=some ((l.findIdx? (·.tsn==n)).map fun a=>(j+a,D.i .i64 ((i+a+1:Nat):Int)))
 | [],i,j=>rfl
 |x::r,i,j=>by
  show (match some (n==x.tsn) with|some true=>some (some (j,D.i .i64 ((i+1:Nat):Int)))|some false=>findD0 (.i .u32 n) (rmap (i+1) r) (j+1)|none=>none)=_
  rw [List.findIdx?_cons]
  by_cases h:n=x.tsn
  ·subst h;simp
  ·rw [show (n==x.tsn)=false from beq_eq_false_iff_ne.2 h,show (x.tsn==n)=false from beq_eq_false_iff_ne.2 fun e=>h e.symm]
   show findD0 (.i .u32 n) (rmap (i+1) r) (j+1)=_
   rw [findD0_rmap n r (i+1) (j+1)]
   cases r.findIdx? (·.tsn==n) with
   |none=>rfl
   |some a=>
    show some (some (j+1+a,D.i .i64 ((i+1+a+1:Nat):Int)))=some (some (j+(a+1),D.i .i64 ((i+(a+1)+1:Nat):Int)))
    rw [show j+1+a=j+(a+1) from by omega,show i+1+a+1=i+(a+1)+1 from by omega]
abbrev gF (l:List Fp) (n:Int):Option (Nat×D):=(l.findIdx? (·.tsn==n)).map fun a=>(a,D.i .i64 ((a+1:Nat):Int))
theorem findD_rmap (n:Int) (l:List Fp):findD (.i .u32 n) (rmap 0 l)=some (gF l n):=by
 unfold findD
 rw [findD0_rmap]
 unfold gF
 cases l.findIdx? (·.tsn==n) with
 |none=>rfl
 |some a=>
  show some (some (0+a,D.i .i64 ((0+a+1:Nat):Int)))=some (some (a,D.i .i64 ((a+1:Nat):Int)))
  rw [Nat.zero_add]
theorem gF_at (l:List Fp) (n:Int):getD2 (.i .i64 0) (gF l n)=.i .i64 (atF l n:Nat):=by
 unfold gF atF
 cases l.findIdx? (·.tsn==n)<;>rfl
theorem putM_rmap (l:List Fp) (k:Nat) (hk:k<l.length) (hnd:(l.map (·.tsn)).Nodup):gF (l.take k) (l.getD k default).tsn=none∧putM none (.i .u32 (l.getD k default).tsn) (.i .i64 ((k+1:Nat):Int)) (rmap 0 (l.take k))=rmap 0 (l.take (k+1)):=by
 constructor
 ·unfold gF
  rw [List.findIdx?_eq_none_iff.2 fun x hx=>?_]
  ·rfl
  ·obtain ⟨j,hj,rfl⟩:=List.getElem_of_mem hx
   rw [List.length_take] at hj
   rw [beq_eq_false_iff_ne,List.getElem_take]
   have:=List.pairwise_iff_getElem.1 hnd j k (by simp;omega) (by simpa using hk) (by omega)
   simpa [List.getD_eq_getElem?_getD,List.getElem?_eq_getElem hk] using this
 ·unfold putM
  rw [take_snoc l k hk,rmap_snoc,List.length_take,Nat.min_eq_left (Nat.le_of_lt hk),Nat.zero_add]
abbrev fpL (p:Fp):List AVal:=[v32 p.tsn,vb p.b,vb p.e,vb p.f,v16 p.stream,v16 p.ssn,v32 p.ppid,vs p.text]
abbrev TR:Tys:=tysX false [] [] [7000000000+294]
theorem tysROk:TysOk Tryz.prog TR:=tysXOk _ _ _ _
abbrev encJ (n:Nat):List D:=[.i .i64 n]
def plcsA:Option (List Nat)→AVal
 |none=>.d nilD
 |some l=>.d (slT 1 encJ l)
theorem lastD_mem {l:List Fp} (h0:l≠[]):l.getLastD default∈l:=by
 rw [List.getLastD_eq_getLast?]
 cases h:l.getLast? with
 |none=>exact absurd (List.getLast?_eq_none_iff.1 h) h0
 |some x=>exact List.mem_of_getLast? h
theorem at_ne0 {l:List Fp} {x:Fp} (h:x∈l):atF l x.tsn≠0:=by
 unfold atF
 cases e:l.findIdx? (·.tsn==x.tsn) with
 |none=>
  have:=List.findIdx?_eq_none_iff.1 e x h
  simp at this
 |some i=>simp
theorem at_le (l:List Fp) (n:Int):atF l n≤l.length:=by
 unfold atF
 cases e:l.findIdx? (·.tsn==n) with
 |none=>simp
 |some i=>
  have:=(List.findIdx?_eq_some_iff_getElem.1 e).1
  simp;omega
theorem at_mem {l:List Fp} {n:Int} (h:atF l n≠0):n∈l.map (·.tsn):=by
 unfold atF at h
 cases e:l.findIdx? (·.tsn==n) with
 |none=>rw [e] at h;simp at h
 |some i=>
  obtain ⟨h1,h2,_⟩:=List.findIdx?_eq_some_iff_getElem.1 e
  exact List.mem_map.2 ⟨l[i],List.getElem_mem h1,by simpa using h2⟩
theorem pigeon (l:List Fp) (t:Int) (m:Nat) (hm:m<4294967295) (h:∀j:Nat,j≤m→atF l (w32 (t-j))≠0):m+1≤l.length:=by
 have hn:((List.range (m+1)).map fun j:Nat=>w32 (t-(j:Int))).Nodup:=by
  refine List.Pairwise.map _ (fun a b hab=>?_) (List.pairwise_lt_range (n:=m+1) |>.imp_of_mem fun {a b} ha hb hab=>(⟨hab,by simpa using hb⟩:a<b∧b<m+1))
  unfold w32;omega
 have:=hn.length_le_of_subset (l₂:=l.map (·.tsn)) fun x hx=>by
  obtain ⟨j,hj,rfl⟩:=List.mem_map.1 hx
  exact at_mem (h j (by have:=List.mem_range.1 hj;omega))
 simpa using this
theorem row_spec (l : List Fp) (h0 : l ≠ []) (hl : l.length ≤ 2 ^ 30) (hnd : (l.map (·.tsn)).Nodup) (hu : ∀ p ∈ l, 0 ≤ p.tsn ∧ p.tsn < 4294967296) : PSpec Tryz.prog 137 [.d (slT 8 encFp l)] (· = plcsA (rowF l)) := by
  have hpos : 0 < l.length := List.length_pos_iff.2 h0
  have hp : l.getD ((l.length : Int) - 1).toNat default = l.getLastD default := by
    rw [show ((l.length : Int) - 1).toNat = l.length - 1 from by omega, List.getLastD_eq_getLast?, List.getLast?_eq_getElem?, List.getD_eq_getElem?_getD]
  have ht0 : w32 ((l.getLastD default).tsn - ((0 : Nat) : Int)) = (l.getLastD default).tsn := by
    have := hu _ (lastD_mem h0)
    unfold w32; omega
  have hat0 : ∀ j : Nat, j ≤ 0 → atF l (w32 ((l.getLastD default).tsn - j)) ≠ 0 := fun j hj => by
    obtain rfl : j = 0 := by omega
    rw [ht0]
    exact at_ne0 (lastD_mem h0)
  have hb0 : rowBack l (l.getLastD default) l.length (l.getLastD default).tsn = rowBack l (l.getLastD default) (l.length - 0) (w32 ((l.getLastD default).tsn - ((0 : Nat) : Int))) := by rw [ht0]; rfl
  refine PSpec.run (tysROk) followsB Tryz.func137 (by decide) rfl Tryz.ntmps137 (Nat.le_of_ble_eq_true rfl) rfl fun w0 R0 hGw => ?_
  conv => whnf
  refine gO ?_
  conv => whnf
  refine gO ?_
  conv => whnf
  rw [hp]
  generalize hpp : l.getLastD default = p at ht0 hat0 hb0
  conv => whnf
  refine ALoop.intro tysROk followsB (fun k : {k // k ≤ l.length} => ([(0, .d (slT 8 encFp l)), (3, .ptr 3 0), (4, .mref 18), (19, .d (slT 8 encFp l)), (20, vi l.length), (21, vi k.1), (2, .d nilD)], [(18, .dmp (rmap 0 (l.take k.1))), (3, .box (fpL p))])) (fun k => l.length - k.1) ⟨0, by omega⟩ ?_ ?_
  · exact ⟨.refl _, .refl _, .refl _, .refl _, .refl _, .refl _, .refl _, OLe.refl _, OLe.refl _, trivial⟩
  · rintro ⟨k, hk⟩
    dsimp only
    conv => whnf
    split <;> rename_i hlt
    · have hlt : k < l.length := by simpa using hlt
      obtain ⟨m1, m2⟩ := putM_rmap l k hlt hnd
      conv => whnf
      refine gO ?_
      conv => whnf
      refine gO ?_
      conv => whnf
      rw [tnC]
      refine ⟨_, (findD_rmap _ _).trans (by rw [m1]), ?_⟩
      conv => whnf
      refine ⟨_, m2, ?_⟩
      conv => whnf
      refine gO ?_
      conv => whnf
      refine ⟨⟨k + 1, by omega⟩, by dsimp only; omega, .refl _, .refl _, .refl _, .refl _, .refl _, .refl _, .refl _, OLe.refl _, OLe.refl _, trivial⟩
    · have hlt : ¬ k < l.length := by simpa using hlt
      obtain rfl : k = l.length := by omega
      rw [List.take_length]
      conv => whnf
      refine ALoop.intro tysROk followsB (fun m : {m : Nat // m < l.length ∧ (∀ j : Nat, j ≤ m → atF l (w32 (p.tsn - j)) ≠ 0) ∧ rowBack l p l.length p.tsn = rowBack l p (l.length - m) (w32 (p.tsn - m))} => ([(0, .d (slT 8 encFp l)), (3, .ptr 3 0), (4, .mref 18), (7, v32 (w32 (p.tsn - m.1))), (2, .d nilD)], [(18, .dmp (rmap 0 l)), (3, .box (fpL p))])) (fun m => l.length - m.1) ⟨0, hpos, hat0, hb0⟩ ?_ ?_
      · exact ⟨.refl _, .refl _, .refl _, .of_eq (by dsimp only; rw [ht0]), .refl _, OLe.refl _, OLe.refl _, trivial⟩
      · rintro ⟨m, hm, hat, hbk⟩
        dsimp only
        conv => whnf
        refine ⟨_, findD_rmap _ l, ?_⟩
        rw [gF_at]
        have hle := at_le l (w32 (p.tsn - m))
        have hne := hat m (Nat.le_refl _)
        have epc : l.getD ((atF l (w32 (p.tsn - m)) : Int) - 1).toNat default = pcF l (atF l (w32 (p.tsn - m))) := by unfold pcF; congr 1; omega
        conv => whnf
        refine ⟨by omega, ?_⟩
        conv => whnf
        refine ⟨by omega, ?_⟩
        conv => whnf
        rw [epc]
        have hstep : rowBack l p (l.length - m) (w32 (p.tsn - m)) = if (pcF l (atF l (w32 (p.tsn - m)))).b then some (w32 (p.tsn - m)) else
            if atF l (w32 (p.tsn - (m + 1 : Nat))) = 0 ∨ (pcF l (atF l (w32 (p.tsn - (m + 1 : Nat))))).e = true ∨ kin (pcF l (atF l (w32 (p.tsn - (m + 1 : Nat))))) p = false ∨ w32 (p.tsn - (m + 1 : Nat)) = p.tsn then none else rowBack l p (l.length - (m + 1)) (w32 (p.tsn - (m + 1 : Nat))) := by
          rw [show l.length - m = (l.length - (m + 1)) + 1 from by omega, rowBack, show w32 (w32 (p.tsn - m) - 1) = w32 (p.tsn - (m + 1 : Nat)) from by unfold w32; omega]
        have hrow : rowF l = match rowBack l p (l.length - m) (w32 (p.tsn - m)) with | none => none | some first => rowFwd l p first l.length first [] := by
          unfold rowF; rw [hpp, hbk] <;> rfl
        cases hb : (pcF l (atF l (w32 (p.tsn - m)))).b
        · rw [hb, if_neg (by simp)] at hstep
          have ew : IntKind.u32.wrap (w32 (p.tsn - m) - 1) = w32 (p.tsn - (m + 1 : Nat)) := by rw [wrapU]; unfold w32; omega
          conv => whnf
          rw [ew]
          generalize hn' : w32 (p.tsn - (m + 1 : Nat)) = n' at hstep
          refine ⟨_, findD_rmap _ l, ?_⟩
          rw [gF_at]
          have hle' := at_le l n'
          conv => whnf
          by_cases h1 : atF l n' = 0
          · rw [h1] at hstep ⊢
            rw [if_pos (.inl rfl)] at hstep
            rw [hstep] at hrow
            conv => whnf
            refine gR ?_
            conv => whnf
            exact ⟨_, .refl _, by rw [hrow]; rfl, rfl⟩
          · rw [show ((atF l n' : Int) == 0) = false from beq_eq_false_iff_ne.2 (by omega)]
            have epc' : l.getD ((atF l n' : Int) - 1).toNat default = pcF l (atF l n') := by unfold pcF; congr 1; omega
            conv => whnf
            refine ⟨by omega, ?_⟩
            conv => whnf
            refine ⟨by omega, ?_⟩
            conv => whnf
            rw [epc']
            cases h2 : (pcF l (atF l n')).e
            · conv => whnf
              refine ⟨by omega, ?_⟩
              conv => whnf
              refine ⟨by omega, ?_⟩
              conv => whnf
              rw [epc']
              refine ⟨_, (kin_spec (pcF l (atF l n')) p), ?_⟩
              conv => whnf
              cases h3 : kin (pcF l (atF l n')) p
              · rw [if_pos (.inr (.inr (.inl h3)))] at hstep
                rw [hstep] at hrow
                conv => whnf
                refine gR ?_
                conv => whnf
                exact ⟨_, .refl _, by rw [hrow]; rfl, rfl⟩
              · conv => whnf
                by_cases h4 : n' = p.tsn
                · rw [if_pos (.inr (.inr (.inr h4)))] at hstep
                  rw [hstep] at hrow
                  refine gR ?_
                  conv => whnf
                  rw [ew.trans hn', show (n' == p.tsn) = true from by rw [h4]; simp]
                  conv => whnf
                  exact ⟨_, .refl _, by rw [hrow]; rfl, rfl⟩
                · rw [if_neg (by simp [h1, h2, h3, h4])] at hstep
                  refine gR ?_
                  conv => whnf
                  rw [ew.trans hn', show (n' == p.tsn) = false from beq_eq_false_iff_ne.2 h4]
                  conv => whnf
                  have hat2 : ∀ j : Nat, j ≤ m + 1 → atF l (w32 (p.tsn - j)) ≠ 0 := fun j hj => by
                    rcases Nat.lt_or_eq_of_le hj with h | rfl
                    · exact hat j (by omega)
                    · rw [hn']; exact h1
                  have hpg := pigeon l p.tsn (m + 1) (by omega) hat2
                  refine ⟨⟨m + 1, by omega, hat2, by rw [hbk, hstep, hn']⟩, by dsimp only; omega, .refl _, .refl _, .refl _, .of_eq (by dsimp only; rw [hn', ew.trans hn']), .refl _, OLe.refl _, OLe.refl _, trivial⟩
            · rw [if_pos (.inr (.inl h2))] at hstep
              rw [hstep] at hrow
              conv => whnf
              refine gR ?_
              conv => whnf
              exact ⟨_, .refl _, by rw [hrow]; rfl, rfl⟩
        · rw [hb, if_pos rfl] at hstep
          rw [hstep] at hrow
          replace hrow : rowF l = rowFwd l p (w32 (p.tsn - m)) l.length (w32 (p.tsn - m)) [] := hrow
          generalize hfi : w32 (p.tsn - m) = fi at hrow
          have hfr : 0 ≤ fi ∧ fi < 4294967296 := by rw [← hfi]; unfold w32; omega
          conv => whnf
          refine ALoop.adopt 9 116 1 3 (fun j => encJ (([] : List Nat).getD j default)) rfl rfl rfl ?_
          refine ALoop.intro tysROk followsB (fun o : {o : List Nat // o.length ≤ l.length ∧ rowFwd l p fi l.length fi [] = rowFwd l p fi (l.length - o.length) (w32 (fi + o.length)) o} => ([(0, .d (slT 8 encFp l)), (3, .ptr 3 0), (4, .mref 18), (7, v32 fi), (10, v32 (w32 (fi + o.1.length))), (9, .rsl 116 1 0 o.1.length), (2, .d nilD)], [(116, .row 3 1 o.1.length fun j => encJ (o.1.getD j default)), (18, .dmp (rmap 0 l)), (3, .box (fpL p))])) (fun o => l.length - o.1.length) ⟨[], by simp, by rw [show w32 (fi + (([] : List Nat).length : Nat)) = fi from by simp [w32]; omega]; rfl⟩ ?_ ?_
          · exact ⟨.refl _, .refl _, .refl _, .refl _, .of_eq (by dsimp only; rw [show w32 (fi + (([] : List Nat).length : Nat)) = fi from by simp [w32]; omega]), .refl _, .refl _, OLe.refl _, OLe.refl _, OLe.refl _, trivial⟩
          · rintro ⟨o, ho, hfw⟩
            dsimp only
            have hrow0 := hrow
            rw [hfw] at hrow
            conv => whnf
            split <;> rename_i hlt
            · have hlt : o.length < l.length := by simpa using hlt
              generalize hn' : w32 (fi + (o.length : Nat)) = n' at hrow
              conv => whnf
              refine ⟨_, findD_rmap _ l, ?_⟩
              rw [gF_at]
              have hle' := at_le l n'
              have epc' : l.getD ((atF l n' : Int) - 1).toNat default = pcF l (atF l n') := by unfold pcF; congr 1; omega
              rw [show l.length - o.length = (l.length - o.length - 1) + 1 from by omega, rowFwd] at hrow
              conv => whnf
              by_cases h1 : atF l n' = 0
              · rw [h1] at hrow ⊢
                rw [if_pos (.inl rfl)] at hrow
                conv => whnf
                refine gR ?_
                conv => whnf
                exact ⟨_, .refl _, by rw [hrow]; rfl, rfl⟩
              · rw [show ((atF l n' : Int) == 0) = false from beq_eq_false_iff_ne.2 (by omega)]
                conv => whnf
                by_cases h2 : n' = fi
                · rw [show (n' != fi) = false from by rw [h2]; simp]
                  have hc : ¬ (n' ≠ fi ∧ (pcF l (atF l n')).b = true) := fun h => h.1 h2
                  conv => whnf
                  refine ⟨by omega, ?_⟩
                  conv => whnf
                  refine ⟨by omega, ?_⟩
                  conv => whnf
                  rw [epc']
                  refine ⟨_, (kin_spec (pcF l (atF l n')) p), ?_⟩
                  conv => whnf
                  cases h4 : kin (pcF l (atF l n')) p
                  · rw [if_pos (.inr (.inr h4))] at hrow
                    conv => whnf
                    refine gR ?_
                    conv => whnf
                    exact ⟨_, .refl _, by rw [hrow]; rfl, rfl⟩
                  · rw [if_neg (by rintro (h | h | h)
                                   · exact h1 h
                                   · exact hc h
                                   · rw [h4] at h; cases h)] at hrow
                    conv => whnf
                    refine gR ?_
                    conv => whnf
                    refine ⟨by omega, ?_⟩
                    conv => whnf
                    refine ⟨⟨⟨rfl, by omega, by simp only [ty3]; omega⟩, by omega⟩, ?_⟩
                    conv => whnf
                    refine ⟨by omega, ?_⟩
                    conv => whnf
                    refine ⟨by omega, ?_⟩
                    conv => whnf
                    rw [epc']
                    cases h5 : (pcF l (atF l n')).e
                    · rw [if_neg (by rw [h5]; simp)] at hrow
                      have en : w32 (n' + 1) = w32 (fi + ((o ++ [atF l n' - 1]).length : Nat)) := by rw [← hn', List.length_append]; unfold w32; simp; omega
                      conv => whnf
                      refine ⟨⟨o ++ [atF l n' - 1], by simp; omega, by rw [← hrow0, hrow, en, List.length_append]; rfl⟩, by simp; omega, .refl _, .refl _, .refl _, .refl _, .of_eq (by dsimp only; rw [wrapU, en]), .of_eq (by dsimp only; rw [List.length_append]; rfl), .refl _, ⟨rfl, rfl, by simp, fun k hk => ?_⟩, OLe.refl _, OLe.refl _, trivial⟩
                      exact slT_app encJ o (atF l n' - 1) k (by simpa using hk) (by show [D.i .i64 ((atF l n' : Int) - 1)] = [D.i .i64 ((atF l n' - 1 : Nat) : Int)]; rw [show ((atF l n' - 1 : Nat) : Int) = (atF l n' : Int) - 1 from by omega])
                    · rw [if_pos h5] at hrow
                      conv => whnf
                      refine ⟨by omega, ?_⟩
                      conv => whnf
                      refine ⟨plcsA (some (o ++ [atF l n' - 1])), .sl (by simp) (fun k hk => ?_), by rw [hrow], rfl⟩
                      exact slT_app encJ o (atF l n' - 1) k (by simpa using hk) (by show [D.i .i64 ((atF l n' : Int) - 1)] = [D.i .i64 ((atF l n' - 1 : Nat) : Int)]; rw [show ((atF l n' - 1 : Nat) : Int) = (atF l n' : Int) - 1 from by omega])
                · rw [show (n' != fi) = true from bne_iff_ne.2 h2]
                  conv => whnf
                  refine ⟨by omega, ?_⟩
                  conv => whnf
                  refine ⟨by omega, ?_⟩
                  conv => whnf
                  rw [epc']
                  cases h3 : (pcF l (atF l n')).b
                  · have hc : ¬ (n' ≠ fi ∧ (pcF l (atF l n')).b = true) := fun h => by rw [h3] at h; cases h.2
                    conv => whnf
                    refine ⟨by omega, ?_⟩
                    conv => whnf
                    refine ⟨by omega, ?_⟩
                    conv => whnf
                    rw [epc']
                    refine ⟨_, (kin_spec (pcF l (atF l n')) p), ?_⟩
                    conv => whnf
                    cases h4 : kin (pcF l (atF l n')) p
                    · rw [if_pos (.inr (.inr h4))] at hrow
                      conv => whnf
                      refine gR ?_
                      conv => whnf
                      exact ⟨_, .refl _, by rw [hrow]; rfl, rfl⟩
                    · rw [if_neg (by rintro (h | h | h)
                                     · exact h1 h
                                     · exact hc h
                                     · rw [h4] at h; cases h)] at hrow
                      conv => whnf
                      refine gR ?_
                      conv => whnf
                      refine ⟨by omega, ?_⟩
                      conv => whnf
                      refine ⟨⟨⟨rfl, by omega, by simp only [ty3]; omega⟩, by omega⟩, ?_⟩
                      conv => whnf
                      refine ⟨by omega, ?_⟩
                      conv => whnf
                      refine ⟨by omega, ?_⟩
                      conv => whnf
                      rw [epc']
                      cases h5 : (pcF l (atF l n')).e
                      · rw [if_neg (by rw [h5]; simp)] at hrow
                        have en : w32 (n' + 1) = w32 (fi + ((o ++ [atF l n' - 1]).length : Nat)) := by rw [← hn', List.length_append]; unfold w32; simp; omega
                        conv => whnf
                        refine ⟨⟨o ++ [atF l n' - 1], by simp; omega, by rw [← hrow0, hrow, en, List.length_append]; rfl⟩, by simp; omega, .refl _, .refl _, .refl _, .refl _, .of_eq (by dsimp only; rw [wrapU, en]), .of_eq (by dsimp only; rw [List.length_append]; rfl), .refl _, ⟨rfl, rfl, by simp, fun k hk => ?_⟩, OLe.refl _, OLe.refl _, trivial⟩
                        exact slT_app encJ o (atF l n' - 1) k (by simpa using hk) (by show [D.i .i64 ((atF l n' : Int) - 1)] = [D.i .i64 ((atF l n' - 1 : Nat) : Int)]; rw [show ((atF l n' - 1 : Nat) : Int) = (atF l n' : Int) - 1 from by omega])
                      · rw [if_pos h5] at hrow
                        conv => whnf
                        refine ⟨by omega, ?_⟩
                        conv => whnf
                        refine ⟨plcsA (some (o ++ [atF l n' - 1])), .sl (by simp) (fun k hk => ?_), by rw [hrow], rfl⟩
                        exact slT_app encJ o (atF l n' - 1) k (by simpa using hk) (by show [D.i .i64 ((atF l n' : Int) - 1)] = [D.i .i64 ((atF l n' - 1 : Nat) : Int)]; rw [show ((atF l n' - 1 : Nat) : Int) = (atF l n' : Int) - 1 from by omega])
                  · rw [if_pos (.inr (.inl ⟨h2, h3⟩))] at hrow
                    conv => whnf
                    refine gR ?_
                    conv => whnf
                    exact ⟨_, .refl _, by rw [hrow]; rfl, rfl⟩
            · have hlt : ¬ o.length < l.length := by simpa using hlt
              rw [show l.length - o.length = 0 from by omega, rowFwd] at hrow
              conv => whnf
              exact ⟨_, .refl _, by rw [hrow]; rfl, rfl⟩
theorem getD_take {α} [Inhabited α] (l:List α) {i j:Nat} (h:j<i):(l.take i).getD j default=l.getD j default:=by
 rw [List.getD_eq_getElem?_getD,List.getElem?_take,if_pos h,←List.getD_eq_getElem?_getD]
abbrev rowP (n:Nat) (f:Nat→List D):AObj:=.row 167 8 n f
def delT (c:Fp):Bool:=c.text==[]
theorem put2_spec (m:Fp):PSpec Tryz.prog 141 [fpA m] (· = vb (delT m)):=by
 refine PSpec.run (tysOk) followsB Tryz.func141 (by decide) rfl Tryz.ntmps141 (Nat.le_of_ble_eq_true rfl) rfl fun w0 R0 hGw=>?_
 conv=>whnf
 exact ⟨_,.refl _,rfl,rfl⟩
abbrev capT (p:Fp):AVal:=.eptr 8 1 (fun _=>encFp p) 0 0
theorem put1_spec (m p:Fp):PSpec Tryz.prog 135 [fpA m,capT p] (· = vb (m.tsn==p.tsn)):=by
 refine PSpec.run (tysOk) followsB Tryz.func135 (by decide) rfl Tryz.ntmps135 (Nat.le_of_ble_eq_true rfl) rfl fun w0 R0 hGw=>?_
 conv=>whnf
 exact ⟨_,.refl _,rfl,rfl⟩
theorem indexT_spec (l:List Fp) (h4:l.length≤2 ^ 40) :
  PSpec Tryz.prog 192 [.d (slT 8 encFp l),.fn 141 []] (· = vi (if l.findIdx delT<l.length then l.findIdx delT else -1)):=by
 refine PSpec.run (tysOk) followsB Tryz.func192 (by decide) rfl Tryz.ntmps192 (Nat.le_of_ble_eq_true rfl) rfl fun w0 R0 hGw=>?_
 conv=>whnf
 refine ALoop.intro tysOk followsB (fun k:{k // k≤l.length∧∀j,j<k→delT (l.getD j default)=false}=>([(0,.d (slT 8 encFp l)),(1,.fn 141 []),(6,.d (slT 8 encFp l)),(7,vi l.length),(8,vi k.1)],[])) (fun k=>l.length-k.1) ⟨0,by omega,fun j hj=>by omega⟩ ?_ ?_
 ·exact ⟨.refl _,.refl _,.refl _,.refl _,.refl _,trivial⟩
 ·rintro ⟨k,hk,hall⟩
  dsimp only
  conv=>whnf
  split<;>rename_i hlt
  ·have hlt:k<l.length:=by simpa using hlt
   conv=>whnf
   refine gO ?_
   conv=>whnf
   refine ⟨_,(put2_spec (l.getD k default)),?_⟩
   rintro q rfl
   conv=>whnf
   cases hout:delT (l.getD k default)
   ·conv=>whnf
    refine gO ?_
    conv=>whnf
    refine ⟨⟨k+1,by omega,fun j hj=>?_⟩,by dsimp only;omega,.refl _,.refl _,.refl _,.refl _,.refl _,trivial⟩
    rcases Nat.lt_or_eq_of_le (show j≤k from by omega) with h|rfl
    ·exact hall j h
    ·exact hout
   ·have hfi:l.findIdx delT=k:=(List.findIdx_eq hlt).2 ⟨by simpa [List.getD_eq_getElem?_getD,List.getElem?_eq_getElem hlt] using hout,fun j hj=>by simpa [List.getD_eq_getElem?_getD,List.getElem?_eq_getElem (show j<l.length from by omega)] using hall j hj⟩
    conv=>whnf
    exact ⟨_,.refl _,by rw [hfi,if_pos hlt],rfl⟩
  ·have hlt:¬k<l.length:=by simpa using hlt
   obtain rfl:k=l.length:=by omega
   have hfi:¬l.findIdx delT<l.length:=fun h=>by
    have h1:=List.findIdx_getElem (w:=h)
    have h2:=hall _ h
    rw [List.getD_eq_getElem?_getD,List.getElem?_eq_getElem h] at h2
    exact absurd h1 (by simpa using h2)
   conv=>whnf
   exact ⟨_,.refl _,by rw [if_neg hfi],rfl⟩
theorem indexP_spec (p:Fp) (l:List Fp) (h4:l.length≤2 ^ 40) :
  PSpec Tryz.prog 192 [.d (slT 8 encFp l),.fn 135 [capT p]] (· = vi (if l.findIdx (fun x:Fp=>x.tsn==p.tsn)<l.length then l.findIdx (fun x:Fp=>x.tsn==p.tsn) else -1)):=by
 refine PSpec.run (tysOk) followsB Tryz.func192 (by decide) rfl Tryz.ntmps192 (Nat.le_of_ble_eq_true rfl) rfl fun w0 R0 hGw=>?_
 conv=>whnf
 refine ALoop.intro tysOk followsB (fun k:{k // k≤l.length∧∀j,j<k→(fun x:Fp=>x.tsn==p.tsn) (l.getD j default)=false}=>([(0,.d (slT 8 encFp l)),(1,.fn 135 [capT p]),(6,.d (slT 8 encFp l)),(7,vi l.length),(8,vi k.1)],[])) (fun k=>l.length-k.1) ⟨0,by omega,fun j hj=>by omega⟩ ?_ ?_
 ·exact ⟨.refl _,.refl _,.refl _,.refl _,.refl _,trivial⟩
 ·rintro ⟨k,hk,hall⟩
  dsimp only
  conv=>whnf
  split<;>rename_i hlt
  ·have hlt:k<l.length:=by simpa using hlt
   conv=>whnf
   refine gO ?_
   conv=>whnf
   refine ⟨_,(put1_spec (l.getD k default) p),?_⟩
   rintro q rfl
   conv=>whnf
   cases hout:((l.getD k default).tsn==p.tsn)
   ·conv=>whnf
    refine gO ?_
    conv=>whnf
    refine ⟨⟨k+1,by omega,fun j hj=>?_⟩,by dsimp only;omega,.refl _,.refl _,.refl _,.refl _,.refl _,trivial⟩
    rcases Nat.lt_or_eq_of_le (show j≤k from by omega) with h|rfl
    ·exact hall j h
    ·exact hout
   ·have hfi:l.findIdx (fun x:Fp=>x.tsn==p.tsn)=k:=(List.findIdx_eq hlt).2 ⟨by simpa [List.getD_eq_getElem?_getD,List.getElem?_eq_getElem hlt] using hout,fun j hj=>by simpa [List.getD_eq_getElem?_getD,List.getElem?_eq_getElem (show j<l.length from by omega)] using hall j hj⟩
    conv=>whnf
    exact ⟨_,.refl _,by rw [hfi,if_pos hlt],rfl⟩
  ·have hlt:¬k<l.length:=by simpa using hlt
   obtain rfl:k=l.length:=by omega
   have hfi:¬l.findIdx (fun x:Fp=>x.tsn==p.tsn)<l.length:=fun h=>by
    have h1:=List.findIdx_getElem (w:=h)
    have h2:=hall _ h
    rw [List.getD_eq_getElem?_getD,List.getElem?_eq_getElem h] at h2
    exact absurd h1 (by simpa using h2)
   conv=>whnf
   exact ⟨_,.refl _,by rw [if_neg hfi],rfl⟩
def keptN (p:Fp→Bool) (l:List Fp) (j:Nat):List Fp:=(l.take j).filter fun c=>!p c
theorem kept_yes {p:Fp→Bool} {l:List Fp} {j:Nat} (h:j<l.length) (hp:p (l.getD j default)=false):keptN p l (j+1)=keptN p l j++[l.getD j default]:=by
 unfold keptN
 rw [List.take_add_one,List.getElem?_eq_getElem h,List.filter_append]
 rw [List.getD_eq_getElem?_getD,List.getElem?_eq_getElem h] at hp ⊢
 simp at hp ⊢
 simp [hp]
theorem kept_no {p:Fp→Bool} {l:List Fp} {j:Nat} (h:j<l.length) (hp:p (l.getD j default)=true):keptN p l (j+1)=keptN p l j:=by
 unfold keptN
 rw [List.take_add_one,List.getElem?_eq_getElem h,List.filter_append]
 rw [List.getD_eq_getElem?_getD,List.getElem?_eq_getElem h] at hp
 simp at hp
 simp [hp]
theorem kept_all {p:Fp→Bool} {l:List Fp} {j:Nat} (h:j≤l.length) (hp:∀k,k<j→p (l.getD k default)=false):keptN p l j=l.take j:=by
 unfold keptN
 rw [List.filter_eq_self]
 intro c hc
 obtain ⟨k,hk,rfl⟩:=List.getElem_of_mem hc
 rw [List.length_take] at hk
 have:=hp k (by omega)
 rw [List.getD_eq_getElem?_getD,List.getElem?_eq_getElem (by omega)] at this
 rw [List.getElem_take]
 simp at this
 simp [this]
theorem kept_len (p:Fp→Bool) (l:List Fp) (j:Nat):(keptN p l j).length≤j:=by
 unfold keptN
 have:=List.length_filter_le (fun c=>!p c) (l.take j)
 have h2:(l.take j).length≤j:=by rw [List.length_take];omega
 omega
theorem take_set_snoc {m:List Fp} {n:Nat} {x:Fp} (h:n<m.length):(m.set n x).take (n+1)=m.take n++[x]:=by
 rw [List.take_add_one,List.getElem?_set_self h,List.take_set_of_le (Nat.le_refl _)]
 rfl
theorem fupd_set (m:List Fp) (n:Nat) (x:Fp) (h:n<m.length) (k:Nat):fupd (fun k=>encFp (m.getD k default)) n (encFp x) k=encFp ((m.set n x).getD k default):=by
 unfold fupd
 split
 ·rename_i e
  subst e
  rw [List.getD_eq_getElem?_getD,List.getElem?_set_self h]
  rfl
 ·rename_i e
  show encFp (m.getD k default)=encFp ((m.set n x).getD k default)
  rw [List.getD_eq_getElem?_getD,List.getD_eq_getElem?_getD,List.getElem?_set_ne (by omega)]
def delF (keep:List Fp) (k:Nat):List D:=if k<keep.length then encFp (keep.getD k default) else [.i .u32 0,.b false,.b false,.b false,.i .u16 0,.i .u16 0,.i .u32 0,.s []]
theorem deleteFp_spec (l:List Fp) (hl:l.length≤2 ^ 30) (keep:List Fp) (hkeep:keep=l.filter fun c=>!delT c) :
  LSpec Tryz.prog 140 [.rsl E0 8 0 l.length,.fn 141 []] [(E0,rowP l.length fun k=>encFp (l.getD k default))]
   (fun r hl=>r=.rsl E0 8 0 keep.length∧hl=[(E0,rowP l.length (delF keep))]):=by
 refine LSpec.run (tysOk) followsB Tryz.func140 (by decide) rfl Tryz.ntmps140 (Nat.le_of_ble_eq_true rfl) rfl rfl fun w0 R0 Lo hGw=>?_
 conv=>whnf
 refine gO ?_
 conv=>whnf
 refine ⟨_,indexT_spec l (by omega),?_⟩
 rintro q rfl
 conv=>whnf
 generalize hp:delT=p at *
 have hkn:keep=keptN p l l.length:=by rw [hkeep];unfold keptN;rw [List.take_length]
 by_cases hi:l.findIdx p<l.length
 rotate_left
 ·rw [if_neg hi]
  have hall:∀k,k<l.length→p (l.getD k default)=false:=fun k hkk=>by
   have:=List.not_of_lt_findIdx (p:=p) (xs:=l) (i:=k) (by omega)
   rw [List.getD_eq_getElem?_getD,List.getElem?_eq_getElem hkk]
   simpa using this
  have hke:keep=l:=by rw [hkn,kept_all (Nat.le_refl _) hall,List.take_length]
  conv=>whnf
  rw [hke]
  refine ⟨_,[(E0,rowP l.length (delF l))],.refl _,⟨⟨rfl,rfl,rfl,fun k hk=>by rw [delF,if_pos hk]⟩,trivial⟩,rfl,rfl⟩
 rw [if_pos hi]
 obtain ⟨i,hie⟩:∃i,i=l.findIdx p:=⟨_,rfl⟩
 have hpi:p (l.getD i default)=true:=by
  have:=List.findIdx_getElem (w:=hi)
  rw [hie,List.getD_eq_getElem?_getD,List.getElem?_eq_getElem hi]
  exact this
 have hall:∀k,k<i→p (l.getD k default)=false:=fun k hkk=>by
  have:=List.not_of_lt_findIdx (p:=p) (xs:=l) (i:=k) (by omega)
  rw [List.getD_eq_getElem?_getD,List.getElem?_eq_getElem (by omega)]
  simpa using this
 rw [←hie] at hi ⊢
 have hki:keptN p l (i+1)=l.take i:=by rw [kept_no hi hpi,kept_all (by omega) hall]
 rw [show ((i:Int) == -1)=false from beq_eq_false_iff_ne.2 (by omega)]
 conv=>whnf
 refine gO ?_
 conv=>whnf
 refine ALoop.introR tysOk followsB (fun x:{x:Nat×List Fp // x.1≤l.length∧x.2.length=l.length∧(keptN p l x.1).length<x.1∧x.2.take (keptN p l x.1).length=keptN p l x.1∧∀k,x.1≤k→x.2.getD k default=l.getD k default}=>
  ([(0,.rsl E0 8 0 l.length),(1,.fn 141 []),(5,vi (keptN p l x.1.1).length),(6,vi x.1.1)],[(E0,rowP l.length fun k=>encFp (x.1.2.getD k default))])) (fun x=>l.length-x.1.1) ⟨(i+1,l),by dsimp only;omega,rfl,?_,?_,fun k _=>rfl⟩ ?_ ?_
 ·dsimp only
  rw [hki,List.length_take];omega
 ·dsimp only
  rw [hki,List.length_take,Nat.min_eq_left (by omega)]
 ·refine ⟨.refl _,.refl _,.of_eq ?_,.refl _,OLe.refl _,trivial⟩
  dsimp only
  rw [hki,List.length_take,Nat.min_eq_left (by omega)]
 rintro ⟨⟨j,m⟩,i1,i2,i3,i4,i5⟩
 dsimp only at i1 i2 i3 i4 i5 ⊢
 conv=>whnf
 split<;>rename_i h1
 ·have hlt:j<l.length:=by simpa using h1
  have hm:l.getD j default∈l:=by
   rw [List.getD_eq_getElem?_getD,List.getElem?_eq_getElem hlt]
   exact List.getElem_mem hlt
  have hd:=put2_spec (m.getD (Int.toNat j) default)
  rw [hp,show m.getD (Int.toNat j) default=l.getD j default from i5 j (Nat.le_refl _)] at hd
  conv=>whnf
  refine gO ?_
  conv=>whnf
  refine gO ?_
  conv=>whnf
  rw [show m.getD (0+Int.toNat j) default=l.getD j default from by rw [Nat.zero_add];exact i5 j (Nat.le_refl _)]
  refine ⟨_,hd,?_⟩
  rintro q rfl
  conv=>whnf
  cases hpj:p (l.getD j default)
  ·have hkj:=kept_yes hlt hpj
   have hlj:(keptN p l (j+1)).length=(keptN p l j).length+1:=by rw [hkj,List.length_append];rfl
   have hkl:=kept_len p l (j+1)
   conv=>whnf
   refine gO ?_
   conv=>whnf
   refine gO ?_
   conv=>whnf
   refine gO ?_
   conv=>whnf
   refine gO ?_
   conv=>whnf
   refine ⟨⟨(j+1,m.set (keptN p l j).length (l.getD j default)),?_,?_,?_,?_,fun k hk'=>?_⟩,[],?_,.refl _,.refl _,.of_eq ?_,.refl _,⟨rfl,rfl,rfl,fun k hk'=>?_⟩,trivial⟩
   ·dsimp only;omega
   ·dsimp only;rw [List.length_set,i2]
   ·dsimp only;omega
   ·dsimp only
    rw [hlj,take_set_snoc (by omega),i4,hkj]
   ·dsimp only at hk' ⊢
    rw [List.getD_eq_getElem?_getD,List.getElem?_set_ne (by omega),←List.getD_eq_getElem?_getD]
    exact i5 k (by omega)
   ·dsimp only;omega
   ·dsimp only
    rw [hlj];rfl
   ·have hfu:=fupd_set m (keptN p l j).length (l.getD j default) (by omega) k
    rw [show 0+Int.toNat ((keptN p l j).length:Int)=(keptN p l j).length from by omega]
    exact hfu
  ·have hkj:=kept_no hlt hpj
   conv=>whnf
   refine gO ?_
   conv=>whnf
   refine ⟨⟨(j+1,m),by dsimp only;omega,i2,by dsimp only;rw [hkj];omega,by dsimp only;rw [hkj];exact i4,fun k hk'=>i5 k (by dsimp only at hk';omega)⟩,[],by dsimp only;omega,.refl _,.refl _,.of_eq (by dsimp only;rw [hkj]),.refl _,OLe.refl _,trivial⟩
 ·have hlt:¬j<l.length:=by simpa using h1
  obtain rfl:j=l.length:=by omega
  rw [←hkn] at i3 i4 ⊢
  obtain ⟨q,hq⟩:∃q,q=keep.length:=⟨_,rfl⟩
  rw [←hq] at i3 i4 ⊢
  have hF:∀k,k<q→encFp (m.getD k default)=encFp (keep.getD k default):=fun k hk'=>by
   rw [←i4,getD_take _ hk']
  cases q with
  |zero=>
   conv=>whnf
   refine gO ?_
   conv=>whnf
   refine gO ?_
   conv=>whnf
   refine gO ?_
   conv=>whnf
   refine ⟨_,[(E0,rowP l.length (delF keep))],.refl _,⟨⟨rfl,rfl,rfl,fun k hk'=>?_⟩,trivial⟩,rfl,rfl⟩
   rw [delF,if_neg (by omega)]
   dsimp only
   rw [if_pos (by omega)]
   rfl
  |succ q=>
   conv=>whnf
   refine gO ?_
   conv=>whnf
   refine gO ?_
   conv=>whnf
   refine gO ?_
   conv=>whnf
   refine ⟨_,[(E0,rowP l.length (delF keep))],.refl _,⟨⟨rfl,rfl,rfl,fun k hk'=>?_⟩,trivial⟩,rfl,rfl⟩
   rw [delF]
   dsimp only
   by_cases h:k<keep.length
   ·rw [if_neg (by omega),if_pos h]
    exact hF k (by omega)
   ·rw [if_pos (by omega),if_neg h]
    rfl
theorem containsP_spec (p:Fp) (l:List Fp) (h4:l.length≤2 ^ 40) :
  PSpec Tryz.prog 134 [.d (slT 8 encFp l),.fn 135 [capT p]] (· = vb (l.any fun x=>x.tsn==p.tsn)):=by
 refine PSpec.run (tysOk) followsB Tryz.func134 (by decide) rfl Tryz.ntmps134 (Nat.le_of_ble_eq_true rfl) rfl fun w0 R0 hGw=>?_
 conv=>whnf
 refine ⟨_,(indexP_spec p l h4),?_⟩
 rintro q rfl
 conv=>whnf
 exact ⟨_,.refl _,congrArg vb (by
  by_cases h:l.findIdx (fun x=>x.tsn==p.tsn)<l.length
  ·rw [if_pos h,show decide ((0:Int)≤(l.findIdx (fun x=>x.tsn==p.tsn):Nat))=true from decide_eq_true (by omega)]
   exact (List.any_eq_true.2 ⟨_,List.getElem_mem h,List.findIdx_getElem (w:=h)⟩).symm
  ·rw [if_neg h]
   refine (List.any_eq_false.2 fun x hx=>?_).symm
   intro hh
   exact h (List.findIdx_lt_length_of_exists ⟨x,hx,hh⟩)),rfl⟩
abbrev bagA (l:List Fp):AVal:=.agg [.d (slT 8 encFp l)]
def fm0:Fm:=⟨0,false,0,0,0,[]⟩
theorem fput_bad (l:List Fp) (p:Fp) (hl:l.length<2 ^ 30) (h:p.text=[]∨(l.any fun x=>x.tsn==p.tsn)=true):PSpec Tryz.prog 77 [bagA l,fpA p] (· = .tup [bagA l,fmA fm0,vb false]):=by
 refine PSpec.run (tysOk) followsB Tryz.func77 (by decide) rfl Tryz.ntmps77 (Nat.le_of_ble_eq_true rfl) rfl fun w0 R0 hGw=>?_
 conv=>whnf
 cases h1:(p.text==[])
 ·have h2:(l.any fun x=>x.tsn==p.tsn)=true:=h.resolve_left fun e=>by rw [e] at h1;cases h1
  conv=>whnf
  refine ⟨_,(containsP_spec p l (by omega)),?_⟩
  rintro q rfl
  conv=>whnf
  rw [h2]
  conv=>whnf
  exact ⟨_,.refl _,rfl,rfl⟩
 ·conv=>whnf
  exact ⟨_,.refl _,rfl,rfl⟩
theorem fput_part (l:List Fp) (p:Fp) (hl:l.length<2 ^ 29) (h0:p.text≠[]) (hn:(l.any fun x=>x.tsn==p.tsn)=false) (hnd:(l.map (·.tsn)).Nodup) (hu:∀x∈l++[p],0≤x.tsn∧x.tsn<4294967296) (hr:rowF (l++[p])=none) :
  PSpec Tryz.prog 77 [bagA l,fpA p] (· = .tup [bagA (l++[p]),fmA fm0,vb false]):=by
 have hnd':((l++[p]).map (·.tsn)).Nodup:=by
  rw [List.map_append,List.nodup_append]
  refine ⟨hnd,by simp,fun a ha b hb e=>?_⟩
  obtain ⟨x,hx,rfl⟩:=List.mem_map.1 ha
  have:b=p.tsn:=by simpa using hb
  rw [List.any_eq_false] at hn
  exact hn x hx (by simpa using e.trans this)
 refine PSpec.run (tysOk) followsB Tryz.func77 (by decide) rfl Tryz.ntmps77 (Nat.le_of_ble_eq_true rfl) rfl fun w0 R0 hGw=>?_
 conv=>whnf
 rw [show (p.text==[])=false from beq_eq_false_iff_ne.2 h0]
 conv=>whnf
 refine ⟨_,(containsP_spec p l (by omega)),?_⟩
 rintro q rfl
 conv=>whnf
 rw [hn]
 conv=>whnf
 refine ⟨_,(cloneFp_spec encFp l (by omega)),?_⟩
 conv=>whnf
 refine ⟨⟨⟨rfl,by omega,by simp only [ty167];omega⟩,Nat.le_refl _⟩,?_⟩
 conv=>whnf
 refine gR ?_
 conv=>whnf
 refine ⟨by omega,?_⟩
 conv=>whnf
 have hne:l++[p]≠[]:=by simp
 have hrow:=row_spec (l++[p]) hne (by simp;omega) hnd' hu
 rw [hr] at hrow
 refine ⟨_,(hrow.argsC ⟨.sl (by simp) (fun k hk=>slT_app encFp l p k (by simpa using hk) rfl),trivial⟩),?_⟩
 rintro q rfl
 conv=>whnf
 refine ⟨by omega,?_⟩
 conv=>whnf
 refine ⟨.tup [bagA (l++[p]),fmA fm0,vb false],.tup ⟨.agg ⟨.sl (by simp) (fun k hk=>slT_app encFp l p k (by simpa using hk) rfl),trivial⟩,.refl _,.refl _,trivial⟩,rfl,rfl⟩
abbrev rowQ (l:List Fp):AObj:=rowP l.length fun k=>encFp (l.getD k default)
abbrev rowJ (l:List Nat):AObj:=.row 3 1 l.length fun j=>encJ (l.getD j default)
def plcsR:Option (List Nat)→AVal
 |none=>.d nilD
 |some l=>.rsl 116 1 0 l.length
def plcsH:Option (List Nat)→Heap
 |none=>[]
 |some l=>[(116,rowJ l)]
theorem row_lspec (l : List Fp) (h0 : l ≠ []) (hl : l.length ≤ 2 ^ 30) (hnd : (l.map (·.tsn)).Nodup) (hu : ∀ p ∈ l, 0 ≤ p.tsn ∧ p.tsn < 4294967296) : LSpec Tryz.prog 137 [.rsl E0 8 0 l.length] [(E0, rowQ l)] (fun r hl => r = plcsR (rowF l) ∧ hl = (E0, rowQ l) :: plcsH (rowF l)) := by
  have hpos : 0 < l.length := List.length_pos_iff.2 h0
  have hp : l.getD ((l.length : Int) - 1).toNat default = l.getLastD default := by
    rw [show ((l.length : Int) - 1).toNat = l.length - 1 from by omega, List.getLastD_eq_getLast?, List.getLast?_eq_getElem?, List.getD_eq_getElem?_getD]
  have ht0 : w32 ((l.getLastD default).tsn - ((0 : Nat) : Int)) = (l.getLastD default).tsn := by
    have := hu _ (lastD_mem h0)
    unfold w32; omega
  have hat0 : ∀ j : Nat, j ≤ 0 → atF l (w32 ((l.getLastD default).tsn - j)) ≠ 0 := fun j hj => by
    obtain rfl : j = 0 := by omega
    rw [ht0]
    exact at_ne0 (lastD_mem h0)
  have hb0 : rowBack l (l.getLastD default) l.length (l.getLastD default).tsn = rowBack l (l.getLastD default) (l.length - 0) (w32 ((l.getLastD default).tsn - ((0 : Nat) : Int))) := by rw [ht0]; rfl
  refine LSpec.run (tysROk) followsB Tryz.func137 (by decide) rfl Tryz.ntmps137 (Nat.le_of_ble_eq_true rfl) rfl rfl fun w0 R0 Lo hGw => ?_
  conv => whnf
  refine gO ?_
  conv => whnf
  refine gO ?_
  conv => whnf
  refine gO ?_
  conv => whnf
  rw [Nat.zero_add, hp]
  generalize hpp : l.getLastD default = p at ht0 hat0 hb0
  conv => whnf
  refine ALoop.intro tysROk followsB (fun k : {k // k ≤ l.length} => ([(0, .rsl E0 8 0 l.length), (3, .ptr 3 0), (4, .mref 18), (19, .rsl E0 8 0 l.length), (20, vi l.length), (21, vi k.1), (2, .d nilD)], [(18, .dmp (rmap 0 (l.take k.1))), (3, .box (fpL p)), (E0, rowQ l)])) (fun k => l.length - k.1) ⟨0, by omega⟩ ?_ ?_
  · exact ⟨.refl _, .refl _, .refl _, .refl _, .refl _, .refl _, .refl _, OLe.refl _, OLe.refl _, OLe.refl _, trivial⟩
  · rintro ⟨k, hk⟩
    dsimp only
    conv => whnf
    split <;> rename_i hlt
    · have hlt : k < l.length := by simpa using hlt
      obtain ⟨m1, m2⟩ := putM_rmap l k hlt hnd
      conv => whnf
      refine gO ?_
      conv => whnf
      refine gO ?_
      conv => whnf
      refine gO ?_
      conv => whnf
      rw [Nat.zero_add, tnC]
      refine ⟨_, (findD_rmap _ _).trans (by rw [m1]), ?_⟩
      conv => whnf
      refine ⟨_, m2, ?_⟩
      conv => whnf
      refine gO ?_
      conv => whnf
      refine ⟨⟨k + 1, by omega⟩, by dsimp only; omega, .refl _, .refl _, .refl _, .refl _, .refl _, .refl _, .refl _, OLe.refl _, OLe.refl _, OLe.refl _, trivial⟩
    · have hlt : ¬ k < l.length := by simpa using hlt
      obtain rfl : k = l.length := by omega
      rw [List.take_length]
      conv => whnf
      refine ALoop.intro tysROk followsB (fun m : {m : Nat // m < l.length ∧ (∀ j : Nat, j ≤ m → atF l (w32 (p.tsn - j)) ≠ 0) ∧ rowBack l p l.length p.tsn = rowBack l p (l.length - m) (w32 (p.tsn - m))} => ([(0, .rsl E0 8 0 l.length), (3, .ptr 3 0), (4, .mref 18), (7, v32 (w32 (p.tsn - m.1))), (2, .d nilD)], [(18, .dmp (rmap 0 l)), (3, .box (fpL p)), (E0, rowQ l)])) (fun m => l.length - m.1) ⟨0, hpos, hat0, hb0⟩ ?_ ?_
      · exact ⟨.refl _, .refl _, .refl _, .of_eq (by dsimp only; rw [ht0]), .refl _, OLe.refl _, OLe.refl _, OLe.refl _, trivial⟩
      · rintro ⟨m, hm, hat, hbk⟩
        dsimp only
        conv => whnf
        refine ⟨_, findD_rmap _ l, ?_⟩
        rw [gF_at]
        have hle := at_le l (w32 (p.tsn - m))
        have hne := hat m (Nat.le_refl _)
        have epc : l.getD ((atF l (w32 (p.tsn - m)) : Int) - 1).toNat default = pcF l (atF l (w32 (p.tsn - m))) := by unfold pcF; congr 1; omega
        conv => whnf
        refine ⟨by omega, ?_⟩
        conv => whnf
        refine ⟨by omega, ?_⟩
        conv => whnf
        refine ⟨by omega, ?_⟩
        conv => whnf
        rw [Nat.zero_add, epc]
        have hstep : rowBack l p (l.length - m) (w32 (p.tsn - m)) = if (pcF l (atF l (w32 (p.tsn - m)))).b then some (w32 (p.tsn - m)) else
            if atF l (w32 (p.tsn - (m + 1 : Nat))) = 0 ∨ (pcF l (atF l (w32 (p.tsn - (m + 1 : Nat))))).e = true ∨ kin (pcF l (atF l (w32 (p.tsn - (m + 1 : Nat))))) p = false ∨ w32 (p.tsn - (m + 1 : Nat)) = p.tsn then none else rowBack l p (l.length - (m + 1)) (w32 (p.tsn - (m + 1 : Nat))) := by
          rw [show l.length - m = (l.length - (m + 1)) + 1 from by omega, rowBack, show w32 (w32 (p.tsn - m) - 1) = w32 (p.tsn - (m + 1 : Nat)) from by unfold w32; omega]
        have hrow : rowF l = match rowBack l p (l.length - m) (w32 (p.tsn - m)) with | none => none | some first => rowFwd l p first l.length first [] := by
          unfold rowF; rw [hpp, hbk] <;> rfl
        cases hb : (pcF l (atF l (w32 (p.tsn - m)))).b
        · rw [hb, if_neg (by simp)] at hstep
          have ew : IntKind.u32.wrap (w32 (p.tsn - m) - 1) = w32 (p.tsn - (m + 1 : Nat)) := by rw [wrapU]; unfold w32; omega
          conv => whnf
          rw [ew]
          generalize hn' : w32 (p.tsn - (m + 1 : Nat)) = n' at hstep
          refine ⟨_, findD_rmap _ l, ?_⟩
          rw [gF_at]
          have hle' := at_le l n'
          conv => whnf
          by_cases h1 : atF l n' = 0
          · rw [h1] at hstep ⊢
            rw [if_pos (.inl rfl)] at hstep
            rw [hstep] at hrow
            conv => whnf
            refine gR ?_
            conv => whnf
            refine ⟨.d nilD, [(E0, rowQ l)], .refl _, ⟨OLe.refl _, trivial⟩, by rw [hrow]; rfl, by rw [hrow]; rfl⟩
          · rw [show ((atF l n' : Int) == 0) = false from beq_eq_false_iff_ne.2 (by omega)]
            have epc' : l.getD ((atF l n' : Int) - 1).toNat default = pcF l (atF l n') := by unfold pcF; congr 1; omega
            conv => whnf
            refine ⟨by omega, ?_⟩
            conv => whnf
            refine ⟨by omega, ?_⟩
            conv => whnf
            refine ⟨by omega, ?_⟩
            conv => whnf
            rw [Nat.zero_add, epc']
            cases h2 : (pcF l (atF l n')).e
            · conv => whnf
              refine ⟨by omega, ?_⟩
              conv => whnf
              refine ⟨by omega, ?_⟩
              conv => whnf
              refine ⟨by omega, ?_⟩
              conv => whnf
              rw [Nat.zero_add, epc']
              refine ⟨_, (kin_spec (pcF l (atF l n')) p), ?_⟩
              conv => whnf
              cases h3 : kin (pcF l (atF l n')) p
              · rw [if_pos (.inr (.inr (.inl h3)))] at hstep
                rw [hstep] at hrow
                conv => whnf
                refine gR ?_
                conv => whnf
                refine ⟨.d nilD, [(E0, rowQ l)], .refl _, ⟨OLe.refl _, trivial⟩, by rw [hrow]; rfl, by rw [hrow]; rfl⟩
              · conv => whnf
                by_cases h4 : n' = p.tsn
                · rw [if_pos (.inr (.inr (.inr h4)))] at hstep
                  rw [hstep] at hrow
                  refine gR ?_
                  conv => whnf
                  rw [ew.trans hn', show (n' == p.tsn) = true from by rw [h4]; simp]
                  conv => whnf
                  refine ⟨.d nilD, [(E0, rowQ l)], .refl _, ⟨OLe.refl _, trivial⟩, by rw [hrow]; rfl, by rw [hrow]; rfl⟩
                · rw [if_neg (by simp [h1, h2, h3, h4])] at hstep
                  refine gR ?_
                  conv => whnf
                  rw [ew.trans hn', show (n' == p.tsn) = false from beq_eq_false_iff_ne.2 h4]
                  conv => whnf
                  have hat2 : ∀ j : Nat, j ≤ m + 1 → atF l (w32 (p.tsn - j)) ≠ 0 := fun j hj => by
                    rcases Nat.lt_or_eq_of_le hj with h | rfl
                    · exact hat j (by omega)
                    · rw [hn']; exact h1
                  have hpg := pigeon l p.tsn (m + 1) (by omega) hat2
                  refine ⟨⟨m + 1, by omega, hat2, by rw [hbk, hstep, hn']⟩, by dsimp only; omega, .refl _, .refl _, .refl _, .of_eq (by dsimp only; rw [hn', ew.trans hn']), .refl _, OLe.refl _, OLe.refl _, OLe.refl _, trivial⟩
            · rw [if_pos (.inr (.inl h2))] at hstep
              rw [hstep] at hrow
              conv => whnf
              refine gR ?_
              conv => whnf
              refine ⟨.d nilD, [(E0, rowQ l)], .refl _, ⟨OLe.refl _, trivial⟩, by rw [hrow]; rfl, by rw [hrow]; rfl⟩
        · rw [hb, if_pos rfl] at hstep
          rw [hstep] at hrow
          replace hrow : rowF l = rowFwd l p (w32 (p.tsn - m)) l.length (w32 (p.tsn - m)) [] := hrow
          generalize hfi : w32 (p.tsn - m) = fi at hrow
          have hfr : 0 ≤ fi ∧ fi < 4294967296 := by rw [← hfi]; unfold w32; omega
          conv => whnf
          refine ALoop.adopt 9 116 1 3 (fun j => encJ (([] : List Nat).getD j default)) rfl rfl rfl ?_
          refine ALoop.intro tysROk followsB (fun o : {o : List Nat // o.length ≤ l.length ∧ rowFwd l p fi l.length fi [] = rowFwd l p fi (l.length - o.length) (w32 (fi + o.length)) o} => ([(0, .rsl E0 8 0 l.length), (3, .ptr 3 0), (4, .mref 18), (7, v32 fi), (10, v32 (w32 (fi + o.1.length))), (9, .rsl 116 1 0 o.1.length), (2, .d nilD)], [(116, .row 3 1 o.1.length fun j => encJ (o.1.getD j default)), (18, .dmp (rmap 0 l)), (3, .box (fpL p)), (E0, rowQ l)])) (fun o => l.length - o.1.length) ⟨[], by simp, by rw [show w32 (fi + (([] : List Nat).length : Nat)) = fi from by simp [w32]; omega]; rfl⟩ ?_ ?_
          · exact ⟨.refl _, .refl _, .refl _, .refl _, .of_eq (by dsimp only; rw [show w32 (fi + (([] : List Nat).length : Nat)) = fi from by simp [w32]; omega]), .refl _, .refl _, OLe.refl _, OLe.refl _, OLe.refl _, OLe.refl _, trivial⟩
          · rintro ⟨o, ho, hfw⟩
            dsimp only
            have hrow0 := hrow
            rw [hfw] at hrow
            conv => whnf
            split <;> rename_i hlt
            · have hlt : o.length < l.length := by simpa using hlt
              generalize hn' : w32 (fi + (o.length : Nat)) = n' at hrow
              conv => whnf
              refine ⟨_, findD_rmap _ l, ?_⟩
              rw [gF_at]
              have hle' := at_le l n'
              have epc' : l.getD ((atF l n' : Int) - 1).toNat default = pcF l (atF l n') := by unfold pcF; congr 1; omega
              rw [show l.length - o.length = (l.length - o.length - 1) + 1 from by omega, rowFwd] at hrow
              conv => whnf
              by_cases h1 : atF l n' = 0
              · rw [h1] at hrow ⊢
                rw [if_pos (.inl rfl)] at hrow
                conv => whnf
                refine gR ?_
                conv => whnf
                refine ⟨.d nilD, [(E0, rowQ l)], .refl _, ⟨OLe.refl _, trivial⟩, by rw [hrow]; rfl, by rw [hrow]; rfl⟩
              · rw [show ((atF l n' : Int) == 0) = false from beq_eq_false_iff_ne.2 (by omega)]
                conv => whnf
                by_cases h2 : n' = fi
                · rw [show (n' != fi) = false from by rw [h2]; simp]
                  have hc : ¬ (n' ≠ fi ∧ (pcF l (atF l n')).b = true) := fun h => h.1 h2
                  conv => whnf
                  refine ⟨by omega, ?_⟩
                  conv => whnf
                  refine ⟨by omega, ?_⟩
                  conv => whnf
                  refine ⟨by omega, ?_⟩
                  conv => whnf
                  rw [Nat.zero_add, epc']
                  refine ⟨_, (kin_spec (pcF l (atF l n')) p), ?_⟩
                  conv => whnf
                  cases h4 : kin (pcF l (atF l n')) p
                  · rw [if_pos (.inr (.inr h4))] at hrow
                    conv => whnf
                    refine gR ?_
                    conv => whnf
                    refine ⟨.d nilD, [(E0, rowQ l)], .refl _, ⟨OLe.refl _, trivial⟩, by rw [hrow]; rfl, by rw [hrow]; rfl⟩
                  · rw [if_neg (by rintro (h | h | h)
                                   · exact h1 h
                                   · exact hc h
                                   · rw [h4] at h; cases h)] at hrow
                    conv => whnf
                    refine gR ?_
                    conv => whnf
                    refine ⟨by omega, ?_⟩
                    conv => whnf
                    refine ⟨⟨⟨rfl, by omega, by simp only [ty3]; omega⟩, by omega⟩, ?_⟩
                    conv => whnf
                    refine ⟨by omega, ?_⟩
                    conv => whnf
                    refine ⟨by omega, ?_⟩
                    conv => whnf
                    refine ⟨by omega, ?_⟩
                    conv => whnf
                    rw [Nat.zero_add, epc']
                    cases h5 : (pcF l (atF l n')).e
                    · rw [if_neg (by rw [h5]; simp)] at hrow
                      have en : w32 (n' + 1) = w32 (fi + ((o ++ [atF l n' - 1]).length : Nat)) := by rw [← hn', List.length_append]; unfold w32; simp; omega
                      conv => whnf
                      refine ⟨⟨o ++ [atF l n' - 1], by simp; omega, by rw [← hrow0, hrow, en, List.length_append]; rfl⟩, by simp; omega, .refl _, .refl _, .refl _, .refl _, .of_eq (by dsimp only; rw [wrapU, en]), .of_eq (by dsimp only; rw [List.length_append]; rfl), .refl _, ⟨rfl, rfl, by simp, fun k hk => ?_⟩, OLe.refl _, OLe.refl _, OLe.refl _, trivial⟩
                      exact slT_app encJ o (atF l n' - 1) k (by simpa using hk) (by show [D.i .i64 ((atF l n' : Int) - 1)] = [D.i .i64 ((atF l n' - 1 : Nat) : Int)]; rw [show ((atF l n' - 1 : Nat) : Int) = (atF l n' : Int) - 1 from by omega])
                    · rw [if_pos h5] at hrow
                      conv => whnf
                      refine ⟨.rsl 116 1 0 (o ++ [atF l n' - 1]).length, [(E0, rowQ l), (116, rowJ (o ++ [atF l n' - 1]))], .of_eq (by rw [List.length_append]; rfl), ⟨OLe.refl _, ⟨rfl, rfl, by simp, fun k hk => ?_⟩, trivial⟩, by rw [hrow]; rfl, by rw [hrow]; rfl⟩
                      exact slT_app encJ o (atF l n' - 1) k (by simpa using hk) (by show [D.i .i64 ((atF l n' : Int) - 1)] = [D.i .i64 ((atF l n' - 1 : Nat) : Int)]; rw [show ((atF l n' - 1 : Nat) : Int) = (atF l n' : Int) - 1 from by omega])
                · rw [show (n' != fi) = true from bne_iff_ne.2 h2]
                  conv => whnf
                  refine ⟨by omega, ?_⟩
                  conv => whnf
                  refine ⟨by omega, ?_⟩
                  conv => whnf
                  refine ⟨by omega, ?_⟩
                  conv => whnf
                  rw [Nat.zero_add, epc']
                  cases h3 : (pcF l (atF l n')).b
                  · have hc : ¬ (n' ≠ fi ∧ (pcF l (atF l n')).b = true) := fun h => by rw [h3] at h; cases h.2
                    conv => whnf
                    refine ⟨by omega, ?_⟩
                    conv => whnf
                    refine ⟨by omega, ?_⟩
                    conv => whnf
                    refine ⟨by omega, ?_⟩
                    conv => whnf
                    rw [Nat.zero_add, epc']
                    refine ⟨_, (kin_spec (pcF l (atF l n')) p), ?_⟩
                    conv => whnf
                    cases h4 : kin (pcF l (atF l n')) p
                    · rw [if_pos (.inr (.inr h4))] at hrow
                      conv => whnf
                      refine gR ?_
                      conv => whnf
                      refine ⟨.d nilD, [(E0, rowQ l)], .refl _, ⟨OLe.refl _, trivial⟩, by rw [hrow]; rfl, by rw [hrow]; rfl⟩
                    · rw [if_neg (by rintro (h | h | h)
                                     · exact h1 h
                                     · exact hc h
                                     · rw [h4] at h; cases h)] at hrow
                      conv => whnf
                      refine gR ?_
                      conv => whnf
                      refine ⟨by omega, ?_⟩
                      conv => whnf
                      refine ⟨⟨⟨rfl, by omega, by simp only [ty3]; omega⟩, by omega⟩, ?_⟩
                      conv => whnf
                      refine ⟨by omega, ?_⟩
                      conv => whnf
                      refine ⟨by omega, ?_⟩
                      conv => whnf
                      refine ⟨by omega, ?_⟩
                      conv => whnf
                      rw [Nat.zero_add, epc']
                      cases h5 : (pcF l (atF l n')).e
                      · rw [if_neg (by rw [h5]; simp)] at hrow
                        have en : w32 (n' + 1) = w32 (fi + ((o ++ [atF l n' - 1]).length : Nat)) := by rw [← hn', List.length_append]; unfold w32; simp; omega
                        conv => whnf
                        refine ⟨⟨o ++ [atF l n' - 1], by simp; omega, by rw [← hrow0, hrow, en, List.length_append]; rfl⟩, by simp; omega, .refl _, .refl _, .refl _, .refl _, .of_eq (by dsimp only; rw [wrapU, en]), .of_eq (by dsimp only; rw [List.length_append]; rfl), .refl _, ⟨rfl, rfl, by simp, fun k hk => ?_⟩, OLe.refl _, OLe.refl _, OLe.refl _, trivial⟩
                        exact slT_app encJ o (atF l n' - 1) k (by simpa using hk) (by show [D.i .i64 ((atF l n' : Int) - 1)] = [D.i .i64 ((atF l n' - 1 : Nat) : Int)]; rw [show ((atF l n' - 1 : Nat) : Int) = (atF l n' : Int) - 1 from by omega])
                      · rw [if_pos h5] at hrow
                        conv => whnf
                        refine ⟨.rsl 116 1 0 (o ++ [atF l n' - 1]).length, [(E0, rowQ l), (116, rowJ (o ++ [atF l n' - 1]))], .of_eq (by rw [List.length_append]; rfl), ⟨OLe.refl _, ⟨rfl, rfl, by simp, fun k hk => ?_⟩, trivial⟩, by rw [hrow]; rfl, by rw [hrow]; rfl⟩
                        exact slT_app encJ o (atF l n' - 1) k (by simpa using hk) (by show [D.i .i64 ((atF l n' : Int) - 1)] = [D.i .i64 ((atF l n' - 1 : Nat) : Int)]; rw [show ((atF l n' - 1 : Nat) : Int) = (atF l n' : Int) - 1 from by omega])
                  · rw [if_pos (.inr (.inl ⟨h2, h3⟩))] at hrow
                    conv => whnf
                    refine gR ?_
                    conv => whnf
                    refine ⟨.d nilD, [(E0, rowQ l)], .refl _, ⟨OLe.refl _, trivial⟩, by rw [hrow]; rfl, by rw [hrow]; rfl⟩
            · have hlt : ¬ o.length < l.length := by simpa using hlt
              rw [show l.length - o.length = 0 from by omega, rowFwd] at hrow
              conv => whnf
              refine ⟨.d nilD, [(E0, rowQ l)], .refl _, ⟨OLe.refl _, trivial⟩, by rw [hrow]; rfl, by rw [hrow]; rfl⟩
end Go.Proofs.YtbkcekmahdbgdaaGreat
