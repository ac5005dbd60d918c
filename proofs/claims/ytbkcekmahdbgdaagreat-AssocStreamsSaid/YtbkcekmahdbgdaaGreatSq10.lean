/- AssocStreams: the engine, contracts and plain laws that its proof leans on, part 10. -/
import Derived.Test.YtbkcekmahdbgdaaGreatSq06
import Derived.Test.YtbkcekmahdbgdaaGreatSq09
import Derived.Test.YtbkcekmahdbgdaaGreatSq08
import Derived.OpenShut
namespace Go.Proofs.YtbkcekmahdbgdaaGreat.St
open Go Towline Towline.Store
set_option linter.unusedVariables false
set_option maxRecDepth 20000
set_option maxHeartbeats 2000000
theorem follows:Tryz.prog.follows .mixedOrders=true:=by kernel_rfl
abbrev vi (n:Int):AVal:=.d (.i .i64 n)
abbrev vb (b:Bool):AVal:=.d (.b b)
abbrev vs (l:List UInt8):AVal:=.d (.s l)
def encM (m:Msg):List D:=[.i .i64 m.id,.i .u16 m.stream,.i .u32 m.ppid,.b m.free,.s m.text,.i .i64 m.til]
def encN (n:Nat):List D:=[.i .u16 n]
def encI (n:Int):List D:=[.i .i64 n]
abbrev stL (l:List Msg) (a:Int) (nx:List Nat):List AVal:=[.d (slT 6 encM l),vi a,.d (slT 1 encN nx)]
abbrev stA (l:List Msg) (a:Int) (nx:List Nat):AVal:=.agg (stL l a nx)
abbrev msgA (m:Msg):AVal:=.agg [vi m.id,.d (.i .u16 m.stream),.d (.i .u32 m.ppid),vb m.free,vs m.text,vi m.til]
abbrev pcA (p:Pc):AVal:=.agg [.d (.i .u32 p.tsn),vb p.first,vb p.last,vb p.free,.d (.i .u16 p.stream),.d (.i .u16 p.ssn),.d (.i .u32 p.ppid),vs p.text]
theorem bytes_spec (l:List Msg) (a:Int) (nx:List Nat) (h1:total l≤2 ^ 40) (h2 : -2 ^ 40≤a) (h3:a≤2 ^ 40) (h4:l.length≤2 ^ 40):PSpec Tryz.prog 54 [stA l a nx] (· = vi (total l-a)):=by
 refine PSpec.run tysOk follows Tryz.func54 (by decide) rfl Tryz.ntmps54 (Nat.le_of_ble_eq_true rfl) rfl fun w0 R0 hGw=>?_
 conv=>whnf
 refine ALoop.intro tysOk follows (fun k:{k // k≤l.length}=>([(1,.ptr 1 0),(3,vi (total (l.take k.1))),(7,.d (slT 6 encM l)),(8,vi l.length),(9,vi k.1)],[(1,.box (stL l a nx))])) (fun k=>l.length-k.1) ⟨0,by omega⟩ ?_ ?_
 ·exact ⟨.refl _,.refl _,.refl _,.refl _,.refl _,OLe.refl _,trivial⟩
 ·rintro ⟨k,hk⟩
  dsimp only
  conv=>whnf
  split
  ·rename_i hlt
   have hlt:k<l.length:=by simpa using hlt
   have ht:=total_take l k hlt
   have hle:=total_take_le l (k+1)
   conv=>whnf
   refine ⟨by omega,?_⟩
   conv=>whnf
   refine ⟨by rw [tnC];omega,?_⟩
   conv=>whnf
   refine ⟨by omega,?_⟩
   conv=>whnf
   refine ⟨⟨k+1,by omega⟩,by dsimp only;omega,.refl _,?_,.refl _,.refl _,.refl _,OLe.refl _,trivial⟩
   refine .of_eq ?_
   dsimp only
   rw [ht,tnC,Int.natCast_add]
  ·rename_i hge
   have hge:¬k<l.length:=by simpa using hge
   obtain rfl:k=l.length:=by omega
   conv=>whnf
   refine ⟨by rw [List.take_length];omega,?_⟩
   conv=>whnf
   exact ⟨_,.refl _,by rw [List.take_length],rfl⟩
theorem ids_spec (l:List Msg) (a:Int) (nx:List Nat) (h4:l.length≤2 ^ 40):PSpec Tryz.prog 94 [stA l a nx] (· = .d (slT 1 encI (l.map (·.id)))):=by
 refine PSpec.run tysOk follows Tryz.func94 (by decide) rfl Tryz.ntmps94 (Nat.le_of_ble_eq_true rfl) rfl fun w0 R0 hGw=>?_
 conv=>whnf
 refine ALoop.adopt 3 17 1 3 (fun j=>encI (l.getD j default).id) rfl rfl rfl ?_
 refine ALoop.intro tysOk follows (fun k:{k // k≤l.length}=>([(1,.ptr 1 0),(3,.rsl 17 1 0 k.1),(7,.d (slT 6 encM l)),(8,vi l.length),(9,vi k.1)],[(1,.box (stL l a nx)),(17,.row 3 1 k.1 (fun j=>encI (l.getD j default).id))])) (fun k=>l.length-k.1) ⟨0,by omega⟩ ?_ ?_
 ·exact ⟨.refl _,.refl _,.refl _,.refl _,.refl _,OLe.refl _,OLe.refl _,trivial⟩
 ·rintro ⟨k,hk⟩
  dsimp only
  conv=>whnf
  split
  ·rename_i hlt
   have hlt:k<l.length:=by simpa using hlt
   conv=>whnf
   refine ⟨by omega,?_⟩
   conv=>whnf
   refine ⟨⟨⟨rfl,by omega,by simp only [ty3];omega⟩,by omega⟩,?_⟩
   conv=>whnf
   refine ⟨by omega,?_⟩
   conv=>whnf
   refine ⟨⟨k+1,by omega⟩,by dsimp only;omega,.refl _,.refl _,.refl _,.refl _,.refl _,OLe.refl _,⟨rfl,rfl,rfl,?_⟩,trivial⟩
   intro j hj
   simp only [fcat]
   split
   ·rfl
   ·have:j=k:=by omega
    subst this;simp [encI]
  ·rename_i hge
   have hge:¬k<l.length:=by simpa using hge
   obtain rfl:k=l.length:=by omega
   conv=>whnf
   refine ⟨by omega,?_⟩
   conv=>whnf
   refine ⟨_,.sl (by simp) (fun k hk=>?_),rfl,rfl⟩
   simp [encI,hk]
theorem clone_spec {α:Type} [Inhabited α] (enc:α→List D) (l:List α) (hl:l.length≤2 ^ 40) :
  PSpec Tryz.prog 91 [.d (slT 6 enc l)] (· = .fresh 60 6 l.length fun k=>enc (l.getD k default)):=by
 refine PSpec.runF tysOk follows Tryz.func91 (by decide) rfl Tryz.ntmps91 (Nat.le_of_ble_eq_true rfl) rfl fun w0 R0 hGw=>?_
 conv=>whnf
 intro b hb
 cases b with
 |true=>
  have h0:l.length=0:=by
   rcases Nat.eq_zero_or_pos l.length with h|h
   ·exact h
   ·have:=hb h;cases this
  conv=>whnf
  exact ⟨60,6,_,by rw [h0]⟩
 |false=>
  conv=>whnf
  refine ⟨⟨rfl,by omega,by simp only [ty60];omega⟩,?_⟩
  conv=>whnf
  refine ⟨rfl,rfl,l.length,_,by omega,fun k hk=>?_,rfl⟩
  simp [fcat]
theorem clone16_spec (l:List Nat) (hl:l.length≤2 ^ 40) :
  PSpec Tryz.prog 144 [.d (slT 1 encN l)] (· = .fresh 39 1 l.length fun k=>encN (l.getD k default)):=by
 refine PSpec.runF tysOk follows Tryz.func144 (by decide) rfl Tryz.ntmps144 (Nat.le_of_ble_eq_true rfl) rfl fun w0 R0 hGw=>?_
 conv=>whnf
 intro b hb
 cases b with
 |true=>
  have h0:l.length=0:=by
   rcases Nat.eq_zero_or_pos l.length with h|h
   ·exact h
   ·have:=hb h;cases this
  conv=>whnf
  exact ⟨39,1,_,by rw [h0]⟩
 |false=>
  conv=>whnf
  refine ⟨⟨rfl,by omega,by simp only [ty39];omega⟩,?_⟩
  conv=>whnf
  refine ⟨rfl,rfl,l.length,_,by omega,fun k hk=>?_,rfl⟩
  simp [fcat]
def pushE (l:List Msg) (a:Int) (nx:List Nat) (m:Msg):Int:=
 if nx.length≤m.stream then 12 else if m.text=[] then 1 else if 20000<m.text.length then 4 else if 60000<(total l:Int)-a+m.text.length then 10 else 0
theorem slT_app {α:Type} [Inhabited α] (enc:α→List D) (l:List α) (x:α) (k:Nat) (hk:k<l.length+1) {f:Nat→List D} (hf:f 0=enc x):fcat (fun k=>enc (l.getD k default)) l.length f k=enc ((l++[x]).getD k default):=by
 unfold fcat
 split
 ·rename_i h
  simp only [List.getD_eq_getElem?_getD,List.getElem?_append,h,if_true]
 ·have:k=l.length:=by omega
  subst this
  simp [hf]
theorem push_spec (l:List Msg) (a:Int) (nx:List Nat) (m:Msg) (h1:total l≤2 ^ 40) (h2 : -2 ^ 40≤a) (h3:a≤2 ^ 40) (h4:l.length≤2 ^ 40) (h5:m.stream≤65535) :
  PSpec Tryz.prog 43 [stA l a nx,msgA m] (· = .tup [if pushE l a nx m=0 then stA (l++[m]) a nx else stA [] 0 [],vi (pushE l a nx m)]):=by
 refine PSpec.run tysOk follows Tryz.func43 (by decide) rfl Tryz.ntmps43 (Nat.le_of_ble_eq_true rfl) rfl fun w0 R0 hGw=>?_
 conv=>whnf
 refine ⟨by omega,?_⟩
 conv=>whnf
 split
 ·rename_i h
  have h:nx.length≤m.stream:=by simpa using h
  conv=>whnf
  refine ⟨_,?_,rfl,by split<;>rfl⟩
  rw [show pushE l a nx m=12 from by simp [pushE,h],if_neg (by omega)]
  exact .tup ⟨.agg ⟨.nil,.refl _,.nil,trivial⟩,.refl _,trivial⟩
 ·rename_i h
  have h:¬nx.length≤m.stream:=by simpa using h
  conv=>whnf
  split
  ·rename_i hh
   have hh:m.text=[]:=by simpa using hh
   conv=>whnf
   refine ⟨_,?_,rfl,by split<;>rfl⟩
   rw [show pushE l a nx m=1 from by simp [pushE,h,hh],if_neg (by omega)]
   exact .tup ⟨.agg ⟨.nil,.refl _,.nil,trivial⟩,.refl _,trivial⟩
  ·rename_i hh
   have hh:¬m.text=[]:=by simpa using hh
   conv=>whnf
   split
   ·rename_i h6
    have h6:20000<m.text.length:=by
     have:(20000:Int)<m.text.length:=by simpa using h6
     omega
    conv=>whnf
    refine ⟨_,?_,rfl,by split<;>rfl⟩
    rw [show pushE l a nx m=4 from by simp [pushE,h,hh,h6],if_neg (by omega)]
    exact .tup ⟨.agg ⟨.nil,.refl _,.nil,trivial⟩,.refl _,trivial⟩
   ·rename_i h6
    have h6:¬20000<m.text.length:=by
     have:¬(20000:Int)<m.text.length:=by simpa using h6
     omega
    conv=>whnf
    refine ⟨_,bytes_spec l a nx h1 h2 h3 h4,?_⟩
    conv=>whnf
    refine ⟨by omega,?_⟩
    conv=>whnf
    refine gR ?_
    conv=>whnf
    split
    ·rename_i h7
     have h7:60000<(total l:Int)-a+m.text.length:=by simpa using h7
     conv=>whnf
     refine ⟨_,?_,rfl,by split<;>rfl⟩
     rw [show pushE l a nx m=10 from by simp [pushE,h,hh,h6,h7],if_neg (by omega)]
     exact .tup ⟨.agg ⟨.nil,.refl _,.nil,trivial⟩,.refl _,trivial⟩
    ·rename_i h7
     have h7:¬60000<(total l:Int)-a+m.text.length:=by simpa using h7
     conv=>whnf
     refine ⟨_,clone_spec encM l h4,?_⟩
     conv=>whnf
     refine ⟨⟨⟨rfl,by omega,by simp only [ty60];omega⟩,by omega⟩,?_⟩
     conv=>whnf
     refine gR ?_
     conv=>whnf
     refine ⟨by omega,?_⟩
     conv=>whnf
     refine ⟨_,?_,rfl,by split<;>rfl⟩
     rw [show pushE l a nx m=0 from by simp [pushE,h,hh,h6,h7],if_pos rfl]
     refine .tup ⟨.agg ⟨.sl (by simp) (fun k hk=>slT_app encM l m k hk rfl),.refl _,.refl _,trivial⟩,.refl _,trivial⟩
theorem kept_spec (g:Nat) (keep:Nat→Msg→Bool) (l:List Msg) (h4:l.length≤2 ^ 40)
  (hk:∀(i:Nat) (m:Msg),i<2 ^ 40→m∈l→PSpec Tryz.prog g [vi i,msgA m] (· = vb (keep i m))) :
  PSpec Tryz.prog 92 [.d (slT 6 encM l),.fn g []] (· = .tup [.d (slT 6 encM (ins keep 0 l)),.d (slT 6 encM (outs keep 0 l))]):=by
 refine PSpec.run tysOk follows Tryz.func92 (by decide) rfl Tryz.ntmps92 (Nat.le_of_ble_eq_true rfl) rfl fun w0 R0 hGw=>?_
 conv=>whnf
 refine ALoop.adopt 4 22 6 60 (fun j=>encM ((ins keep 0 l).getD j default)) rfl rfl rfl ?_
 refine ALoop.adopt 5 26 6 60 (fun j=>encM ((outs keep 0 l).getD j default)) rfl rfl rfl ?_
 refine ALoop.intro tysOk follows (fun k:{k // k≤l.length}=>([(0,.d (slT 6 encM l)),(1,.fn g []),(4,.rsl 22 6 0 (ins keep 0 (l.take k.1)).length),(5,.rsl 26 6 0 (outs keep 0 (l.take k.1)).length),(8,.d (slT 6 encM l)),(9,vi l.length),(10,vi k.1)],[(22,.row 60 6 (ins keep 0 (l.take k.1)).length (fun j=>encM ((ins keep 0 (l.take k.1)).getD j default))),(26,.row 60 6 (outs keep 0 (l.take k.1)).length (fun j=>encM ((outs keep 0 (l.take k.1)).getD j default)))])) (fun k=>l.length-k.1) ⟨0,by omega⟩ ?_ ?_
 ·exact ⟨.refl _,.refl _,.refl _,.refl _,.refl _,.refl _,.refl _,⟨rfl,rfl,rfl,fun j hj=>absurd hj (Nat.not_lt_zero j)⟩,⟨rfl,rfl,rfl,fun j hj=>absurd hj (Nat.not_lt_zero j)⟩,trivial⟩
 ·rintro ⟨k,hkl⟩
  have hi:=(ins_len keep (l.take k) 0).1
  have ho:=(ins_len keep (l.take k) 0).2
  rw [List.length_take,Nat.min_eq_left hkl] at hi ho
  dsimp only
  conv=>whnf
  split
  ·rename_i hlt
   have hlt:k<l.length:=by simpa using hlt
   have hmem:l.getD k default∈l:=by rw [List.getD_eq_getElem?_getD,List.getElem?_eq_getElem hlt];exact List.getElem_mem hlt
   have hs:l.take (k+1)=l.take k++[l.getD k default]:=by rw [List.take_succ_eq_append_getElem hlt];simp [List.getD_eq_getElem?_getD,hlt]
   have hl2:(l.take k).length=k:=by rw [List.length_take];omega
   have hins:=ins_snoc keep (l.take k) 0 (l.getD k default)
   have houts:=outs_snoc keep (l.take k) 0 (l.getD k default)
   rw [hl2,Nat.zero_add,←hs] at hins houts
   conv=>whnf
   refine ⟨by omega,?_⟩
   conv=>whnf
   refine ⟨_,hk k _ (by omega) hmem,?_⟩
   rintro r rfl
   conv=>whnf
   split
   ·rename_i hb
    have hb:keep k (l.getD k default)=true:=hb
    rw [hb] at hins houts
    simp only [if_true,List.append_nil] at hins houts
    conv=>whnf
    refine ⟨⟨⟨rfl,by omega,by simp only [ty60];omega⟩,by omega⟩,?_⟩
    conv=>whnf
    refine ⟨by omega,?_⟩
    conv=>whnf
    refine ⟨⟨k+1,by omega⟩,by dsimp only;omega,.refl _,.refl _,?_,?_,.refl _,.refl _,.refl _,⟨rfl,rfl,?_,?_⟩,⟨rfl,rfl,?_,?_⟩,trivial⟩
    ·exact .of_eq (by dsimp only;rw [hins,List.length_append];rfl)
    ·exact .of_eq (by dsimp only;rw [houts])
    ·dsimp only;rw [hins,List.length_append];rfl
    ·intro j hj
     dsimp only
     rw [hins]
     exact slT_app encM _ _ j hj rfl
    ·dsimp only;rw [houts]
    ·intro j hj
     dsimp only
     rw [houts]
   ·rename_i hb
    have hb:keep k (l.getD k default)=false:=hb
    rw [hb] at hins houts
    simp only [if_false,List.append_nil,Bool.false_eq_true] at hins houts
    conv=>whnf
    refine ⟨⟨⟨rfl,by omega,by simp only [ty60];omega⟩,by omega⟩,?_⟩
    conv=>whnf
    refine ⟨by omega,?_⟩
    conv=>whnf
    refine ⟨⟨k+1,by omega⟩,by dsimp only;omega,.refl _,.refl _,?_,?_,.refl _,.refl _,.refl _,⟨rfl,rfl,?_,?_⟩,⟨rfl,rfl,?_,?_⟩,trivial⟩
    ·exact .of_eq (by dsimp only;rw [hins])
    ·exact .of_eq (by dsimp only;rw [houts,List.length_append];rfl)
    ·dsimp only;rw [hins]
    ·intro j hj
     dsimp only
     rw [hins]
    ·dsimp only;rw [houts,List.length_append];rfl
    ·intro j hj
     dsimp only
     rw [houts]
     exact slT_app encM _ _ j hj rfl
  ·rename_i hge
   have hge:¬k<l.length:=by simpa using hge
   obtain rfl:k=l.length:=by omega
   rw [List.take_length]
   conv=>whnf
   refine ⟨by omega,?_⟩
   conv=>whnf
   refine ⟨by omega,?_⟩
   conv=>whnf
   refine ⟨_,?_,rfl,rfl⟩
   exact .tup ⟨.sl (by simp) (fun j hj=>by simp),.sl (by simp) (fun j hj=>by simp),trivial⟩
theorem tail_keep (i:Nat) (m:Msg):PSpec Tryz.prog 172 [vi i,msgA m] (· = vb (decide (0<i))):=by
 refine PSpec.run tysOk follows Tryz.func172 (by decide) rfl Tryz.ntmps172 (Nat.le_of_ble_eq_true rfl) rfl fun w0 R0 hGw=>?_
 conv=>whnf
 refine ⟨_,.refl _,?_,rfl⟩
 have:((0:Int)<i)↔0<i:=by omega
 simp
theorem kept_tail (m:Msg) (r:List Msg) (h:r.length≤2 ^ 40-1) :
  PSpec Tryz.prog 92 [.d (slT 6 encM (m::r)),.fn 172 []] (· = .tup [.d (slT 6 encM r),.d (slT 6 encM (outs (fun i _=>decide (0<i)) 0 (m::r)))]):=by
 have:=kept_spec 172 (fun i _=>decide (0<i)) (m::r) (by simp;omega) fun i m _ _=>tail_keep i m
 rw [ins_tail] at this
 exact this
theorem nat_beq0 (a:Nat):((a:Int)==0)=(a==0):=by rw [Bool.eq_iff_iff];simp
theorem textOf {m:Msg} {a:Nat} {most:Int} (ha:a<m.text.length):cutS (cutS m.text (some ↑a) none) none (some (min (((cutS m.text (some ↑a) none).length:Nat):Int) (max 1 (min most 1000))))=(m.text.drop a).take (cut m a most)∧((m.text.drop a).take (cut m a most)).length=cut m a most:=by
 obtain ⟨k1,k2,k3⟩:=cut_le (most:=most) ha
 have kk:=cut_int (most:=most) ha
 have e:cutS m.text (some ↑a) none=m.text.drop a:=by simp [cutS]
 refine ⟨?_,by rw [List.length_take,List.length_drop];omega⟩
 rw [e,List.length_drop]
 simp only [cutS]
 congr 1
 omega
theorem take_spec (m:Msg) (r:List Msg) (a:Nat) (nx:List Nat) (most:Int) (hs:m.stream<nx.length) (hm:m.stream≤65535) (ha:a<m.text.length) (hlen:m.text.length≤2 ^ 40) (hn40:r.length≤2 ^ 40-1) (hx:nx.length≤2 ^ 40) :
  PSpec Tryz.prog 115 [stA (m::r) a nx,vi most] (· = .tup [stA (after m r a nx most).l (after m r a nx most).a (after m r a nx most).next,pcA (pieceOf m a nx most),vi m.id,vb true]):=by
 obtain ⟨k1,k2,k3⟩:=cut_le (most:=most) ha
 obtain ⟨eT,lT⟩:=textOf (most:=most) ha
 have e0:(m::r).getD (Int.toNat 0) default=m:=rfl
 refine PSpec.run tysOk follows Tryz.func115 (by decide) rfl Tryz.ntmps115 (Nat.le_of_ble_eq_true rfl) rfl fun w0 R0 hGw=>?_
 conv=>whnf
 refine ⟨by first|omega|(simp;done)|(simp;omega),?_⟩
 conv=>whnf
 refine ⟨by first|omega|(simp;done)|(simp;omega),?_⟩
 conv=>whnf
 rw [e0]
 split
 ·rename_i h
  have h:nx.length≤m.stream:=by simpa using h
  omega
 conv=>whnf
 refine ⟨by first|omega|(simp;done)|(simp;omega),?_⟩
 conv=>whnf
 refine gR ?_
 conv=>whnf
 rw [e0]
 split
 ·rename_i h
  have h:((m.text.length:Nat):Int)<(a:Int):=by simpa using h
  omega
 conv=>whnf
 refine ⟨by first|omega|(simp;done)|(simp;omega),?_⟩
 conv=>whnf
 rw [e0]
 refine ⟨by omega,?_⟩
 conv=>whnf
 refine ⟨by simp [cutS];omega,?_⟩
 conv=>whnf
 rw [eT]
 have ht:((m.text.drop a).take (cut m a most)).length=cut m a most:=lT
 split
 ·rename_i hf
  have hf:m.free=false:=by simpa using hf
  conv=>whnf
  refine ⟨by omega,?_⟩
  conv=>whnf
  rw [lT]
  refine ⟨by omega,?_⟩
  conv=>whnf
  split
  ·rename_i hc
   have hc:a+cut m a most<m.text.length:=by
    have:((a:Int)+(cut m a most:Nat))<m.text.length:=by simpa using hc
    omega
   conv=>whnf
   refine gR ?_
   conv=>whnf
   have e1:after m r a nx most=⟨m::r,a+cut m a most,nx⟩:=by simp [after,hc]
   refine ⟨_,?_,rfl,by rw [e1];rfl⟩
   rw [e1]
   refine .tup ⟨.agg ⟨.refl _,.of_eq (by simp),.refl _,trivial⟩,.agg ⟨.refl _,.of_eq ?_,.of_eq ?_,.refl _,.refl _,.of_eq ?_,.refl _,.refl _,trivial⟩,.refl _,.refl _,trivial⟩
   ·simp [pieceOf,nat_beq0]
   ·simp [pieceOf];omega
   ·simp [pieceOf,num,hf]
  ·rename_i hc
   have hc:¬a+cut m a most<m.text.length:=by
    have:¬((a:Int)+(cut m a most:Nat))<m.text.length:=by simpa using hc
    omega
   conv=>whnf
   refine ⟨_,kept_tail m r hn40,?_⟩
   rintro q rfl
   conv=>whnf
   rw [hf]
   conv=>whnf
   refine ⟨_,clone16_spec nx hx,?_⟩
   rintro q rfl
   conv=>whnf
   refine ⟨by omega,?_⟩
   conv=>whnf
   refine ⟨by omega,?_⟩
   conv=>whnf
   refine ⟨by omega,?_⟩
   conv=>whnf
   refine ⟨by omega,?_⟩
   conv=>whnf
   refine gR ?_
   conv=>whnf
   refine ⟨by omega,?_⟩
   conv=>whnf
   have e1:after m r a nx most=⟨r,0,nx.set m.stream ((nx.getD m.stream 0+1) % 65536)⟩:=by simp [after,hc,bump,hf]
   refine ⟨_,?_,rfl,by rw [e1];rfl⟩
   rw [e1]
   refine .tup ⟨.agg ⟨.refl _,.of_eq (by simp),.sl (by simp) (fun k hk=>?_),trivial⟩,.agg ⟨.refl _,.of_eq ?_,.of_eq ?_,.of_eq ?_,.refl _,.of_eq ?_,.refl _,.refl _,trivial⟩,.refl _,.refl _,trivial⟩
   ·have hk:k<nx.length:=by simpa using hk
    have e3:IntKind.u16.wrap (((nx.getD m.stream 0:Nat):Int)+1)=(((nx.getD m.stream 0+1) % 65536:Nat):Int):=by simp [IntKind.wrap,IntKind.bits,IntKind.signed]
    simp only [fupd,Nat.zero_add,tnC]
    split
    ·rename_i e
     subst e
     rw [show (nx.getD m.stream default)=nx.getD m.stream 0 from rfl,e3]
     simp [encN,hs]
    ·rename_i e
     rw [show (default:Nat)=0 from rfl]
     simp only [List.getD_eq_getElem?_getD,List.getElem?_set]
     rw [if_neg (by omega)]
   ·simp [pieceOf,nat_beq0]
   ·simp [pieceOf];omega
   ·simp [pieceOf,hf]
   ·simp [pieceOf,num,hf]
 ·rename_i hf
  have hf:m.free=true:=by simpa using hf
  conv=>whnf
  rw [lT]
  refine ⟨by omega,?_⟩
  conv=>whnf
  split
  ·rename_i hc
   have hc:a+cut m a most<m.text.length:=by
    have:((a:Int)+(cut m a most:Nat))<m.text.length:=by simpa using hc
    omega
   conv=>whnf
   refine gR ?_
   conv=>whnf
   have e1:after m r a nx most=⟨m::r,a+cut m a most,nx⟩:=by simp [after,hc]
   refine ⟨_,?_,rfl,by rw [e1];rfl⟩
   rw [e1]
   refine .tup ⟨.agg ⟨.refl _,.of_eq (by simp),.refl _,trivial⟩,.agg ⟨.refl _,.of_eq ?_,.of_eq ?_,.refl _,.refl _,.of_eq ?_,.refl _,.refl _,trivial⟩,.refl _,.refl _,trivial⟩
   ·simp [pieceOf,nat_beq0]
   ·simp [pieceOf];omega
   ·simp [pieceOf,num,hf]
  ·rename_i hc
   have hc:¬a+cut m a most<m.text.length:=by
    have:¬((a:Int)+(cut m a most:Nat))<m.text.length:=by simpa using hc
    omega
   conv=>whnf
   refine ⟨_,kept_tail m r hn40,?_⟩
   rintro q rfl
   conv=>whnf
   rw [hf]
   conv=>whnf
   refine gR ?_
   conv=>whnf
   have e1:after m r a nx most=⟨r,0,nx⟩:=by simp [after,hc,bump,hf]
   refine ⟨_,?_,rfl,by rw [e1];rfl⟩
   rw [e1]
   refine .tup ⟨.agg ⟨.refl _,.of_eq (by simp),.refl _,trivial⟩,.agg ⟨.refl _,.of_eq ?_,.of_eq ?_,.of_eq ?_,.refl _,.of_eq ?_,.refl _,.refl _,trivial⟩,.refl _,.refl _,trivial⟩
   ·simp [pieceOf,nat_beq0]
   ·simp [pieceOf];omega
   ·simp [pieceOf,hf]
   ·simp [pieceOf,num,hf]
end Go.Proofs.YtbkcekmahdbgdaaGreat.St
namespace Towline.Ac
end Towline.Ac
namespace Go.Proofs.YtbkcekmahdbgdaaGreat
open Go Go.RowKit Towline Towline.Hand Towline.Ac
set_option linter.unusedVariables false
set_option linter.unusedSimpArgs false
set_option maxRecDepth 20000
set_option maxHeartbeats 4000000
end Go.Proofs.YtbkcekmahdbgdaaGreat
namespace Towline.Ac
open Towline.Hand Towline.Chunk Towline.Store
structure As where
 h:H
 p:Ps
 s:S2
 xc:Int
 xl:List Sp
 data:List (Int×(Ch×Int))
 g:Gt
 bag:List Fp
 q:Qu
 inn:List Fm
 win:Int
 out:List (Int×List Ch)
 notes:List (Int×Int)
 owe:Int
 sack:Bool
 sackDue:Int
 sackTo:Int
 due:List Int
 heard:List Int
namespace As
def there (a:As) (i:Int):Int:=if thereP a.p.l.length i then i else max (a.p.choose (-1)) 0
def empty (a:As):Bool:=a.s.l.isEmpty&&a.xl.isEmpty
def closed (a:As):Bool:=a.h.st==0
def held (a:As):Nat:=fbytes a.bag+mbytes a.q.w+mbytes a.inn
def may (a:As) (i:Nat):Bool:=under a.xl (-1)==0 ||((a.p.l.getD i default).wn.may (under a.xl i)&&decide (under a.xl (-1)+1000≤a.h.window))
end As
end Towline.Ac
namespace Go.Proofs.YtbkcekmahdbgdaaGreat
open Go Go.RowKit Towline Towline.Hand Towline.Ac Towline.Chunk Towline.Store
set_option linter.unusedVariables false
set_option linter.unusedSimpArgs false
set_option maxRecDepth 20000
set_option maxHeartbeats 4000000
def encCh (c:Ch):List D:=[.i .i64 c.ty,.i .i64 c.flags,.i .u32 c.tsn,.i .u32 c.tag,.i .u32 c.window,.i .u32 c.ppid,.i .u16 c.stream,.i .u16 c.ssn,.i .u16 c.outs,.i .u16 c.ins,slT 2 encG c.gaps,slT 1 enc32 c.dups,slT 2 encI c.items,.s c.text]
def slE {α:Type} (sz:Nat) (enc:α→List D) (l:List α):D:=.sl sz l.length fun k=>(l.map enc).getD k []
def encOut (o:Int×List Ch):List D:=[.i .i64 o.1,slE 14 encCh o.2]
def encNote (n:Int×Int):List D:=[.i .i64 n.1,.i .i64 n.2]
def encDat (l:List (Int×(Ch×Int))):List (D×D):=l.map fun x=>(.i .u32 x.1,.pt (encCh x.2.1++[.i .i64 x.2.2]))
abbrev asL (a : As) (nD nI nO nN nU nH : Nat) : List AVal :=
  [vi a.h.st, vi a.h.tries, vi a.h.due, v32 a.h.ourTag, v32 a.h.peerTag, v32 a.h.ourTsn, v32 a.h.peerTsn, v32 a.h.mine, v32 a.h.window, v16 a.h.outs, v16 a.h.ins, vs a.h.cookie,
   .d (ptD a.p.l), vi a.p.pr, vi a.p.all, .d (slT 6 St.encM a.s.l), vi a.s.a, .d (slT 1 St.encN a.s.next), v32 a.xc, .d (slT 7 encSp a.xl), .mref nD,
   v32 a.g.cum, .d (slT 1 encU a.g.ab), .d (slT 1 encU a.g.du), .d (slT 8 encFp a.bag), .d (slT 1 encS a.q.nx), .d (slT 6 encFm a.q.w), .rsl nI 6 0 a.inn.length, vi a.win,
   .rsl nO 2 0 a.out.length, .rsl nN 2 0 a.notes.length, vi a.owe, vb a.sack, vi a.sackDue, vi a.sackTo, .rsl nU 1 0 a.due.length, .rsl nH 1 0 a.heard.length]
abbrev asD (a : As) : List D :=
  [.i .i64 a.h.st, .i .i64 a.h.tries, .i .i64 a.h.due, .i .u32 a.h.ourTag, .i .u32 a.h.peerTag, .i .u32 a.h.ourTsn, .i .u32 a.h.peerTsn, .i .u32 a.h.mine, .i .u32 a.h.window, .i .u16 a.h.outs, .i .u16 a.h.ins, .s a.h.cookie,
   ptD a.p.l, .i .i64 a.p.pr, .i .i64 a.p.all, slT 6 St.encM a.s.l, .i .i64 a.s.a, slT 1 St.encN a.s.next, .i .u32 a.xc, slT 7 encSp a.xl, .o,
   .i .u32 a.g.cum, slT 1 encU a.g.ab, slT 1 encU a.g.du, slT 8 encFp a.bag, slT 1 encS a.q.nx, slT 6 encFm a.q.w, slT 6 encFm a.inn, .i .i64 a.win,
   slT 2 encOut a.out, slT 2 encNote a.notes, .i .i64 a.owe, .b a.sack, .i .i64 a.sackDue, .i .i64 a.sackTo, slT 1 encZ a.due, slT 1 encZ a.heard]
abbrev asE (a:As):AVal:=.eptr 37 1 (fun _=>asD a) 0 0
abbrev rowOut (l:List (Int×List Ch)):AObj:=.row 79 2 l.length fun j=>encOut (l.getD j default)
abbrev rowNo (l:List (Int×Int)):AObj:=.row 67 2 l.length fun j=>encNote (l.getD j default)
abbrev asB (a:As) (nD nI nO nN nU nH:Nat):AObj:=.box (asL a nD nI nO nN nU nH)
abbrev asH (a:As):Heap:=[(F0,asB a F1 F2 F3 F4 F5 F6),(F1,.dmp (encDat a.data)),(F2,rowFm a.inn),(F3,rowOut a.out),(F4,rowNo a.notes),(F5,rowZ a.due),(F6,rowZ a.heard)]
abbrev psN:List (Nat×Nat):=[(F1,2001),(F2,2002),(F3,2003),(F4,2004)]
abbrev asP (a:As):Heap:=[(F0,asB a 2001 2002 2003 2004 F5 F6),(2001,.dmp (encDat a.data)),(2002,rowFm a.inn),(2003,rowOut a.out),(2004,rowNo a.notes),(F5,rowZ a.due),(F6,rowZ a.heard)]
theorem len0 {α:Type} (l:List α):((l.length:Int)==0)=l.isEmpty:=by cases l<;>rfl
theorem there_spec (a:As) (i:Int) (hl:a.p.l.length≤2 ^ 30) (hp:0≤a.p.pr∧a.p.pr<2 ^ 30):PSpec Tryz.prog 53 [asE a,vi i] (· = vi (a.there i)):=by
 refine PSpec.run (tysOk) followsB Tryz.func53 (by decide) rfl Tryz.ntmps53 (Nat.le_of_ble_eq_true rfl) rfl fun w0 R0 hGw=>?_
 conv=>whnf
 have hch:∀(h:thereP a.p.l.length i=false),a.there i=max (a.p.choose (-1)) 0:=fun h=>by unfold As.there;rw [if_neg (by rw [h];simp)]
 cases g1:decide (0≤i)
 ·rw [hch (by unfold thereP;rw [g1];rfl)]
  conv=>whnf
  refine ⟨_,(pchoose_spec a.p (-1) (by decide) hl hp),?_⟩
  rintro q rfl
  conv=>whnf
  exact ⟨_,.refl _,rfl,rfl⟩
 ·conv=>whnf
  cases g2:decide (i<a.p.l.length)
  ·rw [hch (by unfold thereP;rw [g1,g2];rfl)]
   conv=>whnf
   refine ⟨_,(pchoose_spec a.p (-1) (by decide) hl hp),?_⟩
   rintro q rfl
   conv=>whnf
   exact ⟨_,.refl _,rfl,rfl⟩
  ·conv=>whnf
   exact ⟨_,.refl _,by unfold As.there thereP;rw [g1,g2];rfl,rfl⟩
theorem closed_spec (a:As):PSpec Tryz.prog 31 [asE a] (· = vb a.closed):=by
 refine PSpec.run (tysOk) followsB Tryz.func31 (by decide) rfl Tryz.ntmps31 (Nat.le_of_ble_eq_true rfl) rfl fun w0 R0 hGw=>?_
 conv=>whnf
 exact ⟨_,.refl _,rfl,rfl⟩
theorem state_spec' (a:As):PSpec Tryz.prog 23 [asE a] (· = vi a.h.st):=by
 refine PSpec.run (tysOk) followsB Tryz.func23 (by decide) rfl Tryz.ntmps23 (Nat.le_of_ble_eq_true rfl) rfl fun w0 R0 hGw=>?_
 conv=>whnf
 exact ⟨_,.refl _,rfl,rfl⟩
theorem empty_spec' (a:As):PSpec Tryz.prog 87 [asE a] (· = vb a.empty):=by
 refine PSpec.run (tysOk) followsB Tryz.func87 (by decide) rfl Tryz.ntmps87 (Nat.le_of_ble_eq_true rfl) rfl fun w0 R0 hGw=>?_
 conv=>whnf
 rw [len0]
 cases g1:a.s.l.isEmpty
 ·conv=>whnf
  exact ⟨_,.refl _,by unfold As.empty;rw [g1];rfl,rfl⟩
 ·conv=>whnf
  rw [len0]
  exact ⟨_,.refl _,by unfold As.empty;rw [g1];rfl,rfl⟩
theorem held_spec (a:As) (h1:a.bag.length≤2 ^ 30) (h2:fbytes a.bag≤2 ^ 40) (h3:a.q.w.length≤2 ^ 30) (h4:mbytes a.q.w≤2 ^ 40) (h5:a.inn.length≤2 ^ 30) (h6:mbytes a.inn≤2 ^ 40):PSpec Tryz.prog 56 [asE a] (· = vi a.held):=by
 refine PSpec.run (tysOk) followsB Tryz.func56 (by decide) rfl Tryz.ntmps56 (Nat.le_of_ble_eq_true rfl) rfl fun w0 R0 hGw=>?_
 conv=>whnf
 refine ⟨_,(fbytes_spec a.bag h1 h2),?_⟩
 conv=>whnf
 refine ⟨_,(obytes_spec (slT 1 encS a.q.nx) a.q.w h3 h4),?_⟩
 conv=>whnf
 refine gK ?_
 conv=>whnf
 refine gR ?_
 conv=>whnf
 have hbe:∀k,(fbytes a.bag+mbytes a.q.w+mbytes (a.inn.take k))≤2 ^ 42:=fun k=>by
  have:mbytes (a.inn.take k)≤mbytes a.inn:=sum_take_le _ a.inn k
  omega
 refine ALoop.intro tysOk followsB (fun k:{k // k≤a.inn.length}=>([(3,vi (fbytes a.bag+mbytes a.q.w+mbytes (a.inn.take k.1):Nat)),(20,.d (slT 6 encFm a.inn)),(21,vi a.inn.length),(22,vi k.1)],[])) (fun k=>a.inn.length-k.1) ⟨0,by omega⟩ ?_ ?_
 ·exact ⟨.refl _,.refl _,.refl _,.refl _,trivial⟩
 ·rintro ⟨k,hk⟩
  dsimp only
  have hb0:=hbe k
  have hst:k<a.inn.length→mbytes (a.inn.take (k+1))=mbytes (a.inn.take k)+(a.inn.getD k default).text.length:=sum_take _ a.inn k
  have hb1:=hbe (k+1)
  conv=>whnf
  cases g:decide ((k:Int)<a.inn.length)
  ·have g:k=a.inn.length:=by have:=of_decide_eq_false g;omega
   conv=>whnf
   exact ⟨_,.refl _,by rw [g,List.take_length];rfl,rfl⟩
  ·have g:k<a.inn.length:=by have:=of_decide_eq_true g;omega
   have hst:=hst g
   rw [hst] at hb1
   conv=>whnf
   refine gK ?_
   conv=>whnf
   rw [tnC]
   refine gK ?_
   conv=>whnf
   refine gK ?_
   conv=>whnf
   refine ⟨⟨k+1,by omega⟩,by dsimp only;omega,.of_eq (congrArg vi ?_),.refl _,.refl _,.refl _,trivial⟩
   dsimp only
   rw [hst];omega
theorem may_spec (a:As) (i:Nat) (hi:i<a.p.l.length) (hl:a.xl.length≤2 ^ 30) (hs:∀p∈a.xl,0≤p.size∧p.size≤1500) (hw:0≤a.h.window∧a.h.window<4294967296):PSpec Tryz.prog 112 [asE a,vi i] (· = vb (a.may i)):=by
 refine PSpec.run (tysOk) followsB Tryz.func112 (by decide) rfl Tryz.ntmps112 (Nat.le_of_ble_eq_true rfl) rfl fun w0 R0 hGw=>?_
 conv=>whnf
 have hu1:=sum_bound a.xl hs (-1)
 refine ⟨_,(under_spec a.xc a.xl (-1) hl hs),?_⟩
 rintro q rfl
 conv=>whnf
 cases g1:(under a.xl (-1)==0)
 ·conv=>whnf
  refine gK ?_
  conv=>whnf
  rw [tnC]
  refine ⟨_,(under_spec a.xc a.xl i hl hs),?_⟩
  conv=>whnf
  refine ⟨_,(wmay_spec (a.p.l.getD i default).wn (under a.xl i)),?_⟩
  conv=>whnf
  cases g2:(a.p.l.getD i default).wn.may (under a.xl i)
  ·conv=>whnf
   refine gR ?_
   conv=>whnf
   exact ⟨_,.refl _,by unfold As.may;rw [g1,g2];rfl,rfl⟩
  ·conv=>whnf
   refine gK ?_
   conv=>whnf
   refine gK ?_
   conv=>whnf
   refine gR ?_
   conv=>whnf
   exact ⟨_,.refl _,by unfold As.may;rw [g1,g2];rfl,rfl⟩
 ·conv=>whnf
  refine gR ?_
  conv=>whnf
  exact ⟨_,.refl _,by unfold As.may;rw [g1];rfl,rfl⟩
end Go.Proofs.YtbkcekmahdbgdaaGreat
namespace Towline.Ac
open Towline.Hand Towline.Chunk Towline.Store
namespace As
def note (a:As) (k n:Int):As:={ a with notes:=a.notes++[(k,n)]}
def reply (a:As) (d:Int) (l:List Ch):As:={ a with out:=a.out++l.map fun c=>(a.there d,[c])}
end As
end Towline.Ac
namespace Go.Proofs.YtbkcekmahdbgdaaGreat
open Go Go.RowKit Towline Towline.Hand Towline.Ac Towline.Chunk Towline.Store
set_option linter.unusedVariables false
set_option linter.unusedSimpArgs false
set_option maxRecDepth 20000
set_option maxHeartbeats 4000000
theorem note_spec (a:As) (k n:Int) (hn:a.notes.length≤2 ^ 30):LSpec Tryz.prog 45 [.ptr F0 0,vi k,vi n] (asH a) (fun r hl=>r=.tup []∧hl=asP (a.note k n)):=by
 refine LSpec.rens (LSpec.runN (h2:=asP a) psN (tysOk) followsB Tryz.func45 (by decide) rfl Tryz.ntmps45 (Nat.le_of_ble_eq_true rfl) rfl rfl rfl rfl rfl fun w0 R0 Lo hGw=>?_)
 conv=>whnf
 refine ⟨⟨⟨rfl,by omega,by simp only [ty67];omega⟩,by omega⟩,?_⟩
 conv=>whnf
 rw [show a.notes.length+1=(a.note k n).notes.length from by simp [As.note]]
 refine finR [(15,2004)] rfl rfl (.refl _) ?_ ⟨rfl,rfl⟩
 exact ⟨OLe.refl _,OLe.refl _,OLe.refl _,OLe.refl _,⟨rfl,rfl,rfl,fun j hj=>slT_app encNote a.notes (k,n) j (by simpa [As.note] using hj) rfl⟩,OLe.refl _,OLe.refl _,trivial⟩
abbrev TRe:Tys:=tysX false [] [] [pbT+44]
theorem TReOk:TysOk Tryz.prog TRe:=tysXOk _ _ _ _
theorem reply_spec (a:As) (d:Int) (l:List Ch) (hl:a.p.l.length≤2 ^ 30) (hp:0≤a.p.pr∧a.p.pr<2 ^ 30) (hn:l.length≤2 ^ 20) (ho:a.out.length≤2 ^ 30):LSpec Tryz.prog 34 [.ptr F0 0,vi d,.d (slT 14 encCh l)] (asH a) (fun r hl=>r=.tup []∧hl=asP (a.reply d l)):=by
 refine LSpec.rens (LSpec.runN (h2:=asP a) psN (TReOk) followsB Tryz.func34 (by decide) rfl Tryz.ntmps34 (Nat.le_of_ble_eq_true rfl) rfl rfl rfl rfl rfl fun w0 R0 Lo hGw=>?_)
 conv=>whnf
 refine ALoop.introR TReOk followsB (fun k:{k // k≤l.length}=>([(0,.ptr F0 0),(1,vi d),(8,.d (slT 14 encCh l)),(9,vi l.length),(10,vi k.1)],asP (a.reply d (l.take k.1)))) (fun k=>l.length-k.1) ⟨0,by omega⟩ ?_ ?_
 ·refine ⟨.refl _,.refl _,.refl _,.refl _,.refl _,?_⟩
  rw [show a.reply d (l.take 0)=a from by simp [As.reply]]
  exact ⟨OLe.refl _,OLe.refl _,OLe.refl _,OLe.refl _,OLe.refl _,OLe.refl _,OLe.refl _,trivial⟩
 ·rintro ⟨k,hk⟩
  dsimp only
  have hst:k<l.length→a.reply d (l.take (k+1))={ a.reply d (l.take k) with out:=(a.reply d (l.take k)).out++[(a.there d,[l.getD k default])]}:=fun h=>by
   unfold As.reply
   rw [take_snoc l k h,List.map_append,←List.append_assoc];rfl
  have hol:(a.reply d (l.take k)).out.length≤a.out.length+l.length:=by unfold As.reply;simp;omega
  have hap:(a.reply d (l.take k)).p=a.p:=rfl
  have hat:(a.reply d (l.take k)).there d=a.there d:=rfl
  generalize hbk:a.reply d (l.take k)=b at hst hol hap hat
  conv=>whnf
  cases g:decide ((k:Int)<l.length)
  ·have g:k=l.length:=by have:=of_decide_eq_false g;omega
   conv=>whnf
   rw [show a.reply d l=b from by rw [←hbk,g,List.take_length]]
   refine finR [] rfl rfl (.refl _) ?_ ⟨rfl,rfl⟩
   exact ⟨OLe.refl _,OLe.refl _,OLe.refl _,OLe.refl _,OLe.refl _,OLe.refl _,OLe.refl _,trivial⟩
  ·have g:k<l.length:=by have:=of_decide_eq_true g;omega
   have hst:=hst g
   conv=>whnf
   refine gK ?_
   conv=>whnf
   refine gK ?_
   conv=>whnf
   refine gK ?_
   conv=>whnf
   refine gK ?_
   conv=>whnf
   refine gK ?_
   conv=>whnf
   refine gK ?_
   conv=>whnf
   refine ⟨_,(there_spec b d (by rw [hap];exact hl) (by rw [hap];exact hp)),?_⟩
   conv=>whnf
   refine ⟨⟨⟨rfl,by omega,by simp only [ty79];omega⟩,by omega⟩,?_⟩
   conv=>whnf
   refine gR ?_
   conv=>whnf
   refine gK ?_
   conv=>whnf
   refine ⟨⟨k+1,by omega⟩,[(26,2003)],by dsimp only;omega,.refl _,.refl _,.refl _,.refl _,.refl _,?_⟩
   dsimp only
   rw [hst]
   rw [show b.out.length+1=(b.out++[(a.there d,[l.getD k default])]).length from by simp]
   refine ⟨OLe.refl _,OLe.refl _,OLe.refl _,⟨rfl,rfl,rfl,fun j hj=>?_⟩,OLe.refl _,OLe.refl _,OLe.refl _,trivial⟩
   refine slT_app encOut b.out (a.there d,[l.getD k default]) j (by simpa using hj) ?_
   rw [←hat]
   rfl
end Go.Proofs.YtbkcekmahdbgdaaGreat
namespace Towline.Ac
open Towline.Hand Towline.Chunk Towline.Store
namespace As
def recv (a:As) (r:List Fm):As:={ a with inn:=r,sack:=if (a.win / 2<a.held∧a.closed=false∧((fbytes a.bag+mbytes a.q.w+mbytes r:Nat):Int)≤a.win / 2) then true else a.sack}
end As
end Towline.Ac
namespace Go.Proofs.YtbkcekmahdbgdaaGreat
open Go Go.RowKit Towline Towline.Hand Towline.Ac Towline.Chunk Towline.Store
set_option linter.unusedVariables false
set_option linter.unusedSimpArgs false
set_option maxRecDepth 20000
set_option maxHeartbeats 4000000
theorem recvN_spec (a:As) (h:a.inn=[]):LSpec Tryz.prog 38 [.ptr F0 0] (asH a) (fun r hl=>r=.tup [fmA ⟨0,false,0,0,0,[]⟩,vb false]∧hl=asP a):=by
 refine LSpec.rens (LSpec.runE (h2:=asP a) psN (tysOk) followsB Tryz.func38 (by decide) rfl Tryz.ntmps38 (Nat.le_of_ble_eq_true rfl) rfl rfl rfl rfl rfl fun w0 R0 Lo hGw=>?_)
 conv=>whnf
 rw [len0,h]
 conv=>whnf
 refine AEnd.done ?_
 conv=>whnf
 refine finR [] rfl rfl (.refl _) ?_ ⟨rfl,rfl⟩
 exact ⟨OLe.refl _,OLe.refl _,OLe.refl _,OLe.refl _,OLe.refl _,OLe.refl _,OLe.refl _,trivial⟩
theorem recv_spec (a:As) (m:Fm) (r:List Fm) (h:a.inn=m::r) (h1:a.bag.length≤2 ^ 30) (h2:fbytes a.bag≤2 ^ 40) (h3:a.q.w.length≤2 ^ 30) (h4:mbytes a.q.w≤2 ^ 40) (h5:a.inn.length≤2 ^ 30) (h6:mbytes a.inn≤2 ^ 40) (hw:0≤a.win∧a.win<4294967296) :
  LSpec Tryz.prog 38 [.ptr F0 0] (asH a) (fun r' hl=>r'=.tup [fmA m,vb true]∧hl=asP (a.recv r)):=by
 refine LSpec.rens (LSpec.runE (h2:=asP a) psN ((tysPOk [33])) followsB Tryz.func38 (by decide) rfl Tryz.ntmps38 (Nat.le_of_ble_eq_true rfl) rfl rfl rfl rfl rfl fun w0 R0 Lo hGw=>?_)
 conv=>whnf
 have hne:a.inn.isEmpty=false:=by rw [h];rfl
 have hwq:IntKind.i64.wrap (a.win.tdiv 2)=a.win / 2:=by rw [Int.tdiv_eq_ediv_of_nonneg (by omega)];exact IntWalk.i64_in _ (by omega)
 have hil:a.inn.length=r.length+1:=by rw [h];rfl
 have hmr:mbytes r≤mbytes a.inn:=by rw [h];unfold mbytes;simp
 have hcl:=cloneFm_spec encFm r (by omega)
 have hcl':PSpec Tryz.prog 88 [.d (.sl 6 (a.inn.length-1) fun j=>encFm (a.inn.getD (1+j) default))] _:=hcl.argsC ⟨.sl (by omega) (fun j hj=>by rw [h,Nat.add_comm 1 j,List.getD_cons_succ]),trivial⟩
 have hm0:a.inn.getD (0+Int.toNat 0) default=m:=by rw [h];rfl
 rw [len0,hne]
 conv=>whnf
 repeat (refine gK ?_;conv=>whnf)
 refine ⟨_,(held_spec a h1 h2 h3 h4 h5 h6),?_⟩
 conv=>whnf
 refine gK ?_
 conv=>whnf
 rw [hwq]
 refine gR ?_
 conv=>whnf
 refine gK ?_
 conv=>whnf
 refine gK ?_
 conv=>whnf
 refine gK ?_
 conv=>whnf
 refine gK ?_
 conv=>whnf
 refine ⟨_,hcl',?_⟩
 rintro q rfl
 conv=>whnf
 cases g1:decide (a.win / 2<(a.held:Int))
 ·have er:a.recv r={ a with inn:=r}:=by unfold As.recv;rw [if_neg (fun h=>of_decide_eq_false g1 h.1)]
  rw [er]
  conv=>whnf
  refine gR ?_
  conv=>whnf
  refine AEnd.done ?_
  conv=>whnf
  rw [hm0]
  refine finR [(33,2002)] rfl rfl (.refl _) ?_ ⟨rfl,rfl⟩
  exact ⟨OLe.refl _,OLe.refl _,OLe.refl _,OLe.refl _,OLe.refl _,OLe.refl _,OLe.refl _,trivial⟩
 ·have g1:=of_decide_eq_true g1
  conv=>whnf
  repeat (refine gK ?_;conv=>whnf)
  refine ⟨_,(closed_spec { a with inn:=r}),?_⟩
  conv=>whnf
  have hh':(({ a with inn:=r}:As).held:Int)=((fbytes a.bag+mbytes a.q.w+mbytes r:Nat):Int):=rfl
  cases g2:({ a with inn:=r}:As).closed
  ·have g2':a.closed=false:=g2
   conv=>whnf
   repeat (refine gK ?_;conv=>whnf)
   refine ⟨_,(held_spec { a with inn:=r} h1 h2 h3 h4 (by show r.length≤_;omega) (by show mbytes r≤_;omega)),?_⟩
   conv=>whnf
   refine gK ?_
   conv=>whnf
   rw [hwq]
   cases g3:decide ((({ a with inn:=r}:As).held:Int)≤a.win / 2)
   ·have er:a.recv r={ a with inn:=r}:=by unfold As.recv;rw [if_neg (fun h=>of_decide_eq_false g3 h.2.2)]
    rw [er]
    conv=>whnf
    refine gR ?_
    conv=>whnf
    refine AEnd.done ?_
    conv=>whnf
    rw [hm0]
    refine finR [(33,2002)] rfl rfl (.refl _) ?_ ⟨rfl,rfl⟩
    exact ⟨OLe.refl _,OLe.refl _,OLe.refl _,OLe.refl _,OLe.refl _,OLe.refl _,OLe.refl _,trivial⟩
   ·have er:a.recv r={ a with inn:=r,sack:=true}:=by unfold As.recv;rw [if_pos ⟨g1,g2',of_decide_eq_true g3⟩]
    rw [er]
    conv=>whnf
    refine gR ?_
    conv=>whnf
    refine AEnd.done ?_
    conv=>whnf
    rw [hm0]
    refine finR [(33,2002)] rfl rfl (.refl _) ?_ ⟨rfl,rfl⟩
    exact ⟨OLe.refl _,OLe.refl _,OLe.refl _,OLe.refl _,OLe.refl _,OLe.refl _,OLe.refl _,trivial⟩
  ·have g2':a.closed=true:=g2
   have er:a.recv r={ a with inn:=r}:=by unfold As.recv;rw [if_neg (fun h=>by rw [g2'] at h;cases h.2.1)]
   rw [er]
   conv=>whnf
   refine gR ?_
   conv=>whnf
   refine AEnd.done ?_
   conv=>whnf
   rw [hm0]
   refine finR [(33,2002)] rfl rfl (.refl _) ?_ ⟨rfl,rfl⟩
   exact ⟨OLe.refl _,OLe.refl _,OLe.refl _,OLe.refl _,OLe.refl _,OLe.refl _,OLe.refl _,trivial⟩
end Go.Proofs.YtbkcekmahdbgdaaGreat
namespace Towline.Ac
open Towline.Hand Towline.Chunk Towline.Store
def findI {β:Type} (n:Int):List (Int×β)→Nat→Option (Nat×β)
 | [],_=>none
 |(k,v)::r,i=>if n=k then some (i,v) else findI n r (i+1)
def dget {β:Type} (l:List (Int×β)) (n:Int):Option β:=(findI n l 0).map (·.2)
def putI {β:Type} (n:Int) (u:β) (l:List (Int×β)):List (Int×β):=match findI n l 0 with|some (i,_)=>l.set i (n,u)|none=>l++[(n,u)]
namespace As
end As
end Towline.Ac
namespace Go.Proofs.YtbkcekmahdbgdaaGreat
open Go Go.RowKit Towline Towline.Hand Towline.Ac Towline.Chunk Towline.Store
set_option linter.unusedVariables false
set_option linter.unusedSimpArgs false
set_option maxRecDepth 20000
set_option maxHeartbeats 4000000
theorem findD0_enc {β:Type} (k:IntKind) (enc:β→D) (hk:kEq k k=true) (n:Int):∀(l:List (Int×β)) (i:Nat),findD0 (.i k n) (l.map fun x=>(.i k x.1,enc x.2)) i=some ((findI n l i).map fun x=>(x.1,enc x.2))
 | [],i=>rfl
 |(m,v)::r,i=>by
  simp only [List.map_cons,findD0,keyEq,hk,findI]
  by_cases h:n=m
  ·subst h;simp
  ·rw [if_neg h,show (n==m)=false from beq_eq_false_iff_ne.2 h]
   exact findD0_enc k enc hk n r (i+1)
theorem findD_dat (n:Int) (l:List (Int×(Ch×Int))):findD (.i .u32 n) (encDat l)=some ((findI n l 0).map fun x=>(x.1,.pt (encCh x.2.1++[.i .i64 x.2.2]))):=by
 unfold findD;exact findD0_enc .u32 (fun x:Ch×Int=>.pt (encCh x.1++[.i .i64 x.2])) rfl n l 0
end Go.Proofs.YtbkcekmahdbgdaaGreat
namespace Towline.Hand
def w64 (n:Int):Int:=Go.IntKind.i64.wrap n
def sends (h:H) (cum:Int):List K:=
 if h.st=1 then [{ K.of 1 with tag:=h.ourTag,window:=h.mine,outs:=h.outs,ins:=h.ins,tsn:=h.ourTsn}]
 else if h.st=2 then [{ K.of 10 with text:=h.cookie}] else if h.st=5 then [{ K.of 7 with tsn:=cum}] else if h.st=7 then [K.of 8] else []
def entered (h:H) (st cum now:Int):H:=
 if sends { h with st:=st,tries:=0,due:=0} cum=[] then { h with st:=st,tries:=0,due:=0} else { h with st:=st,tries:=1,due:=w64 (now+1000)}
def enters (h:H) (st cum:Int):List K:=sends { h with st:=st,tries:=0,due:=0} cum
end Towline.Hand
namespace Go.Proofs.YtbkcekmahdbgdaaGreat
open Go Towline Towline.Hand
set_option linter.unusedVariables false
set_option maxRecDepth 20000
set_option maxHeartbeats 2000000
abbrev sclA (cum:Int):AVal:=.d (.cl 159 1 fun i=>[[D.i .u32 cum]].getD i [])
theorem sender_spec (cum:Int):PSpec Tryz.prog 95 [v32 cum] (· = sclA cum):=by
 refine PSpec.run tysOk follows Tryz.func95 (by decide) rfl Tryz.ntmps95 (Nat.le_of_ble_eq_true rfl) rfl fun w0 R0 hGw=>?_
 conv=>whnf
 exact ⟨_,.refl _,rfl,rfl⟩
theorem sender1_spec (h:H) (cum:Int):PSpec Tryz.prog 159 [hA h,.eptr 1 1 (fun _=>[.i .u32 cum]) 0 0] (· = ksA (sends h cum)):=by
 refine PSpec.run tysOk follows Tryz.func159 (by decide) rfl Tryz.ntmps159 (Nat.le_of_ble_eq_true rfl) rfl fun w0 R0 hGw=>?_
 conv=>whnf
 split<;>rename_i g1
 ·have g1:h.st=1:=by simpa using g1
  conv=>whnf
  have e:sends h cum=[{ K.of 1 with tag:=h.ourTag,window:=h.mine,outs:=h.outs,ins:=h.ins,tsn:=h.ourTsn}]:=by simp [sends,g1]
  rw [e]
  refine ⟨by omega,?_⟩
  conv=>whnf
  refine ⟨_,?_,rfl,rfl⟩
  exact .sl rfl (fun j hj=>by match j,hj with|0,_=>rfl)
 ·have g1:¬h.st=1:=by simpa using g1
  conv=>whnf
  split<;>rename_i g2
  ·have g2:h.st=2:=by simpa using g2
   conv=>whnf
   have e:sends h cum=[{ K.of 10 with text:=h.cookie}]:=by simp [sends,g2]
   rw [e]
   refine ⟨by omega,?_⟩
   conv=>whnf
   refine ⟨_,?_,rfl,rfl⟩
   exact .sl rfl (fun j hj=>by match j,hj with|0,_=>rfl)
  ·have g2:¬h.st=2:=by simpa using g2
   conv=>whnf
   split<;>rename_i g3
   ·have g3:h.st=5:=by simpa using g3
    conv=>whnf
    have e:sends h cum=[{ K.of 7 with tsn:=cum}]:=by simp [sends,g3]
    rw [e]
    refine ⟨by omega,?_⟩
    conv=>whnf
    refine ⟨_,?_,rfl,rfl⟩
    exact .sl rfl (fun j hj=>by match j,hj with|0,_=>rfl)
   ·have g3:¬h.st=5:=by simpa using g3
    conv=>whnf
    split<;>rename_i g4
    ·have g4:h.st=7:=by simpa using g4
     conv=>whnf
     have e:sends h cum=[K.of 8]:=by simp [sends,g4]
     rw [e]
     refine ⟨by omega,?_⟩
     conv=>whnf
     refine ⟨_,?_,rfl,rfl⟩
     exact .sl rfl (fun j hj=>by match j,hj with|0,_=>rfl)
    ·have g4:¬h.st=7:=by simpa using g4
     conv=>whnf
     have e:sends h cum=[]:=by simp [sends,g1,g2,g3,g4]
     rw [e]
     refine ⟨_,?_,rfl,rfl⟩
     exact .nil
theorem enter_spec (h:H) (st cum now:Int):PSpec Tryz.prog 108 [hA h,vi st,v32 cum,vi now] (· = .tup [hA (entered h st cum now),ksA (enters h st cum)]):=by
 refine PSpec.run tysWOk follows Tryz.func108 (by decide) rfl Tryz.ntmps108 (Nat.le_of_ble_eq_true rfl) rfl fun w0 R0 hGw=>?_
 conv=>whnf
 refine ⟨_,sender_spec cum,?_⟩
 conv=>whnf
 refine ⟨_,sender1_spec { h with st:=st,tries:=0,due:=0} cum,?_⟩
 conv=>whnf
 refine gR ?_
 conv=>whnf
 split<;>rename_i g1
 ·replace g1:=of_decide_eq_true g1
  try simp only [tnC] at g1
  have hne:sends { h with st:=st,tries:=0,due:=0} cum≠[]:=by intro e;rw [e] at g1;simp at g1
  conv=>whnf
  rw [entered,if_neg hne]
  exact ⟨_,.refl _,rfl,rfl⟩
 ·replace g1:=of_decide_eq_false g1
  try simp only [tnC] at g1
  have he:sends { h with st:=st,tries:=0,due:=0} cum=[]:=by
   cases hl:sends { h with st:=st,tries:=0,due:=0} cum with
   |nil=>rfl
   |cons=>rw [hl] at g1;simp at g1
  conv=>whnf
  rw [entered,if_pos he]
  exact ⟨_,.refl _,rfl,rfl⟩
end Go.Proofs.YtbkcekmahdbgdaaGreat
namespace Towline.Hand
structure R where
 h:H
 l:List K
 n:Int
def openR (h:H) (tag tsn win streams now:Int):R:=
 if ¬h.st=0 then ⟨H.nil,[],11⟩ else if tag=0∨streams=0 then ⟨H.nil,[],1⟩
 else ⟨entered { h with ourTag:=tag,ourTsn:=tsn,mine:=win,outs:=streams,ins:=streams} 1 0 now,enters { h with ourTag:=tag,ourTsn:=tsn,mine:=win,outs:=streams,ins:=streams} 1 0,0⟩
def dropR (h:H):R:=if h.st=0 then ⟨h,[],0⟩ else ⟨H.nil,[K.of 6],3⟩
end Towline.Hand
namespace Go.Proofs.YtbkcekmahdbgdaaGreat
open Go Towline Towline.Hand
set_option linter.unusedVariables false
set_option maxRecDepth 20000
set_option maxHeartbeats 4000000
def encN (n:Int):List D:=[.i .i64 n]
abbrev rA (r:R):AVal:=.tup [hA r.h,ksA r.l,vi r.n]
theorem ended_spec (n:Int) (ks:List Int) (hk:ks.length≤2 ^ 40):PSpec Tryz.prog 89 [vi n,.d (slT 1 encN ks)] (· = rA ⟨H.nil,ks.map K.of,n⟩):=by
 refine PSpec.run tysOk follows Tryz.func89 (by decide) rfl Tryz.ntmps89 (Nat.le_of_ble_eq_true rfl) rfl fun w0 R0 hGw=>?_
 conv=>whnf
 refine ALoop.adopt 7 1000 14 44 (fun j=>encK (K.of (ks.getD j default))) rfl rfl rfl ?_
 refine ALoop.introR tysOk follows (fun k:{k // k≤ks.length}=>([(0,vi n),(4,.ptr 4 0),(7,.rsl 1000 14 0 k.1),(10,.d (slT 1 encN ks)),(11,vi ks.length),(12,vi k.1)],[(4,.box [vi 0,vi 0,vi 0,v32 0,v32 0,v32 0,v32 0,v32 0,v32 0,v16 0,v16 0,vs []]),(1000,.row 44 14 k.1 (fun j=>encK (K.of (ks.getD j default))))])) (fun k=>ks.length-k.1) ⟨0,by omega⟩ ?_ ?_
 ·exact ⟨.refl _,.refl _,.refl _,.refl _,.refl _,.refl _,OLe.refl _,OLe.refl _,trivial⟩
 ·rintro ⟨k,hkl⟩
  dsimp only
  conv=>whnf
  split<;>rename_i h1
  ·have hlt:k<ks.length:=by simpa using h1
   conv=>whnf
   refine gO ?_
   conv=>whnf
   refine ⟨⟨⟨rfl,by omega,by simp only [ty44];omega⟩,by omega⟩,?_⟩
   conv=>whnf
   refine gO ?_
   conv=>whnf
   refine ⟨⟨k+1,by omega⟩,[(20,1000)],by dsimp only;omega,.refl _,.refl _,.refl _,.refl _,.refl _,.refl _,OLe.refl _,⟨rfl,rfl,rfl,?_⟩,trivial⟩
   intro j hj
   simp only [fcat]
   split
   ·rfl
   ·have:j=k:=by omega
    subst this;simp [encK,K.of]
  ·have hlt:¬k<ks.length:=by simpa using h1
   obtain rfl:k=ks.length:=by omega
   conv=>whnf
   refine gO ?_
   conv=>whnf
   refine ⟨_,?_,rfl,rfl⟩
   exact .tup ⟨.refl _,.sl (by simp) (fun j hj=>by simp [hj]),.refl _,trivial⟩
theorem open_spec (h:H) (tag tsn win streams now:Int):PSpec Tryz.prog 59 [hA h,v32 tag,v32 tsn,v32 win,v16 streams,vi now] (· = rA (openR h tag tsn win streams now)):=by
 refine PSpec.run tysOk follows Tryz.func59 (by decide) rfl Tryz.ntmps59 (Nat.le_of_ble_eq_true rfl) rfl fun w0 R0 hGw=>?_
 conv=>whnf
 split<;>rename_i g1
 ·have g1:¬h.st=0:=by simpa using g1
  conv=>whnf
  rw [openR,if_pos g1]
  refine ⟨_,?_,rfl,rfl⟩
  exact .tup ⟨.refl _,.nil,.refl _,trivial⟩
 ·have g1:h.st=0:=by simpa using g1
  conv=>whnf
  split<;>rename_i g2
  ·have g2:tag=0:=by simpa using g2
   conv=>whnf
   rw [openR,if_neg (by simpa using g1),if_pos (.inl g2)]
   refine ⟨_,?_,rfl,rfl⟩
   exact .tup ⟨.refl _,.nil,.refl _,trivial⟩
  ·have g2:¬tag=0:=by simpa using g2
   conv=>whnf
   split<;>rename_i g3
   ·have g3:streams=0:=by simpa using g3
    conv=>whnf
    rw [openR,if_neg (by simpa using g1),if_pos (.inr g3)]
    refine ⟨_,?_,rfl,rfl⟩
    exact .tup ⟨.refl _,.nil,.refl _,trivial⟩
   ·have g3:¬streams=0:=by simpa using g3
    conv=>whnf
    refine ⟨_,enter_spec { h with ourTag:=tag,ourTsn:=tsn,mine:=win,outs:=streams,ins:=streams} 1 0 now,?_⟩
    rintro q rfl
    conv=>whnf
    rw [openR,if_neg (by simpa using g1),if_neg (by simp [g2,g3])]
    exact ⟨_,.refl _,rfl,rfl⟩
theorem shut_spec (h:H) (e:Bool) (a b cum now:Int):PSpec Tryz.prog 158 [hA h,vb e,vi a,vi b,v32 cum,vi now] (· = .tup [hA (entered h (if e then b else a) cum now),ksA (enters h (if e then b else a) cum)]):=by
 refine PSpec.run tysOk follows Tryz.func158 (by decide) rfl Tryz.ntmps158 (Nat.le_of_ble_eq_true rfl) rfl fun w0 R0 hGw=>?_
 conv=>whnf
 cases e with
 |true=>
  conv=>whnf
  refine ⟨_,enter_spec h b cum now,?_⟩
  rintro q rfl
  conv=>whnf
  exact ⟨_,.refl _,rfl,rfl⟩
 |false=>
  conv=>whnf
  refine ⟨_,enter_spec h a cum now,?_⟩
  rintro q rfl
  conv=>whnf
  exact ⟨_,.refl _,rfl,rfl⟩
theorem ended1_spec (n k:Int) {f:Nat→List D} (hf:f 0=[.i .i64 k]):PSpec Tryz.prog 89 [vi n,.d (.sl 1 1 f)] (· = rA ⟨H.nil,[K.of k],n⟩):=
 (ended_spec n [k] (by simp)).argsC ⟨.refl _,.sl rfl (fun j hj=>by match j,hj with|0,_=>exact hf),trivial⟩
theorem ended0_spec (n:Int):PSpec Tryz.prog 89 [vi n,.d nilD] (· = rA ⟨H.nil,[],n⟩):=
 (ended_spec n [] (by simp)).argsC ⟨.refl _,.nil,trivial⟩
theorem drop_spec (h:H):PSpec Tryz.prog 41 [hA h] (· = rA (dropR h)):=by
 refine PSpec.run (tysPOk [10]) follows Tryz.func41 (by decide) rfl Tryz.ntmps41 (Nat.le_of_ble_eq_true rfl) rfl fun w0 R0 hGw=>?_
 conv=>whnf
 split<;>rename_i g1
 ·have g1:h.st=0:=by simpa using g1
  conv=>whnf
  rw [dropR,if_pos g1]
  refine ⟨_,?_,rfl,rfl⟩
  exact .tup ⟨.refl _,.nil,.refl _,trivial⟩
 ·have g1:¬h.st=0:=by simpa using g1
  conv=>whnf
  refine gO ?_
  conv=>whnf
  refine ⟨_,ended1_spec 3 6 rfl,?_⟩
  rintro q rfl
  conv=>whnf
  rw [show dropR h=⟨H.nil,[K.of 6],3⟩ from by simp [dropR,g1]]
  exact ⟨_,.refl _,rfl,rfl⟩
open Go Go.RowKit Go.ChangeShapes Go.WideShapes Towline Towline.Hand
end Go.Proofs.YtbkcekmahdbgdaaGreat
namespace Towline.Hand
structure It where
 ty:Int
 v:List UInt8
 deriving DecidableEq,Inhabited
def fnd (kind:Int) (l:List It):Nat:=l.findIdx fun x=>x.ty==kind
def hasIt (kind:Int) (l:List It):Bool:=decide (fnd kind l<l.length)
def itV (kind:Int) (l:List It):List UInt8:=if fnd kind l<l.length then (l.getD (fnd kind l) default).v else []
def answeredH (h:H) (c:K) (l:List It):H:={ h with peerTag:=c.tag,peerTsn:=c.tsn,window:=c.window,cookie:=itV 7 l,outs:=min h.outs c.ins,ins:=min h.ins c.outs}
def answeredR (h:H) (c:K) (l:List It) (now:Int):R:=
 if hasIt 7 l=true∧itV 7 l≠[]∧(itV 7 l).length≤1000 then ⟨entered (answeredH h c l) 2 0 now,enters (answeredH h c l) 2 0,0⟩ else dropR h
def refusedH (h:H):H:={ h with peerTag:=0,peerTsn:=0,window:=0,cookie:=[]}
def refusedR (h:H) (l:List It) (now:Int):R:=
 if hasIt 3 l=true then (if 8≤h.tries then ⟨H.nil,[],3⟩ else ⟨{ entered (refusedH h) 1 0 now with tries:=h.tries+1},enters (refusedH h) 1 0,0⟩) else ⟨h,[],0⟩
def takeR (h:H) (c:K) (l:List It) (empty:Bool) (now:Int):R:=
 if h.st=0 then ⟨h,[],0⟩
 else if c.ty=6 then ⟨H.nil,[],3⟩
 else if c.ty=2 then (if h.st=1 then answeredR h c l now else ⟨h,[],0⟩)
 else if c.ty=11 then (if h.st=2 then ⟨entered h 3 0 now,enters h 3 0,1⟩ else ⟨h,[],0⟩)
 else if c.ty=9 then (if h.st=2 then refusedR h l now else ⟨h,[],0⟩)
 else if c.ty=7 then (if h.st=3∨h.st=4 then ⟨entered h (if empty then 7 else 6) 0 now,enters h (if empty then 7 else 6) 0,0⟩ else if h.st=5 then ⟨entered h 7 0 now,enters h 7 0,0⟩ else ⟨h,[],0⟩)
 else if c.ty=8 then (if h.st=5∨h.st=7 then ⟨H.nil,[K.of 14],2⟩ else ⟨h,[],0⟩)
 else if c.ty=14 then (if h.st=7 then ⟨H.nil,[],2⟩ else ⟨h,[],0⟩)
 else ⟨h,[],0⟩
theorem findIdx_at {α:Type} [Inhabited α] {p:α→Bool} {l:List α} {k:Nat} (hk:k<l.length) (h1:p (l.getD k default)=true) (h2:∀j,j<k→p (l.getD j default)=false):l.findIdx p=k:=by
 rw [List.findIdx_eq hk]
 refine ⟨by simpa [List.getD_eq_getElem?_getD,hk] using h1,fun j hj=>?_⟩
 have:=h2 j hj
 simpa [List.getD_eq_getElem?_getD,show j<l.length from by omega] using this
theorem findIdx_none {α:Type} [Inhabited α] {p:α→Bool} {l:List α} (h2:∀j,j<l.length→p (l.getD j default)=false):¬l.findIdx p<l.length:=by
 intro h
 have:=List.findIdx_getElem (w:=h)
 have h3:=h2 _ h
 rw [List.getD_eq_getElem?_getD,List.getElem?_eq_getElem h] at h3
 rw [show (some (l[List.findIdx p l])).getD default=l[List.findIdx p l] from rfl,this] at h3
 cases h3
end Towline.Hand
namespace Go.Proofs.YtbkcekmahdbgdaaGreat
open Go Towline Towline.Hand
set_option linter.unusedVariables false
set_option maxRecDepth 20000
set_option maxHeartbeats 4000000
def encIt (x:It):List D:=[.i .i64 x.ty,.s x.v]
abbrev itA (x:It):AVal:=.agg [vi x.ty,vs x.v]
abbrev gL (c:K) (gd du:D) (l:List It):List AVal:=[vi c.ty,vi c.flags,v32 c.tsn,v32 c.tag,v32 c.window,v32 c.ppid,v16 c.stream,v16 c.ssn,v16 c.outs,v16 c.ins,.d gd,.d du,.d (slT 2 encIt l),vs c.text]
abbrev gA (c:K) (gd du:D) (l:List It):AVal:=.agg (gL c gd du l)
theorem index_spec (g n1:Nat) (f1:Nat→List D) (keep:It→Bool) (l:List It) (h4:l.length≤maxLen)
  (hk:∀m,PSpec Tryz.prog g [itA m,.eptr n1 1 f1 0 0] (· = vb (keep m))) :
  PSpec Tryz.prog 209 [.d (slT 2 encIt l),.fn g [.eptr n1 1 f1 0 0]] (· = vi (if l.findIdx keep<l.length then l.findIdx keep else -1)):=by
 have h4':l.length≤2 ^ 63-1:=h4
 refine PSpec.run tysOk follows Tryz.func209 (by decide) rfl Tryz.ntmps209 (Nat.le_of_ble_eq_true rfl) rfl fun w0 R0 hGw=>?_
 conv=>whnf
 refine ALoop.introR tysOk follows (fun k:{k // k≤l.length∧∀j,j<k→keep (l.getD j default)=false}=>([(0,.d (slT 2 encIt l)),(1,.fn g [.eptr n1 1 f1 0 0]),(7,vi l.length),(8,vi k.1)],[])) (fun k=>l.length-k.1) ⟨0,by omega,fun j hj=>by omega⟩ ?_ ?_
 ·exact ⟨.refl _,.refl _,.refl _,.refl _,trivial⟩
 ·rintro ⟨k,hk1,hk2⟩
  dsimp only
  conv=>whnf
  split<;>rename_i h1
  ·have hlt:k<l.length:=by simpa using h1
   conv=>whnf
   refine gO ?_
   conv=>whnf
   refine ⟨_,hk (l.getD k default),?_⟩
   rintro q rfl
   conv=>whnf
   split<;>rename_i h2
   ·have h2:keep (l.getD k default)=true:=h2
    conv=>whnf
    rw [findIdx_at hlt h2 hk2,if_pos hlt]
    exact ⟨_,.refl _,rfl,rfl⟩
   ·have h2:keep (l.getD k default)=false:=h2
    conv=>whnf
    refine gO ?_
    conv=>whnf
    refine ⟨⟨k+1,by omega,fun j hj=>?_⟩,[],by dsimp only;omega,.refl _,.refl _,.refl _,.refl _,trivial⟩
    rcases Nat.lt_or_eq_of_le (show j≤k from by omega) with h|rfl
    ·exact hk2 j h
    ·exact h2
  ·have hlt:¬k<l.length:=by simpa using h1
   obtain rfl:k=l.length:=by omega
   conv=>whnf
   rw [if_neg (findIdx_none hk2)]
   exact ⟨_,.refl _,rfl,rfl⟩
theorem tfind1_spec (x:It) (kind:Int):PSpec Tryz.prog 217 [itA x,.eptr 1 1 (fun _=>[.i .i64 kind]) 0 0] (· = vb (x.ty==kind)):=by
 refine PSpec.run tysOk follows Tryz.func217 (by decide) rfl Tryz.ntmps217 (Nat.le_of_ble_eq_true rfl) rfl fun w0 R0 hGw=>?_
 conv=>whnf
 exact ⟨_,.refl _,rfl,rfl⟩
theorem tfind_spec (l:List It) (kind:Int) (h4:l.length≤maxLen):PSpec Tryz.prog 203 [.d (slT 2 encIt l),vi kind] (· = .tup [vs (itV kind l),vb (hasIt kind l)]):=by
 have h4':l.length≤2 ^ 63-1:=h4
 refine PSpec.run tysOk follows Tryz.func203 (by decide) rfl Tryz.ntmps203 (Nat.le_of_ble_eq_true rfl) rfl fun w0 R0 hGw=>?_
 conv=>whnf
 refine ⟨_,index_spec _ _ _ (fun x=>x.ty==kind) l h4 fun m=>tfind1_spec m kind,?_⟩
 rintro q rfl
 conv=>whnf
 split<;>rename_i h1
 ·replace h1:=of_decide_eq_true h1
  try simp only [tnC] at h1
  have hn:¬fnd kind l<l.length:=by
   intro h
   have h:List.findIdx (fun x=>x.ty==kind) l<l.length:=h
   rw [if_pos h] at h1
   omega
  conv=>whnf
  rw [itV,if_neg hn,hasIt,decide_eq_false hn]
  exact ⟨_,.refl _,rfl,rfl⟩
 ·replace h1:=of_decide_eq_false h1
  try simp only [tnC] at h1
  have hn:fnd kind l<l.length:=by
   show List.findIdx (fun x=>x.ty==kind) l<l.length
   by_cases h:List.findIdx (fun x=>x.ty==kind) l<l.length
   ·exact h
   ·rw [if_neg h] at h1;omega
  have e1:(if List.findIdx (fun x=>x.ty==kind) l<l.length then ((List.findIdx (fun x=>x.ty==kind) l:Nat):Int) else -1)=(fnd kind l:Nat):=by
   have h:List.findIdx (fun x=>x.ty==kind) l<l.length:=hn
   rw [if_pos h];rfl
  rw [e1]
  conv=>whnf
  refine gO ?_
  conv=>whnf
  rw [itV,if_pos hn,hasIt,decide_eq_true hn]
  exact ⟨_,.refl _,rfl,rfl⟩
theorem answered_spec (h:H) (c:K) (gd du:D) (l:List It) (now:Int) (h4:l.length≤maxLen):PSpec Tryz.prog 156 [hA h,gA c gd du l,vi now] (· = rA (answeredR h c l now)):=by
 refine PSpec.run tysOk follows Tryz.func156 (by decide) rfl Tryz.ntmps156 (Nat.le_of_ble_eq_true rfl) rfl fun w0 R0 hGw=>?_
 conv=>whnf
 refine ⟨_,tfind_spec l 7 h4,?_⟩
 rintro q rfl
 conv=>whnf
 split<;>rename_i g1
 ·have g1:hasIt 7 l=false:=by simpa using g1
  conv=>whnf
  refine ⟨_,drop_spec h,?_⟩
  rintro q rfl
  conv=>whnf
  rw [show answeredR h c l now=dropR h from if_neg (by simp [g1])]
  exact ⟨_,.refl _,rfl,rfl⟩
 ·have g1:hasIt 7 l=true:=by simpa using g1
  conv=>whnf
  split<;>rename_i g2
  ·have g2:itV 7 l=[]:=by simpa using g2
   conv=>whnf
   refine ⟨_,drop_spec h,?_⟩
   rintro q rfl
   conv=>whnf
   rw [show answeredR h c l now=dropR h from if_neg (by simp [g2])]
   exact ⟨_,.refl _,rfl,rfl⟩
  ·have g2:¬itV 7 l=[]:=by simpa using g2
   conv=>whnf
   split<;>rename_i g3
   ·replace g3:=of_decide_eq_true g3
    try simp only [tnC] at g3
    conv=>whnf
    refine ⟨_,drop_spec h,?_⟩
    rintro q rfl
    conv=>whnf
    rw [show answeredR h c l now=dropR h from if_neg (by intro h;omega)]
    exact ⟨_,.refl _,rfl,rfl⟩
   ·replace g3:=of_decide_eq_false g3
    try simp only [tnC] at g3
    conv=>whnf
    refine gR ?_
    conv=>whnf
    refine gR ?_
    conv=>whnf
    refine ⟨_,enter_spec (answeredH h c l) 2 0 now,?_⟩
    rintro q rfl
    conv=>whnf
    rw [show answeredR h c l now=⟨entered (answeredH h c l) 2 0 now,enters (answeredH h c l) 2 0,0⟩ from if_pos ⟨g1,g2,by omega⟩]
    exact ⟨_,.refl _,rfl,rfl⟩
theorem refused_spec (h:H) (c:K) (gd du:D) (l:List It) (now:Int) (h4:l.length≤maxLen) (ht : -2 ^ 63≤h.tries):PSpec Tryz.prog 157 [hA h,gA c gd du l,vi now] (· = rA (refusedR h l now)):=by
 refine PSpec.run tysOk follows Tryz.func157 (by decide) rfl Tryz.ntmps157 (Nat.le_of_ble_eq_true rfl) rfl fun w0 R0 hGw=>?_
 conv=>whnf
 refine ⟨_,tfind_spec l 3 h4,?_⟩
 rintro q rfl
 conv=>whnf
 split<;>rename_i g1
 ·have g1:hasIt 3 l=false:=by simpa using g1
  conv=>whnf
  rw [show refusedR h l now=⟨h,[],0⟩ from if_neg (by simp [g1])]
  refine ⟨_,?_,rfl,rfl⟩
  exact .tup ⟨.refl _,.nil,.refl _,trivial⟩
 ·have g1:hasIt 3 l=true:=by simpa using g1
  conv=>whnf
  split<;>rename_i g2
  ·replace g2:=of_decide_eq_true g2
   try simp only [tnC] at g2
   conv=>whnf
   refine ⟨_,ended0_spec 3,?_⟩
   rintro q rfl
   conv=>whnf
   rw [show refusedR h l now=⟨H.nil,[],3⟩ from by simp [refusedR,g1,g2]]
   exact ⟨_,.refl _,rfl,rfl⟩
  ·replace g2:=of_decide_eq_false g2
   try simp only [tnC] at g2
   conv=>whnf
   refine gO ?_
   conv=>whnf
   refine ⟨_,enter_spec (refusedH h) 1 0 now,?_⟩
   rintro q rfl
   conv=>whnf
   rw [show refusedR h l now=⟨{ entered (refusedH h) 1 0 now with tries:=h.tries+1},enters (refusedH h) 1 0,0⟩ from by simp [refusedR,g1,g2]]
   exact ⟨_,.refl _,rfl,rfl⟩
theorem take_spec (h:H) (c:K) (gd du:D) (l:List It) (e:Bool) (now:Int) (h4:l.length≤maxLen) (ht : -2 ^ 63≤h.tries):PSpec Tryz.prog 86 [hA h,gA c gd du l,vb e,vi now] (· = rA (takeR h c l e now)):=by
 refine PSpec.run (tysPOk [94]) follows Tryz.func86 (by decide) rfl Tryz.ntmps86 (Nat.le_of_ble_eq_true rfl) rfl fun w0 R0 hGw=>?_
 conv=>whnf
 split<;>rename_i g0
 ·have g0:h.st=0:=by simpa using g0
  conv=>whnf
  rw [show takeR h c l e now=⟨h,[],0⟩ from by simp [takeR, *]]
  refine ⟨_,?_,rfl,rfl⟩
  exact .tup ⟨.refl _,.nil,.refl _,trivial⟩
 have g0:¬h.st=0:=by simpa using g0
 conv=>whnf
 split<;>rename_i g1
 ·have g1:c.ty=6:=by simpa using g1
  conv=>whnf
  refine ⟨_,ended0_spec 3,?_⟩
  rintro q rfl
  conv=>whnf
  rw [show takeR h c l e now=⟨H.nil,[],3⟩ from by simp [takeR, *]]
  exact ⟨_,.refl _,rfl,rfl⟩
 have g1:¬c.ty=6:=by simpa using g1
 conv=>whnf
 split<;>rename_i g2
 ·have g2:c.ty=2:=by simpa using g2
  conv=>whnf
  split<;>rename_i k1
  ·have k1:h.st=1:=by simpa using k1
   conv=>whnf
   refine ⟨_,answered_spec h c gd du l now h4,?_⟩
   rintro q rfl
   conv=>whnf
   rw [show takeR h c l e now=answeredR h c l now from by simp [takeR, *]]
   exact ⟨_,.refl _,rfl,rfl⟩
  ·have k1:¬h.st=1:=by simpa using k1
   conv=>whnf
   rw [show takeR h c l e now=⟨h,[],0⟩ from by simp [takeR, *]]
   refine ⟨_,?_,rfl,rfl⟩
   exact .tup ⟨.refl _,.nil,.refl _,trivial⟩
 have g2:¬c.ty=2:=by simpa using g2
 conv=>whnf
 split<;>rename_i g3
 ·have g3:c.ty=11:=by simpa using g3
  conv=>whnf
  split<;>rename_i k1
  ·have k1:h.st=2:=by simpa using k1
   conv=>whnf
   refine ⟨_,enter_spec h 3 0 now,?_⟩
   rintro q rfl
   conv=>whnf
   rw [show takeR h c l e now=⟨entered h 3 0 now,enters h 3 0,1⟩ from by simp [takeR, *]]
   exact ⟨_,.refl _,rfl,rfl⟩
  ·have k1:¬h.st=2:=by simpa using k1
   conv=>whnf
   rw [show takeR h c l e now=⟨h,[],0⟩ from by simp [takeR, *]]
   refine ⟨_,?_,rfl,rfl⟩
   exact .tup ⟨.refl _,.nil,.refl _,trivial⟩
 have g3:¬c.ty=11:=by simpa using g3
 conv=>whnf
 split<;>rename_i g4
 ·have g4:c.ty=9:=by simpa using g4
  conv=>whnf
  split<;>rename_i k1
  ·have k1:h.st=2:=by simpa using k1
   conv=>whnf
   refine ⟨_,refused_spec h c gd du l now h4 ht,?_⟩
   rintro q rfl
   conv=>whnf
   rw [show takeR h c l e now=refusedR h l now from by simp [takeR, *]]
   exact ⟨_,.refl _,rfl,rfl⟩
  ·have k1:¬h.st=2:=by simpa using k1
   conv=>whnf
   rw [show takeR h c l e now=⟨h,[],0⟩ from by simp [takeR, *]]
   refine ⟨_,?_,rfl,rfl⟩
   exact .tup ⟨.refl _,.nil,.refl _,trivial⟩
 have g4:¬c.ty=9:=by simpa using g4
 conv=>whnf
 split<;>rename_i g5
 ·have g5:c.ty=7:=by simpa using g5
  conv=>whnf
  split<;>rename_i k1b
  ·have k1:h.st=3:=by simpa using k1b
   conv=>whnf
   try (rw [k1b];conv=>whnf)
   refine ⟨_,shut_spec h e 6 7 0 now,?_⟩
   rintro q rfl
   conv=>whnf
   rw [show takeR h c l e now=⟨entered h (if e then 7 else 6) 0 now,enters h (if e then 7 else 6) 0,0⟩ from by simp [takeR, *]]
   exact ⟨_,.refl _,rfl,rfl⟩
  ·have k1:¬h.st=3:=by simpa using k1b
   conv=>whnf
   split<;>rename_i k2b
   ·have k2:h.st=4:=by simpa using k2b
    conv=>whnf
    try (rw [k1b];conv=>whnf)
    try (rw [k2b];conv=>whnf)
    refine ⟨_,shut_spec h e 6 7 0 now,?_⟩
    rintro q rfl
    conv=>whnf
    rw [show takeR h c l e now=⟨entered h (if e then 7 else 6) 0 now,enters h (if e then 7 else 6) 0,0⟩ from by simp [takeR, *]]
    exact ⟨_,.refl _,rfl,rfl⟩
   ·have k2:¬h.st=4:=by simpa using k2b
    conv=>whnf
    split<;>rename_i k3b
    ·have k3:h.st=5:=by simpa using k3b
     conv=>whnf
     refine ⟨_,enter_spec h 7 0 now,?_⟩
     rintro q rfl
     conv=>whnf
     rw [show takeR h c l e now=⟨entered h 7 0 now,enters h 7 0,0⟩ from by simp [takeR, *]]
     exact ⟨_,.refl _,rfl,rfl⟩
    ·have k3:¬h.st=5:=by simpa using k3b
     conv=>whnf
     rw [show takeR h c l e now=⟨h,[],0⟩ from by simp [takeR, *]]
     refine ⟨_,?_,rfl,rfl⟩
     exact .tup ⟨.refl _,.nil,.refl _,trivial⟩
 have g5:¬c.ty=7:=by simpa using g5
 conv=>whnf
 split<;>rename_i g6
 ·have g6:c.ty=8:=by simpa using g6
  conv=>whnf
  split<;>rename_i k1
  ·have k1:h.st=5:=by simpa using k1
   conv=>whnf
   refine gO ?_
   conv=>whnf
   refine ⟨_,ended1_spec 2 14 rfl,?_⟩
   rintro q rfl
   conv=>whnf
   rw [show takeR h c l e now=⟨H.nil,[K.of 14],2⟩ from by simp [takeR, *]]
   exact ⟨_,.refl _,rfl,rfl⟩
  ·have k1:¬h.st=5:=by simpa using k1
   conv=>whnf
   split<;>rename_i k2
   ·have k2:h.st=7:=by simpa using k2
    conv=>whnf
    refine gO ?_
    conv=>whnf
    refine ⟨_,ended1_spec 2 14 rfl,?_⟩
    rintro q rfl
    conv=>whnf
    rw [show takeR h c l e now=⟨H.nil,[K.of 14],2⟩ from by simp [takeR, *]]
    exact ⟨_,.refl _,rfl,rfl⟩
   ·have k2:¬h.st=7:=by simpa using k2
    conv=>whnf
    rw [show takeR h c l e now=⟨h,[],0⟩ from by simp [takeR, *]]
    refine ⟨_,?_,rfl,rfl⟩
    exact .tup ⟨.refl _,.nil,.refl _,trivial⟩
 have g6:¬c.ty=8:=by simpa using g6
 conv=>whnf
 split<;>rename_i g7
 ·have g7:c.ty=14:=by simpa using g7
  conv=>whnf
  split<;>rename_i k1
  ·have k1:h.st=7:=by simpa using k1
   conv=>whnf
   refine ⟨_,ended0_spec 2,?_⟩
   rintro q rfl
   conv=>whnf
   rw [show takeR h c l e now=⟨H.nil,[],2⟩ from by simp [takeR, *]]
   exact ⟨_,.refl _,rfl,rfl⟩
  ·have k1:¬h.st=7:=by simpa using k1
   conv=>whnf
   rw [show takeR h c l e now=⟨h,[],0⟩ from by simp [takeR, *]]
   refine ⟨_,?_,rfl,rfl⟩
   exact .tup ⟨.refl _,.nil,.refl _,trivial⟩
 have g7:¬c.ty=14:=by simpa using g7
 conv=>whnf
 rw [show takeR h c l e now=⟨h,[],0⟩ from by simp [takeR, *]]
 refine ⟨_,?_,rfl,rfl⟩
 exact .tup ⟨.refl _,.nil,.refl _,trivial⟩
end Go.Proofs.YtbkcekmahdbgdaaGreat
namespace Towline.Ac
open Towline.Hand Towline.Chunk Towline.Store
def kCh (k:K):Ch:=⟨k.ty,k.flags,k.tsn,k.tag,k.window,k.ppid,k.stream,k.ssn,k.outs,k.ins,[],[],[],k.text⟩
structure PtOk (B:Nat) (p:Pt):Prop where
 er:0≤p.er∧p.er≤B
 backs : -1000≤p.tm.backs∧p.tm.backs≤1000
 beaten : -2 ^ 50≤p.beaten∧p.beaten≤2 ^ 50
 rto : -2 ^ 50≤p.tm.rto∧p.tm.rto≤2 ^ 50
namespace As
structure Bd (a:As) (B:Nat):Prop where
 pn:0<a.p.l.length∧a.p.l.length≤256
 pr:0≤a.p.pr∧a.p.pr<a.p.l.length
 pt:∀p∈a.p.l,PtOk B p
 all:0≤a.p.all∧a.p.all≤B
 due:a.due.length=a.p.l.length
 heard:a.heard.length=a.p.l.length
 heardB:∀t∈a.heard,-2 ^ 50≤t∧t≤2 ^ 50
 xl:a.xl.length≤64
 xs:∀p∈a.xl,0≤p.size∧p.size≤1500
 notes:a.notes.length≤B
 out:a.out.length≤B
 sl:a.s.l.length≤B
 tries:0≤a.h.tries
end As
end Towline.Ac
namespace Go.Proofs.YtbkcekmahdbgdaaGreat
open Go Go.RowKit Towline Towline.Hand Towline.Ac Towline.Chunk Towline.Store
set_option linter.unusedVariables false
set_option linter.unusedSimpArgs false
set_option maxRecDepth 20000
set_option maxHeartbeats 4000000
structure DLe (x y:D):Prop where
 out:∀(w:World) (gd:Nat→Prop) (v:Value),RepD w gd x v→RepD w gd y v
theorem DLe.refl (x:D):DLe x x:=⟨fun _ _ _ h=>h⟩
theorem DLe.nil {sz:Nat} {f:Nat→List D}:DLe (.v (.slice none 0 0)) (.sl sz 0 f):=⟨fun w gd v hv=>by cases hv;exact .sl0 _ _ _ _ (by decide)⟩
inductive DsLe:List D→List D→Prop
 |nil:DsLe [] []
 |cons {x y:D} {l m:List D}:DLe x y→DsLe l m→DsLe (x::l) (y::m)
theorem DsLe.len:∀{l m:List D},DsLe l m→m.length=l.length
 |_,_,.nil=>rfl
 |_,_,.cons _ h=>by rw [List.length_cons,List.length_cons,h.len]
theorem DsLe.get:∀{l m:List D},DsLe l m→∀(j:Nat) (y:D),m[j]? = some y→∃x,l[j]? = some x∧DLe x y
 |_,_,.nil,j,y,h=>by simp at h
 |_,_,.cons (x:=x) hx h,0,y,hy=>⟨x,rfl,by simp at hy;subst hy;exact hx⟩
 |_,_,.cons hx h,j+1,y,hy=>by
  obtain ⟨x,h1,h2⟩:=h.get j y (by simpa using hy)
  exact ⟨x,by simpa using h1,h2⟩
theorem AVal.le.slD {sz n m:Nat} {f g:Nat→List D} (hn:n=m) (h:∀k,k<n→DsLe (f k) (g k)):(AVal.d (.sl sz n f)).le (.d (.sl sz m g)):=by
 subst hn
 refine ⟨fun w L gd v hv=>?_⟩
 have hd:=repA_sl hv
 cases hd with
 |sl0 _ _ A c hc=>exact .d (.sl0 _ _ _ _ hc)
 |sl _ _ _ b o c cs hn hc hm hg hb hz hcell hrep=>
  exact .d (.sl _ _ _ b o c cs hn hc hm hg hb (fun k hk=>by rw [(h k hk).len];exact hz k hk) hcell (fun k hk j y hy=>by
   obtain ⟨x,hx,hle⟩:=(h k hk).get j y hy
   exact hle.out _ _ _ (hrep k hk j x hx)))
theorem encK_le (k:K):DsLe (encK k) (encCh (kCh k)):=
 .cons (.refl _) (.cons (.refl _) (.cons (.refl _) (.cons (.refl _) (.cons (.refl _) (.cons (.refl _) (.cons (.refl _) (.cons (.refl _) (.cons (.refl _) (.cons (.refl _) (.cons .nil (.cons .nil (.cons .nil (.cons (.refl _) .nil)))))))))))))
theorem ks_le (l:List K):(ksA l).le (.d (slT 14 encCh (l.map kCh))):=AVal.le.slD (by rw [List.length_map]) fun k hk=>by
 rw [List.getD_eq_getElem?_getD,List.getD_eq_getElem?_getD,List.getElem?_map,List.getElem?_eq_getElem hk]
 exact encK_le _
theorem LSpec.argsC {P:Program} {f:FuncId} {args args':List AVal} {hl:Heap} {post:AVal→Heap→Prop} (h:LSpec P f args hl post) (hc:OLe.CLe args' args):LSpec P f args' hl post:=by
 obtain ⟨hlen,hg⟩:=CLe_get hc
 exact ⟨h.1,fun w R L vs h0 h1 h2 h3 h4 h5 h6 h7=>h.2 w R L vs h0 h1 (h2.trans hlen.symm) h3 (fun i y hy=>by
  obtain ⟨x,hx,hle⟩:=hg i y hy
  exact hle.out _ _ _ _ (h4 i x hx)) h5 h6 h7⟩
theorem reply_specB (a:As) {B:Nat} (hb:a.Bd B) (hB:B≤2 ^ 30) (d:Int) (l:List Ch) (hn:l.length≤2 ^ 20):LSpec Tryz.prog 34 [.ptr F0 0,vi d,.d (slT 14 encCh l)] (asH a) (fun r hl=>r=.tup []∧hl=asP (a.reply d l)):=
 reply_spec a d l (by have:=hb.pn;omega) (by have:=hb.pn;have:=hb.pr;omega) hn (by have:=hb.out;omega)
theorem reply_specK (a:As) {B:Nat} (hb:a.Bd B) (hB:B≤2 ^ 30) (d:Int) (l:List K) (hn:l.length≤2 ^ 20):LSpec Tryz.prog 34 [.ptr F0 0,vi d,ksA l] (asH a) (fun r hl=>r=.tup []∧hl=asP (a.reply d (l.map kCh))):=
 LSpec.argsC (reply_specB a hb hB d (l.map kCh) (by rw [List.length_map];exact hn)) ⟨.refl _,.refl _,ks_le l,trivial⟩
abbrev TNo:Tys:=tysX false [] [(45,[]),(90,[]),(42,[]),(34,[]),(18,[])] [dmT+101]
theorem TNoOk:TysOk Tryz.prog TNo:=tysXOk _ _ _ _
end Go.Proofs.YtbkcekmahdbgdaaGreat
namespace Towline.Ac
open Towline.Hand Towline.Chunk Towline.Store
namespace As
def sendE (a:As) (m:Msg):Int:=if a.h.st=1∨a.h.st=2∨a.h.st=3 then Go.Proofs.YtbkcekmahdbgdaaGreat.St.pushE a.s.l a.s.a a.s.next m else 11
def send (a:As) (m:Msg):As:=if a.sendE m=0 then { a with s:=⟨a.s.l++[m],a.s.a,a.s.next⟩} else a
end As
end Towline.Ac
namespace Go.Proofs.YtbkcekmahdbgdaaGreat
open Go Go.RowKit Towline Towline.Hand Towline.Ac Towline.Chunk Towline.Store
set_option linter.unusedVariables false
set_option linter.unusedSimpArgs false
set_option maxRecDepth 20000
set_option maxHeartbeats 4000000
theorem send_specA (a:As) (m:Msg) (now:Int) (h1:total a.s.l≤2 ^ 40) (h3:a.s.a≤2 ^ 40) (h4:a.s.l.length≤2 ^ 40) (h5:m.stream≤65535):LSpec Tryz.prog 20 [.ptr F0 0,St.msgA m,vi now] (asH a) (fun r hl=>r=vi (a.sendE m)∧hl=asP (a.send m)):=by
 refine LSpec.rens (LSpec.runN (h2:=asP a) psN (TNoOk) followsB Tryz.func20 (by decide) rfl Tryz.ntmps20 (Nat.le_of_ble_eq_true rfl) rfl rfl rfl rfl rfl fun w0 R0 Lo hGw=>?_)
 conv=>whnf
 have hp:=St.push_spec a.s.l a.s.a a.s.next m h1 (by omega) (by omega) h4 h5
 have key:∀(h:a.h.st=1∨a.h.st=2∨a.h.st=3),a.sendE m=St.pushE a.s.l a.s.a a.s.next m:=fun h=>by unfold As.sendE;rw [if_pos h]
 cases g1:(a.h.st==1)
 ·conv=>whnf
  cases g2:(a.h.st==2)
  ·conv=>whnf
   cases g3:(a.h.st==3)
   ·have he:a.sendE m=11:=by unfold As.sendE;rw [if_neg (fun h=>h.elim (beq_eq_false_iff_ne.1 g1) fun h=>h.elim (beq_eq_false_iff_ne.1 g2) (beq_eq_false_iff_ne.1 g3))]
    conv=>whnf
    rw [show a.send m=a from by unfold As.send;rw [he];rfl,he]
    refine finR [] rfl rfl (.refl _) ?_ ⟨rfl,rfl⟩
    exact ⟨OLe.refl _,OLe.refl _,OLe.refl _,OLe.refl _,OLe.refl _,OLe.refl _,OLe.refl _,trivial⟩
   ·have he:=key (Or.inr (Or.inr (eq_of_beq g3)))
    conv=>whnf
    cases g5:(St.pushE a.s.l a.s.a a.s.next m==0)
    ·have g5:=beq_eq_false_iff_ne.1 g5
     rw [if_neg g5] at hp
     have hcx:=hp
     first|(refine ⟨_,hcx,?_⟩;rintro q rfl)|refine ⟨_,hcx,?_⟩
     clear hcx
     conv=>whnf
     refine gR ?_
     conv=>whnf
     rw [beq_eq_false_iff_ne.2 g5]
     conv=>whnf
     rw [show a.send m=a from by unfold As.send;rw [he,if_neg g5],he]
     refine finR [] rfl rfl (.refl _) ?_ ⟨rfl,rfl⟩
     exact ⟨OLe.refl _,OLe.refl _,OLe.refl _,OLe.refl _,OLe.refl _,OLe.refl _,OLe.refl _,trivial⟩
    ·have g5:=eq_of_beq g5
     rw [if_pos g5,g5] at hp
     have hcx:=hp
     first|(refine ⟨_,hcx,?_⟩;rintro q rfl)|refine ⟨_,hcx,?_⟩
     clear hcx
     conv=>whnf
     refine gR ?_
     conv=>whnf
     rw [show a.send m={ a with s:=⟨a.s.l++[m],a.s.a,a.s.next⟩} from by unfold As.send;rw [he,if_pos g5],he,g5]
     refine finR [] rfl rfl (.refl _) ?_ ⟨rfl,rfl⟩
     exact ⟨OLe.refl _,OLe.refl _,OLe.refl _,OLe.refl _,OLe.refl _,OLe.refl _,OLe.refl _,trivial⟩
  ·have he:=key (Or.inr (Or.inl (eq_of_beq g2)))
   conv=>whnf
   cases g5:(St.pushE a.s.l a.s.a a.s.next m==0)
   ·have g5:=beq_eq_false_iff_ne.1 g5
    rw [if_neg g5] at hp
    have hcx:=hp
    first|(refine ⟨_,hcx,?_⟩;rintro q rfl)|refine ⟨_,hcx,?_⟩
    clear hcx
    conv=>whnf
    refine gR ?_
    conv=>whnf
    rw [beq_eq_false_iff_ne.2 g5]
    conv=>whnf
    rw [show a.send m=a from by unfold As.send;rw [he,if_neg g5],he]
    refine finR [] rfl rfl (.refl _) ?_ ⟨rfl,rfl⟩
    exact ⟨OLe.refl _,OLe.refl _,OLe.refl _,OLe.refl _,OLe.refl _,OLe.refl _,OLe.refl _,trivial⟩
   ·have g5:=eq_of_beq g5
    rw [if_pos g5,g5] at hp
    have hcx:=hp
    first|(refine ⟨_,hcx,?_⟩;rintro q rfl)|refine ⟨_,hcx,?_⟩
    clear hcx
    conv=>whnf
    refine gR ?_
    conv=>whnf
    rw [show a.send m={ a with s:=⟨a.s.l++[m],a.s.a,a.s.next⟩} from by unfold As.send;rw [he,if_pos g5],he,g5]
    refine finR [] rfl rfl (.refl _) ?_ ⟨rfl,rfl⟩
    exact ⟨OLe.refl _,OLe.refl _,OLe.refl _,OLe.refl _,OLe.refl _,OLe.refl _,OLe.refl _,trivial⟩
 ·have he:=key (Or.inl (eq_of_beq g1))
  conv=>whnf
  cases g5:(St.pushE a.s.l a.s.a a.s.next m==0)
  ·have g5:=beq_eq_false_iff_ne.1 g5
   rw [if_neg g5] at hp
   have hcx:=hp
   first|(refine ⟨_,hcx,?_⟩;rintro q rfl)|refine ⟨_,hcx,?_⟩
   clear hcx
   conv=>whnf
   refine gR ?_
   conv=>whnf
   rw [beq_eq_false_iff_ne.2 g5]
   conv=>whnf
   rw [show a.send m=a from by unfold As.send;rw [he,if_neg g5],he]
   refine finR [] rfl rfl (.refl _) ?_ ⟨rfl,rfl⟩
   exact ⟨OLe.refl _,OLe.refl _,OLe.refl _,OLe.refl _,OLe.refl _,OLe.refl _,OLe.refl _,trivial⟩
  ·have g5:=eq_of_beq g5
   rw [if_pos g5,g5] at hp
   have hcx:=hp
   first|(refine ⟨_,hcx,?_⟩;rintro q rfl)|refine ⟨_,hcx,?_⟩
   clear hcx
   conv=>whnf
   refine gR ?_
   conv=>whnf
   rw [show a.send m={ a with s:=⟨a.s.l++[m],a.s.a,a.s.next⟩} from by unfold As.send;rw [he,if_pos g5],he,g5]
   refine finR [] rfl rfl (.refl _) ?_ ⟨rfl,rfl⟩
   exact ⟨OLe.refl _,OLe.refl _,OLe.refl _,OLe.refl _,OLe.refl _,OLe.refl _,OLe.refl _,trivial⟩
end Go.Proofs.YtbkcekmahdbgdaaGreat
namespace Towline.Ac
def fputF (l:List Fp) (p:Fp):List Fp×Fm×Bool:=
 if p.text=[]∨(l.any fun x=>x.tsn==p.tsn)=true then (l,Go.Proofs.YtbkcekmahdbgdaaGreat.fm0,false)
 else match rowF (l++[p]) with
  |none=>(l++[p],Go.Proofs.YtbkcekmahdbgdaaGreat.fm0,false)
  |some pl=>((Go.Proofs.YtbkcekmahdbgdaaGreat.em (l++[p]) pl).filter fun c=>!Go.Proofs.YtbkcekmahdbgdaaGreat.delT c,Go.Proofs.YtbkcekmahdbgdaaGreat.wholeM (l++[p]) pl,true)
structure FOk (l:List Fp) (p:Fp):Prop where
 len:l.length<2 ^ 29
 nd:(l.map (·.tsn)).Nodup
 u:∀x∈l++[p],0≤x.tsn∧x.tsn<4294967296
 w:∀pl,rowF (l++[p])=some pl→pl≠[]∧pl.Nodup∧(∀i∈pl,i<(l++[p]).length)∧pl.length≤2 ^ 30∧(Go.Proofs.YtbkcekmahdbgdaaGreat.textF (l++[p]) pl).length≤2 ^ 30
structure OOk (q:Qu) (m:Fm):Prop where
 st:0≤m.stream∧m.stream<65536
 nx:q.nx.length≤2 ^ 20
 w:q.w.length<2 ^ 20
 u:∀x∈q.nx,0≤x∧x<65536
end Towline.Ac
namespace Go.Proofs.YtbkcekmahdbgdaaGreat
open Go Go.RowKit Towline Towline.Hand Towline.Ac Towline.Chunk Towline.Store
set_option linter.unusedVariables false
set_option linter.unusedSimpArgs false
set_option maxRecDepth 20000
set_option maxHeartbeats 4000000
theorem fput_spec (l:List Fp) (p:Fp) (h:FOk l p):PSpec Tryz.prog 77 [bagA l,fpA p] (· = .tup [bagA (fputF l p).1,fmA (fputF l p).2.1,vb (fputF l p).2.2]):=by
 unfold fputF
 by_cases hb:p.text=[]∨(l.any fun x=>x.tsn==p.tsn)=true
 ·rw [if_pos hb]
  exact fput_bad l p (by have:=h.len;omega) hb
 ·rw [if_neg hb]
  have h0:p.text≠[]:=fun e=>hb (Or.inl e)
  have hn:(l.any fun x=>x.tsn==p.tsn)=false:=by
   cases e:l.any fun x=>x.tsn==p.tsn with
   |true=>exact absurd (Or.inr e) hb
   |false=>rfl
  cases hr:rowF (l++[p]) with
  |none=>exact fput_part l p h.len h0 hn h.nd h.u hr
  |some pl=>
   obtain ⟨w1,w2,w3,w4,w5⟩:=h.w pl hr
   exact fput_whole l p h.len h0 hn h.nd h.u pl w1 w2 w3 w4 w5 hr
def oputE (q:Qu) (m:Fm):Int:=if (q.nx.length:Int)≤m.stream then 12 else 9
def oputA (q:Qu) (m:Fm):AVal:=match q.put m with
 |some (r,l)=>.tup [quA r.nx r.w,.d (slT 6 encFm l),vi 0]
 |none=>.tup [quA [] [],.d nilD,vi (oputE q m)]
theorem oput_spec (q:Qu) (m:Fm) (h:OOk q m):PSpec Tryz.prog 78 [quA q.nx q.w,fmA m] (· = oputA q m):=by
 unfold oputA Qu.put oputE
 by_cases h1:(q.nx.length:Int)≤m.stream
 ·rw [if_pos h1,if_pos h1]
  exact oput_stream q.nx q.w m h.st h1
 ·rw [if_neg h1,if_neg h1]
  by_cases h2:m.free=true
  ·rw [if_pos h2]
   exact oput_free q.nx q.w m h.st (by omega) h2
  ·rw [if_neg h2]
   have h2:m.free=false:=by cases e:m.free<;>simp_all
   by_cases h3:lateO m.ssn (q.nx.getD m.stream.toNat default)=true∨0≤idx (fun x=>x.stream==m.stream&&x.ssn==m.ssn) q.w
   ·rw [if_pos h3]
    exact oput_there q.nx q.w m (by have:=h.w;omega) h.st (by omega) h2 h3
   ·rw [if_neg h3]
    have h4:lateO m.ssn (q.nx.getD m.stream.toNat default)=false:=by
     cases e:lateO m.ssn (q.nx.getD m.stream.toNat default) with
     |true=>exact absurd (Or.inl e) h3
     |false=>rfl
    exact oput_new q m h.st h.nx h.w h.u (by omega) h2 h4 (by omega)
end Go.Proofs.YtbkcekmahdbgdaaGreat
namespace Towline
open Go Go.RowKit
set_option linter.unusedVariables false
theorem Rel.trunc {C:Ctx} {L:Lay} {a:Act} {w:World} {env:Env} {heap heap':Heap} (id m:Nat) {t sz n:Nat} {f:Nat→List D} (hid:lookO id heap=some (.row t sz n f)) (hm:m≤n) (hset:setO id (.row t sz m f) heap=some heap') (H:Rel C L (lk env) (lko heap) a w):Rel C L (lk env) (lko heap') a w:=by
 have hlook:∀j oj,lko heap' j=some oj→(j=id∧oj=.row t sz m f)∨lko heap j=some oj:=by
  intro j oj hj
  rw [lko_set hset] at hj
  unfold hput at hj
  by_cases h2:j=id
  ·left;rw [if_pos h2] at hj;exact ⟨h2,(Option.some.inj hj).symm⟩
  ·right;rw [if_neg h2] at hj;exact hj
 have hsome:∀j oj,lko heap' j=some oj→∃o',lko heap j=some o':=by
  intro j oj hj
  rcases hlook j oj hj with ⟨rfl,_⟩|h
  ·exact ⟨_,hid⟩
  ·exact ⟨_,h⟩
 have hgood:∀b',good C L (lko heap) w b'→good C L (lko heap') w b':=by
  intro b' hgb
  refine ⟨hgb.1,hgb.2.1,?_⟩
  rintro ⟨j,oj,h1,h2⟩
  obtain ⟨o',h3⟩:=hsome j oj h1
  exact hgb.2.2 ⟨j,o',h3,h2⟩
 exact { H with
  slot:=fun x=>(H.slot x).mono1 (Nat.le_refl _) (fun b' _ hb'=>⟨hgood b' hb',rfl⟩) (fun _ _=>rfl)
  obj:=fun j oj hj=>by
   have mono:∀{o},RepO w (good C L (lko heap) w) L j o→RepO w (good C L (lko heap') w) L j o:=fun h=>
    h.mono (Nat.le_refl _) (fun b' _ hb'=>⟨hgood b' hb',rfl⟩) (fun _ _=>rfl) (fun b _ hb=>⟨hb,rfl⟩) (fun _=>true) (fun _ _=>⟨rfl,rfl⟩) rfl (fun _ h=>by cases h)
   rcases hlook j oj hj with ⟨rfl,rfl⟩|h
   ·refine mono ?_
    have hro:=H.obj _ _ hid
    cases hro with
    |row0 hb hc=>
     have:m=0:=by omega
     subst this
     exact .row0 hb hc
    |row hb hh hn hm' hz hf hr hty hmk hcap=>exact .row hb hh (by omega) hm' hz (fun k hk=>hf k (by omega)) (fun k hk=>hr k (by omega)) hty hmk hcap
   ·exact mono (H.obj j oj h)
  inj:=fun x y ox oy b' h1 h2=>by
   obtain ⟨o1,e1⟩:=hsome x ox h1
   obtain ⟨o2,e2⟩:=hsome y oy h2
   exact H.inj x y o1 o2 b' e1 e2
  own0:=fun x ox b' h1=>by
   obtain ⟨o1,e1⟩:=hsome x ox h1
   exact H.own0 x o1 b' e1
  kept:=fun x ox hl' h1=>by
   obtain ⟨o1,e1⟩:=hsome x ox h1
   exact H.kept x o1 hl' e1}
theorem AEnd.trunc {C:Ctx} {Q:Env→Heap→Prop} {env:Env} {heap heap':Heap} (id m:Nat) {t sz n:Nat} {f:Nat→List D} (hid:lookO id heap=some (.row t sz n f)) (hm:m≤n) (hset:setO id (.row t sz m f) heap=some heap') (h:AEnd C Q env heap'):AEnd C Q env heap:=
 ⟨fun L a w H=>h.out L a w (H.trunc id m hid hm hset)⟩
theorem AGo.endK {C:Ctx} {c:Code} {Q:Exit→Env→Heap→Prop} {env:Env} {heap:Heap} (h:AGo C c (fun e env heap=>AEnd C (Q e) env heap) env heap):AGo C c Q env heap:=⟨AWp.endK h.out⟩
theorem AEnd.frz {C:Ctx} {Q:Env→Heap→Prop} {env:Env} {heap:Heap} (s:Nat) (h:frzK (fun e hp=>AEnd C Q e hp) [(0,.tmp s)] env heap):AEnd C Q env heap:=
 ⟨fun L a w H=>by
  obtain ⟨e,hp,h1,h2⟩:=frzK_ok h H
  exact h1.out L a w h2⟩
end Towline
namespace Towline.Ac
open Towline.Hand Towline.Chunk Towline.Store
def fpOf (c:Ch):Fp:=⟨c.tsn,decide (0<bitsOp .and .i64 c.flags 2),decide (0<bitsOp .and .i64 c.flags 1),decide (0<bitsOp .and .i64 c.flags 4),c.stream,c.ssn,c.ppid,c.text⟩
namespace As
def over (a:As) (c:Ch):Bool:=!hasG a.g.cum a.g.ab c.tsn&&(decide (a.win≤a.held) ||(!(c.tsn==Go.IntKind.u32.wrap (a.g.cum+1))&&decide (a.win-min 21000 (a.win / 2)<a.held+c.text.length)))
def gotA (a:As) (c:Ch) (from_ now:Int):As:=
 { a with sackTo:=a.there from_,g:=(a.g.take c.tsn).1,owe:=a.owe+1,sackDue:=if a.sackDue=0 then now+200 else a.sackDue,sack:=if decide (2≤a.owe+1) ||(!(a.g.take c.tsn).2 ||decide (0<((a.g.take c.tsn).1.ab.length:Int))) then true else a.sack}
def putA (b:As) (c:Ch):As:=
 if (fputF b.bag (fpOf c)).2.2=true then
  (match b.q.put (fputF b.bag (fpOf c)).2.1 with
  |some x=>{ b with bag:=(fputF b.bag (fpOf c)).1,q:=x.1,inn:=b.inn++x.2}
  |none=>{ b with bag:=(fputF b.bag (fpOf c)).1})
 else { b with bag:=(fputF b.bag (fpOf c)).1}
def takeC (a:As) (c:Ch) (from_ now:Int):As:=
 if a.over c then { a with sackTo:=a.there from_,sack:=true}
 else if (a.g.take c.tsn).2=true∧c.stream<a.h.ins then (a.gotA c from_ now).putA c
 else a.gotA c from_ now
structure InOk (a:As) (c:Ch):Prop where
 p:a.p.l.length≤2 ^ 30
 pr:0≤a.p.pr∧a.p.pr<2 ^ 30
 g:a.g.Ok
 tsn:0≤c.tsn∧c.tsn<4294967296
 bag:a.bag.length≤2 ^ 28
 bagB:fbytes a.bag≤2 ^ 40
 w:a.q.w.length≤2 ^ 20
 wB:mbytes a.q.w≤2 ^ 40
 inn:a.inn.length≤2 ^ 30
 innB:mbytes a.inn≤2 ^ 40
 text:c.text.length≤2 ^ 30
 win:0≤a.win∧a.win<4294967296
 owe:0≤a.owe∧a.owe≤2 ^ 40
 fok:(a.g.take c.tsn).2=true→FOk a.bag (fpOf c)
 ook:(a.g.take c.tsn).2=true→(fputF a.bag (fpOf c)).2.2=true→OOk a.q (fputF a.bag (fpOf c)).2.1
 many:(a.g.take c.tsn).2=true→∀x,a.q.put (fputF a.bag (fpOf c)).2.1=some x→x.2.length≤2 ^ 21
end As
end Towline.Ac
namespace Go.Proofs.YtbkcekmahdbgdaaGreat
open Go Go.RowKit Towline Towline.Hand Towline.Ac Towline.Chunk Towline.Store
set_option linter.unusedVariables false
set_option linter.unusedSimpArgs false
set_option maxRecDepth 20000
set_option maxHeartbeats 4000000
theorem fcat_app {α:Type} [Inhabited α] (enc:α→List D) (l m:List α) (k:Nat):fcat (fun j=>enc (l.getD j default)) l.length (fun j=>enc (m.getD j default)) k=enc ((l++m).getD k default):=by
 unfold fcat
 dsimp only
 by_cases h:k<l.length
 ·rw [if_pos h,List.getD_eq_getElem?_getD,List.getD_eq_getElem?_getD,List.getElem?_append_left h]
 ·rw [if_neg h,List.getD_eq_getElem?_getD,List.getD_eq_getElem?_getD,List.getElem?_append_right (by omega)]
abbrev chL (c:Ch):List AVal:=[vi c.ty,vi c.flags,v32 c.tsn,v32 c.tag,v32 c.window,v32 c.ppid,v16 c.stream,v16 c.ssn,v16 c.outs,v16 c.ins,.d (slT 2 encG c.gaps),.d (slT 1 enc32 c.dups),.d (slT 2 encI c.items),vs c.text]
abbrev chA (c:Ch):AVal:=.agg (chL c)
theorem take_specA (a:As) (c:Ch) (from_ now:Int) (h:a.InOk c) (hn : -2 ^ 60≤now∧now≤2 ^ 60):LSpec Tryz.prog 32 [.ptr F0 0,chA c,vi from_,vi now] (asH a) (fun r hl=>r=.tup []∧hl=asP (a.takeC c from_ now)):=by
 refine LSpec.rens (LSpec.runNS (h2:=asP a) psN (TNoOk) followsB Tryz.func32 (by decide) rfl Tryz.ntmps32 (Nat.le_of_ble_eq_true rfl) rfl rfl rfl rfl rfl fun w0 R0 Lo hGw=>?_)
 conv=>whnf
 obtain ⟨hp,hpr,hg,ht,hb1,hb2,hw1,hw2,hi1,hi2,htx,hwin,howe,hfok,hook,hmany⟩:=h
 repeat (refine gK ?_;conv=>whnf)
 have hcx:=(there_spec a from_ hp hpr)
 first|(refine ⟨_,hcx,?_⟩;rintro q rfl)|refine ⟨_,hcx,?_⟩
 clear hcx
 conv=>whnf
 have hcx:=(gotHas_spec a.g.cum a.g.ab (slT 1 encU a.g.du) c.tsn (by have:=hg.len;omega) hg.up hg.u ht)
 first|(refine ⟨_,hcx,?_⟩;rintro q rfl)|refine ⟨_,hcx,?_⟩
 clear hcx
 conv=>whnf
 refine gR ?_
 conv=>whnf
 have hwq:IntKind.i64.wrap (a.win.tdiv 2)=a.win / 2:=by rw [Int.tdiv_eq_ediv_of_nonneg (by omega)];exact IntWalk.i64_in _ (by omega)
 have hhb:a.held≤2 ^ 42:=by unfold As.held;omega
 have hov:a.over c=(!hasG a.g.cum a.g.ab c.tsn&&(decide (a.win≤a.held) ||(!(c.tsn==IntKind.u32.wrap (a.g.cum+1))&&decide (a.win-min 21000 (a.win / 2)<a.held+c.text.length)))):=rfl
 refine' (fun (key0:a.over c=false→(_:Prop))=>_) _
 rotate_left
 ·cases hh:hasG a.g.cum a.g.ab c.tsn
  ·conv=>whnf
   refine AGo.endK ?_
   refine AGo.go (TNoOk) followsB ?_
   conv=>whnf
   repeat (refine gK ?_;conv=>whnf)
   have hcx:=(held_spec { a with sackTo:=a.there from_} (by show a.bag.length≤_;omega) hb2 (by show a.q.w.length≤_;omega) hw2 hi1 hi2)
   first|(refine ⟨_,hcx,?_⟩;rintro q rfl)|refine ⟨_,hcx,?_⟩
   clear hcx
   conv=>whnf
   refine gR ?_
   conv=>whnf
   rw [show ((({ a with sackTo:=a.there from_}:As).held:Nat):Int)=(a.held:Int) from rfl]
   refine gR ?_
   conv=>whnf
   cases g1:decide (a.win≤(a.held:Int))
   ·conv=>whnf
    cases g2:(c.tsn==IntKind.u32.wrap (a.g.cum+1))
    ·conv=>whnf
     repeat (refine gK ?_;conv=>whnf)
     rw [hwq]
     repeat (refine gK ?_;conv=>whnf)
     cases g3:decide (a.win-min 21000 (a.win / 2)<(a.held:Int)+c.text.length)
     ·have hv:a.over c=false:=by rw [hov,hh,g1,g2,g3];rfl
      conv=>whnf
      refine gR ?_
      conv=>whnf
      refine AGo.go (TNoOk) followsB ?_
      conv=>whnf
      refine AEnd.restate [] [(0,.ptr F0 0),(3,vi now),(5,.ptr 5 0)] ((5,.box (chL c))::asP { a with sackTo:=a.there from_}) rfl (by (repeat' (first|exact ⟨⟩|exact OLe.refl _|exact .refl _|exact .nil|exact rfl|refine ⟨?_,?_⟩|fail))) ?_
      refine AEnd.done ?_
      exact key0 hv
     ·have hv:a.over c=true:=by rw [hov,hh,g1,g2,g3];rfl
      conv=>whnf
      refine gR ?_
      conv=>whnf
      refine AGo.go (TNoOk) followsB ?_
      conv=>whnf
      rw [show a.takeC c from_ now={ a with sackTo:=a.there from_,sack:=true} from by unfold As.takeC;rw [if_pos hv]]
      refine AEnd.restate [] [] (asP { a with sackTo:=a.there from_,sack:=true}) rfl (by (repeat' (first|exact ⟨⟩|exact OLe.refl _|exact .refl _|exact .nil|exact rfl|refine ⟨?_,?_⟩|fail))) ?_
      refine AEnd.done ?_
      conv=>whnf
      refine finR [] rfl rfl (.refl _) ?_ ⟨rfl,rfl⟩
      exact ⟨OLe.refl _,OLe.refl _,OLe.refl _,OLe.refl _,OLe.refl _,OLe.refl _,OLe.refl _,trivial⟩
    ·have hv:a.over c=false:=by rw [hov,hh,g1,g2];rfl
     conv=>whnf
     refine gR ?_
     conv=>whnf
     refine AGo.go (TNoOk) followsB ?_
     conv=>whnf
     refine AEnd.restate [] [(0,.ptr F0 0),(3,vi now),(5,.ptr 5 0)] ((5,.box (chL c))::asP { a with sackTo:=a.there from_}) rfl (by (repeat' (first|exact ⟨⟩|exact OLe.refl _|exact .refl _|exact .nil|exact rfl|refine ⟨?_,?_⟩|fail))) ?_
     refine AEnd.done ?_
     exact key0 hv
   ·have hv:a.over c=true:=by rw [hov,hh,g1];rfl
    conv=>whnf
    refine gR ?_
    conv=>whnf
    refine AGo.go (TNoOk) followsB ?_
    conv=>whnf
    rw [show a.takeC c from_ now={ a with sackTo:=a.there from_,sack:=true} from by unfold As.takeC;rw [if_pos hv]]
    refine AEnd.restate [] [] (asP { a with sackTo:=a.there from_,sack:=true}) rfl (by (repeat' (first|exact ⟨⟩|exact OLe.refl _|exact .refl _|exact .nil|exact rfl|refine ⟨?_,?_⟩|fail))) ?_
    refine AEnd.done ?_
    conv=>whnf
    refine finR [] rfl rfl (.refl _) ?_ ⟨rfl,rfl⟩
    exact ⟨OLe.refl _,OLe.refl _,OLe.refl _,OLe.refl _,OLe.refl _,OLe.refl _,OLe.refl _,trivial⟩
  ·conv=>whnf
   refine AGo.endK ?_
   refine AGo.go (TNoOk) followsB ?_
   conv=>whnf
   refine AEnd.restate [] [(0,.ptr F0 0),(3,vi now),(5,.ptr 5 0)] ((5,.box (chL c))::asP { a with sackTo:=a.there from_}) rfl (by (repeat' (first|exact ⟨⟩|exact OLe.refl _|exact .refl _|exact .nil|exact rfl|refine ⟨?_,?_⟩|fail))) ?_
   refine AEnd.done ?_
   exact key0 (by rw [hov,hh];rfl)
 ·intro hnov
  have htk:a.takeC c from_ now=if (a.g.take c.tsn).2=true∧c.stream<a.h.ins then (a.gotA c from_ now).putA c else a.gotA c from_ now:=by unfold As.takeC;rw [if_neg (by rw [hnov];decide)]
  conv=>whnf
  have hcx:=(gtake_spec a.g c.tsn hg ht)
  first|(refine ⟨_,hcx,?_⟩;rintro q rfl)|refine ⟨_,hcx,?_⟩
  clear hcx
  conv=>whnf
  refine gR ?_
  conv=>whnf
  dsimp only
  repeat (refine gK ?_;conv=>whnf)
  refine' (fun (key1:∀v:Int,v=(if a.sackDue=0 then now+200 else a.sackDue)→(_:Int→Prop) v)=>_) _
  rotate_left
  ·cases g4:(a.sackDue==0)
   ·obtain ⟨v,hv⟩:∃v,v=a.sackDue:=⟨_,rfl⟩
    conv=>whnf
    refine AGo.endK ?_
    refine AGo.go (TNoOk) followsB ?_
    conv=>whnf
    refine AEnd.restate [] [(0,.ptr F0 0),(3,vi now),(5,.ptr 5 0),(12,vb (a.g.take c.tsn).2),(11,.ptr 11 0)] ((5,.box (chL c))::(11,.box [v32 (a.g.take c.tsn).1.cum,.d (slT 1 encU (a.g.take c.tsn).1.ab),.d (slT 1 encU (a.g.take c.tsn).1.du)])::asP { a with sackTo:=a.there from_,g:=(a.g.take c.tsn).1,owe:=a.owe+1,sackDue:=v}) rfl (by (rw [hv]);(repeat' (first|exact ⟨⟩|exact OLe.refl _|exact .refl _|exact .nil|exact rfl|refine ⟨?_,?_⟩|fail))) ?_
    refine AEnd.done ?_
    exact key1 v (by rw [hv,if_neg (beq_eq_false_iff_ne.1 g4)])
   ·obtain ⟨v,hv⟩:∃v,v=now+200:=⟨_,rfl⟩
    conv=>whnf
    refine AGo.endK ?_
    refine AGo.go (TNoOk) followsB ?_
    conv=>whnf
    repeat (refine gK ?_;conv=>whnf)
    refine AEnd.restate [] [(0,.ptr F0 0),(3,vi now),(5,.ptr 5 0),(12,vb (a.g.take c.tsn).2),(11,.ptr 11 0)] ((5,.box (chL c))::(11,.box [v32 (a.g.take c.tsn).1.cum,.d (slT 1 encU (a.g.take c.tsn).1.ab),.d (slT 1 encU (a.g.take c.tsn).1.du)])::asP { a with sackTo:=a.there from_,g:=(a.g.take c.tsn).1,owe:=a.owe+1,sackDue:=v}) rfl (by (rw [hv]);(repeat' (first|exact ⟨⟩|exact OLe.refl _|exact .refl _|exact .nil|exact rfl|refine ⟨?_,?_⟩|fail))) ?_
    refine AEnd.done ?_
    exact key1 v (by rw [hv,if_pos (eq_of_beq g4)])
  ·intro sd hsd
   conv=>whnf
   dsimp only
   refine' (fun (key2:∀v:Bool,v=(a.gotA c from_ now).sack→(_:Bool→Prop) v)=>_) _
   rotate_left
   ·have hsk0:(a.gotA c from_ now).sack=if decide (2≤a.owe+1) ||(!(a.g.take c.tsn).2 ||decide (0<((a.g.take c.tsn).1.ab.length:Int))) then true else a.sack:=rfl
    cases g5:decide (2≤a.owe+1)
    ·cases g6:(a.g.take c.tsn).2
     ·have hsk:(a.gotA c from_ now).sack=true:=by rw [hsk0,g5,g6];rfl
      conv=>whnf
      obtain ⟨v,hv⟩:∃v,v=true:=⟨_,rfl⟩
      refine AGo.endK ?_
      refine AGo.go (TNoOk) followsB ?_
      conv=>whnf
      refine AEnd.restate [] [(0,.ptr F0 0),(3,vi now),(5,.ptr 5 0),(12,vb (a.g.take c.tsn).2)] ((5,.box (chL c))::asP { a with sackTo:=a.there from_,g:=(a.g.take c.tsn).1,owe:=a.owe+1,sackDue:=sd,sack:=v}) rfl (by (first|rw [hv,g6]|rw [hv]);(repeat' (first|exact ⟨⟩|exact OLe.refl _|exact .refl _|exact .nil|exact rfl|refine ⟨?_,?_⟩|fail))) ?_
      refine AEnd.done ?_
      exact key2 v (by rw [hv,hsk])
     ·conv=>whnf
      cases g7:decide (0<((a.g.take c.tsn).1.ab.length:Int))
      ·have hsk:(a.gotA c from_ now).sack=a.sack:=by rw [hsk0,g5,g6,g7];rfl
       conv=>whnf
       obtain ⟨v,hv⟩:∃v,v=a.sack:=⟨_,rfl⟩
       refine AGo.endK ?_
       refine AGo.go (TNoOk) followsB ?_
       conv=>whnf
       refine AEnd.restate [] [(0,.ptr F0 0),(3,vi now),(5,.ptr 5 0),(12,vb (a.g.take c.tsn).2)] ((5,.box (chL c))::asP { a with sackTo:=a.there from_,g:=(a.g.take c.tsn).1,owe:=a.owe+1,sackDue:=sd,sack:=v}) rfl (by (first|rw [hv,g6]|rw [hv]);(repeat' (first|exact ⟨⟩|exact OLe.refl _|exact .refl _|exact .nil|exact rfl|refine ⟨?_,?_⟩|fail))) ?_
       refine AEnd.done ?_
       exact key2 v (by rw [hv,hsk])
      ·have hsk:(a.gotA c from_ now).sack=true:=by rw [hsk0,g5,g6,g7];rfl
       conv=>whnf
       obtain ⟨v,hv⟩:∃v,v=true:=⟨_,rfl⟩
       refine AGo.endK ?_
       refine AGo.go (TNoOk) followsB ?_
       conv=>whnf
       refine AEnd.restate [] [(0,.ptr F0 0),(3,vi now),(5,.ptr 5 0),(12,vb (a.g.take c.tsn).2)] ((5,.box (chL c))::asP { a with sackTo:=a.there from_,g:=(a.g.take c.tsn).1,owe:=a.owe+1,sackDue:=sd,sack:=v}) rfl (by (first|rw [hv,g6]|rw [hv]);(repeat' (first|exact ⟨⟩|exact OLe.refl _|exact .refl _|exact .nil|exact rfl|refine ⟨?_,?_⟩|fail))) ?_
       refine AEnd.done ?_
       exact key2 v (by rw [hv,hsk])
    ·have hsk:(a.gotA c from_ now).sack=true:=by rw [hsk0,g5];rfl
     conv=>whnf
     obtain ⟨v,hv⟩:∃v,v=true:=⟨_,rfl⟩
     refine AGo.endK ?_
     refine AGo.go (TNoOk) followsB ?_
     conv=>whnf
     refine AEnd.restate [] [(0,.ptr F0 0),(3,vi now),(5,.ptr 5 0),(12,vb (a.g.take c.tsn).2)] ((5,.box (chL c))::asP { a with sackTo:=a.there from_,g:=(a.g.take c.tsn).1,owe:=a.owe+1,sackDue:=sd,sack:=v}) rfl (by (first|rw [hv,g6]|rw [hv]);(repeat' (first|exact ⟨⟩|exact OLe.refl _|exact .refl _|exact .nil|exact rfl|refine ⟨?_,?_⟩|fail))) ?_
     refine AEnd.done ?_
     exact key2 v (by rw [hv,hsk])
   ·intro sk hskv
    have hgot:({ a with sackTo:=a.there from_,g:=(a.g.take c.tsn).1,owe:=a.owe+1,sackDue:=sd,sack:=sk}:As)=a.gotA c from_ now:=by rw [hsd,hskv];rfl
    rw [htk,←hgot]
    generalize hbk:({ a with sackTo:=a.there from_,g:=(a.g.take c.tsn).1,owe:=a.owe+1,sackDue:=sd,sack:=sk}:As)=b
    have hbag:b.bag=a.bag:=by rw [←hbk]
    have hbq:b.q=a.q:=by rw [←hbk]
    have hbi:b.inn=a.inn:=by rw [←hbk]
    have hbh:b.h=a.h:=by rw [←hbk]
    rw [←hbi] at hi1
    rw [←hbh]
    cases g8:(a.g.take c.tsn).2
    ·rw [if_neg (by simp)]
     conv=>whnf
     dsimp only
     refine gR ?_
     conv=>whnf
     refine AGo.go (TNoOk) followsB ?_
     conv=>whnf
     refine finR [] rfl rfl (.refl _) ?_ ⟨rfl,rfl⟩
     exact ⟨OLe.refl _,OLe.refl _,OLe.refl _,OLe.refl _,OLe.refl _,OLe.refl _,OLe.refl _,trivial⟩
    ·conv=>whnf
     dsimp only
     have hput:=fput_spec a.bag (fpOf c) (by first|exact hfok g8|exact hfok rfl)
     first|replace hook:=hook g8|replace hook:=hook rfl
     first|replace hmany:=hmany g8|replace hmany:=hmany rfl
     rw [←hbag] at hput hook hmany
     rw [←hbq] at hook hmany
     cases g9:decide (b.h.ins≤c.stream)
     ·rw [if_pos ⟨rfl,by have:=of_decide_eq_false g9;omega⟩]
      unfold As.putA
      generalize fputF b.bag (fpOf c)=f at hput hook hmany ⊢
      obtain ⟨bag',m,ok⟩:=f
      dsimp only at hput hook hmany ⊢
      conv=>whnf
      refine gR ?_
      conv=>whnf
      refine AGo.go (TNoOk) followsB ?_
      conv=>whnf
      have hcx:=hput
      first|(refine ⟨_,hcx,?_⟩;rintro q rfl)|refine ⟨_,hcx,?_⟩
      clear hcx
      conv=>whnf
      refine gR ?_
      conv=>whnf
      cases g10:ok
      ·rw [if_neg (by simp)]
       conv=>whnf
       refine AGo.go (TNoOk) followsB ?_
       conv=>whnf
       refine finR [] rfl rfl (.refl _) ?_ ⟨rfl,rfl⟩
       exact ⟨OLe.refl _,OLe.refl _,OLe.refl _,OLe.refl _,OLe.refl _,OLe.refl _,OLe.refl _,trivial⟩
      ·have ho:=oput_spec b.q m (hook g10)
       rw [if_pos rfl]
       unfold oputA at ho
       conv=>whnf
       refine AGo.go (TNoOk) followsB ?_
       conv=>whnf
       cases hq:b.q.put m with
       |none=>
        rw [hq] at ho
        dsimp only at ho ⊢
        have hcx:=ho
        first|(refine ⟨_,hcx,?_⟩;rintro q rfl)|refine ⟨_,hcx,?_⟩
        clear hcx
        conv=>whnf
        refine gR ?_
        conv=>whnf
        rw [show (oputE b.q m==0)=false from by unfold oputE;split<;>rfl]
        conv=>whnf
        refine AGo.go (TNoOk) followsB ?_
        conv=>whnf
        refine finR [] rfl rfl (.refl _) ?_ ⟨rfl,rfl⟩
        exact ⟨OLe.refl _,OLe.refl _,OLe.refl _,OLe.refl _,OLe.refl _,OLe.refl _,OLe.refl _,trivial⟩
       |some x=>
        obtain ⟨q',l⟩:=x
        have hml:=hmany _ hq
        rw [hq] at ho
        dsimp only at ho hml ⊢
        have hcx:=ho
        first|(refine ⟨_,hcx,?_⟩;rintro q rfl)|refine ⟨_,hcx,?_⟩
        clear hcx
        conv=>whnf
        refine gR ?_
        conv=>whnf
        refine AGo.go (TNoOk) followsB ?_
        conv=>whnf
        refine ⟨⟨rfl,by omega,by simp only [ty116];omega⟩,?_⟩
        conv=>whnf
        refine gR ?_
        conv=>whnf
        refine finR [(196,2002)] rfl rfl (.refl _) ?_ ⟨rfl,rfl⟩
        (repeat' (first|exact ⟨⟩|exact OLe.refl _|exact .refl _|exact .nil|exact rfl|refine ⟨?_,?_⟩|fail))
        ·exact .of_eq (congrArg (fun n=>AVal.rsl 2002 6 0 n) (List.length_append).symm)
        ·exact (List.length_append).symm
        ·exact fun k _=>fcat_app encFm b.inn l k
     ·rw [if_neg (fun h=>by have:=of_decide_eq_true g9;omega)]
      conv=>whnf
      refine gR ?_
      conv=>whnf
      refine AGo.go (TNoOk) followsB ?_
      conv=>whnf
      refine finR [] rfl rfl (.refl _) ?_ ⟨rfl,rfl⟩
      exact ⟨OLe.refl _,OLe.refl _,OLe.refl _,OLe.refl _,OLe.refl _,OLe.refl _,OLe.refl _,trivial⟩
end Go.Proofs.YtbkcekmahdbgdaaGreat
namespace Towline.Ac
open Towline.Hand Towline.Chunk Towline.Store
namespace As
def watch (a:As) (i:Nat) (now:Int):As:=if a.due.getD i default=0 then { a with due:=a.due.set i (now+(a.p.l.getD i default).tm.rto)} else a
end As
end Towline.Ac
namespace Go.Proofs.YtbkcekmahdbgdaaGreat
open Go Go.RowKit Towline Towline.Hand Towline.Ac Towline.Chunk Towline.Store
set_option linter.unusedVariables false
set_option linter.unusedSimpArgs false
set_option maxRecDepth 20000
set_option maxHeartbeats 4000000
theorem watch_spec (a:As) (i:Nat) (now:Int) (hi:i<a.p.l.length) (hd:a.due.length=a.p.l.length) (hn : -2 ^ 60≤now∧now≤2 ^ 60) (hr : -2 ^ 60≤(a.p.l.getD i default).tm.rto∧(a.p.l.getD i default).tm.rto≤2 ^ 60):LSpec Tryz.prog 114 [.ptr F0 0,vi i,vi now] (asH a) (fun r hl=>r=.tup []∧hl=asP (a.watch i now)):=by
 refine LSpec.rens (LSpec.runN (h2:=asP a) psN (TNoOk) followsB Tryz.func114 (by decide) rfl Tryz.ntmps114 (Nat.le_of_ble_eq_true rfl) rfl rfl rfl rfl rfl fun w0 R0 Lo hGw=>?_)
 conv=>whnf
 refine gK ?_
 conv=>whnf
 rw [tnC]
 refine gK ?_
 conv=>whnf
 rw [Nat.zero_add]
 cases g1:(a.due.getD i default==0)
 ·rw [show a.watch i now=a from by unfold As.watch;rw [if_neg (beq_eq_false_iff_ne.1 g1)]]
  conv=>whnf
  refine finR [] rfl rfl (.refl _) ?_ ⟨rfl,rfl⟩
  exact ⟨OLe.refl _,OLe.refl _,OLe.refl _,OLe.refl _,OLe.refl _,OLe.refl _,OLe.refl _,trivial⟩
 ·rw [show a.watch i now={ a with due:=a.due.set i (now+(a.p.l.getD i default).tm.rto)} from by unfold As.watch;rw [if_pos (eq_of_beq g1)]]
  conv=>whnf
  rw [tnC]
  repeat (refine gK ?_;conv=>whnf)
  rw [tnC,Nat.zero_add]
  refine gR ?_
  conv=>whnf
  refine finR [] rfl rfl (.refl _) ?_ ⟨rfl,rfl⟩
  have hsl:a.due.length=(a.due.set i (now+(a.p.l.getD i default).tm.rto)).length:=by simp
  (repeat' (first|exact ⟨⟩|exact OLe.refl _|exact .refl _|exact .nil|exact rfl|refine ⟨?_,?_⟩|fail))
  ·exact .of_eq (congrArg (AVal.rsl F5 1 0) hsl)
  ·exact hsl
  ·exact fun k _=>fupd_setD default encZ a.due i _ (by omega) k
theorem growC0_spec:LSpec Tryz.prog 110 [.d nilD,vi 0] [] (fun r hl=>r=.d nilD∧hl=[]):=by
 refine LSpec.run (tysOk) followsB Tryz.func110 (by decide) rfl Tryz.ntmps110 (Nat.le_of_ble_eq_true rfl) rfl rfl fun w0 R0 Lo hGw=>?_
 conv=>whnf
 refine gK ?_
 conv=>whnf
 refine gK ?_
 conv=>whnf
 exact ⟨_,[],.refl _,trivial,rfl,rfl⟩
theorem growC_spec (n:Nat) (h0:0<n) (hn:n≤2 ^ 20):LSpec Tryz.prog 110 [.d nilD,vi n] [] (fun r hl=>r=.rsl 2000 14 0 0∧hl=[(2000,.row 44 14 0 fun _=>[])]):=by
 refine LSpec.rens (LSpec.runE (h2:=[]) [] (tysOk) followsB Tryz.func110 (by decide) rfl Tryz.ntmps110 (Nat.le_of_ble_eq_true rfl) rfl rfl rfl rfl rfl fun w0 R0 Lo hGw=>?_)
 conv=>whnf
 refine gK ?_
 conv=>whnf
 rw [show ((n:Int)-(((0:Nat):Int)-0))=(n:Int) from by omega]
 refine gK ?_
 conv=>whnf
 rw [show decide (0<(n:Int))=true from decide_eq_true (by omega)]
 conv=>whnf
 refine gK ?_
 conv=>whnf
 rw [tnC]
 refine ⟨⟨⟨by omega,by simp only [ty44];omega⟩,by omega,by omega,by simp only [ty44];omega⟩,?_⟩
 conv=>whnf
 repeat (refine gK ?_;conv=>whnf)
 refine AEnd.trunc 22 0 rfl (Nat.zero_le _) rfl ?_
 refine AEnd.done ?_
 conv=>whnf
 refine finR [(22,2000)] rfl rfl (.refl _) ?_ ⟨rfl,rfl⟩
 (repeat' (first|exact ⟨⟩|exact OLe.refl _|exact .refl _|exact .nil|exact rfl|refine ⟨?_,?_⟩|fail))
 exact fun k hk=>absurd hk (by omega)
abbrev TGr:Tys:=tysX false [] [(110,[])] []
theorem TGrOk:TysOk Tryz.prog TGr:=tysXOk _ _ _ _
theorem slTE {α:Type} [Inhabited α] (enc:α→List D) (l:List α) (k:Nat) (hk:k<l.length):enc (l.getD k default)=(l.map enc).getD k []:=by
 rw [List.getD_eq_getElem?_getD,List.getD_eq_getElem?_getD,List.getElem?_map,List.getElem?_eq_getElem hk];rfl
theorem concatC_spec (l1 l2:List Ch) (h:l1.length+l2.length≤2 ^ 20):PSpec Tryz.prog 62 [.d (.sl 1 2 fun k=>([[slT 14 encCh l1],[slT 14 encCh l2]]:List (List D)).getD k [])] (· = .d (slE 14 encCh (l1++l2))):=by
 refine PSpec.run ((TGrOk)) followsB Tryz.func62 (by decide) rfl Tryz.ntmps62 (Nat.le_of_ble_eq_true rfl) rfl fun w0 R0 hGw=>?_
 conv=>whnf
 refine ALoop.rounds TGrOk followsB 3 ?_
 conv=>whnf
 repeat (refine gK ?_;conv=>whnf)
 rw [show (0+(l1.length:Int))+l2.length=((l1.length+l2.length:Nat):Int) from by omega]
 cases g1:decide (0<l1.length+l2.length)
 ·have g1:=of_decide_eq_false g1
  have e1:l1=[]:=List.eq_nil_of_length_eq_zero (by omega)
  have e2:l2=[]:=List.eq_nil_of_length_eq_zero (by omega)
  subst e1 e2
  refine ⟨_,growC0_spec,?_⟩
  rintro q hq ⟨rfl,rfl⟩
  unfold ABack
  generalize hfr:freshN _ _ _ _=fb
  have hb:fb=true:=by
   rw [←hfr]
   conv=>lhs;whnf
  subst hb
  clear hfr
  dsimp only
  conv=>whnf
  try dsimp only [newBase,Nat.reduceAdd,Nat.reduceMul]
  refine ALoop.rounds TGrOk followsB 3 ?_
  conv=>whnf
  repeat (refine gK ?_;conv=>whnf)
  refine ⟨⟨by simp,by simp⟩,?_⟩
  conv=>whnf
  repeat (refine gK ?_;conv=>whnf)
  refine ⟨⟨rfl,by simp,by simp⟩,?_⟩
  conv=>whnf
  repeat (refine gK ?_;conv=>whnf)
  exact ⟨_,.sl rfl (fun k hk=>absurd hk (by simp)),rfl,rfl⟩
 ·have g1:=of_decide_eq_true g1
  refine ⟨_,(growC_spec (l1.length+l2.length) g1 h),?_⟩
  rintro q hq ⟨rfl,rfl⟩
  unfold ABack
  generalize hfr:freshN _ _ _ _=fb
  have hb:fb=true:=by
   rw [←hfr]
   conv=>lhs;whnf
  subst hb
  clear hfr
  dsimp only
  conv=>whnf
  try dsimp only [newBase,Nat.reduceAdd,Nat.reduceMul]
  refine ALoop.rounds TGrOk followsB 3 ?_
  conv=>whnf
  repeat (refine gK ?_;conv=>whnf)
  refine ⟨⟨rfl,by omega,by simp only [ty44];omega⟩,?_⟩
  conv=>whnf
  repeat (refine gK ?_;conv=>whnf)
  refine ⟨⟨rfl,by omega,by simp only [ty44];omega⟩,?_⟩
  conv=>whnf
  repeat (refine gK ?_;conv=>whnf)
  refine ⟨_,.sl (by simp) (fun k hk=>?_),rfl,rfl⟩
  have h0:fcat (fun _=>[]) 0 (fun k=>encCh (l1.getD k default))=fun k=>encCh (l1.getD k default):=by funext k;unfold fcat;rw [if_neg (by omega)];rfl
  rw [h0,Nat.zero_add]
  rw [fcat_app encCh l1 l2 k]
  exact slTE encCh (l1++l2) k (by rw [List.length_append];simpa using hk)
end Go.Proofs.YtbkcekmahdbgdaaGreat
namespace Towline.Ac
open Towline.Hand Towline.Chunk Towline.Store
def flg1 (p:Pc):Int:=if p.first then bitsOp .or .i64 0 2 else 0
def flg2 (p:Pc):Int:=if p.last then bitsOp .or .i64 (flg1 p) 1 else flg1 p
def flg3 (p:Pc):Int:=if p.free then bitsOp .or .i64 (flg2 p) 4 else flg2 p
def flg (p:Pc) (k:Nat):Int:=if k=0 then 0 else if k=1 then flg1 p else if k=2 then flg2 p else flg3 p
def datOf (n:Int) (p:Pc):Ch:=⟨0,flg p 3,n,0,0,p.ppid,p.stream,p.ssn,0,0,[],[],[],p.text⟩
namespace As
def freshOk (a:As) (i:Nat):Bool:=!a.s.l.isEmpty&&((lossF a.xl).isEmpty&&(decide (a.xl.length<64)&&a.may i))
def next1 (a:As):Int:=Go.Proofs.YtbkcekmahdbgdaaGreat.nextX a.xc a.xl
def piece1 (a:As):Pc:=pieceOf (a.s.l.headD default) a.s.a a.s.next 1000
def freshA (a:As) (i:Nat) (now:Int):As:=
 ({ a with s:=after (a.s.l.headD default) a.s.l.tail a.s.a a.s.next 1000,xl:=a.xl++[⟨a.next1,max a.piece1.text.length 1,1,0,1,i,now⟩],data:=putI a.next1 (datOf a.next1 a.piece1,(a.s.l.headD default).id) a.data}:As).watch i now
structure SOk (s:S2):Prop where
 at_:∀m r,s.l=m::r→s.a<m.text.length
 st:∀m∈s.l,m.stream<s.next.length∧m.stream≤65535∧0<m.text.length∧m.text.length≤2 ^ 20
 len:s.l.length≤2 ^ 20
 nx:s.next.length≤2 ^ 20
theorem SOk.after {m:Msg} {r:List Msg} {s:S2} (h:SOk s) (hl:s.l=m::r):SOk (after m r s.a s.next 1000):=by
 have ha:=h.at_ m r hl
 have hm:=h.st m (by rw [hl];exact List.mem_cons_self)
 have hlen:=h.len
 rw [hl] at hlen
 unfold Towline.Store.after
 split
 ·rename_i hc
  refine ⟨fun m' r' e=>?_,fun m' hm'=>h.st m' (by rw [hl];exact hm'),hlen,h.nx⟩
  cases e
  exact hc
 ·have hb:(bump m s.next).length=s.next.length:=by unfold bump;split<;>simp
  refine ⟨fun m' r' e=>?_,fun m' hm'=>?_,by simp at hlen ⊢;omega,by show (bump m s.next).length≤_;rw [hb];exact h.nx⟩
  ·have hr:m'∈s.l:=by
    have e:r=m'::r':=e
    rw [hl,e];simp
   exact (h.st m' hr).2.2.1
  ·show m'.stream<(bump m s.next).length∧_
   rw [hb]
   exact h.st m' (by rw [hl];exact List.mem_cons_of_mem _ hm')
structure FrOk (a:As) (i:Nat):Prop where
 ii:i<a.p.l.length
 due:a.due.length=a.p.l.length
 rto : -2 ^ 60≤(a.p.l.getD i default).tm.rto∧(a.p.l.getD i default).tm.rto≤2 ^ 60
 xl:a.xl.length≤64
 xs:∀p∈a.xl,0≤p.size∧p.size≤1500
 win:0≤a.h.window∧a.h.window<4294967296
 s:SOk a.s
def freshL (i:Nat) (now:Int):Nat→As→As×List Ch
 |0,a=>(a,[])
 |f+1,a=>if a.freshOk i then ((freshL i now f (a.freshA i now)).1,datOf a.next1 a.piece1::(freshL i now f (a.freshA i now)).2) else (a,[])
end As
end Towline.Ac
namespace Go.Proofs.YtbkcekmahdbgdaaGreat
open Go Go.RowKit Towline Towline.Hand Towline.Ac Towline.Chunk Towline.Store
set_option linter.unusedVariables false
set_option linter.unusedSimpArgs false
set_option maxRecDepth 20000
set_option maxHeartbeats 4000000
abbrev TFr:Tys:=tysX false [] [(114,[])] [dmT+101,pxT+215,pbT+44]
theorem TFrOk:TysOk Tryz.prog TFr:=tysXOk _ _ _ _
theorem putM_dat (n id:Int) (c:Ch) (l:List (Int×(Ch×Int))):putM ((findI n l 0).map fun x=>(x.1,.pt (encCh x.2.1++[.i .i64 x.2.2]))) (.i .u32 n) (.pt (encCh c++[.i .i64 id])) (encDat l)=encDat (putI n (c,id) l):=by
 unfold putM putI encDat
 cases findI n l 0 with
 |none=>simp
 |some q=>simp [List.map_set]
theorem freshL_stop (a:As) (i:Nat) (now:Int) (h:a.freshOk i=false):∀f,As.freshL i now f a=(a,[])
 |0=>rfl
 |f+1=>by unfold As.freshL;rw [h];rfl
theorem fresh_spec (a:As) (i:Nat) (now:Int) (ha:a.FrOk i) (hn : -2 ^ 60≤now∧now≤2 ^ 60):LSpec Tryz.prog 64 [.ptr F0 0,vi i,vi now] (asH a) (fun r hl=>r=.d (slT 14 encCh (As.freshL i now (64-a.xl.length) a).2)∧hl=asP (As.freshL i now (64-a.xl.length) a).1):=by
 refine LSpec.rens (LSpec.runES (h2:=asP a) psN (TFrOk) followsB Tryz.func64 (by decide) rfl Tryz.ntmps64 (Nat.le_of_ble_eq_true rfl) rfl rfl rfl rfl rfl fun w0 R0 Lo hGw=>?_)
 conv=>whnf
 refine ALoop.adopt 7 133 14 44 (fun j=>encCh (([]:List Ch).getD j default)) rfl rfl rfl ?_
 refine ALoop.introR TFrOk followsB (fun x:{x:As×List Ch // x.1.FrOk i∧x.2.length≤x.1.xl.length∧As.freshL i now (64-a.xl.length) a=((As.freshL i now (64-x.1.xl.length) x.1).1,x.2++(As.freshL i now (64-x.1.xl.length) x.1).2)}=>([(0,.ptr F0 0),(1,vi i),(2,vi now),(7,.rsl 133 14 0 x.1.2.length)],(133,.row 44 14 x.1.2.length fun j=>encCh (x.1.2.getD j default))::asP x.1.1)) (fun x=>64-x.1.1.xl.length) ⟨(a,[]),ha,Nat.zero_le _,by simp⟩ ?_ ?_
 ·(repeat' (first|exact ⟨⟩|exact OLe.refl _|exact .refl _|exact .nil|exact rfl|refine ⟨?_,?_⟩|fail))
 ·rintro ⟨⟨b,l⟩,hb,hll,hrel⟩
  dsimp only at hb hll hrel ⊢
  generalize hfu:64-b.xl.length=fu at hrel
  obtain ⟨hi,hdu,hrt,hxl,hxs,hwin,hso⟩:=hb
  have hfo:b.freshOk i=(!b.s.l.isEmpty&&((lossF b.xl).isEmpty&&(decide (b.xl.length<64)&&b.may i))):=rfl
  conv=>whnf
  cases g1:decide (0<(b.s.l.length:Int))
  ·have hno:b.freshOk i=false:=by
    rw [hfo,show b.s.l=[] from List.eq_nil_of_length_eq_zero (by have:=of_decide_eq_false g1;omega)];rfl
   conv=>whnf
   rw [hrel,freshL_stop b i now hno fu,List.append_nil]
   refine AEnd.frz 6 ?_
   conv=>whnf
   refine gK ?_
   conv=>whnf
   refine AEnd.done ?_
   conv=>whnf
   refine finR [] rfl rfl (.refl _) ?_ ⟨rfl,rfl⟩
   exact ⟨OLe.refl _,OLe.refl _,OLe.refl _,OLe.refl _,OLe.refl _,OLe.refl _,OLe.refl _,trivial⟩
  ·conv=>whnf
   have hcx:=(lossG_spec b.xc b.xl (by omega))
   first|(refine ⟨_,hcx,?_⟩;rintro q rfl)|refine ⟨_,hcx,?_⟩
   clear hcx
   conv=>whnf
   rw [len0]
   cases g2:(lossF b.xl).isEmpty
   ·have hno:b.freshOk i=false:=by rw [hfo,g2];simp
    conv=>whnf
    rw [hrel,freshL_stop b i now hno fu,List.append_nil]
    refine AEnd.frz 6 ?_
    conv=>whnf
    refine gK ?_
    conv=>whnf
    refine AEnd.done ?_
    conv=>whnf
    refine finR [] rfl rfl (.refl _) ?_ ⟨rfl,rfl⟩
    exact ⟨OLe.refl _,OLe.refl _,OLe.refl _,OLe.refl _,OLe.refl _,OLe.refl _,OLe.refl _,trivial⟩
   ·conv=>whnf
    cases g3:decide ((b.xl.length:Int)<64)
    ·have hno:b.freshOk i=false:=by rw [hfo,show decide (b.xl.length<64)=false from decide_eq_false (by have:=of_decide_eq_false g3;omega)];simp
     conv=>whnf
     rw [hrel,freshL_stop b i now hno fu,List.append_nil]
     refine AEnd.frz 6 ?_
     conv=>whnf
     refine gK ?_
     conv=>whnf
     refine AEnd.done ?_
     conv=>whnf
     refine finR [] rfl rfl (.refl _) ?_ ⟨rfl,rfl⟩
     exact ⟨OLe.refl _,OLe.refl _,OLe.refl _,OLe.refl _,OLe.refl _,OLe.refl _,OLe.refl _,trivial⟩
    ·have g3:=of_decide_eq_true g3
     conv=>whnf
     repeat (refine gK ?_;conv=>whnf)
     have hcx:=(may_spec b i hi (by omega) hxs hwin)
     first|(refine ⟨_,hcx,?_⟩;rintro q rfl)|refine ⟨_,hcx,?_⟩
     clear hcx
     conv=>whnf
     cases g4:b.may i
     ·have hno:b.freshOk i=false:=by rw [hfo,g4];simp
      conv=>whnf
      rw [hrel,freshL_stop b i now hno fu,List.append_nil]
      refine AEnd.frz 6 ?_
      conv=>whnf
      refine gK ?_
      conv=>whnf
      refine AEnd.done ?_
      conv=>whnf
      refine finR [] rfl rfl (.refl _) ?_ ⟨rfl,rfl⟩
      exact ⟨OLe.refl _,OLe.refl _,OLe.refl _,OLe.refl _,OLe.refl _,OLe.refl _,OLe.refl _,trivial⟩
     ·have hyes:b.freshOk i=true:=by
       rw [hfo,g4,g2,show decide (b.xl.length<64)=true from decide_eq_true (by omega)]
       have h0:=of_decide_eq_true g1
       cases hl0:b.s.l with
       |nil=>rw [hl0] at h0;simp at h0
       |cons m r=>rfl
      obtain ⟨m,r,hsl⟩:∃m r,b.s.l=m::r:=by
       have h0:=of_decide_eq_true g1
       cases hl0:b.s.l with
       |nil=>rw [hl0] at h0;simp at h0
       |cons m r=>exact ⟨m,r,rfl⟩
      have hma:=hso.at_ m r hsl
      have hms:=hso.st m (by rw [hsl];exact List.mem_cons_self)
      have hsl2:=hso.len
      rw [hsl] at hsl2
      have hpc:pieceOf m b.s.a b.s.next 1000=b.piece1:=by unfold As.piece1;rw [hsl];rfl
      have hcut:=(St.textOf (most:=1000) hma).2
      have hcl:=cut_le (most:=1000) hma
      have hpt:b.piece1.text.length=cut m b.s.a 1000:=by rw [←hpc];exact hcut
      have htk:=St.take_spec m r b.s.a b.s.next 1000 hms.1 hms.2.1 hma (by omega) (by simp at hsl2;omega) (by have:=hso.nx;omega)
      rw [←hsl] at htk
      have hpu:=sentPut_spec b.xc b.xl (max b.piece1.text.length 1) i now (by omega) (by omega)
      conv=>whnf
      have hcx:=htk
      first|(refine ⟨_,hcx,?_⟩;rintro q rfl)|refine ⟨_,hcx,?_⟩
      clear hcx
      conv=>whnf
      rw [hpc]
      have hcx:=hpu
      first|(refine ⟨_,hcx,?_⟩;rintro q rfl)|refine ⟨_,hcx,?_⟩
      clear hcx
      conv=>whnf
      refine gR ?_
      conv=>whnf
      refine ALoop.intro TFrOk followsB (fun k:{k:Nat // k≤3}=>([(0,.ptr F0 0),(1,vi i),(2,vi now),(7,.rsl 133 14 0 l.length),(8,.ptr 8 0),(10,vi m.id),(12,.ptr 12 0),(13,v32 b.next1),(15,.ptr 15 0),(98,.rsl 98 2 0 3),(99,vi 3),(100,vi k.1)],(133,.row 44 14 l.length fun j=>encCh (l.getD j default))::(8,.box (St.stL (after m r b.s.a b.s.next 1000).l (after m r b.s.a b.s.next 1000).a (after m r b.s.a b.s.next 1000).next))::(12,.box [v32 b.xc,.d (slT 7 encSp (b.xl++[⟨b.next1,max b.piece1.text.length 1,1,0,1,i,now⟩]))])::(98,.row 220 2 3 fun j=>(([[.b b.piece1.first,.i .i64 2],[.b b.piece1.last,.i .i64 1],[.b b.piece1.free,.i .i64 4]]:List (List D)).getD j []))::(15,.box [vi 0,vi (flg b.piece1 k.1),v32 b.next1,v32 0,v32 0,v32 b.piece1.ppid,v16 b.piece1.stream,v16 b.piece1.ssn,v16 0,v16 0,.d (slT 2 encG []),.d (slT 1 enc32 []),.d (slT 2 encI []),vs b.piece1.text])::asP b)) (fun k=>3-k.1) ⟨0,by omega⟩ ?_ ?_
      ·(repeat' (first|exact ⟨⟩|exact OLe.refl _|exact .refl _|exact .nil|exact rfl|refine ⟨?_,?_⟩|fail))
      ·rintro ⟨k,hk⟩
       dsimp only
       have hk4:k=0∨k=1∨k=2∨k=3:=by omega
       rcases hk4 with rfl|rfl|rfl|rfl
       ·conv=>whnf
        repeat (refine gK ?_;conv=>whnf)
        cases g5:b.piece1.first
        ·conv=>whnf
         repeat (refine gK ?_;conv=>whnf)
         refine ⟨⟨1,by omega⟩,by dsimp only;omega,?_⟩
         dsimp only
         rw [show flg b.piece1 1=flg b.piece1 0 from by show flg1 _=_;unfold flg1;rw [g5];rfl]
         (repeat' (first|exact ⟨⟩|exact OLe.refl _|exact .refl _|exact .nil|exact rfl|refine ⟨?_,?_⟩|fail))
        ·conv=>whnf
         repeat (refine gK ?_;conv=>whnf)
         refine ⟨⟨1,by omega⟩,by dsimp only;omega,?_⟩
         dsimp only
         rw [show flg b.piece1 1=bitsOp .or .i64 0 2 from by show flg1 _=_;unfold flg1;rw [g5];exact if_pos rfl]
         (repeat' (first|exact ⟨⟩|exact OLe.refl _|exact .refl _|exact .nil|exact rfl|refine ⟨?_,?_⟩|fail))
       ·conv=>whnf
        repeat (refine gK ?_;conv=>whnf)
        cases g5:b.piece1.last
        ·conv=>whnf
         repeat (refine gK ?_;conv=>whnf)
         refine ⟨⟨2,by omega⟩,by dsimp only;omega,?_⟩
         dsimp only
         rw [show flg b.piece1 2=flg b.piece1 1 from by show flg2 _=_;unfold flg2;rw [g5];rfl]
         (repeat' (first|exact ⟨⟩|exact OLe.refl _|exact .refl _|exact .nil|exact rfl|refine ⟨?_,?_⟩|fail))
        ·conv=>whnf
         repeat (refine gK ?_;conv=>whnf)
         refine ⟨⟨2,by omega⟩,by dsimp only;omega,?_⟩
         dsimp only
         rw [show flg b.piece1 2=bitsOp .or .i64 (flg b.piece1 1) 1 from by show flg2 _=_;unfold flg2;rw [g5];rfl]
         (repeat' (first|exact ⟨⟩|exact OLe.refl _|exact .refl _|exact .nil|exact rfl|refine ⟨?_,?_⟩|fail))
       ·conv=>whnf
        repeat (refine gK ?_;conv=>whnf)
        cases g5:b.piece1.free
        ·conv=>whnf
         repeat (refine gK ?_;conv=>whnf)
         refine ⟨⟨3,by omega⟩,by dsimp only;omega,?_⟩
         dsimp only
         rw [show flg b.piece1 3=flg b.piece1 2 from by show flg3 _=_;unfold flg3;rw [g5];rfl]
         (repeat' (first|exact ⟨⟩|exact OLe.refl _|exact .refl _|exact .nil|exact rfl|refine ⟨?_,?_⟩|fail))
        ·conv=>whnf
         repeat (refine gK ?_;conv=>whnf)
         refine ⟨⟨3,by omega⟩,by dsimp only;omega,?_⟩
         dsimp only
         rw [show flg b.piece1 3=bitsOp .or .i64 (flg b.piece1 2) 4 from by show flg3 _=_;unfold flg3;rw [g5];rfl]
         (repeat' (first|exact ⟨⟩|exact OLe.refl _|exact .refl _|exact .nil|exact rfl|refine ⟨?_,?_⟩|fail))
       ·have hnl:(b.freshA i now).xl.length=b.xl.length+1:=by
         unfold As.freshA As.watch
         split<;>simp
        have hnok:(b.freshA i now).FrOk i:=by
         have hp:(b.freshA i now).p=b.p:=by unfold As.freshA As.watch;split<;>rfl
         have hh:(b.freshA i now).h=b.h:=by unfold As.freshA As.watch;split<;>rfl
         have hs':(b.freshA i now).s=after m r b.s.a b.s.next 1000:=by
          unfold As.freshA As.watch
          rw [hsl]
          split<;>rfl
         have hd':(b.freshA i now).due.length=b.due.length:=by
          unfold As.freshA As.watch
          split<;>simp
         have hx':(b.freshA i now).xl=b.xl++[⟨b.next1,max b.piece1.text.length 1,1,0,1,i,now⟩]:=by unfold As.freshA As.watch;split<;>rfl
         refine ⟨by rw [hp];exact hi,by rw [hd',hp];exact hdu,by rw [hp];exact hrt,by rw [hnl];omega,fun p hp'=>?_,by rw [hh];exact hwin,by rw [hs'];exact hso.after hsl⟩
         rw [hx'] at hp'
         rcases List.mem_append.1 hp' with hp'|hp'
         ·exact hxs p hp'
         ·rw [List.mem_singleton.1 hp'];dsimp only;omega
        have hrel':As.freshL i now (64-a.xl.length) a=((As.freshL i now (64-(b.freshA i now).xl.length) (b.freshA i now)).1,(l++[datOf b.next1 b.piece1])++(As.freshL i now (64-(b.freshA i now).xl.length) (b.freshA i now)).2):=by
         rw [hrel,show fu=(64-(b.freshA i now).xl.length)+1 from by rw [hnl];omega]
         conv=>lhs;unfold As.freshL
         rw [hyes,if_pos rfl,List.append_assoc]
         rfl
        conv=>whnf
        refine gR ?_
        conv=>whnf
        refine ⟨_,findD_dat _ _,_,putM_dat b.next1 m.id (datOf b.next1 b.piece1) b.data,?_⟩
        conv=>whnf
        refine gR ?_
        conv=>whnf
        refine ⟨⟨by omega,by omega,by simp only [ty44];omega⟩,?_⟩
        conv=>whnf
        have hfe:b.freshA i now=({ b with s:=after m r b.s.a b.s.next 1000,xl:=b.xl++[⟨b.next1,max b.piece1.text.length 1,1,0,1,i,now⟩],data:=putI b.next1 (datOf b.next1 b.piece1,m.id) b.data}:As).watch i now:=by unfold As.freshA;rw [hsl];rfl
        have hwt:=watch_spec { b with s:=after m r b.s.a b.s.next 1000,xl:=b.xl++[⟨b.next1,max b.piece1.text.length 1,1,0,1,i,now⟩],data:=putI b.next1 (datOf b.next1 b.piece1,m.id) b.data} i now hi hdu hn hrt
        rw [←hfe] at hwt
        refine ⟨_,hwt,?_⟩
        rintro q hq ⟨rfl,rfl⟩
        unfold ABack
        generalize hfr:freshN _ _ _ _=fb
        have hb:fb=true:=by
         rw [←hfr]
         conv=>lhs;whnf
        subst hb
        clear hfr
        dsimp only
        conv=>whnf
        try dsimp only [newBase,Nat.reduceAdd,Nat.reduceMul]
        repeat (refine gK ?_;conv=>whnf)
        refine ⟨⟨(b.freshA i now,l++[datOf b.next1 b.piece1]),hnok,by dsimp only;rw [hnl];simp;omega,hrel'⟩,[(138000,2001),(138001,2002),(138002,2003),(138003,2004)],by dsimp only;rw [hnl];omega,?_⟩
        dsimp only
        have hln:l.length+1=(l++[datOf b.next1 b.piece1]).length:=by simp
        (repeat' (first|exact ⟨⟩|exact OLe.refl _|exact .refl _|exact .nil|exact rfl|refine ⟨?_,?_⟩|fail))
        ·exact .of_eq (congrArg (AVal.rsl 133 14 0) hln)
        ·exact hln
        ·exact fun k hk=>slT_app encCh l (datOf b.next1 b.piece1) k hk rfl
end Go.Proofs.YtbkcekmahdbgdaaGreat
