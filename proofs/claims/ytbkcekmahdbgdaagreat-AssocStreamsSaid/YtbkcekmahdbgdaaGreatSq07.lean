/- AssocStreams: the engine, contracts and plain laws that its proof leans on, part 07. -/
import Derived.Shelf.Strings.Builder1
import Derived.Shelf.Strings.Builder2
import Derived.Shelf.Strings.BuilderF
import Derived.Shelf.Strings.BuilderK
import Derived.Shelf.Strings.Builder2Cap
import Derived.Shelf.Strconv.Itoa0
import Derived.Shelf.Strings.Prefix
import Derived.Shelf.Bits.Mul64
import Derived.Shelf.Strings.Repeat
import Derived.Shelf.Strings.BuilderCap
import Derived.Test.YtbkcekmahdbgdaaGreatProg
import Derived.Test.YtbkcekmahdbgdaaGreatSq06
import Derived.Shelf.RegionOpenPlain
import Derived.Lib.Repeat
namespace Go.Proofs
open Go.Shelf
def Tryz.lays169_ren:Go.Shelf.Ren:=⟨fun|169=>139|n=>n,fun|70=>242|9=>9|0=>0|72=>244|37=>140|127=>296|3=>3|5=>5|n=>n,fun|n=>n⟩
theorem Tryz.lays169:Go.Proofs.Lays.n169 Tryz.prog Tryz.lays169_ren:={
 mixed:=by kernel_rfl
 f169:=Tryz.func139.trans (congrArg some (by kernel_rfl))
 t0:=Tryz.underlying0
 a0:=Tryz.isAgg0
 z0:=Tryz.sizeOf0
 v0:=Tryz.zeroValue0
 t3:=Tryz.underlying3
 a3:=Tryz.isAgg3
 z3:=Tryz.sizeOf3
 v3:=Tryz.zeroValue3
 t9:=Tryz.underlying9
 a9:=Tryz.isAgg9
 z9:=Tryz.sizeOf9
 v9:=Tryz.zeroValue9
 t37:=Tryz.underlying140
 a37:=Tryz.isAgg140
 z37:=Tryz.sizeOf140
 v37:=Tryz.zeroValue140
 t70:=Tryz.underlying242
 a70:=Tryz.isAgg242
 z70:=Tryz.sizeOf242
 v70:=Tryz.zeroValue242
 t72:=Tryz.underlying244
 a72:=Tryz.isAgg244
 z72:=Tryz.sizeOf244
 v72:=Tryz.zeroValue244
 t127:=Tryz.underlying296
 a127:=Tryz.isAgg296
 z127:=Tryz.sizeOf296
 v127:=Tryz.zeroValue296}
theorem Tryz.Builder_Extra_169:Builder.Extra Tryz.prog Tryz.lays169_ren:={
 sizeBuilder:=by kernel_rfl
 liesBuilder:=by kernel_rfl
 t5:=Tryz.underlying5
 a5:=Tryz.isAgg5
 z5:=Tryz.sizeOf5
 v5:=Tryz.zeroValue5
 infoByte:=by kernel_rfl
 cellsByte:=by kernel_rfl
 sizeByte:=by kernel_rfl
 neB5:=by decide}
def Tryz.lays165_ren:Go.Shelf.Ren:=⟨fun|165=>212|240=>194|241=>222|276=>216|277=>227|n=>n,fun|70=>242|3=>3|0=>0|4=>4|9=>9|20=>20|72=>244|37=>140|164=>316|5=>5|n=>n,fun|n=>n⟩
theorem Tryz.lays165:Go.Proofs.Lays.n165 Tryz.prog Tryz.lays165_ren:={
 mixed:=by kernel_rfl
 f165:=Tryz.func212.trans (congrArg some (by kernel_rfl))
 f240:=Tryz.func194.trans (congrArg some (by kernel_rfl))
 f241:=Tryz.func222.trans (congrArg some (by kernel_rfl))
 f276:=Tryz.func216.trans (congrArg some (by kernel_rfl))
 f277:=Tryz.func227.trans (congrArg some (by kernel_rfl))
 t0:=Tryz.underlying0
 a0:=Tryz.isAgg0
 z0:=Tryz.sizeOf0
 v0:=Tryz.zeroValue0
 t3:=Tryz.underlying3
 a3:=Tryz.isAgg3
 z3:=Tryz.sizeOf3
 v3:=Tryz.zeroValue3
 t4:=Tryz.underlying4
 a4:=Tryz.isAgg4
 z4:=Tryz.sizeOf4
 v4:=Tryz.zeroValue4
 t9:=Tryz.underlying9
 a9:=Tryz.isAgg9
 z9:=Tryz.sizeOf9
 v9:=Tryz.zeroValue9
 t20:=Tryz.underlying20
 a20:=Tryz.isAgg20
 z20:=Tryz.sizeOf20
 v20:=Tryz.zeroValue20
 t37:=Tryz.underlying140
 a37:=Tryz.isAgg140
 z37:=Tryz.sizeOf140
 v37:=Tryz.zeroValue140
 t70:=Tryz.underlying242
 a70:=Tryz.isAgg242
 z70:=Tryz.sizeOf242
 v70:=Tryz.zeroValue242
 t72:=Tryz.underlying244
 a72:=Tryz.isAgg244
 z72:=Tryz.sizeOf244
 v72:=Tryz.zeroValue244
 t164:=Tryz.underlying316
 a164:=Tryz.isAgg316
 z164:=Tryz.sizeOf316
 v164:=Tryz.zeroValue316}
theorem Tryz.Builder_Extra_165:Builder.Extra Tryz.prog Tryz.lays165_ren:={
 sizeBuilder:=by kernel_rfl
 liesBuilder:=by kernel_rfl
 t5:=Tryz.underlying5
 a5:=Tryz.isAgg5
 z5:=Tryz.sizeOf5
 v5:=Tryz.zeroValue5
 infoByte:=by kernel_rfl
 cellsByte:=by kernel_rfl
 sizeByte:=by kernel_rfl
 neB5:=by decide}
def Tryz.lays105_ren:Go.Shelf.Ren:=⟨fun|105=>178|212=>210|99=>211|165=>212|166=>138|170=>179|169=>139|263=>219|264=>220|206=>221|240=>194|241=>222|276=>216|277=>227|n=>n,fun|9=>9|3=>3|4=>4|20=>20|0=>0|46=>139|109=>310|5=>5|72=>244|76=>247|51=>38|146=>320|53=>314|148=>322|70=>242|37=>140|75=>246|127=>296|164=>316|80=>249|n=>n,fun|n=>n⟩
theorem Tryz.lays105:Go.Proofs.Lays.n105 Tryz.prog Tryz.lays105_ren:={
 mixed:=by kernel_rfl
 f99:=Tryz.func211.trans (congrArg some (by kernel_rfl))
 f105:=Tryz.func178.trans (congrArg some (by kernel_rfl))
 f165:=Tryz.func212.trans (congrArg some (by kernel_rfl))
 f166:=Tryz.func138.trans (congrArg some (by kernel_rfl))
 f169:=Tryz.func139.trans (congrArg some (by kernel_rfl))
 f170:=Tryz.func179.trans (congrArg some (by kernel_rfl))
 f206:=Tryz.func221.trans (congrArg some (by kernel_rfl))
 f212:=Tryz.func210.trans (congrArg some (by kernel_rfl))
 f240:=Tryz.func194.trans (congrArg some (by kernel_rfl))
 f241:=Tryz.func222.trans (congrArg some (by kernel_rfl))
 f263:=Tryz.func219.trans (congrArg some (by kernel_rfl))
 f264:=Tryz.func220.trans (congrArg some (by kernel_rfl))
 f276:=Tryz.func216.trans (congrArg some (by kernel_rfl))
 f277:=Tryz.func227.trans (congrArg some (by kernel_rfl))
 t0:=Tryz.underlying0
 a0:=Tryz.isAgg0
 z0:=Tryz.sizeOf0
 v0:=Tryz.zeroValue0
 t3:=Tryz.underlying3
 a3:=Tryz.isAgg3
 z3:=Tryz.sizeOf3
 v3:=Tryz.zeroValue3
 t4:=Tryz.underlying4
 a4:=Tryz.isAgg4
 z4:=Tryz.sizeOf4
 v4:=Tryz.zeroValue4
 t5:=Tryz.underlying5
 a5:=Tryz.isAgg5
 z5:=Tryz.sizeOf5
 v5:=Tryz.zeroValue5
 t9:=Tryz.underlying9
 a9:=Tryz.isAgg9
 z9:=Tryz.sizeOf9
 v9:=Tryz.zeroValue9
 t20:=Tryz.underlying20
 a20:=Tryz.isAgg20
 z20:=Tryz.sizeOf20
 v20:=Tryz.zeroValue20
 t37:=Tryz.underlying140
 a37:=Tryz.isAgg140
 z37:=Tryz.sizeOf140
 v37:=Tryz.zeroValue140
 t46:=Tryz.underlying139
 a46:=Tryz.isAgg139
 z46:=Tryz.sizeOf139
 v46:=Tryz.zeroValue139
 t51:=Tryz.underlying38
 a51:=Tryz.isAgg38
 z51:=Tryz.sizeOf38
 v51:=Tryz.zeroValue38
 t53:=Tryz.underlying314
 a53:=Tryz.isAgg314
 z53:=Tryz.sizeOf314
 v53:=Tryz.zeroValue314
 t70:=Tryz.underlying242
 a70:=Tryz.isAgg242
 z70:=Tryz.sizeOf242
 v70:=Tryz.zeroValue242
 t72:=Tryz.underlying244
 a72:=Tryz.isAgg244
 z72:=Tryz.sizeOf244
 v72:=Tryz.zeroValue244
 t75:=Tryz.underlying246
 a75:=Tryz.isAgg246
 z75:=Tryz.sizeOf246
 v75:=Tryz.zeroValue246
 t76:=Tryz.underlying247
 a76:=Tryz.isAgg247
 z76:=Tryz.sizeOf247
 v76:=Tryz.zeroValue247
 t109:=Tryz.underlying310
 a109:=Tryz.isAgg310
 z109:=Tryz.sizeOf310
 v109:=Tryz.zeroValue310
 t127:=Tryz.underlying296
 a127:=Tryz.isAgg296
 z127:=Tryz.sizeOf296
 v127:=Tryz.zeroValue296
 t146:=Tryz.underlying320
 a146:=Tryz.isAgg320
 z146:=Tryz.sizeOf320
 v146:=Tryz.zeroValue320
 t148:=Tryz.underlying322
 a148:=Tryz.isAgg322
 z148:=Tryz.sizeOf322
 v148:=Tryz.zeroValue322
 t164:=Tryz.underlying316
 a164:=Tryz.isAgg316
 z164:=Tryz.sizeOf316
 v164:=Tryz.zeroValue316}
theorem Tryz.Builder_Extra_105:Builder.Extra Tryz.prog Tryz.lays105_ren:={
 sizeBuilder:=by kernel_rfl
 liesBuilder:=by kernel_rfl
 t5:=Tryz.underlying5
 a5:=Tryz.isAgg5
 z5:=Tryz.sizeOf5
 v5:=Tryz.zeroValue5
 infoByte:=by kernel_rfl
 cellsByte:=by kernel_rfl
 sizeByte:=by kernel_rfl
 neB5:=by decide}
open Go.RowKit Go.Lib in
theorem Tryz.strings_Repeat (s:ByteArray) (c:Nat) (w:World) (hc:c≤9223372036854775807) (hlen:s.size*c≤140737488355328) :
  Calls Tryz.prog 178 #[.string s,.int .i64 c] w fun e w'=>e=.returned (.string ⟨(Lib.repeatL s.data.toList c).toArray⟩)∧Below w.heap.size w w':=Any.strings_Repeat Tryz.lays105 Tryz.Builder_Extra_105 s c w hc hlen
end Go.Proofs
namespace Go.Proofs.YtbkcekmahdbgdaaGreat
open Go Go.RowKit Towline
set_option linter.unusedVariables false
set_option linter.unusedSimpArgs false
set_option maxRecDepth 100000
set_option maxHeartbeats 2000000
abbrev E0:Nat:=1000000000
abbrev E1:Nat:=1000000001
abbrev nilP:AVal:=.d (.v (.pointer none))
abbrev bldH (p:AVal) (n:Nat) (f:Nat→List D):Heap:=[(E0,.box [p,.rsl E1 1 0 n] (some 244)),(E1,.row 5 1 n f)]
theorem lays240:Go.Proofs.Lays.n240 Tryz.prog Tryz.lays165_ren:={ Tryz.lays165 with}
theorem fn_cc : ∃ fn c, Tryz.prog.funcs[194]? = some fn ∧ (fn.name == "runtime.NumGoroutine") = false ∧ fn.body = some c := ⟨_, _, Tryz.func194, by decide, rfl⟩
theorem cc_used (n:Nat) (f:Nat→List D):LSpec Tryz.prog 194 [.ptr E0 0] (bldH (.ptr E0 0) n f) (fun r hl=>r=.tup []∧hl=bldH (.ptr E0 0) n f):=by
 refine LSpec.raw fn_cc rfl fun C L w vs hw0 hnt H hz ha=>?_
 have h0:=ha 0 _ rfl
 have hbox:=H.obj E0 _ (show lko (bldH (.ptr E0 0) n f) E0=some (.box [.ptr E0 0,.rsl E1 1 0 n] (some 244)) from rfl)
 obtain ⟨v0,rfl⟩:∃v,vs = #[v]:=by
  obtain ⟨l⟩:=vs
  match l,hz with
  | [v],_=>exact ⟨v,rfl⟩
 generalize hv0:(#[v0]:Array Value).getD 0 undef=u at h0
 have hv0:v0=u:=hv0
 subst hv0
 cases h0 with
 | @ptr _ _ _ b hb=>
  cases hbox with
  | @box _ _ cs t b' htag hb' hh hz h1 hr=>
   rw [hb] at hb'
   cases hb'
   have hc0:=hr 0 _ rfl
   have hcell:w.cell? ⟨b,0,none⟩=some (.pointer (some ⟨b,0,none⟩)):=by
    rw [cell_of_row w b 0 cs t (0,0) hh]
    have hlt:0<cs.size:=by rw [hz];exact Nat.zero_lt_succ _
    rw [Array.getD_eq_getD_getElem?,Array.getElem?_eq_getElem hlt] at hc0
    rw [Array.getElem?_eq_getElem hlt]
    generalize hq:(some cs[0]).getD undef=q at hc0
    have hq:cs[0]=q:=hq
    cases hc0 with
    |ptr h=>rw [hb] at h;cases h;rw [hq]
   refine (Any.Builder_copyCheck_used lays240 Tryz.Builder_Extra_165.toX72 b w hcell).mono ?_
   rintro e w' ⟨rfl,rfl⟩
   exact ⟨_,_,_,L,rfl,⟨rfl,rfl⟩,H,.tup rfl fun i x hx=>by simp at hx⟩
theorem cc_fresh (n:Nat) (f:Nat→List D):LSpec Tryz.prog 194 [.ptr E0 0] (bldH nilP n f) (fun r hl=>r=.tup []∧hl=bldH (.ptr E0 0) n f):=by
 refine LSpec.raw fn_cc rfl fun C L w vs hw0 hnt H hz ha=>?_
 have h0:=ha 0 _ rfl
 have hbox:=H.obj E0 _ (show lko (bldH nilP n f) E0=some (.box [nilP,.rsl E1 1 0 n] (some 244)) from rfl)
 obtain ⟨v0,rfl⟩:∃v,vs = #[v]:=by
  obtain ⟨l⟩:=vs
  match l,hz with
  | [v],_=>exact ⟨v,rfl⟩
 generalize hv0:(#[v0]:Array Value).getD 0 undef=u at h0
 have hv0:v0=u:=hv0
 subst hv0
 cases h0 with
 | @ptr _ _ _ b hb=>
  have hbox':=hbox
  cases hbox with
  | @box _ _ cs t b' htag hb' hh hz h1 hr=>
   rw [hb] at hb'
   cases hb'
   have ht:=htag _ rfl
   subst ht
   have hsz:cs.size=2:=hz
   have hc0:=hr 0 _ rfl
   have hlt:0<cs.size:=by omega
   have hcs0:cs[0]=.pointer none:=by
    rw [Array.getD_eq_getD_getElem?,Array.getElem?_eq_getElem hlt] at hc0
    exact repA_v hc0
   have hcell:w.cell? ⟨b,0,none⟩=some (.pointer none):=by
    rw [cell_of_row w b 0 cs _ (0,0) hh,Array.getElem?_eq_getElem hlt,hcs0]
   have hblt:b<w.heap.size:=lt_of_heap hh
   refine (Any.Builder_copyCheck_fresh lays240 Tryz.Builder_Extra_165.toX72 b w hcell (by simp [World.shape?,hh,hsz];rfl) (by simp [World.frozen?,hh])).mono ?_
   rintro e w' ⟨rfl,rfl⟩
   have hset:=H.set (o':=.box [.ptr E0 0,.rsl E1 1 0 n] (some 244)) (w':=w.setCell ⟨b,0,none⟩ (.pointer (some ⟨b,0,none⟩))) (show lko (bldH nilP n f) E0=some (.box [nilP,.rsl E1 1 0 n] (some 244)) from rfl) hb rfl rfl rfl (by simp [World.setCell]) (fun b' hne=>by simp [World.setCell,Array.getElem?_modify,Ne.symm hne]) (fun gd' hst hold=>by
    refine .box (cs:=cs.setIfInBounds 0 (.pointer (some ⟨b,0,none⟩))) (fun t' h=>by cases h;rfl) hb (by simp [World.setCell,Array.getElem?_modify,hh]) (by simp [hsz]) (fun i hi=>?_) (fun i x hx=>?_)
    ·have:=h1 i hi
     rw [Array.getD_eq_getD_getElem?,Array.getElem?_setIfInBounds]
     split
     ·rename_i e;subst e;simp [hlt,Value.oneCell']
     ·rw [←Array.getD_eq_getD_getElem?];exact this
    ·match i,hx with
     |0,hx=>
      cases hx
      rw [Array.getD_eq_getD_getElem?,Array.getElem?_setIfInBounds,if_pos rfl,if_pos hlt]
      exact .ptr hb
     |1,hx=>
      cases hx
      have:=hr 1 _ rfl
      rw [Array.getD_eq_getD_getElem?,Array.getElem?_setIfInBounds,if_neg (by decide),←Array.getD_eq_getD_getElem?]
      exact this.nm rfl)
   refine ⟨_,_,_,L,rfl,⟨rfl,rfl⟩,?_,.tup rfl fun i x hx=>by simp at hx⟩
   have e:lko (bldH (.ptr E0 0) n f)=hput (lko (bldH nilP n f)) E0 (.box [.ptr E0 0,.rsl E1 1 0 n] (some 244)):=by
    funext j
    show lookO j _=_
    unfold hput
    by_cases hj:j=E0
    ·subst hj;rfl
    ·rw [if_neg hj]
     rw [show bldH (.ptr E0 0) n f=(E0,.box [.ptr E0 0,.rsl E1 1 0 n] (some 244))::[(E1,.row 5 1 n f)] from rfl,show bldH nilP n f=(E0,.box [nilP,.rsl E1 1 0 n] (some 244))::[(E1,.row 5 1 n f)] from rfl]
     rw [lookO_cons E0,if_neg hj]
     show _=lookO j _
     rw [lookO_cons E0,if_neg hj]
   rw [e]
   exact hset
abbrev bldW (n:Nat) (f:Nat→List D):Heap:=[(E0,.box [.ptr E0 0,.rsl 14 1 0 n] (some 244)),(14,.row 5 1 n f)]
abbrev bvi (n:Int):AVal:=.d (.i .i64 n)
abbrev nilE:AVal:=.d (.v .nilIface)
theorem write_used (n m:Nat) (f g:Nat→List D) (h:n+m≤2 ^ 40):LSpec Tryz.prog 177 [.ptr E0 0,.d (.sl 1 m g)] (bldH (.ptr E0 0) n f) (fun r hl=>r=.tup [bvi m,nilE]∧hl=bldW (n+m) (fcat f n g)):=by
 refine LSpec.run (tysXOk false [] [(194,[])] []) followsB Tryz.func177 (by decide) rfl Tryz.ntmps177 (Nat.le_of_ble_eq_true rfl) rfl rfl fun w0 R0 Lo hGw=>?_
 conv=>whnf
 refine ⟨_,cc_used n f,?_⟩
 rintro q hq ⟨rfl,rfl⟩
 conv=>whnf
 refine ⟨⟨by omega,by omega,by simp only [ty5];omega⟩,?_⟩
 conv=>whnf
 refine ⟨_,_,.refl _,?_,rfl,rfl⟩
 exact ⟨OLe.refl _,OLe.refl _,trivial⟩
theorem write_fresh (n m:Nat) (f g:Nat→List D) (h:n+m≤2 ^ 40):LSpec Tryz.prog 177 [.ptr E0 0,.d (.sl 1 m g)] (bldH nilP n f) (fun r hl=>r=.tup [bvi m,nilE]∧hl=bldW (n+m) (fcat f n g)):=by
 refine LSpec.run (tysXOk false [] [(194,[])] []) followsB Tryz.func177 (by decide) rfl Tryz.ntmps177 (Nat.le_of_ble_eq_true rfl) rfl rfl fun w0 R0 Lo hGw=>?_
 conv=>whnf
 refine ⟨_,cc_fresh n f,?_⟩
 rintro q hq ⟨rfl,rfl⟩
 conv=>whnf
 refine ⟨⟨by omega,by omega,by simp only [ty5];omega⟩,?_⟩
 conv=>whnf
 refine ⟨_,_,.refl _,?_,rfl,rfl⟩
 exact ⟨OLe.refl _,OLe.refl _,trivial⟩
theorem writeS_used (n:Nat) (f:Nat→List D) (l:List UInt8) (h:n+l.length≤2 ^ 40):LSpec Tryz.prog 138 [.ptr E0 0,.d (.s l)] (bldH (.ptr E0 0) n f) (fun r hl=>r=.tup [bvi l.length,nilE]∧hl=bldW (n+l.length) (fcat f n (bytesF l))):=by
 refine LSpec.run (tysXOk false [] [(194,[])] []) followsB Tryz.func138 (by decide) rfl Tryz.ntmps138 (Nat.le_of_ble_eq_true rfl) rfl rfl fun w0 R0 Lo hGw=>?_
 conv=>whnf
 refine ⟨_,cc_used n f,?_⟩
 rintro q hq ⟨rfl,rfl⟩
 conv=>whnf
 refine ⟨⟨by omega,by omega,by simp only [ty5];omega⟩,?_⟩
 conv=>whnf
 refine ⟨_,_,.refl _,?_,rfl,rfl⟩
 exact ⟨OLe.refl _,OLe.refl _,trivial⟩
theorem writeS_fresh (n:Nat) (f:Nat→List D) (l:List UInt8) (h:n+l.length≤2 ^ 40):LSpec Tryz.prog 138 [.ptr E0 0,.d (.s l)] (bldH nilP n f) (fun r hl=>r=.tup [bvi l.length,nilE]∧hl=bldW (n+l.length) (fcat f n (bytesF l))):=by
 refine LSpec.run (tysXOk false [] [(194,[])] []) followsB Tryz.func138 (by decide) rfl Tryz.ntmps138 (Nat.le_of_ble_eq_true rfl) rfl rfl fun w0 R0 Lo hGw=>?_
 conv=>whnf
 refine ⟨_,cc_fresh n f,?_⟩
 rintro q hq ⟨rfl,rfl⟩
 conv=>whnf
 refine ⟨⟨by omega,by omega,by simp only [ty5];omega⟩,?_⟩
 conv=>whnf
 refine ⟨_,_,.refl _,?_,rfl,rfl⟩
 exact ⟨OLe.refl _,OLe.refl _,trivial⟩
theorem len_spec (p:AVal) (n:Nat) (f:Nat→List D) (hp:p=.ptr E0 0∨p=nilP):LSpec Tryz.prog 179 [.ptr E0 0] (bldH p n f) (fun r hl=>r=bvi n∧hl=bldH p n f):=by
 rcases hp with rfl|rfl
 all_goals
  refine LSpec.run (tysOk) followsB Tryz.func179 (by decide) rfl Tryz.ntmps179 (Nat.le_of_ble_eq_true rfl) rfl rfl fun w0 R0 Lo hGw=>?_
  conv=>whnf
  refine ⟨_,_,.refl _,?_,rfl,rfl⟩
  exact ⟨OLe.refl _,OLe.refl _,trivial⟩
end Go.Proofs.YtbkcekmahdbgdaaGreat
namespace Go.Proofs
open Go.Shelf Go.RowKit
theorem Tryz.bldString {P:Program} {ρ:Ren} (L:Lays.n169 P ρ) (X:Builder.Extra P ρ) (b g cap:Nat) (cur:Array Value) (p:Value) (l:List UInt8) (w:World) (h0:l≠[]) (hbk:w.heap[b]? = some (.cells #[p,.slice (some ⟨g,0,none⟩) l.length cap] (ρ.t 72) (0,0))) (hg:w.heap[g]? = some (.cells cur (ρ.t 5) (0,0)))
  (hnc:l.length≤cap) (hcm:cap≤maxLen) (hcs:cur.size=cap) (hcells:∀j x,l[j]? = some x→w.cell? ⟨g,j,none⟩=some (.int .u8 x.toNat)) :
  Calls P (ρ.f 169) #[.pointer (some ⟨b,0,none⟩)] w fun e w'=>e=.returned (.string ⟨l.toArray⟩)∧w'=w.drew.freeze ⟨g,0,none⟩ l.length:=by
 have hl0:l.length≠0:=by simpa using h0
 have c1:w.drew.cell? ⟨b,1,none⟩=some (.slice (some ⟨g,0,none⟩) l.length cap):=by
  have:w.drew.heap[b]? = some (.cells #[p,.slice (some ⟨g,0,none⟩) l.length cap] (ρ.t 72) (0,0)):=hbk
  rw [Lib.cell_of_heap this];rfl
 have hSD:(Builtin.unsafeSliceData_ #[(ρ.t 37)] (ρ.t 127) #[.slice (some ⟨g,0,none⟩) l.length cap]).run P w.drew=.ok (.pointer (some ⟨g,0,none⟩)) w.drew:=
  Lib.run_unsafeSliceData_row _ _ _ _ _ _ (by omega)
 have hUS:(Builtin.unsafeString_ #[(ρ.t 127),(ρ.t 3)] (ρ.t 9) #[.pointer (some ⟨g,0,none⟩),.int .i64 l.length]).run P w.drew=.ok (.string ⟨l.toArray⟩) (w.drew.freeze ⟨g,0,none⟩ l.length):=by
  refine Lib.run_unsafeString_row w.drew (ρ.t 127) (ρ.t 3) (ρ.t 9) (ρ.t 5) L.t127 X.cellsByte g cur.size (by have hg':w.drew.heap[g]? = some (.cells cur (ρ.t 5) (0,0)):=hg;simp [World.shape?,hg']) l h0 (by omega) (by unfold maxLen at hcm;omega) ?_
  intro j x hx
  have e:(⟨g,0,none⟩:Addr).add j=⟨g,j,none⟩:=by unfold Addr.add;split<;>simp_all
  rw [e]
  exact hcells j x hx
 have mixed:=L.mixed
 have t72:=L.t72;have a72:=L.a72;have z72:=L.z72;have v72:=L.v72;have u72:=run_underlying L.t72
 have t70:=L.t70;have a70:=L.a70;have z70:=L.z70;have v70:=L.v70;have u70:=run_underlying L.t70
 have t37:=L.t37;have a37:=L.a37;have z37:=L.z37;have v37:=L.v37;have u37:=run_underlying L.t37
 have t127:=L.t127;have a127:=L.a127;have z127:=L.z127;have v127:=L.v127;have u127:=run_underlying L.t127
 have t3:=L.t3;have a3:=L.a3;have z3:=L.z3;have v3:=L.v3;have u3:=run_underlying L.t3
 have t9:=L.t9;have a9:=L.a9;have z9:=L.z9;have v9:=L.v9;have u9:=run_underlying L.t9
 have t5:=X.t5;have a5:=X.a5;have z5:=X.z5;have v5:=X.v5;have u5:=run_underlying X.t5
 clear hcells
 go_enter L.f169,Body.n169_ntmps ρ
 go_wp2
 go_region_o
 all_goals (go_wp2;go_ret;exact ⟨rfl,rfl⟩)
end Go.Proofs
namespace Go.Proofs.YtbkcekmahdbgdaaGreat
open Go Go.RowKit Towline
set_option linter.unusedVariables false
set_option linter.unusedSimpArgs false
theorem fn_str : ∃ fn c, Tryz.prog.funcs[139]? = some fn ∧ (fn.name == "runtime.NumGoroutine") = false ∧ fn.body = some c := ⟨_, _, Tryz.func139, by decide, rfl⟩
theorem str_spec (p:AVal) (n:Nat) (f:Nat→List D) (l:List UInt8) (hl:l.length=n) (hf:∀k,k<n→f k=bytesF l k):LSpec Tryz.prog 139 [.ptr E0 0] (bldH p n f) (fun r hl=>r=.d (.s l)∧hl=[]):=by
 refine LSpec.raw fn_str rfl fun C L w vs hw0 hnt H hz ha=>?_
 have h0:=ha 0 _ rfl
 have hE0:lko (bldH p n f) E0=some (.box [p,.rsl E1 1 0 n] (some 244)):=rfl
 have hE1:lko (bldH p n f) E1=some (.row 5 1 n f):=rfl
 have hbox:=H.obj E0 _ hE0
 have hrow:=H.obj E1 _ hE1
 obtain ⟨v0,rfl⟩:∃v,vs = #[v]:=by
  obtain ⟨l⟩:=vs
  match l,hz with
  | [v],_=>exact ⟨v,rfl⟩
 generalize hv0:(#[v0]:Array Value).getD 0 undef=u at h0
 have hv0:v0=u:=hv0
 subst hv0
 have hempty:lko []=fun j=>(none:Option AObj):=by funext j;rfl
 cases h0 with
 | @ptr _ _ _ b hb=>
  cases hbox with
  | @box _ _ cs t b' htag hb' hh hz h1 hr=>
   rw [hb] at hb'
   cases hb'
   have ht:=htag _ rfl
   subst ht
   have hsz:cs.size=2:=hz
   obtain ⟨c0,c1,rfl⟩:∃c0 c1,cs = #[c0,c1]:=by
    obtain ⟨l⟩:=cs
    match l,hsz with
    | [x,y],_=>exact ⟨x,y,rfl⟩
   have hsl:=hr 1 _ rfl
   generalize hc1:(#[c0,c1]:Array Value).getD 1 undef=s at hsl
   have hc1:c1=s:=hc1
   subst hc1
   cases hsl with
   | @rsl _ _ _ _ _ ad hcap hbb had=>
    have had:=had (.inl rfl)
    have empty:∀w',Below w.heap.size w w'→Rel C L (fun _=>.any) (lko []) ⟨#[],[]⟩ w':=fun w' hbel=>
     (H.world hbel fun b hb=>hbel.block b hb).drop fun i o e=>by cases e
    cases hrow with
    |row0 hb1 hcap0=>
     have:l=[]:=List.eq_nil_of_length_eq_zero hl
     subst this
     rw [hb1] at had
     have had:ad=none:=had
     subst had
     rw [hcap0] at hh
     refine (Any.Builder_String_nil Tryz.lays169 Tryz.Builder_Extra_169 w.heap.size b c0 w hh).mono ?_
     rintro e w' ⟨rfl,hbel⟩
     exact ⟨_,_,_,L,rfl,⟨rfl,rfl⟩,empty w' hbel,.d (.s [])⟩
    | @row _ _ _ _ cur g t9 mk9 hb1 hh1 hn1 hm1 hz1 hf1 hr1 hty9 hmk9=>
     obtain rfl:=hty9 (by decide)
     obtain rfl:mk9=(0,0):=hmk9.resolve_right fun h=>absurd h.1 (by decide)
     rw [hb1] at had
     simp only [Option.map_some,Nat.zero_mul] at had
     subst had
     rcases Nat.eq_zero_or_pos n with h0|h0
     ·have:l=[]:=List.eq_nil_of_length_eq_zero (by omega)
      subst this
      subst h0
      by_cases hcz:L.cap E1=0
      ·rw [hcz] at hh
       refine (Any.Builder_String_noroom Tryz.lays169 Tryz.Builder_Extra_169 w.heap.size b g c0 cur w (Nat.le_refl _) hh hh1).mono ?_
       rintro e w' ⟨rfl,hbel⟩
       exact ⟨_,_,_,L,rfl,⟨rfl,rfl⟩,empty w' hbel,.d (.s [])⟩
      ·refine (Any.Builder_String_room Tryz.lays169 Tryz.Builder_Extra_169 w.heap.size b g (L.cap E1-0) c0 w (by simpa using hcz) hh).mono ?_
       rintro e w' ⟨rfl,hbel⟩
       exact ⟨_,_,_,L,rfl,⟨rfl,rfl⟩,empty w' hbel,.d (.s [])⟩
     ·subst hl
      have hne:l≠[]:=by intro e;subst e;simp at h0
      refine (Go.Proofs.Tryz.bldString Tryz.lays169 Tryz.Builder_Extra_169 b g (L.cap E1) cur c0 l w hne (show w.heap[b]? = some (.cells #[c0,.slice (some ⟨g,0,none⟩) l.length (L.cap E1)] 244 (0,0)) by simpa using hh) hh1 hn1 hm1 (by simpa using hz1) (fun j x hx=>?_)).mono ?_
      ·have hj:j<l.length:=(List.getElem?_eq_some_iff.1 hx).1
       have h3:=hr1 j hj 0 (.i .u8 ((l.getD j 0).toNat:Nat)) (by rw [hf j hj];rfl)
       have h4:cur.getD (j*1+0) undef=.int .u8 ((l.getD j 0).toNat:Nat):=repA_i (L:=L) (RepA.d h3)
       rw [cell_of_row w g j cur _ (0,0) hh1]
       have hlt:j<cur.size:=by rw [hz1];omega
       rw [Array.getD_eq_getD_getElem?] at h4
       simp only [Nat.mul_one,Nat.add_zero,Array.getElem?_eq_getElem hlt,Option.getD_some] at h4
       rw [Array.getElem?_eq_getElem hlt,h4]
       rw [List.getD_eq_getElem?_getD,hx]
       rfl
      ·rintro e w' ⟨rfl,rfl⟩
       have hgone:=H.gone (w':=w.drew.freeze ⟨g,0,none⟩ l.length) hE1 (by unfold World.freeze;split<;>rfl) (by unfold World.freeze;split<;>rfl) (by unfold World.freeze;split<;>rfl) (by unfold World.freeze;split<;>simp) (fun b' hb' hne'=>by
        have hne2:g≠b':=fun e=>hne' (by rw [hb1,e])
        unfold World.freeze
        split
        ·rfl
        ·simp [Array.getElem?_modify,hne2]
         rfl)
       exact ⟨_,_,_,L,rfl,⟨rfl,rfl⟩,hgone.drop (fun i o e=>by cases e),.d (.s l)⟩
end Go.Proofs.YtbkcekmahdbgdaaGreat
namespace Towline.Tlv
open Go
set_option linter.unusedVariables false
set_option linter.unusedSimpArgs false
structure It where
 ty:Int
 v:List UInt8
 deriving DecidableEq,Inhabited
def u8 (n:Int):UInt8:=UInt8.ofNat (n % 256).toNat
theorem u8_wrap (n:Int):((u8 n).toNat:Int)=IntKind.u8.wrap n:=by
 have h1:(n % 256).toNat<256:=by omega
 have h2:(u8 n).toNat=(n % 256).toNat:=by
  unfold u8
  rw [UInt8.toNat_ofNat']
  exact Nat.mod_eq_of_lt h1
 rw [h2]
 have h3:IntKind.u8.wrap n=n % 256:=by simp [IntKind.wrap,IntKind.signed,IntKind.bits]
 rw [h3]
 omega
def padN (n:Nat):Nat:=(4-n % 4) % 4
theorem and3 (n:Nat) (h:n≤2 ^ 62):bitsOp .and .i64 (0-n) 3=padN n:=by
 unfold bitsOp
 simp only
 have h1:(BitVec.ofInt IntKind.i64.bits (0-(n:Int)) &&& BitVec.ofInt IntKind.i64.bits 3).toNat=padN n:=by
  rw [BitVec.toNat_and]
  have e3:(BitVec.ofInt IntKind.i64.bits 3).toNat=2 ^ 2-1:=by decide
  rw [e3,Nat.and_two_pow_sub_one_eq_mod]
  rw [BitVec.toNat_ofInt]
  have e4:((2 ^ IntKind.i64.bits:Nat):Int)=18446744073709551616:=by decide
  rw [e4]
  unfold padN
  omega
 rw [h1]
 have:padN n<4:=Nat.mod_lt _ (by decide)
 exact IntWalk.i64_in _ (by omega)
def badTy (x:It):Bool:=decide (x.ty<0) ||decide (65535<x.ty)
def hdr (x:It):List UInt8:=[u8 (x.ty.fdiv 256),u8 x.ty,u8 (((x.v.length+4:Nat):Int).fdiv 256),u8 ((x.v.length+4:Nat):Int)]
def tailB (x:It):List UInt8:=x.v++List.replicate (padN (x.v.length+4)) 0
def enc (x:It):List UInt8:=hdr x++tailB x
def bytes (l:List It):List UInt8:=l.flatMap enc
def longV (x:It):Bool:=decide (1400<x.v.length)
def buildL (l:List It):List UInt8×Int:=if l.any badTy=true then ([],1) else if l.any longV=true then ([],4) else if 4000<(bytes l).length then ([],4) else (bytes l,0)
theorem enc_len (x:It) (h:longV x=false):(enc x).length≤1407:=by
 have h:¬1400<x.v.length:=by simpa [longV] using h
 have:padN (x.v.length+4)<4:=Nat.mod_lt _ (by decide)
 simp only [enc,hdr,tailB,List.length_append,List.length_cons,List.length_nil,List.length_replicate]
 omega
theorem bytes_take (l:List It) (k:Nat) (hk:k<l.length):bytes (l.take (k+1))=bytes (l.take k)++enc (l.getD k default):=by
 unfold bytes
 rw [List.take_add_one,List.flatMap_append,List.getD_eq_getElem?_getD,List.getElem?_eq_getElem hk]
 simp
theorem bytes_len (l:List It):∀k,k≤l.length→(∀j,j<k→longV (l.getD j default)=false)→(bytes (l.take k)).length≤1407*k
 |0,_,_=>by simp [bytes]
 |k+1,hk,h=>by
  rw [bytes_take l k (by omega),List.length_append]
  have:=bytes_len l k (by omega) (fun j hj=>h j (by omega))
  have:=enc_len _ (h k (by omega))
  omega
theorem fcat_bytes (s t:List UInt8) (k:Nat) (hk:k<s.length+t.length):fcat (bytesF s) s.length (bytesF t) k=bytesF (s++t) k:=by
 unfold fcat bytesF
 split
 ·rename_i h
  rw [List.getD_eq_getElem?_getD,List.getD_eq_getElem?_getD,List.getElem?_append_left h]
 ·rename_i h
  rw [List.getD_eq_getElem?_getD,List.getD_eq_getElem?_getD,List.getElem?_append_right (by omega)]
theorem fcat_congr {f f' g g':Nat→List D} {n m:Nat} (h1:∀k,k<n→f k=f' k) (h2:∀k,k<m→g k=g' k) (k:Nat) (hk:k<n+m):fcat f n g k=fcat f' n g' k:=by
 unfold fcat
 split
 ·exact h1 k (by omega)
 ·exact h2 _ (by omega)
theorem any_false {α:Type} [Inhabited α] {p:α→Bool} {l:List α} (h:∀j,j<l.length→p (l.getD j default)=false):l.any p=false:=by
 rw [List.any_eq_false]
 intro x hx
 obtain ⟨j,hj,rfl⟩:=List.mem_iff_getElem.1 hx
 have:=h j hj
 rw [List.getD_eq_getElem?_getD,List.getElem?_eq_getElem hj] at this
 simpa using this
theorem any_true {α:Type} [Inhabited α] {p:α→Bool} {l:List α} {j:Nat} (hj:j<l.length) (h:p (l.getD j default)=true):l.any p=true:=by
 rw [List.any_eq_true]
 refine ⟨l[j],List.getElem_mem hj,?_⟩
 rw [List.getD_eq_getElem?_getD,List.getElem?_eq_getElem hj] at h
 exact h
theorem findIdx_is {α:Type} [Inhabited α] {p:α→Bool} {l:List α} {k:Nat} (hk:k<l.length) (h1:p (l.getD k default)=true) (h2:∀j,j<k→p (l.getD j default)=false):l.findIdx p=k:=by
 rw [List.findIdx_eq hk]
 refine ⟨by simpa [List.getD_eq_getElem?_getD,hk] using h1,fun j hj=>?_⟩
 have:=h2 j hj
 simpa [List.getD_eq_getElem?_getD,show j<l.length from by omega] using this
theorem findIdx_no {α:Type} [Inhabited α] {p:α→Bool} {l:List α} (h2:∀j,j<l.length→p (l.getD j default)=false):¬l.findIdx p<l.length:=by
 intro h
 have:=List.findIdx_getElem (w:=h)
 have h3:=h2 _ h
 rw [List.getD_eq_getElem?_getD,List.getElem?_eq_getElem h] at h3
 rw [show (some (l[List.findIdx p l])).getD default=l[List.findIdx p l] from rfl,this] at h3
 cases h3
end Towline.Tlv
namespace Go.Proofs.YtbkcekmahdbgdaaGreat
open Go Go.RowKit Towline Towline.Tlv
set_option linter.unusedVariables false
set_option linter.unusedSimpArgs false
set_option maxRecDepth 20000
set_option maxHeartbeats 4000000
abbrev tvi (n:Int):AVal:=.d (.i .i64 n)
abbrev tvb (x:Bool):AVal:=.d (.b x)
abbrev tvs (l:List UInt8):AVal:=.d (.s l)
def encI (x:Tlv.It):List D:=[.i .i64 x.ty,.s x.v]
abbrev iA (x:Tlv.It):AVal:=.agg [tvi x.ty,tvs x.v]
theorem pad_spec (n:Nat) (h:n≤2 ^ 62):PSpec Tryz.prog 126 [tvi n] (· = tvi (padN n)):=by
 refine PSpec.run (tysOk) followsB Tryz.func126 (by decide) rfl Tryz.ntmps126 (Nat.le_of_ble_eq_true rfl) rfl fun w0 R0 hGw=>?_
 conv=>whnf
 refine gO ?_
 conv=>whnf
 have e:max (n:Int) 0=n:=by omega
 rw [e,and3 n h]
 exact ⟨_,.refl _,rfl,rfl⟩
theorem bad_spec (x:Tlv.It):PSpec Tryz.prog 176 [iA x] (· = tvb (badTy x)):=by
 refine PSpec.run (tysOk) followsB Tryz.func176 (by decide) rfl Tryz.ntmps176 (Nat.le_of_ble_eq_true rfl) rfl fun w0 R0 hGw=>?_
 conv=>whnf
 split<;>rename_i g
 ·conv=>whnf
  have:badTy x=true:=by simpa [badTy] using Or.inl (of_decide_eq_true g)
  rw [this]
  exact ⟨_,.refl _,rfl,rfl⟩
 ·conv=>whnf
  have:badTy x=decide (65535<x.ty):=by
   unfold badTy
   rw [g]
   simp
  rw [this]
  exact ⟨_,.refl _,rfl,rfl⟩
theorem index0_spec (g:Nat) (keep:Tlv.It→Bool) (l:List Tlv.It) (h4:l.length≤2 ^ 40) (hk:∀m,PSpec Tryz.prog g [iA m] (· = tvb (keep m))) :
  PSpec Tryz.prog 209 [.d (slT 2 encI l),.fn g []] (· = tvi (if l.findIdx keep<l.length then l.findIdx keep else -1)):=by
 refine PSpec.run (tysOk) followsB Tryz.func209 (by decide) rfl Tryz.ntmps209 (Nat.le_of_ble_eq_true rfl) rfl fun w0 R0 hGw=>?_
 conv=>whnf
 refine ALoop.introR tysOk followsB (fun k:{k // k≤l.length∧∀j,j<k→keep (l.getD j default)=false}=>([(0,.d (slT 2 encI l)),(1,.fn g []),(7,tvi l.length),(8,tvi k.1)],[])) (fun k=>l.length-k.1) ⟨0,by omega,fun j hj=>by omega⟩ ?_ ?_
 ·exact ⟨.refl _,.refl _,.refl _,.refl _,trivial⟩
 ·rintro ⟨k,hk1,hk2⟩
  dsimp only
  conv=>whnf
  split<;>rename_i h1
  ·have hlt:k<l.length:=by simpa using h1
   conv=>whnf
   refine gO ?_
   conv=>whnf
   refine ⟨_,hk (l.getD k default),?_⟩
   rintro q rfl
   conv=>whnf
   split<;>rename_i h2
   ·have h2:keep (l.getD k default)=true:=h2
    conv=>whnf
    rw [findIdx_is hlt h2 hk2,if_pos hlt]
    exact ⟨_,.refl _,rfl,rfl⟩
   ·have h2:keep (l.getD k default)=false:=h2
    conv=>whnf
    refine gO ?_
    conv=>whnf
    refine ⟨⟨k+1,by omega,fun j hj=>?_⟩,[],by dsimp only;omega,.refl _,.refl _,.refl _,.refl _,trivial⟩
    rcases Nat.lt_or_eq_of_le (show j≤k from by omega) with h|rfl
    ·exact hk2 j h
    ·exact h2
  ·have hlt:¬k<l.length:=by simpa using h1
   obtain rfl:k=l.length:=by omega
   conv=>whnf
   rw [if_neg (findIdx_no hk2)]
   exact ⟨_,.refl _,rfl,rfl⟩
theorem contains_spec (g:Nat) (keep:Tlv.It→Bool) (l:List Tlv.It) (h4:l.length≤2 ^ 40) (hk:∀m,PSpec Tryz.prog g [iA m] (· = tvb (keep m))) :
  PSpec Tryz.prog 175 [.d (slT 2 encI l),.fn g []] (· = tvb (l.any keep)):=by
 refine PSpec.run (tysOk) followsB Tryz.func175 (by decide) rfl Tryz.ntmps175 (Nat.le_of_ble_eq_true rfl) rfl fun w0 R0 hGw=>?_
 conv=>whnf
 refine ⟨_,index0_spec g keep l h4 hk,?_⟩
 rintro q rfl
 conv=>whnf
 have e:decide ((0:Int)≤if List.findIdx keep l<l.length then (List.findIdx keep l:Int) else -1)=l.any keep:=by
  by_cases h:List.findIdx keep l<l.length
  ·rw [if_pos h]
   have h1:l.any keep=true:=by
    rw [List.any_eq_true]
    exact ⟨l[l.findIdx keep],List.getElem_mem h,List.findIdx_getElem (w:=h)⟩
   rw [h1]
   simp
  ·rw [if_neg h]
   have h1:l.any keep=false:=by
    rw [List.any_eq_false]
    intro x hx
    have:=List.findIdx_lt_length_of_exists (xs:=l) (p:=keep)
    intro hkx
    exact h (this ⟨x,hx,hkx⟩)
   rw [h1]
   decide
 rw [e]
 exact ⟨_,.refl _,rfl,rfl⟩
theorem repeat_spec (k:Nat) (h:k≤3):PSpec Tryz.prog 178 [tvs [0],tvi k] (· = tvs (List.replicate k 0)):=by
 refine ⟨⟨_,_,Tryz.func178,by decide,rfl⟩,fun w R vs hG hR hz ha=>?_⟩
 have h0:=repA_s (ha 0 _ rfl)
 have h1:=repA_i (ha 1 _ rfl)
 obtain ⟨v0,v1,rfl⟩:∃v0 v1,vs = #[v0,v1]:=by
  obtain ⟨l⟩:=vs
  match l,hz with
  | [x,y],_=>exact ⟨x,y,rfl⟩
 have h0:v0=.string ⟨[0].toArray⟩:=h0
 have h1:v1=.int .i64 k:=h1
 subst h0;subst h1
 refine (Tryz.strings_Repeat ⟨[0].toArray⟩ k w (by omega) (by show 1*k≤_;omega)).mono ?_
 rintro e w' ⟨rfl,hb⟩
 refine ⟨_,tvs (List.replicate k 0),rfl,rfl,hb,rfl,?_⟩
 have e:Lib.repeatL [0] k=List.replicate k (0:UInt8):=by
  match k,h with
  |0,_=>rfl
  |1,_=>rfl
  |2,_=>rfl
  |3,_=>rfl
 show RepA w' _ _ (tvs (List.replicate k 0)) (.string ⟨(Lib.repeatL [0] k).toArray⟩)
 rw [e]
 exact .d (.s _)
abbrev bldT:Tys:=tysX false [] [(177,[false,true]),(138,[]),(179,[]),(139,[])] [244]
abbrev bldTOk:TysOk Tryz.prog bldT:=tysXOk _ _ _ _
abbrev pOf:Nat→AVal
 |0=>nilP
 |_+1=>.ptr 4 0
abbrev S6 (l:List Tlv.It) (k:Nat):Env×Heap:=([(2,tvs []),(3,tvi 0),(4,.ptr 4 0),(10,.d (slT 2 encI l)),(11,tvi l.length),(12,tvi k)],[(4,.box [pOf k,.rsl 1000 1 0 (Tlv.bytes (l.take k)).length] (some 244)),(1000,.row 5 1 (Tlv.bytes (l.take k)).length (bytesF (Tlv.bytes (l.take k))))])
theorem step_len (l:List Tlv.It) (k:Nat) (h:k<l.length):(Tlv.bytes (l.take k)).length+4+((l.getD k default).v++List.replicate (padN ((l.getD k default).v.length+4)) 0).length=(Tlv.bytes (l.take (k+1))).length:=by
 rw [bytes_take l k h,List.length_append]
 simp only [Tlv.enc,hdr,tailB,List.length_append,List.length_cons,List.length_nil]
 omega
theorem step_row (l:List Tlv.It) (k:Nat) (h:k<l.length) (G:Nat→List D) (hG:∀j,j<4→G j=bytesF (hdr (l.getD k default)) j):∀j,j<(Tlv.bytes (l.take k)).length+4+((l.getD k default).v++List.replicate (padN ((l.getD k default).v.length+4)) 0).length→
  fcat (fcat (bytesF (Tlv.bytes (l.take k))) (Tlv.bytes (l.take k)).length G) ((Tlv.bytes (l.take k)).length+4) (bytesF ((l.getD k default).v++List.replicate (padN ((l.getD k default).v.length+4)) 0)) j=bytesF (Tlv.bytes (l.take (k+1))) j:=by
 intro j hj
 have h1:∀j,j<(Tlv.bytes (l.take k)).length+4→fcat (bytesF (Tlv.bytes (l.take k))) (Tlv.bytes (l.take k)).length G j=bytesF (Tlv.bytes (l.take k)++hdr (l.getD k default)) j:=fun j hj=>
  (fcat_congr (fun _ _=>rfl) hG j hj).trans (fcat_bytes _ _ j hj)
 rw [fcat_congr h1 (fun _ _=>rfl) j hj]
 have hlen:(Tlv.bytes (l.take k)).length+4=(Tlv.bytes (l.take k)++hdr (l.getD k default)).length:=by
  rw [List.length_append];rfl
 rw [hlen] at hj ⊢
 rw [fcat_bytes _ _ j hj,bytes_take l k h,List.append_assoc]
 rfl
theorem hdr_row (x:Tlv.It):∀j,j<4→([D.i .u8 (IntKind.u8.wrap (shrOp .i64 x.ty 8))]::[D.i .u8 (IntKind.u8.wrap x.ty)]::[D.i .u8 (IntKind.u8.wrap (shrOp .i64 (x.v.length+4) 8))]::[D.i .u8 (IntKind.u8.wrap (x.v.length+4))]::replF 0 ty5.zero).getD j []=bytesF (hdr x) j:=by
 intro j hj
 match j,hj with
 |0,_=>show [D.i .u8 (IntKind.u8.wrap (x.ty.fdiv 256))]=[D.i .u8 ((u8 (x.ty.fdiv 256)).toNat:Nat)];rw [u8_wrap]
 |1,_=>show [D.i .u8 (IntKind.u8.wrap x.ty)]=[D.i .u8 ((u8 x.ty).toNat:Nat)];rw [u8_wrap]
 |2,_=>show [D.i .u8 (IntKind.u8.wrap ((x.v.length+4:Int).fdiv 256))]=[D.i .u8 ((u8 (((x.v.length+4:Nat):Int).fdiv 256)).toNat:Nat)];rw [u8_wrap];rfl
 |3,_=>show [D.i .u8 (IntKind.u8.wrap (x.v.length+4:Int))]=[D.i .u8 ((u8 ((x.v.length+4:Nat):Int)).toNat:Nat)];rw [u8_wrap];rfl
theorem build_spec (l:List Tlv.It) (h4:l.length≤2 ^ 20):PSpec Tryz.prog 121 [.d (slT 2 encI l)] (· = .tup [tvs (buildL l).1,tvi (buildL l).2]):=by
 refine PSpec.run (bldTOk) followsB Tryz.func121 (by decide) rfl Tryz.ntmps121 (Nat.le_of_ble_eq_true rfl) rfl fun w0 R0 hGw=>?_
 conv=>whnf
 refine ⟨_,contains_spec _ badTy l (by omega) bad_spec,?_⟩
 rintro q rfl
 conv=>whnf
 split<;>rename_i h0
 ·have h0:l.any badTy=true:=h0
  conv=>whnf
  rw [show buildL l=([],1) from by unfold buildL;rw [if_pos h0]]
  exact ⟨_,.refl _,rfl,rfl⟩
 have h0:l.any badTy=false:=h0
 conv=>whnf
 refine ALoop.adoptCell 4 1 1000 1 5 (bytesF []) rfl rfl rfl rfl rfl ?_
 refine ALoop.introR bldTOk followsB (fun k:{k // k≤l.length∧∀j,j<k→longV (l.getD j default)=false}=>S6 l k.1) (fun k=>l.length-k.1) ⟨0,by omega,fun j hj=>by omega⟩ ?_ ?_
 ·refine ⟨.refl _,.refl _,.refl _,.refl _,.refl _,.refl _,?_⟩
  exact ⟨⟨⟨.refl _,.refl _,trivial⟩,rfl⟩,⟨rfl,rfl,rfl,fun k hk=>by simp at hk⟩,trivial⟩
 ·rintro ⟨k,hk1,hk2⟩
  dsimp only
  rcases k with _|k
  ·
   conv=>whnf
   split<;>rename_i h1
   ·have hlt:0<l.length:=Int.ofNat_lt.1 (of_decide_eq_true h1)
    conv=>whnf
    refine gO ?_
    conv=>whnf
    split<;>rename_i h2
    ·have h2:longV (l.getD 0 default)=true:=decide_eq_true (Int.ofNat_lt.1 (of_decide_eq_true h2))
     conv=>whnf
     rw [show buildL l=([],4) from by unfold buildL;rw [if_neg (by simp [h0]),if_pos (any_true hlt h2)]]
     exact ⟨_,.refl _,rfl,rfl⟩
    ·have h2:longV (l.getD 0 default)=false:=decide_eq_false (fun h=>of_decide_eq_false h2 (Int.ofNat_lt.2 h))
     have hb:=bytes_len l 0 (by omega) hk2
     have hv:(l.getD 0 default).v.length≤1400:=by
      have h:¬1400<(l.getD 0 default).v.length:=of_decide_eq_false h2
      omega
     have hpad:padN ((l.getD 0 default).v.length+4)<4:=Nat.mod_lt _ (by decide)
     have hp:=pad_spec ((l.getD 0 default).v.length+4) (by omega)
     push_cast at hp
     conv=>whnf
     refine gO ?_
     conv=>whnf
     refine gO ?_
     conv=>whnf
     refine gO ?_
     conv=>whnf
     refine gO ?_
     conv=>whnf
     refine ⟨_,write_fresh (Tlv.bytes (l.take 0)).length 4 _ _ (by omega),?_⟩
     rintro q hq ⟨rfl,rfl⟩
     conv=>whnf
     refine ⟨_,hp,?_⟩
     conv=>whnf
     refine ⟨_,repeat_spec _ (by omega),?_⟩
     conv=>whnf
     refine ⟨by simp only [List.length_replicate,tnC];omega,?_⟩
     conv=>whnf
     refine ⟨_,_,writeS_used ((Tlv.bytes (l.take 0)).length+4) _ ((l.getD 0 default).v++List.replicate (padN ((l.getD 0 default).v.length+4)) 0) (by simp only [List.length_append,List.length_replicate];omega),?_⟩
     conv=>whnf
     try dsimp only [newBase,Nat.reduceAdd,Nat.reduceMul]
     refine gR ?_
     conv=>whnf
     refine gO ?_
     conv=>whnf
     refine ⟨⟨0+1,by omega,fun j hj=>?_⟩,[(45000,1000)],by dsimp only;omega,?_⟩
     ·rcases Nat.lt_or_eq_of_le (show j≤0 from by omega) with h|rfl
      ·exact hk2 j h
      ·exact h2
     ·refine ⟨.refl _,.refl _,.refl _,.refl _,.refl _,.refl _,⟨⟨.refl _,.of_eq (congrArg (AVal.rsl 1000 1 0) (step_len l 0 hlt)),trivial⟩,rfl⟩,⟨rfl,rfl,step_len l 0 hlt,?_⟩,trivial⟩
      exact step_row l 0 hlt _ (hdr_row _)
   ·have hge:¬0<l.length:=fun h=>of_decide_eq_false h1 (Int.ofNat_lt.2 h)
    have hall:l.take 0=l:=List.take_of_length_le (by omega)
    have hb:=bytes_len l 0 hk1 hk2
    have hlong:l.any longV=false:=any_false fun j hj=>hk2 j (by omega)
    rw [hall] at hb
    conv=>whnf
    refine ⟨_,len_spec _ _ _ (by first|exact Or.inl rfl|exact Or.inr rfl),?_⟩
    rintro q hq ⟨rfl,rfl⟩
    conv=>whnf
    refine ⟨_,str_spec _ _ _ (Tlv.bytes (l.take 0)) rfl (fun _ _=>rfl),?_⟩
    rintro q hq ⟨rfl,rfl⟩
    conv=>whnf
    rw [hall,show buildL l=(Tlv.bytes l,0) from by unfold buildL;rw [if_neg (by simp [h0]),if_neg (by simp [hlong]),if_neg (by omega)]]
    exact ⟨_,.refl _,rfl,rfl⟩
  ·
   conv=>whnf
   split<;>rename_i h1
   ·have hlt:(k+1)<l.length:=Int.ofNat_lt.1 (of_decide_eq_true h1)
    conv=>whnf
    refine gO ?_
    conv=>whnf
    split<;>rename_i h2
    ·have h2:longV (l.getD (k+1) default)=true:=decide_eq_true (Int.ofNat_lt.1 (of_decide_eq_true h2))
     conv=>whnf
     rw [show buildL l=([],4) from by unfold buildL;rw [if_neg (by simp [h0]),if_pos (any_true hlt h2)]]
     exact ⟨_,.refl _,rfl,rfl⟩
    ·have h2:longV (l.getD (k+1) default)=false:=decide_eq_false (fun h=>of_decide_eq_false h2 (Int.ofNat_lt.2 h))
     have hb:=bytes_len l (k+1) (by omega) hk2
     have hv:(l.getD (k+1) default).v.length≤1400:=by
      have h:¬1400<(l.getD (k+1) default).v.length:=of_decide_eq_false h2
      omega
     have hpad:padN ((l.getD (k+1) default).v.length+4)<4:=Nat.mod_lt _ (by decide)
     have hp:=pad_spec ((l.getD (k+1) default).v.length+4) (by omega)
     push_cast at hp
     conv=>whnf
     refine gO ?_
     conv=>whnf
     refine gO ?_
     conv=>whnf
     refine gO ?_
     conv=>whnf
     refine gO ?_
     conv=>whnf
     refine ⟨_,write_used (Tlv.bytes (l.take (k+1))).length 4 _ _ (by omega),?_⟩
     rintro q hq ⟨rfl,rfl⟩
     conv=>whnf
     refine ⟨_,hp,?_⟩
     conv=>whnf
     refine ⟨_,repeat_spec _ (by omega),?_⟩
     conv=>whnf
     refine ⟨by simp only [List.length_replicate,tnC];omega,?_⟩
     conv=>whnf
     refine ⟨_,_,writeS_used ((Tlv.bytes (l.take (k+1))).length+4) _ ((l.getD (k+1) default).v++List.replicate (padN ((l.getD (k+1) default).v.length+4)) 0) (by simp only [List.length_append,List.length_replicate];omega),?_⟩
     conv=>whnf
     try dsimp only [newBase,Nat.reduceAdd,Nat.reduceMul]
     refine gR ?_
     conv=>whnf
     refine gO ?_
     conv=>whnf
     refine ⟨⟨(k+1)+1,by omega,fun j hj=>?_⟩,[(45000,1000)],by dsimp only;omega,?_⟩
     ·rcases Nat.lt_or_eq_of_le (show j≤(k+1) from by omega) with h|rfl
      ·exact hk2 j h
      ·exact h2
     ·refine ⟨.refl _,.refl _,.refl _,.refl _,.refl _,.refl _,⟨⟨.refl _,.of_eq (congrArg (AVal.rsl 1000 1 0) (step_len l (k+1) hlt)),trivial⟩,rfl⟩,⟨rfl,rfl,step_len l (k+1) hlt,?_⟩,trivial⟩
      exact step_row l (k+1) hlt _ (hdr_row _)
   ·have hge:¬(k+1)<l.length:=fun h=>of_decide_eq_false h1 (Int.ofNat_lt.2 h)
    have hall:l.take (k+1)=l:=List.take_of_length_le (by omega)
    have hb:=bytes_len l (k+1) hk1 hk2
    have hlong:l.any longV=false:=any_false fun j hj=>hk2 j (by omega)
    rw [hall] at hb
    conv=>whnf
    refine ⟨_,len_spec _ _ _ (by first|exact Or.inl rfl|exact Or.inr rfl),?_⟩
    rintro q hq ⟨rfl,rfl⟩
    conv=>whnf
    split<;>rename_i h5
    ·have h5:=of_decide_eq_true h5
     rw [hall] at h5
     conv=>whnf
     rw [show buildL l=([],4) from by unfold buildL;rw [if_neg (by simp [h0]),if_neg (by simp [hlong]),if_pos (Int.ofNat_lt.1 h5)]]
     exact ⟨_,.refl _,rfl,rfl⟩
    ·have h5:=of_decide_eq_false h5
     rw [hall] at h5
     conv=>whnf
     refine ⟨_,str_spec _ _ _ (Tlv.bytes (l.take (k+1))) rfl (fun _ _=>rfl),?_⟩
     rintro q hq ⟨rfl,rfl⟩
     conv=>whnf
     rw [hall,show buildL l=(Tlv.bytes l,0) from by unfold buildL;rw [if_neg (by simp [h0]),if_neg (by simp [hlong]),if_neg (fun h=>h5 (Int.ofNat_lt.2 h))]]
     exact ⟨_,.refl _,rfl,rfl⟩
end Go.Proofs.YtbkcekmahdbgdaaGreat
namespace Towline.Chunk
open Towline.Tlv
def be4 (x:Int):List UInt8:=[u8 (x.fdiv 16777216),u8 (x.fdiv 65536),u8 (x.fdiv 256),u8 x]
def be2 (x:Int):List UInt8:=[u8 (x.fdiv 256),u8 x]
end Towline.Chunk
namespace Go.Proofs.YtbkcekmahdbgdaaGreat
open Go Go.RowKit Towline Towline.Tlv Towline.Chunk
set_option linter.unusedVariables false
set_option linter.unusedSimpArgs false
set_option maxRecDepth 20000
set_option maxHeartbeats 4000000
abbrev cv32 (n:Int):AVal:=.d (.i .u32 n)
abbrev cv16 (n:Int):AVal:=.d (.i .u16 n)
abbrev rowB (s:List UInt8):AObj:=.row 5 1 s.length (bytesF s)
theorem put_row (s t:List UInt8) (y:Int) (G:Nat→List D) (hG:G 0=[.i .u8 (IntKind.u8.wrap y)]):∀k,k<(s++t).length+1→fcat (bytesF (s++t)) (s++t).length G k=bytesF (s++(t++[u8 y])) k:=by
 intro k hk
 rw [←List.append_assoc]
 refine (fcat_congr (fun _ _=>rfl) (g':=bytesF [u8 y]) (fun j hj=>?_) k hk).trans (fcat_bytes (s++t) [u8 y] k hk)
 have:j=0:=by omega
 subst this
 rw [hG]
 show _=[D.i .u8 ((u8 y).toNat:Nat)]
 rw [u8_wrap]
abbrev Sp4 (s:List UInt8) (x:Int):Nat→Env×Heap
 |0=>([(0,.rsl 24 1 0 (s++be4 x).length),(1,cv32 x),(6,tvi (-1))],[(24,rowB (s++be4 x))])
 |1=>([(0,.rsl 24 1 0 (s++[u8 (x.fdiv 16777216),u8 (x.fdiv 65536),u8 (x.fdiv 256)]).length),(1,cv32 x),(6,tvi (0))],[(24,rowB (s++[u8 (x.fdiv 16777216),u8 (x.fdiv 65536),u8 (x.fdiv 256)]))])
 |2=>([(0,.rsl 24 1 0 (s++[u8 (x.fdiv 16777216),u8 (x.fdiv 65536)]).length),(1,cv32 x),(6,tvi (1))],[(24,rowB (s++[u8 (x.fdiv 16777216),u8 (x.fdiv 65536)]))])
 |3=>([(0,.rsl 24 1 0 (s++[u8 (x.fdiv 16777216)]).length),(1,cv32 x),(6,tvi (2))],[(24,rowB (s++[u8 (x.fdiv 16777216)]))])
 |_+4=>([(0,.rsl E0 1 0 s.length),(1,cv32 x),(6,tvi 3)],[(E0,rowB s)])
theorem put32_spec (s:List UInt8) (x:Int) (hs:s.length≤2 ^ 40):LSpec Tryz.prog 186 [.rsl E0 1 0 s.length,cv32 x] [(E0,rowB s)] (fun r hl=>r=.rsl 24 1 0 (s++be4 x).length∧hl=[(24,rowB (s++be4 x))]):=by
 refine LSpec.run (tysOk) followsB Tryz.func186 (by decide) rfl Tryz.ntmps186 (Nat.le_of_ble_eq_true rfl) rfl rfl fun w0 R0 Lo hGw=>?_
 conv=>whnf
 refine gO ?_
 conv=>whnf
 refine ALoop.introR tysOk followsB (fun k:{k // k≤4}=>Sp4 s x k.1) (fun k=>k.1) ⟨4,by omega⟩ ⟨.refl _,.refl _,.refl _,OLe.refl _,trivial⟩ ?_
 rintro ⟨k,hk⟩
 dsimp only
 match k,hk with
 |4,_=>
  have hl:(s++[]).length≤2 ^ 40+4:=by simp only [List.length_append,List.length_cons,List.length_nil];omega
  conv=>whnf
  refine gO ?_
  conv=>whnf
  refine gO ?_
  conv=>whnf
  refine ⟨⟨⟨rfl,by omega,by simp only [ty5];omega⟩,by omega⟩,?_⟩
  conv=>whnf
  refine gO ?_
  conv=>whnf
  refine ⟨⟨3,by omega⟩,[],by dsimp only;omega,.of_eq (congrArg (AVal.rsl 24 1 0) (by simp [be4])),.refl _,.refl _,⟨rfl,rfl,by simp [be4],?_⟩,trivial⟩
  simpa using put_row s [] (x.fdiv 16777216) _ rfl
 |3,_=>
  have hl:(s++[u8 (x.fdiv 16777216)]).length≤2 ^ 40+4:=by simp only [List.length_append,List.length_cons,List.length_nil];omega
  conv=>whnf
  refine gO ?_
  conv=>whnf
  refine gO ?_
  conv=>whnf
  refine ⟨⟨⟨rfl,by omega,by simp only [ty5];omega⟩,by omega⟩,?_⟩
  conv=>whnf
  refine gO ?_
  conv=>whnf
  refine ⟨⟨2,by omega⟩,[],by dsimp only;omega,.of_eq (congrArg (AVal.rsl 24 1 0) (by simp [be4])),.refl _,.refl _,⟨rfl,rfl,by simp [be4],?_⟩,trivial⟩
  exact put_row s [u8 (x.fdiv 16777216)] (x.fdiv 65536) _ rfl
 |2,_=>
  have hl:(s++[u8 (x.fdiv 16777216),u8 (x.fdiv 65536)]).length≤2 ^ 40+4:=by simp only [List.length_append,List.length_cons,List.length_nil];omega
  conv=>whnf
  refine gO ?_
  conv=>whnf
  refine gO ?_
  conv=>whnf
  refine ⟨⟨⟨rfl,by omega,by simp only [ty5];omega⟩,by omega⟩,?_⟩
  conv=>whnf
  refine gO ?_
  conv=>whnf
  refine ⟨⟨1,by omega⟩,[],by dsimp only;omega,.of_eq (congrArg (AVal.rsl 24 1 0) (by simp [be4])),.refl _,.refl _,⟨rfl,rfl,by simp [be4],?_⟩,trivial⟩
  exact put_row s [u8 (x.fdiv 16777216),u8 (x.fdiv 65536)] (x.fdiv 256) _ rfl
 |1,_=>
  have hl:(s++[u8 (x.fdiv 16777216),u8 (x.fdiv 65536),u8 (x.fdiv 256)]).length≤2 ^ 40+4:=by simp only [List.length_append,List.length_cons,List.length_nil];omega
  conv=>whnf
  refine gO ?_
  conv=>whnf
  refine gO ?_
  conv=>whnf
  refine ⟨⟨⟨rfl,by omega,by simp only [ty5];omega⟩,by omega⟩,?_⟩
  conv=>whnf
  refine gO ?_
  conv=>whnf
  refine ⟨⟨0,by omega⟩,[],by dsimp only;omega,.of_eq (congrArg (AVal.rsl 24 1 0) (by simp [be4])),.refl _,.refl _,⟨rfl,rfl,by simp [be4],?_⟩,trivial⟩
  exact put_row s [u8 (x.fdiv 16777216),u8 (x.fdiv 65536),u8 (x.fdiv 256)] x _ (by rw [show shrOp .u32 x (8*0)=x from by simp [shrOp]];rfl)
 |0,_=>
  conv=>whnf
  refine ⟨_,_,.refl _,?_,rfl,rfl⟩
  exact ⟨OLe.refl _,trivial⟩
abbrev Sp2 (s:List UInt8) (x:Int):Nat→Env×Heap
 |0=>([(0,.rsl 24 1 0 (s++be2 x).length),(1,cv16 x),(6,tvi (-1))],[(24,rowB (s++be2 x))])
 |1=>([(0,.rsl 24 1 0 (s++[u8 (x.fdiv 256)]).length),(1,cv16 x),(6,tvi (0))],[(24,rowB (s++[u8 (x.fdiv 256)]))])
 |_+2=>([(0,.rsl E0 1 0 s.length),(1,cv16 x),(6,tvi 1)],[(E0,rowB s)])
theorem put16_spec (s:List UInt8) (x:Int) (hs:s.length≤2 ^ 40):LSpec Tryz.prog 213 [.rsl E0 1 0 s.length,cv16 x] [(E0,rowB s)] (fun r hl=>r=.rsl 24 1 0 (s++be2 x).length∧hl=[(24,rowB (s++be2 x))]):=by
 refine LSpec.run (tysOk) followsB Tryz.func213 (by decide) rfl Tryz.ntmps213 (Nat.le_of_ble_eq_true rfl) rfl rfl fun w0 R0 Lo hGw=>?_
 conv=>whnf
 refine gO ?_
 conv=>whnf
 refine ALoop.introR tysOk followsB (fun k:{k // k≤2}=>Sp2 s x k.1) (fun k=>k.1) ⟨2,by omega⟩ ⟨.refl _,.refl _,.refl _,OLe.refl _,trivial⟩ ?_
 rintro ⟨k,hk⟩
 dsimp only
 match k,hk with
 |2,_=>
  have hl:(s++[]).length≤2 ^ 40+2:=by simp only [List.length_append,List.length_cons,List.length_nil];omega
  conv=>whnf
  refine gO ?_
  conv=>whnf
  refine gO ?_
  conv=>whnf
  refine ⟨⟨⟨rfl,by omega,by simp only [ty5];omega⟩,by omega⟩,?_⟩
  conv=>whnf
  refine gO ?_
  conv=>whnf
  refine ⟨⟨1,by omega⟩,[],by dsimp only;omega,.of_eq (congrArg (AVal.rsl 24 1 0) (by simp [be2])),.refl _,.refl _,⟨rfl,rfl,by simp [be2],?_⟩,trivial⟩
  simpa using put_row s [] (x.fdiv 256) _ rfl
 |1,_=>
  have hl:(s++[u8 (x.fdiv 256)]).length≤2 ^ 40+2:=by simp only [List.length_append,List.length_cons,List.length_nil];omega
  conv=>whnf
  refine gO ?_
  conv=>whnf
  refine gO ?_
  conv=>whnf
  refine ⟨⟨⟨rfl,by omega,by simp only [ty5];omega⟩,by omega⟩,?_⟩
  conv=>whnf
  refine gO ?_
  conv=>whnf
  refine ⟨⟨0,by omega⟩,[],by dsimp only;omega,.of_eq (congrArg (AVal.rsl 24 1 0) (by simp [be2])),.refl _,.refl _,⟨rfl,rfl,by simp [be2],?_⟩,trivial⟩
  exact put_row s [u8 (x.fdiv 256)] x _ (by rw [show shrOp .u16 x (8*0)=x from by simp [shrOp]];rfl)
 |0,_=>
  conv=>whnf
  refine ⟨_,_,.refl _,?_,rfl,rfl⟩
  exact ⟨OLe.refl _,trivial⟩
abbrev enc32 (x:Int):List D:=[.i .u32 x]
abbrev Sr32 (s:List UInt8) (l:List Int) (id k:Nat):Env×Heap:=([(0,.rsl id 1 0 (s++(l.take k).flatMap be4).length),(7,.d (slT 1 enc32 l)),(8,tvi l.length),(9,tvi k)],[(id,rowB (s++(l.take k).flatMap be4))])
theorem take32 (l:List Int) (k:Nat) (h:k<l.length):(l.take (k+1)).flatMap be4=(l.take k).flatMap be4++be4 (l.getD k default):=by
 rw [List.take_add_one,List.flatMap_append,List.getD_eq_getElem?_getD,List.getElem?_eq_getElem h]
 simp
theorem len32 (l:List Int):(l.flatMap be4).length=4*l.length:=by
 induction l with
 |nil=>rfl
 |cons x r ih=>rw [List.flatMap_cons,List.length_append,ih,show (be4 x).length=4 from rfl,List.length_cons];omega
theorem rows32_spec (s:List UInt8) (l:List Int) (hs:s.length≤2 ^ 39) (hl:l.length≤2 ^ 30) (h0:l≠[]):LSpec Tryz.prog 184 [.rsl E0 1 0 s.length,.d (slT 1 enc32 l)] [(E0,rowB s)] (fun r hl=>r=.rsl 1000 1 0 (s++l.flatMap be4).length∧hl=[(1000,rowB (s++l.flatMap be4))]):=by
 refine LSpec.run (tysXOk false [] [(186,[])] []) followsB Tryz.func184 (by decide) rfl Tryz.ntmps184 (Nat.le_of_ble_eq_true rfl) rfl rfl fun w0 R0 Lo hGw=>?_
 conv=>whnf
 refine ALoop.introR (tysXOk false [] [(186,[])] []) followsB (fun k:{k // k≤l.length}=>Sr32 s l (match k.1 with|0=>E0|_+1=>1000) k.1) (fun k=>l.length-k.1) ⟨0,by omega⟩ ⟨.of_eq (congrArg (AVal.rsl E0 1 0) (by simp)),.refl _,.refl _,.refl _,⟨rfl,rfl,by simp,fun k hk=>by simp⟩,trivial⟩ ?_
 rintro ⟨k,hk⟩
 have hlt:0<l.length:=List.length_pos_iff.2 h0
 dsimp only
 have hb:(s++(l.take k).flatMap be4).length≤2 ^ 40:=by
  rw [List.length_append,len32,List.length_take];omega
 have round:∀(h1:k<l.length) (w':List UInt8),w'=s++(l.take k).flatMap be4++be4 (l.getD k default)→w'=s++(l.take (k+1)).flatMap be4:=by
  intro h1 w' e
  rw [e,take32 l k h1,List.append_assoc]
 rcases k with _|k
 ·conv=>whnf
  split<;>rename_i h1
  ·have h1:0<l.length:=hlt
   conv=>whnf
   refine gO ?_
   conv=>whnf
   refine ⟨_,put32_spec _ _ hb,?_⟩
   rintro q hq ⟨rfl,rfl⟩
   conv=>whnf
   refine gO ?_
   conv=>whnf
   refine ⟨⟨1,by omega⟩,[(16000,1000)],by dsimp only;omega,.of_eq (congrArg (fun q=>AVal.rsl 1000 1 0 (List.length q)) (round h1 _ rfl)),.refl _,.refl _,.refl _,?_,trivial⟩
   rw [←round h1 _ rfl]
   exact OLe.refl _
  ·exact absurd (Int.ofNat_lt.2 hlt) (of_decide_eq_false h1)
 ·conv=>whnf
  split<;>rename_i h1
  ·have h1:k+1<l.length:=Int.ofNat_lt.1 (of_decide_eq_true h1)
   conv=>whnf
   refine gO ?_
   conv=>whnf
   refine ⟨_,put32_spec _ _ hb,?_⟩
   rintro q hq ⟨rfl,rfl⟩
   conv=>whnf
   refine gO ?_
   conv=>whnf
   refine ⟨⟨k+1+1,by omega⟩,[(16000,1000)],by dsimp only;omega,.of_eq (congrArg (fun q=>AVal.rsl 1000 1 0 (List.length q)) (round h1 _ rfl)),.refl _,.refl _,.refl _,?_,trivial⟩
   rw [←round h1 _ rfl]
   exact OLe.refl _
  ·have h1:¬k+1<l.length:=fun h=>of_decide_eq_false h1 (Int.ofNat_lt.2 h)
   have e:l.take (k+1)=l:=List.take_of_length_le (by omega)
   conv=>whnf
   rw [e]
   refine ⟨_,_,.refl _,?_,rfl,rfl⟩
   exact ⟨OLe.refl _,trivial⟩
abbrev enc16 (x:Int):List D:=[.i .u16 x]
abbrev Sr16 (s:List UInt8) (l:List Int) (id k:Nat):Env×Heap:=([(0,.rsl id 1 0 (s++(l.take k).flatMap be2).length),(7,.d (slT 1 enc16 l)),(8,tvi l.length),(9,tvi k)],[(id,rowB (s++(l.take k).flatMap be2))])
theorem take16 (l:List Int) (k:Nat) (h:k<l.length):(l.take (k+1)).flatMap be2=(l.take k).flatMap be2++be2 (l.getD k default):=by
 rw [List.take_add_one,List.flatMap_append,List.getD_eq_getElem?_getD,List.getElem?_eq_getElem h]
 simp
theorem len16 (l:List Int):(l.flatMap be2).length=2*l.length:=by
 induction l with
 |nil=>rfl
 |cons x r ih=>rw [List.flatMap_cons,List.length_append,ih,show (be2 x).length=2 from rfl,List.length_cons];omega
theorem rows16_spec (s:List UInt8) (l:List Int) (hs:s.length≤2 ^ 39) (hl:l.length≤2 ^ 30) (h0:l≠[]):LSpec Tryz.prog 185 [.rsl E0 1 0 s.length,.d (slT 1 enc16 l)] [(E0,rowB s)] (fun r hl=>r=.rsl 1000 1 0 (s++l.flatMap be2).length∧hl=[(1000,rowB (s++l.flatMap be2))]):=by
 refine LSpec.run (tysXOk false [] [(213,[])] []) followsB Tryz.func185 (by decide) rfl Tryz.ntmps185 (Nat.le_of_ble_eq_true rfl) rfl rfl fun w0 R0 Lo hGw=>?_
 conv=>whnf
 refine ALoop.introR (tysXOk false [] [(213,[])] []) followsB (fun k:{k // k≤l.length}=>Sr16 s l (match k.1 with|0=>E0|_+1=>1000) k.1) (fun k=>l.length-k.1) ⟨0,by omega⟩ ⟨.of_eq (congrArg (AVal.rsl E0 1 0) (by simp)),.refl _,.refl _,.refl _,⟨rfl,rfl,by simp,fun k hk=>by simp⟩,trivial⟩ ?_
 rintro ⟨k,hk⟩
 have hlt:0<l.length:=List.length_pos_iff.2 h0
 dsimp only
 have hb:(s++(l.take k).flatMap be2).length≤2 ^ 40:=by
  rw [List.length_append,len16,List.length_take];omega
 have round:∀(h1:k<l.length) (w':List UInt8),w'=s++(l.take k).flatMap be2++be2 (l.getD k default)→w'=s++(l.take (k+1)).flatMap be2:=by
  intro h1 w' e
  rw [e,take16 l k h1,List.append_assoc]
 rcases k with _|k
 ·conv=>whnf
  split<;>rename_i h1
  ·have h1:0<l.length:=hlt
   conv=>whnf
   refine gO ?_
   conv=>whnf
   refine ⟨_,put16_spec _ _ hb,?_⟩
   rintro q hq ⟨rfl,rfl⟩
   conv=>whnf
   refine gO ?_
   conv=>whnf
   refine ⟨⟨1,by omega⟩,[(16000,1000)],by dsimp only;omega,.of_eq (congrArg (fun q=>AVal.rsl 1000 1 0 (List.length q)) (round h1 _ rfl)),.refl _,.refl _,.refl _,?_,trivial⟩
   rw [←round h1 _ rfl]
   exact OLe.refl _
  ·exact absurd (Int.ofNat_lt.2 hlt) (of_decide_eq_false h1)
 ·conv=>whnf
  split<;>rename_i h1
  ·have h1:k+1<l.length:=Int.ofNat_lt.1 (of_decide_eq_true h1)
   conv=>whnf
   refine gO ?_
   conv=>whnf
   refine ⟨_,put16_spec _ _ hb,?_⟩
   rintro q hq ⟨rfl,rfl⟩
   conv=>whnf
   refine gO ?_
   conv=>whnf
   refine ⟨⟨k+1+1,by omega⟩,[(16000,1000)],by dsimp only;omega,.of_eq (congrArg (fun q=>AVal.rsl 1000 1 0 (List.length q)) (round h1 _ rfl)),.refl _,.refl _,.refl _,?_,trivial⟩
   rw [←round h1 _ rfl]
   exact OLe.refl _
  ·have h1:¬k+1<l.length:=fun h=>of_decide_eq_false h1 (Int.ofNat_lt.2 h)
   have e:l.take (k+1)=l:=List.take_of_length_le (by omega)
   conv=>whnf
   rw [e]
   refine ⟨_,_,.refl _,?_,rfl,rfl⟩
   exact ⟨OLe.refl _,trivial⟩
end Go.Proofs.YtbkcekmahdbgdaaGreat
namespace Towline.Chunk
open Towline.Tlv
structure Ch where
 ty:Int
 flags:Int
 tsn:Int
 tag:Int
 window:Int
 ppid:Int
 stream:Int
 ssn:Int
 outs:Int
 ins:Int
 gaps:List (Int×Int)
 dups:List Int
 items:List Tlv.It
 text:List UInt8
 deriving DecidableEq,Inhabited
def risingG:Int→List (Int×Int)→Bool
 |_,[]=>true
 |last,g::r=>!(decide (g.1<last+2) ||(g.1==0 ||decide (g.2<g.1)))&&risingG g.2 r
def risesB (l:List (Int×Int)):Bool:=risingG (-1) l&&decide (l.length≤100)
def onlyC (c:Ch):Ch:=
 if c.ty=0 then ⟨c.ty,c.flags,c.tsn,0,0,c.ppid,c.stream,c.ssn,0,0,[],[],[],c.text⟩
 else if c.ty=1∨c.ty=2 then ⟨c.ty,0,c.tsn,c.tag,c.window,0,0,0,c.outs,c.ins,[],[],c.items,[]⟩
 else if c.ty=3 then ⟨c.ty,0,c.tsn,0,c.window,0,0,0,0,0,c.gaps,c.dups,[],[]⟩
 else if c.ty=4∨c.ty=5∨c.ty=9 then ⟨c.ty,0,0,0,0,0,0,0,0,0,[],[],c.items,[]⟩
 else if c.ty=6 then ⟨c.ty,c.flags,0,0,0,0,0,0,0,0,[],[],c.items,[]⟩
 else if c.ty=7 then ⟨c.ty,0,c.tsn,0,0,0,0,0,0,0,[],[],[],[]⟩
 else if c.ty=8∨c.ty=11 then ⟨c.ty,0,0,0,0,0,0,0,0,0,[],[],[],[]⟩
 else if c.ty=10 then ⟨c.ty,0,0,0,0,0,0,0,0,0,[],[],[],c.text⟩
 else if c.ty=14 then ⟨c.ty,c.flags,0,0,0,0,0,0,0,0,[],[],[],[]⟩
 else ⟨c.ty,c.flags,0,0,0,0,0,0,0,0,[],[],[],c.text⟩
end Towline.Chunk
namespace Go.Proofs.YtbkcekmahdbgdaaGreat
open Go Go.RowKit Towline Towline.Tlv Towline.Chunk
set_option linter.unusedVariables false
set_option linter.unusedSimpArgs false
set_option maxRecDepth 20000
set_option maxHeartbeats 4000000
def encG (g:Int×Int):List D:=[.i .u16 g.1,.i .u16 g.2]
abbrev cL (c:Ch):List AVal:=[tvi c.ty,tvi c.flags,cv32 c.tsn,cv32 c.tag,cv32 c.window,cv32 c.ppid,cv16 c.stream,cv16 c.ssn,cv16 c.outs,cv16 c.ins,.d (slT 2 encG c.gaps),.d (slT 1 enc32 c.dups),.d (slT 2 encI c.items),tvs c.text]
abbrev cA (c:Ch):AVal:=.agg (cL c)
theorem only_0 {c:Ch} (h:c.ty=0):onlyC c=⟨c.ty,c.flags,c.tsn,0,0,c.ppid,c.stream,c.ssn,0,0,[],[],[],c.text⟩:=by
 simp [onlyC,h]
theorem only_1 {c:Ch} (h:c.ty=1):onlyC c=⟨c.ty,0,c.tsn,c.tag,c.window,0,0,0,c.outs,c.ins,[],[],c.items,[]⟩:=by
 simp [onlyC,h]
theorem only_2 {c:Ch} (h:c.ty=2):onlyC c=⟨c.ty,0,c.tsn,c.tag,c.window,0,0,0,c.outs,c.ins,[],[],c.items,[]⟩:=by
 simp [onlyC,h]
theorem only_3 {c:Ch} (h:c.ty=3):onlyC c=⟨c.ty,0,c.tsn,0,c.window,0,0,0,0,0,c.gaps,c.dups,[],[]⟩:=by
 simp [onlyC,h]
theorem only_4 {c:Ch} (h:c.ty=4):onlyC c=⟨c.ty,0,0,0,0,0,0,0,0,0,[],[],c.items,[]⟩:=by
 simp [onlyC,h]
theorem only_5 {c:Ch} (h:c.ty=5):onlyC c=⟨c.ty,0,0,0,0,0,0,0,0,0,[],[],c.items,[]⟩:=by
 simp [onlyC,h]
theorem only_9 {c:Ch} (h:c.ty=9):onlyC c=⟨c.ty,0,0,0,0,0,0,0,0,0,[],[],c.items,[]⟩:=by
 simp [onlyC,h]
theorem only_6 {c:Ch} (h:c.ty=6):onlyC c=⟨c.ty,c.flags,0,0,0,0,0,0,0,0,[],[],c.items,[]⟩:=by
 simp [onlyC,h]
theorem only_7 {c:Ch} (h:c.ty=7):onlyC c=⟨c.ty,0,c.tsn,0,0,0,0,0,0,0,[],[],[],[]⟩:=by
 simp [onlyC,h]
theorem only_8 {c:Ch} (h:c.ty=8):onlyC c=⟨c.ty,0,0,0,0,0,0,0,0,0,[],[],[],[]⟩:=by
 simp [onlyC,h]
theorem only_11 {c:Ch} (h:c.ty=11):onlyC c=⟨c.ty,0,0,0,0,0,0,0,0,0,[],[],[],[]⟩:=by
 simp [onlyC,h]
theorem only_10 {c:Ch} (h:c.ty=10):onlyC c=⟨c.ty,0,0,0,0,0,0,0,0,0,[],[],[],c.text⟩:=by
 simp [onlyC,h]
theorem only_14 {c:Ch} (h:c.ty=14):onlyC c=⟨c.ty,c.flags,0,0,0,0,0,0,0,0,[],[],[],[]⟩:=by
 simp [onlyC,h]
theorem only_other {c:Ch} (h0:¬c.ty=0) (h1:¬c.ty=1) (h2:¬c.ty=2) (h3:¬c.ty=3) (h4:¬c.ty=4) (h5:¬c.ty=5) (h9:¬c.ty=9) (h6:¬c.ty=6) (h7:¬c.ty=7) (h8:¬c.ty=8) (h11:¬c.ty=11) (h10:¬c.ty=10) (h14:¬c.ty=14):onlyC c=⟨c.ty,c.flags,0,0,0,0,0,0,0,0,[],[],[],c.text⟩:=by
 simp [onlyC,h0,h1,h2,h3,h4,h5,h9,h6,h7,h8,h11,h10,h14]
theorem only_spec (c:Ch):PSpec Tryz.prog 124 [cA c] (· = cA (onlyC c)):=by
 refine PSpec.run (tysOk) followsB Tryz.func124 (by decide) rfl Tryz.ntmps124 (Nat.le_of_ble_eq_true rfl) rfl fun w0 R0 hGw=>?_
 conv=>whnf
 split<;>rename_i g0b
 ·have g0:c.ty=0:=by simpa using g0b
  conv=>whnf
  try (refine gR ?_;conv=>whnf)
  refine ⟨cA (onlyC c),?_,rfl,rfl⟩
  rw [only_0 g0]
  exact .agg ⟨by first|exact .refl _|exact .nil,by first|exact .refl _|exact .nil,by first|exact .refl _|exact .nil,by first|exact .refl _|exact .nil,by first|exact .refl _|exact .nil,by first|exact .refl _|exact .nil,by first|exact .refl _|exact .nil,by first|exact .refl _|exact .nil,by first|exact .refl _|exact .nil,by first|exact .refl _|exact .nil,by first|exact .refl _|exact .nil,by first|exact .refl _|exact .nil,by first|exact .refl _|exact .nil,by first|exact .refl _|exact .nil,trivial⟩
 have g0:¬c.ty=0:=by simpa using g0b
 conv=>whnf
 split<;>rename_i g1b
 ·have g1:c.ty=1:=by simpa using g1b
  conv=>whnf
  try (rw [g1b];conv=>whnf)
  try (refine gR ?_;conv=>whnf)
  try (rw [g1b];conv=>whnf)
  refine ⟨cA (onlyC c),?_,rfl,rfl⟩
  rw [only_1 g1]
  exact .agg ⟨by first|exact .refl _|exact .nil,by first|exact .refl _|exact .nil,by first|exact .refl _|exact .nil,by first|exact .refl _|exact .nil,by first|exact .refl _|exact .nil,by first|exact .refl _|exact .nil,by first|exact .refl _|exact .nil,by first|exact .refl _|exact .nil,by first|exact .refl _|exact .nil,by first|exact .refl _|exact .nil,by first|exact .refl _|exact .nil,by first|exact .refl _|exact .nil,by first|exact .refl _|exact .nil,by first|exact .refl _|exact .nil,trivial⟩
 have g1:¬c.ty=1:=by simpa using g1b
 conv=>whnf
 split<;>rename_i g2b
 ·have g2:c.ty=2:=by simpa using g2b
  conv=>whnf
  try (rw [g1b];conv=>whnf)
  try (rw [g2b];conv=>whnf)
  try (refine gR ?_;conv=>whnf)
  try (rw [g1b];conv=>whnf)
  try (rw [g2b];conv=>whnf)
  refine ⟨cA (onlyC c),?_,rfl,rfl⟩
  rw [only_2 g2]
  exact .agg ⟨by first|exact .refl _|exact .nil,by first|exact .refl _|exact .nil,by first|exact .refl _|exact .nil,by first|exact .refl _|exact .nil,by first|exact .refl _|exact .nil,by first|exact .refl _|exact .nil,by first|exact .refl _|exact .nil,by first|exact .refl _|exact .nil,by first|exact .refl _|exact .nil,by first|exact .refl _|exact .nil,by first|exact .refl _|exact .nil,by first|exact .refl _|exact .nil,by first|exact .refl _|exact .nil,by first|exact .refl _|exact .nil,trivial⟩
 have g2:¬c.ty=2:=by simpa using g2b
 conv=>whnf
 split<;>rename_i g3b
 ·have g3:c.ty=3:=by simpa using g3b
  conv=>whnf
  try (refine gR ?_;conv=>whnf)
  refine ⟨cA (onlyC c),?_,rfl,rfl⟩
  rw [only_3 g3]
  exact .agg ⟨by first|exact .refl _|exact .nil,by first|exact .refl _|exact .nil,by first|exact .refl _|exact .nil,by first|exact .refl _|exact .nil,by first|exact .refl _|exact .nil,by first|exact .refl _|exact .nil,by first|exact .refl _|exact .nil,by first|exact .refl _|exact .nil,by first|exact .refl _|exact .nil,by first|exact .refl _|exact .nil,by first|exact .refl _|exact .nil,by first|exact .refl _|exact .nil,by first|exact .refl _|exact .nil,by first|exact .refl _|exact .nil,trivial⟩
 have g3:¬c.ty=3:=by simpa using g3b
 conv=>whnf
 split<;>rename_i g4b
 ·have g4:c.ty=4:=by simpa using g4b
  conv=>whnf
  try (rw [g4b];conv=>whnf)
  try (refine gR ?_;conv=>whnf)
  try (rw [g4b];conv=>whnf)
  refine ⟨cA (onlyC c),?_,rfl,rfl⟩
  rw [only_4 g4]
  exact .agg ⟨by first|exact .refl _|exact .nil,by first|exact .refl _|exact .nil,by first|exact .refl _|exact .nil,by first|exact .refl _|exact .nil,by first|exact .refl _|exact .nil,by first|exact .refl _|exact .nil,by first|exact .refl _|exact .nil,by first|exact .refl _|exact .nil,by first|exact .refl _|exact .nil,by first|exact .refl _|exact .nil,by first|exact .refl _|exact .nil,by first|exact .refl _|exact .nil,by first|exact .refl _|exact .nil,by first|exact .refl _|exact .nil,trivial⟩
 have g4:¬c.ty=4:=by simpa using g4b
 conv=>whnf
 split<;>rename_i g5b
 ·have g5:c.ty=5:=by simpa using g5b
  conv=>whnf
  try (rw [g4b];conv=>whnf)
  try (rw [g5b];conv=>whnf)
  try (refine gR ?_;conv=>whnf)
  try (rw [g4b];conv=>whnf)
  try (rw [g5b];conv=>whnf)
  refine ⟨cA (onlyC c),?_,rfl,rfl⟩
  rw [only_5 g5]
  exact .agg ⟨by first|exact .refl _|exact .nil,by first|exact .refl _|exact .nil,by first|exact .refl _|exact .nil,by first|exact .refl _|exact .nil,by first|exact .refl _|exact .nil,by first|exact .refl _|exact .nil,by first|exact .refl _|exact .nil,by first|exact .refl _|exact .nil,by first|exact .refl _|exact .nil,by first|exact .refl _|exact .nil,by first|exact .refl _|exact .nil,by first|exact .refl _|exact .nil,by first|exact .refl _|exact .nil,by first|exact .refl _|exact .nil,trivial⟩
 have g5:¬c.ty=5:=by simpa using g5b
 conv=>whnf
 split<;>rename_i g9b
 ·have g9:c.ty=9:=by simpa using g9b
  conv=>whnf
  try (rw [g4b];conv=>whnf)
  try (rw [g5b];conv=>whnf)
  try (rw [g9b];conv=>whnf)
  try (refine gR ?_;conv=>whnf)
  try (rw [g4b];conv=>whnf)
  try (rw [g5b];conv=>whnf)
  try (rw [g9b];conv=>whnf)
  refine ⟨cA (onlyC c),?_,rfl,rfl⟩
  rw [only_9 g9]
  exact .agg ⟨by first|exact .refl _|exact .nil,by first|exact .refl _|exact .nil,by first|exact .refl _|exact .nil,by first|exact .refl _|exact .nil,by first|exact .refl _|exact .nil,by first|exact .refl _|exact .nil,by first|exact .refl _|exact .nil,by first|exact .refl _|exact .nil,by first|exact .refl _|exact .nil,by first|exact .refl _|exact .nil,by first|exact .refl _|exact .nil,by first|exact .refl _|exact .nil,by first|exact .refl _|exact .nil,by first|exact .refl _|exact .nil,trivial⟩
 have g9:¬c.ty=9:=by simpa using g9b
 conv=>whnf
 split<;>rename_i g6b
 ·have g6:c.ty=6:=by simpa using g6b
  conv=>whnf
  try (refine gR ?_;conv=>whnf)
  refine ⟨cA (onlyC c),?_,rfl,rfl⟩
  rw [only_6 g6]
  exact .agg ⟨by first|exact .refl _|exact .nil,by first|exact .refl _|exact .nil,by first|exact .refl _|exact .nil,by first|exact .refl _|exact .nil,by first|exact .refl _|exact .nil,by first|exact .refl _|exact .nil,by first|exact .refl _|exact .nil,by first|exact .refl _|exact .nil,by first|exact .refl _|exact .nil,by first|exact .refl _|exact .nil,by first|exact .refl _|exact .nil,by first|exact .refl _|exact .nil,by first|exact .refl _|exact .nil,by first|exact .refl _|exact .nil,trivial⟩
 have g6:¬c.ty=6:=by simpa using g6b
 conv=>whnf
 split<;>rename_i g7b
 ·have g7:c.ty=7:=by simpa using g7b
  conv=>whnf
  try (refine gR ?_;conv=>whnf)
  refine ⟨cA (onlyC c),?_,rfl,rfl⟩
  rw [only_7 g7]
  exact .agg ⟨by first|exact .refl _|exact .nil,by first|exact .refl _|exact .nil,by first|exact .refl _|exact .nil,by first|exact .refl _|exact .nil,by first|exact .refl _|exact .nil,by first|exact .refl _|exact .nil,by first|exact .refl _|exact .nil,by first|exact .refl _|exact .nil,by first|exact .refl _|exact .nil,by first|exact .refl _|exact .nil,by first|exact .refl _|exact .nil,by first|exact .refl _|exact .nil,by first|exact .refl _|exact .nil,by first|exact .refl _|exact .nil,trivial⟩
 have g7:¬c.ty=7:=by simpa using g7b
 conv=>whnf
 split<;>rename_i g8b
 ·have g8:c.ty=8:=by simpa using g8b
  conv=>whnf
  try (rw [g8b];conv=>whnf)
  try (refine gR ?_;conv=>whnf)
  try (rw [g8b];conv=>whnf)
  refine ⟨cA (onlyC c),?_,rfl,rfl⟩
  rw [only_8 g8]
  exact .agg ⟨by first|exact .refl _|exact .nil,by first|exact .refl _|exact .nil,by first|exact .refl _|exact .nil,by first|exact .refl _|exact .nil,by first|exact .refl _|exact .nil,by first|exact .refl _|exact .nil,by first|exact .refl _|exact .nil,by first|exact .refl _|exact .nil,by first|exact .refl _|exact .nil,by first|exact .refl _|exact .nil,by first|exact .refl _|exact .nil,by first|exact .refl _|exact .nil,by first|exact .refl _|exact .nil,by first|exact .refl _|exact .nil,trivial⟩
 have g8:¬c.ty=8:=by simpa using g8b
 conv=>whnf
 split<;>rename_i g11b
 ·have g11:c.ty=11:=by simpa using g11b
  conv=>whnf
  try (rw [g8b];conv=>whnf)
  try (rw [g11b];conv=>whnf)
  try (refine gR ?_;conv=>whnf)
  try (rw [g8b];conv=>whnf)
  try (rw [g11b];conv=>whnf)
  refine ⟨cA (onlyC c),?_,rfl,rfl⟩
  rw [only_11 g11]
  exact .agg ⟨by first|exact .refl _|exact .nil,by first|exact .refl _|exact .nil,by first|exact .refl _|exact .nil,by first|exact .refl _|exact .nil,by first|exact .refl _|exact .nil,by first|exact .refl _|exact .nil,by first|exact .refl _|exact .nil,by first|exact .refl _|exact .nil,by first|exact .refl _|exact .nil,by first|exact .refl _|exact .nil,by first|exact .refl _|exact .nil,by first|exact .refl _|exact .nil,by first|exact .refl _|exact .nil,by first|exact .refl _|exact .nil,trivial⟩
 have g11:¬c.ty=11:=by simpa using g11b
 conv=>whnf
 split<;>rename_i g10b
 ·have g10:c.ty=10:=by simpa using g10b
  conv=>whnf
  try (refine gR ?_;conv=>whnf)
  refine ⟨cA (onlyC c),?_,rfl,rfl⟩
  rw [only_10 g10]
  exact .agg ⟨by first|exact .refl _|exact .nil,by first|exact .refl _|exact .nil,by first|exact .refl _|exact .nil,by first|exact .refl _|exact .nil,by first|exact .refl _|exact .nil,by first|exact .refl _|exact .nil,by first|exact .refl _|exact .nil,by first|exact .refl _|exact .nil,by first|exact .refl _|exact .nil,by first|exact .refl _|exact .nil,by first|exact .refl _|exact .nil,by first|exact .refl _|exact .nil,by first|exact .refl _|exact .nil,by first|exact .refl _|exact .nil,trivial⟩
 have g10:¬c.ty=10:=by simpa using g10b
 conv=>whnf
 split<;>rename_i g14b
 ·have g14:c.ty=14:=by simpa using g14b
  conv=>whnf
  try (refine gR ?_;conv=>whnf)
  refine ⟨cA (onlyC c),?_,rfl,rfl⟩
  rw [only_14 g14]
  exact .agg ⟨by first|exact .refl _|exact .nil,by first|exact .refl _|exact .nil,by first|exact .refl _|exact .nil,by first|exact .refl _|exact .nil,by first|exact .refl _|exact .nil,by first|exact .refl _|exact .nil,by first|exact .refl _|exact .nil,by first|exact .refl _|exact .nil,by first|exact .refl _|exact .nil,by first|exact .refl _|exact .nil,by first|exact .refl _|exact .nil,by first|exact .refl _|exact .nil,by first|exact .refl _|exact .nil,by first|exact .refl _|exact .nil,trivial⟩
 have g14:¬c.ty=14:=by simpa using g14b
 conv=>whnf
 try (refine gR ?_;conv=>whnf)
 refine ⟨cA (onlyC c),?_,rfl,rfl⟩
 rw [only_other g0 g1 g2 g3 g4 g5 g9 g6 g7 g8 g11 g10 g14]
 exact .agg ⟨by first|exact .refl _|exact .nil,by first|exact .refl _|exact .nil,by first|exact .refl _|exact .nil,by first|exact .refl _|exact .nil,by first|exact .refl _|exact .nil,by first|exact .refl _|exact .nil,by first|exact .refl _|exact .nil,by first|exact .refl _|exact .nil,by first|exact .refl _|exact .nil,by first|exact .refl _|exact .nil,by first|exact .refl _|exact .nil,by first|exact .refl _|exact .nil,by first|exact .refl _|exact .nil,by first|exact .refl _|exact .nil,trivial⟩
theorem It.ext_of {x y:Tlv.It} (h:x.ty=y.ty) (h2:x.v=y.v):x=y:=by cases x;cases y;cases h;cases h2;rfl
theorem ext_getD {α} [Inhabited α] {a b:List α} (h:a.length=b.length) (h2:∀j,j<a.length→a.getD j default=b.getD j default):a=b:=by
 refine List.ext_getElem h fun j hj hk=>?_
 have:=h2 j hj
 rwa [List.getD_eq_getElem?_getD,List.getD_eq_getElem?_getD,List.getElem?_eq_getElem hj,List.getElem?_eq_getElem hk] at this
theorem eq32_spec (a b:List Int) (ha:a.length≤2 ^ 40):PSpec Tryz.prog 182 [.d (slT 1 enc32 a),.d (slT 1 enc32 b)] (· = tvb (decide (a=b))):=by
 refine PSpec.run (tysOk) followsB Tryz.func182 (by decide) rfl Tryz.ntmps182 (Nat.le_of_ble_eq_true rfl) rfl fun w0 R0 hGw=>?_
 conv=>whnf
 split<;>rename_i h1
 ·have h1:a.length≠b.length:=by simp at h1;omega
  have h2:decide (a=b)=false:=decide_eq_false fun e=>h1 (congrArg List.length e)
  conv=>whnf
  rw [h2]
  exact ⟨_,.refl _,rfl,rfl⟩
 have h1:a.length=b.length:=by simp at h1;omega
 conv=>whnf
 refine ALoop.introR tysOk followsB (fun k:{k // k≤a.length∧∀j,j<k→a.getD j default=b.getD j default}=>([(0,.d (slT 1 enc32 a)),(1,.d (slT 1 enc32 b)),(12,tvi a.length),(13,tvi k.1)],[])) (fun k=>a.length-k.1) ⟨0,by omega,fun j hj=>by omega⟩ ⟨.refl _,.refl _,.refl _,.refl _,trivial⟩ ?_
 rintro ⟨k,hk,hj⟩
 dsimp only
 conv=>whnf
 split<;>rename_i h2
 ·have h2:k<a.length:=Int.ofNat_lt.1 (of_decide_eq_true h2)
  conv=>whnf
  refine gO ?_
  conv=>whnf
  refine gO ?_
  conv=>whnf
  refine gR ?_
  conv=>whnf
  split<;>rename_i h3
  ·have h3:¬a.getD k default=b.getD k default:=by simpa using h3
   have h4:decide (a=b)=false:=decide_eq_false fun e=>h3 (by rw [e])
   conv=>whnf
   rw [h4]
   exact ⟨_,.refl _,rfl,rfl⟩
  ·have h3:a.getD k default=b.getD k default:=by simpa using h3
   conv=>whnf
   refine gO ?_
   conv=>whnf
   exact ⟨⟨k+1,by omega,fun j hj'=>(Nat.lt_or_eq_of_le (Nat.le_of_lt_succ hj')).elim (hj j) (fun e=>e▸h3)⟩,[],by dsimp only;omega,.refl _,.refl _,.refl _,.refl _,trivial⟩
 ·have h2:¬k<a.length:=fun h=>of_decide_eq_false h2 (Int.ofNat_lt.2 h)
  have h3:decide (a=b)=true:=decide_eq_true (ext_getD h1 fun j hj'=>hj j (by omega))
  conv=>whnf
  rw [h3]
  exact ⟨_,.refl _,rfl,rfl⟩
theorem eqG_spec (a b:List (Int×Int)) (ha:a.length≤2 ^ 40):PSpec Tryz.prog 181 [.d (slT 2 encG a),.d (slT 2 encG b)] (· = tvb (decide (a=b))):=by
 refine PSpec.run (tysOk) followsB Tryz.func181 (by decide) rfl Tryz.ntmps181 (Nat.le_of_ble_eq_true rfl) rfl fun w0 R0 hGw=>?_
 conv=>whnf
 split<;>rename_i h1
 ·have h1:a.length≠b.length:=by simp at h1;omega
  have h2:decide (a=b)=false:=decide_eq_false fun e=>h1 (congrArg List.length e)
  conv=>whnf
  rw [h2]
  exact ⟨_,.refl _,rfl,rfl⟩
 have h1:a.length=b.length:=by simp at h1;omega
 conv=>whnf
 refine ALoop.introR tysOk followsB (fun k:{k // k≤a.length∧∀j,j<k→a.getD j default=b.getD j default}=>([(0,.d (slT 2 encG a)),(1,.d (slT 2 encG b)),(12,tvi a.length),(13,tvi k.1)],[])) (fun k=>a.length-k.1) ⟨0,by omega,fun j hj=>by omega⟩ ⟨.refl _,.refl _,.refl _,.refl _,trivial⟩ ?_
 rintro ⟨k,hk,hj⟩
 dsimp only
 conv=>whnf
 split<;>rename_i h2
 ·have h2:k<a.length:=Int.ofNat_lt.1 (of_decide_eq_true h2)
  conv=>whnf
  refine gO ?_
  conv=>whnf
  refine gO ?_
  conv=>whnf
  refine gR ?_
  conv=>whnf
  split<;>rename_i h3
  ·have h3:¬a.getD k default=b.getD k default:=fun e=>by
    simp only [tnC] at h3
    rw [e] at h3
    simp at h3
   have h4:decide (a=b)=false:=decide_eq_false fun e=>h3 (by rw [e])
   conv=>whnf
   rw [h4]
   exact ⟨_,.refl _,rfl,rfl⟩
  ·have h3:a.getD k default=b.getD k default:=by
    simp only [tnC,Bool.not_eq_false',Bool.and_true,Bool.and_eq_true,beq_iff_eq] at h3
    exact Prod.ext h3.1 h3.2
   conv=>whnf
   refine gO ?_
   conv=>whnf
   exact ⟨⟨k+1,by omega,fun j hj'=>(Nat.lt_or_eq_of_le (Nat.le_of_lt_succ hj')).elim (hj j) (fun e=>e▸h3)⟩,[],by dsimp only;omega,.refl _,.refl _,.refl _,.refl _,trivial⟩
 ·have h2:¬k<a.length:=fun h=>of_decide_eq_false h2 (Int.ofNat_lt.2 h)
  have h3:decide (a=b)=true:=decide_eq_true (ext_getD h1 fun j hj'=>hj j (by omega))
  conv=>whnf
  rw [h3]
  exact ⟨_,.refl _,rfl,rfl⟩
theorem eqI_spec (a b:List Tlv.It) (ha:a.length≤2 ^ 40):PSpec Tryz.prog 183 [.d (slT 2 encI a),.d (slT 2 encI b)] (· = tvb (decide (a=b))):=by
 refine PSpec.run (tysOk) followsB Tryz.func183 (by decide) rfl Tryz.ntmps183 (Nat.le_of_ble_eq_true rfl) rfl fun w0 R0 hGw=>?_
 conv=>whnf
 split<;>rename_i h1
 ·have h1:a.length≠b.length:=by simp at h1;omega
  have h2:decide (a=b)=false:=decide_eq_false fun e=>h1 (congrArg List.length e)
  conv=>whnf
  rw [h2]
  exact ⟨_,.refl _,rfl,rfl⟩
 have h1:a.length=b.length:=by simp at h1;omega
 conv=>whnf
 refine ALoop.introR tysOk followsB (fun k:{k // k≤a.length∧∀j,j<k→a.getD j default=b.getD j default}=>([(0,.d (slT 2 encI a)),(1,.d (slT 2 encI b)),(12,tvi a.length),(13,tvi k.1)],[])) (fun k=>a.length-k.1) ⟨0,by omega,fun j hj=>by omega⟩ ⟨.refl _,.refl _,.refl _,.refl _,trivial⟩ ?_
 rintro ⟨k,hk,hj⟩
 dsimp only
 conv=>whnf
 split<;>rename_i h2
 ·have h2:k<a.length:=Int.ofNat_lt.1 (of_decide_eq_true h2)
  conv=>whnf
  refine gO ?_
  conv=>whnf
  refine gO ?_
  conv=>whnf
  refine gR ?_
  conv=>whnf
  split<;>rename_i h3
  ·have h3:¬a.getD k default=b.getD k default:=fun e=>by
    simp only [tnC] at h3
    rw [e] at h3
    simp at h3
   have h4:decide (a=b)=false:=decide_eq_false fun e=>h3 (by rw [e])
   conv=>whnf
   rw [h4]
   exact ⟨_,.refl _,rfl,rfl⟩
  ·have h3:a.getD k default=b.getD k default:=by
    simp only [tnC,Bool.not_eq_false',Bool.and_true,Bool.and_eq_true,beq_iff_eq] at h3
    exact It.ext_of h3.1 h3.2
   conv=>whnf
   refine gO ?_
   conv=>whnf
   exact ⟨⟨k+1,by omega,fun j hj'=>(Nat.lt_or_eq_of_le (Nat.le_of_lt_succ hj')).elim (hj j) (fun e=>e▸h3)⟩,[],by dsimp only;omega,.refl _,.refl _,.refl _,.refl _,trivial⟩
 ·have h2:¬k<a.length:=fun h=>of_decide_eq_false h2 (Int.ofNat_lt.2 h)
  have h3:decide (a=b)=true:=decide_eq_true (ext_getD h1 fun j hj'=>hj j (by omega))
  conv=>whnf
  rw [h3]
  exact ⟨_,.refl _,rfl,rfl⟩
def GapsOk (l:List (Int×Int)):Prop:=∀j,0≤(l.getD j default).1∧(l.getD j default).1<65536∧0≤(l.getD j default).2∧(l.getD j default).2<65536
theorem drop_getD {α} [Inhabited α] (l:List α) (k:Nat) (h:k<l.length):l.drop k=l.getD k default::l.drop (k+1):=by
 rw [List.drop_eq_getElem_cons h,List.getD_eq_getElem?_getD,List.getElem?_eq_getElem h]
 rfl
theorem rising_spec (l:List (Int×Int)) (ha:l.length≤2 ^ 40) (hG:GapsOk l):PSpec Tryz.prog 180 [.d (slT 2 encG l)] (· = tvb (risesB l)):=by
 refine PSpec.run (tysOk) followsB Tryz.func180 (by decide) rfl Tryz.ntmps180 (Nat.le_of_ble_eq_true rfl) rfl fun w0 R0 hGw=>?_
 conv=>whnf
 refine ALoop.introR tysOk followsB (fun k:{k:Nat×Int // k.1≤l.length∧-1≤k.2∧k.2<65536∧risingG (-1) l=risingG k.2 (l.drop k.1)}=>([(0,.d (slT 2 encG l)),(3,tvi k.1.2),(6,.d (slT 2 encG l)),(7,tvi l.length),(8,tvi k.1.1)],[])) (fun k=>l.length-k.1.1) ⟨(0,-1),by omega,by decide,by decide,rfl⟩ ⟨.refl _,.refl _,.refl _,.refl _,.refl _,trivial⟩ ?_
 rintro ⟨⟨k,last⟩,hk,hl1,hl2,hj⟩
 dsimp only at hk hl1 hl2 hj ⊢
 conv=>whnf
 split<;>rename_i h2
 ·have h2:k<l.length:=Int.ofNat_lt.1 (of_decide_eq_true h2)
  have hg:=hG k
  rw [drop_getD l k h2] at hj
  conv=>whnf
  refine gO ?_
  conv=>whnf
  refine gO ?_
  conv=>whnf
  refine gO ?_
  conv=>whnf
  refine gO ?_
  conv=>whnf
  split<;>rename_i h3
  ·have h3:=of_decide_eq_true h3
   conv=>whnf
   have e:risesB l=false:=by
    rw [risesB,hj,risingG,show decide ((l.getD k default).1<last+2)=true from decide_eq_true h3]
    simp
   rw [e]
   exact ⟨_,.refl _,rfl,rfl⟩
  ·have h3:=of_decide_eq_false h3
   conv=>whnf
   refine gO ?_
   conv=>whnf
   split<;>rename_i h4
   ·have h4:((l.getD k default).1==0)=true:=h4
    conv=>whnf
    have e:risesB l=false:=by
     rw [risesB,hj,risingG,h4]
     simp
    rw [e]
    exact ⟨_,.refl _,rfl,rfl⟩
   ·have h4:((l.getD k default).1==0)=false:=h4
    conv=>whnf
    refine gO ?_
    conv=>whnf
    refine gO ?_
    conv=>whnf
    split<;>rename_i h5
    ·have h5:=of_decide_eq_true h5
     conv=>whnf
     have e:risesB l=false:=by
      rw [risesB,hj,risingG,show decide ((l.getD k default).2<(l.getD k default).1)=true from decide_eq_true h5]
      simp
     rw [e]
     exact ⟨_,.refl _,rfl,rfl⟩
    ·have h5:=of_decide_eq_false h5
     conv=>whnf
     refine gO ?_
     conv=>whnf
     refine gO ?_
     conv=>whnf
     refine gO ?_
     conv=>whnf
     refine ⟨⟨(k+1,(l.getD k default).2),by dsimp only;omega,by dsimp only;omega,by dsimp only;omega,?_⟩,[],by dsimp only;omega,.refl _,.refl _,.refl _,.refl _,.refl _,trivial⟩
     rw [hj,risingG,show decide ((l.getD k default).1<last+2)=false from decide_eq_false h3,h4,show decide ((l.getD k default).2<(l.getD k default).1)=false from decide_eq_false h5]
     simp
 ·have h2:¬k<l.length:=fun h=>of_decide_eq_false h2 (Int.ofNat_lt.2 h)
  conv=>whnf
  rw [List.drop_of_length_le (by omega)] at hj
  have e:risesB l=decide ((l.length:Int)≤100):=by
   rw [risesB,hj,show risingG last []=true from rfl,Bool.true_and]
   exact decide_eq_decide.2 ⟨fun h=>by omega,fun h=>by omega⟩
  rw [e]
  exact ⟨_,.refl _,rfl,rfl⟩
def textB (c:Ch):Bool:=decide (1≤(c.text.length:Int))&&decide ((c.text.length:Int)≤1000)
def fitsB (c:Ch):Bool:=
 if c.ty=0 then decide (0≤c.flags)&&decide (c.flags≤7)&&textB c
 else if c.ty=1∨c.ty=2 then (c.tag != 0)&&(c.outs != 0)&&(c.ins != 0)
 else if c.ty=3 then risesB c.gaps&&decide ((c.dups.length:Int)≤100)
 else if c.ty=4∨c.ty=5 then (c.items.length==1)&&((c.items.getD 0 default).ty==1)
 else if c.ty=9 then decide (0<(c.items.length:Int))
 else if c.ty=10 then textB c
 else if c.ty=6∨c.ty=14 then c.flags==0 ||c.flags==1
 else if c.ty=7∨c.ty=8∨c.ty=11 then true
 else decide (0≤c.ty)&&decide (c.ty<256)&&decide (0≤c.flags)&&decide (c.flags<256)&&decide ((c.text.length:Int)≤1000)
theorem fits_spec (c:Ch) (hg:c.gaps.length≤2 ^ 40) (hG:GapsOk c.gaps):PSpec Tryz.prog 122 [cA c] (· = tvb (fitsB c)):=by
 refine PSpec.run (tysOk) followsB Tryz.func122 (by decide) rfl Tryz.ntmps122 (Nat.le_of_ble_eq_true rfl) rfl fun w0 R0 hGw=>?_
 conv=>whnf
 split<;>rename_i h1
 ·conv=>whnf
  split<;>rename_i g0b
  ·have g0:c.ty=0:=by simpa using g0b
   conv=>whnf
   repeat' (split<;>(conv=>whnf))
   all_goals exact ⟨_,.refl _,by simp [fitsB,textB, *],rfl⟩
  have g0:¬c.ty=0:=by simpa using g0b
  conv=>whnf
  split<;>rename_i g1b
  ·have g1:c.ty=1:=by simpa using g1b
   conv=>whnf
   try (rw [g1b];conv=>whnf)
   repeat' (split<;>(conv=>whnf))
   all_goals exact ⟨_,.refl _,by simp [fitsB,textB, *],rfl⟩
  have g1:¬c.ty=1:=by simpa using g1b
  conv=>whnf
  split<;>rename_i g2b
  ·have g2:c.ty=2:=by simpa using g2b
   conv=>whnf
   try (rw [g1b];conv=>whnf)
   try (rw [g2b];conv=>whnf)
   repeat' (split<;>(conv=>whnf))
   all_goals exact ⟨_,.refl _,by simp [fitsB,textB, *],rfl⟩
  have g2:¬c.ty=2:=by simpa using g2b
  conv=>whnf
  split<;>rename_i g3b
  ·have g3:c.ty=3:=by simpa using g3b
   conv=>whnf
   refine ⟨_,rising_spec c.gaps hg hG,?_⟩
   rintro q rfl
   conv=>whnf
   repeat' (split<;>(conv=>whnf))
   all_goals exact ⟨_,.refl _,by simp [fitsB,textB, *],rfl⟩
  have g3:¬c.ty=3:=by simpa using g3b
  conv=>whnf
  split<;>rename_i g4b
  ·have g4:c.ty=4:=by simpa using g4b
   conv=>whnf
   try (rw [g4b];conv=>whnf)
   split<;>rename_i h6
   ·have h6':c.items.length=1:=by
     simp at h6
     omega
    conv=>whnf
    refine gO ?_
    conv=>whnf
    exact ⟨_,.refl _,by simp [fitsB,textB, *],rfl⟩
   ·have h6':¬c.items.length=1:=by
     simp at h6
     omega
    conv=>whnf
    exact ⟨_,.refl _,by simp [fitsB,textB, *],rfl⟩
  have g4:¬c.ty=4:=by simpa using g4b
  conv=>whnf
  split<;>rename_i g5b
  ·have g5:c.ty=5:=by simpa using g5b
   conv=>whnf
   try (rw [g4b];conv=>whnf)
   try (rw [g5b];conv=>whnf)
   split<;>rename_i h6
   ·have h6':c.items.length=1:=by
     simp at h6
     omega
    conv=>whnf
    refine gO ?_
    conv=>whnf
    exact ⟨_,.refl _,by simp [fitsB,textB, *],rfl⟩
   ·have h6':¬c.items.length=1:=by
     simp at h6
     omega
    conv=>whnf
    exact ⟨_,.refl _,by simp [fitsB,textB, *],rfl⟩
  have g5:¬c.ty=5:=by simpa using g5b
  conv=>whnf
  split<;>rename_i g9b
  ·have g9:c.ty=9:=by simpa using g9b
   conv=>whnf
   repeat' (split<;>(conv=>whnf))
   all_goals exact ⟨_,.refl _,by simp [fitsB,textB, *],rfl⟩
  have g9:¬c.ty=9:=by simpa using g9b
  conv=>whnf
  split<;>rename_i g10b
  ·have g10:c.ty=10:=by simpa using g10b
   conv=>whnf
   repeat' (split<;>(conv=>whnf))
   all_goals exact ⟨_,.refl _,by simp [fitsB,textB, *],rfl⟩
  have g10:¬c.ty=10:=by simpa using g10b
  conv=>whnf
  split<;>rename_i g6b
  ·have g6:c.ty=6:=by simpa using g6b
   conv=>whnf
   try (rw [g6b];conv=>whnf)
   repeat' (split<;>(conv=>whnf))
   all_goals exact ⟨_,.refl _,by simp [fitsB,textB, *],rfl⟩
  have g6:¬c.ty=6:=by simpa using g6b
  conv=>whnf
  split<;>rename_i g14b
  ·have g14:c.ty=14:=by simpa using g14b
   conv=>whnf
   try (rw [g6b];conv=>whnf)
   try (rw [g14b];conv=>whnf)
   repeat' (split<;>(conv=>whnf))
   all_goals exact ⟨_,.refl _,by simp [fitsB,textB, *],rfl⟩
  have g14:¬c.ty=14:=by simpa using g14b
  conv=>whnf
  split<;>rename_i g7b
  ·have g7:c.ty=7:=by simpa using g7b
   conv=>whnf
   try (rw [g7b];conv=>whnf)
   repeat' (split<;>(conv=>whnf))
   all_goals exact ⟨_,.refl _,by simp [fitsB,textB, *],rfl⟩
  have g7:¬c.ty=7:=by simpa using g7b
  conv=>whnf
  split<;>rename_i g8b
  ·have g8:c.ty=8:=by simpa using g8b
   conv=>whnf
   try (rw [g7b];conv=>whnf)
   try (rw [g8b];conv=>whnf)
   repeat' (split<;>(conv=>whnf))
   all_goals exact ⟨_,.refl _,by simp [fitsB,textB, *],rfl⟩
  have g8:¬c.ty=8:=by simpa using g8b
  conv=>whnf
  split<;>rename_i g11b
  ·have g11:c.ty=11:=by simpa using g11b
   conv=>whnf
   try (rw [g7b];conv=>whnf)
   try (rw [g8b];conv=>whnf)
   try (rw [g11b];conv=>whnf)
   repeat' (split<;>(conv=>whnf))
   all_goals exact ⟨_,.refl _,by simp [fitsB,textB, *],rfl⟩
  have g11:¬c.ty=11:=by simpa using g11b
  conv=>whnf
  repeat' (split<;>(conv=>whnf))
  all_goals exact ⟨_,.refl _,by simp [fitsB,textB, *],rfl⟩
 ·conv=>whnf
  split<;>rename_i g0b
  ·have g0:c.ty=0:=by simpa using g0b
   conv=>whnf
   repeat' (split<;>(conv=>whnf))
   all_goals exact ⟨_,.refl _,by simp [fitsB,textB, *],rfl⟩
  have g0:¬c.ty=0:=by simpa using g0b
  conv=>whnf
  split<;>rename_i g1b
  ·have g1:c.ty=1:=by simpa using g1b
   conv=>whnf
   try (rw [g1b];conv=>whnf)
   repeat' (split<;>(conv=>whnf))
   all_goals exact ⟨_,.refl _,by simp [fitsB,textB, *],rfl⟩
  have g1:¬c.ty=1:=by simpa using g1b
  conv=>whnf
  split<;>rename_i g2b
  ·have g2:c.ty=2:=by simpa using g2b
   conv=>whnf
   try (rw [g1b];conv=>whnf)
   try (rw [g2b];conv=>whnf)
   repeat' (split<;>(conv=>whnf))
   all_goals exact ⟨_,.refl _,by simp [fitsB,textB, *],rfl⟩
  have g2:¬c.ty=2:=by simpa using g2b
  conv=>whnf
  split<;>rename_i g3b
  ·have g3:c.ty=3:=by simpa using g3b
   conv=>whnf
   refine ⟨_,rising_spec c.gaps hg hG,?_⟩
   rintro q rfl
   conv=>whnf
   repeat' (split<;>(conv=>whnf))
   all_goals exact ⟨_,.refl _,by simp [fitsB,textB, *],rfl⟩
  have g3:¬c.ty=3:=by simpa using g3b
  conv=>whnf
  split<;>rename_i g4b
  ·have g4:c.ty=4:=by simpa using g4b
   conv=>whnf
   try (rw [g4b];conv=>whnf)
   split<;>rename_i h6
   ·have h6':c.items.length=1:=by
     simp at h6
     omega
    conv=>whnf
    refine gO ?_
    conv=>whnf
    exact ⟨_,.refl _,by simp [fitsB,textB, *],rfl⟩
   ·have h6':¬c.items.length=1:=by
     simp at h6
     omega
    conv=>whnf
    exact ⟨_,.refl _,by simp [fitsB,textB, *],rfl⟩
  have g4:¬c.ty=4:=by simpa using g4b
  conv=>whnf
  split<;>rename_i g5b
  ·have g5:c.ty=5:=by simpa using g5b
   conv=>whnf
   try (rw [g4b];conv=>whnf)
   try (rw [g5b];conv=>whnf)
   split<;>rename_i h6
   ·have h6':c.items.length=1:=by
     simp at h6
     omega
    conv=>whnf
    refine gO ?_
    conv=>whnf
    exact ⟨_,.refl _,by simp [fitsB,textB, *],rfl⟩
   ·have h6':¬c.items.length=1:=by
     simp at h6
     omega
    conv=>whnf
    exact ⟨_,.refl _,by simp [fitsB,textB, *],rfl⟩
  have g5:¬c.ty=5:=by simpa using g5b
  conv=>whnf
  split<;>rename_i g9b
  ·have g9:c.ty=9:=by simpa using g9b
   conv=>whnf
   repeat' (split<;>(conv=>whnf))
   all_goals exact ⟨_,.refl _,by simp [fitsB,textB, *],rfl⟩
  have g9:¬c.ty=9:=by simpa using g9b
  conv=>whnf
  split<;>rename_i g10b
  ·have g10:c.ty=10:=by simpa using g10b
   conv=>whnf
   repeat' (split<;>(conv=>whnf))
   all_goals exact ⟨_,.refl _,by simp [fitsB,textB, *],rfl⟩
  have g10:¬c.ty=10:=by simpa using g10b
  conv=>whnf
  split<;>rename_i g6b
  ·have g6:c.ty=6:=by simpa using g6b
   conv=>whnf
   try (rw [g6b];conv=>whnf)
   repeat' (split<;>(conv=>whnf))
   all_goals exact ⟨_,.refl _,by simp [fitsB,textB, *],rfl⟩
  have g6:¬c.ty=6:=by simpa using g6b
  conv=>whnf
  split<;>rename_i g14b
  ·have g14:c.ty=14:=by simpa using g14b
   conv=>whnf
   try (rw [g6b];conv=>whnf)
   try (rw [g14b];conv=>whnf)
   repeat' (split<;>(conv=>whnf))
   all_goals exact ⟨_,.refl _,by simp [fitsB,textB, *],rfl⟩
  have g14:¬c.ty=14:=by simpa using g14b
  conv=>whnf
  split<;>rename_i g7b
  ·have g7:c.ty=7:=by simpa using g7b
   conv=>whnf
   try (rw [g7b];conv=>whnf)
   repeat' (split<;>(conv=>whnf))
   all_goals exact ⟨_,.refl _,by simp [fitsB,textB, *],rfl⟩
  have g7:¬c.ty=7:=by simpa using g7b
  conv=>whnf
  split<;>rename_i g8b
  ·have g8:c.ty=8:=by simpa using g8b
   conv=>whnf
   try (rw [g7b];conv=>whnf)
   try (rw [g8b];conv=>whnf)
   repeat' (split<;>(conv=>whnf))
   all_goals exact ⟨_,.refl _,by simp [fitsB,textB, *],rfl⟩
  have g8:¬c.ty=8:=by simpa using g8b
  conv=>whnf
  split<;>rename_i g11b
  ·have g11:c.ty=11:=by simpa using g11b
   conv=>whnf
   try (rw [g7b];conv=>whnf)
   try (rw [g8b];conv=>whnf)
   try (rw [g11b];conv=>whnf)
   repeat' (split<;>(conv=>whnf))
   all_goals exact ⟨_,.refl _,by simp [fitsB,textB, *],rfl⟩
  have g11:¬c.ty=11:=by simpa using g11b
  conv=>whnf
  repeat' (split<;>(conv=>whnf))
  all_goals exact ⟨_,.refl _,by simp [fitsB,textB, *],rfl⟩
theorem same_spec7 (c d:Ch) (hg:c.gaps.length≤2 ^ 40) (hd:c.dups.length≤2 ^ 40) (hi:c.items.length≤2 ^ 40):PSpec Tryz.prog 123 [cA c,cA d] (· = tvb (decide (c=d))):=by
 refine PSpec.run (tysOk) followsB Tryz.func123 (by decide) rfl Tryz.ntmps123 (Nat.le_of_ble_eq_true rfl) rfl fun w0 R0 hGw=>?_
 conv=>whnf
 by_cases q_ty:c.ty=d.ty
 rotate_left
 ·have e:decide (c=d)=false:=decide_eq_false fun e=>q_ty (congrArg Ch.ty e)
  have q':(c.ty==d.ty)=false:=by simp [q_ty]
  rw [q',e]
  clear q_ty q' e
  conv=>whnf
  repeat' (split<;>(conv=>whnf))
  all_goals exact ⟨_,.refl _,rfl,rfl⟩
 rw [show (c.ty==d.ty)=true from by simp [q_ty]]
 conv=>whnf
 by_cases q_flags:c.flags=d.flags
 rotate_left
 ·have e:decide (c=d)=false:=decide_eq_false fun e=>q_flags (congrArg Ch.flags e)
  have q':(c.flags==d.flags)=false:=by simp [q_flags]
  rw [q',e]
  clear q_flags q' e
  conv=>whnf
  repeat' (split<;>(conv=>whnf))
  all_goals exact ⟨_,.refl _,rfl,rfl⟩
 rw [show (c.flags==d.flags)=true from by simp [q_flags]]
 conv=>whnf
 by_cases q_tsn:c.tsn=d.tsn
 rotate_left
 ·have e:decide (c=d)=false:=decide_eq_false fun e=>q_tsn (congrArg Ch.tsn e)
  have q':(c.tsn==d.tsn)=false:=by simp [q_tsn]
  rw [q',e]
  clear q_tsn q' e
  conv=>whnf
  repeat' (split<;>(conv=>whnf))
  all_goals exact ⟨_,.refl _,rfl,rfl⟩
 rw [show (c.tsn==d.tsn)=true from by simp [q_tsn]]
 conv=>whnf
 by_cases q_tag:c.tag=d.tag
 rotate_left
 ·have e:decide (c=d)=false:=decide_eq_false fun e=>q_tag (congrArg Ch.tag e)
  have q':(c.tag==d.tag)=false:=by simp [q_tag]
  rw [q',e]
  clear q_tag q' e
  conv=>whnf
  repeat' (split<;>(conv=>whnf))
  all_goals exact ⟨_,.refl _,rfl,rfl⟩
 rw [show (c.tag==d.tag)=true from by simp [q_tag]]
 conv=>whnf
 by_cases q_window:c.window=d.window
 rotate_left
 ·have e:decide (c=d)=false:=decide_eq_false fun e=>q_window (congrArg Ch.window e)
  have q':(c.window==d.window)=false:=by simp [q_window]
  rw [q',e]
  clear q_window q' e
  conv=>whnf
  repeat' (split<;>(conv=>whnf))
  all_goals exact ⟨_,.refl _,rfl,rfl⟩
 rw [show (c.window==d.window)=true from by simp [q_window]]
 conv=>whnf
 by_cases q_ppid:c.ppid=d.ppid
 rotate_left
 ·have e:decide (c=d)=false:=decide_eq_false fun e=>q_ppid (congrArg Ch.ppid e)
  have q':(c.ppid==d.ppid)=false:=by simp [q_ppid]
  rw [q',e]
  clear q_ppid q' e
  conv=>whnf
  repeat' (split<;>(conv=>whnf))
  all_goals exact ⟨_,.refl _,rfl,rfl⟩
 rw [show (c.ppid==d.ppid)=true from by simp [q_ppid]]
 conv=>whnf
 by_cases q_stream:c.stream=d.stream
 rotate_left
 ·have e:decide (c=d)=false:=decide_eq_false fun e=>q_stream (congrArg Ch.stream e)
  have q':(c.stream==d.stream)=false:=by simp [q_stream]
  rw [q',e]
  clear q_stream q' e
  conv=>whnf
  repeat' (split<;>(conv=>whnf))
  all_goals exact ⟨_,.refl _,rfl,rfl⟩
 rw [show (c.stream==d.stream)=true from by simp [q_stream]]
 conv=>whnf
 by_cases q_ssn:c.ssn=d.ssn
 rotate_left
 ·have e:decide (c=d)=false:=decide_eq_false fun e=>q_ssn (congrArg Ch.ssn e)
  have q':(c.ssn==d.ssn)=false:=by simp [q_ssn]
  rw [q',e]
  clear q_ssn q' e
  conv=>whnf
  repeat' (split<;>(conv=>whnf))
  all_goals exact ⟨_,.refl _,rfl,rfl⟩
 rw [show (c.ssn==d.ssn)=true from by simp [q_ssn]]
 conv=>whnf
 by_cases q_outs:c.outs=d.outs
 rotate_left
 ·have e:decide (c=d)=false:=decide_eq_false fun e=>q_outs (congrArg Ch.outs e)
  have q':(c.outs==d.outs)=false:=by simp [q_outs]
  rw [q',e]
  clear q_outs q' e
  conv=>whnf
  repeat' (split<;>(conv=>whnf))
  all_goals exact ⟨_,.refl _,rfl,rfl⟩
 rw [show (c.outs==d.outs)=true from by simp [q_outs]]
 conv=>whnf
 by_cases q_ins:c.ins=d.ins
 rotate_left
 ·have e:decide (c=d)=false:=decide_eq_false fun e=>q_ins (congrArg Ch.ins e)
  have q':(c.ins==d.ins)=false:=by simp [q_ins]
  rw [q',e]
  clear q_ins q' e
  conv=>whnf
  repeat' (split<;>(conv=>whnf))
  all_goals exact ⟨_,.refl _,rfl,rfl⟩
 rw [show (c.ins==d.ins)=true from by simp [q_ins]]
 conv=>whnf
 by_cases q_text:c.text=d.text
 rotate_left
 ·have e:decide (c=d)=false:=decide_eq_false fun e=>q_text (congrArg Ch.text e)
  have q':(c.text==d.text)=false:=by simp [q_text]
  rw [q',e]
  clear q_text q' e
  conv=>whnf
  repeat' (split<;>(conv=>whnf))
  all_goals exact ⟨_,.refl _,rfl,rfl⟩
 rw [show (c.text==d.text)=true from by simp [q_text]]
 conv=>whnf
 refine ⟨_,eqG_spec c.gaps d.gaps hg,?_⟩
 rintro q rfl
 conv=>whnf
 by_cases q_gaps:c.gaps=d.gaps
 rotate_left
 ·have e:decide (c=d)=false:=decide_eq_false fun e=>q_gaps (congrArg Ch.gaps e)
  rw [decide_eq_false q_gaps,e]
  clear q_gaps e
  conv=>whnf
  repeat' (split<;>(conv=>whnf))
  all_goals exact ⟨_,.refl _,rfl,rfl⟩
 rw [decide_eq_true q_gaps]
 conv=>whnf
 refine ⟨_,eq32_spec c.dups d.dups hd,?_⟩
 rintro q rfl
 conv=>whnf
 by_cases q_dups:c.dups=d.dups
 rotate_left
 ·have e:decide (c=d)=false:=decide_eq_false fun e=>q_dups (congrArg Ch.dups e)
  rw [decide_eq_false q_dups,e]
  clear q_dups e
  conv=>whnf
  repeat' (split<;>(conv=>whnf))
  all_goals exact ⟨_,.refl _,rfl,rfl⟩
 rw [decide_eq_true q_dups]
 conv=>whnf
 refine ⟨_,eqI_spec c.items d.items hi,?_⟩
 rintro q rfl
 conv=>whnf
 by_cases q_items:c.items=d.items
 rotate_left
 ·have e:decide (c=d)=false:=decide_eq_false fun e=>q_items (congrArg Ch.items e)
  rw [decide_eq_false q_items,e]
  clear q_items e
  conv=>whnf
  repeat' (split<;>(conv=>whnf))
  all_goals exact ⟨_,.refl _,rfl,rfl⟩
 rw [decide_eq_true q_items]
 conv=>whnf
 have e:decide (c=d)=true:=decide_eq_true (by
  cases c;cases d
  simp only at q_ty q_flags q_tsn q_tag q_window q_ppid q_stream q_ssn q_outs q_ins q_text q_gaps q_dups q_items
  subst q_ty q_flags q_tsn q_tag q_window q_ppid q_stream q_ssn q_outs q_ins q_text q_gaps q_dups q_items
  rfl)
 rw [e]
 exact ⟨_,.refl _,rfl,rfl⟩
end Go.Proofs.YtbkcekmahdbgdaaGreat
namespace Towline.Tlv
def lastN (l:List It):Nat:=(l.getD (l.length-1) default).v.length
def cutB (l:List It):List UInt8:=(bytes l).take ((bytes l).length-padN (lastN l))
theorem ok_bytes {l:List It} (h:(buildL l).2=0):buildL l=(bytes l,0)∧(bytes l).length≤4000∧∀j,(l.getD j default).v.length≤1400:=by
 unfold buildL at h ⊢
 split
 ·rename_i h1
  rw [if_pos h1] at h
  cases h
 ·rename_i h1
  rw [if_neg h1] at h
  split
  ·rename_i h2
   rw [if_pos h2] at h
   cases h
  ·rename_i h2
   rw [if_neg h2] at h
   split
   ·rename_i h3
    rw [if_pos h3] at h
    cases h
   ·rename_i h3
    refine ⟨rfl,by omega,fun j=>?_⟩
    by_cases hj:j<l.length
    ·have hx:¬longV (l.getD j default)=true:=fun hx=>h2 (any_true hj hx)
     unfold longV at hx
     simpa using hx
    ·rw [List.getD_eq_getElem?_getD,List.getElem?_eq_none (by omega)]
     decide
theorem bytes_ge {l:List It} (h:0<l.length):4≤(bytes l).length:=by
 match l,h with
 |x::r,_=>
  show 4≤(List.flatMap enc (x::r)).length
  rw [List.flatMap_cons]
  simp only [enc,hdr,List.length_append,List.length_cons]
  omega
theorem cut_eq {l:List It} (h:0<l.length):cutS (bytes l) none (some ((bytes l).length-padN (lastN l)))=cutB l:=by
 have h1:=bytes_ge h
 have h2:padN (lastN l)<4:=Nat.mod_lt _ (by decide)
 unfold cutB
 simp only [cutS]
 rw [show (((bytes l).length:Int)-padN (lastN l)).toNat=(bytes l).length-padN (lastN l) from by omega]
theorem cut_len (l:List It):(cutB l).length≤(bytes l).length:=by
 unfold cutB
 rw [List.length_take]
 omega
theorem pad_lt (n:Nat):padN n<4:=Nat.mod_lt _ (by decide)
end Towline.Tlv
namespace Go.Proofs.YtbkcekmahdbgdaaGreat
open Go Go.RowKit Towline Towline.Tlv Towline.Chunk
set_option linter.unusedVariables false
set_option linter.unusedSimpArgs false
set_option maxRecDepth 20000
set_option maxHeartbeats 4000000
abbrev valT:Tys:=tysX false [] [(184,[false,true]),(185,[false,true]),(186,[])] []
abbrev valTOk:TysOk Tryz.prog valT:=tysXOk _ _ _ _
theorem largsC {P:Program} {f:FuncId} {args args':List AVal} {hl:Heap} {post:AVal→Heap→Prop} (h:LSpec P f args hl post) (hc:OLe.CLe args' args):LSpec P f args' hl post:=by
 obtain ⟨h1,h2⟩:=CLe_get hc
 refine ⟨h.1,fun w R L vs k0 k1 k2 k3 k4 k5 k6 k7=>h.2 w R L vs k0 k1 (k2.trans h1.symm) k3 (fun i x hx=>?_) k5 k6 k7⟩
 obtain ⟨y,hy,hle⟩:=h2 i x hx
 exact hle.out _ _ _ _ (k4 i y hy)
theorem sl_le {α} [Inhabited α] {k:Nat} {enc:α→List D} {l:List α} {n:Nat} {f:Nat→List D} (h:n=l.length) (hf:∀j,j<n→f j=enc (l.getD j default)):(AVal.d (.sl k n f)).le (.d (slT k enc l)):=.sl h hf
theorem rows32_0 (s:List UInt8) (f:Nat→List D):LSpec Tryz.prog 184 [.rsl E0 1 0 s.length,.d (.sl 1 0 f)] [(E0,rowB s)] (fun r hl=>r=.rsl E0 1 0 s.length∧hl=[(E0,rowB s)]):=by
 refine LSpec.run (tysXOk false [] [(186,[])] []) followsB Tryz.func184 (by decide) rfl Tryz.ntmps184 (Nat.le_of_ble_eq_true rfl) rfl rfl fun w0 R0 Lo hGw=>?_
 conv=>whnf
 refine ALoop.introR (tysXOk false [] [(186,[])] []) followsB (fun k:Unit=>([(0,.rsl E0 1 0 s.length),(8,tvi 0),(9,tvi 0)],[(E0,rowB s)])) (fun k=>0) () ⟨.refl _,.refl _,.refl _,.refl _,trivial⟩ ?_
 intro _
 dsimp only
 conv=>whnf
 refine ⟨_,_,.refl _,?_,rfl,rfl⟩
 exact ⟨OLe.refl _,trivial⟩
theorem rows32_1 (s : List UInt8) (x : Int) {f : Nat → List D} (hf : f 0 = [.i .u32 x]) (hs : s.length ≤ 2 ^ 39) : LSpec Tryz.prog 184 [.rsl E0 1 0 s.length, .d (.sl 1 1 f)] [(E0, rowB s)] (fun r hl => r = .rsl 1000 1 0 (s ++ be4 x).length ∧ hl = [(1000, rowB (s ++ be4 x))]) := by
  have h := rows32_spec s [x] hs (by simp) (by simp)
  rw [show [x].flatMap be4 = be4 x from rfl] at h
  exact largsC h ⟨.refl _, sl_le rfl (fun j hj => by obtain rfl : j = 0 := by omega
                                                     exact hf), trivial⟩
theorem rows32_2 (s : List UInt8) (x y : Int) {f : Nat → List D} (hf : f 0 = [.i .u32 x]) (hf1 : f 1 = [.i .u32 y]) (hs : s.length ≤ 2 ^ 39) : LSpec Tryz.prog 184 [.rsl E0 1 0 s.length, .d (.sl 1 2 f)] [(E0, rowB s)] (fun r hl => r = .rsl 1000 1 0 (s ++ (be4 x ++ be4 y)).length ∧ hl = [(1000, rowB (s ++ (be4 x ++ be4 y)))]) := by
  have h := rows32_spec s [x, y] hs (by simp) (by simp)
  rw [show [x, y].flatMap be4 = be4 x ++ be4 y from by simp] at h
  exact largsC h ⟨.refl _, sl_le rfl (fun j hj => by match j, hj with
                                                     | 0, _ => exact hf
                                                     | 1, _ => exact hf1), trivial⟩
theorem rows16_2 (s : List UInt8) (x y : Int) {f : Nat → List D} (hf : f 0 = [.i .u16 x]) (hf1 : f 1 = [.i .u16 y]) (hs : s.length ≤ 2 ^ 39) : LSpec Tryz.prog 185 [.rsl E0 1 0 s.length, .d (.sl 1 2 f)] [(E0, rowB s)] (fun r hl => r = .rsl 1000 1 0 (s ++ (be2 x ++ be2 y)).length ∧ hl = [(1000, rowB (s ++ (be2 x ++ be2 y)))]) := by
  have h := rows16_spec s [x, y] hs (by simp) (by simp)
  rw [show [x, y].flatMap be2 = be2 x ++ be2 y from by simp] at h
  exact largsC h ⟨.refl _, sl_le rfl (fun j hj => by match j, hj with
                                                     | 0, _ => exact hf
                                                     | 1, _ => exact hf1), trivial⟩
theorem wrap16 {n:Int} (h:0≤n∧n<65536):IntKind.u16.wrap n=n:=by
 simp [IntKind.wrap,IntKind.signed,IntKind.bits]
 omega
def gapB (g:Int×Int):List UInt8:=be2 g.1++be2 g.2
def preB (s:List UInt8) (c:Ch):List UInt8:=
 if c.ty=0 then s++be4 c.tsn++(be2 c.stream++be2 c.ssn)++be4 c.ppid
 else if c.ty=1∨c.ty=2 then s++(be4 c.tag++be4 c.window)++(be2 c.outs++be2 c.ins)++be4 c.tsn
 else if c.ty=3 then s++(be4 c.tsn++be4 c.window)++(be2 c.gaps.length++be2 c.dups.length)++c.gaps.flatMap gapB++c.dups.flatMap be4
 else if c.ty=7 then s++be4 c.tsn
 else s
def g3B (s:List UInt8) (c:Ch) (k:Nat):List UInt8:=s++(be4 c.tsn++be4 c.window)++(be2 c.gaps.length++be2 c.dups.length)++(c.gaps.take k).flatMap gapB
theorem gapB_len (l:List (Int×Int)):(l.flatMap gapB).length=4*l.length:=by
 induction l with
 |nil=>rfl
 |cons x r ih=>rw [List.flatMap_cons,List.length_append,ih,show (gapB x).length=4 from rfl,List.length_cons];omega
theorem g3_len (s:List UInt8) (c:Ch) (k:Nat):(g3B s c k).length≤s.length+12+4*c.gaps.length:=by
 unfold g3B
 rw [List.length_append,gapB_len,List.length_take]
 simp [be4,be2]
 omega
theorem g3_step (s:List UInt8) (c:Ch) (k:Nat) (h:k<c.gaps.length):g3B s c k++(be2 (c.gaps.getD k default).1++be2 (c.gaps.getD k default).2)=g3B s c (k+1):=by
 unfold g3B
 rw [List.take_add_one,List.flatMap_append,List.getD_eq_getElem?_getD,List.getElem?_eq_getElem h]
 simp [gapB]
def valB (s:List UInt8) (c:Ch):List UInt8:=preB s c++cutB c.items++c.text
theorem row3 (p q t:List UInt8):∀k,k<p.length+q.length+t.length→fcat (fcat (bytesF p) p.length (bytesF q)) (p.length+q.length) (bytesF t) k=bytesF (p++q++t) k:=by
 intro k hk
 have h1:∀j,j<p.length+q.length→fcat (bytesF p) p.length (bytesF q) j=bytesF (p++q) j:=fun j hj=>fcat_bytes p q j hj
 have e:p.length+q.length=(p++q).length:=by simp
 rw [fcat_congr h1 (fun _ _=>rfl) k hk,e]
 exact fcat_bytes _ _ k (by rw [←e];exact hk)
theorem row3_len (p q t:List UInt8):p.length+q.length+t.length=(p++q++t).length:=by simp;omega
theorem value_spec (s:List UInt8) (c:Ch) (hs:s.length≤2 ^ 30) (hg:c.gaps.length≤100) (hd:c.dups.length≤100) (hi:c.items.length≤2 ^ 20) (hb:(buildL c.items).2=0) (ht:c.text.length≤2 ^ 30) :
  LSpec Tryz.prog 125 [.rsl E0 1 0 s.length,cA c] [(E0,rowB s)] (fun r hl=>r=.rsl 119 1 0 (valB s c).length∧hl=[(119,rowB (valB s c))]):=by
 obtain ⟨hb1,hb2,hb3⟩:=ok_bytes hb
 have hB:=build_spec c.items hi
 rw [hb1] at hB
 refine LSpec.run (valTOk) followsB Tryz.func125 (by decide) rfl Tryz.ntmps125 (Nat.le_of_ble_eq_true rfl) rfl rfl fun w0 R0 Lo hGw=>?_
 conv=>whnf
 split<;>rename_i g0b
 ·have g0:c.ty=0:=by simpa using g0b
  conv=>whnf
  refine gO ?_
  conv=>whnf
  refine ⟨_,_,rows32_1 _ c.tsn rfl (by omega),?_⟩
  conv=>whnf
  try dsimp only [newBase,Nat.reduceAdd,Nat.reduceMul]
  refine gO ?_
  conv=>whnf
  refine ⟨_,_,rows16_2 _ c.stream c.ssn rfl rfl (by simp [be4];omega),?_⟩
  conv=>whnf
  try dsimp only [newBase,Nat.reduceAdd,Nat.reduceMul]
  refine gO ?_
  conv=>whnf
  refine ⟨_,_,rows32_1 _ c.ppid rfl (by simp [be4,be2];omega),?_⟩
  conv=>whnf
  try dsimp only [newBase,Nat.reduceAdd,Nat.reduceMul]
  refine gR ?_
  conv=>whnf
  have hp:(s++be4 c.tsn++(be2 c.stream++be2 c.ssn)++be4 c.ppid).length≤2 ^ 31:=by simp [be4,be2];omega
  have hpre:(s++be4 c.tsn++(be2 c.stream++be2 c.ssn)++be4 c.ppid)++cutB c.items++c.text=valB s c:=by
   rw [valB,preB,if_pos g0]
  refine ⟨_,hB,?_⟩
  rintro q rfl
  conv=>whnf
  split<;>rename_i h1
  ·have h1:0<c.items.length:=by simp at h1;omega
   have h2:=bytes_ge h1
   have h3:=pad_lt (lastN c.items)
   have h4:=cut_len c.items
   conv=>whnf
   refine gO ?_
   conv=>whnf
   rw [show ((c.items.length:Int)-1).toNat=c.items.length-1 from by omega]
   refine gO ?_
   conv=>whnf
   refine ⟨_,pad_spec (lastN c.items) (by unfold lastN;have:=hb3 (c.items.length-1);omega),?_⟩
   rintro q rfl
   conv=>whnf
   refine gO ?_
   conv=>whnf
   refine gO ?_
   conv=>whnf
   rw [show cutS (Tlv.bytes c.items,0).fst none (some (↑(Tlv.bytes c.items,0).fst.length - ↑(padN (lastN c.items))))=cutB c.items from cut_eq h1]
   refine ⟨⟨rfl,by (try dsimp only);omega,by simp only [ty5];omega⟩,?_⟩
   conv=>whnf
   refine ⟨⟨rfl,by (try dsimp only);omega,by simp only [ty5];omega⟩,?_⟩
   conv=>whnf
   refine gR ?_
   conv=>whnf
   refine ⟨_,_,.of_eq (congrArg (AVal.rsl 119 1 0) ((row3_len _ _ _).trans (congrArg List.length hpre))),?_,rfl,rfl⟩
   exact ⟨⟨rfl,rfl,(row3_len _ _ _).trans (congrArg List.length hpre),fun k hk=>(row3 _ _ _ k hk).trans (congrArg (fun q=>bytesF q k) hpre)⟩,trivial⟩
  ·have h1:c.items=[]:=by simpa using h1
   have h4:Tlv.bytes c.items=cutB c.items:=by rw [h1];rfl
   have h4':=cut_len c.items
   conv=>whnf
   rw [h4]
   refine ⟨⟨rfl,by (try dsimp only);omega,by simp only [ty5];omega⟩,?_⟩
   conv=>whnf
   refine ⟨⟨rfl,by (try dsimp only);omega,by simp only [ty5];omega⟩,?_⟩
   conv=>whnf
   refine gR ?_
   conv=>whnf
   refine ⟨_,_,.of_eq (congrArg (AVal.rsl 119 1 0) ((row3_len _ _ _).trans (congrArg List.length hpre))),?_,rfl,rfl⟩
   exact ⟨⟨rfl,rfl,(row3_len _ _ _).trans (congrArg List.length hpre),fun k hk=>(row3 _ _ _ k hk).trans (congrArg (fun q=>bytesF q k) hpre)⟩,trivial⟩
 have g0:¬c.ty=0:=by simpa using g0b
 conv=>whnf
 split<;>rename_i g1b
 ·have g1:c.ty=1:=by simpa using g1b
  conv=>whnf
  try (rw [g1b];conv=>whnf)
  refine gO ?_
  conv=>whnf
  refine ⟨_,_,rows32_2 _ c.tag c.window rfl rfl (by omega),?_⟩
  conv=>whnf
  try dsimp only [newBase,Nat.reduceAdd,Nat.reduceMul]
  refine gO ?_
  conv=>whnf
  refine ⟨_,_,rows16_2 _ c.outs c.ins rfl rfl (by simp [be4];omega),?_⟩
  conv=>whnf
  try dsimp only [newBase,Nat.reduceAdd,Nat.reduceMul]
  refine gO ?_
  conv=>whnf
  refine ⟨_,_,rows32_1 _ c.tsn rfl (by simp [be4,be2];omega),?_⟩
  conv=>whnf
  try dsimp only [newBase,Nat.reduceAdd,Nat.reduceMul]
  refine gR ?_
  conv=>whnf
  have hp:(s++(be4 c.tag++be4 c.window)++(be2 c.outs++be2 c.ins)++be4 c.tsn).length≤2 ^ 31:=by simp [be4,be2];omega
  have hpre:(s++(be4 c.tag++be4 c.window)++(be2 c.outs++be2 c.ins)++be4 c.tsn)++cutB c.items++c.text=valB s c:=by
   rw [valB,preB,if_neg g0,if_pos (by omega:c.ty=1∨c.ty=2)]
  refine ⟨_,hB,?_⟩
  rintro q rfl
  conv=>whnf
  split<;>rename_i h1
  ·have h1:0<c.items.length:=by simp at h1;omega
   have h2:=bytes_ge h1
   have h3:=pad_lt (lastN c.items)
   have h4:=cut_len c.items
   conv=>whnf
   refine gO ?_
   conv=>whnf
   rw [show ((c.items.length:Int)-1).toNat=c.items.length-1 from by omega]
   refine gO ?_
   conv=>whnf
   refine ⟨_,pad_spec (lastN c.items) (by unfold lastN;have:=hb3 (c.items.length-1);omega),?_⟩
   rintro q rfl
   conv=>whnf
   refine gO ?_
   conv=>whnf
   refine gO ?_
   conv=>whnf
   rw [show cutS (Tlv.bytes c.items,0).fst none (some (↑(Tlv.bytes c.items,0).fst.length - ↑(padN (lastN c.items))))=cutB c.items from cut_eq h1]
   refine ⟨⟨rfl,by (try dsimp only);omega,by simp only [ty5];omega⟩,?_⟩
   conv=>whnf
   refine ⟨⟨rfl,by (try dsimp only);omega,by simp only [ty5];omega⟩,?_⟩
   conv=>whnf
   refine gR ?_
   conv=>whnf
   refine ⟨_,_,.of_eq (congrArg (AVal.rsl 119 1 0) ((row3_len _ _ _).trans (congrArg List.length hpre))),?_,rfl,rfl⟩
   exact ⟨⟨rfl,rfl,(row3_len _ _ _).trans (congrArg List.length hpre),fun k hk=>(row3 _ _ _ k hk).trans (congrArg (fun q=>bytesF q k) hpre)⟩,trivial⟩
  ·have h1:c.items=[]:=by simpa using h1
   have h4:Tlv.bytes c.items=cutB c.items:=by rw [h1];rfl
   have h4':=cut_len c.items
   conv=>whnf
   rw [h4]
   refine ⟨⟨rfl,by (try dsimp only);omega,by simp only [ty5];omega⟩,?_⟩
   conv=>whnf
   refine ⟨⟨rfl,by (try dsimp only);omega,by simp only [ty5];omega⟩,?_⟩
   conv=>whnf
   refine gR ?_
   conv=>whnf
   refine ⟨_,_,.of_eq (congrArg (AVal.rsl 119 1 0) ((row3_len _ _ _).trans (congrArg List.length hpre))),?_,rfl,rfl⟩
   exact ⟨⟨rfl,rfl,(row3_len _ _ _).trans (congrArg List.length hpre),fun k hk=>(row3 _ _ _ k hk).trans (congrArg (fun q=>bytesF q k) hpre)⟩,trivial⟩
 have g1:¬c.ty=1:=by simpa using g1b
 conv=>whnf
 split<;>rename_i g2b
 ·have g2:c.ty=2:=by simpa using g2b
  conv=>whnf
  try (rw [g1b];conv=>whnf)
  try (rw [g2b];conv=>whnf)
  refine gO ?_
  conv=>whnf
  refine ⟨_,_,rows32_2 _ c.tag c.window rfl rfl (by omega),?_⟩
  conv=>whnf
  try dsimp only [newBase,Nat.reduceAdd,Nat.reduceMul]
  refine gO ?_
  conv=>whnf
  refine ⟨_,_,rows16_2 _ c.outs c.ins rfl rfl (by simp [be4];omega),?_⟩
  conv=>whnf
  try dsimp only [newBase,Nat.reduceAdd,Nat.reduceMul]
  refine gO ?_
  conv=>whnf
  refine ⟨_,_,rows32_1 _ c.tsn rfl (by simp [be4,be2];omega),?_⟩
  conv=>whnf
  try dsimp only [newBase,Nat.reduceAdd,Nat.reduceMul]
  refine gR ?_
  conv=>whnf
  have hp:(s++(be4 c.tag++be4 c.window)++(be2 c.outs++be2 c.ins)++be4 c.tsn).length≤2 ^ 31:=by simp [be4,be2];omega
  have hpre:(s++(be4 c.tag++be4 c.window)++(be2 c.outs++be2 c.ins)++be4 c.tsn)++cutB c.items++c.text=valB s c:=by
   rw [valB,preB,if_neg g0,if_pos (by omega:c.ty=1∨c.ty=2)]
  refine ⟨_,hB,?_⟩
  rintro q rfl
  conv=>whnf
  split<;>rename_i h1
  ·have h1:0<c.items.length:=by simp at h1;omega
   have h2:=bytes_ge h1
   have h3:=pad_lt (lastN c.items)
   have h4:=cut_len c.items
   conv=>whnf
   refine gO ?_
   conv=>whnf
   rw [show ((c.items.length:Int)-1).toNat=c.items.length-1 from by omega]
   refine gO ?_
   conv=>whnf
   refine ⟨_,pad_spec (lastN c.items) (by unfold lastN;have:=hb3 (c.items.length-1);omega),?_⟩
   rintro q rfl
   conv=>whnf
   refine gO ?_
   conv=>whnf
   refine gO ?_
   conv=>whnf
   rw [show cutS (Tlv.bytes c.items,0).fst none (some (↑(Tlv.bytes c.items,0).fst.length - ↑(padN (lastN c.items))))=cutB c.items from cut_eq h1]
   refine ⟨⟨rfl,by (try dsimp only);omega,by simp only [ty5];omega⟩,?_⟩
   conv=>whnf
   refine ⟨⟨rfl,by (try dsimp only);omega,by simp only [ty5];omega⟩,?_⟩
   conv=>whnf
   refine gR ?_
   conv=>whnf
   refine ⟨_,_,.of_eq (congrArg (AVal.rsl 119 1 0) ((row3_len _ _ _).trans (congrArg List.length hpre))),?_,rfl,rfl⟩
   exact ⟨⟨rfl,rfl,(row3_len _ _ _).trans (congrArg List.length hpre),fun k hk=>(row3 _ _ _ k hk).trans (congrArg (fun q=>bytesF q k) hpre)⟩,trivial⟩
  ·have h1:c.items=[]:=by simpa using h1
   have h4:Tlv.bytes c.items=cutB c.items:=by rw [h1];rfl
   have h4':=cut_len c.items
   conv=>whnf
   rw [h4]
   refine ⟨⟨rfl,by (try dsimp only);omega,by simp only [ty5];omega⟩,?_⟩
   conv=>whnf
   refine ⟨⟨rfl,by (try dsimp only);omega,by simp only [ty5];omega⟩,?_⟩
   conv=>whnf
   refine gR ?_
   conv=>whnf
   refine ⟨_,_,.of_eq (congrArg (AVal.rsl 119 1 0) ((row3_len _ _ _).trans (congrArg List.length hpre))),?_,rfl,rfl⟩
   exact ⟨⟨rfl,rfl,(row3_len _ _ _).trans (congrArg List.length hpre),fun k hk=>(row3 _ _ _ k hk).trans (congrArg (fun q=>bytesF q k) hpre)⟩,trivial⟩
 have g2:¬c.ty=2:=by simpa using g2b
 conv=>whnf
 split<;>rename_i g3b
 ·have g3:c.ty=3:=by simpa using g3b
  conv=>whnf
  refine gO ?_
  conv=>whnf
  refine ⟨_,_,rows32_2 _ c.tsn c.window rfl rfl (by omega),?_⟩
  conv=>whnf
  try dsimp only [newBase,Nat.reduceAdd,Nat.reduceMul]
  refine gO ?_
  conv=>whnf
  refine ⟨_,_,rows16_2 _ (c.gaps.length:Int) (c.dups.length:Int) (by show [D.i .u16 (IntKind.u16.wrap c.gaps.length)]=_;rw [wrap16 (by omega)]) (by show [D.i .u16 (IntKind.u16.wrap c.dups.length)]=_;rw [wrap16 (by omega)]) (by simp [be4];omega),?_⟩
  conv=>whnf
  try dsimp only [newBase,Nat.reduceAdd,Nat.reduceMul]
  refine gR ?_
  conv=>whnf
  refine ALoop.introR valTOk followsB (fun k:{k // k≤c.gaps.length}=>([(0,.rsl 68000 1 0 (g3B s c k.1).length),(3,.ptr 3 0),(69,.d (slT 2 encG c.gaps)),(70,tvi c.gaps.length),(71,tvi k.1)],[(3,.box (cL c)),(68000,rowB (g3B s c k.1))])) (fun k=>c.gaps.length-k.1) ⟨0,by omega⟩ ?_ ?_
  ·rw [show g3B s c 0=s++(be4 c.tsn++be4 c.window)++(be2 c.gaps.length++be2 c.dups.length) from List.append_nil _]
   exact ⟨.refl _,.refl _,.refl _,.refl _,.refl _,.refl _,.refl _,trivial⟩
  rintro ⟨k,hk⟩
  have hlen:=g3_len s c k
  dsimp only
  conv=>whnf
  split<;>rename_i h5
  ·have h5:k<c.gaps.length:=Int.ofNat_lt.1 (of_decide_eq_true h5)
   conv=>whnf
   refine gO ?_
   conv=>whnf
   refine ⟨_,rows16_2 _ (c.gaps.getD k default).1 (c.gaps.getD k default).2 rfl rfl (by omega),?_⟩
   rintro q hq ⟨rfl,rfl⟩
   conv=>whnf
   refine gO ?_
   conv=>whnf
   refine ⟨⟨k+1,by omega⟩,[(78000,68000)],by dsimp only;omega,.of_eq (congrArg (fun q=>AVal.rsl 68000 1 0 (List.length q)) (g3_step s c k h5)),.refl _,.refl _,.refl _,.refl _,.refl _,?_,trivial⟩
   rw [←g3_step s c k h5]
   exact OLe.refl _
  ·have h5:¬k<c.gaps.length:=fun h=>of_decide_eq_false h5 (Int.ofNat_lt.2 h)
   have hk':c.gaps.take k=c.gaps:=List.take_of_length_le (by omega)
   by_cases hdz:c.dups=[]
   ·conv=>whnf
    rw [hdz]
    refine ⟨_,rows32_0 _ _,?_⟩
    rintro q hq ⟨rfl,rfl⟩
    conv=>whnf
    have hp:(g3B s c k).length≤2 ^ 31:=by omega
    have hpre:g3B s c k++cutB c.items++c.text=valB s c:=by
     rw [valB,preB,if_neg g0,if_neg (by omega),if_pos g3,g3B,hk',hdz]
     simp
    refine ⟨_,hB,?_⟩
    rintro q rfl
    conv=>whnf
    split<;>rename_i h1
    ·have h1:0<c.items.length:=by simp at h1;omega
     have h2:=bytes_ge h1
     have h3:=pad_lt (lastN c.items)
     have h4:=cut_len c.items
     conv=>whnf
     refine gO ?_
     conv=>whnf
     rw [show ((c.items.length:Int)-1).toNat=c.items.length-1 from by omega]
     refine gO ?_
     conv=>whnf
     refine ⟨_,pad_spec (lastN c.items) (by unfold lastN;have:=hb3 (c.items.length-1);omega),?_⟩
     rintro q rfl
     conv=>whnf
     refine gO ?_
     conv=>whnf
     refine gO ?_
     conv=>whnf
     rw [show cutS (Tlv.bytes c.items,0).fst none (some (↑(Tlv.bytes c.items,0).fst.length - ↑(padN (lastN c.items))))=cutB c.items from cut_eq h1]
     refine ⟨⟨rfl,by (try dsimp only);omega,by simp only [ty5];omega⟩,?_⟩
     conv=>whnf
     refine ⟨⟨rfl,by (try dsimp only);omega,by simp only [ty5];omega⟩,?_⟩
     conv=>whnf
     refine gR ?_
     conv=>whnf
     refine ⟨_,_,.of_eq (congrArg (AVal.rsl 119 1 0) ((row3_len _ _ _).trans (congrArg List.length hpre))),?_,rfl,rfl⟩
     exact ⟨⟨rfl,rfl,(row3_len _ _ _).trans (congrArg List.length hpre),fun k hk=>(row3 _ _ _ k hk).trans (congrArg (fun q=>bytesF q k) hpre)⟩,trivial⟩
    ·have h1:c.items=[]:=by simpa using h1
     have h4:Tlv.bytes c.items=cutB c.items:=by rw [h1];rfl
     have h4':=cut_len c.items
     conv=>whnf
     rw [h4]
     refine ⟨⟨rfl,by (try dsimp only);omega,by simp only [ty5];omega⟩,?_⟩
     conv=>whnf
     refine ⟨⟨rfl,by (try dsimp only);omega,by simp only [ty5];omega⟩,?_⟩
     conv=>whnf
     refine gR ?_
     conv=>whnf
     refine ⟨_,_,.of_eq (congrArg (AVal.rsl 119 1 0) ((row3_len _ _ _).trans (congrArg List.length hpre))),?_,rfl,rfl⟩
     exact ⟨⟨rfl,rfl,(row3_len _ _ _).trans (congrArg List.length hpre),fun k hk=>(row3 _ _ _ k hk).trans (congrArg (fun q=>bytesF q k) hpre)⟩,trivial⟩
   ·conv=>whnf
    refine ⟨_,rows32_spec _ c.dups (by omega) (by omega) hdz,?_⟩
    rintro q hq ⟨rfl,rfl⟩
    conv=>whnf
    have hp:(g3B s c k++c.dups.flatMap be4).length≤2 ^ 31:=by rw [List.length_append,len32];omega
    have hpre:(g3B s c k++c.dups.flatMap be4)++cutB c.items++c.text=valB s c:=by
     rw [valB,preB,if_neg g0,if_neg (by omega),if_pos g3,g3B,hk']
    refine ⟨_,hB,?_⟩
    rintro q rfl
    conv=>whnf
    split<;>rename_i h1
    ·have h1:0<c.items.length:=by simp at h1;omega
     have h2:=bytes_ge h1
     have h3:=pad_lt (lastN c.items)
     have h4:=cut_len c.items
     conv=>whnf
     refine gO ?_
     conv=>whnf
     rw [show ((c.items.length:Int)-1).toNat=c.items.length-1 from by omega]
     refine gO ?_
     conv=>whnf
     refine ⟨_,pad_spec (lastN c.items) (by unfold lastN;have:=hb3 (c.items.length-1);omega),?_⟩
     rintro q rfl
     conv=>whnf
     refine gO ?_
     conv=>whnf
     refine gO ?_
     conv=>whnf
     rw [show cutS (Tlv.bytes c.items,0).fst none (some (↑(Tlv.bytes c.items,0).fst.length - ↑(padN (lastN c.items))))=cutB c.items from cut_eq h1]
     refine ⟨⟨rfl,by (try dsimp only);omega,by simp only [ty5];omega⟩,?_⟩
     conv=>whnf
     refine ⟨⟨rfl,by (try dsimp only);omega,by simp only [ty5];omega⟩,?_⟩
     conv=>whnf
     refine gR ?_
     conv=>whnf
     refine ⟨_,_,.of_eq (congrArg (AVal.rsl 119 1 0) ((row3_len _ _ _).trans (congrArg List.length hpre))),?_,rfl,rfl⟩
     exact ⟨⟨rfl,rfl,(row3_len _ _ _).trans (congrArg List.length hpre),fun k hk=>(row3 _ _ _ k hk).trans (congrArg (fun q=>bytesF q k) hpre)⟩,trivial⟩
    ·have h1:c.items=[]:=by simpa using h1
     have h4:Tlv.bytes c.items=cutB c.items:=by rw [h1];rfl
     have h4':=cut_len c.items
     conv=>whnf
     rw [h4]
     refine ⟨⟨rfl,by (try dsimp only);omega,by simp only [ty5];omega⟩,?_⟩
     conv=>whnf
     refine ⟨⟨rfl,by (try dsimp only);omega,by simp only [ty5];omega⟩,?_⟩
     conv=>whnf
     refine gR ?_
     conv=>whnf
     refine ⟨_,_,.of_eq (congrArg (AVal.rsl 119 1 0) ((row3_len _ _ _).trans (congrArg List.length hpre))),?_,rfl,rfl⟩
     exact ⟨⟨rfl,rfl,(row3_len _ _ _).trans (congrArg List.length hpre),fun k hk=>(row3 _ _ _ k hk).trans (congrArg (fun q=>bytesF q k) hpre)⟩,trivial⟩
 have g3:¬c.ty=3:=by simpa using g3b
 conv=>whnf
 split<;>rename_i g7b
 ·have g7:c.ty=7:=by simpa using g7b
  conv=>whnf
  refine ⟨_,put32_spec _ c.tsn (by omega),?_⟩
  rintro q hq ⟨rfl,rfl⟩
  conv=>whnf
  have hp:(s++be4 c.tsn).length≤2 ^ 31:=by simp [be4];omega
  have hpre:(s++be4 c.tsn)++cutB c.items++c.text=valB s c:=by
   rw [valB,preB,if_neg g0,if_neg (by omega),if_neg g3,if_pos g7]
  refine ⟨_,hB,?_⟩
  rintro q rfl
  conv=>whnf
  split<;>rename_i h1
  ·have h1:0<c.items.length:=by simp at h1;omega
   have h2:=bytes_ge h1
   have h3:=pad_lt (lastN c.items)
   have h4:=cut_len c.items
   conv=>whnf
   refine gO ?_
   conv=>whnf
   rw [show ((c.items.length:Int)-1).toNat=c.items.length-1 from by omega]
   refine gO ?_
   conv=>whnf
   refine ⟨_,pad_spec (lastN c.items) (by unfold lastN;have:=hb3 (c.items.length-1);omega),?_⟩
   rintro q rfl
   conv=>whnf
   refine gO ?_
   conv=>whnf
   refine gO ?_
   conv=>whnf
   rw [show cutS (Tlv.bytes c.items,0).fst none (some (↑(Tlv.bytes c.items,0).fst.length - ↑(padN (lastN c.items))))=cutB c.items from cut_eq h1]
   refine ⟨⟨rfl,by (try dsimp only);omega,by simp only [ty5];omega⟩,?_⟩
   conv=>whnf
   refine ⟨⟨rfl,by (try dsimp only);omega,by simp only [ty5];omega⟩,?_⟩
   conv=>whnf
   refine gR ?_
   conv=>whnf
   refine ⟨_,_,.of_eq (congrArg (AVal.rsl 119 1 0) ((row3_len _ _ _).trans (congrArg List.length hpre))),?_,rfl,rfl⟩
   exact ⟨⟨rfl,rfl,(row3_len _ _ _).trans (congrArg List.length hpre),fun k hk=>(row3 _ _ _ k hk).trans (congrArg (fun q=>bytesF q k) hpre)⟩,trivial⟩
  ·have h1:c.items=[]:=by simpa using h1
   have h4:Tlv.bytes c.items=cutB c.items:=by rw [h1];rfl
   have h4':=cut_len c.items
   conv=>whnf
   rw [h4]
   refine ⟨⟨rfl,by (try dsimp only);omega,by simp only [ty5];omega⟩,?_⟩
   conv=>whnf
   refine ⟨⟨rfl,by (try dsimp only);omega,by simp only [ty5];omega⟩,?_⟩
   conv=>whnf
   refine gR ?_
   conv=>whnf
   refine ⟨_,_,.of_eq (congrArg (AVal.rsl 119 1 0) ((row3_len _ _ _).trans (congrArg List.length hpre))),?_,rfl,rfl⟩
   exact ⟨⟨rfl,rfl,(row3_len _ _ _).trans (congrArg List.length hpre),fun k hk=>(row3 _ _ _ k hk).trans (congrArg (fun q=>bytesF q k) hpre)⟩,trivial⟩
 have g7:¬c.ty=7:=by simpa using g7b
 conv=>whnf
 have hp:s.length≤2 ^ 31:=by omega
 have hpre:s++cutB c.items++c.text=valB s c:=by
  rw [valB,preB,if_neg g0,if_neg (by omega),if_neg g3,if_neg g7]
 refine ⟨_,hB,?_⟩
 rintro q rfl
 conv=>whnf
 split<;>rename_i h1
 ·have h1:0<c.items.length:=by simp at h1;omega
  have h2:=bytes_ge h1
  have h3:=pad_lt (lastN c.items)
  have h4:=cut_len c.items
  conv=>whnf
  refine gO ?_
  conv=>whnf
  rw [show ((c.items.length:Int)-1).toNat=c.items.length-1 from by omega]
  refine gO ?_
  conv=>whnf
  refine ⟨_,pad_spec (lastN c.items) (by unfold lastN;have:=hb3 (c.items.length-1);omega),?_⟩
  rintro q rfl
  conv=>whnf
  refine gO ?_
  conv=>whnf
  refine gO ?_
  conv=>whnf
  rw [show cutS (Tlv.bytes c.items,0).fst none (some (↑(Tlv.bytes c.items,0).fst.length - ↑(padN (lastN c.items))))=cutB c.items from cut_eq h1]
  refine ⟨⟨rfl,by (try dsimp only);omega,by simp only [ty5];omega⟩,?_⟩
  conv=>whnf
  refine ⟨⟨rfl,by (try dsimp only);omega,by simp only [ty5];omega⟩,?_⟩
  conv=>whnf
  refine gR ?_
  conv=>whnf
  refine ⟨_,_,.of_eq (congrArg (AVal.rsl 119 1 0) ((row3_len _ _ _).trans (congrArg List.length hpre))),?_,rfl,rfl⟩
  exact ⟨⟨rfl,rfl,(row3_len _ _ _).trans (congrArg List.length hpre),fun k hk=>(row3 _ _ _ k hk).trans (congrArg (fun q=>bytesF q k) hpre)⟩,trivial⟩
 ·have h1:c.items=[]:=by simpa using h1
  have h4:Tlv.bytes c.items=cutB c.items:=by rw [h1];rfl
  have h4':=cut_len c.items
  conv=>whnf
  rw [h4]
  refine ⟨⟨rfl,by (try dsimp only);omega,by simp only [ty5];omega⟩,?_⟩
  conv=>whnf
  refine ⟨⟨rfl,by (try dsimp only);omega,by simp only [ty5];omega⟩,?_⟩
  conv=>whnf
  refine gR ?_
  conv=>whnf
  refine ⟨_,_,.of_eq (congrArg (AVal.rsl 119 1 0) ((row3_len _ _ _).trans (congrArg List.length hpre))),?_,rfl,rfl⟩
  exact ⟨⟨rfl,rfl,(row3_len _ _ _).trans (congrArg List.length hpre),fun k hk=>(row3 _ _ _ k hk).trans (congrArg (fun q=>bytesF q k) hpre)⟩,trivial⟩
end Go.Proofs.YtbkcekmahdbgdaaGreat
