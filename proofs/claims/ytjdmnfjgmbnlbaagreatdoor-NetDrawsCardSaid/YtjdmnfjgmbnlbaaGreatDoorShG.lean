/- Chapter 3: the program's digest, the whole of it: the Builder read and kept, Hash. -/
import Derived.Test.YtjdmnfjgmbnlbaaGreatDoorShF
namespace Go.Proofs.YtjdmnfjgmbnlbaaGreatDoor
open Go Go.RowKit Towline
set_option linter.unusedVariables false
set_option linter.unusedSimpArgs false
set_option maxRecDepth 20000
set_option maxHeartbeats 4000000
/-- A cell of an object is spoken of otherwise. -/
theorem recell {C : Ctx} {L : Lay} {g : Nat → AVal} {h : Nat → Option AObj} {a : Act} {w : World} (H : Rel C L g h a w) (b i : Nat) {cells : List AVal} {tag : Option TypeId} {x y : AVal} (hobj : h b = some (.box cells tag)) (hs : cells[i]? = some x)
    (hview : ∀ v, RepA w L (good C L h w) x v → RepA w L (good C L h w) y v) : Rel C L g (fun j => if j = b then some (.box (cells.set i y) tag) else h j) a w := by
  have hgood : ∀ b', good C L h w b' → good C L (fun j => if j = b then some (.box (cells.set i y) tag) else h j) w b' := by
    intro b' hgb
    refine ⟨hgb.1, hgb.2.1, ?_⟩
    rintro ⟨j, oj, h1, h2⟩
    by_cases hjb : j = b
    · exact hgb.2.2 ⟨b, .box cells tag, hobj, by rw [← hjb]; exact h2⟩
    · simp only [if_neg hjb] at h1
      exact hgb.2.2 ⟨j, oj, h1, h2⟩
  have hlook : ∀ j oj, (if j = b then some (AObj.box (cells.set i y) tag) else h j) = some oj → (j = b ∧ oj = .box (cells.set i y) tag) ∨ h j = some oj := by
    intro j oj hj
    by_cases h2 : j = b
    · left; rw [if_pos h2] at hj; exact ⟨h2, (Option.some.inj hj).symm⟩
    · right; rw [if_neg h2] at hj; exact hj
  have hsome : ∀ j oj, (if j = b then some (AObj.box (cells.set i y) tag) else h j) = some oj → ∃ o', h j = some o' := by
    intro j oj hj
    rcases hlook j oj hj with ⟨rfl, _⟩ | h
    · exact ⟨_, hobj⟩
    · exact ⟨_, h⟩
  exact { H with
    slot := fun x => (H.slot x).mono1 (Nat.le_refl _) (fun b' _ hb' => ⟨hgood b' hb', rfl⟩) (fun _ _ => rfl)
    obj := fun j oj hj => by
      have mono : ∀ {o}, RepO w (good C L h w) L j o → RepO w (good C L (fun j => if j = b then some (.box (cells.set i y) tag) else h j) w) L j o := fun h =>
        h.mono (Nat.le_refl _) (fun b' _ hb' => ⟨hgood b' hb', rfl⟩) (fun _ _ => rfl) (fun b _ hb => ⟨hb, rfl⟩) (fun _ => true) (fun _ _ => ⟨rfl, rfl⟩) rfl (fun _ h => by cases h)
      rcases hlook j oj hj with ⟨rfl, rfl⟩ | h
      · have hro := H.obj _ _ hobj
        refine mono ?_
        cases hro with
        | box htag hbk hheap hz h1 hr =>
          refine .box htag hbk hheap (by simpa using hz) (fun q hq => h1 q (by simpa using hq)) (fun q y hy => ?_)
          rw [List.getElem?_set] at hy
          split at hy
          · rename_i e
            subst e
            split at hy
            · cases hy
              exact hview _ (hr i _ hs)
            · cases hy
          · exact hr q y hy
      · exact mono (H.obj j oj h)
    inj := fun x y ox oy b' h1 h2 => by
      obtain ⟨o1, e1⟩ := hsome x ox h1
      obtain ⟨o2, e2⟩ := hsome y oy h2
      exact H.inj x y o1 o2 b' e1 e2
    own0 := fun x ox b' h1 => by
      obtain ⟨o1, e1⟩ := hsome x ox h1
      exact H.own0 x o1 b' e1
    kept := fun x ox hl' h1 => by
      obtain ⟨o1, e1⟩ := hsome x ox h1
      exact H.kept x o1 hl' e1 }
theorem str_keepG (tg : TypeId) (htg : LiesB tg) (p : AVal) (n : Nat) (f : Nat → List D) (l : List UInt8) (hn0 : 0 < n) (hl : l.length = n) (hf : ∀ k, k < n → f k = bytesF l k) : LSpec Tryz.prog 65 [.ptr E0 0] (bldG tg p n f) (fun r hl => r = .d (.s l) ∧ hl = [(E0, .box [p, .d (.sl 1 n f)] (some tg))]) := by
  refine LSpec.raw fn_str rfl fun C L w vs hw0 hnt H hz ha => ?_
  have h0 := ha 0 _ rfl
  have hE0 : lko (bldG tg p n f) E0 = some (.box [p, .rsl E1 1 0 n] (some tg)) := rfl
  have hE1 : lko (bldG tg p n f) E1 = some (.row 5 1 n f) := rfl
  have hbox := H.obj E0 _ hE0
  have hrow := H.obj E1 _ hE1
  obtain ⟨v0, rfl⟩ : ∃ v, vs = #[v] := by
    obtain ⟨l⟩ := vs
    match l, hz with
    | [v], _ => exact ⟨v, rfl⟩
  generalize hv0 : (#[v0] : Array Value).getD 0 undef = u at h0
  have hv0 : v0 = u := hv0
  subst hv0
  cases h0 with
  | @ptr _ _ _ b hb =>
    cases hbox with
    | @box _ _ cs t b' htag hb' hh hz h1 hr =>
      rw [hb] at hb'
      cases hb'
      have ht := (htag _ rfl).symm
      subst ht
      have hsz : cs.size = 2 := hz
      obtain ⟨c0, c1, rfl⟩ : ∃ c0 c1, cs = #[c0, c1] := by
        obtain ⟨l⟩ := cs
        match l, hsz with
        | [x, y], _ => exact ⟨x, y, rfl⟩
      have hsl := hr 1 _ rfl
      generalize hc1 : (#[c0, c1] : Array Value).getD 1 undef = s at hsl
      have hc1 : c1 = s := hc1
      subst hc1
      cases hsl with
      | @rsl _ _ _ _ _ ad hcap hbb had =>
        have had := had (.inl rfl)
        cases hrow with
        | row0 hb1 hcap0 => omega
        | @row _ _ _ _ cur g t9 mk9 hb1 hh1 hn1 hm1 hz1 hf1 hr1 hty9 hmk9 =>
          obtain rfl := hty9 (by decide)
          obtain rfl : mk9 = (0, 0) := hmk9.resolve_right fun h => absurd h.1 (by decide)
          rw [hb1] at had
          simp only [Option.map_some, Nat.zero_mul] at had
          subst had
          rcases Nat.eq_zero_or_pos n with h0 | h0
          · omega
          · subst hl
            have hne : l ≠ [] := by intro e; subst e; simp at h0
            refine (Go.Proofs.Tryz.bldStringG Tryz.lays169 Tryz.Builder_Extra_169 b g (L.cap E1) cur c0 l w tg hne (show w.heap[b]? = some (.cells #[c0, .slice (some ⟨g, 0, none⟩) l.length (L.cap E1)] tg (0, 0)) by simpa using hh) hh1 hn1 hm1 (by simpa using hz1) (fun j x hx => ?_)).mono ?_
            · have hj : j < l.length := (List.getElem?_eq_some_iff.1 hx).1
              have h3 := hr1 j hj 0 (.i .u8 ((l.getD j 0).toNat : Nat)) (by rw [hf j hj]; rfl)
              have h4 : cur.getD (j * 1 + 0) undef = .int .u8 ((l.getD j 0).toNat : Nat) := repA_i (L := L) (RepA.d h3)
              rw [cell_of_row w g j cur _ (0, 0) hh1]
              have hlt : j < cur.size := by rw [hz1]; omega
              rw [Array.getD_eq_getD_getElem?] at h4
              simp only [Nat.mul_one, Nat.add_zero, Array.getElem?_eq_getElem hlt, Option.getD_some] at h4
              rw [Array.getElem?_eq_getElem hlt, h4]
              rw [List.getD_eq_getElem?_getD, hx]
              rfl
            · rintro e w' ⟨rfl, rfl⟩
              have hgone := H.gone (w' := w.drew.freeze ⟨g, 0, none⟩ l.length) hE1 (by unfold World.freeze; split <;> rfl) (by unfold World.freeze; split <;> rfl) (by unfold World.freeze; split <;> rfl) (by unfold World.freeze; split <;> simp) (fun b' hb' hne' => by
                have hne2 : g ≠ b' := fun e => hne' (by rw [hb1, e])
                unfold World.freeze
                split
                · rfl
                · simp [Array.getElem?_modify, hne2]
                  rfl)
              have hown := H.own0 E1 _ g hE1 hb1
              have hg1 : (w.drew.freeze ⟨g, 0, none⟩ l.length).heap.size = w.heap.size := by unfold World.freeze; split <;> simp
              obtain ⟨fz, hfg⟩ : ∃ fz, (w.drew.freeze ⟨g, 0, none⟩ l.length).heap[g]? = some (.cells cur 5 fz) := by
                have hh2 : w.drew.heap[g]? = some (.cells cur 5 (0, 0)) := hh1
                unfold World.freeze
                rw [if_neg (by omega)]
                simp only [Array.getElem?_modify, if_pos, hh2, Option.map_some]
                exact ⟨_, rfl⟩
              have hre := recell hgone E0 1 (x := .rsl E1 1 0 l.length) (y := .d (.sl 1 l.length f)) (cells := [p, .rsl E1 1 0 l.length]) (tag := some tg) rfl rfl (fun v hv => by
                cases hv with
                | @rsl _ _ _ _ _ ad' hc' hb' ha' =>
                  have ha' := ha' (.inl rfl)
                  rw [hb1] at ha'
                  simp only [Option.map_some, Nat.zero_mul] at ha'
                  subst ha'
                  refine .d (.sl 1 l.length f g 0 _ (fun k j => cur.getD (k * 1 + j) undef) hn0 (by omega) (by omega) ⟨by rw [hg1]; exact hown.2, .inr hown.1, ?_⟩ (by rw [hg1]; exact hown.2) (fun k hk => by rw [hf k hk]; rfl) (fun k hk j hj => ?_) (fun k hk j x hx => ?_))
                  · rintro ⟨j, oj, k1, k2⟩
                    have k1 : (if j = E1 then none else lko (bldG tg p l.length f) j) = some oj := k1
                    by_cases hj : j = E1
                    · rw [if_pos hj] at k1; cases k1
                    · rw [if_neg hj] at k1
                      exact hj (H.inj j E1 oj _ g k1 hE1 k2 hb1)
                  · obtain rfl : j = 0 := by omega
                    rw [cell_of_row _ g _ cur _ _ hfg]
                    have hlt : k < cur.size := by rw [hz1]; omega
                    simp [Array.getElem?_eq_getElem hlt, Array.getD_eq_getD_getElem?]
                  · have hx0 := hx
                    rw [hf k hk] at hx0
                    have hj0 : j = 0 := by
                      have := (List.getElem?_eq_some_iff.1 hx0).1
                      simpa [bytesF] using this
                    subst hj0
                    have h3 := hr1 k hk 0 x hx
                    have hx1 : x = .i .u8 ((l.getD k 0).toNat : Nat) := (Option.some.inj hx0).symm
                    subst hx1
                    generalize cur.getD (k * 1 + 0) undef = v at h3 ⊢
                    cases h3
                    exact .i _ _)
              exact ⟨_, _, _, L, rfl, ⟨rfl, rfl⟩, hre.drop (fun i o e => by
                by_cases h0 : i = E0
                · subst h0; exact e
                · rw [if_neg h0]
                  exfalso
                  have e : (match Nat.beq E0 i with | true => some (AObj.box [p, AVal.d (D.sl 1 l.length f)] (some tg)) | false => none) = some o := e
                  rw [beq_false (fun e => h0 e.symm)] at e
                  cases e), .d (.s l)⟩
theorem len_keepG (tg : TypeId) (p : AVal) (n : Nat) (f : Nat → List D) : LSpec Tryz.prog 67 [.ptr E0 0] [(E0, .box [p, .d (.sl 1 n f)] (some tg))] (fun r hl => r = bvi n ∧ hl = [(E0, .box [p, .d (.sl 1 n f)] (some tg))]) := by
  refine LSpec.run (tysOk) followsB Tryz.func67 (by decide) rfl Tryz.ntmps67 (Nat.le_of_ble_eq_true rfl) rfl rfl fun w0 R0 Lo hGw => ?_
  conv => whnf
  refine ⟨_, _, .refl _, ?_, rfl, rfl⟩
  exact ⟨OLe.refl _, trivial⟩
theorem hWrite_spec (s : List UInt8) (hs : s.length ≤ 2 ^ 40) : LSpec Tryz.prog 41 [.ptr E0 0, .d (.s s)] (bldN 95 nilP) (fun r hl => r = .tup [] ∧ hl = [(E0, .box [.ptr E0 0, .rsl 9000 1 0 s.length] (some 95)), (9000, .row 5 1 s.length (bytesF s))]) := by
  refine LSpec.run (tysFOk) followsB Tryz.func41 (by decide) rfl Tryz.ntmps41 (Nat.le_of_ble_eq_true rfl) rfl rfl fun w0 R0 Lo hGw => ?_
  conv => whnf
  refine ⟨_, (writeS_nilG _ liesHash s hs), ?_⟩
  rintro q hq ⟨rfl, rfl⟩
  conv => whnf
  conv => whnf
  refine ⟨_, _, .refl _, ?_, rfl, rfl⟩
  exact ⟨OLe.refl _, OLe.refl _, trivial⟩
theorem word_take (b : List UInt8) {t : Nat} (h : t < 16) : Sha.word (b.take 64) t = Sha.word b t := by
  have e : ∀ i, i < 64 → (b.take 64).getD i 0 = b.getD i 0 := fun i hi => by
    rw [List.getD_eq_getElem?_getD, List.getD_eq_getElem?_getD, List.getElem?_take_of_lt hi]
  unfold Sha.word
  rw [e _ (by omega), e _ (by omega), e _ (by omega), e _ (by omega)]
theorem wd_take (b : List UInt8) (t : Nat) : Sha.wd (b.take 64) t = Sha.wd b t := by
  induction t using Nat.strongRecOn with
  | _ t ih =>
    by_cases h : t < 16
    · rw [Sha.wd_lo _ h, Sha.wd_lo _ h, word_take b h]
    · rw [Sha.wd_hi _ h, Sha.wd_hi _ h, ih _ (by omega), ih _ (by omega), ih _ (by omega), ih _ (by omega)]
theorem rounds_take (b : List UInt8) (r : Sha.Rg) : ∀ n, Sha.rounds (b.take 64) r n = Sha.rounds b r n
  | 0 => rfl
  | n + 1 => by rw [Sha.rounds, Sha.rounds, rounds_take b r n, wd_take]
theorem block_take (b : List UInt8) (r : Sha.Rg) : Sha.block r (b.take 64) = Sha.block r b := by
  unfold Sha.block
  rw [rounds_take]
theorem hSum_spec (s : List UInt8) (hs : s.length ≤ 2 ^ 40) (hne : 0 < s.length) : LSpec Tryz.prog 42 [.ptr E0 0] (bldG 95 (.ptr E0 0) s.length (bytesF s)) (fun r hl => r = stx (Sha.sum s) ∧ hl = []) := by
  refine LSpec.run (tysFOk) followsB Tryz.func42 (by decide) rfl Tryz.ntmps42 (Nat.le_of_ble_eq_true rfl) rfl rfl fun w0 R0 Lo hGw => ?_
  conv => whnf
  refine ⟨_, first_spec, ?_⟩
  rintro q rfl
  conv => whnf
  refine ⟨_, _, (str_keepG _ liesHash (.ptr E0 0) s.length (bytesF s) s hne rfl (fun _ _ => rfl)), ?_⟩
  conv => whnf
  refine ⟨_, _, (len_keepG 95 (.ptr E0 0) s.length (bytesF s)), ?_⟩
  conv => whnf
  refine ⟨_, (pad_spec s.length hs), ?_⟩
  conv => whnf
  have hpl : (Sha.pad s.length).length ≤ 80 := by simp [Sha.pad, Sha.be8]; have : Sha.gapN s.length < 64 := Nat.mod_lt _ (by decide); omega
  refine ⟨by omega, ?_⟩
  conv => whnf
  refine ⟨by simp; omega, ?_⟩
  conv => whnf
  refine ⟨by kernel_rfl, ?_⟩
  conv => whnf
  generalize hA : s ++ Sha.pad s.length = A
  have hal : A.length = s.length + (Sha.pad s.length).length := by rw [← hA]; simp
  refine ALoop.introR tysFOk followsB (fun q : {q : Nat // 64 * q ≤ A.length} => ([(3, .rptr 3 1 0 0), (4, .d (.sl 1 (A.length - 64 * q.1) (bytesF (A.drop (64 * q.1)))))], [(3, .row (arT + 8) 1 8 (rgF (Sha.blocks q.1 Sha.first A)))])) (fun q => A.length / 64 - q.1) ⟨0, by omega⟩ ?_ ?_
  · refine ⟨.refl _, .refl _, ⟨rfl, rfl, rfl, fun k hk => ?_⟩, trivial⟩
    match k, hk with
    | 0, _ => rfl
    | 1, _ => rfl
    | 2, _ => rfl
    | 3, _ => rfl
    | 4, _ => rfl
    | 5, _ => rfl
    | 6, _ => rfl
    | 7, _ => rfl
  rintro ⟨q, hq⟩
  dsimp only
  conv => whnf
  split <;> rename_i h1
  · have hlt : 64 * q + 64 ≤ A.length := by have := of_decide_eq_true h1; omega
    conv => whnf
    refine ⟨by first | omega | (simp only [Int.toNat_natCast]; omega) | (simp; done) | (simp; omega), ?_⟩
    conv => whnf
    refine ⟨_, (block_spec (Sha.blocks q Sha.first A) (A.drop (64 * q))), ?_⟩
    rintro q hq ⟨rfl, rfl⟩
    conv => whnf
    refine ⟨by first | omega | (simp only [Int.toNat_natCast]; omega) | (simp; done) | (simp; omega), ?_⟩
    conv => whnf
    refine ⟨⟨q + 1, by omega⟩, [], by dsimp only; omega, .refl _, .sl (by simp; omega) fun k hk => ?_, ⟨rfl, rfl, rfl, fun k hk => ?_⟩, trivial⟩
    · show bytesF (A.drop (64 * q)) (64 + k) = bytesF (A.drop (64 * (q + 1))) k
      unfold bytesF
      rw [List.getD_eq_getElem?_getD, List.getD_eq_getElem?_getD, List.getElem?_drop, List.getElem?_drop, show 64 * q + (64 + k) = 64 * (q + 1) + k from by omega]
    · rw [Sha.blocks_succ, block_take]
  · have hge : A.length < 64 * q + 64 := by have := of_decide_eq_false h1; omega
    have hall := Sha.pad_len s.length
    have hqe : q = A.length / 64 := by omega
    conv => whnf
    refine ALoop.adopt 5 900 1 5 (bytesF []) rfl rfl rfl ?_
    generalize hR : Sha.blocks q Sha.first A = R
    refine ALoop.introR tysFOk followsB (fun i : {i : Nat // i ≤ 8} => ([(5, .rsl 900 1 0 (4 * i.1)), (28, .agg ((flatF 8 (rgF R)).map .d)), (29, si i.1)], [(900, .row 5 1 (4 * i.1) (bytesF (R.out.take (4 * i.1))))])) (fun i => 8 - i.1) ⟨0, by omega⟩ ?_ ?_
    · exact ⟨.refl _, .refl _, .refl _, ⟨rfl, rfl, rfl, fun k hk => by simp at hk⟩, trivial⟩
    rintro ⟨i, hi⟩
    dsimp only
    conv => whnf
    split <;> rename_i h2
    · have hlt : i < 8 := by have := of_decide_eq_true h2; omega
      have hc : i = 0 ∨ i = 1 ∨ i = 2 ∨ i = 3 ∨ i = 4 ∨ i = 5 ∨ i = 6 ∨ i = 7 := by omega
      have fin : ∀ i, i < 8 → ∀ k, k < 4 * i + (Sha.be4 (R.l.getD i 0)).length → fcat (bytesF (R.out.take (4 * i))) (4 * i) (fun k => ([D.i .u8 (IntKind.u8.wrap (shrOp .u32 (R.l.getD i 0) 24))] :: [D.i .u8 (IntKind.u8.wrap (shrOp .u32 (R.l.getD i 0) 16))] :: [D.i .u8 (IntKind.u8.wrap (shrOp .u32 (R.l.getD i 0) 8))] :: [D.i .u8 (IntKind.u8.wrap (R.l.getD i 0))] :: replF 0 ty5.zero).getD k []) k = bytesF (R.out.take (4 * (i + 1))) k := by
        intro i hlt k hk
        rw [out_take R i hlt]
        have hol : (R.out.take (4 * i)).length = 4 * i := by
          rw [List.length_take, show R.out.length = 32 from rfl]; omega
        have := fcat_bytes (R.out.take (4 * i)) (Sha.be4 (R.l.getD i 0)) _ (be4_row (R.l.getD i 0)) k (by rw [hol]; exact hk)
        rw [hol] at this
        exact this
      rcases hc with rfl | rfl | rfl | rfl | rfl | rfl | rfl | rfl
      · conv => whnf
        refine ⟨by first | omega | (simp only [Int.toNat_natCast]; omega) | (simp; done) | (simp; omega), ?_⟩
        conv => whnf
        refine ⟨by first | omega | (simp only [Int.toNat_natCast]; omega) | (simp; done) | (simp; omega), ?_⟩
        conv => whnf
        refine ⟨by first | omega | (simp only [Int.toNat_natCast]; omega) | (simp; done) | (simp; omega), ?_⟩
        conv => whnf
        refine ⟨by first | omega | (simp only [Int.toNat_natCast]; omega) | (simp; done) | (simp; omega), ?_⟩
        conv => whnf
        refine ⟨⟨⟨rfl, by omega, by simp only [ty5]; omega⟩, by omega⟩, ?_⟩
        conv => whnf
        refine ⟨by first | omega | (simp only [Int.toNat_natCast]; omega) | (simp; done) | (simp; omega), ?_⟩
        conv => whnf
        exact ⟨⟨1, by omega⟩, [(45, 900)], by dsimp only; omega, .refl _, .refl _, .refl _, ⟨rfl, rfl, rfl, fun k hk => fin 0 (by omega) k hk⟩, trivial⟩
      · conv => whnf
        refine ⟨by first | omega | (simp only [Int.toNat_natCast]; omega) | (simp; done) | (simp; omega), ?_⟩
        conv => whnf
        refine ⟨by first | omega | (simp only [Int.toNat_natCast]; omega) | (simp; done) | (simp; omega), ?_⟩
        conv => whnf
        refine ⟨by first | omega | (simp only [Int.toNat_natCast]; omega) | (simp; done) | (simp; omega), ?_⟩
        conv => whnf
        refine ⟨by first | omega | (simp only [Int.toNat_natCast]; omega) | (simp; done) | (simp; omega), ?_⟩
        conv => whnf
        refine ⟨⟨⟨rfl, by omega, by simp only [ty5]; omega⟩, by omega⟩, ?_⟩
        conv => whnf
        refine ⟨by first | omega | (simp only [Int.toNat_natCast]; omega) | (simp; done) | (simp; omega), ?_⟩
        conv => whnf
        exact ⟨⟨2, by omega⟩, [(45, 900)], by dsimp only; omega, .refl _, .refl _, .refl _, ⟨rfl, rfl, rfl, fun k hk => fin 1 (by omega) k hk⟩, trivial⟩
      · conv => whnf
        refine ⟨by first | omega | (simp only [Int.toNat_natCast]; omega) | (simp; done) | (simp; omega), ?_⟩
        conv => whnf
        refine ⟨by first | omega | (simp only [Int.toNat_natCast]; omega) | (simp; done) | (simp; omega), ?_⟩
        conv => whnf
        refine ⟨by first | omega | (simp only [Int.toNat_natCast]; omega) | (simp; done) | (simp; omega), ?_⟩
        conv => whnf
        refine ⟨by first | omega | (simp only [Int.toNat_natCast]; omega) | (simp; done) | (simp; omega), ?_⟩
        conv => whnf
        refine ⟨⟨⟨rfl, by omega, by simp only [ty5]; omega⟩, by omega⟩, ?_⟩
        conv => whnf
        refine ⟨by first | omega | (simp only [Int.toNat_natCast]; omega) | (simp; done) | (simp; omega), ?_⟩
        conv => whnf
        exact ⟨⟨3, by omega⟩, [(45, 900)], by dsimp only; omega, .refl _, .refl _, .refl _, ⟨rfl, rfl, rfl, fun k hk => fin 2 (by omega) k hk⟩, trivial⟩
      · conv => whnf
        refine ⟨by first | omega | (simp only [Int.toNat_natCast]; omega) | (simp; done) | (simp; omega), ?_⟩
        conv => whnf
        refine ⟨by first | omega | (simp only [Int.toNat_natCast]; omega) | (simp; done) | (simp; omega), ?_⟩
        conv => whnf
        refine ⟨by first | omega | (simp only [Int.toNat_natCast]; omega) | (simp; done) | (simp; omega), ?_⟩
        conv => whnf
        refine ⟨by first | omega | (simp only [Int.toNat_natCast]; omega) | (simp; done) | (simp; omega), ?_⟩
        conv => whnf
        refine ⟨⟨⟨rfl, by omega, by simp only [ty5]; omega⟩, by omega⟩, ?_⟩
        conv => whnf
        refine ⟨by first | omega | (simp only [Int.toNat_natCast]; omega) | (simp; done) | (simp; omega), ?_⟩
        conv => whnf
        exact ⟨⟨4, by omega⟩, [(45, 900)], by dsimp only; omega, .refl _, .refl _, .refl _, ⟨rfl, rfl, rfl, fun k hk => fin 3 (by omega) k hk⟩, trivial⟩
      · conv => whnf
        refine ⟨by first | omega | (simp only [Int.toNat_natCast]; omega) | (simp; done) | (simp; omega), ?_⟩
        conv => whnf
        refine ⟨by first | omega | (simp only [Int.toNat_natCast]; omega) | (simp; done) | (simp; omega), ?_⟩
        conv => whnf
        refine ⟨by first | omega | (simp only [Int.toNat_natCast]; omega) | (simp; done) | (simp; omega), ?_⟩
        conv => whnf
        refine ⟨by first | omega | (simp only [Int.toNat_natCast]; omega) | (simp; done) | (simp; omega), ?_⟩
        conv => whnf
        refine ⟨⟨⟨rfl, by omega, by simp only [ty5]; omega⟩, by omega⟩, ?_⟩
        conv => whnf
        refine ⟨by first | omega | (simp only [Int.toNat_natCast]; omega) | (simp; done) | (simp; omega), ?_⟩
        conv => whnf
        exact ⟨⟨5, by omega⟩, [(45, 900)], by dsimp only; omega, .refl _, .refl _, .refl _, ⟨rfl, rfl, rfl, fun k hk => fin 4 (by omega) k hk⟩, trivial⟩
      · conv => whnf
        refine ⟨by first | omega | (simp only [Int.toNat_natCast]; omega) | (simp; done) | (simp; omega), ?_⟩
        conv => whnf
        refine ⟨by first | omega | (simp only [Int.toNat_natCast]; omega) | (simp; done) | (simp; omega), ?_⟩
        conv => whnf
        refine ⟨by first | omega | (simp only [Int.toNat_natCast]; omega) | (simp; done) | (simp; omega), ?_⟩
        conv => whnf
        refine ⟨by first | omega | (simp only [Int.toNat_natCast]; omega) | (simp; done) | (simp; omega), ?_⟩
        conv => whnf
        refine ⟨⟨⟨rfl, by omega, by simp only [ty5]; omega⟩, by omega⟩, ?_⟩
        conv => whnf
        refine ⟨by first | omega | (simp only [Int.toNat_natCast]; omega) | (simp; done) | (simp; omega), ?_⟩
        conv => whnf
        exact ⟨⟨6, by omega⟩, [(45, 900)], by dsimp only; omega, .refl _, .refl _, .refl _, ⟨rfl, rfl, rfl, fun k hk => fin 5 (by omega) k hk⟩, trivial⟩
      · conv => whnf
        refine ⟨by first | omega | (simp only [Int.toNat_natCast]; omega) | (simp; done) | (simp; omega), ?_⟩
        conv => whnf
        refine ⟨by first | omega | (simp only [Int.toNat_natCast]; omega) | (simp; done) | (simp; omega), ?_⟩
        conv => whnf
        refine ⟨by first | omega | (simp only [Int.toNat_natCast]; omega) | (simp; done) | (simp; omega), ?_⟩
        conv => whnf
        refine ⟨by first | omega | (simp only [Int.toNat_natCast]; omega) | (simp; done) | (simp; omega), ?_⟩
        conv => whnf
        refine ⟨⟨⟨rfl, by omega, by simp only [ty5]; omega⟩, by omega⟩, ?_⟩
        conv => whnf
        refine ⟨by first | omega | (simp only [Int.toNat_natCast]; omega) | (simp; done) | (simp; omega), ?_⟩
        conv => whnf
        exact ⟨⟨7, by omega⟩, [(45, 900)], by dsimp only; omega, .refl _, .refl _, .refl _, ⟨rfl, rfl, rfl, fun k hk => fin 6 (by omega) k hk⟩, trivial⟩
      · conv => whnf
        refine ⟨by first | omega | (simp only [Int.toNat_natCast]; omega) | (simp; done) | (simp; omega), ?_⟩
        conv => whnf
        refine ⟨by first | omega | (simp only [Int.toNat_natCast]; omega) | (simp; done) | (simp; omega), ?_⟩
        conv => whnf
        refine ⟨by first | omega | (simp only [Int.toNat_natCast]; omega) | (simp; done) | (simp; omega), ?_⟩
        conv => whnf
        refine ⟨by first | omega | (simp only [Int.toNat_natCast]; omega) | (simp; done) | (simp; omega), ?_⟩
        conv => whnf
        refine ⟨⟨⟨rfl, by omega, by simp only [ty5]; omega⟩, by omega⟩, ?_⟩
        conv => whnf
        refine ⟨by first | omega | (simp only [Int.toNat_natCast]; omega) | (simp; done) | (simp; omega), ?_⟩
        conv => whnf
        exact ⟨⟨8, by omega⟩, [(45, 900)], by dsimp only; omega, .refl _, .refl _, .refl _, ⟨rfl, rfl, rfl, fun k hk => fin 7 (by omega) k hk⟩, trivial⟩
    · obtain rfl : i = 8 := by have := of_decide_eq_false h2; omega
      conv => whnf
      refine ⟨R.out, ⟨rfl, by omega, fun k hk => ?_⟩, ?_⟩
      · rw [Nat.zero_add, List.take_of_length_le (by show 32 ≤ _; omega)]
      conv => whnf
      exact ⟨_, [], .refl _, trivial, by rw [← hR, hqe, ← hA]; rfl, rfl⟩
theorem shaSum_spec (s : List UInt8) (hs : s.length ≤ 2 ^ 40) (hne : 0 < s.length) : PSpec Tryz.prog 24 [stx s] (· = stx (Sha.sum s)) := by
  refine PSpec.run (tysFOk) followsB Tryz.func24 (by decide) rfl Tryz.ntmps24 (Nat.le_of_ble_eq_true rfl) rfl fun w0 R0 hGw => ?_
  conv => whnf
  refine ⟨_, (hWrite_spec s hs), ?_⟩
  rintro q hq ⟨rfl, rfl⟩
  conv => whnf
  dsimp only [newBase, Nat.reduceAdd, Nat.reduceMul]
  refine ⟨_, (hSum_spec s hs hne), ?_⟩
  rintro q hq ⟨rfl, rfl⟩
  conv => whnf
  exact ⟨_, .refl _, rfl, rfl⟩
end Go.Proofs.YtjdmnfjgmbnlbaaGreatDoor
