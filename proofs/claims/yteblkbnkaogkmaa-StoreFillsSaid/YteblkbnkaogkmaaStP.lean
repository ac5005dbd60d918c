/- Chapter 17 as plain functions on plain data, and what stays true of a store through Push and Take. -/
namespace Towline.Store
structure Msg where
  id : Int
  stream : Nat
  ppid : Nat
  free : Bool
  text : List UInt8
  til : Int
  deriving DecidableEq, Inhabited
structure Pc where
  tsn : Nat
  first : Bool
  last : Bool
  free : Bool
  stream : Nat
  ssn : Nat
  ppid : Nat
  text : List UInt8
def total (l : List Msg) : Nat := (l.map fun m => m.text.length).sum
theorem total_append (a b : List Msg) : total (a ++ b) = total a + total b := by unfold total; simp
theorem total_take (l : List Msg) (k : Nat) (h : k < l.length) : total (l.take (k + 1)) = total (l.take k) + (l.getD k default).text.length := by
  rw [List.take_succ_eq_append_getElem h, total_append]; simp [total, List.getD_eq_getElem?_getD, h]
theorem total_take_le (l : List Msg) (k : Nat) : total (l.take k) ≤ total l := by
  have h := total_append (l.take k) (l.drop k)
  rw [List.take_append_drop] at h
  omega
structure S2 where
  l : List Msg
  a : Nat
  next : List Nat
/-- How many bytes of the first message a piece holds. -/
def cut (m : Msg) (a : Nat) (most : Int) : Nat := (min ((m.text.length : Int) - a) (max 1 (min most 1000))).toNat
theorem cut_int {m : Msg} {a : Nat} {most : Int} (h : a < m.text.length) : ((cut m a most : Nat) : Int) = min ((m.text.length : Int) - a) (max 1 (min most 1000)) := by
  unfold cut; omega
theorem cut_le {m : Msg} {a : Nat} {most : Int} (h : a < m.text.length) : 1 ≤ cut m a most ∧ a + cut m a most ≤ m.text.length ∧ cut m a most ≤ 1000 := by
  have := cut_int (most := most) h; omega
def num (m : Msg) (next : List Nat) : Nat := if m.free then 0 else next.getD m.stream 0
def pieceOf (m : Msg) (a : Nat) (next : List Nat) (most : Int) : Pc :=
  ⟨0, a == 0, decide (m.text.length ≤ a + cut m a most), m.free, m.stream, num m next, m.ppid, (m.text.drop a).take (cut m a most)⟩
def bump (m : Msg) (next : List Nat) : List Nat := if m.free then next else next.set m.stream ((next.getD m.stream 0 + 1) % 65536)
def after (m : Msg) (r : List Msg) (a : Nat) (next : List Nat) (most : Int) : S2 :=
  if a + cut m a most < m.text.length then ⟨m :: r, a + cut m a most, next⟩ else ⟨r, 0, bump m next⟩
/-- B2: does a message stay? -/
def stays (off now : Int) (i : Nat) (m : Msg) : Bool := (i == 0 && decide (0 < off)) || decide (m.til ≤ 0) || decide (now ≤ m.til)
/-- Those that are to be kept, and those that are not; the first one has number i. -/
def ins (keep : Nat → Msg → Bool) (i : Nat) : List Msg → List Msg
  | [] => []
  | m :: l => if keep i m then m :: ins keep (i + 1) l else ins keep (i + 1) l
def outs (keep : Nat → Msg → Bool) (i : Nat) : List Msg → List Msg
  | [] => []
  | m :: l => if keep i m then outs keep (i + 1) l else m :: outs keep (i + 1) l
theorem ins_snoc (keep : Nat → Msg → Bool) : ∀ (l : List Msg) (i : Nat) (m : Msg), ins keep i (l ++ [m]) = ins keep i l ++ (if keep (i + l.length) m then [m] else [])
  | [], i, m => by simp [ins]
  | x :: l, i, m => by
    simp only [List.cons_append, ins, ins_snoc keep l (i + 1) m, List.length_cons, show i + 1 + l.length = i + (l.length + 1) from by omega]
    split <;> simp
theorem outs_snoc (keep : Nat → Msg → Bool) : ∀ (l : List Msg) (i : Nat) (m : Msg), outs keep i (l ++ [m]) = outs keep i l ++ (if keep (i + l.length) m then [] else [m])
  | [], i, m => by simp [outs]
  | x :: l, i, m => by
    simp only [List.cons_append, outs, outs_snoc keep l (i + 1) m, List.length_cons, show i + 1 + l.length = i + (l.length + 1) from by omega]
    split <;> simp
theorem ins_all (l : List Msg) : ∀ i, ins (fun _ _ => true) i l = l := by
  induction l with
  | nil => intro i; rfl
  | cons m l ih => intro i; simp [ins, ih]
theorem ins_rest (l : List Msg) : ∀ i, 0 < i → ins (fun i _ => decide (0 < i)) i l = l := by
  induction l with
  | nil => intro i _; rfl
  | cons m l ih => intro i hi; simp [ins, hi, ih (i + 1) (by omega)]
theorem ins_tail (m : Msg) (r : List Msg) : ins (fun i _ => decide (0 < i)) 0 (m :: r) = r := by simp [ins, ins_rest r 1 (by omega)]
theorem ins_len (keep : Nat → Msg → Bool) (l : List Msg) : ∀ i, (ins keep i l).length ≤ l.length ∧ (outs keep i l).length ≤ l.length := by
  induction l with
  | nil => intro i; simp [ins, outs]
  | cons m l ih =>
    intro i
    have := ih (i + 1)
    simp only [ins, outs, List.length_cons]
    split <;> simp <;> omega
/-- A store that is right, with N streams. -/
structure Fine (N : Nat) (s : S2) : Prop where
  msg : ∀ m ∈ s.l, m.stream < N ∧ 1 ≤ m.text.length ∧ m.text.length ≤ 20000
  head : ∀ m r, s.l = m :: r → s.a < m.text.length
  none : s.l = [] → s.a = 0
  num : ∀ x ∈ s.next, x < 65536
  len : s.next.length = N
theorem Fine.new (N : Nat) : Fine N ⟨[], 0, List.replicate N 0⟩ :=
  ⟨fun m h => by simp at h, fun m r h => by simp at h, fun _ => rfl, fun x h => by rw [List.mem_replicate] at h; omega, by simp⟩
theorem Fine.push {N : Nat} {l : List Msg} {a : Nat} {nx : List Nat} {m : Msg} (h : Fine N ⟨l, a, nx⟩) (h1 : m.stream < N) (h2 : 1 ≤ m.text.length) (h3 : m.text.length ≤ 20000) : Fine N ⟨l ++ [m], a, nx⟩ := by
  refine ⟨fun x hx => ?_, fun x r he => ?_, fun he => ?_, h.num, h.len⟩
  · rcases List.mem_append.1 hx with hx | hx
    · exact h.msg x hx
    · obtain rfl := List.mem_singleton.1 hx; exact ⟨h1, h2, h3⟩
  · cases l with
    | nil =>
      have e := h.none rfl
      simp only [List.nil_append, List.cons.injEq] at he
      obtain ⟨rfl, _⟩ := he
      show a < _
      have e : a = 0 := e
      omega
    | cons y l =>
      simp only [List.cons_append, List.cons.injEq] at he
      obtain ⟨rfl, _⟩ := he
      exact h.head y l rfl
  · exact absurd (show l ++ [m] = [] from he) (by simp)
theorem bump_lt {m : Msg} {nx : List Nat} (h : ∀ x ∈ nx, x < 65536) : ∀ x ∈ bump m nx, x < 65536 := by
  intro x hx
  unfold bump at hx
  split at hx
  · exact h x hx
  · rcases List.mem_or_eq_of_mem_set hx with hx | rfl
    · exact h x hx
    · omega
theorem bump_length (m : Msg) (nx : List Nat) : (bump m nx).length = nx.length := by
  unfold bump; split <;> simp
theorem Fine.take {N : Nat} {m : Msg} {r : List Msg} {a : Nat} {nx : List Nat} (most : Int) (h : Fine N ⟨m :: r, a, nx⟩) : Fine N (after m r a nx most) := by
  unfold after
  split
  · rename_i hp
    refine ⟨h.msg, fun x t he => ?_, fun he => by simp at he, h.num, h.len⟩
    simp only [List.cons.injEq] at he
    obtain ⟨rfl, _⟩ := he
    exact hp
  · refine ⟨fun x hx => h.msg x (List.mem_cons_of_mem _ hx), fun x t he => ?_, fun _ => rfl, bump_lt h.num, by rw [bump_length]; exact h.len⟩
    have := (h.msg x (List.mem_cons_of_mem _ (by rw [show r = x :: t from he]; simp))).2.1
    show 0 < _
    omega
def bytes2 (s : S2) : Int := (total s.l : Int) - s.a
theorem total_cons (m : Msg) (r : List Msg) : total (m :: r) = m.text.length + total r := by simp [total]
theorem bytes2_take {N : Nat} {m : Msg} {r : List Msg} {a : Nat} {nx : List Nat} (most : Int) (h : Fine N ⟨m :: r, a, nx⟩) : bytes2 (after m r a nx most) = bytes2 ⟨m :: r, a, nx⟩ - cut m a most := by
  have ha := h.head m r rfl
  obtain ⟨k1, k2, _⟩ := cut_le (most := most) (show a < m.text.length from ha)
  have e := total_cons m r
  unfold bytes2 after
  split
  · simp only; omega
  · simp only [e]; omega
theorem bytes2_push (l : List Msg) (a : Nat) (nx : List Nat) (m : Msg) : bytes2 ⟨l ++ [m], a, nx⟩ = bytes2 ⟨l, a, nx⟩ + m.text.length := by
  have e : total (l ++ [m]) = total l + m.text.length := by simp [total]
  unfold bytes2
  simp only [e]; omega
theorem piece_length {m : Msg} {a : Nat} {nx : List Nat} {most : Int} (h : a < m.text.length) : (pieceOf m a nx most).text.length = cut m a most := by
  obtain ⟨k1, k2, _⟩ := cut_le (most := most) h
  simp only [pieceOf, List.length_take, List.length_drop]; omega
theorem total_le {N : Nat} {s : S2} (h : Fine N s) : total s.l ≤ 20000 * s.l.length := by
  have : ∀ l : List Msg, (∀ m ∈ l, m.text.length ≤ 20000) → total l ≤ 20000 * l.length := by
    intro l
    induction l with
    | nil => intro _; simp [total]
    | cons m l ih =>
      intro hm
      have e := total_cons m l
      have h1 := hm m (by simp)
      have h2 := ih fun x hx => hm x (by simp [hx])
      rw [e, List.length_cons]; omega
  exact this s.l fun m hm => (h.msg m hm).2.2
theorem after_length (m : Msg) (r : List Msg) (a : Nat) (nx : List Nat) (most : Int) : (after m r a nx most).l.length ≤ r.length + 1 := by
  unfold after; split <;> simp
/-- Which of n things the raw number c speaks of. -/
def pickOf (c n : Int) : Int := (if c < 0 then -(c + 1) else c) % n
theorem pickOf_lt (c n : Int) (hn : 0 < n) : 0 ≤ pickOf c n ∧ pickOf c n < n := ⟨Int.emod_nonneg _ (by omega), Int.emod_lt_of_pos _ hn⟩
end Towline.Store
