/- The chunks of a list of bytes: plain facts. No program in sight. -/
import Derived.Test.YtackgamdjeidmaaRot
namespace Go.Proofs.Ytackgamdjeidmaa

/-- The last eight bytes, or fewer where there are fewer. -/
def last8 (l : List UInt8) : List UInt8 := l.drop (l.length - 8)
/-- The turned sum of these. -/
def zOf (l : List UInt8) : Int × Int := sumL (last8 l)
def cell16 (l : List UInt8) : Int := ((zOf l).1 + 3 * (zOf l).2) % 16
/-- Does a chunk that holds these bytes end? -/
def endsB (l : List UInt8) : Bool := l.length == 128 || (decide (16 ≤ l.length) && cell16 l == 0)
/-- A byte more: the chunks, and the bytes of the one that isn't ended. -/
def feedB (st : List (List UInt8) × List UInt8) (c : UInt8) : List (List UInt8) × List UInt8 :=
  if endsB (st.2 ++ [c]) = true then (st.1 ++ [st.2 ++ [c]], []) else (st.1, st.2 ++ [c])
def feedL (st : List (List UInt8) × List UInt8) (p : List UInt8) : List (List UInt8) × List UInt8 := p.foldl feedB st
/-- With the last one. -/
def finL (st : List (List UInt8) × List UInt8) : List (List UInt8) := if st.2 = [] then st.1 else st.1 ++ [st.2]
def cutL (s : List UInt8) : List (List UInt8) := finL (feedL ([], []) s)

theorem last8_length (l : List UInt8) : (last8 l).length ≤ 8 := by unfold last8; simp; omega
theorem zOf_le (l : List UInt8) : (zOf l).1.natAbs ≤ 2040 ∧ (zOf l).2.natAbs ≤ 2040 := by
  have h1 := sumL_le (last8 l)
  have h2 := last8_length l
  unfold zOf; omega
theorem zOf_short {l : List UInt8} (h : l.length < 8) (c : UInt8) : zOf (l ++ [c]) = addZ (rotN 1 (zOf l)) ((c.toNat : Int), 0) := by
  have e1 : last8 l = l := by unfold last8; rw [show l.length - 8 = 0 by omega]; rfl
  have e2 : last8 (l ++ [c]) = l ++ [c] := by unfold last8; rw [show (l ++ [c]).length - 8 = 0 by simp; omega]; rfl
  unfold zOf
  rw [e1, e2, sumL_snoc']; rfl
theorem last8_cons {l : List UInt8} (h : 8 ≤ l.length) : last8 l = l[l.length - 8] :: l.drop (l.length - 7) := by
  unfold last8
  rw [List.drop_eq_getElem_cons (by omega), show l.length - 8 + 1 = l.length - 7 by omega]
theorem last8_snoc {l : List UInt8} (h : 8 ≤ l.length) (c : UInt8) : last8 (l ++ [c]) = l.drop (l.length - 7) ++ [c] := by
  unfold last8
  rw [show (l ++ [c]).length - 8 = l.length - 7 by simp, List.drop_append_of_le_length (by omega)]

theorem feedL_nil (st : List (List UInt8) × List UInt8) : feedL st [] = st := rfl
theorem feedL_append (st : List (List UInt8) × List UInt8) (p q : List UInt8) : feedL st (p ++ q) = feedL (feedL st p) q := List.foldl_append ..
theorem feedL_snoc (st : List (List UInt8) × List UInt8) (p : List UInt8) (c : UInt8) : feedL st (p ++ [c]) = feedB (feedL st p) c := by
  rw [feedL_append]; rfl
theorem feedL_cons (st : List (List UInt8) × List UInt8) (c : UInt8) (p : List UInt8) : feedL st (c :: p) = feedL (feedB st c) p := rfl

theorem feedB_front (q : List (List UInt8)) (st : List (List UInt8) × List UInt8) (c : UInt8) : feedB (q ++ st.1, st.2) c = (q ++ (feedB st c).1, (feedB st c).2) := by
  unfold feedB
  by_cases h : endsB (st.2 ++ [c]) = true <;> simp [h]
theorem feedL_front (q : List (List UInt8)) (p : List UInt8) : ∀ st : List (List UInt8) × List UInt8, feedL (q ++ st.1, st.2) p = (q ++ (feedL st p).1, (feedL st p).2) := by
  induction p with
  | nil => intro st; rfl
  | cons c p ih => intro st; rw [feedL_cons, feedL_cons, feedB_front]; exact ih _
theorem feedL_open (q : List (List UInt8)) (o p : List UInt8) : feedL (q, o) p = (q ++ (feedL ([], o) p).1, (feedL ([], o) p).2) := by
  have := feedL_front q p ([], o)
  rwa [List.append_nil] at this
theorem finL_front (q : List (List UInt8)) (st : List (List UInt8) × List UInt8) : finL (q ++ st.1, st.2) = q ++ finL st := by
  unfold finL
  by_cases h : st.2 = [] <;> simp [h]

/-- What always holds of the chunks and the open one. -/
structure Fed (st : List (List UInt8) × List UInt8) : Prop where
  short : st.2.length < 128
  size : ∀ x ∈ st.1, 16 ≤ x.length ∧ x.length ≤ 128

theorem Fed.start : Fed ([], []) := ⟨by simp, by simp⟩
theorem Fed.byte {st : List (List UInt8) × List UInt8} (h : Fed st) (c : UInt8) : Fed (feedB st c) := by
  have hs := h.short
  unfold feedB
  by_cases he : endsB (st.2 ++ [c]) = true
  · rw [if_pos he]
    refine ⟨by simp, fun x hx => ?_⟩
    rcases List.mem_append.1 hx with hx | hx
    · exact h.size x hx
    · have : x = st.2 ++ [c] := by simpa using hx
      subst this
      unfold endsB at he
      simp only [Bool.or_eq_true, beq_iff_eq, Bool.and_eq_true, decide_eq_true_eq, List.length_append, List.length_singleton] at he ⊢
      omega
  · rw [if_neg he]
    refine ⟨?_, h.size⟩
    have : ¬ (st.2 ++ [c]).length = 128 := by
      intro h'
      apply he
      unfold endsB
      simp only [h']; rfl
    simp only [List.length_append, List.length_singleton] at this ⊢
    omega
theorem Fed.feed (p : List UInt8) : ∀ {st : List (List UInt8) × List UInt8}, Fed st → Fed (feedL st p) := by
  induction p with
  | nil => intro st h; exact h
  | cons c p ih => intro st h; exact ih (h.byte c)

theorem feedB_flat (st : List (List UInt8) × List UInt8) (c : UInt8) : (feedB st c).1.flatten ++ (feedB st c).2 = st.1.flatten ++ st.2 ++ [c] := by
  unfold feedB
  by_cases h : endsB (st.2 ++ [c]) = true <;> simp [h]
theorem feedL_flat (p : List UInt8) : ∀ st : List (List UInt8) × List UInt8, (feedL st p).1.flatten ++ (feedL st p).2 = st.1.flatten ++ st.2 ++ p := by
  induction p with
  | nil => intro st; simp [feedL]
  | cons c p ih => intro st; rw [feedL_cons, ih, feedB_flat]; simp
theorem finL_flat (st : List (List UInt8) × List UInt8) : (finL st).flatten = st.1.flatten ++ st.2 := by
  unfold finL
  by_cases h : st.2 = [] <;> simp [h]
/-- Put together they are the text. -/
theorem cutL_flat (s : List UInt8) : (cutL s).flatten = s := by
  unfold cutL; rw [finL_flat, feedL_flat]; simp

/-- All have 1 to 128 bytes, all but the last one 16 at least. -/
theorem cutL_sizes (s : List UInt8) (i : Nat) (hi : i < (cutL s).length) : 1 ≤ (cutL s)[i].length ∧ (cutL s)[i].length ≤ 128 ∧ (i + 1 < (cutL s).length → 16 ≤ (cutL s)[i].length) := by
  have hf := Fed.feed s Fed.start
  have key : ∀ l, l = cutL s → ∀ hi : i < l.length, 1 ≤ l[i].length ∧ l[i].length ≤ 128 ∧ (i + 1 < l.length → 16 ≤ l[i].length) := by
    intro l hl hi
    unfold cutL finL at hl
    by_cases h : (feedL ([], []) s).2 = []
    · rw [if_pos h] at hl
      subst hl
      have := hf.size _ (List.getElem_mem hi)
      omega
    · rw [if_neg h] at hl
      subst hl
      have hs := hf.short
      have h1 : 1 ≤ (feedL ([], []) s).2.length := by
        have := List.length_pos_iff.2 h; omega
      by_cases hlt : i < (feedL ([], []) s).1.length
      · rw [List.getElem_append_left hlt]
        have := hf.size _ (List.getElem_mem hlt)
        omega
      · rw [List.getElem_append_right (by omega)]
        simp only [List.length_append, List.length_singleton] at hi ⊢
        simp only [List.getElem_singleton]
        omega
  exact key _ rfl hi

theorem feedB_open {o : List UInt8} {c : UInt8} (h : endsB (o ++ [c]) = false) : feedB ([], o) c = ([], o ++ [c]) := by
  unfold feedB; rw [if_neg (by simp [h])]
theorem feedB_ends {o : List UInt8} {c : UInt8} (h : endsB (o ++ [c]) = true) : feedB ([], o) c = ([o ++ [c]], []) := by
  unfold feedB; rw [if_pos h]; rfl

theorem feedL_take {s : List UInt8} {n : Nat} (hn : n ≤ s.length) (hj : ∀ j, 1 ≤ j → j < n → endsB (s.take j) = false) :
    ∀ k, k < n → feedL ([], []) (s.take k) = ([], s.take k) := by
  intro k
  induction k with
  | zero => intro _; rfl
  | succ k ih =>
    intro hk
    have h1 := hj (k + 1) (by omega) hk
    rw [List.take_succ_eq_append_getElem (by omega)] at h1 ⊢
    rw [feedL_snoc, ih (by omega), feedB_open h1]

/-- The first chunk, and what is behind it. -/
theorem cutL_step {s : List UInt8} {n : Nat} (h1 : 1 ≤ n) (hn : n ≤ s.length) (hj : ∀ j, 1 ≤ j → j < n → endsB (s.take j) = false)
    (he : n = s.length ∨ endsB (s.take n) = true) : cutL s = s.take n :: cutL (s.drop n) := by
  obtain ⟨k, rfl⟩ : ∃ k, n = k + 1 := ⟨n - 1, by omega⟩
  have hk := feedL_take hn hj k (by omega)
  have e : s.take (k + 1) = s.take k ++ [s[k]] := List.take_succ_eq_append_getElem (by omega)
  by_cases hend : endsB (s.take (k + 1)) = true
  · have hf : feedL ([], []) (s.take (k + 1)) = ([s.take (k + 1)], []) := by
      rw [e] at hend ⊢
      rw [feedL_snoc, hk, feedB_ends hend]
    have : feedL ([], []) s = feedL ([s.take (k + 1)], []) (s.drop (k + 1)) := by
      conv => lhs; rw [← List.take_append_drop (k + 1) s]
      rw [feedL_append, hf]
    unfold cutL
    rw [this, feedL_open]
    exact finL_front [s.take (k + 1)] _
  · have hl : k + 1 = s.length := by rcases he with h | h; exact h; exact absurd h hend
    have hs : s.take (k + 1) = s := List.take_of_length_le (by omega)
    have hd : s.drop (k + 1) = [] := List.drop_eq_nil_of_le (by omega)
    have hf : feedL ([], []) s = ([], s) := by
      have hend' : endsB (s.take k ++ [s[k]]) = false := by rw [← e]; simpa using hend
      conv => lhs; rw [← hs, e]
      rw [feedL_snoc, hk, feedB_open hend', ← e, hs]
    have hne : s ≠ [] := by intro h; rw [h] at hl; simp at hl
    unfold cutL
    rw [hf, hd, hs]
    simp [finL, feedL, hne]

theorem cutL_nil : cutL [] = [] := rfl

/-- Where the first chunk ends. -/
theorem first_end (s : List UInt8) (hs : s ≠ []) : ∃ n, 1 ≤ n ∧ n ≤ s.length ∧ (∀ j, 1 ≤ j → j < n → endsB (s.take j) = false) ∧ (n = s.length ∨ endsB (s.take n) = true) := by
  have hl : 1 ≤ s.length := by have := List.length_pos_iff.2 hs; omega
  have key : ∀ d k, k + d = s.length → 1 ≤ k → (∀ j, 1 ≤ j → j < k → endsB (s.take j) = false) →
      ∃ n, 1 ≤ n ∧ n ≤ s.length ∧ (∀ j, 1 ≤ j → j < n → endsB (s.take j) = false) ∧ (n = s.length ∨ endsB (s.take n) = true) := by
    intro d
    induction d with
    | zero => intro k hk h1 hj; exact ⟨k, h1, by omega, hj, Or.inl (by omega)⟩
    | succ d ih =>
      intro k hk h1 hj
      by_cases he : endsB (s.take k) = true
      · exact ⟨k, h1, by omega, hj, Or.inr he⟩
      · refine ih (k + 1) (by omega) (by omega) fun j h1' h2' => ?_
        by_cases hjk : j = k
        · subst hjk; simpa using he
        · exact hj j h1' (by omega)
  exact key (s.length - 1) 1 (by omega) (by omega) (fun j h1 h2 => by omega)

/-- Behind the first chunk the rest is cut as a text of its own. -/
theorem cutL_rest (s : List UInt8) (x : List UInt8) (r : List (List UInt8)) (h : cutL s = x :: r) : cutL (s.drop x.length) = r := by
  have hne : s ≠ [] := by intro h'; rw [h', cutL_nil] at h; cases h
  obtain ⟨n, h1, h2, h3, h4⟩ := first_end s hne
  rw [cutL_step h1 h2 h3 h4] at h
  injection h with hx hr
  subst hx
  rw [List.length_take, Nat.min_eq_left h2]
  exact hr

theorem open_first (b : List UInt8) : ∀ o : List UInt8, o ≠ [] → ∃ t r, finL (feedL ([], o) b) = (o ++ t) :: r := by
  induction b with
  | nil => intro o ho; exact ⟨[], [], by simp [feedL, finL, ho]⟩
  | cons c b ih =>
    intro o ho
    rw [feedL_cons]
    by_cases h : endsB (o ++ [c]) = true
    · rw [feedB_ends h, feedL_open]
      refine ⟨[c], _, finL_front [o ++ [c]] _⟩
    · rw [feedB_open (by simpa using h)]
      obtain ⟨t, r, e⟩ := ih (o ++ [c]) (by simp)
      exact ⟨[c] ++ t, r, by rw [e]; simp⟩

/-- What stands behind a text changes its last chunk alone. -/
theorem cutL_behind (a b : List UInt8) (h : cutL a ≠ []) :
    ∃ t r, cutL (a ++ b) = (cutL a).dropLast ++ ((cutL a).getLast h ++ t) :: r := by
  generalize hf : feedL ([], []) a = st
  have ha : cutL a = finL st := by unfold cutL; rw [hf]
  have hab : cutL (a ++ b) = st.1 ++ finL (feedL ([], st.2) b) := by
    unfold cutL
    rw [feedL_append, hf, show st = (st.1, st.2) from rfl, feedL_open]
    exact finL_front st.1 _
  by_cases h0 : st.2 = []
  · have hl : cutL a = st.1 := by rw [ha]; unfold finL; rw [if_pos h0]
    refine ⟨[], finL (feedL ([], st.2) b), ?_⟩
    rw [hab, List.append_nil]
    conv => lhs; rw [← hl, ← List.dropLast_concat_getLast h]
    simp
  · have hl : cutL a = st.1 ++ [st.2] := by rw [ha]; unfold finL; rw [if_neg h0]
    obtain ⟨t, r, e⟩ := open_first b st.2 h0
    refine ⟨t, r, ?_⟩
    rw [hab, e]
    simp only [hl, List.dropLast_concat, List.getLast_concat]

/-- However it is fed in parts. -/
theorem cutL_parts (o p : List UInt8) : (feedL ([], o) p).1.length ≤ p.length := by
  have key : ∀ p : List UInt8, ∀ st : List (List UInt8) × List UInt8, (feedL st p).1.length ≤ st.1.length + p.length := by
    intro p
    induction p with
    | nil => intro st; simp [feedL]
    | cons c p ih =>
      intro st
      rw [feedL_cons]
      have h := ih (feedB st c)
      have : (feedB st c).1.length ≤ st.1.length + 1 := by
        unfold feedB; by_cases h : endsB (st.2 ++ [c]) = true <;> simp [h]
      simp only [List.length_cons]; omega
  have := key p ([], o)
  simpa using this
theorem cutL_length (s : List UInt8) : (cutL s).length ≤ s.length + 1 := by
  have h := cutL_parts [] s
  unfold cutL finL
  by_cases h0 : (feedL ([], []) s).2 = [] <;> simp [h0] <;> omega
end Go.Proofs.Ytackgamdjeidmaa
