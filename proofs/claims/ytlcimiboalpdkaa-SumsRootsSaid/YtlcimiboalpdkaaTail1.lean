/- A region that draws its order and whose first operation, a move, may come up as late as its tail: it is taken first; the rest as in Tail. -/
import Derived.Test.YtlcimiboalpdkaaTail
namespace Go.Proofs.Ytlcimiboalpdkaa

section
variable {P : Program} {ops : Array Oper} {md : Region.Mode} {C : World → Prop} {n : Nat} {L : Array Bool → Act → Prop}

/-- Each operation of the head but the first is waited for by a later one, up to the tail's first. -/
def sink1B (md : Region.Mode) (ops : Array Oper) (n : Nat) : Bool :=
  (List.range n).all fun i => i == 0 || (List.range (n + 1)).any fun j => decide (i < j) && Region.waitsFor md ops j i

theorem tail_waits1 {listed : Array Bool} (hs : sink1B md ops n = true) (hc : Region.chainB md ops n = true) (hn : n < ops.size) (inv : HeadInv md ops n listed) :
    ∀ (d i : Nat), n - i = d → i < n → i ≠ 0 → listed.getD i true = false → ∀ t, n ≤ t → t ∉ Region.ready md ops listed := by
  intro d
  induction d using Nat.strongRecOn with
  | _ d ih =>
    intro i hd hi hi0 hun t ht hr
    obtain ⟨_, ot, hot, hall⟩ := mem_ready.1 hr
    have htlt : t < ops.size := (Array.getElem?_eq_some_iff.1 hot).1
    by_cases htn : t = n
    · subst htn
      have h1 := List.all_eq_true.1 hs i (List.mem_range.2 hi)
      simp only [Bool.or_eq_true, beq_iff_eq, hi0, false_or] at h1
      obtain ⟨j, hj, hj2⟩ := List.any_eq_true.1 h1
      simp only [Bool.and_eq_true, decide_eq_true_eq] at hj2
      obtain ⟨oj, hoj, e, he, hb, hon⟩ := Region.waitsFor_spec hj2.2
      have hjle : j ≤ t := by have := List.mem_range.1 hj; omega
      by_cases hjt : j = t
      · subst hjt
        have : oj = ot := Option.some.inj (hoj.symm.trans hot)
        subst this
        have h2 := hall e he hb
        rw [hon, getD_both hun] at h2
        cases h2
      · cases hl : listed.getD j false with
        | true =>
          have h2 := inv.closed j oj hoj hl e he hb
          rw [hon, getD_both hun] at h2
          cases h2
        | false =>
          have hjs : j < listed.size := by rw [inv.size]; omega
          exact ih (t - j) (by omega) j rfl (by omega) (by omega) (getD_in hjs hl) t (Nat.le_refl _) hr
    · have h1 := List.all_eq_true.1 hc t (List.mem_range.2 htlt)
      simp only [Bool.or_eq_true, decide_eq_true_eq] at h1
      rcases h1 with h1 | h1
      · omega
      · obtain ⟨o', ho', e, he, hb, hon⟩ := Region.waitsFor_spec h1
        have : o' = ot := Option.some.inj (ho'.symm.trans hot)
        subst this
        have h2 := hall e he hb
        rw [hon, getD_both (inv.tail (t - 1) (by omega) (by omega))] at h2
        cases h2

theorem HeadQ.first1 {i : Nat} {oi : Oper} {v : Value} (hi : ops[i]? = some oi) (hsel : ∀ (j : Nat) (o : Oper) cs b, ops[j]? = some o → o.op ≠ .select cs b)
    (hs : sink1B md ops n = true) (hc : Region.chainB md ops n = true) (hn : n < ops.size) (hin : i < n) (hi0 : i ≠ 0) (hend : ∀ done a, L done a → ∀ j ∈ Region.ready md ops done, n ≤ j) (f : Nat) :
    ∀ (done : Array Bool) (a : Act), HeadInv md ops n done →
      (∀ j oj, ops[j]? = some oj → j ≠ i → done.getD j true = false → (∀ e ∈ oj.after, Region.binds md e = true → e.on ≠ i) → oi.apart ops oj = true) →
      i ∈ Region.ready md ops done → YieldsIn P ops C oi v a →
      HeadQ P md ops C n L f (done.setIfInBounds i true) (a.put oi.dst v) → HeadQ P md ops C n L (f + 1) done a := by
  induction f with
  | zero =>
    intro done a inv _ hr hy H
    have open_ := (mem_ready.1 hr).1
    refine ⟨List.ne_nil_of_mem hr, fun j hj => ?_⟩
    have hjn : j < n := Nat.lt_of_not_le fun h => tail_waits1 hs hc hn inv _ i rfl hin hi0 open_ j h hj
    refine ⟨hjn, ?_⟩
    by_cases hji : j = i
    · subst hji; exact hy.qOp hi H
    · exact absurd (hend _ _ H j (ready_mono hj hji)) (Nat.not_le_of_lt hjn)
  | succ f ih =>
    intro done a inv free hr hy H
    have open_ := (mem_ready.1 hr).1
    refine ⟨List.ne_nil_of_mem hr, fun j hj => ?_⟩
    have hjn : j < n := Nat.lt_of_not_le fun h => tail_waits1 hs hc hn inv _ i rfl hin hi0 open_ j h hj
    refine ⟨hjn, ?_⟩
    by_cases hji : j = i
    · subst hji; exact hy.qOp hi H
    · obtain ⟨jopen, oj, hoj, hall⟩ := mem_ready.1 hj
      have apartj : oi.apart ops oj = true := free j oj hoj hji jopen fun e he hb heq => by
        have h1 := hall e he hb
        rw [heq, getD_both open_] at h1
        cases h1
      have h2 := qOp_put hoj apartj (fun cs b => hsel i oi cs b hi) (fun cs b => hsel j oj cs b hoj) hy (H.2 j (ready_mono hj hji)).2
      refine qOp_mono (fun a' h3 => ih (done.setIfInBounds j true) a' (inv.set hj hjn) (fun k ok hk hki hun hno => free k ok hk hki ?_ hno) (ready_mono hr (Ne.symm hji)) h3.1 ?_) h2
      · by_cases hjk : j = k
        · subst hjk; exact jopen
        · rwa [getD_set_ne true hjk] at hun
      · rw [Array.setIfInBounds_comm _ _ hji]
        exact h3.2

theorem HeadQ.lex1 {g : Nat} {Lq : Act → Prop} (hsel : Region.noSelect ops = true) (hs : sink1B md ops n = true) (hc : Region.chainB md ops n = true) (hn : n < ops.size) :
    ∀ (l : List Oper) (k : Nat) (done : Array Bool) (a : Act), (∀ j, j < l.length → l[j]? = ops[k + j]?) → k + l.length = n → k ≠ 0 → HeadInv md ops n done →
    Region.lexHead md ops g l.length k done = true → wpQuiet P ops C Lq l a → HeadQ P md ops C n (fun done' a' => Region.seqB md ops g n done' = true ∧ Lq a') l.length done a
  | [], k, done, a, _, hk, _, _, hB, h => by
    obtain rfl : k = n := hk
    exact ⟨hB, h⟩
  | o :: l, k, done, a, hl, hk, hk0, inv, hB, h => by
    have h0 : ops[k]? = some o := (hl 0 (Nat.zero_lt_succ _)).symm
    simp only [List.length_cons, Region.lexHead, Bool.and_eq_true] at hB
    have hkn : k < n := by simp only [List.length_cons] at hk; omega
    have hr : k ∈ Region.ready md ops done := by simpa using hB.1.1
    have hq : qOp P ops C k (wpQuiet P ops C Lq l) a := by unfold qOp; simp only [h0]; exact h
    obtain ⟨v, hy, hK⟩ := yieldsIn_of_qOp h0 hq
    refine HeadQ.first1 h0 (Region.noSelect_spec hsel) hs hc hn hkn hk0 (fun done' a' hL => seqB_ready hL.1) l.length done a inv (Region.free_spec h0 hB.1.2) hr hy ?_
    refine HeadQ.lex1 hsel hs hc hn l (k + 1) _ _ (fun j hj => ?_) (by simp only [List.length_cons] at hk; omega) (Nat.succ_ne_zero _) (inv.set hr hkn) hB.2 hK
    have := hl (j + 1) (by simp; omega)
    rw [show k + 1 + j = k + (j + 1) by omega, ← this]; rfl

/-- What the region has to show: its first operation is free of the others, the rest a head and a tail. -/
def lexTail1B (md : Region.Mode) (ops : Array Oper) (n : Nat) : Bool :=
  Region.noSelect ops && decide (0 < n) && decide (n < ops.size) && sink1B md ops n && Region.chainB md ops n &&
  (Region.ready md ops (Array.replicate ops.size false)).contains 0 && Region.free md ops (Array.replicate ops.size false) 0 &&
  Region.lexHead md ops (ops.size - n) (n - 1) 1 ((Array.replicate ops.size false).setIfInBounds 0 true)

/-- The first operation is a move; the head quiet, walked in the text's order; the tail as a list, in every world behind the head. -/
theorem wp_region_move_quiet_tail {id : Nat} {Q : Exit → Act → World → Prop} {a : Act} {w : World} {l : List Oper} (n : Nat) (hm : P.follows .mixedOrders = true) (hB : lexTail1B .any l.toArray n = true)
    (o : Oper) (x : Operand) (ho : l[0]? = some o) (hop : o.op = .move x) (hg : o.guard = none)
    (hQ : ∀ v c a w, Q (.panic c) (a.put o.dst v) w → Q (.panic c) a w)
    (h : wpQuiet P l.toArray (fun w' => ∃ m, w' = w.drewN m) (fun a' => ∀ m, wpList P l.toArray Q (l.drop n) a' (w.drewN m)) ((l.take n).drop 1) (a.put o.dst (a.eval x))) : (Code.region id l.toArray true).wp P Q a w := by
  simp only [lexTail1B, Bool.and_eq_true, decide_eq_true_eq] at hB
  obtain ⟨⟨⟨⟨⟨⟨⟨hsel, hn0⟩, hn⟩, hs⟩, hc⟩, hr0⟩, hf0⟩, hlex⟩ := hB
  have hnl : n < l.length := by simpa using hn
  have htl : ((l.take n).drop 1).length = n - 1 := by simp; omega
  have hdl : (l.drop n).length = l.toArray.size - n := by simp
  have ho' : l.toArray[0]? = some o := by simpa using ho
  have inv0 : HeadInv .any l.toArray n (Array.replicate l.toArray.size false) :=
    ⟨by simp, fun j oj _ hl => (by rw [getD_replicate_false] at hl; cases hl), fun t _ ht => getD_in (by simpa using ht) (getD_replicate_false _ _)⟩
  have hr0' : 0 ∈ Region.ready .any l.toArray (Array.replicate l.toArray.size false) := by simpa using hr0
  have H := HeadQ.lex1 (P := P) (C := fun w' => ∃ m, w' = w.drewN m) (md := .any) (g := l.toArray.size - n) hsel hs hc hn ((l.take n).drop 1) 1 _ (a.put o.dst (a.eval x))
    (fun j hj => by rw [htl] at hj; simp only [List.getElem?_drop, List.getElem?_toArray]; rw [List.getElem?_take_of_lt (by omega)]) (by rw [htl]; omega) (by decide) (inv0.set hr0' hn0) (by rw [htl]; exact hlex) h
  refine wp_region_any hm ?_
  have K := HeadQ.any (Q' := Q) (g := l.toArray.size - n) (fun done a' w' hw hL => by
    obtain ⟨m, rfl⟩ := hw
    have h2 := wpAny_of_seq (md := .any) (Q' := Q) (l.drop n) n done a' (w.drewN m) (fun j => by simp [List.getElem?_drop]) (by rw [hdl]; exact hL.1) (hL.2 m)
    rwa [hdl] at h2) _ _ _ { w with drawn := w.drawn + 1 } ⟨1, rfl⟩ H
  rw [htl, show n - 1 + (l.toArray.size - n) = l.toArray.size - 1 by omega] at K
  have hsz : l.toArray.size = (l.toArray.size - 1) + 1 := by omega
  rw [show wpAny P Region.Mode.any l.toArray Q l.toArray.size = wpAny P Region.Mode.any l.toArray Q ((l.toArray.size - 1) + 1) by rw [← hsz]]
  refine wpAny_take ho' hsel hf0 hr0 (hQ _) (Or.inl ⟨?_, ?_⟩) K
  · simp [Region.wanted, hg]
  · intro w'
    simp [execOp, hop]
end
end Go.Proofs.Ytlcimiboalpdkaa
