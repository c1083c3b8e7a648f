/- Appending a list of texts to another one; parts of a text. -/
import Derived.Test.YtackgamdjeidmaaCutB
import Derived.Maps.AppendAt
import Derived.Deep.AppendLies
import Derived.OwnWalk
import Derived.SizedLaws
import Derived.SliceStrings
namespace Go.Proofs.Ytackgamdjeidmaa
open Go.RowKit Go.WideShapes Go.ChangeShapes Go.ChangeAt

/-- A slice that reads as these cells, nil let in. -/
def Reads (w : World) (A : Option Addr) (n : Nat) (xs : List Value) : Prop :=
  xs.length = n ∧ (0 < n → ∃ ad, A = some ad ∧ ∀ j u, xs[j]? = some u → w.cell? (ad.add j) = some u)

theorem Reads.of_own {w : World} {base : Nat} {e : TypeId} {n c : Nat} {A : Option Addr} {xs : List Value} (h : w.ownsRow base e 1 (.slice A n c) n xs) : Reads w A n xs := by
  refine ⟨by have := h.1; omega, fun hn => ?_⟩
  rcases h.2 with ⟨_, h0⟩ | ⟨g, cap, cur, hv, _, hh, _⟩
  · omega
  · injection hv with hA
    subst hA
    exact ⟨_, rfl, h.cells (g := g) rfl⟩

theorem run_append_of_nil {P : Program} (w : World) (base : Nat) (t ty e : TypeId) (i : TypeInfo) (ht : P.underlying t = some (.slice e)) (hi : P.info? e = some i)
    (v : Value) (n : Nat) (xs : List Value) (hown : w.ownsRow base e 1 v n xs) (c : Nat) : (Builtin.append_ #[t, t] ty #[v, .slice none 0 c]).run P w = .ok v w := by
  rcases hown.2 with ⟨rfl, rfl⟩ | ⟨g, cap, cur, rfl, _, _, hnc, _⟩
  · simp [Builtin.append_, run_underlying ht, sizeOf, typeInfo, hi, Builtin.lenOf, Builtin.firstCells]
  · simp [Builtin.append_, run_underlying ht, sizeOf, typeInfo, hi, Builtin.lenOf, Builtin.firstCells, hnc, storeCells]

theorem run_append_any {P : Program} (w : World) (base : Nat) (t ty e : TypeId) (i : TypeInfo) (z : Value) (bytes : Nat) (ht : P.underlying t = some (.slice e)) (hi : P.info? e = some i) (hz : i.zero = some z)
    (hsize : i.size = 1) (hby : i.bytes = bytes) (hzs : z.cells.size = 1)
    (v : Value) (n : Nat) (xs : List Value) (hown : w.ownsRow base e 1 v n xs)
    (A : Option Addr) (m c : Nat) (news : List Value) (hr : Reads w A m news) (h1 : ∀ u ∈ news, u.oneCell' = true)
    (h63 : n + m ≤ maxLen) (hbytes : (n + m) * bytes ≤ 140737488355328) (hbase : base ≤ w.heap.size) :
    ∃ v' w', (Builtin.append_ #[t, t] ty #[v, .slice A m c]).run P w = .ok v' w' ∧ w'.ownsRow base e 1 v' (n + m) (xs ++ news) ∧ w.grownBy w' v.ownBlock := by
  rcases A with _ | ad
  · have hm : m = 0 := by
      rcases Nat.eq_zero_or_pos m with h0 | h0
      · exact h0
      · obtain ⟨ad, h, _⟩ := hr.2 h0
        cases h
    subst hm
    have hn : news = [] := List.eq_nil_of_length_eq_zero hr.1
    subst hn
    exact ⟨v, w, run_append_of_nil w base t ty e i ht hi v n xs hown c, by simpa using hown, World.grownBy.refl w _⟩
  · have hcells : ∀ j u, news[j]? = some u → w.cell? (ad.add j) = some u := by
      intro j u hu
      rcases Nat.eq_zero_or_pos m with h0 | h0
      · subst h0
        have hn : news = [] := List.eq_nil_of_length_eq_zero hr.1
        subst hn
        simp at hu
      · obtain ⟨ad', h, hc⟩ := hr.2 h0
        injection h with h
        subst h
        exact hc j u hu
    obtain ⟨v', w', hrun, h2, h3, _⟩ := run_append_own_at (P := P) w base t ty e i z 1 bytes ht hi hz hsize hby hzs (by decide) v n xs hown ad m c news (by have := hr.1; omega) hcells h1 h63 hbytes hbase
    exact ⟨v', w', hrun, h2, h3⟩

theorem wpList_append_any {P : Program} (w : World) {ops : Array Oper} {rest : List Oper} {o : Oper} {a : Act} {Q : Exit → Act → World → Prop} (hgd : o.guard = none) (s x : Operand) (t : TypeId)
    (ho : o.op = .call { callee := .builtin .append, args := #[s, x], argTypes := #[t, t] })
    (base : Nat) (e : TypeId) (i : TypeInfo) (z : Value) (bytes : Nat) (ht : P.underlying t = some (.slice e)) (hi : P.info? e = some i) (hz : i.zero = some z)
    (hsize : i.size = 1) (hby : i.bytes = bytes) (hzs : z.cells.size = 1)
    (v : Value) (n : Nat) (xs : List Value) (hs : a.eval s = v) (hown : w.ownsRow base e 1 v n xs)
    (A : Option Addr) (m c : Nat) (news : List Value) (hx : a.eval x = .slice A m c) (hr : Reads w A m news) (h1 : ∀ u ∈ news, u.oneCell' = true)
    (h63 : n + m ≤ maxLen) (hbytes : (n + m) * bytes ≤ 140737488355328) (hbase : base ≤ w.heap.size)
    (h : ∀ v' w', w'.ownsRow base e 1 v' (n + m) (xs ++ news) → w.grownBy w' v.ownBlock → wpList P ops Q rest (a.put o.dst v') w') : wpList P ops Q (o :: rest) a w := by
  refine wpList_plain hgd fun K hK => ?_
  obtain ⟨v', w', hrun, h2, h3⟩ := run_append_any (P := P) w base t o.type e i z bytes ht hi hz hsize hby hzs v n xs hown A m c news hr h1 h63 hbytes hbase
  unfold Oper.wp execOp
  simp only [ho, resolve, invoke, builtin, Sem.run_bind, Sem.run_pure, Result.andThen_ok, List.map_toArray, List.map_cons, List.map_nil, hs, hx, hrun]
  exact hK _ _ (h v' w' h2 h3)

theorem strVals_append (l m : List (List UInt8)) : strVals (l ++ m) = strVals l ++ strVals m := by simp [strVals]
theorem strVals_one (l : List (List UInt8)) : ∀ u ∈ strVals l, u.oneCell' = true := by
  intro u hu
  obtain ⟨x, _, rfl⟩ := List.mem_map.1 hu
  rfl

theorem cutAt_grown0 {w w' : World} {base g B n : Nat} {o : List UInt8} {v : Value} {xs : List Value} (hc : CutAt w base g o) (h : w.ownsRow B 9 1 v n xs) (hg : w.grownBy w' v.ownBlock) : CutAt w' base g o := by
  obtain ⟨hbg, A, cap, hblk, hown⟩ := hc
  exact ⟨hbg, A, cap, hblk.grown hg fun e => own_blk_ne h hblk (by decide) e.symm, hown.kept hg (rows_ne h hown)⟩

/-- How many bytes the first k parts have. -/
def totOf (ps : List ByteArray) (k : Nat) : Nat := ((ps.take k).map (·.size)).sum
theorem totOf_zero (ps : List ByteArray) : totOf ps 0 = 0 := rfl
theorem totOf_succ (ps : List ByteArray) (k : Nat) (h : k < ps.length) : totOf ps (k + 1) = totOf ps k + ps[k].size := by
  unfold totOf
  rw [List.take_succ_eq_append_getElem h]
  simp only [List.map_append, List.sum_append, List.map_cons, List.map_nil, List.sum_cons, List.sum_nil, Nat.add_zero]
theorem totOf_le (ps : List ByteArray) (k : Nat) : totOf ps k ≤ totOf ps ps.length := by
  unfold totOf
  rw [List.take_of_length_le (Nat.le_refl _)]
  conv => rhs; rw [← List.take_append_drop k ps]
  rw [List.map_append, List.sum_append]; omega

theorem feed_more {q o p : List UInt8} {l : List (List UInt8)} (h : feedL ([], []) q = (l, o)) : feedL ([], []) (q ++ p) = (l ++ (feedL ([], o) p).1, (feedL ([], o) p).2) := by
  rw [feedL_append, h, feedL_open]

theorem cutAt_below {w w' : World} {base g : Nat} {o : List UInt8} (hc : CutAt w base g o) (hb : Below w.heap.size w w') : CutAt w' base g o := by
  obtain ⟨hbg, A, cap, hblk, hown⟩ := hc
  exact ⟨hbg, A, cap, hblk.below hb hblk.lt, own_below hown hb⟩
theorem cutAt_drewN {w : World} {base g : Nat} {o : List UInt8} (hc : CutAt w base g o) (n : Nat) : CutAt (w.drewN n) base g o := hc

section
variable {H : Type} {P : Program}
theorem strs_weights (e : TypeId) : ∀ (l : List ByteArray), ∀ s ∈ l, s.data.toList.length ∈ DataW.weightsAll P e (strs (H := H) l)
  | x :: l, s, hs => by
    show _ ∈ DataW.weights P e (.lit (.string x.data.toList)) ++ DataW.weightsAll P e (strs l)
    rcases List.mem_cons.1 hs with rfl | hs
    · exact List.mem_append.2 (Or.inl (by simp [DataW.weights]))
    · exact List.mem_append.2 (Or.inr (strs_weights e l s hs))
end
end Go.Proofs.Ytackgamdjeidmaa
