/- The walks over the reference's numbers, squares and cubes. -/
import Derived.Test.YtlcimiboalpdkaaRaw
import Derived.Test.YtlcimiboalpdkaaRef
namespace Go.Proofs.Ytlcimiboalpdkaa
open Go.RowKit

def u64s (l : List Nat) : List Value := l.map fun x : Nat => Value.int .u64 (x : Int)
theorem u64s_length (l : List Nat) : (u64s l).length = l.length := by simp [u64s]
theorem u64s_append (l m : List Nat) : u64s (l ++ m) = u64s l ++ u64s m := by simp [u64s]
theorem u64s_one (l : List Nat) : ∀ u ∈ u64s l, u.oneCell' = true := by
  intro u hu
  obtain ⟨x, _, rfl⟩ := List.mem_map.1 hu
  rfl
theorem Try.info41 : (Try.prog.info? 41).map (fun i => (i.zero, i.size, i.bytes)) = some (some (.int .u64 0), 1, 8) := by kernel_rfl
theorem cell_new_of (w : World) (u : Value) (t : TypeId) (m : Nat) (h : m = w.heap.size) : ∀ j v, [u][j]? = some v → (w.alloc (.cells #[u] t)).cell? ((⟨m, 0, none⟩ : Addr).add j) = some v := by
  subst h
  exact cell_one_new w u t

theorem grown_own {w wr w1 w5 : World} {e : TypeId} {v : Value} {n : Nat} {L : List Value} (hown : wr.ownsRow w.heap.size e 1 v n L) (h : w.grownBy w1 none) (hg : w1.grownBy w5 v.ownBlock) : w.grownBy w5 none := by
  refine ⟨hg.os.trans h.os, hg.tape.trans h.tape, hg.output.trans h.output, Nat.le_trans h.size hg.size, ?_⟩
  intro i hi hn
  rw [hg.block i (by have := h.size; omega) (by intro e; have := (hown.lt i e.symm).1; omega), h.block i hi hn]

/-- The numbers so far, the one that is read, and how many of its digits. -/
def numStep (st : List Nat × Nat × Nat) (c : UInt8) : List Nat × Nat × Nat :=
  if isV c.toNat = true then
    if st.2.2 = 7 then (st.1 ++ [16 * st.2.1 + numV c.toNat], 0, 0) else (st.1, 16 * st.2.1 + numV c.toNat, st.2.2 + 1)
  else st
def numL (l : List UInt8) : List Nat × Nat × Nat := l.foldl numStep ([], 0, 0)
theorem numL_snoc (l : List UInt8) (c : UInt8) : numL (l ++ [c]) = numStep (numL l) c := by simp [numL]
theorem numL_ok (s : ByteArray) (k : Nat) (hk : k ≤ s.size) : (numL (s.data.toList.take k)).2.2 < 8 ∧ (numL (s.data.toList.take k)).2.1 < 16 ^ (numL (s.data.toList.take k)).2.2 ∧ (numL (s.data.toList.take k)).1.length ≤ k := by
  induction k with
  | zero => simp [numL]
  | succ k ih =>
    obtain ⟨h1, h2, h3⟩ := ih (by omega)
    rw [take_snoc s k (by omega), numL_snoc]
    generalize numL (s.data.toList.take k) = st at *
    obtain ⟨o, n, d⟩ := st
    simp only at h1 h2 h3
    unfold numStep
    have hv := numV_lt s[k].toNat
    by_cases h : isV s[k].toNat = true
    · rw [if_pos h]
      by_cases h7 : d = 7
      · rw [if_pos h7]
        simp
        omega
      · rw [if_neg h7]
        refine ⟨by show d + 1 < 8; omega, ?_, by show o.length ≤ k + 1; omega⟩
        show 16 * n + numV s[k].toNat < 16 ^ (d + 1)
        rw [Nat.pow_succ]
        omega
    · rw [if_neg h]
      exact ⟨h1, h2, by show o.length ≤ k + 1; omega⟩

set_option maxHeartbeats 1000000 in
theorem numbers_any (s : ByteArray) (w : World) (hs : s.size ≤ 6000) :
    Calls Try.prog 32 #[.string s] w fun e w' => ∃ v, e = .returned v ∧ w'.ownsRow w.heap.size 41 1 v (numL s.data.toList).1.length (u64s (numL s.data.toList).1) ∧ w.grownBy w' none := by
  obtain ⟨i41, hi, hz, hsz, hb⟩ := info_parts Try.info41
  go_enter Try.func32, Try.ntmps32
  go_wp2_with fail
  go_loopw [3, 4, 5, 6] (fun v n d i wr => ∃ (k : Nat) (l : List Nat) (x y : Nat) (v' : Value), k ≤ s.size ∧ i = .int .i64 k ∧ numL (s.data.toList.take k) = (l, x, y) ∧ n = .int .u64 x ∧ d = .int .i64 y ∧ v' = v ∧ wr.ownsRow w.heap.size 41 1 v' l.length (u64s l) ∧ w.grownBy wr none) (fun _ _ _ i _ => s.size - (intOf i).toNat)
  case atStart => exact ⟨0, [], 0, 0, _, by omega, rfl, rfl, rfl, rfl, rfl, World.ownsRow_nil _ _ _ _, ⟨rfl, rfl, rfl, Nat.le_refl _, fun _ _ _ => rfl⟩⟩
  case round =>
    obtain ⟨k, l, x, y, v, hk, rfl, hst, rfl, rfl, rfl, hown, hg⟩ := hrel
    obtain ⟨b1, b2, b3⟩ := numL_ok s k hk
    rw [hst] at b1 b2 b3
    simp only at b1 b2 b3
    by_cases hlt : k < s.size
    · have hbk := s[k].toNat_lt
      have b4 : x < 268435456 := Nat.lt_of_lt_of_le b2 (show 16 ^ y ≤ 16 ^ 7 from Nat.pow_le_pow_right (by decide) (by omega))
      have HN : Hid (numL (s.data.toList.take (k + 1)) = numStep (l, x, y) s[k]) := by
        show _ = _
        rw [take_snoc s k hlt, numL_snoc, hst]
      unfold numStep at HN
      clear hst b2
      by_cases hv : isV s[k].toNat = true
      · rw [if_pos hv] at HN
        have VN : Hid (∀ u, _) := fun u => value_num s[k].toNat (by omega) hv u
        have lv := numV_lt s[k].toNat
        generalize numV s[k].toNat = d at *
        clear hv
        by_cases h7 : y = 7
        · subst h7
          rw [if_pos rfl] at HN
          go_wp2_with fail
          refine (VN.out _).mono ?_
          rintro e w3 ⟨rfl, rfl⟩
          go_wp2_with (at_builtin; refine wpList_append_own _ rfl (.tmp 29) (.tmp 31) 25 rfl w.heap.size 41 i41 (.int .u64 0) 1 8 Try.underlying25 hi hz hsz hb rfl (by decide) v _ _ rfl (World.ownsRow.alloc hown _) ⟨wr.heap.size, 0, none⟩ 1 1 [_] rfl rfl (cell_new_of _ _ _ _ rfl) ?_ ?_ ?_ ?_ ?_)
          · intro u hu; have := List.mem_singleton.1 hu; subst this; rfl
          · unfold maxLen; omega
          · omega
          · have := hg.size; simp; omega
          intro v' w4 hown4 hg4 _
          have hg5 := grown_own hown (grown_alloc hg _) hg4
          have e1 : (16 * (x : Int) + (d : Int)) = ((16 * x + d : Nat) : Int) := by omega
          rw [e1] at hown4
          have hown5 : w4.ownsRow w.heap.size 41 1 v' (l ++ [16 * x + d]).length (u64s (l ++ [16 * x + d])) := by
            rw [u64s_append, List.length_append]; exact hown4
          have HO := Lib.hid hown5
          clear hown4 hg4 hown hown5
          go_wp2_with fail
          refine ⟨⟨k + 1, _, 0, 0, _, by omega, rfl, HN.out, rfl, rfl, rfl, HO.out, hg5⟩, by simp only [intOf]; omega⟩
        · rw [if_neg h7] at HN
          have HO := Lib.hid hown
          clear hown
          go_wp2_with fail
          refine (VN.out _).mono ?_
          rintro e w3 ⟨rfl, rfl⟩
          go_wp2_with fail
          refine ⟨⟨k + 1, l, _, _, _, by omega, rfl, HN.out, by congr 1, rfl, rfl, HO.out, hg⟩, by simp only [intOf]; omega⟩
      · rw [if_neg hv] at HN
        have VN : Hid (∀ u, _) := fun u => value_not s[k].toNat (by omega) (by simpa using hv) u
        clear hv
        have HO := Lib.hid hown
        clear hown
        go_wp2_with fail
        refine (VN.out _).mono ?_
        rintro e w3 ⟨rfl, rfl⟩
        go_wp2_with fail
        refine ⟨⟨k + 1, l, x, y, _, by omega, rfl, HN.out, rfl, rfl, rfl, HO.out, hg⟩, by simp only [intOf]; omega⟩
    · have hk' : k = s.size := by omega
      subst hk'
      have HF : Hid (numL s.data.toList = (l, x, y)) := by
        show _ = _
        rw [← hst, List.take_of_length_le (by simp)]
      have HO := Lib.hid hown
      clear hown hst
      go_wp2_with fail
      go_ret
      refine ⟨_, rfl, ?_, hg⟩
      rw [HF.out]
      exact HO.out

/-- The first H and K. -/
def sq8 : List Nat := [1779033703, 3144134277, 1013904242, 2773480762, 1359893119, 2600822924, 528734635, 1541459225]
def kList : List Nat := (List.range 64).map kOf

def sqBytes : List UInt8 := [54, 97, 48, 57, 101, 54, 54, 55, 32, 98, 98, 54, 55, 97, 101, 56, 53, 32, 51, 99, 54, 101, 102, 51, 55, 50, 32, 97, 53, 52, 102, 102, 53, 51, 97, 32, 53, 49, 48, 101, 53, 50, 55, 102, 32, 57, 98, 48, 53, 54, 56, 56, 99, 32, 49, 102, 56, 51, 100, 57, 97, 98, 32, 53, 98, 101, 48, 99, 100, 49, 57]
def cuBytes : List UInt8 := [52, 50, 56, 97, 50, 102, 57, 56, 32, 55, 49, 51, 55, 52, 52, 57, 49, 32, 98, 53, 99, 48, 102, 98, 99, 102, 32, 101, 57, 98, 53, 100, 98, 97, 53, 32, 51, 57, 53, 54, 99, 50, 53, 98, 32, 53, 57, 102, 49, 49, 49, 102, 49, 32, 57, 50, 51, 102, 56, 50, 97, 52, 32, 97, 98, 49, 99, 53, 101, 100, 53, 32, 100, 56, 48, 55, 97, 97, 57, 56, 32, 49, 50, 56, 51, 53, 98, 48, 49, 32, 50, 52, 51, 49, 56, 53, 98, 101, 32, 53, 53, 48, 99, 55, 100, 99, 51, 32, 55, 50, 98, 101, 53, 100, 55, 52, 32, 56, 48, 100, 101, 98, 49, 102, 101, 32, 57, 98, 100, 99, 48, 54, 97, 55, 32, 99, 49, 57, 98, 102, 49, 55, 52, 32, 101, 52, 57, 98, 54, 57, 99, 49, 32, 101, 102, 98, 101, 52, 55, 56, 54, 32, 48, 102, 99, 49, 57, 100, 99, 54, 32, 50, 52, 48, 99, 97, 49, 99, 99, 32, 50, 100, 101, 57, 50, 99, 54, 102, 32, 52, 97, 55, 52, 56, 52, 97, 97, 32, 53, 99, 98, 48, 97, 57, 100, 99, 32, 55, 54, 102, 57, 56, 56, 100, 97, 32, 57, 56, 51, 101, 53, 49, 53, 50, 32, 97, 56, 51, 49, 99, 54, 54, 100, 32, 98, 48, 48, 51, 50, 55, 99, 56, 32, 98, 102, 53, 57, 55, 102, 99, 55, 32, 99, 54, 101, 48, 48, 98, 102, 51, 32, 100, 53, 97, 55, 57, 49, 52, 55, 32, 48, 54, 99, 97, 54, 51, 53, 49, 32, 49, 52, 50, 57, 50, 57, 54, 55, 32, 50, 55, 98, 55, 48, 97, 56, 53, 32, 50, 101, 49, 98, 50, 49, 51, 56, 32, 52, 100, 50, 99, 54, 100, 102, 99, 32, 53, 51, 51, 56, 48, 100, 49, 51, 32, 54, 53, 48, 97, 55, 51, 53, 52, 32, 55, 54, 54, 97, 48, 97, 98, 98, 32, 56, 49, 99, 50, 99, 57, 50, 101, 32, 57, 50, 55, 50, 50, 99, 56, 53, 32, 97, 50, 98, 102, 101, 56, 97, 49, 32, 97, 56, 49, 97, 54, 54, 52, 98, 32, 99, 50, 52, 98, 56, 98, 55, 48, 32, 99, 55, 54, 99, 53, 49, 97, 51, 32, 100, 49, 57, 50, 101, 56, 49, 57, 32, 100, 54, 57, 57, 48, 54, 50, 52, 32, 102, 52, 48, 101, 51, 53, 56, 53, 32, 49, 48, 54, 97, 97, 48, 55, 48, 32, 49, 57, 97, 52, 99, 49, 49, 54, 32, 49, 101, 51, 55, 54, 99, 48, 56, 32, 50, 55, 52, 56, 55, 55, 52, 99, 32, 51, 52, 98, 48, 98, 99, 98, 53, 32, 51, 57, 49, 99, 48, 99, 98, 51, 32, 52, 101, 100, 56, 97, 97, 52, 97, 32, 53, 98, 57, 99, 99, 97, 52, 102, 32, 54, 56, 50, 101, 54, 102, 102, 51, 32, 55, 52, 56, 102, 56, 50, 101, 101, 32, 55, 56, 97, 53, 54, 51, 54, 102, 32, 56, 52, 99, 56, 55, 56, 49, 52, 32, 56, 99, 99, 55, 48, 50, 48, 56, 32, 57, 48, 98, 101, 102, 102, 102, 97, 32, 97, 52, 53, 48, 54, 99, 101, 98, 32, 98, 101, 102, 57, 97, 51, 102, 55, 32, 99, 54, 55, 49, 55, 56, 102, 50]
theorem sq_nums : (numL sqBytes).1 = sq8 := by decide +kernel
theorem cu_nums : (numL cuBytes).1 = kList := by decide +kernel

theorem squares_any (w : World) : Calls Try.prog 20 #[] w fun e w' => ∃ v, e = .returned v ∧ w'.ownsRow w.heap.size 41 1 v sq8.length (u64s sq8) ∧ w.grownBy w' none := by
  go_enter Try.func20, Try.ntmps20
  go_wp2_with fail
  refine (numbers_any ⟨sqBytes.toArray⟩ _ (by decide)).mono ?_
  rintro e w1 ⟨v, rfl, hown, hg⟩
  rw [show (ByteArray.mk sqBytes.toArray).data.toList = sqBytes from rfl, sq_nums] at hown
  have HO := Lib.hid hown
  clear hown
  go_wp2_with fail
  go_ret
  exact ⟨_, rfl, HO.out, hg⟩
set_option maxRecDepth 100000 in
theorem cubes_ref_any (w : World) : Calls Try.prog 21 #[] w fun e w' => ∃ v, e = .returned v ∧ w'.ownsRow w.heap.size 41 1 v kList.length (u64s kList) ∧ w.grownBy w' none := by
  go_enter Try.func21, Try.ntmps21
  go_wp2_with fail
  refine (numbers_any ⟨cuBytes.toArray⟩ _ (by decide)).mono ?_
  rintro e w1 ⟨v, rfl, hown, hg⟩
  rw [show (ByteArray.mk cuBytes.toArray).data.toList = cuBytes from rfl, cu_nums] at hown
  have HO := Lib.hid hown
  clear hown
  go_wp2_with fail
  go_ret
  exact ⟨_, rfl, HO.out, hg⟩
end Go.Proofs.Ytlcimiboalpdkaa
