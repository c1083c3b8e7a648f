/- The walk over the reference's Roots; what it answers is what is known. -/
import Derived.Test.YtlcimiboalpdkaaRoot
import Derived.Test.YtlcimiboalpdkaaRefPrint
namespace Go.Proofs.Ytlcimiboalpdkaa
open Go.RowKit

/-- The roots of the primes below p. -/
def rootsTo (pw : Nat) : Nat → List Nat
  | 0 => []
  | p + 1 => if 2 ≤ p ∧ primeB p = true then rootsTo pw p ++ [rootN p pw] else rootsTo pw p
theorem roots_sq : rootsTo 2 20 = sq8 := by decide +kernel
theorem roots_cu : rootsTo 3 312 = kList := by decide +kernel

theorem rootsTo_more (pw p d : Nat) : ∃ t, rootsTo pw (p + d) = rootsTo pw p ++ t := by
  induction d with
  | zero => exact ⟨[], by simp⟩
  | succ d ih =>
    obtain ⟨t, ht⟩ := ih
    show ∃ t, rootsTo pw (p + d + 1) = _
    simp only [rootsTo]
    split
    · exact ⟨t ++ [rootN (p + d) pw], by rw [ht, List.append_assoc]⟩
    · exact ⟨t, ht⟩
theorem own_shape {w : World} {base n : Nat} {v : Value} {L : List Nat} (h : w.ownsRow base 41 1 v n (u64s L)) : ∃ A cap, v = .slice A n cap := by
  rcases h.2 with ⟨rfl, rfl⟩ | ⟨g, cap, cur, rfl, _⟩
  · exact ⟨none, 0, rfl⟩
  · exact ⟨_, _, rfl⟩

set_option maxHeartbeats 1000000 in
theorem roots_any (n pw P : Nat) (hp2 : 2 ≤ pw) (hp3 : pw ≤ 3) (hP : P < 1000) (hP2 : 2 ≤ P) (hn : n ≤ 100) (hl : (rootsTo pw P).length = n) (w : World) :
    Calls Try.prog 11 #[.int .i64 n, .int .i64 pw] w fun e w' => ∃ v, e = .returned v ∧ w'.ownsRow w.heap.size 41 1 v n (u64s (rootsTo pw P)) ∧ w.grownBy w' none := by
  obtain ⟨i41, hi, hz, hsz, hb⟩ := info_parts Try.info41
  have HLN := Lib.hid hl
  clear hl
  go_enter Try.func11, Try.ntmps11
  go_wp2_with fail
  go_loopw [5, 6] (fun v i wr => ∃ (p : Nat) (v' : Value), 2 ≤ p ∧ p ≤ P ∧ i = .int .i64 p ∧ v' = v ∧ wr.ownsRow w.heap.size 41 1 v' (rootsTo pw p).length (u64s (rootsTo pw p)) ∧ w.grownBy wr none) (fun _ i _ => P - (intOf i).toNat)
  case atStart => exact ⟨2, _, by omega, hP2, rfl, rfl, World.ownsRow_nil _ _ _ _, ⟨rfl, rfl, rfl, Nat.le_refl _, fun _ _ _ => rfl⟩⟩
  case round =>
    obtain ⟨p, v, hp, hpP, rfl, rfl, hown, hg⟩ := hrel
    have hle : (rootsTo pw p).length ≤ n := by
      obtain ⟨t, ht⟩ := rootsTo_more pw p (P - p)
      rw [show p + (P - p) = P by omega] at ht
      rw [← HLN.out, ht, List.length_append]; omega
    obtain ⟨A, cap, rfl⟩ := own_shape hown
    obtain ⟨L, hL⟩ : ∃ L, L = rootsTo pw p := ⟨_, rfl⟩
    rw [← hL] at hown hle
    rw [← hL]
    obtain ⟨l, hll⟩ : ∃ l, l = L.length := ⟨_, rfl⟩
    rw [← hll] at hown hle
    rw [← hll]
    have HL := Lib.hid hL
    have HLL := Lib.hid hll
    clear hL hll
    by_cases hlt : l < n
    · have hpP2 : p < P := by
        by_cases e : p = P
        · have := HLN.out
          rw [← e, ← HL.out, ← HLL.out] at this
          omega
        · omega
      have HS : Hid (rootsTo pw (p + 1) = if 2 ≤ p ∧ primeB p = true then rootsTo pw p ++ [rootN p pw] else rootsTo pw p) := rfl
      have PR := Lib.hid (fun u => prime_any p hp (by omega) u)
      cases hpr : primeB p with
      | true =>
        rw [hpr] at PR
        rw [if_pos ⟨hp, hpr⟩, ← HL.out] at HS
        have RT := Lib.hid (fun u => root_any p pw (by omega) hp2 hp3 u)
        generalize rootN p pw = r at *
        clear hpr
        go_wp2_with fail
        refine (PR.out _).mono ?_
        rintro e w2 ⟨rfl, rfl⟩
        go_wp2_with fail
        refine (RT.out _).mono ?_
        rintro e w2 ⟨rfl, hg2⟩
        have hownK := hown.kept hg2 (by cases A <;> simp [Value.ownBlock])
        have hgK := hg.trans hg2
        go_wp2_with (at_builtin; refine wpList_append_own _ rfl (.tmp 15) (.tmp 19) 25 rfl w.heap.size 41 i41 (.int .u64 0) 1 8 Try.underlying25 hi hz hsz hb rfl (by decide) (.slice A l cap) l _ rfl (World.ownsRow.alloc hownK _) ⟨w2.heap.size, 0, none⟩ 1 1 [_] rfl rfl (cell_new_of _ _ _ _ rfl) ?_ ?_ ?_ ?_ ?_)
        · intro u hu; have := List.mem_singleton.1 hu; subst this; rfl
        · unfold maxLen; omega
        · omega
        · have := hgK.size; simp; omega
        intro v' w4 hown4 hg4 _
        have hg5 := grown_own hownK (grown_alloc hgK _) hg4
        have HO : Hid (w4.ownsRow w.heap.size 41 1 v' (rootsTo pw (p + 1)).length (u64s (rootsTo pw (p + 1)))) := by
          show World.ownsRow _ _ _ _ _ _ _
          rw [HS.out, u64s_append, List.length_append, ← HLL.out]; exact hown4
        clear hown4 hg4 hown hownK
        go_wp2_with fail
        exact ⟨⟨p + 1, _, by omega, by omega, rfl, rfl, HO.out, hg5⟩, by simp only [intOf]; omega⟩
      | false =>
        rw [hpr] at PR
        rw [if_neg (by rw [hpr]; simp), ← HL.out] at HS
        clear hpr
        have HO : Hid (wr.ownsRow w.heap.size 41 1 (.slice A l cap) (rootsTo pw (p + 1)).length (u64s (rootsTo pw (p + 1)))) := by
          show World.ownsRow _ _ _ _ _ _ _
          rw [HS.out, ← HLL.out]; exact hown
        clear hown
        go_wp2_with fail
        refine (PR.out _).mono ?_
        rintro e w2 ⟨rfl, rfl⟩
        go_wp2_with fail
        exact ⟨⟨p + 1, _, by omega, by omega, rfl, rfl, HO.out, hg⟩, by simp only [intOf]; omega⟩
    · have hln : l = n := by omega
      have HE : Hid (rootsTo pw P = L) := by
        obtain ⟨t, ht⟩ := rootsTo_more pw p (P - p)
        rw [show p + (P - p) = P by omega] at ht
        have hlen := HLN.out
        rw [ht, List.length_append, ← HL.out, ← HLL.out] at hlen
        have ht0 : t = [] := List.length_eq_zero_iff.1 (by omega)
        show _ = _
        rw [ht, ht0, List.append_nil, HL.out]
      subst hln
      have HO := Lib.hid hown
      clear hown
      go_wp2_with fail
      go_ret
      refine ⟨_, rfl, ?_, hg⟩
      rw [HE.out]
      exact HO.out
end Go.Proofs.Ytlcimiboalpdkaa
