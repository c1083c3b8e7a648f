/- A round of the reference in plain numbers. -/
import Derived.Test.YtlcimiboalpdkaaRow
namespace Go.Proofs.Ytlcimiboalpdkaa
open Go.RowKit

theorem round_facts (a b c d e f g h kt wt : Nat) (la : a < 4294967296) (lb : b < 4294967296) (lc : c < 4294967296) (ld : d < 4294967296) (le : e < 4294967296) (lf : f < 4294967296) (lg : g < 4294967296) (lh : h < 4294967296) (lk : kt < 4294967296) (lw : wt < 4294967296) :
    ∃ cf ne cg ch ab ac bc o1 mj t1 t2 p1 p2 p3 one two s1 s2 na nb : Nat,
      (bits .and .u64 (e : Int) (f : Int) = (cf : Int) ∧ IntKind.u64.wrap (4294967295 - (e : Int)) = (ne : Int) ∧ bits .and .u64 (ne : Int) (g : Int) = (cg : Int) ∧ IntKind.u64.wrap ((cf : Int) + (cg : Int)) = (ch : Int)) ∧
      (bits .and .u64 (a : Int) (b : Int) = (ab : Int) ∧ bits .and .u64 (a : Int) (c : Int) = (ac : Int) ∧ bits .or .u64 (ab : Int) (ac : Int) = (o1 : Int) ∧ bits .and .u64 (b : Int) (c : Int) = (bc : Int) ∧ bits .or .u64 (o1 : Int) (bc : Int) = (mj : Int)) ∧
      (turn3 e 6 11 25 = t1 ∧ IntKind.u64.wrap ((h : Int) + (t1 : Int)) = (p1 : Int) ∧ IntKind.u64.wrap ((p1 : Int) + (ch : Int)) = (p2 : Int) ∧ IntKind.u64.wrap ((p2 : Int) + (kt : Int)) = (p3 : Int) ∧ IntKind.u64.wrap ((p3 : Int) + (wt : Int)) = (one : Int)) ∧
      (turn3 a 2 13 22 = t2 ∧ IntKind.u64.wrap ((t2 : Int) + (mj : Int)) = (two : Int) ∧ (t2 : Int) + (mj : Int) = (two : Int) ∧ t2 < 4294967296 ∧ mj < 4294967296) ∧
      (IntKind.u64.wrap ((one : Int) + (two : Int)) = (s1 : Int) ∧ IntKind.u64.wrap ((d : Int) + (one : Int)) = (s2 : Int) ∧ s1 % 4294967296 = na ∧ s2 % 4294967296 = nb) ∧
      ((⟨a, b, c, d, e, f, g, h⟩ : Regs).next kt wt).list = [na, a, b, c, nb, e, f, g] := by
  have hch := ch_ref le lf lg
  have hmj := maj_ref a b c
  have l1 : e &&& f < 4294967296 := and_lt le
  have l2 : (4294967295 - e) &&& g < 4294967296 := and_lt (by omega)
  have l3 : (e &&& f) + ((4294967295 - e) &&& g) < 8589934592 := by omega
  have l4 : a &&& b < 4294967296 := and_lt la
  have l5 : a &&& c < 4294967296 := and_lt la
  have l6 : b &&& c < 4294967296 := and_lt lb
  have l7 : a &&& b ||| a &&& c < 4294967296 := or_lt l4 l5
  have l8 : a &&& b ||| a &&& c ||| b &&& c < 4294967296 := or_lt l7 l6
  have m1 : turn3 e 6 11 25 < 4294967296 := turn3_lt le (by decide) (by decide) (by decide)
  have m2 : turn3 a 2 13 22 < 4294967296 := turn3_lt la (by decide) (by decide) (by decide)
  have big : ∀ x : Nat, x < 4294967296 → x < 18446744073709551616 := fun x hx => by omega
  have a1 := u64_and_nat e f (big _ le) (big _ lf)
  have a2 := u64_and_nat (4294967295 - e) g (big _ (by omega)) (big _ lg)
  have a3 := u64_and_nat a b (big _ la) (big _ lb)
  have a4 := u64_and_nat a c (big _ la) (big _ lc)
  have a5 := u64_and_nat b c (big _ lb) (big _ lc)
  have a6 := u64_or_nat (a &&& b) (a &&& c) (big _ l4) (big _ l5)
  have a7 := u64_or_nat (a &&& b ||| a &&& c) (b &&& c) (big _ l7) (big _ l6)
  have hN : ((⟨a, b, c, d, e, f, g, h⟩ : Regs).next kt wt).list = [(h + turn3 e 6 11 25 + chN e f g + kt + wt + (turn3 a 2 13 22 + majN a b c)) % 4294967296, a, b, c, (d + (h + turn3 e 6 11 25 + chN e f g + kt + wt)) % 4294967296, e, f, g] := by
    simp only [Regs.next, Regs.list, upN, overN]
    congr 1
    · omega
    · congr 4
      omega
  rw [← hch, ← hmj] at hN
  have n1 : IntKind.u64.wrap (4294967295 - (e : Int)) = ((4294967295 - e : Nat) : Int) := by rw [Go.IntWalk.u64_in _ (by omega)]; omega
  generalize e &&& f = cf at *
  generalize 4294967295 - e = ne at *
  generalize ne &&& g = cg at *
  generalize a &&& b = ab at *
  generalize a &&& c = ac at *
  generalize b &&& c = bc at *
  generalize ab ||| ac = o1 at *
  generalize o1 ||| bc = mj at *
  generalize turn3 e 6 11 25 = t1 at *
  generalize turn3 a 2 13 22 = t2 at *
  have w : ∀ x y z : Nat, x + y = z → z < 18446744073709551616 → IntKind.u64.wrap ((x : Int) + (y : Int)) = (z : Int) := fun x y z hz hl => by rw [Go.IntWalk.u64_in _ (by omega)]; omega
  refine ⟨cf, ne, cg, cf + cg, ab, ac, bc, o1, mj, t1, t2, h + t1, h + t1 + (cf + cg), h + t1 + (cf + cg) + kt, h + t1 + (cf + cg) + kt + wt, t2 + mj, h + t1 + (cf + cg) + kt + wt + (t2 + mj), d + (h + t1 + (cf + cg) + kt + wt), _, _,
    ⟨a1, n1, a2, w _ _ _ rfl (by omega)⟩, ⟨a3, a4, a6, a5, a7⟩, ⟨rfl, w _ _ _ rfl (by omega), w _ _ _ rfl (by omega), w _ _ _ rfl (by omega), w _ _ _ rfl (by omega)⟩,
    ⟨rfl, w _ _ _ rfl (by omega), by omega, m2, l8⟩, ⟨w _ _ _ rfl (by omega), w _ _ _ rfl (by omega), rfl, rfl⟩, hN⟩
end Go.Proofs.Ytlcimiboalpdkaa
