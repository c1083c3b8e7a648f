/- The walks over the reference's Power, Sum and Cell. -/
import Derived.Test.YtackgamdjeidmaaRot
import Derived.RegionTactic
import Derived.IntWalk
import Derived.ChangeAlike
import Derived.Laws.OwnMore
import Derived.Deep.Draws
import Derived.Laws.Rows
namespace Go.Proofs.Ytackgamdjeidmaa
open Go.RowKit

set_option maxHeartbeats 400000 in
theorem refPower_any (n : Int) (w : World) :
    Calls Try.prog 17 #[.int .i64 n] w fun e w' => e = .returned (.agg #[.int .i64 (rotN (n % 4).toNat (1, 0)).1, .int .i64 (rotN (n % 4).toNat (1, 0)).2]) ∧ Below w.heap.size w w' := by
  have t1 := Int.lt_tmod_of_pos n (b := 4) (by omega)
  have t2 := Int.tmod_lt_of_pos n (b := 4) (by omega)
  rw [emod_of_tmod]
  have hm : n.tmod 4 % 4 = 0 ∨ n.tmod 4 % 4 = 1 ∨ n.tmod 4 % 4 = 2 ∨ n.tmod 4 % 4 = 3 := by omega
  rcases hm with h | h | h | h
  · rw [h]
    go_enter Try.func17, Try.ntmps17
    go_wp2
    exact bodyPost_ret (v := .agg #[.int .i64 1, .int .i64 0]) (by simp [results, Try.results17, go_sem]) rfl ⟨rfl, (((Below.refl _ _).alloc (Nat.le_refl _) _))⟩
  · rw [h]
    go_enter Try.func17, Try.ntmps17
    go_wp2
    exact bodyPost_ret (v := .agg #[.int .i64 0, .int .i64 1]) (by simp [results, Try.results17, go_sem]) rfl ⟨rfl, (((Below.refl _ _).alloc (Nat.le_refl _) _))⟩
  · rw [h]
    go_enter Try.func17, Try.ntmps17
    go_wp2
    exact bodyPost_ret (v := .agg #[.int .i64 (-1), .int .i64 0]) (by simp [results, Try.results17, go_sem]) rfl ⟨rfl, (((Below.refl _ _).alloc (Nat.le_refl _) _))⟩
  · rw [h]
    go_enter Try.func17, Try.ntmps17
    go_wp2
    exact bodyPost_ret (v := .agg #[.int .i64 0, .int .i64 (-1)]) (by simp [results, Try.results17, go_sem]) rfl ⟨rfl, (((Below.refl _ _).alloc (Nat.le_refl _) _))⟩

set_option maxHeartbeats 400000 in
theorem refCell_any (n p q : Int) (w : World) (d1 : -1099511627776 ≤ p) (d2 : p ≤ 1099511627776) (d3 : -1099511627776 ≤ q) (d4 : q ≤ 1099511627776) (hn : 1 ≤ n) (hn2 : n ≤ 2000000) :
    Calls Try.prog 19 #[.agg #[.int .i64 p, .int .i64 q], .int .i64 n] w fun e w' => e = .returned (.int .i64 ((p + 3 * q) % n)) ∧ Below w.heap.size w w' := by
  have e1 := Int.lt_tmod_of_pos (p + 3 * q) (b := n) (by omega)
  have e2 := Int.tmod_lt_of_pos (p + 3 * q) (b := n) (by omega)
  go_enter Try.func19, Try.ntmps19
  go_wp2
  go_ret
  refine ⟨ret_int ?_, (Below.refl _ _).alloc (Nat.le_refl _) _⟩
  show ((p + 3 * q).tmod n + n) % n = _
  rw [Int.add_emod_right, ← emod_of_tmod]

/-- A block that is known whole. -/
def Blk (w : World) (g : Nat) (t : TypeId) (cs : Array Value) : Prop := w.heap[g]? = some (.cells cs t (0, 0))

section
variable {w w' : World} {g : Nat} {t : TypeId} {cs : Array Value}
theorem Blk.lt (h : Blk w g t cs) : g < w.heap.size := by
  rcases Nat.lt_or_ge g w.heap.size with hlt | hge
  · exact hlt
  · unfold Blk at h; rw [Array.getElem?_eq_none hge] at h; cases h
theorem Blk.cell (h : Blk w g t cs) (i : Nat) : w.cell? ⟨g, i, none⟩ = cs[i]? := cell_of_row w g i cs t (0, 0) h
theorem Blk.frozen (h : Blk w g t cs) (i : Nat) : w.frozen? ⟨g, i, none⟩ = false := by
  unfold Blk at h
  simp [World.frozen?, h]
theorem Blk.new (w : World) (t : TypeId) (cs : Array Value) : Blk (w.alloc (.cells cs t)) w.heap.size t cs := heap_alloc_new w _
theorem Blk.drew (h : Blk w g t cs) : Blk w.drew g t cs := h
theorem Blk.drewN (h : Blk w g t cs) (n : Nat) : Blk (w.drewN n) g t cs := h
theorem Blk.alloc (h : Blk w g t cs) (o : Obj) : Blk (w.alloc o) g t cs := (Below.heap_alloc w o g h.lt).trans h
theorem Blk.set_ (h : Blk w g t cs) (i : Nat) (u : Value) : Blk (w.setCell ⟨g, i, none⟩ u) g t (cs.setIfInBounds i u) := by
  unfold Blk at h ⊢
  simp [World.setCell, Array.getElem?_modify, h]
theorem Blk.far (h : Blk w g t cs) {p : Addr} (hp : g ≠ p.block) (u : Value) : Blk (w.setCell p u) g t cs := (Below.heap_setCell w p u g hp).trans h
theorem Blk.below {B : Nat} (h : Blk w g t cs) (hb : Below B w w') (hg : g < B) : Blk w' g t cs := (hb.block g hg).trans h
end

theorem wrap_step (c : UInt8) (re p : Int) (h1 : -255 ≤ (c.toNat : Int) * p) (h2 : (c.toNat : Int) * p ≤ 255) (h3 : re.natAbs ≤ 2 ^ 40) :
    wrap64 (re + wrap64 (wrap64 (c.toNat : Int) * p)) = re + (c.toNat : Int) * p := by
  have hc := c.toNat_lt
  rw [Go.IntWalk.wrap64_in (c.toNat : Int) (by omega), Go.IntWalk.wrap64_in ((c.toNat : Int) * p) (by omega), Go.IntWalk.wrap64_in _ (by omega)]

/-- A struct of two ints, in a block of its own. -/
def ZAt (w : World) (g : Nat) (z : Int × Int) : Prop := Blk w g 27 #[.int .i64 z.1, .int .i64 z.2]

theorem refPower_nat (n : Int) (m : Nat) (w : World) (h : n = m) :
    Calls Try.prog 17 #[.int .i64 n] w fun e w' => e = .returned (.agg #[.int .i64 (rotN m (1, 0)).1, .int .i64 (rotN m (1, 0)).2]) ∧ Below w.heap.size w w' := by
  have h1 := refPower_any n w
  rwa [h, rotN_natCast, ← h] at h1

set_option maxHeartbeats 400000 in
theorem refSum_any (s : ByteArray) (w : World) (hs : s.size ≤ 6000) :
    Calls Try.prog 15 #[.string s] w fun e w' => e = .returned (.agg #[.int .i64 (sumL s.data.toList).1, .int .i64 (sumL s.data.toList).2]) ∧ Below w.heap.size w w' := by
  obtain ⟨z, hzz⟩ : ∃ z, z = sumL s.data.toList := ⟨_, rfl⟩
  rw [← hzz]
  have HZ := Lib.hid hzz
  clear hzz
  go_enter Try.func15, Try.ntmps15
  go_wp2
  go_loopw [5] (fun i wr => ∃ k : Nat, k ≤ s.size ∧ i = .int .i64 k ∧ ZAt wr (w.heap.size + 1) (partL s.data.toList k) ∧ ZAt wr w.heap.size (0, 0) ∧ Below w.heap.size w wr) (fun i _ => s.size - (intOf i).toNat)
  case atStart =>
    refine ⟨0, Nat.zero_le _, rfl, ?_, ?_, ?_⟩
    · rw [partL_zero]
      have := Blk.new (w.alloc (Obj.cells #[Value.int IntKind.i64 0, Value.int IntKind.i64 0] 27)) 27 #[Value.int IntKind.i64 0, Value.int IntKind.i64 0]
      simp at this
      exact this
    · exact Blk.alloc (Blk.new _ _ _) _
    · exact ((Below.refl _ _).alloc (Nat.le_refl _) _).alloc (by simp) _
  case round =>
    obtain ⟨k, hk, rfl, hz, h0, hb⟩ := hrel
    by_cases hlt : k < s.size
    · have hp := rotN_one (s.size - 1 - k)
      have hsc1 := scaled_le s[k] (rotN (s.size - 1 - k) (1, 0)).1 hp.1 hp.2.1
      have hsc2 := scaled_le s[k] (rotN (s.size - 1 - k) (1, 0)).2 hp.2.2.1 hp.2.2.2
      have hpl := partL_le s.data.toList k
      have HS := Lib.hid (partL_succ s.data.toList k (by simpa using hlt))
      have hlt1 := hz.lt
      obtain ⟨re, im, hre, him⟩ : ∃ re im : Int, re = (partL s.data.toList k).1 ∧ im = (partL s.data.toList k).2 := ⟨_, _, rfl, rfl⟩
      obtain ⟨pr, pi, hpr, hpi⟩ : ∃ pr pi : Int, pr = (rotN (s.size - 1 - k) (1, 0)).1 ∧ pi = (rotN (s.size - 1 - k) (1, 0)).2 := ⟨_, _, rfl, rfl⟩
      have hpow := refPower_nat ((s.size : Int) - 1 - k) (s.size - 1 - k) wr (by omega)
      unfold ZAt at hz h0
      rw [← hre, ← him] at hpl hz HS
      rw [← hpr, ← hpi] at hp hpow
      rw [← hpr] at hsc1
      rw [← hpi] at hsc2
      have HS' : Hid (partL s.data.toList (k + 1) = (re + ↑s[k].toNat * pr, im + ↑s[k].toNat * pi)) := by
        rw [HS.out, hpr, hpi]; rfl
      clear HS hre him hpr hpi
      have HP := Lib.hid hpow
      have Hz := Lib.hid hz
      have H0 := Lib.hid h0
      clear hpow hz h0
      go_wp2_with fail
      refine HP.out.mono ?_
      rintro e w1 ⟨rfl, hb1⟩
      have z1 : Hid (Blk w1 (w.heap.size + 1) 27 _) := Blk.below Hz.out hb1 hlt1
      have z0 : Hid (Blk w1 w.heap.size 27 _) := Blk.below H0.out hb1 (by omega)
      have hsz := hb1.size
      clear HP Hz H0
      go_wp2
      have z1 : Hid (Blk _ _ _ _) := Blk.alloc z1.out (.cells #[.int .i64 pr, .int .i64 pi] 27)
      have z0 : Hid (Blk _ _ _ _) := Blk.alloc z0.out (.cells #[.int .i64 pr, .int .i64 pi] 27)
      have z2 : Hid (Blk _ _ _ _) := Blk.new w1 27 #[.int .i64 pr, .int .i64 pi]
      have hb2 := (hb.trans (hb1.mono hb.size)).alloc (by omega) (.cells #[.int .i64 pr, .int .i64 pi] 27)
      generalize w1.alloc (.cells #[.int .i64 pr, .int .i64 pi] 27) = W2 at *
      have hne : w.heap.size + 1 < w1.heap.size := by omega
      generalize w1.heap.size = g at *
      have c0 : W2.cell? ⟨w.heap.size + 1, 0, none⟩ = some (.int .i64 re) := z1.out.cell 0
      have f0 : W2.frozen? ⟨w.heap.size + 1, 0, none⟩ = false := z1.out.frozen 0
      have p0 : W2.cell? ⟨g, 0, none⟩ = some (.int .i64 pr) := z2.out.cell 0
      go_region
      go_wp2
      rw [wrap_step s[k] re pr hsc1.1 hsc1.2 (by omega)]
      have z1 : Hid (Blk _ _ _ _) := (Blk.set_ z1.out 0 (.int .i64 (re + ↑s[k].toNat * pr))).drew
      have z0 : Hid (Blk _ _ _ _) := (Blk.far z0.out (p := ⟨w.heap.size + 1, 0, none⟩) (by simp) (.int .i64 (re + ↑s[k].toNat * pr))).drew
      have z2 : Hid (Blk _ _ _ _) := (Blk.far z2.out (p := ⟨w.heap.size + 1, 0, none⟩) (by simp; omega) (.int .i64 (re + ↑s[k].toNat * pr))).drew
      have hb2 := (hb2.setCell (p := ⟨w.heap.size + 1, 0, none⟩) (by simp) (.int .i64 (re + ↑s[k].toNat * pr))).drew
      clear c0 f0 p0
      generalize (W2.setCell ⟨w.heap.size + 1, 0, none⟩ (.int .i64 (re + ↑s[k].toNat * pr))).drew = W3 at *
      have c0 : W3.cell? ⟨w.heap.size + 1, 1, none⟩ = some (.int .i64 im) := z1.out.cell 1
      have f0 : W3.frozen? ⟨w.heap.size + 1, 1, none⟩ = false := z1.out.frozen 1
      have p0 : W3.cell? ⟨g, 1, none⟩ = some (.int .i64 pi) := z2.out.cell 1
      go_region
      go_wp2
      rw [wrap_step s[k] im pi hsc2.1 hsc2.2 (by omega)]
      have z1 : Hid (Blk _ _ _ _) := (Blk.set_ z1.out 1 (.int .i64 (im + ↑s[k].toNat * pi))).drew
      have z0 : Hid (Blk _ _ _ _) := (Blk.far z0.out (p := ⟨w.heap.size + 1, 1, none⟩) (by simp) (.int .i64 (im + ↑s[k].toNat * pi))).drew
      have hb2 := (hb2.setCell (p := ⟨w.heap.size + 1, 1, none⟩) (by simp) (.int .i64 (im + ↑s[k].toNat * pi))).drew
      go_roundw
      case rel => exact ⟨k + 1, by omega, by go_num, by unfold ZAt; rw [HS'.out]; exact z1.out, z0.out, hb2⟩
      case measure => simp [intOf]; omega
    · have hend := partL_all s.data.toList k (by simp; omega)
      rw [hend, ← HZ.out] at hz
      clear hend
      unfold ZAt at hz h0
      have c0 : wr.cell? ⟨w.heap.size + 1, 0, none⟩ = some (.int .i64 z.1) := hz.cell 0
      have c1 : wr.cell? ⟨w.heap.size + 1, 1, none⟩ = some (.int .i64 z.2) := hz.cell 1
      have d0 : wr.cell? ⟨w.heap.size, 0, none⟩ = some (.int .i64 0) := h0.cell 0
      have d1 : wr.cell? ⟨w.heap.size, 1, none⟩ = some (.int .i64 0) := h0.cell 1
      have f0 : wr.frozen? ⟨w.heap.size, 0, none⟩ = false := h0.frozen 0
      have f1 : wr.frozen? ⟨w.heap.size, 1, none⟩ = false := h0.frozen 1
      clear hz h0
      go_wp2
      refine bodyPost_ret (v := .agg #[.int .i64 z.1, .int .i64 z.2]) (by simp [results, Try.results15, go_sem, d0, d1]) rfl ⟨rfl, ?_⟩
      exact (hb.setCell (p := ⟨w.heap.size, 0, none⟩) (by simp) _).setCell (p := ⟨w.heap.size, 1, none⟩) (by simp) _
end Go.Proofs.Ytackgamdjeidmaa
