/- The walk over sums.Print. -/
import Derived.Test.YtlcimiboalpdkaaPutAny
import Derived.Test.YtlcimiboalpdkaaChk
import Derived.Laws.IdiomStrings
namespace Go.Proofs.Ytlcimiboalpdkaa
open Go.RowKit

/-- The printer at first. -/
def prt0 : Prt := { h := [0x6a09e667, 0xbb67ae85, 0x3c6ef372, 0xa54ff53a, 0x510e527f, 0x9b05688c, 0x1f83d9ab, 0x5be0cd19], w := List.replicate 16 0, n := 0 }
theorem prt0_ok : prt0.Ok := ⟨rfl, rfl, by unfold prt0; decide, by unfold prt0; decide⟩

def Prt.puts (s : Prt) (l : List UInt8) : Prt := l.foldl (fun s b => s.put b.toNat) s
theorem Prt.puts_snoc (s : Prt) (l : List UInt8) (b : UInt8) : s.puts (l ++ [b]) = (s.puts l).put b.toNat := by simp [Prt.puts]
theorem Prt.puts_n (s : Prt) (l : List UInt8) (h : s.n < 64) : (s.puts l).n < 64 ∧ (s.puts l).n = (s.n + l.length) % 64 := by
  induction l generalizing s with
  | nil => exact ⟨h, by simp [Prt.puts]; omega⟩
  | cons b l ih =>
    have h1 := s.put_n b.toNat h
    have h2 := ih (s.put b.toNat) h1.1
    refine ⟨h2.1, ?_⟩
    have e : (s.puts (b :: l)).n = ((s.put b.toNat).puts l).n := rfl
    rw [e, h2.2, h1.2, List.length_cons]; omega
theorem grown_alloc_new (W : World) (o : Obj) : W.grownBy (W.alloc o) (some W.heap.size) := World.grownBy_alloc W o _

/-- The length's byte j. -/
def lenB (n j : Nat) : UInt8 := UInt8.ofNat (n * 8 / 2 ^ (56 - 8 * j) % 256)
/-- The text, padded. -/
def padded (l : List UInt8) : List UInt8 := l ++ [128] ++ List.replicate ((120 - (l.length + 1) % 64) % 64) 0 ++ (List.range 8).map (lenB l.length)

theorem lenB_int (n k : Nat) : 0 ≤ ((n : Int) * 8 / 2 ^ (56 - 8 * k) % 256) ∧ ((n : Int) * 8 / 2 ^ (56 - 8 * k) % 256) < 256 ∧ ((n : Int) * 8 / 2 ^ (56 - 8 * k) % 256).toNat = (lenB n k).toNat := by
  refine ⟨Int.emod_nonneg _ (by decide), Int.emod_lt_of_pos _ (by decide), ?_⟩
  have e : ((n : Int) * 8 / 2 ^ (56 - 8 * k) % 256) = ((n * 8 / 2 ^ (56 - 8 * k) % 256 : Nat) : Int) := by
    generalize 56 - 8 * k = m
    rw [Int.natCast_emod, Int.natCast_ediv, Int.natCast_mul, Int.natCast_pow]; rfl
  rw [e, Int.toNat_natCast]
  unfold lenB
  rw [UInt8.toNat_ofNat']
  omega

/-- The fingerprint's byte k. -/
def outB (h : List Nat) (k : Nat) : Nat := h.getD (k / 4) 0 / 2 ^ (24 - k % 4 * 8) % 256
theorem outB_lt (h : List Nat) (k : Nat) : outB h k < 256 := Nat.mod_lt _ (by decide)
theorem outB_int (h : List Nat) (k : Nat) : ((h.getD (k / 4) 0 : Nat) : Int) / 2 ^ (24 - k % 4 * 8) % 256 = ((outB h k : Nat) : Int) := by
  unfold outB
  generalize 24 - k % 4 * 8 = m
  rw [Int.natCast_emod, Int.natCast_ediv, Int.natCast_pow]; rfl
def outC (h : List Nat) (i : Nat) : Array Value := ((List.range 32).map fun k => Value.int .u8 ((if k < i then outB h k else 0 : Nat) : Int)).toArray
theorem outC_set (h : List Nat) (i : Nat) : (outC h i).setIfInBounds i (.int .u8 (outB h i : Nat)) = outC h (i + 1) := by
  unfold outC
  rw [List.setIfInBounds_toArray]
  congr 1
  apply List.ext_getElem
  · simp
  · intro m h1 h2
    simp only [List.getElem_set, List.getElem_map, List.getElem_range]
    by_cases e : i = m
    · subst e; simp
    · rw [if_neg e]
      by_cases e2 : m < i
      · rw [if_pos e2, if_pos (by omega)]
      · rw [if_neg e2, if_neg (by omega)]
theorem outC_at (h : List Nat) (i k : Nat) (hk : k < 32) : (outC h i)[k]? = some (.int .u8 ((if k < i then outB h k else 0 : Nat) : Int)) := by
  unfold outC
  rw [List.getElem?_toArray, List.getElem?_map, List.getElem?_range hk]; rfl
/-- The fingerprint's bytes. -/
def outL (h : List Nat) : List UInt8 := (List.range 32).map fun k => UInt8.ofNat (outB h k)
def printed (s : ByteArray) : ByteArray := ⟨(outL (prt0.puts (padded s.data.toList)).h).toArray⟩
theorem Blk.other {w : World} {g g2 : Nat} {t : TypeId} {cs : Array Value} (h : Blk w g t cs) (hne : g ≠ g2) (i : Nat) (u : Value) : Blk (w.setCell ⟨g2, i, none⟩ u) g t cs := by
  unfold Blk at h ⊢
  have hne' : ¬ g2 = g := fun e => hne e.symm
  simp [World.setCell, Array.getElem?_modify, h, hne']
theorem conv_out {w : World} {g2 : Nat} {h : List Nat} (b : Blk w g2 42 (outC h 32)) : (convert 31 9 (.slice (some ⟨g2, 0, none⟩) 32 32)).run Try.prog w = .ok (.string ⟨(outL h).toArray⟩) w := by
  have hl : (outL h).length = 32 := by simp [outL]
  have := run_convert_bytes_back (P := Try.prog) w 31 9 5 ⟨g2, 0, none⟩ 32 (outL h) Try.underlying31 Try.underlying5 Try.underlying9 (by
    intro j hj
    rw [hl] at hj
    rw [Addr.add_lit, Nat.zero_add, b.cell j, outC_at h 32 j hj, if_pos hj]
    simp only [outL, List.getElem_map, List.getElem_range]
    rw [UInt8.toNat_ofNat', Nat.mod_eq_of_lt (show outB h j < 2 ^ 8 from outB_lt h j)])
  rw [hl] at this
  exact this

theorem laid0 (W : World) : PAt (W.alloc (.cells #[.int .u32 1779033703, .int .u32 3144134277, .int .u32 1013904242, .int .u32 2773480762, .int .u32 1359893119, .int .u32 2600822924, .int .u32 528734635, .int .u32 1541459225,
    .int .u32 0, .int .u32 0, .int .u32 0, .int .u32 0, .int .u32 0, .int .u32 0, .int .u32 0, .int .u32 0, .int .u32 0, .int .u32 0, .int .u32 0, .int .u32 0, .int .u32 0, .int .u32 0, .int .u32 0, .int .u32 0, .int .i64 0] 39)) W.heap.size prt0 :=
  ⟨prt0_ok, Blk.new _ _ _⟩
theorem grown_via {a b c : World} {g : Nat} (h : a.grownBy b none) (k : b.grownBy c (some g)) (hg : a.heap.size ≤ g) : a.grownBy c none := by
  refine ⟨k.os.trans h.os, k.tape.trans h.tape, k.output.trans h.output, Nat.le_trans h.size k.size, ?_⟩
  intro i hi hn
  rw [k.block i (by have := h.size; omega) (by intro e; injection e with e; omega), h.block i hi hn]
theorem put_int (g : Nat) (c : Int) (s : Prt) (W : World) (p : PAt W g s) (hn : s.n < 64) (h0 : 0 ≤ c) (hc : c < 256) :
    Calls Try.prog 19 #[.pointer (some ⟨g, 0, none⟩), .int .u8 c] W fun e w' => e = .returned (.tuple #[]) ∧ PAt w' g (s.put c.toNat) ∧ W.grownBy w' (some g) := by
  have h := put_any g c.toNat s W p hn (by omega)
  rw [Int.toNat_of_nonneg h0] at h
  exact h
/-- How many bytes of the block the world holds. -/
def nOf (w : World) (g : Nat) : Nat := match w.cell? ⟨g, 24, none⟩ with | some (.int _ n) => n.toNat | _ => 0
theorem PAt.nOf {W : World} {g : Nat} {s : Prt} (p : PAt W g s) : nOf W g = s.n := by
  unfold Ytlcimiboalpdkaa.nOf; rw [p.n_cell]; simp

set_option maxHeartbeats 8000000 in
set_option maxRecDepth 100000 in
theorem print_any (s : ByteArray) (W : World) (hs : s.size ≤ 6000) :
    Calls Try.prog 9 #[.string s] W fun e w' => e = .returned (.string (printed s)) ∧ W.grownBy w' none := by
  have P0 := laid0 W
  have G0 := World.grownBy_alloc W (.cells #[.int .u32 1779033703, .int .u32 3144134277, .int .u32 1013904242, .int .u32 2773480762, .int .u32 1359893119, .int .u32 2600822924, .int .u32 528734635, .int .u32 1541459225,
    .int .u32 0, .int .u32 0, .int .u32 0, .int .u32 0, .int .u32 0, .int .u32 0, .int .u32 0, .int .u32 0, .int .u32 0, .int .u32 0, .int .u32 0, .int .u32 0, .int .u32 0, .int .u32 0, .int .u32 0, .int .u32 0, .int .i64 0] 39) none
  have HP0 := Lib.hid P0
  clear P0
  obtain ⟨g, hg⟩ : ∃ g, g = W.heap.size := ⟨_, rfl⟩
  have HG := Lib.hid hg
  have hgle : W.heap.size ≤ g := by omega
  go_enter Try.func9, Try.ntmps9
  go_wp2_with fail
  rw [← hg]
  clear hg
  go_loopw [4, 13] (fun _ i wr => ∃ k : Nat, k ≤ s.size ∧ i = .int .i64 k ∧ PAt wr g (prt0.puts (s.data.toList.take k)) ∧ W.grownBy wr none) (fun _ i _ => s.size - (intOf i).toNat)
  case atStart => exact ⟨0, by omega, rfl, by rw [HG.out]; exact HP0.out, G0⟩
  case round =>
    obtain ⟨k, hk, rfl, hp, hgr⟩ := hrel
    have hn := (Prt.puts_n prt0 (s.data.toList.take k) (by decide)).1
    by_cases hlt : k < s.size
    · have HP := Lib.hid hp
      clear hp
      go_wp2_with fail
      refine (put_int g _ _ _ HP.out hn (by omega) (by have := s[k].toNat_lt; omega)).mono ?_
      rintro e w' ⟨rfl, hp', hg'⟩
      have HP' := Lib.hid hp'
      clear hp'
      go_wp2_with fail
      refine ⟨⟨k + 1, by omega, rfl, ?_, grown_via hgr hg' hgle⟩, by simp only [intOf]; omega⟩
      rw [take_snoc s k hlt, Prt.puts_snoc]
      exact HP'.out
    · have hk' : k = s.size := by omega
      subst hk'
      have HP := Lib.hid hp
      clear hp
      go_wp2_with fail
      refine (put_int g _ _ _ HP.out hn (by omega) (by omega)).mono ?_
      rintro e w' ⟨rfl, hp', hg'⟩
      have hgr' := grown_via hgr hg' hgle
      have hp2 : PAt w' g (prt0.puts (s.data.toList ++ [128])) := by
        rw [List.take_of_length_le (by simp)] at hp'
        rw [Prt.puts_snoc]; exact hp'
      have HP2 := Lib.hid hp2
      clear hp' hp2 hg' hgr
      obtain ⟨n0, hn0⟩ : ∃ n0, n0 = (s.size + 1) % 64 := ⟨_, rfl⟩
      have hnj : ∀ j, (prt0.puts (s.data.toList ++ [128] ++ List.replicate j 0)).n = (n0 + j) % 64 := by
        intro j
        rw [(Prt.puts_n prt0 _ (by decide)).2, hn0, List.length_append, List.length_append, List.length_replicate, List.length_singleton, show s.data.toList.length = s.size from by simp, show prt0.n = 0 from rfl]
        omega
      have HNJ := Lib.hid hnj
      clear hnj
      go_wp2_with fail
      go_loopw [27] (fun _ wr => ∃ j : Nat, j ≤ (120 - n0) % 64 ∧ PAt wr g (prt0.puts (s.data.toList ++ [128] ++ List.replicate j 0)) ∧ W.grownBy wr none) (fun _ wr => (120 - nOf wr g) % 64)
      case atStart => exact ⟨0, by omega, by rw [List.replicate_zero, List.append_nil]; exact HP2.out, hgr'⟩
      case round =>
        obtain ⟨j, hj, hp, hgr⟩ := hrel
        have e1 := hp.nOf
        rw [HNJ.out] at e1
        have c0 := hp.n_cell
        rw [HNJ.out] at c0
        have hlt : (prt0.puts (s.data.toList ++ [128] ++ List.replicate j 0)).n < 64 := by rw [HNJ.out]; omega
        have HP := Lib.hid hp
        clear hp
        by_cases h56 : (n0 + j) % 64 = 56
        · rw [h56] at c0
          go_wp2_with fail
          obtain ⟨M, hM⟩ : ∃ M, M = s.data.toList ++ [128] ++ List.replicate j 0 := ⟨_, rfl⟩
          have HPM : Hid (PAt wr g (prt0.puts (M ++ (List.range 0).map (lenB s.size)))) := by
            rw [hM, List.range_zero, List.map_nil, List.append_nil]; exact HP.out
          have HM : Hid (padded s.data.toList = M ++ (List.range 8).map (lenB s.size)) := by
            refine Lib.hid ?_
            unfold padded
            rw [hM, show s.data.toList.length = s.size from by simp, ← hn0, show j = (120 - n0) % 64 by omega]
          clear hM
          go_loopw [5] (fun i wr => ∃ j : Nat, j ≤ 8 ∧ i = .int .i64 (56 - 8 * (j : Int)) ∧ PAt wr g (prt0.puts (M ++ (List.range j).map (lenB s.size))) ∧ W.grownBy wr none) (fun i _ => (8 + intOf i).toNat)
          case atStart => exact ⟨0, by omega, rfl, HPM.out, hgr⟩
          case round =>
            obtain ⟨k, hk, rfl, hp, hgr2⟩ := hrel
            have hlt2 : (prt0.puts (M ++ (List.range k).map (lenB s.size))).n < 64 := (Prt.puts_n prt0 _ (by decide)).1
            have HPK := Lib.hid hp
            clear hp
            by_cases hk8 : k < 8
            · have s0 : (0 : Int) ≤ 56 - 8 * (k : Int) := by omega
              have s1 : (56 - 8 * (k : Int)) < 64 := by omega
              have hlb := lenB_int s.size k
              go_wp2_with fail
              refine (put_int g _ _ _ HPK.out hlt2 hlb.1 hlb.2.1).mono ?_
              rintro e w2 ⟨rfl, hp', hg'⟩
              rw [hlb.2.2] at hp'
              have HP' := Lib.hid hp'
              clear hp'
              go_wp2_with fail
              refine ⟨⟨k + 1, by omega, by go_num, ?_, grown_via hgr2 hg' hgle⟩, by simp only [intOf]; omega⟩
              rw [List.range_succ, List.map_append, ← List.append_assoc, List.map_singleton, Prt.puts_snoc]; exact HP'.out
            · have hk8' : k = 8 := by omega
              subst hk8'
              have HP8 : Hid (PAt wr g (prt0.puts (padded s.data.toList))) := by refine Lib.hid ?_; rw [HM.out]; exact HPK.out
              obtain ⟨T, hT⟩ : ∃ T, T = prt0.puts (padded s.data.toList) := ⟨_, rfl⟩
              rw [← hT] at HP8
              have HT := Lib.hid hT
              obtain ⟨g2, hg2⟩ : ∃ g2, g2 = wr.heap.size := ⟨_, rfl⟩
              have hgg : g < g2 := by rw [hg2]; exact HP8.out.blk.lt
              have B0 : Blk (wr.alloc (.cells (outC T.h 0) 42)) g2 42 (outC T.h 0) := by rw [hg2]; exact Blk.new _ _ _
              have P2 : PAt (wr.alloc (.cells (outC T.h 0) 42)) g T := ⟨HP8.out.ok, HP8.out.blk.alloc _⟩
              have G2 := grown_via hgr2 (World.grownBy_alloc wr (.cells (outC T.h 0) 42) (some g)) hgle
              have H2 := Lib.hid (And.intro B0 (And.intro P2 G2))
              have HG2 := Lib.hid hg2
              clear hT B0 P2 G2
              go_wp2_with fail
              rw [← hg2]
              clear hg2
              go_loopw [7, 44] (fun _ i wr => ∃ k : Nat, k ≤ 32 ∧ i = .int .i64 k ∧ Blk wr g2 42 (outC T.h k) ∧ PAt wr g T ∧ W.grownBy wr none) (fun _ i _ => 32 - (intOf i).toNat)
              case atStart => exact ⟨0, by omega, rfl, H2.out.1, H2.out.2.1, H2.out.2.2⟩
              case round =>
                obtain ⟨k, hk, rfl, hb, hp, hgr3⟩ := hrel
                by_cases hk32 : k < 32
                · have c0 := hp.h_cell (k / 4) (by omega)
                  have f1 := hb.frozen k
                  have c1 : wr.cell? ⟨g2, k, none⟩ = some (.int .u8 0) := by rw [hb.cell k, outC_at _ _ _ hk32, if_neg (by omega)]; rfl
                  have s0 : (0 : Int) ≤ 24 - (k : Int) % 4 * 8 := by omega
                  have s1 : 24 - (k : Int) % 4 * 8 < 32 := by omega
                  have hO := outB_int T.h k
                  obtain ⟨x, hx⟩ : ∃ x, T.h.getD (k / 4) 0 = x := ⟨_, rfl⟩
                  rw [hx] at hO c0
                  have HO := Lib.hid hO
                  clear hx hO
                  have HB := Lib.hid hb
                  have HP := Lib.hid hp
                  clear hb hp
                  go_wp2_with fail
                  rw [HO.out]
                  refine ⟨⟨k + 1, by omega, rfl, ?_, ⟨HP.out.ok, HP.out.blk.other (by omega) _ _⟩, ?_⟩, by simp only [intOf]; omega⟩
                  · rw [← outC_set T.h k]; exact HB.out.set_ k _
                  · exact grown_via hgr3 (grown_set (g := g2) ⟨rfl, rfl, rfl, Nat.le_refl _, fun _ _ _ => rfl⟩ _ _) (by omega)
                · have hk' : k = 32 := by omega
                  subst hk'
                  have hconv := conv_out hb
                  clear hb hp
                  go_wp2_with fail
                  go_ret
                  exact ⟨by rw [show printed s = ⟨(outL T.h).toArray⟩ from by unfold printed; rw [HT.out]]; rfl, hgr3⟩
        · have hne : ¬ (((n0 + j) % 64 : Nat) : Int) = 56 := by omega
          generalize hq : (n0 + j) % 64 = q at *
          go_wp2_with fail
          refine (put_int g _ _ _ HP.out hlt (by omega) (by omega)).mono ?_
          rintro e w2 ⟨rfl, hp', hg'⟩
          have HP' := Lib.hid hp'
          clear hp'
          go_wp2_with fail
          refine ⟨⟨j + 1, by omega, ?_, grown_via hgr hg' hgle⟩, ?_⟩
          · rw [List.replicate_succ', ← List.append_assoc, Prt.puts_snoc]; exact HP'.out
          · have e2 := HP'.out.nOf
            rw [(Prt.put_n _ _ hlt).2, HNJ.out] at e2
            rw [e1, e2]; omega
end Go.Proofs.Ytlcimiboalpdkaa
