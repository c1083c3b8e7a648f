/- The walks over the methods of cut.Cutter. -/
import Derived.Test.YtackgamdjeidmaaCutL
import Derived.Test.YtackgamdjeidmaaLawJoins
import Derived.StillTailTactics
import Derived.OneCell
import Derived.ScopeJumps
import Derived.WalkMore
namespace Go.Proofs.Ytackgamdjeidmaa
open Go.RowKit

/-- Bytes as cells. -/
def byteVals (l : List UInt8) : List Value := l.map fun b => .int .u8 (b.toNat : Int)
theorem byteVals_length (l : List UInt8) : (byteVals l).length = l.length := by simp [byteVals]
theorem byteVals_append (l m : List UInt8) : byteVals (l ++ m) = byteVals l ++ byteVals m := by simp [byteVals]

/-- A cutter at block g: its open bytes in a row of its own, and the sum of the last ones. -/
def CutAt (w : World) (base g : Nat) (o : List UInt8) : Prop :=
  base ≤ g ∧ ∃ A cap, Blk w g 52 #[.slice A o.length cap, .complex .f64 (W (zOf o).1) (W (zOf o).2)] ∧ w.ownsRow base 5 1 (.slice A o.length cap) o.length (byteVals o)

/-- Changed are block g, rows of bytes, and what is new; nothing below base. -/
structure Fr (base g : Nat) (w w' : World) : Prop where
  below : Below base w w'
  kept : ∀ i, i < w.heap.size → i ≠ g → (∀ cs fr, w.heap[i]? ≠ some (.cells cs 5 fr)) → w'.heap[i]? = w.heap[i]?

theorem Fr.refl (base g : Nat) (w : World) : Fr base g w w := ⟨Below.refl _ _, fun _ _ _ _ => rfl⟩
theorem Fr.trans {base g : Nat} {a b c : World} (h : Fr base g a b) (k : Fr base g b c) : Fr base g a c :=
  ⟨h.below.trans k.below, fun i hi hg ht => by
    have e := h.kept i hi hg ht
    exact (k.kept i (Nat.lt_of_lt_of_le hi h.below.size) hg (fun cs fr => by rw [e]; exact ht cs fr)).trans e⟩
theorem Fr.of_below {base g : Nat} {a b : World} (h : Below a.heap.size a b) (hb : base ≤ a.heap.size) : Fr base g a b :=
  ⟨h.mono hb, fun i hi _ _ => h.block i hi⟩
theorem Fr.set_ {base g : Nat} {a b : World} (h : Fr base g a b) (hb : base ≤ g) (i : Nat) (u : Value) : Fr base g a (b.setCell ⟨g, i, none⟩ u) :=
  ⟨h.below.setCell hb u, fun j hj hg ht => (Below.heap_setCell b ⟨g, i, none⟩ u j hg).trans (h.kept j hj hg ht)⟩
theorem Fr.grown {base g : Nat} {a b : World} {v : Value} {n : Nat} {xs : List Value} (hg : a.grownBy b v.ownBlock) (hown : a.ownsRow base 5 1 v n xs) (hb : base ≤ a.heap.size) : Fr base g a b := by
  refine ⟨(Below.refl _ _).grown hg hb fun k hk => (hown.lt k hk).1, fun i hi _ ht => hg.block i hi fun e => ?_⟩
  rcases hown.2 with ⟨rfl, _⟩ | ⟨g', cap, cur, rfl, _, hh, _⟩
  · simp [Value.ownBlock] at e
  · have : i = g' := by simpa [Value.ownBlock] using e
    subst this
    exact ht _ _ hh

theorem Blk.ne_ {w : World} {g : Nat} {t : TypeId} {cs : Array Value} {g' : Nat} {t' : TypeId} {cs' : Array Value} (h : Blk w g t cs) (h' : Blk w g' t' cs') (hne : t ≠ t') : g ≠ g' := by
  rintro rfl
  unfold Blk at h h'
  rw [h] at h'
  injection h' with h'
  injection h' with _ ht
  exact hne ht
theorem own_blk_ne {w : World} {g : Nat} {t : TypeId} {cs : Array Value} {base : Nat} {e : TypeId} {size n : Nat} {v : Value} {xs : List Value} (h : w.ownsRow base e size v n xs) (hg : Blk w g t cs) (hne : e ≠ t) : v.ownBlock ≠ some g := by
  rcases h.2 with ⟨rfl, _⟩ | ⟨g', cap, cur, rfl, _, hh, _⟩
  · simp [Value.ownBlock]
  · intro he
    have : g' = g := by simpa [Value.ownBlock] using he
    subst this
    exact Blk.ne_ (t := e) hh hg hne rfl
theorem Blk.grown {w w' : World} {g : Nat} {t : TypeId} {cs : Array Value} {row : Option Nat} (h : Blk w g t cs) (hb : w.grownBy w' row) (hg : some g ≠ row) : Blk w' g t cs := (hb.block g h.lt hg).trans h

theorem run_store_complex (P : Program) (w : World) (a : Addr) (m : Mode) (k : FloatKind) (x y : Nat) : (store a (.complex k x y) m).run P w = stored P w a (.complex k x y) m := run_store P w a _ m rfl
attribute [local go_sem] run_store_complex

theorem own_slice {w : World} {base : Nat} {e : TypeId} {size n : Nat} {v : Value} {xs : List Value} (h : w.ownsRow base e size v n xs) : ∃ A cap, v = .slice A n cap := by
  rcases h.2 with ⟨rfl, rfl⟩ | ⟨g', cap, cur, rfl, _⟩
  · exact ⟨_, _, rfl⟩
  · exact ⟨_, _, rfl⟩

theorem Try.info5 : (Try.prog.info? 5).map (fun i => (i.zero, i.size, i.bytes)) = some (some (.int .u8 0), 1, 1) := by kernel_rfl

theorem join_one (o : List UInt8) (b : UInt8) (h : o.length < 8) (w : World) :
    Calls Try.prog 20 #[.complex .f64 (W (zOf o).1) (W (zOf o).2), .complex .f64 (W (b.toNat : Int)) 0, .int .i64 1] w fun e w' => e = .returned (.complex .f64 (W (zOf (o ++ [b])).1) (W (zOf (o ++ [b])).2)) ∧ w = w' := by
  have hb := b.toNat_lt
  have hz := zOf_le o
  have hj := join_of 1 (zOf o).1 (zOf o).2 (zOf (o ++ [b])).1 (zOf (o ++ [b])).2 (b.toNat : Int) 0 (zOf_short h b).symm (by omega) (by omega) (by omega) (by omega) w
  rw [W_zero] at hj
  exact hj

theorem roll_eight (o : List UInt8) (b : UInt8) (h : 8 ≤ o.length) (w : World) :
    Calls Try.prog 22 #[.complex .f64 (W (zOf o).1) (W (zOf o).2), .int .i64 8, .int .u8 (o[o.length - 8]'(by omega)).toNat, .int .u8 b.toNat] w fun e w' => e = .returned (.complex .f64 (W (zOf (o ++ [b])).1) (W (zOf (o ++ [b])).2)) ∧ w = w' := by
  have hz := zOf_le o
  exact roll_of 8 _ b (o.drop (o.length - 7)) (by simp; omega) _ _ _ _ (by rw [← last8_cons h]; rfl) (by rw [← last8_snoc h]; rfl) (by omega) (by omega) w

theorem size_setCell (w : World) (a : Addr) (u : Value) : (w.setCell a u).heap.size = w.heap.size := by simp [World.setCell]
theorem cell_new_of (w : World) (u : Value) (t : TypeId) (m : Nat) (h : m = w.heap.size) : ∀ j v, [u][j]? = some v → (w.alloc (.cells #[u] t)).cell? ((⟨m, 0, none⟩ : Addr).add j) = some v := by
  subst h
  exact cell_one_new w u t

/-- What the first statement of roll leaves. -/
theorem roll_mid {base g : Nat} {o : List UInt8} {x y : Nat} {w : World} {A : Option Addr} {cap : Nat} {z : Value} (hb : base ≤ w.heap.size) (hbg : base ≤ g)
    (hblk : Blk w g 52 #[.slice A o.length cap, z]) (hown : w.ownsRow base 5 1 (.slice A o.length cap) o.length (byteVals o)) :
    Fr base g w (w.setCell ⟨g, 1, none⟩ (.complex .f64 x y)) ∧ base ≤ (w.setCell ⟨g, 1, none⟩ (.complex .f64 x y)).heap.size ∧
    Blk (w.setCell ⟨g, 1, none⟩ (.complex .f64 x y)) g 52 #[.slice A o.length cap, .complex .f64 x y] ∧ (w.setCell ⟨g, 1, none⟩ (.complex .f64 x y)).ownsRow base 5 1 (.slice A o.length cap) o.length (byteVals o) := by
  have hs1 := own_blk_ne hown hblk (by decide)
  exact ⟨(Fr.refl base g w).set_ hbg 1 _, by rw [size_setCell]; exact hb, Blk.set_ hblk 1 (.complex .f64 x y), ownsRow_setCell_other (a := ⟨g, 1, none⟩) hown hs1 _⟩

/-- What the last statement of roll leaves. -/
theorem roll_end {base g : Nat} {o : List UInt8} {b : UInt8} {x y : Nat} {w w2 w1 : World} {A A' : Option Addr} {cap cap' : Nat} (hx : x = W (zOf (o ++ [b])).1) (hy : y = W (zOf (o ++ [b])).2) (hbg : base ≤ g)
    (hfr : Fr base g w w2) (hb : base ≤ w2.heap.size) (hblk : Blk w2 g 52 #[.slice A o.length cap, .complex .f64 x y]) (hown : w2.ownsRow base 5 1 (.slice A o.length cap) o.length (byteVals o))
    (hown1 : w1.ownsRow base 5 1 (.slice A' (o.length + 1) cap') (o.length + 1) (byteVals o ++ [.int .u8 (b.toNat : Int)]))
    (hg1 : (w2.alloc (.cells #[.int .u8 (b.toNat : Int)] 5)).grownBy w1 (Value.slice A o.length cap).ownBlock) :
    (w1.cell? ⟨g, 0, none⟩ = some (.slice A o.length cap) ∧ w1.frozen? ⟨g, 0, none⟩ = false) ∧
    CutAt (w1.setCell ⟨g, 0, none⟩ (.slice A' (o.length + 1) cap')) base g (o ++ [b]) ∧ Fr base g w (w1.setCell ⟨g, 0, none⟩ (.slice A' (o.length + 1) cap')) := by
  subst hx hy
  have hs1 := own_blk_ne hown hblk (by decide)
  have hb2 := (Blk.alloc hblk (.cells #[.int .u8 (b.toNat : Int)] 5)).grown hg1 (fun e => hs1 e.symm)
  have hs2 := own_blk_ne hown1 hb2 (by decide)
  refine ⟨⟨hb2.cell 0, hb2.frozen 0⟩, ⟨hbg, A', cap', ?_, ?_⟩, ?_⟩
  · have := Blk.set_ hb2 0 (.slice A' (o.length + 1) cap')
    simp only [List.length_append, List.length_singleton]
    exact this
  · have := ownsRow_setCell_other (a := ⟨g, 0, none⟩) hown1 hs2 (.slice A' (o.length + 1) cap')
    simp only [List.length_append, List.length_singleton]
    rw [byteVals_append]
    exact this
  · have k1 : Fr base g w (w2.alloc (.cells #[.int .u8 (b.toNat : Int)] 5)) := hfr.trans (Fr.of_below ((Below.refl _ _).alloc (Nat.le_refl _) _) hb)
    have k2 := Fr.grown (g := g) hg1 (hown.alloc _) (Nat.le_trans hb (by simp))
    exact (k1.trans k2).set_ hbg 0 _

set_option maxHeartbeats 1000000 in
theorem roll_short (base g : Nat) (o : List UInt8) (b : UInt8) (w : World) (h : CutAt w base g o) (hb : base ≤ w.heap.size) (ho : o.length < 8) :
    Calls Try.prog 33 #[.pointer (some ⟨g, 0, none⟩), .int .u8 b.toNat] w fun e w' => e = .returned (.tuple #[]) ∧ CutAt w' base g (o ++ [b]) ∧ Fr base g w w' := by
  obtain ⟨hbg, A, cap, hblk, hown⟩ := h
  have c0 : w.cell? ⟨g, 0, none⟩ = some (.slice A o.length cap) := hblk.cell 0
  have c1 : w.cell? ⟨g, 1, none⟩ = some (.complex .f64 (W (zOf o).1) (W (zOf o).2)) := hblk.cell 1
  have f0 : w.frozen? ⟨g, 0, none⟩ = false := hblk.frozen 0
  have f1 : w.frozen? ⟨g, 1, none⟩ = false := hblk.frozen 1
  have J := Lib.hid (join_one o b ho)
  obtain ⟨i0, hi, hz0, hz1, hz2⟩ := info_parts Try.info5
  obtain ⟨x, y, hx, hy⟩ : ∃ x y, x = W (zOf (o ++ [b])).1 ∧ y = W (zOf (o ++ [b])).2 := ⟨_, _, rfl, rfl⟩
  rw [← hx, ← hy] at J
  have HX := Lib.hid hx
  have HY := Lib.hid hy
  have HM := Lib.hid (roll_mid (x := x) (y := y) hb hbg hblk hown)
  clear hx hy hblk hown
  go_enter Try.func33, Try.ntmps33
  go_wp2_with fail
  refine (J.out _).mono ?_
  rintro e w' ⟨rfl, rfl⟩
  go_wp2_with (at_builtin; refine wpList_append_own _ rfl (.tmp 44) (.tmp 46) 35 rfl base 5 i0 (.int .u8 0) 1 1 Try.underlying35 hi hz0 hz1 hz2 rfl (by decide) (.slice A o.length cap) o.length (byteVals o) rfl (World.ownsRow.alloc HM.out.2.2.2 _) ⟨w.heap.size, 0, none⟩ 1 1 [.int .u8 (b.toNat : Int)] rfl rfl ?c1 ?c2 ?c3 ?c4 ?c5 ?_)
  case c1 => exact cell_new_of _ _ _ _ (size_setCell _ _ _).symm
  case c2 => intro u hu; have := List.mem_singleton.1 hu; subst this; rfl
  case c3 => unfold maxLen; omega
  case c4 => omega
  case c5 => simp [World.setCell]; omega
  intro v' w1 hown1 hg1 _
  obtain ⟨A', cap', rfl⟩ := own_slice hown1
  have he := roll_end HX.out HY.out hbg HM.out.1 HM.out.2.1 HM.out.2.2.1 HM.out.2.2.2 hown1 hg1
  have d0 := he.1.1
  have d1 := he.1.2
  have HE := Lib.hid he.2
  clear hown1 hg1 he
  go_wp2
  go_end0
  exact ⟨rfl, HE.out.1, HE.out.2⟩

set_option maxHeartbeats 2000000 in
theorem roll_long (base g : Nat) (o : List UInt8) (b : UInt8) (w : World) (h : CutAt w base g o) (hb : base ≤ w.heap.size) (ho : 8 ≤ o.length) (ho2 : o.length < 128) :
    Calls Try.prog 33 #[.pointer (some ⟨g, 0, none⟩), .int .u8 b.toNat] w fun e w' => e = .returned (.tuple #[]) ∧ CutAt w' base g (o ++ [b]) ∧ Fr base g w w' := by
  obtain ⟨hbg, A, cap, hblk, hown⟩ := h
  have c0 : w.cell? ⟨g, 0, none⟩ = some (.slice A o.length cap) := hblk.cell 0
  have c1 : w.cell? ⟨g, 1, none⟩ = some (.complex .f64 (W (zOf o).1) (W (zOf o).2)) := hblk.cell 1
  have f0 : w.frozen? ⟨g, 0, none⟩ = false := hblk.frozen 0
  have f1 : w.frozen? ⟨g, 1, none⟩ = false := hblk.frozen 1
  obtain ⟨gv, hA⟩ : ∃ gv, A = some ⟨gv, 0, none⟩ := by
    rcases hown.2 with ⟨h1, h2⟩ | ⟨g', cap', cur, h1, _⟩
    · omega
    · injection h1 with h1; exact ⟨g', h1⟩
  subst hA
  have q0 : w.cell? ⟨gv, o.length - 8, none⟩ = some (.int .u8 ((o[o.length - 8]'(by omega)).toNat : Int)) := by
    have := hown.cellAt (o.length - 8) (by omega)
    rw [this, byteVals, List.getElem?_map, List.getElem?_eq_getElem (by omega)]; rfl
  have k1 : IntKind.i64.wrap ((o.length : Int) - 8) = (o.length : Int) - 8 := Go.IntWalk.i64_in _ (by omega)
  have k2 : (0 : Int) ≤ (o.length : Int) - 8 := by omega
  have k3 : ((o.length : Int) - 8).toNat = o.length - 8 := by omega
  have k4 : (o.length : Int) - 8 < o.length := by omega
  have J := Lib.hid (roll_eight o b ho)
  obtain ⟨i0, hi, hz0, hz1, hz2⟩ := info_parts Try.info5
  obtain ⟨x, y, hx, hy⟩ : ∃ x y, x = W (zOf (o ++ [b])).1 ∧ y = W (zOf (o ++ [b])).2 := ⟨_, _, rfl, rfl⟩
  rw [← hx, ← hy] at J
  have HX := Lib.hid hx
  have HY := Lib.hid hy
  have HM := Lib.hid (roll_mid (x := x) (y := y) hb hbg hblk hown)
  have HM : Hid (Fr base g w (w.setCell ⟨g, 1, none⟩ (.complex .f64 x y)).drew ∧ base ≤ (w.setCell ⟨g, 1, none⟩ (.complex .f64 x y)).drew.heap.size ∧
    Blk (w.setCell ⟨g, 1, none⟩ (.complex .f64 x y)).drew g 52 #[.slice _ o.length cap, .complex .f64 x y] ∧ (w.setCell ⟨g, 1, none⟩ (.complex .f64 x y)).drew.ownsRow base 5 1 (.slice _ o.length cap) o.length (byteVals o)) :=
    ⟨⟨HM.out.1.below.drew, HM.out.1.kept⟩, HM.out.2.1, HM.out.2.2.1, HM.out.2.2.2⟩
  clear hx hy hblk hown
  go_enter Try.func33, Try.ntmps33
  go_wp2_with fail
  go_region_with (go_at_call 22; refine (J.out _).mono ?_; rintro e w' ⟨rfl, rfl⟩)
  all_goals
    clear k1 k2 k3 k4 q0 c0 c1 f0 f1 J
    generalize (w.setCell ⟨g, 1, none⟩ (.complex .f64 x y)).drew = W2 at *
    have c0 : W2.cell? ⟨g, 0, none⟩ = some (.slice (some ⟨gv, 0, none⟩) o.length cap) := HM.out.2.2.1.cell 0
    have f0 : W2.frozen? ⟨g, 0, none⟩ = false := HM.out.2.2.1.frozen 0
    go_wp2_with (at_builtin; refine wpList_append_own _ rfl (.tmp 44) (.tmp 46) 35 rfl base 5 i0 (.int .u8 0) 1 1 Try.underlying35 hi hz0 hz1 hz2 rfl (by decide) (.slice (some ⟨gv, 0, none⟩) o.length cap) o.length (byteVals o) rfl (World.ownsRow.alloc HM.out.2.2.2 _) ⟨W2.heap.size, 0, none⟩ 1 1 [.int .u8 (b.toNat : Int)] rfl rfl (cell_new_of _ _ _ _ rfl) ?_ ?_ ?_ ?_ ?_)
    · intro u hu; have := List.mem_singleton.1 hu; subst this; rfl
    · unfold maxLen; omega
    · omega
    · have := HM.out.2.1; simp; omega
    intro v' w1 hown1 hg1 _
    obtain ⟨A', cap', rfl⟩ := own_slice hown1
    have he := roll_end HX.out HY.out hbg HM.out.1 HM.out.2.1 HM.out.2.2.1 HM.out.2.2.2 hown1 hg1
    have d0 := he.1.1
    have d1 := he.1.2
    have HE := Lib.hid he.2
    clear hown1 hg1 he
    go_wp2
    go_end0
    exact ⟨rfl, HE.out.1, HE.out.2⟩

theorem rollc_any (base g : Nat) (o : List UInt8) (b : UInt8) (w : World) (h : CutAt w base g o) (hb : base ≤ w.heap.size) (ho2 : o.length < 128) :
    Calls Try.prog 33 #[.pointer (some ⟨g, 0, none⟩), .int .u8 b.toNat] w fun e w' => e = .returned (.tuple #[]) ∧ CutAt w' base g (o ++ [b]) ∧ Fr base g w w' := by
  by_cases ho : o.length < 8
  · exact roll_short base g o b w h hb ho
  · exact roll_long base g o b w h hb (by omega) ho2
end Go.Proofs.Ytackgamdjeidmaa
