/- The walks over cut.New, End and Feed. -/
import Derived.Test.YtackgamdjeidmaaCutW
import Derived.Laws.IdiomStrings
import Derived.Laws.BytesArg
namespace Go.Proofs.Ytackgamdjeidmaa
open Go.RowKit

attribute [local go_sem] run_store_complex

theorem conv_open {base : Nat} {o : List UInt8} {w : World} {A : Option Addr} {cap : Nat} (h : w.ownsRow base 5 1 (.slice A o.length cap) o.length (byteVals o)) :
    (convert 35 9 (.slice A o.length cap)).run Try.prog w = .ok (.string ⟨o.toArray⟩) w := by
  rcases h.2 with ⟨h1, h2⟩ | ⟨g', cap', cur, h1, _⟩
  · have ho : o = [] := List.eq_nil_of_length_eq_zero h2
    subst ho
    injection h1 with h1 _ h3
    subst h1
    rw [run_convert_bytes_string w 35 9 5 none _ _ Try.underlying35 Try.underlying5 Try.underlying9]
    rfl
  · injection h1 with h1
    subst h1
    refine run_convert_bytes_back w 35 9 5 ⟨g', 0, none⟩ cap o Try.underlying35 Try.underlying5 Try.underlying9 fun j hj => ?_
    refine h.cells (g := g') rfl j _ ?_
    rw [byteVals, List.getElem?_map, List.getElem?_eq_getElem hj]; rfl

set_option maxHeartbeats 400000 in
theorem end_any (base g : Nat) (o : List UInt8) (w : World) (h : CutAt w base g o) :
    Calls Try.prog 29 #[.pointer (some ⟨g, 0, none⟩)] w fun e w' => e = .returned (.string ⟨o.toArray⟩) ∧ CutAt w' base g [] ∧ Fr base g w w' := by
  obtain ⟨hbg, A, cap, hblk, hown⟩ := h
  have c0 : w.cell? ⟨g, 0, none⟩ = some (.slice A o.length cap) := hblk.cell 0
  have c1 : w.cell? ⟨g, 1, none⟩ = some (.complex .f64 (W (zOf o).1) (W (zOf o).2)) := hblk.cell 1
  have f0 : w.frozen? ⟨g, 0, none⟩ = false := hblk.frozen 0
  have f1 : w.frozen? ⟨g, 1, none⟩ = false := hblk.frozen 1
  have hcv := conv_open hown
  have HB := Lib.hid hblk
  clear hblk hown
  go_enter Try.func29, Try.ntmps29
  go_wp2
  go_ret
  refine ⟨rfl, ⟨hbg, none, 0, ?_, World.ownsRow_nil _ _ _ _⟩, ((Fr.refl base g w).set_ hbg 0 _).set_ hbg 1 _⟩
  have := Blk.set_ (Blk.set_ HB.out 0 (.slice none 0 0)) 1 (.complex .f64 0 0)
  rw [show zOf [] = (0, 0) from rfl, W_zero]
  exact this

set_option maxHeartbeats 400000 in
theorem new_any (w : World) :
    Calls Try.prog 27 #[] w fun e w' => e = .returned (.pointer (some ⟨w.heap.size, 0, none⟩)) ∧ w' = w.alloc (.cells #[.slice none 0 0, .complex .f64 0 0] 52) := by
  go_enter Try.func27, Try.ntmps27
  go_wp2
  go_ret
  exact ⟨rfl, rfl⟩

theorem cutAt_new {base : Nat} {w : World} (hb : base ≤ w.heap.size) : CutAt (w.alloc (.cells #[.slice none 0 0, .complex .f64 0 0] 52)) base w.heap.size [] := by
  refine ⟨hb, none, 0, ?_, World.ownsRow_nil _ _ _ _⟩
  rw [show zOf [] = (0, 0) from rfl, W_zero]
  exact Blk.new w 52 _

/-- Texts as cells. -/
def strVals (l : List (List UInt8)) : List Value := l.map fun x => .string ⟨x.toArray⟩


/-- As Q; by a goto to label l: J l. -/
def Jumps (J : Nat → Act → World → Prop) (Q : Exit → Act → World → Prop) : Exit → Act → World → Prop
  | .goto l, a, w => J l a w
  | e, a, w => Q e a w

/-- A scope with several labels: what holds at each jump, and a measure that each pass lowers. -/
theorem wp_scope_labels {P : Program} {a : Act} {w : World} {Q : Exit → Act → World → Prop} {c : Code} (J : Nat → Act → World → Prop) (μ : Nat → Act → World → Nat)
    (first : ∃ n, c.wp P (Jumps (fun l' a' w' => J l' a' w' ∧ μ l' a' w' < n) Q) a w)
    (pass : ∀ l a w, J l a w → ∃ rest, findLabel c l = some rest ∧ rest.wp P (Jumps (fun l' a' w' => J l' a' w' ∧ μ l' a' w' < μ l a w) Q) a w) : (Code.scope c).wp P Q a w := by
  intro b k cs
  have key : ∀ n l a w, μ l a w = n → J l a w → ∃ rest, findLabel c l = some rest ∧ ∃ e a' w', Q e a' w' ∧ Arrives P (lone (b.at a (.code rest :: .inScope c :: k)) cs w) b k cs e a' w' := by
    intro n
    induction n using Nat.strongRecOn with
    | _ n ih =>
      intro l a w hn hJ
      obtain ⟨rest, hf, hr⟩ := pass l a w hJ
      refine ⟨rest, hf, ?_⟩
      obtain ⟨e, a₁, w₁, hq, harr⟩ := hr b (.inScope c :: k) cs
      cases e with
      | normal => exact ⟨.normal, a₁, w₁, hq, Steps.trans harr (.one step_inScope)⟩
      | exit id => exact ⟨.exit id, a₁, w₁, hq, fun k' hk => harr k' (by simp [exitTo, hk])⟩
      | goto l' =>
        obtain ⟨hJ', hlt⟩ := hq
        obtain ⟨rest', hf', e₂, a₂, w₂, hq₂, harr₂⟩ := ih _ (by omega) l' a₁ w₁ rfl hJ'
        have hg : gotoIn l' (.inScope c :: k) = some (.code rest' :: .inScope c :: k) := by simp [gotoIn, hf']
        exact ⟨e₂, a₂, w₂, hq₂, .of_steps (harr _ hg) harr₂⟩
      | ret => exact ⟨_, a₁, w₁, hq, harr⟩
      | panic ch => exact ⟨_, a₁, w₁, hq, harr⟩
      | outgrown => exact ⟨_, a₁, w₁, hq, harr⟩
  obtain ⟨n, hn⟩ := first
  obtain ⟨e, a₁, w₁, hq, harr⟩ := hn b (.inScope c :: k) cs
  cases e with
  | normal => exact ⟨.normal, a₁, w₁, hq, .head step_scope (Steps.trans harr (.one step_inScope))⟩
  | exit id => exact ⟨.exit id, a₁, w₁, hq, fun k' hk => .head step_scope (harr k' (by simp [exitTo, hk]))⟩
  | goto l' =>
    obtain ⟨rest', hf', e₂, a₂, w₂, hq₂, harr₂⟩ := key _ l' a₁ w₁ rfl hq.1
    have hg : gotoIn l' (.inScope c :: k) = some (.code rest' :: .inScope c :: k) := by simp [gotoIn, hf']
    exact ⟨e₂, a₂, w₂, hq₂, .of_steps (.head step_scope (harr _ hg)) harr₂⟩
  | ret => exact ⟨_, a₁, w₁, hq, .of_steps (.one step_scope) harr⟩
  | panic ch => exact ⟨_, a₁, w₁, hq, .of_steps (.one step_scope) harr⟩
  | outgrown => exact ⟨_, a₁, w₁, hq, .of_steps (.one step_scope) harr⟩

/-- The cutter and the list behind k bytes of the part. -/
def FeedJ (base g : Nat) (o : List UInt8) (p : ByteArray) (w : World) (k : Nat) (v : Value) (wr : World) : Prop :=
  wr.ownsRow w.heap.size 9 1 v (feedL ([], o) (p.data.toList.take k)).1.length (strVals (feedL ([], o) (p.data.toList.take k)).1) ∧
    CutAt wr base g (feedL ([], o) (p.data.toList.take k)).2 ∧ Fr base g w wr
/-- The same, where the byte that came last ends a chunk that is still open. -/
def FeedE (base g : Nat) (o : List UInt8) (p : ByteArray) (w : World) (k : Nat) (v : Value) (wr : World) : Prop :=
  ∃ h : k < p.size, wr.ownsRow w.heap.size 9 1 v (feedL ([], o) (p.data.toList.take k)).1.length (strVals (feedL ([], o) (p.data.toList.take k)).1) ∧
    CutAt wr base g ((feedL ([], o) (p.data.toList.take k)).2 ++ [p[k]]) ∧ Fr base g w wr ∧ endsB ((feedL ([], o) (p.data.toList.take k)).2 ++ [p[k]]) = true


theorem own_fr {w w' : World} {base g B n : Nat} {v : Value} {xs : List Value} {cs : Array Value} (h : w.ownsRow B 9 1 v n xs) (hb : Blk w g 52 cs) (hf : Fr base g w w') : w'.ownsRow B 9 1 v n xs := by
  refine ⟨h.1, ?_⟩
  rcases h.2 with h1 | ⟨g', cap, cur, hv, hB, hh, h2⟩
  · exact Or.inl h1
  · refine Or.inr ⟨g', cap, cur, hv, hB, ?_, h2⟩
    have hlt : g' < w.heap.size := Blk.lt (t := 9) (cs := cur) hh
    rw [hf.kept g' hlt (Blk.ne_ (t := 9) (cs := cur) hh hb (by decide)) (fun cs fr => by rw [hh]; intro e; injection e with e; injection e with _ e; cases e)]
    exact hh

theorem rows_ne {w : World} {B B' n n' : Nat} {v v' : Value} {xs xs' : List Value} (h : w.ownsRow B 9 1 v n xs) (h' : w.ownsRow B' 5 1 v' n' xs') : v'.ownBlock = none ∨ v'.ownBlock ≠ v.ownBlock := by
  rcases h'.2 with ⟨rfl, _⟩ | ⟨g', cap', cur', rfl, _, hh', _⟩
  · exact Or.inl rfl
  · exact Or.inr fun e => own_blk_ne (g := g') (t := 5) (cs := cur') h hh' (by decide) e.symm

theorem cutAt_grown {w w' : World} {base g B n : Nat} {o : List UInt8} {v : Value} {xs : List Value} {x : Obj} (hc : CutAt w base g o) (h : w.ownsRow B 9 1 v n xs) (hg : (w.alloc x).grownBy w' v.ownBlock) : CutAt w' base g o := by
  obtain ⟨hbg, A, cap, hblk, hown⟩ := hc
  refine ⟨hbg, A, cap, (Blk.alloc hblk x).grown hg fun e => ?_, (hown.alloc x).kept hg (rows_ne h hown)⟩
  exact own_blk_ne h hblk (by decide) e.symm

theorem fr_grown {w w1 w2 : World} {base g n : Nat} {v : Value} {xs : List Value} {x : Obj} (hf : Fr base g w w1) (hb : base ≤ w.heap.size) (h : w1.ownsRow w.heap.size 9 1 v n xs) (hg : (w1.alloc x).grownBy w2 v.ownBlock) : Fr base g w w2 := by
  have hs := hf.below.size
  have hB : Below w.heap.size w1 w2 := ((Below.refl _ _).alloc hs x).grown hg (by simp; omega) fun k hk => (h.lt k hk).1
  exact ⟨hf.below.trans (hB.mono hb), fun i hi hg' ht => (hB.block i hi).trans (hf.kept i hi hg' ht)⟩

theorem feed_next {p : ByteArray} {o : List UInt8} {k : Nat} (hk : k < p.size) (h : endsB ((feedL ([], o) (p.data.toList.take k)).2 ++ [p[k]]) = false) :
    feedL ([], o) (p.data.toList.take (k + 1)) = ((feedL ([], o) (p.data.toList.take k)).1, (feedL ([], o) (p.data.toList.take k)).2 ++ [p[k]]) := by
  rw [take_snoc p k hk, feedL_snoc, feedB, if_neg (by simp [h])]
theorem feed_cut {p : ByteArray} {o : List UInt8} {k : Nat} (hk : k < p.size) (h : endsB ((feedL ([], o) (p.data.toList.take k)).2 ++ [p[k]]) = true) :
    feedL ([], o) (p.data.toList.take (k + 1)) = ((feedL ([], o) (p.data.toList.take k)).1 ++ [(feedL ([], o) (p.data.toList.take k)).2 ++ [p[k]]], []) := by
  rw [take_snoc p k hk, feedL_snoc, feedB, if_pos h]

theorem strVals_length (l : List (List UInt8)) : (strVals l).length = l.length := by simp [strVals]
theorem strVals_snoc (l : List (List UInt8)) (x : List UInt8) : strVals (l ++ [x]) = strVals l ++ [.string ⟨x.toArray⟩] := by simp [strVals]

/-- Behind a byte that ends no chunk. -/
theorem feedJ_next {base g : Nat} {o : List UInt8} {p : ByteArray} {w wr w1 : World} {k : Nat} {v : Value} (hk : k < p.size) (h : FeedJ base g o p w k v wr)
    (hc : CutAt w1 base g ((feedL ([], o) (p.data.toList.take k)).2 ++ [p[k]])) (hf : Fr base g wr w1) (he : endsB ((feedL ([], o) (p.data.toList.take k)).2 ++ [p[k]]) = false) : FeedJ base g o p w (k + 1) v w1 := by
  obtain ⟨h1, ⟨_, A, cap, hblk, _⟩, h3⟩ := h
  unfold FeedJ
  rw [feed_next hk he]
  exact ⟨own_fr h1 hblk hf, hc, h3.trans hf⟩
/-- Behind a byte that ends a chunk. -/
theorem feedE_of {base g : Nat} {o : List UInt8} {p : ByteArray} {w wr w1 : World} {k : Nat} {v : Value} (hk : k < p.size) (h : FeedJ base g o p w k v wr)
    (hc : CutAt w1 base g ((feedL ([], o) (p.data.toList.take k)).2 ++ [p[k]])) (hf : Fr base g wr w1) (he : endsB ((feedL ([], o) (p.data.toList.take k)).2 ++ [p[k]]) = true) : FeedE base g o p w k v w1 := by
  obtain ⟨h1, ⟨_, A, cap, hblk, _⟩, h3⟩ := h
  exact ⟨hk, own_fr h1 hblk hf, hc, h3.trans hf, he⟩
/-- Behind the end of a chunk. -/
theorem feedJ_cut {base g : Nat} {o : List UInt8} {p : ByteArray} {w w1 w2 w3 : World} {k : Nat} {v v' : Value} {x : Obj} (hb : base ≤ w.heap.size) (h : FeedE base g o p w k v w1)
    (hc : CutAt w2 base g []) (hf : Fr base g w1 w2)
    (hown : w3.ownsRow w.heap.size 9 1 v' ((feedL ([], o) (p.data.toList.take k)).1.length + 1) (strVals (feedL ([], o) (p.data.toList.take k)).1 ++ [.string ⟨((feedL ([], o) (p.data.toList.take k)).2 ++ [p[k]'h.1]).toArray⟩]))
    (hg : (w2.alloc x).grownBy w3 v.ownBlock) : FeedJ base g o p w (k + 1) v' w3 := by
  obtain ⟨hk, h1, ⟨_, A, cap, hblk, _⟩, h3, he⟩ := h
  have h2 := own_fr h1 hblk hf
  unfold FeedJ
  rw [feed_cut hk he]
  refine ⟨?_, cutAt_grown hc h2 hg, fr_grown (h3.trans hf) hb h2 hg⟩
  rw [strVals_snoc, List.length_append, List.length_singleton]
  exact hown
theorem feedE_own {base g : Nat} {o : List UInt8} {p : ByteArray} {w w1 w2 : World} {k : Nat} {v : Value} (h : FeedE base g o p w k v w1) (hf : Fr base g w1 w2) :
    w2.ownsRow w.heap.size 9 1 v (feedL ([], o) (p.data.toList.take k)).1.length (strVals (feedL ([], o) (p.data.toList.take k)).1) := by
  obtain ⟨hk, h1, ⟨_, A, cap, hblk, _⟩, h3, he⟩ := h
  exact own_fr h1 hblk hf

theorem Try.info9 : (Try.prog.info? 9).map (fun i => (i.zero, i.size, i.bytes)) = some (some (.string ByteArray.empty), 1, 16) := by kernel_rfl
theorem feed_count (o : List UInt8) (p : ByteArray) (k : Nat) : (feedL ([], o) (p.data.toList.take k)).1.length ≤ p.size := by
  have h1 := cutL_parts o (p.data.toList.take k)
  have h2 := List.length_take_le' k p.data.toList
  have h3 : p.data.toList.length = p.size := by simp
  omega

end Go.Proofs.Ytackgamdjeidmaa
