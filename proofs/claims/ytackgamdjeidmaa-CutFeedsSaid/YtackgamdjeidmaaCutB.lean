/- Slices of lists of texts, for CutBehind and CutFeeds. -/
import Derived.Test.YtackgamdjeidmaaCutA
import Derived.Deep.RegionHeld3
namespace Go.Proofs.Ytackgamdjeidmaa
open Go.RowKit

theorem addr_add_zero (b off : Nat) : (Addr.mk b off none).add 0 = ⟨b, off, none⟩ := rfl
theorem slice_head_at (b off cap n k : Nat) (h : k ≤ cap) (w : World) : (Instr.slice 41 (.slice (some ⟨b, off, none⟩) n cap) none (some (.int .i64 (k : Int))) none).run Try.prog w = .ok (.slice (some ⟨b, off, none⟩) k cap) w := by
  rw [slice_head (some ⟨b, off, none⟩) cap n k h w]
  unfold sliced
  simp [addr_add_zero]
theorem slice_to (x y : ByteArray) (t : List UInt8) (h : x.data.toList = y.data.toList ++ t) (w : World) : (Instr.slice 9 (.string x) none (some (.int .i64 (y.size : Int))) none).run Try.prog w = .ok (.string y) w := by
  have hl : x.size = y.size + t.length := by rw [← bytes_length x, ← bytes_length y, h]; simp
  rw [run_slice_string_to_if w 9 x .i64 (y.size : Int) Try.underlying9, if_pos ⟨by omega, by omega⟩, Int.toNat_natCast]
  have : x.extract 0 y.size = y := bytes_ext (by rw [extract_take, h, ← bytes_length y, List.take_left])
  rw [this]

theorem quiet_more {P : Program} {f : FuncId} {args : Array Value} {w : World} {n : Nat} {v : Value}
    (h : Calls P f args (w.drewN n) fun e w' => e = .returned v ∧ ∃ k, w' = (w.drewN n).drewN k) : Calls P f args (w.drewN n) fun e w'' => e = .returned v ∧ ∃ m, w'' = w.drewN m :=
  h.mono fun _ _ ⟨he, k, hk⟩ => ⟨he, n + k, by rw [hk, World.drewN_drewN]⟩
end Go.Proofs.Ytackgamdjeidmaa
