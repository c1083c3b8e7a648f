/- Hex and Raw are each other's way back. -/
import Derived.Test.YtlcimiboalpdkaaRaw
namespace Go.Proofs.Ytlcimiboalpdkaa

theorem digB_is : ∀ x : Nat, x < 16 → isV (digB x) = true ∧ numV (digB x) = x ∧ digB x < 256 := by decide +kernel
theorem hexL_get : ∀ (l : List UInt8) (j : Nat) (h : j < l.length), ((hexL l).getD (2 * j) 0).toNat = digB (l[j].toNat / 16) ∧ ((hexL l).getD (2 * j + 1) 0).toNat = digB (l[j].toNat % 16)
  | b :: l, 0, _ => by
    have hb := b.toNat_lt
    have h1 := (digB_is (b.toNat / 16) (by omega)).2.2
    have h2 := (digB_is (b.toNat % 16) (by omega)).2.2
    simp [hexL, hexB, UInt8.toNat_ofNat']
    omega
  | b :: l, j + 1, h => by
    have ih := hexL_get l j (by simpa using h)
    have e : hexL (b :: l) = UInt8.ofNat (digB (b.toNat / 16)) :: UInt8.ofNat (digB (b.toNat % 16)) :: hexL l := by simp [hexL, hexB]
    rw [e, show 2 * (j + 1) = 2 * j + 1 + 1 by omega]
    simpa using ih

theorem raw_back (s D : ByteArray) (hD : D = ⟨(hexL s.data.toList).toArray⟩) (e : Ending) (h : RawSays D e) : e = .returned (.tuple #[.string s, .bool true]) := by
  have hDl : D.data.toList = hexL s.data.toList := by rw [hD]
  have hDs : D.size = 2 * s.size := by
    have e : D.size = (hexL s.data.toList).length := by rw [hD]; rfl
    rw [e, hexL_length]; rfl
  have hlen : s.data.toList.length = s.size := rfl
  have hget : ∀ j (hj : j < s.size), byteAt D (2 * j) = digB (s[j].toNat / 16) ∧ byteAt D (2 * j + 1) = digB (s[j].toNat % 16) := by
    intro j hj
    unfold byteAt
    rw [hDl]
    exact hexL_get s.data.toList j hj
  have hok : rawOk D := by
    refine ⟨by omega, fun j hj => ?_⟩
    have hb := s[j].toNat_lt
    have hg := hget j (by omega)
    unfold pairOk
    rw [hg.1, hg.2, (digB_is _ (by omega)).1, (digB_is _ (by omega)).1]
    rfl
  have hp : pairsL D (D.size / 2) = s.data.toList := by
    apply List.ext_getElem
    · rw [pairsL_length, hlen]; omega
    · intro j h1 h2
      rw [hlen] at h2
      have hb := s[j].toNat_lt
      have hg := hget j h2
      have e : (pairsL D (D.size / 2))[j] = pairB D j := by simp [pairsL]
      rw [e]
      apply UInt8.toNat_inj.1
      rw [pairB_toNat, hg.1, hg.2, (digB_is _ (by omega)).2.1, (digB_is _ (by omega)).2.1]
      show _ = s[j].toNat
      omega
  rw [h.1 hok, hp]
theorem raw_same (s : ByteArray) : ∃ (o : ByteArray) (b : Bool), ∀ e, RawSays s e → e = .returned (.tuple #[.string o, .bool b]) := by
  by_cases h : rawOk s
  · exact ⟨_, true, fun e k => k.1 h⟩
  · exact ⟨_, false, fun e k => k.2 h⟩
end Go.Proofs.Ytlcimiboalpdkaa
