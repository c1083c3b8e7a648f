/- The table of the cube roots' digits, as sums keeps it: the walk over cubes and k. -/
import Derived.Test.YtlcimiboalpdkaaChk
namespace Go.Proofs.Ytlcimiboalpdkaa
open Go.RowKit

def cubeTab : List Nat := [4794697085070296209, 13096744586791213989, 4131703405765792241, 10538285296827260629, 15566598207151758081, 2608012711741390275, 8268148720858477054, 11230858888332702068, 16472876343709550470, 1135362055407968716, 3308224257782482090, 6679025011744409818, 10970295157772109421, 12683024718762704839, 14330467156182405447, 489312709404862823, 2861767655337697592, 5560940570391088403, 7280758554198936251, 9350256978237205637, 11727347735703742027, 14000437183109681571, 15101387698198873636, 17586052440550711408, 1847814047869135880, 2830643534987574453, 4115178123771292234, 6601373596217405427, 8399075790807196527, 9568029438005150216, 10430055239000288491, 13761210420988836082]
def cubeAgg : Value := .agg #[.int .u64 4794697085070296209, .int .u64 13096744586791213989, .int .u64 4131703405765792241, .int .u64 10538285296827260629, .int .u64 15566598207151758081, .int .u64 2608012711741390275, .int .u64 8268148720858477054, .int .u64 11230858888332702068, .int .u64 16472876343709550470, .int .u64 1135362055407968716, .int .u64 3308224257782482090, .int .u64 6679025011744409818, .int .u64 10970295157772109421, .int .u64 12683024718762704839, .int .u64 14330467156182405447, .int .u64 489312709404862823, .int .u64 2861767655337697592, .int .u64 5560940570391088403, .int .u64 7280758554198936251, .int .u64 9350256978237205637, .int .u64 11727347735703742027, .int .u64 14000437183109681571, .int .u64 15101387698198873636, .int .u64 17586052440550711408, .int .u64 1847814047869135880, .int .u64 2830643534987574453, .int .u64 4115178123771292234, .int .u64 6601373596217405427, .int .u64 8399075790807196527, .int .u64 9568029438005150216, .int .u64 10430055239000288491, .int .u64 13761210420988836082]
theorem cube_build (w : World) : (Instr.build 65 #[(0, .int .u64 4794697085070296209), (1, .int .u64 13096744586791213989), (2, .int .u64 4131703405765792241), (3, .int .u64 10538285296827260629), (4, .int .u64 15566598207151758081), (5, .int .u64 2608012711741390275), (6, .int .u64 8268148720858477054), (7, .int .u64 11230858888332702068), (8, .int .u64 16472876343709550470), (9, .int .u64 1135362055407968716), (10, .int .u64 3308224257782482090), (11, .int .u64 6679025011744409818), (12, .int .u64 10970295157772109421), (13, .int .u64 12683024718762704839), (14, .int .u64 14330467156182405447), (15, .int .u64 489312709404862823), (16, .int .u64 2861767655337697592), (17, .int .u64 5560940570391088403), (18, .int .u64 7280758554198936251), (19, .int .u64 9350256978237205637), (20, .int .u64 11727347735703742027), (21, .int .u64 14000437183109681571), (22, .int .u64 15101387698198873636), (23, .int .u64 17586052440550711408), (24, .int .u64 1847814047869135880), (25, .int .u64 2830643534987574453), (26, .int .u64 4115178123771292234), (27, .int .u64 6601373596217405427), (28, .int .u64 8399075790807196527), (29, .int .u64 9568029438005150216), (30, .int .u64 10430055239000288491), (31, .int .u64 13761210420988836082)]).run Try.prog w = .ok cubeAgg w := by kernel_rfl
theorem cube_at0 (w : World) : (Instr.index 65 cubeAgg (.int .i64 0)).run Try.prog w = .ok (.int .u64 4794697085070296209) w := by kernel_rfl
theorem cube_at1 (w : World) : (Instr.index 65 cubeAgg (.int .i64 1)).run Try.prog w = .ok (.int .u64 13096744586791213989) w := by kernel_rfl
theorem cube_at2 (w : World) : (Instr.index 65 cubeAgg (.int .i64 2)).run Try.prog w = .ok (.int .u64 4131703405765792241) w := by kernel_rfl
theorem cube_at3 (w : World) : (Instr.index 65 cubeAgg (.int .i64 3)).run Try.prog w = .ok (.int .u64 10538285296827260629) w := by kernel_rfl
theorem cube_at4 (w : World) : (Instr.index 65 cubeAgg (.int .i64 4)).run Try.prog w = .ok (.int .u64 15566598207151758081) w := by kernel_rfl
theorem cube_at5 (w : World) : (Instr.index 65 cubeAgg (.int .i64 5)).run Try.prog w = .ok (.int .u64 2608012711741390275) w := by kernel_rfl
theorem cube_at6 (w : World) : (Instr.index 65 cubeAgg (.int .i64 6)).run Try.prog w = .ok (.int .u64 8268148720858477054) w := by kernel_rfl
theorem cube_at7 (w : World) : (Instr.index 65 cubeAgg (.int .i64 7)).run Try.prog w = .ok (.int .u64 11230858888332702068) w := by kernel_rfl
theorem cube_at8 (w : World) : (Instr.index 65 cubeAgg (.int .i64 8)).run Try.prog w = .ok (.int .u64 16472876343709550470) w := by kernel_rfl
theorem cube_at9 (w : World) : (Instr.index 65 cubeAgg (.int .i64 9)).run Try.prog w = .ok (.int .u64 1135362055407968716) w := by kernel_rfl
theorem cube_at10 (w : World) : (Instr.index 65 cubeAgg (.int .i64 10)).run Try.prog w = .ok (.int .u64 3308224257782482090) w := by kernel_rfl
theorem cube_at11 (w : World) : (Instr.index 65 cubeAgg (.int .i64 11)).run Try.prog w = .ok (.int .u64 6679025011744409818) w := by kernel_rfl
theorem cube_at12 (w : World) : (Instr.index 65 cubeAgg (.int .i64 12)).run Try.prog w = .ok (.int .u64 10970295157772109421) w := by kernel_rfl
theorem cube_at13 (w : World) : (Instr.index 65 cubeAgg (.int .i64 13)).run Try.prog w = .ok (.int .u64 12683024718762704839) w := by kernel_rfl
theorem cube_at14 (w : World) : (Instr.index 65 cubeAgg (.int .i64 14)).run Try.prog w = .ok (.int .u64 14330467156182405447) w := by kernel_rfl
theorem cube_at15 (w : World) : (Instr.index 65 cubeAgg (.int .i64 15)).run Try.prog w = .ok (.int .u64 489312709404862823) w := by kernel_rfl
theorem cube_at16 (w : World) : (Instr.index 65 cubeAgg (.int .i64 16)).run Try.prog w = .ok (.int .u64 2861767655337697592) w := by kernel_rfl
theorem cube_at17 (w : World) : (Instr.index 65 cubeAgg (.int .i64 17)).run Try.prog w = .ok (.int .u64 5560940570391088403) w := by kernel_rfl
theorem cube_at18 (w : World) : (Instr.index 65 cubeAgg (.int .i64 18)).run Try.prog w = .ok (.int .u64 7280758554198936251) w := by kernel_rfl
theorem cube_at19 (w : World) : (Instr.index 65 cubeAgg (.int .i64 19)).run Try.prog w = .ok (.int .u64 9350256978237205637) w := by kernel_rfl
theorem cube_at20 (w : World) : (Instr.index 65 cubeAgg (.int .i64 20)).run Try.prog w = .ok (.int .u64 11727347735703742027) w := by kernel_rfl
theorem cube_at21 (w : World) : (Instr.index 65 cubeAgg (.int .i64 21)).run Try.prog w = .ok (.int .u64 14000437183109681571) w := by kernel_rfl
theorem cube_at22 (w : World) : (Instr.index 65 cubeAgg (.int .i64 22)).run Try.prog w = .ok (.int .u64 15101387698198873636) w := by kernel_rfl
theorem cube_at23 (w : World) : (Instr.index 65 cubeAgg (.int .i64 23)).run Try.prog w = .ok (.int .u64 17586052440550711408) w := by kernel_rfl
theorem cube_at24 (w : World) : (Instr.index 65 cubeAgg (.int .i64 24)).run Try.prog w = .ok (.int .u64 1847814047869135880) w := by kernel_rfl
theorem cube_at25 (w : World) : (Instr.index 65 cubeAgg (.int .i64 25)).run Try.prog w = .ok (.int .u64 2830643534987574453) w := by kernel_rfl
theorem cube_at26 (w : World) : (Instr.index 65 cubeAgg (.int .i64 26)).run Try.prog w = .ok (.int .u64 4115178123771292234) w := by kernel_rfl
theorem cube_at27 (w : World) : (Instr.index 65 cubeAgg (.int .i64 27)).run Try.prog w = .ok (.int .u64 6601373596217405427) w := by kernel_rfl
theorem cube_at28 (w : World) : (Instr.index 65 cubeAgg (.int .i64 28)).run Try.prog w = .ok (.int .u64 8399075790807196527) w := by kernel_rfl
theorem cube_at29 (w : World) : (Instr.index 65 cubeAgg (.int .i64 29)).run Try.prog w = .ok (.int .u64 9568029438005150216) w := by kernel_rfl
theorem cube_at30 (w : World) : (Instr.index 65 cubeAgg (.int .i64 30)).run Try.prog w = .ok (.int .u64 10430055239000288491) w := by kernel_rfl
theorem cube_at31 (w : World) : (Instr.index 65 cubeAgg (.int .i64 31)).run Try.prog w = .ok (.int .u64 13761210420988836082) w := by kernel_rfl
theorem cube_at (i : Nat) (h : i < 32) (w : World) : (Instr.index 65 cubeAgg (.int .i64 i)).run Try.prog w = .ok (.int .u64 (cubeTab.getD i 0 : Nat)) w := by
  match i, h with
  | 0, _ => exact cube_at0 w
  | 1, _ => exact cube_at1 w
  | 2, _ => exact cube_at2 w
  | 3, _ => exact cube_at3 w
  | 4, _ => exact cube_at4 w
  | 5, _ => exact cube_at5 w
  | 6, _ => exact cube_at6 w
  | 7, _ => exact cube_at7 w
  | 8, _ => exact cube_at8 w
  | 9, _ => exact cube_at9 w
  | 10, _ => exact cube_at10 w
  | 11, _ => exact cube_at11 w
  | 12, _ => exact cube_at12 w
  | 13, _ => exact cube_at13 w
  | 14, _ => exact cube_at14 w
  | 15, _ => exact cube_at15 w
  | 16, _ => exact cube_at16 w
  | 17, _ => exact cube_at17 w
  | 18, _ => exact cube_at18 w
  | 19, _ => exact cube_at19 w
  | 20, _ => exact cube_at20 w
  | 21, _ => exact cube_at21 w
  | 22, _ => exact cube_at22 w
  | 23, _ => exact cube_at23 w
  | 24, _ => exact cube_at24 w
  | 25, _ => exact cube_at25 w
  | 26, _ => exact cube_at26 w
  | 27, _ => exact cube_at27 w
  | 28, _ => exact cube_at28 w
  | 29, _ => exact cube_at29 w
  | 30, _ => exact cube_at30 w
  | 31, _ => exact cube_at31 w
  | n + 32, h => exact absurd h (by omega)

theorem cubeTab_lt (i : Nat) : cubeTab.getD i 0 < 18446744073709551616 := by
  by_cases h : i < 32
  · have key : ∀ j : Fin 32, cubeTab.getD j.val 0 < 18446744073709551616 := by decide +kernel
    exact key ⟨i, h⟩
  · have : cubeTab.getD i 0 = 0 := by
      rw [List.getD_eq_getElem?_getD, List.getElem?_eq_none (by show 32 ≤ i; omega)]; rfl
    rw [this]; decide

set_option maxHeartbeats 400000 in
theorem cubes_any (i : Nat) (h : i < 32) (w : World) :
    Calls Try.prog 42 #[.int .i64 i] w fun e w' => e = .returned (.int .u64 (cubeTab.getD i 0 : Nat)) ∧ w = w' := by
  have hi := cube_at i h
  generalize cubeTab.getD i 0 = v at *
  unfold cubeAgg at hi
  go_enter Try.func42, Try.ntmps42
  go_wp2
  go_ret
  exact ⟨rfl, rfl⟩

/-- A round's number. -/
def kOf (t : Nat) : Nat := if t % 2 = 0 then cubeTab.getD (t / 2) 0 / 4294967296 else cubeTab.getD (t / 2) 0 % 4294967296
theorem kOf_lt (t : Nat) : kOf t < 4294967296 := by
  have := cubeTab_lt (t / 2)
  unfold kOf
  by_cases h : t % 2 = 0
  · rw [if_pos h]; omega
  · rw [if_neg h]; omega

set_option maxHeartbeats 1000000 in
theorem k_any (t : Nat) (h : t < 64) (w : World) :
    Calls Try.prog 38 #[.int .i64 t] w fun e w' => e = .returned (.int .u32 (kOf t : Nat)) ∧ w = w' := by
  have hv := cubeTab_lt (t / 2)
  have HK := Lib.hid (fun w => cubes_any (t / 2) (by omega) w)
  have HV : Hid (kOf t = if t % 2 = 0 then cubeTab.getD (t / 2) 0 / 4294967296 else cubeTab.getD (t / 2) 0 % 4294967296) := rfl
  generalize kOf t = kt at *
  generalize cubeTab.getD (t / 2) 0 = v at *
  have e1 : ((t / 2 : Nat) : Int) = (t : Int) / 2 := by omega
  rw [e1] at HK
  clear e1
  by_cases h2 : t % 2 = 0
  · have t2 : ((t : Int) % 2 == 0) = true := by rw [beq_iff_eq]; omega
    have HV : Hid (kt = v / 4294967296) := by rw [HV.out, if_pos h2]; exact rfl
    have HB := Lib.hid hv
    clear h2 hv
    go_enter Try.func38, Try.ntmps38
    go_wp2_with fail
    refine (HK.out _).mono ?_
    rintro e w' ⟨rfl, rfl⟩
    go_wp2
    go_ret
    exact ⟨ret_int (by have := HB.out; rw [HV.out]; omega), rfl⟩
  · have t2 : ((t : Int) % 2 == 0) = false := by rw [beq_eq_false_iff_ne]; omega
    have HV : Hid (kt = v % 4294967296) := by rw [HV.out, if_neg h2]; exact rfl
    have HB := Lib.hid hv
    clear h2 hv
    go_enter Try.func38, Try.ntmps38
    go_wp2_with fail
    refine (HK.out _).mono ?_
    rintro e w' ⟨rfl, rfl⟩
    go_wp2
    go_ret
    exact ⟨ret_int (by have := HB.out; rw [HV.out]; omega), rfl⟩
end Go.Proofs.Ytlcimiboalpdkaa
