/- The walks of package code's small functions. -/
import Derived.Test.YtpjdkdphklgfjaaDoorProg
import Derived.Test.YtpjdkdphklgfjaaDoorBase
import Derived.Deep.QuietTactic
import Derived.BigQuiet
import Derived.StillTailTactics
import Derived.Deep.RegionHeld3
namespace Go.Proofs.YtpjdkdphklgfjaaDoor
open Go.RowKit
set_option linter.unusedVariables false

set_option maxHeartbeats 400000 in
theorem code_name (b : Int) (w : World) (h0 : 0 ≤ b) (h1 : b ≤ 255) (hT : Tabs w) :
    Calls Tryd.prog 66 #[.int .u8 b] w fun e w' => e = .returned (.string (nameI b)) ∧ w = w' := by
  have c1 := hT.threes.str (b % 16) (by show _ < 16; omega)
  have c2 := hT.sevens.str (b % 16) (by show _ < 16; omega)
  have c3 := hT.twelves.str (b % 16) (by show _ < 16; omega)
  have c4 := hT.fifteens.str (b % 16) (by show _ < 16; omega)
  have c5 := hT.rows.str (b / 16) (by show _ < 16; omega)
  clear hT
  go_enter Tryd.func66, Tryd.ntmps66
  go_wp2
  all_goals go_ret
  all_goals (refine ⟨ret_str ?_, rfl⟩; clear c1 c2 c3 c4 c5; simp_all [nameI])

theorem code_long (b : Int) (w : World) (h0 : 0 ≤ b) (h1 : b ≤ 255) :
    Calls Tryd.prog 67 #[.int .u8 b] w fun e w' => e = .returned (.bool (b / 16 == 12)) ∧ w = w' := by
  go_enter Tryd.func67, Tryd.ntmps67
  go_wp2
  go_ret
  exact ⟨rfl, rfl⟩

theorem code_immediate (b : Int) (w : World) (h0 : 0 ≤ b) (h1 : b ≤ 255) :
    Calls Tryd.prog 74 #[.int .u8 b] w fun e w' => e = .returned (.bool (immI b)) ∧ w = w' := by
  go_enter Tryd.func74, Tryd.ntmps74
  go_wp2
  all_goals go_ret
  all_goals (refine ⟨ret_bool ?_, rfl⟩; simp_all [immI])
  all_goals omega

set_option maxHeartbeats 400000 in
theorem code_form (b : Int) (w : World) (h0 : 0 ≤ b) (h1 : b ≤ 255) :
    Calls Tryd.prog 61 #[.int .u8 b] w fun e w' => e = .returned (.int .u8 (formI b)) ∧ w = w' := by
  cases hi : immI b
  all_goals
    have HI := Lib.hid hi
    have himm := code_immediate b w h0 h1
    rw [hi] at himm
    clear hi
    go_enter Tryd.func61, Tryd.ntmps61
    go_wp2_with (go_at_call 74; refine himm.mono ?_; rintro e w' ⟨rfl, rfl⟩)
    all_goals go_ret
    all_goals (refine ⟨ret_int ?_, rfl⟩; have hi := HI.out; clear himm HI; simp_all [formI])
  all_goals omega

theorem bits_High (x : Int) (w : World) (h0 : 0 ≤ x) (h1 : x ≤ 65535) :
    Calls Tryd.prog 62 #[.int .u16 x] w fun e w' => e = .returned (.int .u8 (x / 256)) ∧ w = w' := by
  go_enter Tryd.func62, Tryd.ntmps62
  go_wp2
  go_ret
  exact ⟨rfl, rfl⟩
theorem bits_Low (x : Int) (w : World) (h0 : 0 ≤ x) (h1 : x ≤ 65535) :
    Calls Tryd.prog 63 #[.int .u16 x] w fun e w' => e = .returned (.int .u8 (x % 256)) ∧ w = w' := by
  go_enter Tryd.func63, Tryd.ntmps63
  go_wp2
  go_ret
  exact ⟨rfl, rfl⟩
theorem word_or (x y : Int) (h0 : 0 ≤ x) (h1 : x ≤ 255) (h2 : 0 ≤ y) (h3 : y ≤ 255) : bits BinOp.or IntKind.u16 (x * 256) y = x * 256 + y := by
  rw [u16_or _ _ (by omega) (by omega) (by omega) (by omega)]
  have e : (x * 256).toNat = x.toNat <<< 8 := by rw [Nat.shiftLeft_eq]; omega
  rw [e, ← Nat.shiftLeft_add_eq_or_of_lt (by omega), Nat.shiftLeft_eq]
  omega
theorem bits_Word (x y : Int) (w : World) (h0 : 0 ≤ x) (h1 : x ≤ 255) (h2 : 0 ≤ y) (h3 : y ≤ 255) :
    Calls Tryd.prog 49 #[.int .u8 x, .int .u8 y] w fun e w' => e = .returned (.int .u16 (x * 256 + y)) ∧ w = w' := by
  go_enter Tryd.func49, Tryd.ntmps49
  go_wp2
  go_ret
  exact ⟨ret_int (word_or x y h0 h1 h2 h3), rfl⟩
end Go.Proofs.YtpjdkdphklgfjaaDoor

/- The walks of code.first, code.Info, code.Find. -/
namespace Go.Proofs.YtpjdkdphklgfjaaDoor
open Go.RowKit
set_option linter.unusedVariables false

set_option maxRecDepth 100000 in
set_option maxHeartbeats 400000 in
theorem code_first (s : ByteArray) (w : World) (hT : Tabs w) :
    Calls Tryd.prog 60 #[.string s] w fun e w' => e = .returned (.int .i64 (firstI s)) ∧ w = w' := by
  have HT := Lib.hid hT
  clear hT
  go_enter Tryd.func60, Tryd.ntmps60
  go_wp2
  go_loop [4] (fun i => ∃ k : Nat, k ≤ 256 ∧ i = .int .i64 k ∧ firstI s = firstFrom s (256 - k) k) (fun i => 256 - (intOf i).toNat)
  case atStart => exact ⟨0, by omega, rfl, rfl⟩
  case round =>
    obtain ⟨k, hk, rfl, hf⟩ := hrel
    have HF := Lib.hid hf
    clear hf
    by_cases hlt : k < 256
    · have hn := code_name k w (by omega) (by omega) HT.out
      by_cases hs : nameI k = s
      · have hb := str_yes hs
        have HS := Lib.hid hs
        clear hs
        go_wp2_with (go_at_call 66; refine hn.mono ?_; rintro e w' ⟨rfl, rfl⟩)
        go_ret
        have hf := HF.out
        rw [show 256 - k = (255 - k) + 1 by omega, firstFrom, if_pos HS.out] at hf
        exact ⟨ret_int hf.symm, rfl⟩
      · have hb := str_no hs
        have HS := Lib.hid hs
        clear hs
        go_wp2_with (go_at_call 66; refine hn.mono ?_; rintro e w' ⟨rfl, rfl⟩)
        go_round
        case rel =>
          have hf := HF.out
          rw [show 256 - k = (255 - k) + 1 by omega, firstFrom, if_neg HS.out] at hf
          exact ⟨k + 1, by omega, by go_num, by rw [hf]; congr 1; omega⟩
        case measure => simp [intOf]; omega
    · go_wp2
      go_ret
      have hf := HF.out
      rw [show 256 - k = 0 by omega, firstFrom] at hf
      exact ⟨ret_int hf.symm, rfl⟩

/-- How many cycles an instruction takes. -/
def cycI (b : Int) : Int := if b / 16 = 12 then 3 else 2

set_option maxRecDepth 100000 in
set_option maxHeartbeats 400000 in
theorem code_Info (b : Int) (w : World) (h0 : 0 ≤ b) (h1 : b ≤ 255) (hT : Tabs w) :
    Calls Tryd.prog 48 #[.int .u8 b] w fun e w' =>
      e = .returned (.agg #[.string (nameI b), .int .u8 (formI b), .int .i64 (lenI (formI b)), .int .i64 (cycI b)]) ∧ Below w.heap.size w w' := by
  have hf0 : 0 ≤ formI b ∧ formI b < 7 := by unfold formI; repeat' split <;> omega
  obtain ⟨hf0, hf6⟩ := hf0
  have g0 : w.cell? ⟨0, (formI b).toNat, none⟩ = some (.int .i64 (lenI (formI b))) := hT.lens.num (formI b) (by show _ < 7; omega)
  have key : ∀ c : Bool, (b / 16 == 12) = c → Calls Tryd.prog 48 #[.int .u8 b] w fun e w' =>
      e = .returned (.agg #[.string (nameI b), .int .u8 (formI b), .int .i64 (lenI (formI b)), .int .i64 (if c then 3 else 2)]) ∧ Below w.heap.size w w' := by
    intro c hc
    cases c
    all_goals
      go_enter Tryd.func48, Tryd.ntmps48
      go_wp2_with (go_at_call 61; refine (code_form _ _ (by omega) (by omega)).mono ?_; rintro e w' ⟨rfl, rfl⟩)
      go_region_held3 (fun w' => w'.cell? ⟨0, (formI b).toNat, none⟩ = some (.int .i64 (lenI (formI b))) ∧ Tabs w')
        (first
          | ((try dsimp only); refine ⟨?_, ?_⟩; go_keep; (repeat (first | exact hT | apply Tabs.drew | apply Tabs.alloc)))
          | (go_split_ands; (try dsimp only); refine ⟨?_, ?_⟩; go_keep; (first | assumption | exact Tabs.alloc (by assumption) _)))
        (first | (go_at_call 66; go_split_ands; refine (code_name _ _ (by omega) (by omega) (by assumption)).mono ?_; rintro e w' ⟨rfl, rfl⟩))
      go_wp2_with (go_at_call 67; refine (code_long _ _ (by omega) (by omega)).mono ?_; rintro e w' ⟨rfl, rfl⟩)
      all_goals
        refine bodyPost_ret (v := .agg #[.string (nameI b), .int .u8 (formI b), .int .i64 (lenI (formI b)), .int .i64 _]) (by simp [results, Tryd.results48, go_sem]) rfl ⟨rfl, ?_⟩
        exact (((Below.refl _ _).alloc (Nat.le_refl _) _).alloc (by simp) _).drew
  rcases hc : (b / 16 == 12) with _ | _
  · have := key _ hc
    simp only [beq_eq_false_iff_ne] at hc
    simpa [cycI, hc] using this
  · have := key _ hc
    simp only [beq_iff_eq] at hc
    simpa [cycI, hc] using this
end Go.Proofs.YtpjdkdphklgfjaaDoor
