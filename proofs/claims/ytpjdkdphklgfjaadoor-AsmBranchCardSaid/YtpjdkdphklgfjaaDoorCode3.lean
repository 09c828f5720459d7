/- The walks of code.Find, code.Encode, code.Decode. -/
import Derived.Test.YtpjdkdphklgfjaaDoorCode2
namespace Go.Proofs.YtpjdkdphklgfjaaDoor
open Go.RowKit
set_option linter.unusedVariables false
set_option linter.unusedSimpArgs false

set_option maxRecDepth 100000 in
set_option maxHeartbeats 400000 in
theorem code_Find_no (s : ByteArray) (w : World) (hT : Tabs w) (h : firstI s < 0) :
    Calls Tryd.prog 40 #[.string s] w fun e w' =>
      e = .returned (.tuple #[.agg #[.string ⟨#[]⟩, .int .u8 0, .int .i64 0, .int .i64 0], .bool false]) ∧ Below w.heap.size w w' := by
  go_enter Tryd.func40, Tryd.ntmps40
  go_wp2_with (go_at_call 60; refine (code_first _ _ (Tabs.alloc hT _)).mono ?_; rintro e w' ⟨rfl, rfl⟩)
  refine bodyPost_ret (v := .tuple #[.agg #[.string ⟨#[]⟩, .int .u8 0, .int .i64 0, .int .i64 0], .bool false]) (by simp [results, Tryd.results40, go_sem]) rfl ⟨rfl, ?_⟩
  exact (Below.refl _ _).alloc (Nat.le_refl _) _

set_option maxRecDepth 100000 in
set_option maxHeartbeats 400000 in
theorem code_Find_yes (s : ByteArray) (w : World) (hT : Tabs w) (h : 0 ≤ firstI s) :
    Calls Tryd.prog 40 #[.string s] w fun e w' =>
      e = .returned (.tuple #[.agg #[.string (nameI (firstI s)), .int .u8 (formI (firstI s)), .int .i64 (lenI (formI (firstI s))), .int .i64 (cycI (firstI s))], .bool true]) ∧ Below w.heap.size w w' := by
  have hr := firstI_range s
  have hx := code_first s (w.alloc (Obj.cells #[Value.string ⟨#[]⟩, Value.int .u8 0, Value.int .i64 0, Value.int .i64 0] 84)) (Tabs.alloc hT _)
  generalize firstI s = op at *
  obtain ⟨hr0, hr1⟩ := hr
  go_enter Tryd.func40, Tryd.ntmps40
  go_wp2_with (go_at_call 60; refine hx.mono ?_; rintro e w' ⟨rfl, rfl⟩)
  refine (code_Info _ _ (by omega) (by omega) (Tabs.alloc hT _)).mono ?_
  rintro e w1 ⟨rfl, hb⟩
  obtain ⟨hc, hf⟩ := bcell hb
  have hz := hb.size
  simp at hz
  go_wp2_with fail
  refine bodyPost_ret (v := .tuple #[.agg #[.string (nameI op), .int .u8 (formI op), .int .i64 (lenI (formI op)), .int .i64 (cycI op)], .bool true]) (by simp [results, Tryd.results40, go_sem, hc]) rfl ⟨rfl, ?_⟩
  exact ((((((Below.refl _ _).alloc (Nat.le_refl _) _).trans (hb.mono (by simp))).setCell (by simp) _).setCell (by simp) _).setCell (by simp) _).setCell (by simp) _

set_option maxRecDepth 100000 in
set_option maxHeartbeats 1000000 in
theorem code_Encode_out (s : ByteArray) (arg op f : Int) (w : World) (hT : Tabs w) (ha0 : -9223372036854775808 ≤ arg) (ha1 : arg ≤ 9223372036854775807) (h0 : 0 ≤ op)
    (hop : firstI s = op) (hf : formI op = f) (hc : arg < lowI f op ∨ highI f < arg) :
    Calls Tryd.prog 41 #[.agg #[.string s, .int .i64 arg]] w (RetBytes w [] 21) := by
  have hr := firstI_range s
  have hr2 := formI_range op
  have hx := code_first s (w.alloc (Obj.cells #[Value.string s, Value.int .i64 arg] 64)) (Tabs.alloc hT _)
  rw [hop] at hr hx
  rw [hf] at hr2
  have hform : ∀ W, Calls Tryd.prog 61 #[.int .u8 op] W fun e w' => e = .returned (.int .u8 f) ∧ W = w' := fun W => by
    have := code_form op W (by omega) (by omega)
    rwa [hf] at this
  obtain ⟨hr0, hr1⟩ := hr
  obtain ⟨hf0, hf1⟩ := hr2
  clear hop hf hT
  have hff : f = 1 ∨ f = 2 ∨ f = 3 ∨ f = 4 ∨ f = 5 ∨ f = 6 := by omega
  clear hf0 hf1
  rcases hff with rfl | rfl | rfl | rfl | rfl | rfl
  all_goals
    simp [lowI, highI] at hc
    by_cases h16 : op < 16
    all_goals
      (try simp only [h16, if_true, if_false] at hc)
      go_enter Tryd.func41, Tryd.ntmps41
      go_wp2_with (first | (go_at_call 60; refine hx.mono ?_; rintro e w' ⟨rfl, rfl⟩) | (go_at_call 61; refine (hform _).mono ?_; rintro e w' ⟨rfl, rfl⟩))
      all_goals
        go_ret2
        exact RetBytes.nil rfl rfl ((Below.refl _ _).alloc (Nat.le_refl _) _)

set_option maxRecDepth 100000 in
set_option maxHeartbeats 1000000 in
theorem code_Encode_in (s : ByteArray) (arg op f : Int) (w : World) (hT : Tabs w) (h0 : 0 ≤ op)
    (hop : firstI s = op) (hf : formI op = f) (hc0 : lowI f op ≤ arg) (hc1 : arg ≤ highI f) :
    Calls Tryd.prog 41 #[.agg #[.string s, .int .i64 arg]] w (RetBytes w (opBytes f op arg) 0) := by
  have hr := firstI_range s
  have hr2 := formI_range op
  have hx := code_first s (w.alloc (Obj.cells #[Value.string s, Value.int .i64 arg] 64)) (Tabs.alloc hT _)
  rw [hop] at hr hx
  rw [hf] at hr2
  have hform : ∀ W, Calls Tryd.prog 61 #[.int .u8 op] W fun e w' => e = .returned (.int .u8 f) ∧ W = w' := fun W => by
    have := code_form op W (by omega) (by omega)
    rwa [hf] at this
  obtain ⟨hr0, hr1⟩ := hr
  obtain ⟨hf0, hf1⟩ := hr2
  clear hop hf hT
  have hff : f = 1 ∨ f = 2 ∨ f = 3 ∨ f = 4 ∨ f = 5 ∨ f = 6 := by omega
  clear hf0 hf1
  rcases hff with rfl | rfl | rfl | rfl | rfl | rfl
  all_goals
    simp [lowI] at hc0
    simp [highI] at hc1
    by_cases h16 : op < 16
    all_goals
      (try simp only [h16, if_true, if_false] at hc0)
      go_enter Tryd.func41, Tryd.ntmps41
      go_wp2_with (first | (go_at_call 60; refine hx.mono ?_; rintro e w' ⟨rfl, rfl⟩) | (go_at_call 61; refine (hform _).mono ?_; rintro e w' ⟨rfl, rfl⟩))
      all_goals
        first
        | (go_ret2
           refine RetBytes.new ?_ rfl rfl (by simp) ((Below.refl _ _).alloc (Nat.le_refl _) _) (by simp)
           simp [opBytes, h16, u8_wrap]
           try omega)
        | (have e16 := u16_in arg (by omega) (by omega)
           have e8 := u8_in op (by omega) (by omega)
           go_region_held3 (fun w' => w'.cell? ⟨w.heap.size, 1, none⟩ = some (.int .i64 arg)) (go_keep)
             (first | (go_at_call 62; refine (bits_High _ _ (by omega) (by omega)).mono ?_; rintro e w' ⟨rfl, rfl⟩) | (go_at_call 63; refine (bits_Low _ _ (by omega) (by omega)).mono ?_; rintro e w' ⟨rfl, rfl⟩))
           clear e16 e8
           go_wp2
           go_ret2
           refine RetBytes.drew (RetBytes.new ?_ rfl rfl (by simp) ((Below.refl _ _).alloc (Nat.le_refl _) _) (by simp))
           simp [opBytes])

-- Encode of a name that is none.
set_option maxRecDepth 100000 in
set_option maxHeartbeats 400000 in
theorem code_Encode_no (s : ByteArray) (arg : Int) (w : World) (hT : Tabs w) (h : firstI s < 0) :
    Calls Tryd.prog 41 #[.agg #[.string s, .int .i64 arg]] w (RetBytes w [] 20) := by
  go_enter Tryd.func41, Tryd.ntmps41
  go_wp2_with (go_at_call 60; refine (code_first _ _ (Tabs.alloc hT _)).mono ?_; rintro e w' ⟨rfl, rfl⟩)
  go_ret2
  exact RetBytes.nil rfl rfl ((Below.refl _ _).alloc (Nat.le_refl _) _)

/-- code.Encode, of whatever instruction. -/
theorem code_Encode (s : ByteArray) (arg : Int) (w : World) (hT : Tabs w) (ha0 : -9223372036854775808 ≤ arg) (ha1 : arg ≤ 9223372036854775807) :
    Calls Tryd.prog 41 #[.agg #[.string s, .int .i64 arg]] w (RetBytes w (encI s arg).1 (encI s arg).2) := by
  unfold encI
  by_cases h : firstI s < 0
  · rw [if_pos h]; exact code_Encode_no s arg w hT h
  · rw [if_neg h]
    by_cases hc : arg < lowI (formI (firstI s)) (firstI s) ∨ highI (formI (firstI s)) < arg
    · rw [if_pos hc]; exact code_Encode_out s arg _ _ w hT ha0 ha1 (by omega) rfl rfl hc
    · rw [if_neg hc]; exact code_Encode_in s arg _ _ w hT (by omega) rfl rfl (by omega) (by omega)
end Go.Proofs.YtpjdkdphklgfjaaDoor
