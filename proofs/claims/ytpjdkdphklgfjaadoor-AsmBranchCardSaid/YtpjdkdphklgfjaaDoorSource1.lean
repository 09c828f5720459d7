/- The walk of source.name. -/
import Derived.Test.YtpjdkdphklgfjaaDoorShelf
import Derived.Test.YtpjdkdphklgfjaaDoorCode4
import Derived.Test.YtpjdkdphklgfjaaDoorItems
namespace Go.Proofs.YtpjdkdphklgfjaaDoor
open Go.RowKit Go.Shelf
set_option linter.unusedVariables false
set_option linter.unusedSimpArgs false

theorem contains_small (c : UInt8) (w : World) :
    Calls Tryd.prog 75 #[.string ⟨#[97, 98, 99, 100, 101, 102, 103, 104, 105, 106, 107, 108, 109, 110, 111, 112, 113, 114, 115, 116, 117, 118, 119, 120, 121, 122]⟩, .string ⟨#[c]⟩] w fun e w' => e = .returned (.bool (lab1 c)) ∧ w = w' := by
  have h := Any.strings_Contains_one Tryd.lays144 ⟨#[97, 98, 99, 100, 101, 102, 103, 104, 105, 106, 107, 108, 109, 110, 111, 112, 113, 114, 115, 116, 117, 118, 119, 120, 121, 122]⟩ c w
  rw [← small_is c]
  exact Calls.mono (show Calls Tryd.prog 75 _ _ _ from h) fun e w' ⟨he, hw⟩ => ⟨he, hw.symm⟩

theorem trim_others (s : ByteArray) (w : World) (hs : s.size ≤ 9223372036854775807) :
    Calls Tryd.prog 76 #[.string s, .string ⟨#[97, 98, 99, 100, 101, 102, 103, 104, 105, 106, 107, 108, 109, 110, 111, 112, 113, 114, 115, 116, 117, 118, 119, 120, 121, 122, 48, 49, 50, 51, 52, 53, 54, 55, 56, 57, 45]⟩] w fun e w' => e = .returned (.string ⟨(Lib.trimS s.data.toList othersL).toArray⟩) ∧ Below w.heap.size w w' :=
  show Calls Tryd.prog 76 _ _ _ from Any.strings_Trim_laid Tryd.lays160 (by kernel_rfl) s ⟨othersL.toArray⟩ w hs (by decide) (ascii_of_all (by decide))

set_option maxRecDepth 100000 in
set_option maxHeartbeats 1000000 in
theorem source_name (s : ByteArray) (w : World) (hs : s.size ≤ 9223372036854775807) :
    Calls Tryd.prog 69 #[.string s] w fun e w' => e = .returned (.bool (isName s)) ∧ Below w.heap.size w w' := by
  cases hd : s.data.toList with
  | nil =>
    have e : isName s = false := by simp only [isName, hd]
    have h1 : s.toList = [] := by rw [Lib.toList_data]; exact hd
    have h2 : s.toList.isEmpty = true := by rw [h1]; rfl
    rw [e]
    clear hd e hs
    go_enter Tryd.func69, Tryd.ntmps69
    go_wp2_with fail
    go_ret
    exact ⟨rfl, Below.refl _ _⟩
  | cons c l =>
    have h2 : s.toList.isEmpty = false := by rw [Lib.toList_data, hd]; rfl
    by_cases hlong : s.size ≤ 16
    · have hl16 : (s.size : Int) ≤ 16 := by omega
      have hx : s.extract 0 1 = ⟨#[c]⟩ := by
        apply Go.WideShapes.bytes_inj
        rw [Lib.extract_data, hd]
        rfl
      have hcon := contains_small c w
      rw [← hx] at hcon
      have hsz : 1 ≤ s.size := by have := congrArg List.length hd; simp at this; omega
      cases h1 : lab1 c with
      | false =>
        have e : isName s = false := by simp only [isName, hd, h1]; simp
        rw [e]
        rw [h1] at hcon
        clear hd e hs h1 hlong hx
        go_enter Tryd.func69, Tryd.ntmps69
        go_wp2_with (go_at_call 75; refine hcon.mono ?_; rintro e w' ⟨rfl, rfl⟩)
        go_ret
        exact ⟨rfl, Below.refl _ _⟩
      | true =>
        rw [h1] at hcon
        have ht := trim_others s w hs
        have he := trimS_all s.data.toList
        cases h3 : s.data.toList.all labc with
        | false =>
          have e : isName s = false := by rw [hd] at h3; simp only [isName, hd, h3]; simp
          rw [e]
          rw [h3] at he
          have h4 : (⟨(Lib.trimS s.data.toList othersL).toArray⟩ : ByteArray).toList.isEmpty = false := by rw [Lib.toList_data]; exact he
          generalize (⟨(Lib.trimS s.data.toList othersL).toArray⟩ : ByteArray) = r at ht h4
          clear hd e hs h1 h3 hlong hx he
          go_enter Tryd.func69, Tryd.ntmps69
          go_wp2_with (first | (go_at_call 75; refine hcon.mono ?_; rintro e w' ⟨rfl, rfl⟩) | (go_at_call 76; refine ht.mono ?_; rintro e w' ⟨rfl, hb⟩))
          go_ret
          exact ⟨rfl, hb⟩
        | true =>
          have e : isName s = true := by rw [hd] at h3; simp only [isName, hd, h3, h1]; simp [hlong]
          rw [e]
          rw [h3] at he
          have h4 : (⟨(Lib.trimS s.data.toList othersL).toArray⟩ : ByteArray).toList.isEmpty = true := by rw [Lib.toList_data]; exact he
          generalize (⟨(Lib.trimS s.data.toList othersL).toArray⟩ : ByteArray) = r at ht h4
          clear hd e hs h1 h3 hlong hx he
          go_enter Tryd.func69, Tryd.ntmps69
          go_wp2_with (first | (go_at_call 75; refine hcon.mono ?_; rintro e w' ⟨rfl, rfl⟩) | (go_at_call 76; refine ht.mono ?_; rintro e w' ⟨rfl, hb⟩))
          go_ret
          exact ⟨rfl, hb⟩
    · have e : isName s = false := by simp only [isName, hd]; simp [hlong]
      have hl16 : (16 : Int) < (s.size : Int) := by omega
      rw [e]
      clear hd e
      go_enter Tryd.func69, Tryd.ntmps69
      go_wp2_with fail
      go_ret
      exact ⟨rfl, Below.refl _ _⟩
end Go.Proofs.YtpjdkdphklgfjaaDoor
