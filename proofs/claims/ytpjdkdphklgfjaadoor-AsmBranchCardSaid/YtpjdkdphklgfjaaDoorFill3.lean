/- The second pass, of whatever items. -/
import Derived.Test.YtpjdkdphklgfjaaDoorFill2
namespace Go.Proofs.YtpjdkdphklgfjaaDoor
open Go.RowKit Go.Shelf Go.Maps
set_option linter.unusedVariables false
set_option linter.unusedSimpArgs false

theorem layFrom_ok (l : List Item) (hm : ∀ x ∈ l, x.may = true) : ∀ (s : LayS) (i : Int) (s' : LayS), layFrom l s i = .inr s' → s.ok → s'.ok ∧ s'.ats.length = s.ats.length + l.length := by
  induction l with
  | nil =>
    intro s i s' h ho
    cases h
    exact ⟨ho, by simp⟩
  | cons x l ih =>
    intro s i s' h ho
    unfold layFrom at h
    cases hs : layStep s x with
    | inl e => rw [hs] at h; cases h
    | inr s1 =>
      rw [hs] at h
      have h1 := ih (fun y hy => hm y (by simp [hy])) s1 (i + 1) s' h (ho.step (hm x (by simp)) hs)
      refine ⟨h1.1, ?_⟩
      rw [h1.2, ats_step hs]
      simp
      omega

/-- What the second pass hands back. -/
def FillRet2 (w0 : World) (y m : Nat) (lv : Value) (s : LayS) (r : (Int × Int) ⊕ (Nat → Int)) (e : Ending) (w' : World) : Prop :=
  match r with
  | .inl p => e = .returned (.tuple #[.int .i64 p.1, .int .i64 p.2]) ∧ Below w0.heap.size w0 w'
  | .inr M => e = .returned (.tuple #[.int .i64 0, .int .i64 0]) ∧ ∃ g av, Fills w0 w' y m g lv av s M

theorem FillRet.two {w0 : World} {y m g : Nat} {lv av : Value} {s : LayS} {r : (Int × Int) ⊕ (Nat → Int)} {e : Ending} {w' : World} (h : FillRet w0 y m g lv av s r e w') : FillRet2 w0 y m lv s r e w' := by
  cases r with
  | inl p => exact h
  | inr M => exact ⟨h.1, g, av, h.2⟩

set_option maxRecDepth 100000 in
theorem asm_fill_empty (A : Option Addr) (c : Nat) (w0 w : World) (y m g : Nat) (av : Value) (s : LayS) (M0 : Nat → Int) (hf : Fills w0 w y m g (.slice A 0 c) av s M0) :
    Calls Tryd.prog 34 #[.pointer (some ⟨y, 0, none⟩)] w (FillRet w0 y m g (.slice A 0 c) av s (.inr M0)) := by
  have HF := Lib.hid hf
  have yc0 := hf.lay.c0
  clear hf
  go_enter Tryd.func34, Tryd.ntmps34
  go_wp2_with fail
  refine wp_loop_rounds 1 ?_
  rw [rounds_succ]
  go_wp2_with fail
  go_ret2
  exact ⟨rfl, HF.out⟩

/-- The second pass. -/
theorem asm_fill (A : Option Addr) (c : Nat) (l : List Item) (w0 w : World) (y m base box : Nat) (av : Value) (s : LayS) (hT : Tabs w0) (hn : l.length ≤ 4096) (hwf : ∀ x ∈ l, x.wf) (hmay : ∀ x ∈ l, x.may = true)
    (hl : ItemsAt w0 A l) (ap : Apart w0 y m base) (hg : Going w0 w y m base box (.slice A l.length c) av s) (hok : s.ok) (hal : s.ats.length = l.length) :
    Calls Tryd.prog 34 #[.pointer (some ⟨y, 0, none⟩)] w (FillRet2 w0 y m (.slice A l.length c) s (fillFrom s.labs l s.ats (fun _ => 0) 0)) := by
  rcases hl with rfl | ⟨b, off, rfl, hc⟩
  · have hf : Fills w0 w y m 0 (.slice A 0 c) av s (fun _ => 0) := ⟨hg.below, hg.lay, fun j a ha => by
      rw [List.length_eq_zero_iff.1 hal] at ha
      simp at ha, hg.own⟩
    exact (asm_fill_empty A c w0 w y m 0 av s _ hf).mono fun e w' h => FillRet.two (by simpa [fillFrom] using h)
  · rcases Nat.eq_zero_or_pos l.length with h0 | hpos
    · have e0 : l = [] := List.length_eq_zero_iff.1 h0
      subst e0
      have hf : Fills w0 w y m 0 (.slice (some ⟨b, off, none⟩) 0 c) av s (fun _ => 0) := ⟨hg.below, hg.lay, fun j a ha => by
        rw [List.length_eq_zero_iff.1 hal] at ha
        simp at ha, hg.own⟩
      exact (asm_fill_empty _ c w0 w y m 0 av s _ hf).mono fun e w' h => FillRet.two (by simpa [fillFrom] using h)
    · obtain ⟨g, cg, rfl, hg1, hg2⟩ := hg.row.form (by omega)
      have hrow := hg.row
      have hats : ∀ j a, s.ats[j]? = some a → w.cell? ⟨g, j, none⟩ = some (.int .i64 a) := fun j a ha => by
        have hj : j < s.ats.length := (List.getElem?_eq_some_iff.1 ha).1
        rw [hrow.cellAt j (by omega)]
        simp [ha]
      rw [hal] at hg
      have hgl := hg.lay
      have hf : Fills w0 w y m g (.slice (some ⟨b, off, none⟩) l.length c) (.slice (some ⟨g, 0, none⟩) l.length cg) s (fun _ => 0) := ⟨hg.below, hg.lay, hats, hg.own⟩
      refine (asm_fill_walk b off c l w0 w y m g cg s _ hT hn hwf hmay hc ap.y0 ap.m0 ap.ne (by have := ap.yb; omega) hf hok hal _ rfl).mono fun e w' h => h.two
end Go.Proofs.YtpjdkdphklgfjaaDoor
