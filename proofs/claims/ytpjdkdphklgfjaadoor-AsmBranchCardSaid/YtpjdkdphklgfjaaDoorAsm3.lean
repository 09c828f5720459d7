/- asm.Assemble. -/
import Derived.Test.YtpjdkdphklgfjaaDoorObj3
import Derived.Test.YtpjdkdphklgfjaaDoorAsmI
namespace Go.Proofs.YtpjdkdphklgfjaaDoor
open Go.RowKit Go.Shelf Go.Maps
set_option linter.unusedVariables false
set_option linter.unusedSimpArgs false

def AsmRet (w0 : World) (r : (Int × Int) ⊕ (LayS × (Nat → Int))) (e : Ending) (w' : World) : Prop :=
  match r with
  | .inl p => e = .returned (.tuple #[.agg #[.slice none 0 0, .slice none 0 0, .slice none 0 0], .int .i64 p.1, .int .i64 p.2]) ∧ Below w0.heap.size w0 w'
  | .inr (s, M) => ∃ bv kv nv, e = .returned (.tuple #[.agg #[bv, kv, nv], .int .i64 0, .int .i64 0]) ∧ (∀ w2, KeptFrom w0.heap.size w' w2 → ObjAt w2 bv kv nv (blocksTo s.K M 65536) (marksTo s.K 65536) (sortedLabs s.labs)) ∧ Below w0.heap.size w0 w'

theorem KeptFrom.refl (base : Nat) (w : World) : KeptFrom base w w := fun _ _ _ => rfl
theorem KeptFrom.mono {b1 b2 : Nat} {w w2 : World} (h : KeptFrom b1 w w2) (hb : b1 ≤ b2) : KeptFrom b2 w w2 := fun k h1 h2 => h k (Nat.le_trans hb h1) h2
theorem KeptFrom.below {base : Nat} {w w2 : World} (h : Below w.heap.size w w2) : KeptFrom base w w2 := fun k _ h2 => h.block k h2
theorem set3 {w : World} {u : Nat} {x0 x1 x2 : Value} (v0 v1 v2 : Value) (r0 : w.cell? ⟨u, 0, none⟩ = some x0) (r1 : w.cell? ⟨u, 1, none⟩ = some x1) (r2 : w.cell? ⟨u, 2, none⟩ = some x2) :
    ∃ w8, ((w.setCell ⟨u, 0, none⟩ v0).setCell ⟨u, 1, none⟩ v1).setCell ⟨u, 2, none⟩ v2 = w8 ∧ w8.cell? ⟨u, 0, none⟩ = some v0 ∧ w8.cell? ⟨u, 1, none⟩ = some v1 ∧ w8.cell? ⟨u, 2, none⟩ = some v2 ∧ w.grownBy w8 (some u) :=
  ⟨_, rfl, (set_other (by omega)).trans ((set_other (by omega)).trans (set_same r0)), (set_other (by omega)).trans (set_same ((set_other (by omega)).trans r1)), set_same ((set_other (by omega)).trans ((set_other (by omega)).trans r2)), grown_set3 w u 0 1 2 v0 v1 v2⟩

set_option maxRecDepth 100000 in
set_option maxHeartbeats 2000000 in
theorem asm_bad (A : Option Addr) (c : Nat) (l : List Item) (w : World) (hT : Tabs w) (hwf : ∀ x ∈ l, x.wf) (hl : ItemsAt w A l) (hck : (checkI l).1 ≠ 0) :
    Calls Tryd.prog 14 #[.slice A l.length c] w (AsmRet w (.inl (checkI l))) := by
  have hcon := source_Check A c l (w.alloc (.cells #[.slice none 0 0, .slice none 0 0, .slice none 0 0] 35)) (hT.alloc _) hwf (hl.below (below_new _ _))
  generalize checkI l = r at hcon hck ⊢
  obtain ⟨r1, r2⟩ := r
  have hne : (r1 != 0) = true := bne_iff_ne.2 hck
  clear hck hwf hl
  simp only at hcon
  go_enter Tryd.func14, Tryd.ntmps14
  go_wp2_with fail
  refine hcon.mono ?_
  rintro e w1 ⟨rfl, hb⟩
  have k0 := own_cell hb 0 rfl
  have k1 := own_cell hb 1 rfl
  have k2 := own_cell hb 2 rfl
  have f0 := own_free hb 0
  have f1 := own_free hb 1
  have f2 := own_free hb 2
  go_wp2_with fail
  obtain ⟨w8, e8, v0, v1, v2, hg8⟩ := set3 (.slice none 0 0) (.slice none 0 0) (.slice none 0 0) k0 k1 k2
  rw [e8]
  exact bodyPost_ret (v := .tuple #[.agg #[.slice none 0 0, .slice none 0 0, .slice none 0 0], .int .i64 r1, .int .i64 r2]) (by simp [results, Tryd.results14, go_sem, v0, v1, v2]) rfl
    ⟨rfl, below_grown (below_call (below_new _ _) hb (by simp)) hg8 (by have := hb.size; simp at this; omega) (by intro k e; cases e; omega)⟩
end Go.Proofs.YtpjdkdphklgfjaaDoor
