/- What the rows' list gives: the tables. A world for the witness. -/
import Derived.Test.YtpjdkdphklgfjaaDoorTabs
import Derived.Test.YtpjdkdphklgfjaaDoorCards
import Derived.Test.YtpjdkdphklgfjaaDoorTie
import Derived.WalkKit
import Derived.ProofKit
import Derived.OpenShut
import Derived.Deep.DeepHandedRow
namespace Go.Proofs.YtpjdkdphklgfjaaDoor
open Go.ChangeShapes Go.WideShapes Go.ChangeAt Go.RowKit

/-- The rows' list. -/
def laidList : List (String × DataW Unit) := [("unicode/utf8.acceptRanges", Rows.laid_unicode_utf8_acceptRanges), ("vesper/code.rows", Rows.laid_vesper_code_rows), ("vesper/code.threes", Rows.laid_vesper_code_threes), ("vesper/code.sevens", Rows.laid_vesper_code_sevens), ("vesper/code.twelves", Rows.laid_vesper_code_twelves), ("vesper/code.fifteens", Rows.laid_vesper_code_fifteens), ("vesper/code.lengths", Rows.laid_vesper_code_lengths), ("unicode/utf8.first", Rows.laid_unicode_utf8_first)]
theorem laid_rows : (Rows.laid_vesper_code_rows : DataW Unit) = .agg (rowsT.map fun s => .lit (.string s.data.toList)) := by kernel_rfl
theorem laid_threes : (Rows.laid_vesper_code_threes : DataW Unit) = .agg (threesT.map fun s => .lit (.string s.data.toList)) := by kernel_rfl
theorem laid_sevens : (Rows.laid_vesper_code_sevens : DataW Unit) = .agg (sevensT.map fun s => .lit (.string s.data.toList)) := by kernel_rfl
theorem laid_twelves : (Rows.laid_vesper_code_twelves : DataW Unit) = .agg (twelvesT.map fun s => .lit (.string s.data.toList)) := by kernel_rfl
theorem laid_fifteens : (Rows.laid_vesper_code_fifteens : DataW Unit) = .agg (fifteensT.map fun s => .lit (.string s.data.toList)) := by kernel_rfl
theorem laid_lengths : (Rows.laid_vesper_code_lengths : DataW Unit) = .agg (lensT.map fun z => .lit (.int .i64 z)) := by kernel_rfl
theorem no_handles : (laidList.filter fun x => x.2.handleName?.isSome) = [] := by kernel_rfl
theorem met_of_metH {W : World} (h : laidMetH Tryd.prog laidList W) : laidMet Tryd.prog laidList W := by
  unfold laidMetH at h
  rw [no_handles] at h
  exact h

/-- The tables hold what the code wants of them. -/
theorem tabs_of_laid {W : World} (h : laidMetH Tryd.prog laidList W) : Tabs W := by
  have h := met_of_metH h
  refine ⟨?_, ?_, ?_, ?_, ?_, ?_⟩
  · exact nums_of_laid h (n := "vesper/code.lengths") (by rw [← laid_lengths]; simp [laidList]) (by kernel_rfl) (t := 118) (by kernel_rfl) (k := 7) (by kernel_rfl) (by kernel_rfl)
  · exact strs_of_laid h (n := "vesper/code.rows") (by rw [← laid_rows]; simp [laidList]) (by kernel_rfl) (t := 127) (by kernel_rfl) (k := 16) (by kernel_rfl) (by kernel_rfl)
  · exact strs_of_laid h (n := "vesper/code.threes") (by rw [← laid_threes]; simp [laidList]) (by kernel_rfl) (t := 127) (by kernel_rfl) (k := 16) (by kernel_rfl) (by kernel_rfl)
  · exact strs_of_laid h (n := "vesper/code.sevens") (by rw [← laid_sevens]; simp [laidList]) (by kernel_rfl) (t := 127) (by kernel_rfl) (k := 16) (by kernel_rfl) (by kernel_rfl)
  · exact strs_of_laid h (n := "vesper/code.twelves") (by rw [← laid_twelves]; simp [laidList]) (by kernel_rfl) (t := 127) (by kernel_rfl) (k := 16) (by kernel_rfl) (by kernel_rfl)
  · exact strs_of_laid h (n := "vesper/code.fifteens") (by rw [← laid_fifteens]; simp [laidList]) (by kernel_rfl) (t := 127) (by kernel_rfl) (k := 16) (by kernel_rfl) (by kernel_rfl)

/-- The cells that read as a datum of numbers and strings. -/
def dCells : Nat → DataW Unit → List Value
  | 0, _ => []
  | _ + 1, .lit (.int k z) => [.int k z]
  | _ + 1, .lit (.string l) => [.string ⟨l.toArray⟩]
  | n + 1, .agg ps => ps.flatMap (dCells n)
  | _ + 1, _ => []
/-- A block, filled anew. -/
def fillBlock (d : DataW Unit) : Obj → Obj
  | .cells _ t frozen => .cells (dCells 3 d).toArray t frozen
  | o => o
/-- A WORLD FOR THE WITNESS: the settled one, each listed variable holding what its initialiser lays. -/
noncomputable def laidWorld (os : Os) : World :=
  { World.holding Tryd.prog os ⟨#[], #[], []⟩ with heap := ((((((((World.holding Tryd.prog os ⟨#[], #[], []⟩).heap.modify 0 (fillBlock Rows.laid_vesper_code_lengths)).modify 1 (fillBlock Rows.laid_vesper_code_threes)).modify 2 (fillBlock Rows.laid_vesper_code_sevens)).modify
    3 (fillBlock Rows.laid_vesper_code_twelves)).modify 4 (fillBlock Rows.laid_vesper_code_fifteens)).modify 5 (fillBlock Rows.laid_vesper_code_rows)).modify 7 (fillBlock Rows.laid_unicode_utf8_first)).modify 8 (fillBlock Rows.laid_unicode_utf8_acceptRanges) }
/-- A law's end: what was there is as it was; only new memory stands behind it. -/
theorem post_new {H : Type} {enc : TypeId × Value → H} {P : Program} {f : Func} {s : ChangeSpec} {W W' : World} {args : Array Value} {v : Value} {ds gs : List (DataW H)} {before : List MemPlace}
    (hW : DataW.Whole enc P f.params.toList s.vars false W args.toList ds gs before) (hb : Below W.heap.size W W')
    (hres : ∀ (b : Nat) (sp : Nat → Bool) (hd : Bool), DataW.TrodAll enc P W' b sp hd f.resultTypes.toList (v.resultList f.resultTypes.size) (s.fn H (ds ++ gs)).results [])
    (hargs : ∀ sp : Nat → Bool, (∀ p ∈ before, sp p.block = true) → DataW.TrodAll enc P W' 0 sp true f.params.toList args.toList (s.fn H (ds ++ gs)).args before)
    (hvars : ∀ sp : Nat → Bool, DataW.TrodVars enc P W' sp s.vars (s.fn H (ds ++ gs)).vars [])
    (_hok : ∀ (j : Nat) (t : TypeId) (r : Value), f.resultTypes[j]? = some t → (v.resultList f.resultTypes.size)[j]? = some r → Value.okWide P W' .any 0 t r) :
    s.post enc P f false true false false W args v W' := by
  have hlt : ∀ p ∈ before, p.block < W.heap.size := fun p hp => hW.lt p hp
  have hold : ∀ p ∈ before, (fun b => decide (b < W.heap.size)) p.block = true := fun p hp => decide_eq_true (hlt p hp)
  exact ⟨ds, gs, before, [], before, [], hW, hres _ _ _, hargs _ hold, hvars _, World.keptBut_mono (fun p hp => ⟨hp, .inr (by simpa using hp)⟩) (hb.frame (· ∈ before)), fun h => by cases h⟩
theorem own : ownKnob Tryd.prog.godebug = none := by kernel_rfl
end Go.Proofs.YtpjdkdphklgfjaaDoor
