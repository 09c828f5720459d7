/- The package's tables, out of the row's list. -/
import Derived.Test.YtpjdkdphklgfjaaDoorBase
import Derived.Lib.LaidTab
import Derived.LaidSub
import Derived.Test.YtpjdkdphklgfjaaDoorProg
namespace Go.Proofs.YtpjdkdphklgfjaaDoor
open Go.RowKit Go.Lib

/-- An array of strings that reads as a list of strings holds these. -/
theorem cells_of_strs {H : Type} {enc : TypeId × Value → H} {P : Program} {w : World} {base : Nat} {sp : Nat → Bool} {held : Bool} {fuel : Nat} {t e : TypeId} {n : Nat} {cs : List Value} {zs : List ByteArray} {p : List MemPlace}
    (ht : P.underlying t = some (.array n e)) (he : P.underlying e = some .string) (hce : P.cellsOf e = 1) (hct : P.cellsOf t = n)
    (h : DataW.trod enc P w base sp held fuel t cs = some (.agg (zs.map fun s => .lit (.string s.data.toList)), p)) : cs = zs.map Value.string := by
  cases fuel with
  | zero => simp [DataW.trod] at h
  | succ fuel =>
    simp only [DataW.trod, ht, hce, hct, Nat.mul_one] at h
    split at h
    · rename_i hl
      obtain ⟨xs, hm, hx⟩ := Option.map_eq_some_iff.1 h
      have hxs : xs.map (·.1) = zs.map fun s => (DataW.lit (.string s.data.toList) : DataW H) := by
        have := congrArg Prod.fst hx
        simpa using this
      have hxl : xs.length = n := by simpa using mapM_length hm
      have hzl : zs.length = n := by
        have := congrArg List.length hxs
        simp at this
        omega
      apply List.ext_getElem?
      intro i
      by_cases hi : i < n
      · obtain ⟨b, hb, hf⟩ := mapM_at hm i i (by simp [hi])
        obtain ⟨z, hc, rfl, _⟩ := DataW.trod_string he hf
        have h1 : cs[i]? = some (.string z) := by
          have := congrArg (·[0]?) hc
          simpa [List.getElem?_take, List.getElem?_drop] using this
        have h2 : (xs.map (·.1))[i]? = some (DataW.lit (.string z.data.toList) : DataW H) := by simp [hb]
        rw [hxs] at h2
        simp only [List.getElem?_map, Option.map_eq_some_iff, DataW.lit.injEq, Lit.string.injEq] at h2
        obtain ⟨z', hz', e⟩ := h2
        have e' : z' = z := Go.WideShapes.bytes_inj e
        subst e'
        simp [h1, hz']
      · rw [List.getElem?_eq_none (by omega), List.getElem?_eq_none (by simp; omega)]
    · cases h

theorem laid_at {P : Program} {w : World} {n : String} {d : DataW Unit} : ∀ {l : List (String × DataW Unit)} {ps : List MemPlace}, DataW.LaidVars P w l ps → (n, d) ∈ l →
    ∃ (g : Nat) (t : Nat) (cs : Array Value) (fuel : Nat) (p : List MemPlace), P.globalNamed n = some g ∧ (P.globals[g]?).map (·.type) = some t ∧ w.var? P n = some cs ∧ DataW.trod (fun _ => ()) P w 0 (fun _ => true) false fuel t cs.toList = some (d, p)
  | [], _, _, h => by cases h
  | (m, e) :: r, ps, hl, h => by
    obtain ⟨g, t, cs, fuel, p, q, e1, e2, e3, e4, hr, rfl⟩ := hl
    rcases List.mem_cons.1 h with h | h
    · cases h; exact ⟨g, t, cs, fuel, p, e1, e2, e3, e4⟩
    · exact laid_at hr h
theorem strs_of_laid {W : World} {l : List (String × DataW Unit)} (h : laidMet Tryd.prog l W) {n : String} {zs : List ByteArray} (hm : (n, .agg (zs.map fun s => .lit (.string s.data.toList))) ∈ l) {g t : Nat} {k : Nat}
    (hg : Tryd.prog.globalNamed n = some g) (hty : (Tryd.prog.globals[g]?).map (·.type) = some t) (ht : Tryd.prog.underlying t = some (.array k 9)) (hct : Tryd.prog.cellsOf t = k) : CellsAt W g 0 (zs.map Value.string) := by
  obtain ⟨ps, hl, _⟩ := h
  obtain ⟨g', t', cs, fuel, p, e1, e2, e3, e4⟩ := laid_at hl hm
  obtain rfl := Option.some.inj (hg.symm.trans e1)
  obtain rfl := Option.some.inj (hty.symm.trans e2)
  have hc := cells_of_strs ht (by kernel_rfl) (by kernel_rfl) hct e4
  intro i v hv
  rw [Nat.zero_add, World.var?_cell hg e3 i, ← Array.getElem?_toList, hc, hv]
theorem nums_of_laid {W : World} {l : List (String × DataW Unit)} (h : laidMet Tryd.prog l W) {n : String} {zs : List Int} (hm : (n, .agg (zs.map fun z => .lit (.int .i64 z))) ∈ l) {g t : Nat} {k : Nat}
    (hg : Tryd.prog.globalNamed n = some g) (hty : (Tryd.prog.globals[g]?).map (·.type) = some t) (ht : Tryd.prog.underlying t = some (.array k 3)) (hct : Tryd.prog.cellsOf t = k) : CellsAt W g 0 (zs.map (Value.int .i64)) := by
  obtain ⟨ps, hl, _⟩ := h
  obtain ⟨g', t', cs, fuel, p, e1, e2, e3, e4⟩ := laid_at hl hm
  obtain rfl := Option.some.inj (hg.symm.trans e1)
  obtain rfl := Option.some.inj (hty.symm.trans e2)
  have hc := cells_of_tab ht (by kernel_rfl) (by kernel_rfl) hct e4
  intro i v hv
  rw [Nat.zero_add, World.var?_cell hg e3 i, ← Array.getElem?_toList, hc, hv]
end Go.Proofs.YtpjdkdphklgfjaaDoor
