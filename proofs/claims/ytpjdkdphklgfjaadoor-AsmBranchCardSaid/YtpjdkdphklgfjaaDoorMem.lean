/- More words for memory: what a call's own blocks hold behind another call. -/
import Derived.Test.YtpjdkdphklgfjaaDoorCode4
import Derived.Test.YtpjdkdphklgfjaaDoorItems
namespace Go.Proofs.YtpjdkdphklgfjaaDoor
open Go.RowKit

/-- A call's own block, behind another call that makes memory alone. -/
theorem own_cell {w w1 : World} {c : Array Value} {t : TypeId} (hb : Below (w.alloc (.cells c t)).heap.size (w.alloc (.cells c t)) w1) (o : Nat) {v : Value} (hv : c[o]? = some v) :
    w1.cell? ⟨w.heap.size, o, none⟩ = some v :=
  ((hb.cell (p := ⟨w.heap.size, o, none⟩) (by simp)).trans (World.cell?_alloc_new w c t o)).trans hv
theorem own_free {w w1 : World} {c : Array Value} {t : TypeId} (hb : Below (w.alloc (.cells c t)).heap.size (w.alloc (.cells c t)) w1) (o : Nat) :
    w1.frozen? ⟨w.heap.size, o, none⟩ = false := (hb.frozen (p := ⟨w.heap.size, o, none⟩) (by simp)).trans (by simp)
theorem past_cell {w w1 : World} {o : Obj} (hb : Below (w.alloc o).heap.size (w.alloc o) w1) {b i : Nat} {v : Value} (hn : b < w.heap.size) (hc : w.cell? ⟨b, i, none⟩ = some v) : w1.cell? ⟨b, i, none⟩ = some v :=
  cell_below hb ((World.cell?_alloc_past o b i hn).trans hc)
/-- What a call that answers a bool leaves: new memory alone. -/
def RetB (w : World) (b : Bool) (e : Ending) (w' : World) : Prop := e = .returned (.bool b) ∧ Below w.heap.size w w'

/-- An item in memory: six cells, the last one a slice of bytes. -/
def ItemAt (w : World) (b o : Nat) (x : Item) : Prop :=
  ∃ A c, w.cell? ⟨b, o, none⟩ = some (.int .u8 x.kind) ∧ w.cell? ⟨b, o + 1, none⟩ = some (.string x.name) ∧ w.cell? ⟨b, o + 2, none⟩ = some (.int .i64 x.arg) ∧
    w.cell? ⟨b, o + 3, none⟩ = some (.string x.label) ∧ w.cell? ⟨b, o + 4, none⟩ = some (.int .u8 x.part) ∧ w.cell? ⟨b, o + 5, none⟩ = some (.slice A x.bytes.length c) ∧ BytesAt w A x.bytes
theorem ItemAt.below {w w1 : World} {b o : Nat} {x : Item} (h : ItemAt w b o x) (hb : Below w.heap.size w w1) : ItemAt w1 b o x := by
  obtain ⟨A, c, h0, h1, h2, h3, h4, h5, h6⟩ := h
  exact ⟨A, c, cell_below hb h0, cell_below hb h1, cell_below hb h2, cell_below hb h3, cell_below hb h4, cell_below hb h5, h6.below hb⟩
/-- A slice of items. -/
def ItemsAt (w : World) (A : Option Addr) (l : List Item) : Prop :=
  l = [] ∨ ∃ b off, A = some ⟨b, off, none⟩ ∧ ∀ j x, l[j]? = some x → ItemAt w b (off + j * 6) x
theorem ItemsAt.below {w w1 : World} {A : Option Addr} {l : List Item} (h : ItemsAt w A l) (hb : Below w.heap.size w w1) : ItemsAt w1 A l := by
  rcases h with h | ⟨b, off, hA, hc⟩
  · exact .inl h
  · exact .inr ⟨b, off, hA, fun j x hx => (hc j x hx).below hb⟩
end Go.Proofs.YtpjdkdphklgfjaaDoor
