/- The instruction table as plain Lean: names, forms, lengths of the 256 ops; the first op of a name; encoding and decoding. No program in sight. -/
import Derived.WalkKit
import Derived.WalkSpells
import Derived.WalkLawsBesides
import Derived.Lib.Hide
namespace Go.Proofs.YtpjdkdphklgfjaaDoor

def rowsT : List ByteArray := [⟨#[]⟩, ⟨#[73, 78, 67]⟩, ⟨#[68, 69, 67]⟩, ⟨#[]⟩, ⟨#[76, 68, 65]⟩, ⟨#[83, 84, 82]⟩, ⟨#[]⟩, ⟨#[]⟩, ⟨#[71, 76, 79]⟩, ⟨#[71, 72, 73]⟩, ⟨#[80, 76, 79]⟩, ⟨#[80, 72, 73]⟩, ⟨#[]⟩, ⟨#[83, 69, 80]⟩, ⟨#[83, 69, 88]⟩, ⟨#[]⟩]
def threesT : List ByteArray := [⟨#[66, 82]⟩, ⟨#[66, 81]⟩, ⟨#[66, 90]⟩, ⟨#[66, 68, 70]⟩, ⟨#[66, 49]⟩, ⟨#[66, 50]⟩, ⟨#[66, 51]⟩, ⟨#[66, 52]⟩, ⟨#[83, 75, 80]⟩, ⟨#[66, 78, 81]⟩, ⟨#[66, 78, 90]⟩, ⟨#[66, 78, 70]⟩, ⟨#[66, 78, 49]⟩, ⟨#[66, 78, 50]⟩, ⟨#[66, 78, 51]⟩, ⟨#[66, 78, 52]⟩]
def sevensT : List ByteArray := [⟨#[82, 69, 84]⟩, ⟨#[68, 73, 83]⟩, ⟨#[76, 68, 88, 65]⟩, ⟨#[83, 84, 88, 68]⟩, ⟨#[65, 68, 67]⟩, ⟨#[83, 68, 66]⟩, ⟨#[83, 72, 82, 67]⟩, ⟨#[83, 77, 66]⟩, ⟨#[83, 65, 86]⟩, ⟨#[77, 65, 82, 75]⟩, ⟨#[82, 69, 81]⟩, ⟨#[83, 69, 81]⟩, ⟨#[65, 68, 67, 73]⟩, ⟨#[83, 68, 66, 73]⟩, ⟨#[83, 72, 76, 67]⟩, ⟨#[83, 77, 66, 73]⟩]
def twelvesT : List ByteArray := [⟨#[76, 66, 82]⟩, ⟨#[76, 66, 81]⟩, ⟨#[76, 66, 90]⟩, ⟨#[76, 66, 68, 70]⟩, ⟨#[78, 79, 80]⟩, ⟨#[76, 83, 78, 81]⟩, ⟨#[76, 83, 78, 90]⟩, ⟨#[76, 83, 78, 70]⟩, ⟨#[76, 83, 75, 80]⟩, ⟨#[76, 66, 78, 81]⟩, ⟨#[76, 66, 78, 90]⟩, ⟨#[76, 66, 78, 70]⟩, ⟨#[76, 83, 73, 69]⟩, ⟨#[76, 83, 81]⟩, ⟨#[76, 83, 90]⟩, ⟨#[76, 83, 68, 70]⟩]
def fifteensT : List ByteArray := [⟨#[76, 68, 88]⟩, ⟨#[79, 82]⟩, ⟨#[65, 78, 68]⟩, ⟨#[88, 79, 82]⟩, ⟨#[65, 68, 68]⟩, ⟨#[83, 68]⟩, ⟨#[83, 72, 82]⟩, ⟨#[83, 77]⟩, ⟨#[76, 68, 73]⟩, ⟨#[79, 82, 73]⟩, ⟨#[65, 78, 73]⟩, ⟨#[88, 82, 73]⟩, ⟨#[65, 68, 73]⟩, ⟨#[83, 68, 73]⟩, ⟨#[83, 72, 76]⟩, ⟨#[83, 77, 73]⟩]
def lensT : List Int := [0, 1, 1, 1, 2, 2, 3]

/-- The name of an op. -/
def nameI (b : Int) : ByteArray :=
  if b / 16 = 0 then (if b % 16 = 0 then ⟨#[73, 68, 76]⟩ else ⟨#[76, 68, 78]⟩)
  else if b / 16 = 3 then threesT.getD (b % 16).toNat ⟨#[]⟩
  else if b / 16 = 6 then (if b % 16 = 0 then ⟨#[73, 82, 88]⟩ else if b % 16 = 8 then ⟨#[78, 85, 76]⟩ else if b % 16 < 8 then ⟨#[79, 85, 84]⟩ else ⟨#[73, 78, 80]⟩)
  else if b / 16 = 7 then sevensT.getD (b % 16).toNat ⟨#[]⟩
  else if b / 16 = 12 then twelvesT.getD (b % 16).toNat ⟨#[]⟩
  else if b / 16 = 15 then fifteensT.getD (b % 16).toNat ⟨#[]⟩
  else rowsT.getD (b / 16).toNat ⟨#[]⟩

/-- Does a byte stand behind an op of the rows 7 and F? -/
def immI (b : Int) : Bool := (b / 16 == 7 && decide (12 ≤ b % 16) && b % 16 != 14) || (b / 16 == 15 && decide (8 ≤ b % 16) && b % 16 != 14)

/-- The form of an op: 1 none, 2 register, 3 port, 4 byte, 5 short, 6 long. -/
def formI (b : Int) : Int :=
  if b = 0 then 1
  else if b / 16 = 3 ∧ b % 16 ≠ 8 then 5
  else if b / 16 = 3 then 1
  else if b / 16 = 6 ∧ b % 16 % 8 ≠ 0 then 3
  else if b / 16 = 6 then 1
  else if immI b = true then 4
  else if b / 16 = 7 ∨ b / 16 = 15 then 1
  else if b / 16 = 12 ∧ (b % 16 < 4 ∨ (8 < b % 16 ∧ b % 16 < 12)) then 6
  else if b / 16 = 12 then 1
  else 2

def lenI (f : Int) : Int := lensT.getD f.toNat 0

/-- The least op of a name from 'from' on, below 256; else -1. -/
def firstFrom (s : ByteArray) : Nat → Int → Int
  | 0, _ => -1
  | d + 1, b => if nameI b = s then b else firstFrom s d (b + 1)
def firstI (s : ByteArray) : Int := firstFrom s 256 0

theorem firstFrom_range (s : ByteArray) : ∀ (d : Nat) (b : Int), firstFrom s d b = -1 ∨ (b ≤ firstFrom s d b ∧ firstFrom s d b < b + d)
  | 0, b => by left; rfl
  | d + 1, b => by
    unfold firstFrom
    split
    · right; omega
    · have := firstFrom_range s d (b + 1); omega
theorem firstI_range (s : ByteArray) : -1 ≤ firstI s ∧ firstI s ≤ 255 := by
  have := firstFrom_range s 256 0
  unfold firstI
  omega
theorem formI_range (b : Int) : 1 ≤ formI b ∧ formI b ≤ 6 := by unfold formI; repeat' split <;> omega

/-- The least and the greatest operand of a form, of an op. -/
def lowI (f op : Int) : Int := if f = 2 then (if op < 16 then 1 else 0) else if f = 3 then 1 else 0
def highI (f : Int) : Int := if f = 2 then 15 else if f = 3 then 7 else if f = 4 ∨ f = 5 then 255 else if f = 6 then 65535 else 0
/-- The bytes of an op with an operand that may be. -/
def opBytes (f op arg : Int) : List Int :=
  if f = 2 then [((if op < 16 then 0 else op) + arg) % 256] else if f = 3 then [(op - 1 + arg) % 256]
  else if f = 4 ∨ f = 5 then [op, arg % 256] else if f = 6 then [op, arg / 256, arg % 256] else [op]
/-- Encode: bytes and an error. -/
def encI (s : ByteArray) (arg : Int) : List Int × Int :=
  if firstI s < 0 then ([], 20)
  else if arg < lowI (formI (firstI s)) (firstI s) ∨ highI (formI (firstI s)) < arg then ([], 21)
  else (opBytes (formI (firstI s)) (firstI s) arg, 0)

/-- Decode: the operand, of bytes that are long enough. -/
def argI (f : Int) (l : List Int) : Int :=
  if f = 2 then l.getD 0 0 % 16 else if f = 3 then l.getD 0 0 % 8 else if f = 4 ∨ f = 5 then l.getD 1 0 else if f = 6 then l.getD 1 0 * 256 + l.getD 2 0 else 0
/-- How many bytes the instruction at the front has; none: it is not whole. -/
def decN (l : List Int) : Option Int :=
  match l with
  | [] => none
  | b :: _ => if (l.length : Int) < lenI (formI b) then none else some (lenI (formI b))
end Go.Proofs.YtpjdkdphklgfjaaDoor

/- Words for memory: rows of values that are read, tables among the package's variables, worlds that keep what was there. -/
namespace Go.Proofs.YtpjdkdphklgfjaaDoor
open Go.RowKit

/-- The cells from 'a' on hold these values. -/
def CellsAt (w : World) (b off : Nat) (vs : List Value) : Prop := ∀ i v, vs[i]? = some v → w.cell? ⟨b, off + i, none⟩ = some v

theorem cell_lt {w : World} {a : Addr} {v : Value} (h : w.cell? a = some v) : a.block < w.heap.size := World.block_lt_of_cell? w a h

theorem cell_below {w w1 : World} (hb : Below w.heap.size w w1) {a : Addr} {v : Value} (h : w.cell? a = some v) : w1.cell? a = some v := (hb.cell (cell_lt h)).trans h

theorem CellsAt.below {w w1 : World} {b off : Nat} {vs : List Value} (h : CellsAt w b off vs) (hb : Below w.heap.size w w1) : CellsAt w1 b off vs :=
  fun i v hv => cell_below hb (h i v hv)

theorem bcell {W w1 : World} (hb : Below W.heap.size W w1) : (∀ b o, b < W.heap.size → w1.cell? ⟨b, o, none⟩ = W.cell? ⟨b, o, none⟩) ∧ (∀ b o, b < W.heap.size → w1.frozen? ⟨b, o, none⟩ = W.frozen? ⟨b, o, none⟩) :=
  ⟨fun b o h => hb.cell (p := ⟨b, o, none⟩) h, fun b o h => hb.frozen (p := ⟨b, o, none⟩) h⟩

theorem below_call {B : Nat} {w W w1 : World} (hW : Below B w W) (hb : Below W.heap.size W w1) (hs : B ≤ W.heap.size) : Below B w w1 := hW.trans (hb.mono hs)
theorem below_new (w : World) (o : Obj) : Below w.heap.size w (w.alloc o) := (Below.refl _ _).alloc (Nat.le_refl _) _

theorem below_set {B k o : Nat} {a w : World} (h : Below B a w) (v : Value) (hk : B ≤ k) : Below B a (w.setCell ⟨k, o, none⟩ v) := h.setCell (p := ⟨k, o, none⟩) hk v
theorem below_alloc {B : Nat} {a w : World} (h : Below B a w) (o : Obj) (hk : B ≤ w.heap.size) : Below B a (w.alloc o) := h.alloc hk o

theorem below_drewN {B : Nat} {a w : World} (h : Below B a w) (n : Nat) : Below B a (w.drewN n) := ⟨h.os, h.tape, h.output, h.size, h.block⟩
theorem size_call {w : World} {o : Obj} {w1 : World} (hb : Below (w.alloc o).heap.size (w.alloc o) w1) : w.heap.size < w1.heap.size := by have := hb.size; simp at this; omega

/-- What the package's tables hold. -/
structure Tabs (w : World) : Prop where
  lens : CellsAt w 0 0 (lensT.map (Value.int .i64))
  rows : CellsAt w 5 0 (rowsT.map Value.string)
  threes : CellsAt w 1 0 (threesT.map Value.string)
  sevens : CellsAt w 2 0 (sevensT.map Value.string)
  twelves : CellsAt w 3 0 (twelvesT.map Value.string)
  fifteens : CellsAt w 4 0 (fifteensT.map Value.string)

theorem Tabs.below {w w1 : World} (h : Tabs w) (hb : Below w.heap.size w w1) : Tabs w1 :=
  ⟨h.lens.below hb, h.rows.below hb, h.threes.below hb, h.sevens.below hb, h.twelves.below hb, h.fifteens.below hb⟩

theorem Tabs.alloc {w : World} (h : Tabs w) (o : Obj) : Tabs (w.alloc o) := h.below ((Below.refl _ _).alloc (Nat.le_refl _) _)
theorem Tabs.drew {w : World} (h : Tabs w) : Tabs w.drew := h.below ((Below.refl _ _).drew)

theorem CellsAt.str {w : World} {b : Nat} {l : List ByteArray} (h : CellsAt w b 0 (l.map Value.string)) (i : Int) (hi : i.toNat < l.length) : w.cell? ⟨b, i.toNat, none⟩ = some (.string (l.getD i.toNat ⟨#[]⟩)) := by
  have := h i.toNat (.string (l.getD i.toNat ⟨#[]⟩)) (by simp [List.getD_eq_getElem?_getD, List.getElem?_eq_getElem hi])
  simpa using this
theorem CellsAt.num {w : World} {b : Nat} {k : IntKind} {l : List Int} (h : CellsAt w b 0 (l.map (Value.int k))) (i : Int) (hi : i.toNat < l.length) : w.cell? ⟨b, i.toNat, none⟩ = some (.int k (l.getD i.toNat 0)) := by
  have := h i.toNat (.int k (l.getD i.toNat 0)) (by simp [List.getD_eq_getElem?_getD, List.getElem?_eq_getElem hi])
  simpa using this

theorem str_yes {a b : ByteArray} (h : a = b) : (a.toList == b.toList) = true := by rw [h]; exact beq_self_eq_true _
theorem str_no {a b : ByteArray} (h : a ≠ b) : (a.toList == b.toList) = false := by
  rw [beq_eq_false_iff_ne]
  intro e
  rw [ByteArray.toList_eq, ByteArray.toList_eq] at e
  exact h (Go.WideShapes.bytes_inj e)

/-- A contract on a world that stays, turned round: for the regions that draw their order. -/
theorem flip {P : Program} {f : FuncId} {args : Array Value} {w : World} {v : Value} (h : Calls P f args w fun e w1 => e = .returned v ∧ w = w1) :
    Calls P f args w fun e w1 => e = .returned v ∧ w1 = w := h.mono fun _ _ ⟨he, hw⟩ => ⟨he, hw.symm⟩
theorem quiet_eq {P : Program} {f : FuncId} {args : Array Value} {w : World} {n : Nat} {v : Value}
    (h : Calls P f args (w.drewN n) fun e w1 => e = .returned v ∧ w.drewN n = w1) : Calls P f args (w.drewN n) fun e w'' => e = .returned v ∧ ∃ m, w'' = w.drewN m :=
  h.mono fun _ _ ⟨he, hm⟩ => ⟨he, n, hm.symm⟩

/-- A slice's bytes: from its address on (none: it has none). -/
def BytesAt (w : World) (A : Option Addr) (xs : List Int) : Prop := xs = [] ∨ ∃ b off, A = some ⟨b, off, none⟩ ∧ CellsAt w b off (xs.map (Value.int .u8))
theorem BytesAt.below {w w1 : World} {A : Option Addr} {xs : List Int} (h : BytesAt w A xs) (hb : Below w.heap.size w w1) : BytesAt w1 A xs := by
  rcases h with h | ⟨b, off, hA, hc⟩
  · exact .inl h
  · exact .inr ⟨b, off, hA, hc.below hb⟩
theorem CellsAt.new (w : World) (c : Array Value) (t : TypeId) (fr : Nat × Nat) : CellsAt (w.alloc (.cells c t fr)) w.heap.size 0 c.toList := by
  intro i v hv
  have : c[i]? = some v := by simpa using hv
  rw [Nat.zero_add, World.cell?_alloc_mark, this]

/-- A call that answers bytes in new memory (or none) and an error. -/
def RetBytes (w : World) (xs : List Int) (err : Int) (e : Ending) (w' : World) : Prop :=
  ∃ A c, e = .returned (.tuple #[.slice A xs.length c, .int .i64 err]) ∧ BytesAt w' A xs ∧ Below w.heap.size w w'
theorem RetBytes.nil {w w' : World} {xs : List Int} {err n : Int} (hx : xs = []) (he : err = n) (hb : Below w.heap.size w w') : RetBytes w xs err (.returned (.tuple #[.slice none 0 0, .int .i64 n])) w' := by
  subst hx he
  exact ⟨none, 0, rfl, .inl rfl, hb⟩
theorem RetBytes.new {w W : World} {xs : List Int} {err n : Int} {k m c : Nat} {vs : Array Value} {t : TypeId} (hv : vs = (xs.map (Value.int .u8)).toArray) (he : err = n) (hm : m = vs.size) (hk : k = W.heap.size) (hb : Below w.heap.size w W) (hs : w.heap.size ≤ W.heap.size) :
    RetBytes w xs err (.returned (.tuple #[.slice (some ⟨k, 0, none⟩) m c, .int .i64 n])) (W.alloc (.cells vs t)) := by
  subst he hm hk hv
  refine ⟨some ⟨W.heap.size, 0, none⟩, c, by simp, .inr ⟨W.heap.size, 0, rfl, ?_⟩, hb.alloc hs _⟩
  simpa using CellsAt.new W (xs.map (Value.int .u8)).toArray t (0, 0)
theorem RetBytes.drewN {w w' : World} {xs : List Int} {err : Int} {e : Ending} (h : RetBytes w xs err e w') (n : Nat) : RetBytes w xs err e (w'.drewN n) := by
  obtain ⟨A, c, he, hy, hb⟩ := h
  refine ⟨A, c, he, ?_, ⟨hb.os, hb.tape, hb.output, hb.size, hb.block⟩⟩
  rcases hy with hy | ⟨b, off, hA, hc⟩
  · exact .inl hy
  · exact .inr ⟨b, off, hA, fun i v hv => hc i v hv⟩
theorem RetBytes.drew {w w' : World} {xs : List Int} {err : Int} {e : Ending} (h : RetBytes w xs err e w') : RetBytes w xs err e w'.drew := by
  obtain ⟨A, c, he, hy, hb⟩ := h
  exact ⟨A, c, he, hy, hb.drew⟩
theorem u16_in (x : Int) (h0 : 0 ≤ x) (h1 : x ≤ 65535) : IntKind.u16.wrap x = x := by simp [IntKind.wrap, IntKind.bits, IntKind.signed]; omega
theorem u8_in (x : Int) (h0 : 0 ≤ x) (h1 : x ≤ 255) : IntKind.u8.wrap x = x := by simp [IntKind.wrap, IntKind.bits, IntKind.signed]; omega
theorem i64_in (x : Int) (h0 : -9223372036854775808 ≤ x) (h1 : x ≤ 9223372036854775807) : IntKind.i64.wrap x = x := by simp [IntKind.wrap, IntKind.bits, IntKind.signed]; omega
theorem u8_wrap (x : Int) : IntKind.u8.wrap x = x % 256 := by simp [IntKind.wrap, IntKind.bits, IntKind.signed]

theorem ret_int {k : IntKind} {a b : Int} (h : a = b) : Ending.returned (.int k a) = .returned (.int k b) := by rw [h]
theorem ret_str {a b : ByteArray} (h : a = b) : Ending.returned (.string a) = .returned (.string b) := by rw [h]
theorem ret_bool {a b : Bool} (h : a = b) : Ending.returned (.bool a) = .returned (.bool b) := by rw [h]

end Go.Proofs.YtpjdkdphklgfjaaDoor
