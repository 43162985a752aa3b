/- The arguments of the laws of layer 24, read into Lean's own values; the row of a law out of its walk. Conditions: none. -/
import Derived.Test.YtnjalbgcmgmmeaaRows
import Derived.Test.YtnjalbgcmgmmeaaLaw
import Derived.WalkKit
import Derived.ProofKit
import Derived.OpenShut
import Derived.ShutString
import Derived.ChangeOld
import Derived.Below
import Derived.SizedLaws
namespace Go.Proofs.Ytnjalbgcmgmmeaa
open Go.RowKit Sl

/-- A call of the script. -/
structure OpM where
  kind : Int
  who : Int
  name : ByteArray
  more : Int
  e : Ev
  typ : Int
def i64ok (n : Int) : Prop := -9223372036854775808 ≤ n ∧ n ≤ 9223372036854775807
def u64ok (n : Int) : Prop := 0 ≤ n ∧ n ≤ 18446744073709551615
structure OpM.ok (o : OpM) : Prop where
  kind : i64ok o.kind
  who : i64ok o.who
  typ : i64ok o.typ
  more : u64ok o.more
  num : u64ok o.e.num
  etyp : i64ok o.e.typ
  ever : i64ok o.e.ver
  bytes : bytesV o.e.data
  dlen : o.e.data.length ≤ 140737488351232
  nlen : o.name.size ≤ 140737488351232
def opCells (o : OpM) (dv : Value) : List Value := [.int .i64 o.kind, .int .i64 o.who, .string o.name, .int .u64 o.more, .int .u64 o.e.num, .int .i64 o.e.typ, .int .i64 o.e.ver, dv, .int .i64 o.typ]
def opK (o : OpM) (cs : List Value) : HP where
  p h := ∃ dv, cs = opCells o dv ∧ (rd 1 dv o.e.data.length (bc o.e.data)).p h ∧ o.ok
  up := fun _ _ l ⟨dv, a, b, c⟩ => ⟨dv, a, (rd 1 dv _ _).up _ _ l b, c⟩

theorem cells3 : Try.prog.cellsOf 3 = 1 := by kernel_rfl
theorem cells9 : Try.prog.cellsOf 9 = 1 := by kernel_rfl
theorem cells31 : Try.prog.cellsOf 31 = 1 := by kernel_rfl
theorem cells32 : Try.prog.cellsOf 32 = 1 := by kernel_rfl
theorem cells34 : Try.prog.cellsOf 34 = 4 := by kernel_rfl
theorem cells36 : Try.prog.cellsOf 36 = 9 := by kernel_rfl
theorem cells5 : Try.prog.cellsOf 5 = 1 := by kernel_rfl
section
variable {H : Type} {enc : TypeId × Value → H} {w : World} {spare : Nat → Bool} {held : Bool}
theorem open_data (fuel : Nat) (cs : List Value) (x : DataW H × List MemPlace) (h : DataW.trod enc Try.prog w 0 spare held fuel 32 cs = some x) (hl : light Try.prog 32 x.1) :
    ∃ (dv : Value) (xs : List Int), cs = [dv] ∧ (rd 1 dv xs.length (bc xs)).p (fr w) ∧ bytesV xs ∧ xs.length ≤ 140737488351232 := by
  obtain ⟨v, xs, e, hr, hb⟩ := open_rdK (K := byteK) (B := 1) Try.underlying32 cells5 (by kernel_rfl) (fun f c y hy hyl => open_byte Try.underlying5 f c y hy hyl) h hl
  obtain ⟨h1, h2⟩ := rd_of_bytes hr
  exact ⟨v, xs, e, h1, h2, by omega⟩
theorem i64_of {n : Int} (h : (Lit.int .i64 n).wf = true) : i64ok n := bounds_i64 h
theorem u64_of {n : Int} (h : (Lit.int .u64 n).wf = true) : u64ok n := bounds_u64 h
theorem open_ev (fuel : Nat) (cs : List Value) (x : DataW H × List MemPlace) (h : DataW.trod enc Try.prog w 0 spare held fuel 34 cs = some x) (hl : light Try.prog 34 x.1) :
    ∃ (e : Ev) (dv : Value), cs = evCells e dv ∧ (rd 1 dv e.data.length (bc e.data)).p (fr w) ∧ u64ok e.num ∧ i64ok e.typ ∧ i64ok e.ver ∧ bytesV e.data ∧ e.data.length ≤ 140737488351232 := by
  obtain ⟨xs, n, rfl, rfl, hcl, hxl, hf⟩ := DataW.trod_struct Try.underlying34 h
  rw [cells34] at hcl
  match cs, hcl with
  | [c0, c1, c2, c3], _ =>
    match xs, hxl with
    | [x0, x1, x2, x3], _ =>
      have f0 := hf 0 _ rfl
      have f1 := hf 1 _ rfl
      have f2 := hf 2 _ rfl
      have f3 := hf 3 _ rfl
      simp [cells31] at f0
      simp [cells3] at f1 f2
      simp [cells32] at f3
      obtain ⟨n0, e0, _, w0⟩ := DataW.trod_int Try.underlying31 f0
      obtain ⟨n1, e1, _, w1⟩ := DataW.trod_int Try.underlying3 f1
      obtain ⟨n2, e2, _, w2⟩ := DataW.trod_int Try.underlying3 f2
      have l3 : light Try.prog 32 x3.1 := light_struct Try.underlying34 hl (i := 3) rfl (by rfl)
      obtain ⟨dv, ys, e3, hr, hb, hy⟩ := open_data _ _ _ f3 l3
      simp at e0 e1 e2 e3
      subst e0; subst e1; subst e2; subst e3
      exact ⟨⟨n0, n1, n2, ys⟩, _, rfl, hr, u64_of w0, i64_of w1, i64_of w2, hb, hy⟩
theorem open_op (fuel : Nat) (cs : List Value) (x : DataW H × List MemPlace) (h : DataW.trod enc Try.prog w 0 spare held fuel 36 cs = some x) (hl : light Try.prog 36 x.1) :
    ∃ o : OpM, (opK o cs).p (fr w) := by
  obtain ⟨xs, n, rfl, rfl, hcl, hxl, hf⟩ := DataW.trod_struct Try.underlying36 h
  rw [cells36] at hcl
  match cs, hcl with
  | [c0, c1, c2, c3, c4, c5, c6, c7, c8], _ =>
    match xs, hxl with
    | [x0, x1, x2, x3, x4, x5], _ =>
      have f0 := hf 0 _ rfl
      have f1 := hf 1 _ rfl
      have f2 := hf 2 _ rfl
      have f3 := hf 3 _ rfl
      have f4 := hf 4 _ rfl
      have f5 := hf 5 _ rfl
      simp [cells3] at f0 f1 f5
      simp [cells9] at f2
      simp [cells31] at f3
      simp [cells34] at f4
      obtain ⟨n0, e0, _, w0⟩ := DataW.trod_int Try.underlying3 f0
      obtain ⟨n1, e1, _, w1⟩ := DataW.trod_int Try.underlying3 f1
      obtain ⟨s2, e2, y2, w2⟩ := DataW.trod_string Try.underlying9 f2
      obtain ⟨n3, e3, _, w3⟩ := DataW.trod_int Try.underlying31 f3
      obtain ⟨n5, e5, _, w5⟩ := DataW.trod_int Try.underlying3 f5
      have l2 : light Try.prog 9 x2.1 := light_struct Try.underlying36 hl (i := 2) rfl (by rfl)
      have l4 : light Try.prog 34 x4.1 := light_struct Try.underlying36 hl (i := 4) rfl (by rfl)
      obtain ⟨ev, dv, e4, hr, b0, b1, b2, b3, b4⟩ := open_ev _ _ _ f4 l4
      have hs : s2.size ≤ 140737488351232 := by
        have := l2 s2.data.toList.length (by rw [y2]; simp [DataW.weights])
        simpa using this
      simp at e0 e1 e2 e3 e5
      simp [evCells] at e4
      obtain ⟨rfl, rfl, rfl, rfl⟩ := e4
      subst e0; subst e1; subst e2; subst e3; subst e5
      exact ⟨⟨n0, n1, s2, n3, ev, n5⟩, _, rfl, hr, i64_of w0, i64_of w1, i64_of w5, u64_of w3, b0, b1, b2, b3, b4, hs⟩
theorem open_script (fuel : Nat) (cs : List Value) (x : DataW H × List MemPlace) (h : DataW.trod enc Try.prog w 0 spare held fuel 22 cs = some x) (hl : light Try.prog 22 x.1) :
    ∃ (v : Value) (ops : List OpM), cs = [v] ∧ (rdK opK 9 v ops).p (fr w) ∧ ops.length * 96 ≤ 140737488351232 :=
  open_rdK Try.underlying22 cells36 (by kernel_rfl) (fun f c y hy hyl => open_op f c y hy hyl) h hl
end
end Go.Proofs.Ytnjalbgcmgmmeaa
