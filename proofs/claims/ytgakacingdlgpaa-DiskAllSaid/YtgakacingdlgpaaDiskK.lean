/- Own work: the disk laws' operations, opened. -/
import Derived.Test.YtgakacingdlgpaaDiskJ
import Derived.Test.YtgakacingdlgpaaOpenT
namespace Go.Proofs.YtgakacingdlgpaaSep
open Go.RowKit Go.Lib Go.Proofs Go.Shelf Go.ChangeShapes Go.WideShapes

structure OpM where
  K : Int
  name : List UInt8
  dst : List UInt8
  bv : Value
  b : List UInt8
  N : Int
  T : Int
def OpM.cells (o : OpM) : List Value := [.int .i64 o.K, .string (str o.name), .string (str o.dst), o.bv, .int .i64 o.N, .int .i64 o.T]
theorem str_ex (s : ByteArray) : ∃ l, s = str l := ⟨s.data.toList, by cases s; rfl⟩
theorem open_ops {H : Type} {enc : TypeId × Value → H} {W : World} {base : Nat} {spare : Nat → Bool} {held : Bool} {v : Value} {d : DataW H} {ps : List MemPlace} {b : Nat}
    (hv : Value.okWide Try.prog W .any b 35 v) (h : DataW.Trod enc Try.prog W base spare held 35 v d ps) :
    ∃ L : List OpM, Sl W v 6 L.length (L.flatMap OpM.cells) ∧ ∀ o ∈ L, Sl W o.bv 1 o.b.length (U o.b) := by
  obtain ⟨L, h1, h2⟩ := open_slice_of (sz := 6) OpM.cells (fun o => Sl W o.bv 1 o.b.length (U o.b)) (by decide) Try.underlying35 (by kernel_rfl) (fun fuel cs x hx => by
    have hl := struct_len Try.underlying37 hx
    obtain ⟨n0, y0, f0⟩ := field_at Try.underlying37 hx (i := 0) rfl
    obtain ⟨n1, y1, f1⟩ := field_at Try.underlying37 hx (i := 1) rfl
    obtain ⟨n2, y2, f2⟩ := field_at Try.underlying37 hx (i := 2) rfl
    obtain ⟨n3, y3, f3⟩ := field_at Try.underlying37 hx (i := 3) rfl
    obtain ⟨n4, y4, f4⟩ := field_at Try.underlying37 hx (i := 4) rfl
    obtain ⟨n5, y5, f5⟩ := field_at Try.underlying37 hx (i := 5) rfl
    rw [show Try.prog.cellsOf 37 = 6 by kernel_rfl] at hl
    match cs, hl with
    | [c0, c1, c2, c3, c4, c5], _ =>
      have q1 : Try.prog.cellsOf 3 = 1 := by kernel_rfl
      have q2 : Try.prog.cellsOf 9 = 1 := by kernel_rfl
      have q3 : Try.prog.cellsOf 28 = 1 := by kernel_rfl
      replace f0 : DataW.trod enc Try.prog W base spare held n0 3 [c0] = some y0 := by simpa [q1] using f0
      replace f1 : DataW.trod enc Try.prog W base spare held n1 9 [c1] = some y1 := by simpa [q2] using f1
      replace f2 : DataW.trod enc Try.prog W base spare held n2 9 [c2] = some y2 := by simpa [q2] using f2
      replace f3 : DataW.trod enc Try.prog W base spare held n3 28 [c3] = some y3 := by simpa [q3] using f3
      replace f4 : DataW.trod enc Try.prog W base spare held n4 3 [c4] = some y4 := by simpa [q1] using f4
      replace f5 : DataW.trod enc Try.prog W base spare held n5 3 [c5] = some y5 := by simpa [q1] using f5
      obtain ⟨k, e0, _⟩ := DataW.trod_int Try.underlying3 f0
      obtain ⟨s1, e1, _⟩ := DataW.trod_string Try.underlying9 f1
      obtain ⟨s2, e2, _⟩ := DataW.trod_string Try.underlying9 f2
      obtain ⟨u, l, e3, hs⟩ := ints_bytes Try.underlying28 Try.underlying5 (by kernel_rfl) f3
      obtain ⟨n, e4, _⟩ := DataW.trod_int Try.underlying3 f4
      obtain ⟨t, e5, _⟩ := DataW.trod_int Try.underlying3 f5
      obtain ⟨l1, rfl⟩ := str_ex s1
      obtain ⟨l2, rfl⟩ := str_ex s2
      injection e0 with e0
      injection e1 with e1
      injection e2 with e2
      injection e3 with e3
      injection e4 with e4
      injection e5 with e5
      subst e0 e1 e2 e3 e4 e5
      exact ⟨⟨k, l1, l2, c3, l, n, t⟩, rfl, rfl, hs⟩) hv h
  exact ⟨L, h1, fun o ho => (h2 o ho).2⟩
end Go.Proofs.YtgakacingdlgpaaSep
