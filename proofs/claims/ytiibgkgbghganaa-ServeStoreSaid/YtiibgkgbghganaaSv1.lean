/- Queries, answers; the walk of serve.within. No conditions. -/
import Derived.Test.YtiibgkgbghganaaSv0
import Derived.Test.YtiibgkgbghganaaRegZ
import Derived.Test.YtiibgkgbghganaaStCov
namespace Go.Proofs.Ytiibgkgbghganaa
open Go.ChangeShapes Go.WideShapes Go.ChangeAt Go.RowKit
set_option linter.unusedVariables false
set_option linter.unusedSimpArgs false

namespace Vec
structure Qy where
  key : ByteArray
  cover : Vc
  snap : Bool
  «at» : Vc
  mark : Col
def qyCells (q : Qy) : List Value := [.string q.key] ++ vcCells q.cover ++ [.bool q.snap] ++ vcCells q.at ++ colCells q.mark
theorem qyCells_length (q : Qy) : (qyCells q).length = 23 := rfl
theorem qy_one (q : Qy) : ∀ y ∈ qyCells q, y.oneCell' = true := by simp [qyCells, Value.oneCell']
structure Ans where
  code : Int
  has : Bool
  ent : Ent
  col : Col
def ansCells (a : Ans) : List Value := [.int .i64 a.code, .bool a.has] ++ entCells a.ent ++ colCells a.col
theorem ansCells_length (a : Ans) : (ansCells a).length = 25 := rfl
theorem ans_one (a : Ans) : ∀ y ∈ ansCells a, y.oneCell' = true := by simp [ansCells, entCells, Value.oneCell']
def ans0 : Ans := ⟨0, false, ent0, col0⟩
/-- is a write within a column? -/
def within (c : Col) (dc rng seq : Int) : Bool := decide (0 ≤ rng ∧ rng < 3 ∧ 0 ≤ dc ∧ dc < 3 ∧ seq ≤ c.at dc.toNat)
abbrev D (dc rng seq : Int) : Value := .agg #[.int .i64 dc, .int .i64 rng, .int .i64 seq]
end Vec
theorem query_agg : Mem.Agg Try.prog 39 23 := Mem.agg_of Try.underlying39 rfl (by kernel_rfl)
theorem answer_agg : Mem.Agg Try.prog 42 25 := Mem.agg_of Try.underlying42 rfl (by kernel_rfl)
set_option maxHeartbeats 2000000 in
theorem within_any (c : Vec.Col) (dc rng seq : Int) (w : World) :
    Calls Try.prog 26 #[Vec.C c, Vec.D dc rng seq] w fun e w' => e = .returned (.bool (Vec.within c dc rng seq)) ∧ Below w.heap.size w w' := by
  have HB : Hid (Below w.heap.size w ((w.alloc (.cells #[.int .i64 c.a, .int .i64 c.b, .int .i64 c.c] 37)).alloc (.cells #[.int .i64 dc, .int .i64 rng, .int .i64 seq] 26))) := (Reg.below_new _ _).alloc (by simp) _
  by_cases h1 : 0 ≤ rng
  · have d1 : decide (0 ≤ rng) = true := by simpa using h1
    by_cases h2 : rng < 3
    · have d2 : decide (rng < 3) = true := by simpa using h2
      by_cases h3 : 0 ≤ dc
      · have d3 : decide (0 ≤ dc) = true := by simpa using h3
        by_cases h4 : dc < 3
        · have d4 : decide (dc < 3) = true := by simpa using h4
          have hdc : dc = 0 ∨ dc = 1 ∨ dc = 2 := by omega
          rcases hdc with rfl | rfl | rfl
          ·
            have hwt : Vec.within c 0 rng seq = decide (seq ≤ c.a) := by unfold Vec.within; exact decide_eq_decide.2 ⟨fun h => h.2.2.2.2, fun h => ⟨h1, h2, h3, h4, h⟩⟩
            go_enter Try.func26, Try.ntmps26
            go_wp2
            go_quiet (fail)
            go_wp2
            go_ret
            exact ⟨by rw [hwt]; rfl, Mem.below_drewN HB.out _⟩
          ·
            have hwt : Vec.within c 1 rng seq = decide (seq ≤ c.b) := by unfold Vec.within; exact decide_eq_decide.2 ⟨fun h => h.2.2.2.2, fun h => ⟨h1, h2, h3, h4, h⟩⟩
            go_enter Try.func26, Try.ntmps26
            go_wp2
            go_quiet (fail)
            go_wp2
            go_ret
            exact ⟨by rw [hwt]; rfl, Mem.below_drewN HB.out _⟩
          ·
            have hwt : Vec.within c 2 rng seq = decide (seq ≤ c.c) := by unfold Vec.within; exact decide_eq_decide.2 ⟨fun h => h.2.2.2.2, fun h => ⟨h1, h2, h3, h4, h⟩⟩
            go_enter Try.func26, Try.ntmps26
            go_wp2
            go_quiet (fail)
            go_wp2
            go_ret
            exact ⟨by rw [hwt]; rfl, Mem.below_drewN HB.out _⟩
        · have d4 : decide (dc < 3) = false := by simpa using h4
          have hwt : Vec.within c dc rng seq = false := by unfold Vec.within; simp; omega
          go_enter Try.func26, Try.ntmps26
          go_wp2
          go_quiet (fail)
          go_wp2
          go_ret
          exact ⟨by rw [hwt]; rfl, Mem.below_drewN HB.out _⟩
      · have d3 : decide (0 ≤ dc) = false := by simpa using h3
        have hwt : Vec.within c dc rng seq = false := by unfold Vec.within; simp; omega
        go_enter Try.func26, Try.ntmps26
        go_wp2
        go_quiet (fail)
        go_wp2
        go_ret
        exact ⟨by rw [hwt]; rfl, Mem.below_drewN HB.out _⟩
    · have d2 : decide (rng < 3) = false := by simpa using h2
      have hwt : Vec.within c dc rng seq = false := by unfold Vec.within; simp; omega
      go_enter Try.func26, Try.ntmps26
      go_wp2
      go_quiet (fail)
      go_wp2
      go_ret
      exact ⟨by rw [hwt]; rfl, Mem.below_drewN HB.out _⟩
  · have d1 : decide (0 ≤ rng) = false := by simpa using h1
    have hwt : Vec.within c dc rng seq = false := by unfold Vec.within; simp; omega
    go_enter Try.func26, Try.ntmps26
    go_wp2
    go_quiet (fail)
    go_wp2
    go_ret
    exact ⟨by rw [hwt]; rfl, Mem.below_drewN HB.out _⟩
namespace Vec
def behindQ (rng : Int) (q : Qy) (col at' : Col) : Bool := !coversC col (part q.cover rng) || (q.snap && !coversC col at')
def goneQ (q : Qy) (at' : Col) : Bool := q.snap && !coversC at' q.mark
def seenE (rng : Int) (q : Qy) (at' : Col) (e : Ent) : Bool := decide (e.rng = rng) && (!q.snap || within at' e.dc e.rng e.seq)
def seenL (rng : Int) (q : Qy) (at' : Col) (es : List Ent) : List Ent := es.filter (seenE rng q at')
def read (rng : Int) (q : Qy) (es : List Ent) : Ans :=
  if behindQ rng q (column rng es) (part q.at rng) then ⟨91, false, ent0, col0⟩
  else if goneQ q (part q.at rng) then ⟨60, false, ent0, col0⟩
  else ⟨0, (greatest q.key (seenL rng q (part q.at rng) es)).2, (greatest q.key (seenL rng q (part q.at rng) es)).1, column rng es⟩
abbrev QBx (w : World) (g : Nat) (q : Qy) : Prop := Mem.Bx w 39 23 g (qyCells q)
abbrev CBx (w : World) (g : Nat) (c : Col) : Prop := Mem.Bx w 37 3 g (colCells c)
abbrev ABx (w : World) (g : Nat) (a : Ans) : Prop := Mem.Bx w 42 25 g (ansCells a)
end Vec
end Go.Proofs.Ytiibgkgbghganaa
