/- An end of a link in memory, and the walks of its small methods. No conditions. -/
import Derived.Test.YtjkonfanmpcipaaKeep
import Derived.Test.YtjkonfanmpcipaaRegF
import Derived.Test.YtjkonfanmpcipaaOpen
import Derived.Deep.QuietTactic
import Derived.BigQuiet
namespace Go.Proofs.Ytjkonfanmpcipaa
open Go.RowKit
set_option linter.unusedVariables false

namespace Link
/-- an end: its life, how many it sent, how many it got, what is open -/
structure E where
  life : Int
  sent : Int
  got : Int
  opn : List ByteArray
abbrev strV (s : ByteArray) : Value := .string s
def eCells (life sent got : Int) (A : Option Addr) (n c : Nat) : List Value := [.int .i64 life, .int .i64 sent, .int .i64 got, .slice A n c]
/-- an end's own cells -/
def Cell (w : World) (g : Nat) (life sent got : Int) (A : Option Addr) (n c : Nat) : Prop := Mem.Own w 59 4 (some ⟨g, 0, none⟩) 1 1 (eCells life sent got A n c)
section
variable {w w' : World} {g : Nat} {life sent got : Int} {A : Option Addr} {n c : Nat}
theorem Cell.c0 (h : Cell w g life sent got A n c) : w.cell? ⟨g, 0, none⟩ = some (.int .i64 life) := Mem.Own.cell (j := 0) h rfl
theorem Cell.c1 (h : Cell w g life sent got A n c) : w.cell? ⟨g, 1, none⟩ = some (.int .i64 sent) := Mem.Own.cell (j := 1) h rfl
theorem Cell.c2 (h : Cell w g life sent got A n c) : w.cell? ⟨g, 2, none⟩ = some (.int .i64 got) := Mem.Own.cell (j := 2) h rfl
theorem Cell.c3 (h : Cell w g life sent got A n c) : w.cell? ⟨g, 3, none⟩ = some (.slice A n c) := Mem.Own.cell (j := 3) h rfl
theorem Cell.fr (h : Cell w g life sent got A n c) (i : Nat) : w.frozen? ⟨g, i, none⟩ = false := Mem.Own.free h i
theorem Cell.lt (h : Cell w g life sent got A n c) : g < w.heap.size := Mem.Own.lt h rfl
theorem Cell.s0 (h : Cell w g life sent got A n c) (x : Int) : Cell (w.setCell ⟨g, 0, none⟩ (.int .i64 x)) g x sent got A n c := Mem.Own.set h 0 _
theorem Cell.s1 (h : Cell w g life sent got A n c) (x : Int) : Cell (w.setCell ⟨g, 1, none⟩ (.int .i64 x)) g life x got A n c := Mem.Own.set h 1 _
theorem Cell.s2 (h : Cell w g life sent got A n c) (x : Int) : Cell (w.setCell ⟨g, 2, none⟩ (.int .i64 x)) g life sent x A n c := Mem.Own.set h 2 _
theorem Cell.s3 (h : Cell w g life sent got A n c) (A' : Option Addr) (n' c' : Nat) : Cell (w.setCell ⟨g, 3, none⟩ (.slice A' n' c')) g life sent got A' n' c' := Mem.Own.set h 3 _
end
/-- an end in memory -/
structure At (w : World) (g : Nat) (A : Option Addr) (c : Nat) (e : E) : Prop where
  box : Cell w g e.life e.sent e.got A e.opn.length c
  opn : Mem.Own w 9 1 A e.opn.length c (e.opn.map strV)
  ne : Mem.blk A ≠ some g
theorem At.keeps {S : Nat → Prop} {w w' : World} {g : Nat} {A : Option Addr} {c : Nat} {e : E} (h : At w g A c e) (hk : Mem.Keeps S w w') (h1 : ¬ S g) (h2 : ∀ k, Mem.blk A = some k → ¬ S k) : At w' g A c e :=
  ⟨Mem.Own.keeps h.box hk (fun k hk => by cases hk; exact h1), h.opn.keeps hk h2, h.ne⟩
end Link

theorem new_any (life : Int) (w : World) (s : Nat) (hs : w.heap.size = s) :
    Calls Try.prog 10 #[.int .i64 life] w fun e w' => e = .returned (.pointer (some ⟨s, 0, none⟩)) ∧ Link.At w' s none 0 ⟨life, 0, 0, []⟩ ∧ Below s w w' ∧ w'.heap.size = s + 1 := by
  subst hs
  go_enter Try.func10, Try.ntmps10
  go_wp2
  go_ret
  exact ⟨rfl, ⟨Mem.Own.lit w _ 4 #[.int .i64 life, .int .i64 0, .int .i64 0, .slice none 0 0] 1 rfl rfl (by simp [maxLen]), Mem.Own.nil _ _ _, by simp [Mem.blk]⟩, Reg.below_new _ _, by simp⟩
theorem life_any {w : World} {g : Nat} {life sent got : Int} {A : Option Addr} {n c : Nat} (h : Link.Cell w g life sent got A n c) :
    Calls Try.prog 19 #[.pointer (some ⟨g, 0, none⟩)] w fun e w' => e = .returned (.int .i64 life) ∧ w = w' := by
  have c0 := h.c0
  clear h
  go_enter Try.func19, Try.ntmps19
  go_wp2
  go_ret
  exact ⟨rfl, rfl⟩
theorem sent_any {w : World} {g : Nat} {life sent got : Int} {A : Option Addr} {n c : Nat} (h : Link.Cell w g life sent got A n c) :
    Calls Try.prog 18 #[.pointer (some ⟨g, 0, none⟩)] w fun e w' => e = .returned (.int .i64 sent) ∧ w = w' := by
  have c0 := h.c1
  clear h
  go_enter Try.func18, Try.ntmps18
  go_wp2
  go_ret
  exact ⟨rfl, rfl⟩
theorem got_any {w : World} {g : Nat} {life sent got : Int} {A : Option Addr} {n c : Nat} (h : Link.Cell w g life sent got A n c) :
    Calls Try.prog 17 #[.pointer (some ⟨g, 0, none⟩)] w fun e w' => e = .returned (.int .i64 got) ∧ w = w' := by
  have c0 := h.c2
  clear h
  go_enter Try.func17, Try.ntmps17
  go_wp2
  go_ret
  exact ⟨rfl, rfl⟩
theorem open_any {w : World} {g : Nat} {life sent got : Int} {A : Option Addr} {n c : Nat} (h : Link.Cell w g life sent got A n c) :
    Calls Try.prog 15 #[.pointer (some ⟨g, 0, none⟩)] w fun e w' => e = .returned (.int .i64 n) ∧ w = w' := by
  have c0 := h.c3
  clear h
  go_enter Try.func15, Try.ntmps15
  go_wp2
  go_ret
  exact ⟨rfl, rfl⟩
namespace Link
def renew (e : E) (life : Int) : E := if e.life < life then ⟨life, 0, 0, []⟩ else e
theorem renew_yes {e : E} {life : Int} (h : e.life < life) : renew e life = ⟨life, 0, 0, []⟩ := if_pos h
theorem renew_no {e : E} {life : Int} (h : ¬ e.life < life) : renew e life = e := if_neg h
/-- where an end's open pieces lie behind a step: where they lay, or nowhere, or in a new block -/
def Moved (w : World) (A A' : Option Addr) : Prop := Mem.blk A' = Mem.blk A ∨ Mem.blk A' = none ∨ Mem.From w.heap.size A'
end Link
/-- renewed? -/
theorem renew_any {w : World} {g : Nat} {e : Link.E} {A : Option Addr} {c : Nat} (h : Link.At w g A c e) (life : Int) :
    Calls Try.prog 20 #[.pointer (some ⟨g, 0, none⟩), .int .i64 life] w fun x w' => ∃ A' c', x = .returned (.bool (decide (e.life < life))) ∧ Link.At w' g A' c' (Link.renew e life) ∧ Mem.Keeps (fun k => k = g) w w' ∧ (A' = A ∨ A' = none) := by
  have c0 := h.box.c0
  have c1 := h.box.c1
  have c2 := h.box.c2
  have c3 := h.box.c3
  have fr := h.box.fr
  have HB := Lib.hid h
  clear h
  by_cases hl : e.life < life
  · have hld : decide (life ≤ e.life) = false := by simp; omega
    have hr := Lib.hid (Link.renew_yes hl)
    have hd := Lib.hid (show decide (e.life < life) = true from decide_eq_true hl)
    clear hl
    go_enter Try.func20, Try.ntmps20
    go_wp2
    go_ret
    refine ⟨none, 0, by rw [hd.out]; rfl, ?_, ?_, .inr rfl⟩
    · rw [hr.out]
      exact ⟨(((HB.out.box.s0 life).s1 0).s2 0).s3 none 0 0, Mem.Own.nil _ _ _, by simp [Mem.blk]⟩
    · have k0 := Mem.Keeps.refl (fun k => k = g) w
      have k1 := k0.setCell (p := ⟨g, 0, none⟩) (fun _ => rfl) (.int .i64 life)
      have k2 := k1.setCell (p := ⟨g, 1, none⟩) (fun _ => rfl) (.int .i64 0)
      have k3 := k2.setCell (p := ⟨g, 2, none⟩) (fun _ => rfl) (.int .i64 0)
      exact k3.setCell (p := ⟨g, 3, none⟩) (fun _ => rfl) (.slice none 0 0)
  · have hld : decide (life ≤ e.life) = true := by simp; omega
    have hr := Lib.hid (Link.renew_no hl)
    have hd := Lib.hid (show decide (e.life < life) = false from decide_eq_false hl)
    clear hl
    go_enter Try.func20, Try.ntmps20
    go_wp2
    go_ret
    exact ⟨A, c, by rw [hd.out]; rfl, by rw [hr.out]; exact HB.out, Mem.Keeps.refl _ _, .inl rfl⟩
end Go.Proofs.Ytjkonfanmpcipaa
