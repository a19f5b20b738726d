/- A hold in memory; the walks of hold.New, Len, Entries, of the functions that Put and Purge hand to slices. No conditions. -/
import Derived.Test.YtgdcfdjfoeoknaaHold0
import Derived.Test.YtgdcfdjfoeoknaaTyCov
import Derived.Test.YtgdcfdjfoeoknaaTyRightE
import Derived.Test.YtgdcfdjfoeoknaaTyWith
import Derived.Test.YtgdcfdjfoeoknaaTyEq
namespace Go.Proofs.Ytgdcfdjfoeoknaa
open Go.ChangeShapes Go.WideShapes Go.ChangeAt Go.RowKit
set_option linter.unusedVariables false
set_option linter.unusedSimpArgs false

namespace Vec
/-- a hold in memory: block g, its writes at A; of type t -/
structure HAt (t : TypeId) (w : World) (g : Nat) (A : Option Addr) (c : Nat) (rng : Int) (es : List Ent) : Prop where
  B : Mem.Bx w t 2 g [.int .i64 rng, .slice A es.length c]
  O : EOwn w A c es
  ne : ∀ k, Mem.blk A = some k → k ≠ g
/-- its blocks -/
def HB (g : Nat) (A : Option Addr) : Nat → Prop := fun k => k = g ∨ Mem.blk A = some k
theorem HAt.keeps {t : TypeId} {w w' : World} {g : Nat} {A : Option Addr} {c : Nat} {rng : Int} {es : List Ent} {S : Nat → Prop} (h : HAt t w g A c rng es) (hk : Mem.Keeps S w w') (hS : ∀ k, HB g A k → ¬ S k) : HAt t w' g A c rng es :=
  ⟨h.B.keeps hk (hS g (.inl rfl)), h.O.keeps hk (fun k hb => hS k (.inr hb)), h.ne⟩
theorem HAt.below {t : TypeId} {w w' : World} {g : Nat} {A : Option Addr} {c : Nat} {rng : Int} {es : List Ent} (h : HAt t w g A c rng es) (hb : Below w.heap.size w w') : HAt t w' g A c rng es :=
  h.keeps (Mem.Keeps.of_below hb) (fun _ _ h => h)
theorem HAt.lt {t : TypeId} {w : World} {g : Nat} {A : Option Addr} {c : Nat} {rng : Int} {es : List Ent} (h : HAt t w g A c rng es) : ∀ k, HB g A k → k < w.heap.size := fun k hk => by
  rcases hk with rfl | hk
  · exact h.B.lt
  · exact h.O.lt hk
theorem HAt.set {t : TypeId} {w : World} {g : Nat} {A : Option Addr} {c : Nat} {rng : Int} {es es' : List Ent} {A' : Option Addr} {c' : Nat} (hB : Mem.Bx w t 2 g [.int .i64 rng, .slice A es.length c]) (hO : EOwn w A' c' es') (hne : ∀ k, Mem.blk A' = some k → k ≠ g) :
    HAt t (w.setCell ⟨g, 1, none⟩ (.slice A' es'.length c')) g A' c' rng es' :=
  ⟨hB.set 1 _, hO.keeps ((Mem.Keeps.refl (fun k => k = g) w).setCell (p := ⟨g, 1, none⟩) (fun _ => rfl) _) hne, hne⟩
def eqDot (x y : Ent) : Bool := x.dc == y.dc && (x.rng == y.rng && x.seq == y.seq)
end Vec
theorem eql_dot (x y : Vec.Ent) (w : World) : (binOp .eql 29 (.agg #[.int .i64 x.dc, .int .i64 x.rng, .int .i64 x.seq]) (.agg #[.int .i64 y.dc, .int .i64 y.rng, .int .i64 y.seq])).run Try.prog w = .ok (.bool (Vec.eqDot x y)) w := by
  unfold Vec.eqDot
  by_cases h0 : x.dc = y.dc
  · by_cases h1 : x.rng = y.rng
    · by_cases h2 : x.seq = y.seq
      · simp [go_sem, h0, h1, h2]
      · simp [go_sem, h0, h1, h2]
    · simp [go_sem, h0, h1]
  · simp [go_sem, h0]
open Vec in
theorem same_tells (w : World) (gb : Nat) (e : Ent) (hE : EBx w gb e) : Tells 25 #[.pointer (some ⟨gb, 0, none⟩)] (fun x => eqDot x e) (fun _ => False) w := by
  intro W x hk
  have hEW : EBx W gb e := hE.keeps hk id
  have HEW := Lib.hid hEW
  have hgb := hEW.lt
  clear hE hEW
  go_enter Try.func25, Try.ntmps25
  go_upto_region 1 with fail
  obtain ⟨w0, hw0⟩ : ∃ w0, W.alloc (.cells (entCells x).toArray 33) = w0 := ⟨_, rfl⟩
  have hE0 : EBx w0 W.heap.size x := by rw [← hw0]; exact EBx.new W x rfl
  have hb0 : Below W.heap.size W w0 := by rw [← hw0]; exact Reg.below_new _ _
  have hE1 := HEW.out.below hb0 hgb
  have x0 := hE0.cell (j := 0) rfl
  have x1 := hE0.cell (j := 1) rfl
  have x2 := hE0.cell (j := 2) rfl
  have y0 := hE1.cell (j := 0) rfl
  have y1 := hE1.cell (j := 1) rfl
  have y2 := hE1.cell (j := 2) rfl
  have hq := eql_dot x e
  rw [hw0]
  have HB0 := Lib.hid hb0
  clear hw0 hE0 hE1 hb0
  go_wp2
  go_ret
  exact ⟨rfl, HB0.out⟩
open Vec in
theorem has_tells (S : Nat → Prop) (w : World) (gv : Nat) (v : Vc) (hV : VBx w gv v) (hS : ¬ S gv) : Tells 36 #[.pointer (some ⟨gv, 0, none⟩)] (fun x => hasD v ⟨x.dc, x.rng, x.seq⟩) S w := by
  intro W x hk
  have hVW : VBx W gv v := hV.keeps hk hS
  have HVW := Lib.hid hVW
  have hgv := hVW.lt
  clear hV hVW
  go_enter Try.func36, Try.ntmps36
  go_upto_region 1 with fail
  obtain ⟨w0, hw0⟩ : ∃ w0, W.alloc (.cells (entCells x).toArray 33) = w0 := ⟨_, rfl⟩
  have hE0 : EBx w0 W.heap.size x := by rw [← hw0]; exact EBx.new W x rfl
  have hb0 : Below W.heap.size W w0 := by rw [← hw0]; exact Reg.below_new _ _
  have HV0 : Hid (VBx w0 gv v) := HVW.out.below hb0 hgv
  have x0 := hE0.cell (j := 0) rfl
  have x1 := hE0.cell (j := 1) rfl
  have x2 := hE0.cell (j := 2) rfl
  rw [hw0]
  have HB0 := Lib.hid hb0
  clear hw0 hE0 hb0
  go_wp2_with (first | ((with_reducible refine Mem.load_agg _ _ vec_agg gv 0 (vcCells v) ?hya (vcCells_length v) (fun j u hu => by rw [Nat.zero_add]; exact HV0.out.cell hu) ?_); case hya => exact rfl) | (go_at_call 15; refine (hasD_any v ⟨x.dc, x.rng, x.seq⟩ w0).mono ?_; rintro y w' ⟨rfl, hbw⟩))
  go_ret
  exact ⟨rfl, HB0.out.trans (hbw.mono HB0.out.size)⟩
theorem holdNew_any (rng : Int) (w : World) :
    Calls Try.prog 9 #[.int .i64 rng] w fun x w' => x = .returned (.pointer (some ⟨w.heap.size, 0, none⟩)) ∧ Vec.HAt 61 w' w.heap.size none 0 rng [] ∧ Below w.heap.size w w' := by
  go_enter Try.func9, Try.ntmps9
  go_wp2
  go_ret
  exact ⟨rfl, ⟨Mem.Bx.new w _ #[.int .i64 rng, .slice none 0 0] rfl rfl, Mem.Own.nil _ _ _, fun k h => by cases h⟩, Reg.below_new _ _⟩
theorem holdLen_any {w : World} {g : Nat} {A : Option Addr} {c : Nat} {rng : Int} {es : List Vec.Ent} (h : Vec.HAt 61 w g A c rng es) :
    Calls Try.prog 12 #[.pointer (some ⟨g, 0, none⟩)] w fun x w' => x = .returned (.int .i64 (es.length : Nat)) ∧ w = w' := by
  have x1 := h.B.cell (j := 1) rfl
  clear h
  go_enter Try.func12, Try.ntmps12
  go_wp2
  go_ret
  exact ⟨rfl, rfl⟩
theorem holdEntries_any {w : World} {g : Nat} {A : Option Addr} {c : Nat} {rng : Int} {es : List Vec.Ent} (h : Vec.HAt 61 w g A c rng es) (hn : es.length ≤ 300) :
    Calls Try.prog 17 #[.pointer (some ⟨g, 0, none⟩)] w fun x w' => ∃ A' c', x = .returned (.slice A' es.length c') ∧ Vec.EOwn w' A' c' es ∧ Mem.From w.heap.size A' ∧ Below w.heap.size w w' := by
  have x1 := h.B.cell (j := 1) rfl
  have HC := Lib.hid (clone_any A c es w h.O hn)
  clear h
  go_enter Try.func17, Try.ntmps17
  go_wp2_with (go_at_call 30; refine HC.out.mono ?_; rintro x w' ⟨A', c', rfl, h1, h2, h3⟩)
  go_ret
  exact ⟨A', c', rfl, h1, h2, h3⟩
end Go.Proofs.Ytgdcfdjfoeoknaa
