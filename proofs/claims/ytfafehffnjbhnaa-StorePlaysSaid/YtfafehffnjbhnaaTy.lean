/- Columns, vectors, writes: what they are, in memory and as values; vec.chain's walk. No conditions. (Taken together from the texts of the serve seat, for the other seats.) -/
import Derived.Test.YtfafehffnjbhnaaStampC
import Derived.Test.YtfafehffnjbhnaaRegW
import Derived.Test.YtfafehffnjbhnaaOpen2
import Derived.Test.YtfafehffnjbhnaaAgg2
import Derived.Test.YtfafehffnjbhnaaRegZ
import Derived.StillTailTactics
import Derived.Deep.DeepCutAuto
import Derived.Deep.CutBlock
import Derived.Outline
namespace Go.Proofs.Ytfafehffnjbhnaa
open Go.ChangeShapes Go.WideShapes Go.ChangeAt Go.RowKit
set_option linter.unusedVariables false
set_option linter.unusedSimpArgs false

namespace Vec
structure Col where
  a : Int
  b : Int
  c : Int
abbrev colCells (c : Col) : List Value := [.int .i64 c.a, .int .i64 c.b, .int .i64 c.c]
abbrev C (c : Col) : Value := .agg #[.int .i64 c.a, .int .i64 c.b, .int .i64 c.c]
def Col.at (c : Col) (i : Nat) : Int := match i with | 0 => c.a | 1 => c.b | _ => c.c
def col0 : Col := ⟨0, 0, 0⟩
structure Vc where
  a : Col
  b : Col
  c : Col
abbrev vcCells (v : Vc) : List Value := [.int .i64 v.a.a, .int .i64 v.a.b, .int .i64 v.a.c, .int .i64 v.b.a, .int .i64 v.b.b, .int .i64 v.b.c, .int .i64 v.c.a, .int .i64 v.c.b, .int .i64 v.c.c]
abbrev V (v : Vc) : Value := .agg #[.int .i64 v.a.a, .int .i64 v.a.b, .int .i64 v.a.c, .int .i64 v.b.a, .int .i64 v.b.b, .int .i64 v.b.c, .int .i64 v.c.a, .int .i64 v.c.b, .int .i64 v.c.c]
def Vc.row (v : Vc) (i : Nat) : Col := match i with | 0 => v.a | 1 => v.b | _ => v.c
def vc0 : Vc := ⟨col0, col0, col0⟩
def chain (d r : Int) : Bool := decide (0 ≤ d ∧ d < 3 ∧ 0 ≤ r ∧ r < 3)
def part (v : Vc) (rng : Int) : Col := if 0 ≤ rng ∧ rng < 3 then ⟨v.a.at rng.toNat, v.b.at rng.toNat, v.c.at rng.toNat⟩ else col0
def coversC (x y : Col) : Bool := decide (y.a ≤ x.a ∧ y.b ≤ x.b ∧ y.c ≤ x.c)
theorem chain_arms (d r : Int) : ∃ b, Vec.chain d r = b ∧ ((b = true ∧ decide (0 ≤ d) = true ∧ decide (d < 3) = true ∧ decide (0 ≤ r) = true ∧ decide (r < 3) = true) ∨
    (b = false ∧ (decide (0 ≤ d) = false ∨ (decide (0 ≤ d) = true ∧ decide (d < 3) = false) ∨ (decide (0 ≤ d) = true ∧ decide (d < 3) = true ∧ decide (0 ≤ r) = false) ∨ (decide (0 ≤ d) = true ∧ decide (d < 3) = true ∧ decide (0 ≤ r) = true ∧ decide (r < 3) = false)))) := by
  refine ⟨_, rfl, ?_⟩
  unfold chain
  simp only [decide_eq_true_eq, decide_eq_false_iff_not]
  omega
end Vec
theorem chain_any (d r : Int) (w : World) :
    Calls Try.prog 36 #[.int .i64 d, .int .i64 r] w fun e w' => e = .returned (.bool (Vec.chain d r)) ∧ w = w' := by
  obtain ⟨b, hb, h⟩ := Vec.chain_arms d r
  rw [hb]
  clear hb
  rcases h with ⟨rfl, h1, h2, h3, h4⟩ | ⟨rfl, h | ⟨h1, h⟩ | ⟨h1, h2, h⟩ | ⟨h1, h2, h3, h⟩⟩ <;>
  · go_enter Try.func36, Try.ntmps36
    go_wp2
    go_ret
    exact ⟨rfl, rfl⟩
theorem run_max2 (ts : Array TypeId) (t : TypeId) (W : World) (x y : Int) : (Builtin.max_ ts t #[.int .i64 x, .int .i64 y]).run Try.prog W = .ok (.int .i64 (max x y)) W := by
  have h : (Builtin.max_ ts t #[.int .i64 x, .int .i64 y]).run Try.prog W = .ok (.int .i64 (if x < y then y else x)) W := by simp [go_sem]
  rw [h]; congr 2; split <;> omega
namespace Vec
structure Ent where
  dc : Int
  rng : Int
  seq : Int
  st : Stamp.St
  key : ByteArray
  val : ByteArray
  dead : Bool
  deps : Vc
  cl : Int
  op : Int
def entCells (e : Ent) : List Value := [.int .i64 e.dc, .int .i64 e.rng, .int .i64 e.seq, .int .i64 e.st.c, .int .i64 e.st.d, .int .i64 e.st.r, .string e.key, .string e.val, .bool e.dead,
  .int .i64 e.deps.a.a, .int .i64 e.deps.a.b, .int .i64 e.deps.a.c, .int .i64 e.deps.b.a, .int .i64 e.deps.b.b, .int .i64 e.deps.b.c, .int .i64 e.deps.c.a, .int .i64 e.deps.c.b, .int .i64 e.deps.c.c, .int .i64 e.cl, .int .i64 e.op]
def E (e : Ent) : Value := .agg (entCells e).toArray
theorem ent_one (e : Ent) : ∀ y ∈ entCells e, y.oneCell' = true := by simp [entCells, Value.oneCell']
def ent0 : Ent := ⟨0, 0, 0, ⟨0, 0, 0⟩, ByteArray.empty, ByteArray.empty, false, vc0, 0, 0⟩
theorem entCells_length (e : Ent) : (entCells e).length = 20 := rfl
/-- where the k-th write of a slice lies -/
structure EntAt (w : World) (b o : Nat) (e : Ent) : Prop where
  c : ∀ j u, (entCells e)[j]? = some u → w.cell? ⟨b, o + j, none⟩ = some u
theorem ent_elem {w : World} {B : Nat} {A : Option Addr} {l : List Ent} (h : Mem.Rd w B A (l.flatMap entCells)) {k : Nat} (hk : k < l.length) :
    ∃ b o e, A = some ⟨b, o, none⟩ ∧ b < B ∧ l[k]? = some e ∧ EntAt w b (o + k * 20) e := by
  obtain ⟨b, o, e, hb, hc⟩ := Mem.Rd.elem entCells_length h hk (by omega)
  exact ⟨b, o, l[k], e, hb, List.getElem?_eq_getElem hk, ⟨fun j u hu => by rw [Nat.add_assoc]; exact hc j u hu⟩⟩
theorem EntAt.below {w w' : World} {B b o : Nat} {e : Ent} (h : EntAt w b o e) (hb : Below B w w') (hB : b < B) : EntAt w' b o e := ⟨fun j u hu => (hb.cell (p := ⟨b, o + j, none⟩) hB).trans (h.c j u hu)⟩
/-- a box of a write -/
abbrev EBx (w : World) (g : Nat) (e : Ent) : Prop := Mem.Bx w 40 20 g (entCells e)
theorem EBx.new (w : World) (e : Ent) {g : Nat} (hg : w.heap.size = g) : EBx (w.alloc (.cells (entCells e).toArray 40)) g e := Mem.Bx.new w _ _ rfl hg
end Vec
theorem entry_agg : Mem.Agg Try.prog 40 20 := Mem.agg_of Try.underlying40 rfl (by kernel_rfl)
namespace Vec
def Col.set (c : Col) (i : Nat) (x : Int) : Col := match i with | 0 => ⟨x, c.b, c.c⟩ | 1 => ⟨c.a, x, c.c⟩ | _ => ⟨c.a, c.b, x⟩
theorem str_eq {a b : ByteArray} (h : a = b) : (a.toList == b.toList) = true := by subst h; simp
theorem str_ne {a b : ByteArray} (h : a ≠ b) : (a.toList == b.toList) = false := by
  rw [ByteArray.toList_eq, ByteArray.toList_eq]
  simp only [beq_eq_false_iff_ne, ne_eq]
  exact fun e => h (bytes_inj e)
theorem EBx.st {w : World} {g : Nat} {e : Ent} (h : EBx w g e) : w.cell? ⟨g, 3, none⟩ = some (.int .i64 e.st.c) ∧ w.cell? ⟨g, 4, none⟩ = some (.int .i64 e.st.d) ∧ w.cell? ⟨g, 5, none⟩ = some (.int .i64 e.st.r) := ⟨h.cell (j := 3) rfl, h.cell (j := 4) rfl, h.cell (j := 5) rfl⟩
structure Dt where
  dc : Int
  rng : Int
  seq : Int
def dtCells (d : Dt) : List Value := [.int .i64 d.dc, .int .i64 d.rng, .int .i64 d.seq]
theorem dtCells_length (d : Dt) : (dtCells d).length = 3 := rfl
def Vc.get (v : Vc) (d r : Nat) : Int := (v.row d).at r
def Vc.put (v : Vc) (d r : Nat) (x : Int) : Vc := match d with | 0 => ⟨v.a.set r x, v.b, v.c⟩ | 1 => ⟨v.a, v.b.set r x, v.c⟩ | _ => ⟨v.a, v.b, v.c.set r x⟩
def withD (v : Vc) (d : Dt) : Vc := if chain d.dc d.rng = true then v.put d.dc.toNat d.rng.toNat (max (v.get d.dc.toNat d.rng.toNat) d.seq) else v
def withL (v : Vc) (ds : List Dt) : Vc := ds.foldl withD v
theorem withL_snoc (v : Vc) (ds : List Dt) (d : Dt) : withL v (ds ++ [d]) = withD (withL v ds) d := by unfold withL; rw [List.foldl_append]; rfl
theorem vc_cell (v : Vc) {d r : Nat} (hd : d < 3) (hr : r < 3) : (vcCells v)[d * 3 + r]? = some (.int .i64 (v.get d r)) := by
  have h1 : d = 0 ∨ d = 1 ∨ d = 2 := by omega
  have h2 : r = 0 ∨ r = 1 ∨ r = 2 := by omega
  rcases h1 with rfl | rfl | rfl <;> rcases h2 with rfl | rfl | rfl <;> rfl
theorem vc_set (v : Vc) {d r : Nat} (hd : d < 3) (hr : r < 3) (x : Int) : (vcCells v).set (d * 3 + r) (.int .i64 x) = vcCells (v.put d r x) := by
  have h1 : d = 0 ∨ d = 1 ∨ d = 2 := by omega
  have h2 : r = 0 ∨ r = 1 ∨ r = 2 := by omega
  rcases h1 with rfl | rfl | rfl <;> rcases h2 with rfl | rfl | rfl <;> rfl
abbrev VBx (w : World) (g : Nat) (v : Vc) : Prop := Mem.Bx w 38 9 g (vcCells v)
theorem vc_one (v : Vc) : ∀ y ∈ vcCells v, y.oneCell' = true := by simp [Value.oneCell']
theorem vcCells_length (v : Vc) : (vcCells v).length = 9 := rfl
end Vec
theorem vec_agg : Mem.Agg Try.prog 38 9 := Mem.agg_of Try.underlying38 rfl (by kernel_rfl)
namespace Mem
theorem flat_take {α : Type} {f : α → List Value} {sz : Nat} (hf : ∀ a, (f a).length = sz) : ∀ (l : List α) (k : Nat), (l.flatMap f).take (k * sz) = (l.take k).flatMap f
  | [], k => by simp
  | a :: l, 0 => by simp
  | a :: l, k + 1 => by
    simp only [List.flatMap_cons, List.take_succ_cons]
    rw [List.take_append, hf, List.take_of_length_le (by rw [hf, Nat.add_mul]; omega), show (k + 1) * sz - sz = k * sz by rw [Nat.add_mul]; omega, flat_take hf l k]
end Mem
namespace Vec
theorem chain_nat {d r : Int} (h : chain d r = true) : d.toNat < 3 ∧ (d.toNat : Int) = d ∧ 0 ≤ r ∧ r < 3 := by
  unfold chain at h
  simp at h
  omega
theorem ents_one (es : List Ent) : ∀ u ∈ es.flatMap entCells, u.oneCell' = true := fun u hu => by
  obtain ⟨e, _, he⟩ := List.mem_flatMap.1 hu
  exact ent_one e u he
theorem ents_len (es : List Ent) : (es.flatMap entCells).length = es.length * 20 := Mem.flat_length entCells_length es
end Vec
theorem entries_elem : Mem.Elem Try.prog 22 40 20 176 := Mem.elem_of Try.underlying22 (z := .agg (Vec.entCells Vec.ent0).toArray) (by kernel_rfl) rfl (by omega)
theorem entry_zero : (Try.prog.info? 40).map (fun i => (i.zero, i.size)) = some (some (.agg (Vec.entCells Vec.ent0).toArray), 20) := by kernel_rfl
end Go.Proofs.Ytfafehffnjbhnaa
