/- Results, events, sessions, findings: what they are, in memory and as values. No conditions. -/
import Derived.Test.YtelephoalpphkaaTyEq
import Derived.Test.YtelephoalpphkaaOwnX
import Derived.Test.YtelephoalpphkaaQuiet
set_option maxRecDepth 8000
namespace Go.Proofs.Ytelephoalpphkaa
open Go.ChangeShapes Go.WideShapes Go.ChangeAt Go.RowKit
set_option linter.unusedVariables false
set_option linter.unusedSimpArgs false
namespace Au
open Vec (Ent Vc entCells vcCells ent0 vc0)
structure Rs where
  key : ByteArray
  has : Bool
  e : Ent
def rsCells (r : Rs) : List Value := [.string r.key, .bool r.has] ++ entCells r.e
def rs0 : Rs := ⟨ByteArray.empty, false, ent0⟩
theorem rsCells_length (r : Rs) : (rsCells r).length = 22 := rfl
theorem rs_one (r : Rs) : ∀ y ∈ rsCells r, y.oneCell' = true := by simp [rsCells, entCells, Value.oneCell']
def sv (s : ByteArray) : Value := .string s
structure Ev where
  cl : Int
  op : Int
  kind : Int
  kA : Option Addr
  kc : Nat
  keys : List ByteArray
  val : ByteArray
  adc : Int
  dc : Int
  fresh : Bool
  fin : Bool
  code : Int
  rA : Option Addr
  rc : Nat
  res : List Rs
  cut : Vc
def askCells (e : Ev) : List Value := [.int .i64 e.kind, .slice e.kA e.keys.length e.kc, .string e.val, .int .i64 e.adc]
def evCells (e : Ev) : List Value := [.int .i64 e.cl, .int .i64 e.op, .int .i64 e.kind, .slice e.kA e.keys.length e.kc, .string e.val, .int .i64 e.adc, .int .i64 e.dc, .bool e.fresh, .bool e.fin, .int .i64 e.code, .slice e.rA e.res.length e.rc,
  .int .i64 e.cut.a.a, .int .i64 e.cut.a.b, .int .i64 e.cut.a.c, .int .i64 e.cut.b.a, .int .i64 e.cut.b.b, .int .i64 e.cut.b.c, .int .i64 e.cut.c.a, .int .i64 e.cut.c.b, .int .i64 e.cut.c.c]
def ev0 : Ev := ⟨0, 0, 0, none, 0, [], ByteArray.empty, 0, 0, false, false, 0, none, 0, [], vc0⟩
theorem evCells_length (e : Ev) : (evCells e).length = 20 := rfl
theorem askCells_length (e : Ev) : (askCells e).length = 4 := rfl
theorem ev_one (e : Ev) : ∀ y ∈ evCells e, y.oneCell' = true := by simp [evCells, Value.oneCell']
theorem ask_one (e : Ev) : ∀ y ∈ askCells e, y.oneCell' = true := by simp [askCells, Value.oneCell']
/-- an event's lists lie below B -/
structure EvOk (w : World) (B : Nat) (e : Ev) : Prop where
  k : Mem.Rd w B e.kA (e.keys.map sv)
  r : Mem.Rd w B e.rA (e.res.flatMap rsCells)
  kl : e.keys.length ≤ e.kc
  rl : e.res.length ≤ e.rc
  kn : e.kc ≤ 9223372036854775807
  rn : e.rc ≤ 9223372036854775807
theorem EvOk.below {w w' : World} {B B' : Nat} {e : Ev} (h : EvOk w B e) (hb : Below B w w') (hB : B ≤ B') : EvOk w' B' e :=
  ⟨(h.k.below hb).more hB, (h.r.below hb).more hB, h.kl, h.rl, h.kn, h.rn⟩
theorem ev0_ok (w : World) (B : Nat) : EvOk w B ev0 := ⟨.inl rfl, .inl rfl, Nat.le_refl _, Nat.le_refl _, by decide, by decide⟩
structure Ss where
  under : Bool
  begun : Ev
  op : Int
  some : Bool
  cut : Vc
def ssCells (s : Ss) : List Value := [.bool s.under] ++ evCells s.begun ++ [.int .i64 s.op, .bool s.some] ++ vcCells s.cut
def ss0 : Ss := ⟨false, ev0, 0, false, vc0⟩
theorem ssCells_length (s : Ss) : (ssCells s).length = 32 := rfl
theorem ss_one (s : Ss) : ∀ y ∈ ssCells s, y.oneCell' = true := by simp [ssCells, evCells, Value.oneCell']
structure Fi where
  ev : Int
  rule : Int
def fiCells (f : Fi) : List Value := [.int .i64 f.ev, .int .i64 f.rule]
theorem fiCells_length (f : Fi) : (fiCells f).length = 2 := rfl
theorem fi_one (f : Fi) : ∀ y ∈ fiCells f, y.oneCell' = true := by simp [fiCells, Value.oneCell']
/-- where an event lies -/
structure EvAt (w : World) (b o : Nat) (e : Ev) : Prop where
  c : ∀ j u, (evCells e)[j]? = some u → w.cell? ⟨b, o + j, none⟩ = some u
theorem ev_elem {w : World} {B : Nat} {A : Option Addr} {l : List Ev} (h : Mem.Rd w B A (l.flatMap evCells)) {k : Nat} (hk : k < l.length) :
    ∃ b o e, A = some ⟨b, o, none⟩ ∧ b < B ∧ l[k]? = some e ∧ EvAt w b (o + k * 20) e := by
  obtain ⟨b, o, e, hb, hc⟩ := Mem.Rd.elem evCells_length h hk (by omega)
  exact ⟨b, o, l[k], e, hb, List.getElem?_eq_getElem hk, ⟨fun j u hu => by rw [Nat.add_assoc]; exact hc j u hu⟩⟩
theorem EvAt.below {w w' : World} {B b o : Nat} {e : Ev} (h : EvAt w b o e) (hb : Below B w w') (hB : b < B) : EvAt w' b o e := ⟨fun j u hu => (hb.cell (p := ⟨b, o + j, none⟩) hB).trans (h.c j u hu)⟩
abbrev VBx (w : World) (g : Nat) (e : Ev) : Prop := Mem.Bx w 46 20 g (evCells e)
abbrev RBx (w : World) (g : Nat) (r : Rs) : Prop := Mem.Bx w 48 22 g (rsCells r)
abbrev SBx (w : World) (g : Nat) (s : Ss) : Prop := Mem.Bx w 81 32 g (ssCells s)
theorem VBx.at {w : World} {g : Nat} {e : Ev} (h : VBx w g e) : ∀ j u, (evCells e)[j]? = some u → w.cell? ⟨g, 0 + j, none⟩ = some u := fun j u hu => by rw [Nat.zero_add]; exact h.cell hu
theorem SBx.begun {w : World} {g : Nat} {s : Ss} (h : SBx w g s) : ∀ j u, (evCells s.begun)[j]? = some u → w.cell? ⟨g, 1 + j, none⟩ = some u := h.part 1 rfl
theorem SBx.cut {w : World} {g : Nat} {s : Ss} (h : SBx w g s) : ∀ j u, (vcCells s.cut)[j]? = some u → w.cell? ⟨g, 23 + j, none⟩ = some u := h.part 23 rfl
theorem VBx.cut {w : World} {g : Nat} {e : Ev} (h : VBx w g e) : ∀ j u, (vcCells e.cut)[j]? = some u → w.cell? ⟨g, 11 + j, none⟩ = some u := h.part 11 rfl
theorem VBx.ask {w : World} {g : Nat} {e : Ev} (h : VBx w g e) : ∀ j u, (askCells e)[j]? = some u → w.cell? ⟨g, 2 + j, none⟩ = some u := h.part 2 rfl
theorem SBx.ask {w : World} {g : Nat} {s : Ss} (h : SBx w g s) : ∀ j u, (askCells s.begun)[j]? = some u → w.cell? ⟨g, 3 + j, none⟩ = some u := h.part 3 rfl
theorem RBx.ent {w : World} {g : Nat} {r : Rs} (h : RBx w g r) : ∀ j u, (entCells r.e)[j]? = some u → w.cell? ⟨g, 2 + j, none⟩ = some u := h.part 2 rfl
end Au
theorem ask_agg : Mem.Agg Try.prog 42 4 := Mem.agg_of Try.underlying42 rfl (by kernel_rfl)
theorem event_agg : Mem.Agg Try.prog 46 20 := Mem.agg_of Try.underlying46 rfl (by kernel_rfl)
theorem result_agg : Mem.Agg Try.prog 48 22 := Mem.agg_of Try.underlying48 rfl (by kernel_rfl)
theorem session_agg : Mem.Agg Try.prog 81 32 := Mem.agg_of Try.underlying81 rfl (by kernel_rfl)
theorem finding_agg : Mem.Agg Try.prog 50 2 := Mem.agg_of Try.underlying50 rfl (by kernel_rfl)
theorem results_elem : Mem.Elem Try.prog 44 48 22 200 := Mem.elem_of Try.underlying44 (z := .agg (Au.rsCells Au.rs0).toArray) (by kernel_rfl) rfl (by omega)
theorem events_elem : Mem.Elem Try.prog 22 46 20 192 := Mem.elem_of Try.underlying22 (z := .agg (Au.evCells Au.ev0).toArray) (by kernel_rfl) rfl (by omega)
theorem findings_elem : Mem.Elem Try.prog 36 50 2 16 := Mem.elem_of Try.underlying36 (z := .agg (Au.fiCells ⟨0, 0⟩).toArray) (by kernel_rfl) rfl (by omega)
theorem ints_elem : Mem.Elem Try.prog 67 3 1 8 := Mem.elem_of Try.underlying67 (z := .int .i64 0) (by kernel_rfl) rfl (by omega)
theorem strs_elem : Mem.Elem Try.prog 40 9 1 16 := Mem.elem_of Try.underlying40 (z := .string ByteArray.empty) (by kernel_rfl) rfl (by omega)
end Go.Proofs.Ytelephoalpphkaa
