/- The walk of CrcSums: the checksum of any parts, however they are parted; the parts stay. No conditions. -/
import Derived.Test.YtejojfjbecpofaaCrcX
import Derived.Test.YtejojfjbecpofaaOpen
import Derived.Laws.BytesArg
import Derived.Laws.IdiomStrings
namespace Go.Proofs.Ytejojfjbecpofaa
open Go.ChangeShapes Go.WideShapes Go.ChangeAt Go.RowKit
set_option linter.unusedVariables false

namespace crcSumsOpen
/-- a piece: where it lies, its room, its bytes -/
structure Pc where
  A : Option Addr
  c : Nat
  bs : List UInt8
def pcV (p : Pc) : List Value := [.slice p.A p.bs.length p.c]
def Good (w : World) (B : Nat) (p : Pc) : Prop := Mem.Rd w B p.A (p.bs.map Mem.byteV) ∧ p.bs.length ≤ p.c ∧ p.c ≤ maxLen
theorem pcV_length (p : Pc) : (pcV p).length = 1 := rfl

theorem uint8_bytes : Try.prog.bytesOf 5 = 1 := by kernel_rfl

theorem open_parts {H : Type} {enc : TypeId × Value → H} {W : World} {base : Nat} {v : Value} {d : DataW H} {p : List MemPlace} (o : Value.okWide Try.prog W .any base 22 v) (k : DataW.Trod enc Try.prog W 0 (fun _ => true) true 22 v d p)
    (hz : (d.weights Try.prog 22).all (· ≤ reachBytes) = true) :
    ∃ A c, ∃ ps : List Pc, v = .slice A ps.length c ∧ ps.length ≤ c ∧ c ≤ maxLen ∧ Mem.Rd W W.heap.size A (ps.flatMap pcV) ∧ ∀ p ∈ ps, Good W W.heap.size p ∧ p.bs.length ≤ reachBytes := by
  exact Mem.open_slice_sized (α := Pc) (sz := 1) Try.underlying22 (by kernel_rfl) (by omega) pcV pcV_length (fun p => Good W W.heap.size p ∧ p.bs.length ≤ reachBytes) (fun n cs x h hl hw => by
    rcases open_ints Try.underlying24 Try.underlying5 (by kernel_rfl) h with ⟨hcs, _⟩ | ⟨a, l, c, zs, hcs, _, hl, hm, hz, hx, hcell, hwz⟩
    · exact ⟨⟨none, 0, []⟩, hcs, ⟨.inl rfl, by simp, by simp [maxLen]⟩, by simp⟩
    · obtain ⟨b, h1, h2⟩ := bytes_of W a l c zs hl hm (by simpa using hz) hcell hwz
      refine ⟨⟨some a, c, b⟩, by rw [hcs]; unfold pcV; rw [h1], ⟨h2, by simp only; omega, hm⟩, ?_⟩
      rw [hx] at hw
      simp only [DataW.weights, Try.underlying24, List.all_cons, Bool.and_eq_true, decide_eq_true_eq, uint8_bytes, lits, List.length_map, List.length_take, List.length_drop] at hw
      have := hw.1
      simp only at hz ⊢
      simp at hz
      omega) o k hz

def Apart (A X : Option Addr) : Prop := Mem.blk A = none ∨ Mem.blk A ≠ Mem.blk X
/-- what the second loop has made -/
structure St (w wr : World) (X : Option Addr) (d : Nat) (L : Option Addr) (dL : Nat) (all : List UInt8) (qs : List Pc) : Prop where
  x : Mem.Own wr 5 1 X all.length d (all.map Mem.byteV)
  l : Mem.Own wr 24 1 L qs.length dL (qs.flatMap pcV)
  xl : Apart X L
  lx : Apart L X
  fx : Mem.From w.heap.size X
  fl : Mem.From w.heap.size L
  b : Below w.heap.size w wr
  q : ∀ p ∈ qs, Mem.Own wr 5 1 p.A p.bs.length p.c (p.bs.map Mem.byteV) ∧ Apart p.A X ∧ Apart p.A L ∧ Mem.From w.heap.size p.A
theorem apart_lt {A X : Option Addr} {n : Nat} (h : ∀ k, Mem.blk A = some k → k < n) (hx : Mem.From n X) : Apart A X := by
  unfold Apart
  cases hA : Mem.blk A with
  | none => exact .inl rfl
  | some k => exact .inr fun e => by have := h k hA; have := hx.blk k e.symm; omega
theorem apart_lt' {A X : Option Addr} {n : Nat} (h : ∀ k, Mem.blk A = some k → k < n) (hx : Mem.From n X) : Apart X A := by
  unfold Apart
  cases hA : Mem.blk X with
  | none => exact .inl rfl
  | some k => exact .inr fun e => by have := h k e.symm; have := hx.blk k hA; omega
theorem St.app1 {w wr w2 : World} {X X' L : Option Addr} {d d' dL : Nat} {all bs : List UInt8} {qs : List Pc} (h : St w wr X d L dL all qs) (hown : Mem.Own w2 5 1 X' (all.length + bs.length) d' (all.map Mem.byteV ++ bs.map Mem.byteV)) (hg : wr.grownBy w2 (Mem.blk X)) (hat : X' = X ∨ X' = some ⟨wr.heap.size, 0, none⟩) :
    St w w2 X' d' L dL (all ++ bs) qs := by
  refine ⟨by simpa using hown, h.l.kept hg h.lx, ?_, ?_, ?_, h.fl, h.b.grown hg h.b.size h.fx.blk, fun p hp => ?_⟩
  · rcases hat with rfl | rfl
    · exact h.xl
    · exact apart_lt' (fun k hk => h.l.lt hk) (Mem.From.some_ (Nat.le_refl _))
  · rcases hat with rfl | rfl
    · exact h.lx
    · exact apart_lt (fun k hk => h.l.lt hk) (Mem.From.some_ (Nat.le_refl _))
  · rcases hat with rfl | rfl
    · exact h.fx
    · exact Mem.From.some_ h.b.size
  · obtain ⟨h1, h2, h3, h4⟩ := h.q p hp
    refine ⟨h1.kept hg h2, ?_, h3, h4⟩
    rcases hat with rfl | rfl
    · exact h2
    · exact apart_lt (fun k hk => h1.lt hk) (Mem.From.some_ (Nat.le_refl _))
theorem St.grow {w wr w2 : World} {X L : Option Addr} {d dL : Nat} {all : List UInt8} {qs : List Pc} (h : St w wr X d L dL all qs) (hb : Below wr.heap.size wr w2) : St w w2 X d L dL all qs :=
  ⟨h.x.below hb fun _ hk => h.x.lt hk, h.l.below hb fun _ hk => h.l.lt hk, h.xl, h.lx, h.fx, h.fl, h.b.trans (hb.mono h.b.size), fun p hp =>
    let ⟨h1, h2⟩ := h.q p hp; ⟨h1.below hb fun _ hk => h1.lt hk, h2⟩⟩
theorem St.app2 {w wr w2 : World} {X L L' Q : Option Addr} {d dL dL' cq : Nat} {all bs : List UInt8} {qs : List Pc} (h : St w wr X d L dL all qs) (hq : Mem.Own wr 5 1 Q bs.length cq (bs.map Mem.byteV)) (hqx : Apart Q X) (hql : Apart Q L) (hfq : Mem.From w.heap.size Q)
    (hown : Mem.Own w2 24 1 L' (qs.length + 1) dL' (qs.flatMap pcV ++ [.slice Q bs.length cq])) (hg : wr.grownBy w2 (Mem.blk L)) (hat : L' = L ∨ L' = some ⟨wr.heap.size, 0, none⟩) :
    St w w2 X d L' dL' all (qs ++ [⟨Q, cq, bs⟩]) := by
  have hA : ∀ Y : Option Addr, Apart Y L → (∀ k, Mem.blk Y = some k → k < wr.heap.size) → Apart Y L' := fun Y h1 h2 => by
    rcases hat with rfl | rfl
    · exact h1
    · exact apart_lt h2 (Mem.From.some_ (Nat.le_refl _))
  refine ⟨h.x.kept hg h.xl, by simpa [pcV] using hown, hA X h.xl fun k hk => h.x.lt hk, ?_, h.fx, ?_, h.b.grown hg h.b.size h.fl.blk, fun p hp => ?_⟩
  · rcases hat with rfl | rfl
    · exact h.lx
    · exact apart_lt' (fun k hk => h.x.lt hk) (Mem.From.some_ (Nat.le_refl _))
  · rcases hat with rfl | rfl
    · exact h.fl
    · exact Mem.From.some_ h.b.size
  · rcases List.mem_append.1 hp with hp | hp
    · obtain ⟨h1, h2, h3, h4⟩ := h.q p hp
      exact ⟨h1.kept hg h3, h2, hA _ h3 fun k hk => h1.lt hk, h4⟩
    · obtain rfl := List.mem_singleton.1 hp
      exact ⟨hq.kept hg hql, hqx, hA _ hql fun k hk => hq.lt hk, hfq⟩
theorem St.parts {w wr : World} {X L : Option Addr} {d dL : Nat} {all : List UInt8} {qs : List Pc} (h : St w wr X d L dL all qs) : Parts wr wr.heap.size (qs.flatMap pcV) (qs.map (·.bs)) := by
  have hl : (qs.flatMap pcV).length = qs.length := by rw [Mem.flat_length pcV_length, Nat.mul_one]
  refine ⟨by rw [hl, List.length_map], fun k h1 h2 => ?_⟩
  have hk : k < qs.length := by omega
  obtain ⟨o1, _⟩ := h.q qs[k] (List.getElem_mem hk)
  refine ⟨qs[k].A, qs[k].c, ?_, by simpa using o1.rd, by simpa using Nat.le_trans o1.le o1.cap⟩
  have := Mem.flat_get pcV_length qs k 0 qs[k] (List.getElem?_eq_getElem hk) (by omega)
  simp only [Nat.mul_one, Nat.add_zero] at this
  rw [List.getElem?_eq_getElem (by omega)] at this
  simpa [pcV] using this
theorem parts_of {W : World} {B : Nat} {ps : List Pc} (h : ∀ p ∈ ps, Good W B p) : Parts W B (ps.flatMap pcV) (ps.map (·.bs)) := by
  have hl : (ps.flatMap pcV).length = ps.length := by rw [Mem.flat_length pcV_length, Nat.mul_one]
  refine ⟨by rw [hl, List.length_map], fun k h1 h2 => ?_⟩
  have hk : k < ps.length := by omega
  obtain ⟨o1, o2, o3⟩ := h ps[k] (List.getElem_mem hk)
  refine ⟨ps[k].A, ps[k].c, ?_, by simpa using o1, by simpa using Nat.le_trans o2 o3⟩
  have := Mem.flat_get pcV_length ps k 0 ps[k] (List.getElem?_eq_getElem hk) (by omega)
  simp only [Nat.mul_one, Nat.add_zero] at this
  rw [List.getElem?_eq_getElem (by omega)] at this
  simpa [pcV] using this
theorem at_part {W : World} {B : Nat} {A : Option Addr} {ps : List Pc} (h : Mem.Rd W B A (ps.flatMap pcV)) {k : Nat} (hk : k < ps.length) :
    ∃ b o p, A = some ⟨b, o, none⟩ ∧ b < B ∧ ps[k]? = some p ∧ W.cell? ⟨b, o + k, none⟩ = some (.slice p.A p.bs.length p.c) := by
  obtain ⟨b, o, e, hb, hc⟩ := Mem.Rd.elem pcV_length h hk (by omega)
  exact ⟨b, o, ps[k], e, hb, List.getElem?_eq_getElem hk, by simpa [pcV] using hc 0 _ rfl⟩
theorem conv_bytes {W : World} {B : Nat} {A : Option Addr} (c : Nat) {bs : List UInt8} (hr : Mem.Rd W B A (bs.map Mem.byteV)) :
    (convert 24 9 (.slice A bs.length c)).run Try.prog W = .ok (.string ⟨bs.toArray⟩) W := by
  rcases hr with h | ⟨b, o, rfl, hb, hc⟩
  · have h0 : bs = [] := by simpa using h
    subst h0
    cases A with
    | none => exact run_convert_bytes_nil W _ _ Try.underlying24 Try.underlying5 0 c _ Try.underlying9
    | some a => exact run_convert_bytes_back W _ _ _ a c [] Try.underlying24 Try.underlying5 Try.underlying9 (fun j hj => by simp at hj)
  · refine run_convert_bytes_back W _ _ _ ⟨b, o, none⟩ c bs Try.underlying24 Try.underlying5 Try.underlying9 (fun j hj => ?_)
    rw [Mem.add_flat]
    exact hc j _ (by simp [hj, Mem.byteV])
def tot (ps : List Pc) (k : Nat) : Nat := ps.length + ((ps.take k).map (·.bs.length)).sum
theorem tot_zero (ps : List Pc) : tot ps 0 = ps.length := by simp [tot]
theorem tot_succ {ps : List Pc} {k : Nat} {p : Pc} (h : ps[k]? = some p) : tot ps (k + 1) = tot ps k + p.bs.length := by
  unfold tot; rw [Mem.take_snoc h]; simp [Nat.add_assoc]
def flat (ps : List Pc) (k : Nat) : List UInt8 := ((ps.take k).map (·.bs)).flatten
theorem flat_succ {ps : List Pc} {k : Nat} {p : Pc} (h : ps[k]? = some p) : flat ps (k + 1) = flat ps k ++ p.bs := by
  unfold flat; rw [Mem.take_snoc h]; simp
theorem sum_take_le (l : List Nat) (k : Nat) : (l.take k).sum ≤ l.sum := by
  conv => rhs; rw [← List.take_append_drop k l]
  rw [List.sum_append]; omega
theorem flat_le (ps : List Pc) (k : Nat) : (flat ps k).length + ps.length ≤ tot ps ps.length := by
  have : (flat ps k).length = ((ps.map (·.bs.length)).take k).sum := by
    unfold flat; rw [List.length_flatten, List.map_map, List.map_take]; rfl
  rw [this]
  unfold tot
  rw [List.take_length]
  have := sum_take_le (ps.map (·.bs.length)) k
  omega
theorem parts_elem : Mem.Elem Try.prog 22 24 1 24 := Mem.elem_of Try.underlying22 (z := .slice none 0 0) (by kernel_rfl) rfl (by omega)

def Rel (w : World) (ps : List Pc) (vx vl vk : Value) (wr : World) : Prop :=
  ∃ (k : Nat) (X : Option Addr) (d : Nat) (L : Option Addr) (dL : Nat) (qs : List Pc), k ≤ ps.length ∧ vx = .slice X (flat ps k).length d ∧ vl = .slice L k dL ∧ vk = .int .i64 k ∧ qs.map (·.bs) = (ps.take k).map (·.bs) ∧ Hid (St w wr X d L dL (flat ps k) qs)

set_option maxHeartbeats 4000000 in
theorem walk (A : Option Addr) (c : Nat) (ps : List Pc) (w : World) (hr : Mem.Rd w w.heap.size A (ps.flatMap pcV)) (hc : ps.length ≤ c) (hm : c ≤ 9223372036854775807) (hg : ∀ p ∈ ps, Good w w.heap.size p ∧ p.bs.length ≤ reachBytes) :
    Calls Try.prog 3 #[.slice A ps.length c] w fun e w' => e = .returned (.bool true) ∧ Below w.heap.size w w' := by
  have hr0 := Lib.hid hr
  have hg0 := Lib.hid hg
  clear hr hg
  go_enter Try.func3, Try.ntmps3
  go_wp2_with (go_at_call 10; refine (able_any _).mono ?_; rintro e w1 ⟨rfl, hb1⟩)
  have HB1 := Lib.hid hb1
  clear hb1
  go_loop [3, 4] (fun vn vi => ∃ (k : Nat), k ≤ ps.length ∧ vn = .int .i64 (tot ps k : Nat) ∧ vi = .int .i64 k) (fun _ t => ps.length - (intOf t).toNat)
  case atStart => exact ⟨0, by omega, by rw [tot_zero], rfl⟩
  case round =>
    obtain ⟨k, hk, rfl, rfl⟩ := hrel
    by_cases hmost : tot ps k ≤ 100000
    · have hmd : decide ((tot ps k : Int) ≤ 100000) = true := by simp; omega
      by_cases hlt : k < ps.length
      · obtain ⟨b, o, p, rfl, hb, hp, hcl⟩ := at_part hr0.out hlt
        have hcl1 := (HB1.out.cell (p := ⟨b, o + k, none⟩) hb).trans hcl
        have hpl : p.bs.length ≤ 140737488351232 := by have := (hg0.out p (List.mem_of_getElem? hp)).2; unfold reachBytes at this; omega
        have hts := Lib.hid (tot_succ hp)
        clear hp hcl
        go_wp2
        go_round
        case rel => exact ⟨k + 1, by omega, by rw [hts.out]; go_num, by go_num⟩
        case measure => simp [intOf]; omega
      · obtain rfl : k = ps.length := by omega
        have hmd2 : decide ((100000 : Int) < (tot ps ps.length : Int)) = false := by simp; omega
        go_wp2
        go_loopw [5, 6, 7] (Rel w ps) (fun _ _ t _ => ps.length - (intOf t).toNat)
        case atStart => exact ⟨0, none, 0, none, 0, [], by omega, rfl, rfl, rfl, rfl, ⟨Mem.Own.nil _ _ _, Mem.Own.nil _ _ _, .inl rfl, .inl rfl, Mem.From.none_ _, Mem.From.none_ _, HB1.out, fun p hp => by cases hp⟩⟩
        case round =>
          obtain ⟨k, X, d, L, dL, qs, hk, rfl, rfl, rfl, hqs, HS⟩ := hrel
          have hql : qs.length = k := by have := congrArg List.length hqs; simp at this; omega
          by_cases hlt : k < ps.length
          · obtain ⟨b, o, p, rfl, hb, hp, hcl⟩ := at_part hr0.out hlt
            have hcl1 := (HS.out.b.cell (p := ⟨b, o + k, none⟩) hb).trans hcl
            have hp' := Lib.hid hp
            have hgp := Lib.hid (hg0.out p (List.mem_of_getElem? hp))
            have hfs := Lib.hid (flat_succ hp)
            have hln : (flat ps (k + 1)).length = (flat ps k).length + p.bs.length := by rw [hfs.out, List.length_append]
            have hf1 := flat_le ps (k + 1)
            have hk63 : k + 1 ≤ maxLen ∧ k ≤ 100000 := by unfold maxLen; omega
            have hn63 : (flat ps k).length + p.bs.length ≤ maxLen ∧ (flat ps k).length + p.bs.length ≤ 100000 ∧ p.bs.length ≤ maxLen ∧ p.bs.length ≤ 100000 := by unfold maxLen; omega
            clear hp hcl
            go_wp2_with (first
              | (at_builtin; refine Mem.wpList_app _ rfl (.tmp 39) (.tmp 43) _ rfl bytes_elem X (flat ps k).length d _ rfl w.heap.size p.A p.bs.length p.c (p.bs.map Mem.byteV) rfl ?_ HS.out.x (hgp.out.1.1.below HS.out.b) (by simp) (Mem.bytes_one _) hn63.1 (by omega); intro X2 d2 w2 hown hg2 hat; have HS2 := Lib.hid (HS.out.app1 hown hg2 hat); have hcl2 := (HS2.out.b.cell (p := ⟨b, o + k, none⟩) hb).trans ((HS.out.b.cell (p := ⟨b, o + k, none⟩) hb).symm.trans hcl1); have hbz2 : b < w2.heap.size := (by have := HS2.out.b.size; omega); clear hown hg2 hat)
              | (at_builtin; refine Mem.wpList_clone _ rfl (.tmp 46) (.tmp 50) _ rfl bytes_elem w2.heap.size rfl w2 w2.heap.size p.A p.bs.length p.c (p.bs.map Mem.byteV) rfl ?_ rfl (Below.refl _ _) (Nat.le_refl _) (((hgp.out.1.1.below HS2.out.b).more HS2.out.b.size)) (by simp) (Mem.bytes_one _) hn63.2.2.1 (by omega); intro Q cq w3 hq hb3 hlt3 hfq; have HS3 := Lib.hid (HS2.out.grow hb3); have hqx := apart_lt' (fun k hk => HS2.out.x.lt hk) hfq; have hql' := apart_lt' (fun k hk => HS2.out.l.lt hk) hfq; have hfq' := hfq.mono HS2.out.b.size; have HQ := Lib.hid hq; clear hq hb3)
              | (at_builtin; refine Mem.wpList_app _ rfl (.tmp 45) (.tmp 52) _ rfl parts_elem L qs.length dL _ (by rw [hql]; rfl) (w3.heap.size + 1) (some ⟨w3.heap.size, 0, none⟩) 1 1 [.slice Q p.bs.length cq] rfl ?_ (HS3.out.l.alloc _) (Mem.Rd.alloc_new w3 _ _ _ rfl) rfl (by simp [Value.oneCell']) (by omega) (by omega); intro L2 dL2 w4 hown hg4 hat; have HS4 := Lib.hid ((HS3.out.grow ((Below.refl _ _).alloc (Nat.le_refl _) _)).app2 (HQ.out.alloc _) hqx hql' hfq' hown hg4 hat); clear hown hg4 hat))
            go_roundw
            case rel => exact ⟨k + 1, X2, d2, L2, dL2, qs ++ [⟨Q, cq, p.bs⟩], by omega, by rw [hln], rfl, by go_num, by rw [Mem.take_snoc hp'.out]; simp [hqs], by rw [hfs.out]; exact HS4⟩
            case measure => simp [intOf]; omega
          · obtain rfl : k = ps.length := by omega
            rename World => wy
            have hbss : qs.map (·.bs) = ps.map (·.bs) := by rw [hqs, List.take_length]
            have hqn : ∀ j : Nat, j < ps.length → ∃ p q, ps[j]? = some p ∧ qs[j]? = some q ∧ q.bs = p.bs := fun j hj => by
              refine ⟨ps[j], qs[j], List.getElem?_eq_getElem hj, List.getElem?_eq_getElem (by omega), ?_⟩
              have := congrArg (fun l => l[j]?) hbss
              simp only [List.getElem?_map, List.getElem?_eq_getElem (show j < qs.length by omega), List.getElem?_eq_getElem hj, Option.map_some, Option.some.injEq] at this
              exact this
            have HQN := Lib.hid hqn
            have HBS := Lib.hid hbss
            clear hqn hqs hbss
            have hsum : ∀ W, Mem.Rd W wy.heap.size L (qs.flatMap pcV) → Parts W wy.heap.size (qs.flatMap pcV) (qs.map (·.bs)) → Calls Try.prog 11 #[.slice L ps.length dL] W fun e w' => e = .returned (Crc.U (Crc.sum (ps.map (·.bs)))) ∧ W = w' := fun W h1 h2 => by
              have := crcSum_any L dL _ _ _ _ W h1 h2 (by rw [List.length_map, hql]; unfold maxLen; omega)
              rw [HBS.out, List.length_map] at this
              exact this
            have HSUM := Lib.hid hsum
            clear hsum
            obtain ⟨S, hS⟩ : ∃ S, Crc.sum (ps.map (·.bs)) = S := ⟨_, rfl⟩
            rw [hS] at HSUM
            have HSS := Lib.hid hS
            clear hS
            go_wp2_with (go_at_call 11; refine (HSUM.out _ HS.out.l.rd HS.out.parts).mono ?_; rintro e w' ⟨rfl, rfl⟩)
            have hfl : Crc.more 0#32 (flat ps ps.length) = S := by rw [← HSS.out, Crc.sum_flatten]; unfold flat; rw [List.take_length]
            have HFL := Lib.hid hfl
            clear hfl
            have hfn : (flat ps ps.length).length ≤ maxLen := by have := flat_le ps ps.length; unfold maxLen; omega
            have HLR := Lib.hid HS.out.l.rd
            have HXR := Lib.hid HS.out.x.rd
            have hbw := HS.out.b.size
            have hss := Crc.nU_self S S rfl
            go_loopw [9] (fun vk wr => ∃ k : Nat, k ≤ ps.length ∧ vk = .int .i64 k ∧ Hid (Below wy.heap.size wy wr)) (fun t _ => ps.length - (intOf t).toNat)
            case atStart => exact ⟨0, by omega, rfl, Below.refl _ _⟩
            case round =>
              obtain ⟨k, hk, rfl, HB5⟩ := hrel
              by_cases hlt : k < ps.length
              · obtain ⟨b, o, p, rfl, hb, hp, hcl⟩ := at_part hr0.out hlt
                obtain ⟨b2, o2, q, rfl, hb2, hq, hcl2⟩ := at_part HLR.out (show k < qs.length by omega)
                obtain ⟨p', q', hp2, hq2, hpq⟩ := HQN.out k hlt
                obtain rfl : p' = p := Option.some.inj (hp2.symm.trans hp)
                obtain rfl : q' = q := Option.some.inj (hq2.symm.trans hq)
                have HP := Lib.hid (hg0.out p' (List.mem_of_getElem? hp))
                have HQ := Lib.hid (HS.out.q q' (List.mem_of_getElem? hq)).1
                rw [hpq] at hcl2 HQ
                clear hp hp2 hq hq2
                have HCL := Lib.hid hcl
                have HCL2 := Lib.hid hcl2
                clear hcl hcl2
                go_wp2
                refine Reg.wp_region_rel (by kernel_rfl) 90 11 rfl rfl (by kernel_rfl) (Reg.Adds) (Reg.Adds.refl) (Reg.Adds.trans)
                  (fun i v u => match i with
                    | 0 => v = .slice (some ⟨b2, o2, none⟩) ps.length dL
                    | 1 => v = .int .i64 k
                    | 2 => v = .pointer (some ⟨b2, o2 + k, none⟩)
                    | 3 => v = .slice q'.A p'.bs.length q'.c
                    | 4 => v = .string ⟨p'.bs.toArray⟩
                    | 5 => v = .slice (some ⟨b, o, none⟩) ps.length c
                    | 6 => v = .int .i64 k
                    | 7 => v = .pointer (some ⟨b, o + k, none⟩)
                    | 8 => v = .slice p'.A p'.bs.length p'.c
                    | 9 => v = .string ⟨p'.bs.toArray⟩
                    | 10 => v = .bool false
                    | _ => True) ?_ ?_
                · refine Reg.Steps.cons ?_ (Reg.Steps.cons ?_ (Reg.Steps.cons ?_ (Reg.Steps.cons ?_ (Reg.Steps.cons ?_ (Reg.Steps.cons ?_ (Reg.Steps.cons ?_ (Reg.Steps.cons ?_ (Reg.Steps.cons ?_ (Reg.Steps.cons ?_ (Reg.Steps.cons ?_ (Reg.Steps.nil _)))))))))))
                  · intro val ac u hR hp ha K hK      -- 0: t62 := Op.move t6
                    have e6 : (ac.tmps[6]?).getD undef = .slice (some ⟨b2, o2, none⟩) ps.length dL := ha 6 (by decide)
                    clear ha hp
                    refine Reg.Op1.plain rfl ?_
                    go_wp2
                    exact ⟨rfl, hK _ _ rfl (fun j k _ _ => Reg.Adds.refl _ _ _)⟩
                  · intro val ac u hR hp ha K hK      -- 1: t63 := Op.move t9
                    have e9 : (ac.tmps[9]?).getD undef = .int .i64 k := ha 9 (by decide)
                    clear ha hp
                    refine Reg.Op1.plain rfl ?_
                    go_wp2
                    exact ⟨rfl, hK _ _ rfl (fun j k _ _ => Reg.Adds.refl _ _ _)⟩
                  · intro val ac u hR hp ha K hK      -- 2: t64 := Op.indexAddr 22 t62 t63
                    obtain ⟨w62, h62, r62⟩ := hp 0 (by decide)
                    have e62 : (ac.tmps[62]?).getD undef = .slice (some ⟨b2, o2, none⟩) ps.length dL := (ha 62 (by decide)).trans h62
                    clear h62
                    obtain ⟨w63, h63, r63⟩ := hp 1 (by decide)
                    have e63 : (ac.tmps[63]?).getD undef = .int .i64 k := (ha 63 (by decide)).trans h63
                    clear h63
                    clear ha hp
                    refine Reg.Op1.plain rfl ?_
                    go_wp2
                    exact ⟨rfl, hK _ _ rfl (fun j k _ _ => Reg.Adds.refl _ _ _)⟩
                  · intro val ac u hR hp ha K hK      -- 3: t65 := Op.load 24 t64
                    obtain ⟨w64, h64, r64⟩ := hp 2 (by decide)
                    have e64 : (ac.tmps[64]?).getD undef = .pointer (some ⟨b2, o2 + k, none⟩) := (ha 64 (by decide)).trans h64
                    clear h64
                    clear ha hp
                    refine Reg.Op1.plain rfl ?_
                    have hbu := (HB5.out.drew.trans (Below.mono hR HB5.out.size))
                    have hc := (hbu.cell (p := ⟨b2, o2 + k, none⟩) hb2).trans HCL2.out
                    clear hbu
                    go_wp2
                    exact ⟨rfl, hK _ _ rfl (fun j k _ _ => Reg.Adds.refl _ _ _)⟩
                  · intro val ac u hR hp ha K hK      -- 4: t66 := Op.convert 24 9 t65
                    obtain ⟨w65, h65, r65⟩ := hp 3 (by decide)
                    have e65 : (ac.tmps[65]?).getD undef = .slice q'.A p'.bs.length q'.c := (ha 65 (by decide)).trans h65
                    clear h65
                    clear ha hp
                    refine Reg.Op1.plain rfl ?_
                    have hbu := (HB5.out.drew.trans (Below.mono hR HB5.out.size))
                    have hcv := conv_bytes q'.c (HQ.out.rd.below hbu)
                    clear hbu
                    go_wp2
                    exact ⟨rfl, hK _ _ rfl (fun j k _ _ => Reg.Adds.refl _ _ _)⟩
                  · intro val ac u hR hp ha K hK      -- 5: t67 := Op.move t0
                    have e0 : (ac.tmps[0]?).getD undef = .slice (some ⟨b, o, none⟩) ps.length c := ha 0 (by decide)
                    clear ha hp
                    refine Reg.Op1.plain rfl ?_
                    go_wp2
                    exact ⟨rfl, hK _ _ rfl (fun j k _ _ => Reg.Adds.refl _ _ _)⟩
                  · intro val ac u hR hp ha K hK      -- 6: t68 := Op.move t9
                    have e9 : (ac.tmps[9]?).getD undef = .int .i64 k := ha 9 (by decide)
                    clear ha hp
                    refine Reg.Op1.plain rfl ?_
                    go_wp2
                    exact ⟨rfl, hK _ _ rfl (fun j k _ _ => Reg.Adds.refl _ _ _)⟩
                  · intro val ac u hR hp ha K hK      -- 7: t69 := Op.indexAddr 22 t67 t68
                    obtain ⟨w67, h67, r67⟩ := hp 5 (by decide)
                    have e67 : (ac.tmps[67]?).getD undef = .slice (some ⟨b, o, none⟩) ps.length c := (ha 67 (by decide)).trans h67
                    clear h67
                    obtain ⟨w68, h68, r68⟩ := hp 6 (by decide)
                    have e68 : (ac.tmps[68]?).getD undef = .int .i64 k := (ha 68 (by decide)).trans h68
                    clear h68
                    clear ha hp
                    refine Reg.Op1.plain rfl ?_
                    go_wp2
                    exact ⟨rfl, hK _ _ rfl (fun j k _ _ => Reg.Adds.refl _ _ _)⟩
                  · intro val ac u hR hp ha K hK      -- 8: t70 := Op.load 24 t69
                    obtain ⟨w69, h69, r69⟩ := hp 7 (by decide)
                    have e69 : (ac.tmps[69]?).getD undef = .pointer (some ⟨b, o + k, none⟩) := (ha 69 (by decide)).trans h69
                    clear h69
                    clear ha hp
                    refine Reg.Op1.plain rfl ?_
                    have hbu := (HB5.out.drew.trans (Below.mono hR HB5.out.size))
                    have hc := (hbu.cell (p := ⟨b, o + k, none⟩) (by show b < wy.heap.size; omega)).trans ((HS.out.b.cell (p := ⟨b, o + k, none⟩) hb).trans HCL.out)
                    clear hbu
                    go_wp2
                    exact ⟨rfl, hK _ _ rfl (fun j k _ _ => Reg.Adds.refl _ _ _)⟩
                  · intro val ac u hR hp ha K hK      -- 9: t71 := Op.convert 24 9 t70
                    obtain ⟨w70, h70, r70⟩ := hp 8 (by decide)
                    have e70 : (ac.tmps[70]?).getD undef = .slice p'.A p'.bs.length p'.c := (ha 70 (by decide)).trans h70
                    clear h70
                    clear ha hp
                    refine Reg.Op1.plain rfl ?_
                    have hbu := (HB5.out.drew.trans (Below.mono hR HB5.out.size))
                    have hcv := conv_bytes p'.c (((HP.out.1.1.below HS.out.b).more hbw).below hbu)
                    clear hbu
                    go_wp2
                    exact ⟨rfl, hK _ _ rfl (fun j k _ _ => Reg.Adds.refl _ _ _)⟩
                  · intro val ac u hR hp ha K hK      -- 10: t72 := Op.binOp BinOp.neq 9 t66 t71 9
                    obtain ⟨w66, h66, r66⟩ := hp 4 (by decide)
                    have e66 : (ac.tmps[66]?).getD undef = .string ⟨p'.bs.toArray⟩ := (ha 66 (by decide)).trans h66
                    clear h66
                    obtain ⟨w71, h71, r71⟩ := hp 9 (by decide)
                    have e71 : (ac.tmps[71]?).getD undef = .string ⟨p'.bs.toArray⟩ := (ha 71 (by decide)).trans h71
                    clear h71
                    clear ha hp
                    refine Reg.Op1.plain rfl ?_
                    go_wp2
                    exact ⟨rfl, hK _ _ rfl (fun j k _ _ => Reg.Adds.refl _ _ _)⟩
                · intro val u hR H
                  obtain ⟨w72, hv, hr⟩ := H 10 (by decide)
                  have hv : val 10 = .bool false := hv
                  simp only [List.map_cons, List.map_nil, Reg.lay, Act.put, List.setIfInBounds_toArray, List.set_cons_succ, List.set_cons_zero, Nat.reduceAdd, hv]
                  have HB6 := Lib.hid (HB5.out.drew.trans (Below.mono hR HB5.out.size))
                  clear hv hr H hR
                  go_wp2
                  go_roundw
                  case rel => exact ⟨k + 1, by omega, by go_num, HB6⟩
                  case measure => simp [intOf]; omega
              · obtain rfl : k = ps.length := by omega
                have hrs : ∀ W, Below wy.heap.size wy W → Calls Try.prog 12 #[.slice A ps.length c] W fun e w' => e = .returned (Crc.U S) ∧ W = w' := fun W h1 => by
                  have hbb := HS.out.b.trans (h1.mono hbw)
                  have := refSum_any A c _ _ _ _ W (hr0.out.below hbb) (parts_of fun p hp => ⟨(hg0.out p hp).1.1.below hbb, (hg0.out p hp).1.2⟩) (by rw [List.length_map]; unfold maxLen; omega)
                  rw [HSS.out, List.length_map] at this
                  exact this
                have HRS := Lib.hid hrs
                clear hrs
                go_wp2_with fail
                refine Calls.mono (HRS.out _ HB5.out) ?_
                rintro e w' ⟨rfl, rfl⟩
                go_wp2_with fail
                refine Calls.mono (crcSum_one wr _ rfl X d _ (flat ps ps.length) ((HXR.out.below HB5.out).more HB5.out.size) hfn rfl) ?_
                rw [HFL.out]
                rintro e w' ⟨rfl, rfl⟩
                go_wp2_with fail
                refine Calls.mono (crcMore_any 0#32 X d (flat ps ps.length) wy.heap.size _ ((HXR.out.below HB5.out).alloc HB5.out.size _) hfn) ?_
                rw [HFL.out]
                rintro e w' ⟨rfl, rfl⟩
                go_wp2_with fail
                go_ret
                exact ⟨rfl, (HS.out.b.trans (HB5.out.mono hbw)).alloc (Nat.le_trans hbw HB5.out.size) _⟩
    · have hmd : decide ((tot ps k : Int) ≤ 100000) = false := by simp; omega
      have hmd2 : decide ((100000 : Int) < (tot ps k : Int)) = true := by simp; omega
      by_cases hlt : k < ps.length
      · go_wp2
        go_ret
        exact ⟨rfl, HB1.out⟩
      · obtain rfl : k = ps.length := by omega
        go_wp2
        go_ret
        exact ⟨rfl, HB1.out⟩
theorem opened {H : Type} (enc : TypeId × Value → H) (W : World) (base : Nat) (v0 : Value) {d0 : DataW H} {p0 : List MemPlace}
    (o0 : Value.okWide Try.prog W .any base 22 v0) (k0 : DataW.Trod enc Try.prog W 0 (fun _ => true) true 22 v0 d0 p0) (z0 : (d0.weights Try.prog 22).all (· ≤ reachBytes) = true) :
    Calls Try.prog 3 #[v0] W fun e w' => e = .returned (.bool true) ∧ Below W.heap.size W w' := by
  obtain ⟨A, c, ps, rfl, h1, h2, h3, h4⟩ := open_parts o0 k0 z0
  exact walk A c ps W h3 h1 h2 h4
end crcSumsOpen
end Go.Proofs.Ytejojfjbecpofaa
