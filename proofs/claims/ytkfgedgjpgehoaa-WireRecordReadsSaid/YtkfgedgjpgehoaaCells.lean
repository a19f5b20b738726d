/- Structs of numbers, truths and texts are compared cell by cell. Plain lemmas. -/
import Derived.Test.YtkfgedgjpgehoaaAgg2
import Derived.ChangeKeysEq
namespace Go.Proofs.Ytkfgedgjpgehoaa
open Go.ChangeShapes Go.WideShapes Go.ChangeAt Go.RowKit
set_option linter.unusedVariables false
set_option linter.unusedSimpArgs false
namespace Cells
inductive Kd where
  | i
  | b
  | s
  deriving DecidableEq
def ok : Kd → Value → Prop
  | .i, v => ∃ n, v = .int .i64 n
  | .b, v => ∃ b, v = .bool b
  | .s, v => ∃ s, v = .string s
def Ok : List Kd → List Value → Prop
  | [], [] => True
  | k :: ks, v :: vs => ok k v ∧ Ok ks vs
  | _, _ => False
def eq1 : Value → Value → Bool
  | .int _ a, .int _ b => a == b
  | .bool a, .bool b => a == b
  | .string a, .string b => a.toList == b.toList
  | _, _ => false
def eqL : List Value → List Value → Bool
  | [], [] => true
  | x :: xs, y :: ys => eq1 x y && eqL xs ys
  | _, _ => false
theorem eq1_iff {k : Kd} {x y : Value} (h : ok k x) (h2 : ok k y) : eq1 x y = true ↔ x = y := by
  cases k
  · obtain ⟨a, rfl⟩ := h; obtain ⟨b, rfl⟩ := h2; simp [eq1]
  · obtain ⟨a, rfl⟩ := h; obtain ⟨b, rfl⟩ := h2; simp [eq1]
  · obtain ⟨a, rfl⟩ := h; obtain ⟨b, rfl⟩ := h2
    simp only [eq1, beq_iff_eq, Value.string.injEq]
    refine ⟨fun h => ?_, fun h => by rw [h]⟩
    rw [ByteArray.toList_eq, ByteArray.toList_eq] at h
    exact bytes_inj h
theorem eqL_iff : ∀ {ks : List Kd} {xs ys : List Value}, Ok ks xs → Ok ks ys → (eqL xs ys = true ↔ xs = ys)
  | [], [], [], _, _ => by simp [eqL]
  | [], _ :: _, _, h, _ => h.elim
  | [], [], _ :: _, _, h => h.elim
  | _ :: _, [], _, h, _ => h.elim
  | _ :: _, _ :: _, [], _, h => h.elim
  | k :: ks, x :: xs, y :: ys, h, h2 => by
    simp only [eqL, Bool.and_eq_true, List.cons.injEq]
    rw [eq1_iff h.1 h2.1, eqL_iff h.2 h2.2]
theorem eqL_append : ∀ {xs ys : List Value} (us vs : List Value), xs.length = ys.length → eqL (xs ++ us) (ys ++ vs) = (eqL xs ys && eqL us vs)
  | [], [], us, vs, _ => by simp [eqL]
  | [], _ :: _, _, _, h => by simp at h
  | _ :: _, [], _, _, h => by simp at h
  | x :: xs, y :: ys, us, vs, h => by
    simp only [List.cons_append, eqL]
    rw [eqL_append us vs (by simpa using h), Bool.and_assoc]
theorem Ok.len : ∀ {ks : List Kd} {xs : List Value}, Ok ks xs → xs.length = ks.length
  | [], [], _ => rfl
  | [], _ :: _, h => h.elim
  | _ :: _, [], h => h.elim
  | k :: ks, x :: xs, h => by simp only [List.length_cons]; rw [Ok.len h.2]
theorem Ok.split : ∀ {ks ks2 : List Kd} {xs : List Value}, Ok (ks ++ ks2) xs → Ok ks (xs.take ks.length) ∧ Ok ks2 (xs.drop ks.length)
  | [], ks2, xs, h => ⟨by simp [Ok], by simpa using h⟩
  | k :: ks, ks2, [], h => h.elim
  | k :: ks, ks2, x :: xs, h => by
    have h1 := Ok.split (ks := ks) (ks2 := ks2) h.2
    exact ⟨⟨h.1, by simpa using h1.1⟩, by simpa using h1.2⟩
theorem Ok.app : ∀ {ks ks2 : List Kd} {xs ys : List Value}, Ok ks xs → Ok ks2 ys → Ok (ks ++ ks2) (xs ++ ys)
  | [], _, [], _, _, h => h
  | [], _, _ :: _, _, h, _ => h.elim
  | _ :: _, _, [], _, h, _ => h.elim
  | k :: ks, ks2, x :: xs, ys, h, h2 => ⟨h.1, Ok.app h.2 h2⟩
def box (ag : Bool) (xs : List Value) : Value := match ag with
  | true => .agg xs.toArray
  | false => xs.headD undef
structure EqT (P : Program) (t : TypeId) (D : Nat) (ag : Bool) (ks : List Kd) : Prop where
  isag : ∀ w, (isAgg t).run P w = .ok ag w
  sz : ∀ w, (sizeOf t).run P w = .ok ks.length w
  inf : ∃ i, P.info? t = some i
  one : ag = false → ks.length = 1
  eq : ∀ d xs ys w, Ok ks xs → Ok ks ys → (Op.equalIn (d + D) t (box ag xs) (box ag ys)).run P w = .ok (eqL xs ys) w
section
variable {P : Program}
theorem EqT.part {t : TypeId} {D : Nat} {ag : Bool} {ks : List Kd} (h : EqT P t D ag ks) (cs : List Value) (off : Nat) (hl : off + ks.length ≤ cs.length) (w : World) :
    (Go.part t cs.toArray off).run P w = .ok (box ag ((cs.drop off).take ks.length)) w := by
  unfold Go.part
  rw [Sem.run_bind, h.isag]
  cases ag with
  | true =>
    simp only [Result.andThen_ok, if_true, Sem.run_bind, h.sz, Sem.run_pure]
    congr 2
    simp
  | false =>
    have h1 := h.one rfl
    obtain ⟨v, hv⟩ : ∃ v, cs[off]? = some v := ⟨cs[off]'(by omega), List.getElem?_eq_getElem (by omega)⟩
    have h2 : (cs.drop off).take ks.length = [v] := by
      rw [h1]
      obtain ⟨hlt, he⟩ := List.getElem?_eq_some_iff.1 hv
      rw [List.drop_eq_getElem_cons hlt, he]; rfl
    rw [h2]
    simp [hv, box]
theorem EqT.flds {D : Nat} (g : TypeId → Option (Bool × List Kd)) (hg : ∀ t ag ks, g t = some (ag, ks) → EqT P t D ag ks) (chkF : Nat → List Field → Option (List Kd))
    (h0 : ∀ off, chkF off [] = some []) (h1 : ∀ off f fs r, chkF off (f :: fs) = some r → f.name ≠ "_" ∧ f.offset = off ∧ ∃ ag ks r2, g f.type = some (ag, ks) ∧ chkF (off + ks.length) fs = some r2 ∧ r = ks ++ r2) (d : Nat) (w : World) :
    ∀ (fs : List Field) (off : Nat) (r : List Kd) (cs ds : List Value), chkF off fs = some r → off ≤ cs.length → off ≤ ds.length → Ok r (cs.drop off) → Ok r (ds.drop off) → (Op.eqFields (d + D) cs.toArray ds.toArray fs).run P w = .ok (eqL (cs.drop off) (ds.drop off)) w
  | [], off, r, cs, ds, h, hc, hd, ho, ho2 => by
    rw [h0] at h
    cases h
    have e1 := ho.len; have e2 := ho2.len
    rw [List.eq_nil_of_length_eq_zero e1, List.eq_nil_of_length_eq_zero e2]
    simp [Op.eqFields, eqL]
  | f :: fs, off, r, cs, ds, h, hc, hd, ho, ho2 => by
    obtain ⟨hn, hof, ag, ks, r2, hgt, hr2, rfl⟩ := h1 off f fs r h
    have hE := hg _ _ _ hgt
    obtain ⟨a1, a2⟩ := ho.split
    obtain ⟨b1, b2⟩ := ho2.split
    have l1 := a1.len; have l2 := b1.len
    rw [List.length_take, List.length_drop] at l1 l2
    rw [List.drop_drop] at a2 b2
    have ih := EqT.flds g hg chkF h0 h1 d w fs (off + ks.length) r2 cs ds hr2 (by omega) (by omega) a2 b2
    have e1 := hE.part cs off (by omega) w
    have e2 := hE.part ds off (by omega) w
    have e3 := hE.eq d _ _ w a1 b1
    have e4 : eqL (cs.drop off) (ds.drop off) = (eqL ((cs.drop off).take ks.length) ((ds.drop off).take ks.length) && eqL (cs.drop (off + ks.length)) (ds.drop (off + ks.length))) := by
      rw [← eqL_append _ _ (by rw [a1.len, b1.len]), ← List.drop_drop, ← List.drop_drop, List.take_append_drop, List.take_append_drop]
    rw [e4]
    simp only [Op.eqFields, hn, ne_eq, not_false_eq_true, if_true, Sem.run_bind, hof, e1, e2, e3, Result.andThen_ok]
    cases eqL ((cs.drop off).take ks.length) ((ds.drop off).take ks.length)
    · simp
    · simpa using ih
theorem EqT.items {e : TypeId} {D : Nat} {ag : Bool} {ks : List Kd} (hE : EqT P e D ag ks) (d : Nat) (w : World) (cs ds : List Value) :
    ∀ (m k : Nat), Ok ((List.replicate m ks).flatten) (cs.drop (k * ks.length)) → Ok ((List.replicate m ks).flatten) (ds.drop (k * ks.length)) → k * ks.length ≤ cs.length → k * ks.length ≤ ds.length →
      (Op.eqItems (d + D) e ks.length cs.toArray ds.toArray (List.range' k m)).run P w = .ok (eqL (cs.drop (k * ks.length)) (ds.drop (k * ks.length))) w
  | 0, k, ho, ho2, hc, hd => by
    have e1 := ho.len; have e2 := ho2.len
    rw [List.eq_nil_of_length_eq_zero e1, List.eq_nil_of_length_eq_zero e2]
    simp [Op.eqItems, eqL]
  | m + 1, k, ho, ho2, hc, hd => by
    rw [List.replicate_succ, List.flatten_cons] at ho ho2
    obtain ⟨a1, a2⟩ := ho.split
    obtain ⟨b1, b2⟩ := ho2.split
    have l1 := a1.len; have l2 := b1.len
    rw [List.length_take, List.length_drop] at l1 l2
    rw [List.drop_drop, ← Nat.succ_mul] at a2 b2
    have hk : (k + 1) * ks.length = k * ks.length + ks.length := Nat.succ_mul _ _
    have ih := EqT.items hE d w cs ds m (k + 1) a2 b2 (by omega) (by omega)
    have e1 := hE.part cs (k * ks.length) (by omega) w
    have e2 := hE.part ds (k * ks.length) (by omega) w
    have e3 := hE.eq d _ _ w a1 b1
    have e4 : eqL (cs.drop (k * ks.length)) (ds.drop (k * ks.length)) = (eqL ((cs.drop (k * ks.length)).take ks.length) ((ds.drop (k * ks.length)).take ks.length) && eqL (cs.drop ((k + 1) * ks.length)) (ds.drop ((k + 1) * ks.length))) := by
      rw [← eqL_append _ _ (by rw [a1.len, b1.len]), hk, ← List.drop_drop, ← List.drop_drop, List.take_append_drop, List.take_append_drop]
    rw [e4, List.range'_succ]
    simp only [Op.eqItems, Sem.run_bind, e1, e2, e3, Result.andThen_ok]
    cases eqL ((cs.drop (k * ks.length)).take ks.length) ((ds.drop (k * ks.length)).take ks.length)
    · simp
    · simpa using ih
def chkF (g : TypeId → Option (Bool × List Kd)) : Nat → List Field → Option (List Kd)
  | _, [] => some []
  | off, f :: fs => if f.name = "_" ∨ f.offset ≠ off then none else match g f.type with
    | none => none
    | some r => match chkF g (off + r.2.length) fs with
      | none => none
      | some r2 => some (r.2 ++ r2)
def chk (P : Program) : Nat → TypeId → Option (Bool × List Kd)
  | 0, _ => none
  | d + 1, t => match P.underlying t with
    | some .bool => if (P.info? t).map (·.size) = some 1 then some (false, [.b]) else none
    | some .string => if (P.info? t).map (·.size) = some 1 then some (false, [.s]) else none
    | some (.int .i64) => if (P.info? t).map (·.size) = some 1 then some (false, [.i]) else none
    | some (.array n e) => match chk P d e with
      | none => none
      | some r => if (P.info? t).map (·.size) = some ((List.replicate n r.2).flatten.length) then some (true, (List.replicate n r.2).flatten) else none
    | some (.struct fs) => if P.stoodInHeld t = true then none else match chkF (chk P d) 0 fs.toList with
      | none => none
      | some ks => if (P.info? t).map (·.size) = some ks.length then some (true, ks) else none
    | _ => none
theorem ag_of {t : TypeId} {d : TypeDesc} (hu : P.underlying t = some d) (w : World) : (isAgg t).run P w = .ok (match d with | .struct _ | .array _ _ => true | _ => false) w := by
  unfold isAgg
  rw [Sem.run_bind, run_underlying hu w]
  cases d <;> rfl
theorem sz_of {t : TypeId} {n : Nat} (h : (P.info? t).map (·.size) = some n) (w : World) : (sizeOf t).run P w = .ok n w := by
  cases hq : P.info? t with
  | none => simp [hq] at h
  | some i =>
    have hs : i.size = n := by simpa [hq] using h
    simp [sizeOf, typeInfo, hq, hs]
theorem inf_of {t : TypeId} {n : Nat} (h : (P.info? t).map (·.size) = some n) : ∃ i, P.info? t = some i := by
  cases hq : P.info? t with
  | none => simp [hq] at h
  | some i => exact ⟨i, rfl⟩
theorem ok1 {k : Kd} {xs : List Value} (h : Ok [k] xs) : ∃ v, xs = [v] ∧ ok k v := by
  match xs, h with
  | [v], h => exact ⟨v, rfl, h.1⟩
  | _ :: _ :: _, h => exact h.2.elim
theorem chk_ok : ∀ (D : Nat) (t : TypeId) (ag : Bool) (ks : List Kd), chk P D t = some (ag, ks) → EqT P t D ag ks
  | 0, t, ag, ks, h => by cases h
  | D + 1, t, ag, ks, h => by
    unfold chk at h
    split at h
    · rename_i hu
      split at h
      · rename_i hs
        cases h
        refine ⟨ag_of hu, sz_of hs, inf_of hs, fun _ => rfl, fun d xs ys w h1 h2 => ?_⟩
        obtain ⟨a, rfl, n, rfl⟩ := ok1 h1
        obtain ⟨b, rfl, m, rfl⟩ := ok1 h2
        show (Op.equalIn (d + D + 1) t (.bool n) (.bool m)).run P w = _
        rw [run_equalIn_bool' (P := P) w (d + D) t n m hu]
        simp [eqL, eq1]
      · cases h
    · rename_i hu
      split at h
      · rename_i hs
        cases h
        refine ⟨ag_of hu, sz_of hs, inf_of hs, fun _ => rfl, fun d xs ys w h1 h2 => ?_⟩
        obtain ⟨a, rfl, n, rfl⟩ := ok1 h1
        obtain ⟨b, rfl, m, rfl⟩ := ok1 h2
        show (Op.equalIn (d + D + 1) t (.string n) (.string m)).run P w = _
        rw [run_equalIn_string (P := P) w (d + D) t n m hu]
        simp [eqL, eq1]
      · cases h
    · rename_i hu
      split at h
      · rename_i hs
        cases h
        refine ⟨ag_of hu, sz_of hs, inf_of hs, fun _ => rfl, fun d xs ys w h1 h2 => ?_⟩
        obtain ⟨a, rfl, n, rfl⟩ := ok1 h1
        obtain ⟨b, rfl, m, rfl⟩ := ok1 h2
        show (Op.equalIn (d + D + 1) t (.int .i64 n) (.int .i64 m)).run P w = _
        rw [run_equalIn_int (P := P) w (d + D) t .i64 .i64 n m hu]
        simp [eqL, eq1]
      · cases h
    · rename_i n e hu
      split at h
      · cases h
      · rename_i r hr
        obtain ⟨ag2, ks2⟩ := r
        split at h
        · rename_i hs
          cases h
          have hE := chk_ok D e ag2 ks2 hr
          refine ⟨ag_of hu, sz_of hs, inf_of hs, (fun h => by cases h), fun d xs ys w h1 h2 => ?_⟩
          obtain ⟨i, hi⟩ := hE.inf
          have hc : P.cellsOf e = ks2.length := by
            have e1 := run_sizeOf (P := P) w hi
            rw [hE.sz w] at e1
            injection e1 with e1 e2
            exact e1.symm
          have h9 := EqT.items hE d w xs ys n 0 (by simpa using h1) (by simpa using h2) (by simp) (by simp)
          show (Op.equalIn (d + D + 1) t (.agg xs.toArray) (.agg ys.toArray)).run P w = _
          rw [run_equalIn_array w (d + D) _ _ hu hi, hc, List.range_eq_range']
          simpa using h9
        · cases h
    · rename_i fs hu
      split at h
      · cases h
      · rename_i hp
        split at h
        · cases h
        · rename_i ks2 hr
          split at h
          · rename_i hs
            cases h
            have hff : P.fieldsOf t = fs := by unfold Program.fieldsOf; rw [hu]
            refine ⟨ag_of hu, sz_of hs, inf_of hs, (fun h => by cases h), fun d xs ys w h1 h2 => ?_⟩
            have h9 := EqT.flds (P := P) (D := D) (chk P D) (fun t ag ks h => chk_ok D t ag ks h) (chkF (chk P D)) (fun _ => rfl) (fun off f fs r h => by
              unfold chkF at h
              split at h
              · cases h
              · rename_i hno
                split at h
                · cases h
                · rename_i r1 hr1
                  split at h
                  · cases h
                  · rename_i r2 hr2
                    cases h
                    exact ⟨fun e => hno (.inl e), Classical.byContradiction fun e => hno (.inr e), r1.1, r1.2, r2, hr1, hr2, rfl⟩) d w fs.toList 0 ks xs ys hr (by simp) (by simp) (by simpa using h1) (by simpa using h2)
            show (Op.equalIn (d + D + 1) t (.agg xs.toArray) (.agg ys.toArray)).run P w = _
            rw [run_equalIn_struct w (d + D) t xs.toArray ys.toArray (by rw [hff]; exact hu) (by simpa using hp), hff]
            simpa using h9
          · cases h
    · cases h
/-- two structs are compared -/
theorem EqT.eql {t : TypeId} {ks : List Kd} (h : EqT P t 9 true ks) {xs ys : List Value} (h1 : Ok ks xs) (h2 : Ok ks ys) (w : World) : (binOp .eql t (.agg xs.toArray) (.agg ys.toArray)).run P w = .ok (.bool (eqL xs ys)) w := by
  rw [run_eql_struct]
  have h3 := h.eq 9991 xs ys w h1 h2
  rw [show (9991 + 9 : Nat) = 10000 from rfl] at h3
  show ((Op.equalIn 10000 t (.agg xs.toArray) (.agg ys.toArray)).run P w).andThen _ = _
  have h4 : (Op.equalIn 10000 t (.agg xs.toArray) (.agg ys.toArray)).run P w = .ok (eqL xs ys) w := h3
  rw [h4]; rfl
theorem EqT.neq {t : TypeId} {ks : List Kd} (h : EqT P t 9 true ks) {xs ys : List Value} (h1 : Ok ks xs) (h2 : Ok ks ys) (w : World) : (binOp .neq t (.agg xs.toArray) (.agg ys.toArray)).run P w = .ok (.bool (!eqL xs ys)) w := by
  rw [run_neq_struct]
  have h3 := h.eq 9991 xs ys w h1 h2
  rw [show (9991 + 9 : Nat) = 10000 from rfl] at h3
  have h4 : (Op.equalIn 10000 t (.agg xs.toArray) (.agg ys.toArray)).run P w = .ok (eqL xs ys) w := h3
  rw [h4]; rfl
end
end Cells
end Go.Proofs.Ytkfgedgjpgehoaa
