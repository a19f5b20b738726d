/- Several texts of this proof in one file, in the order in which they build: StTwo, MapIt, StoreC, Store7, StoreR, StMade, StCollL. No conditions but those that each theorem names. -/
import Derived.Test.YtfafehffnjbhnaaStAble
import Derived.Test.YtfafehffnjbhnaaStore6
import Derived.Test.YtfafehffnjbhnaaStoreQ
import Derived.Test.YtfafehffnjbhnaaMap
import Derived.StillTailTactics
section
/- Two stores side by side. Plain lemmas. -/
namespace Go.Proofs.Ytfafehffnjbhnaa
open Go.RowKit
set_option linter.unusedVariables false
set_option linter.unusedSimpArgs false
namespace Sto
open Vec
/-- store a (block ga, map ba) and store b, both above what there was when w was -/
structure Two (B : Nat) (W : World) (rng : Int) (ga ba : Nat) (mka : Col) (rsa : List LR) (gb bb : Nat) (mkb : Col) (rsb : List LR) : Prop where
  a : Mine B W ga ba rng mka rsa
  b : Mine B W gb bb rng mkb rsb
  ap : ∀ k, fpS ga ba rsa k → ¬ fpS gb bb rsb k
section
variable {B : Nat} {W W' : World} {rng : Int} {ga ba gb bb : Nat} {mka mkb mk' : Col} {rsa rsb rs' : List LR} {news : List Ent} {x : Ending} {S : Nat → Prop}
theorem Two.below (h : Two B W rng ga ba mka rsa gb bb mkb rsb) (hb : Below W.heap.size W W') : Two B W' rng ga ba mka rsa gb bb mkb rsb := ⟨h.a.below hb, h.b.below hb, h.ap⟩
theorem Two.swap (h : Two B W rng ga ba mka rsa gb bb mkb rsb) : Two B W rng gb bb mkb rsb ga ba mka rsa := ⟨h.b, h.a, fun k h1 h2 => h.ap k h2 h1⟩
theorem Two.turnA (h : Two B W rng ga ba mka rsa gb bb mkb rsb) (hB : B ≤ W.heap.size) (hS : SS W' ga ba rng mk' rs') (hG : Good rng (states rs')) (hk : Mem.Keeps (fpS ga ba rsa) W W') (hq : ∀ k, fpS ga ba rs' k → fpS ga ba rsa k ∨ W.heap.size ≤ k) :
    Two B W' rng ga ba mk' rs' gb bb mkb rsb :=
  ⟨⟨hS, hG, fun k hk9 => (hq k hk9).elim (h.a.a k) (fun h => Nat.le_trans hB h)⟩, ⟨h.b.S.keeps hk (fun k h1 h2 => h.ap k h2 h1), h.b.G, h.b.a⟩, fun k h1 h2 => by
    rcases hq k h1 with h3 | h3
    · exact h.ap k h3 h2
    · have := h.b.S.lt h2; omega⟩
theorem Two.putA (h : Two B W rng ga ba mka rsa gb bb mkb rsb) (hB : B ≤ W.heap.size) (he : PutEnd W ga ba rng mka rsa news x W') :
    ∃ rs', x = .returned (.int .i64 ((putL rng mka (states rsa) news).2 : Nat)) ∧ states rs' = (putL rng mka (states rsa) news).1 ∧ Two B W' rng ga ba mka rs' gb bb mkb rsb ∧ Mem.Keeps (fpS ga ba rsa) W W' := by
  obtain ⟨rs', h1, h2, h3, h4, h5, h6⟩ := he
  exact ⟨rs', h1, h2, h.turnA hB h3 h4 h5 h6, h5⟩
theorem Two.putB (h : Two B W rng ga ba mka rsa gb bb mkb rsb) (hB : B ≤ W.heap.size) (he : PutEnd W gb bb rng mkb rsb news x W') :
    ∃ rs', x = .returned (.int .i64 ((putL rng mkb (states rsb) news).2 : Nat)) ∧ states rs' = (putL rng mkb (states rsb) news).1 ∧ Two B W' rng ga ba mka rsa gb bb mkb rs' ∧ Mem.Keeps (fpS gb bb rsb) W W' := by
  obtain ⟨rs', h1, h2, h3, h4⟩ := h.swap.putA hB he
  exact ⟨rs', h1, h2, h3.swap, h4⟩
end
theorem two_new {w w3 w4 : World} {rng : Int} {ga ba gb bb : Nat} (h3 : SS w3 ga ba rng col0 []) (hg1 : w.heap.size ≤ ga) (hg2 : w.heap.size ≤ ba) (hs : w.heap.size ≤ w3.heap.size) (h4 : SS w4 gb bb rng col0 []) (hb : Below w3.heap.size w3 w4) (hg3 : w3.heap.size ≤ gb) (hg4 : w3.heap.size ≤ bb) :
    Two w.heap.size w4 rng ga ba col0 [] gb bb col0 [] := by
  have m3 := new_mine (w := w) h3 hg1 hg2
  have m4 := new_mine (w := w3) h4 hg3 hg4
  refine ⟨m3.below hb, ⟨m4.S, m4.G, fun k hk => Nat.le_trans hs (m4.a k hk)⟩, fun k h1 h2 => ?_⟩
  have := h3.lt h1
  have := m4.a k h2
  omega
end Sto
end Go.Proofs.Ytfafehffnjbhnaa
end
section
/- A map's entry gets another value while the map is ranged over. Plain lemmas. -/
namespace Go.Proofs.Ytfafehffnjbhnaa
open Go.RowKit Go.ChangeMaps Go.MapKept Go.Maps Go.WideMaps
set_option linter.unusedVariables false
set_option linter.unusedSimpArgs false
namespace Mem
theorem filter_modify {α : Type} {p : α → Bool} {f : α → α} : ∀ {l : List α} {j : Nat} {a : α}, l[j]? = some a → p a = false → p (f a) = false → (l.modify j f).filter p = l.filter p
  | [], _, _, h, _, _ => by simp at h
  | c :: l, 0, a, h, h1, h2 => by
    have hc : c = a := by simpa using h
    subst hc
    simp [List.modify, List.filter_cons, h1, h2]
  | c :: l, j + 1, a, h, h1, h2 => by
    have h3 : l[j]? = some a := by simpa using h
    have ih := filter_modify h3 h1 h2
    simp only [List.modify_succ_cons, List.filter_cons, ih]
section
variable {P : Program} {k : TypeId} {κ : Type} {K : κ → Value} {ok : κ → Prop} {w w' : World} {b r : Nat} {l left : List (κ × Value)}
theorem IterIs.put [DecidableEq κ] {t e : TypeId} (h : IterIs K ok w b r l left) (hK : MKey P k K ok) (ht : P.underlying t = some (.map k e)) {x : κ} (hx : ok x) (v : Value) (hin : ∃ v0, (x, v0) ∈ l) (hno : ∀ p ∈ left, p.1 ≠ x) :
    ∃ w', (Instr.mapUpdate t (.map (some b)) (K x) v).run P w = .ok () w' ∧ IterIs K ok w' b r (putL l x v) left ∧ Keeps (fun q => q = b) w w' ∧ w'.heap.size = w.heap.size := by
  have hn := h.is.nodup
  have hne := h.ne
  obtain ⟨es, clock, since, seen, c0, hb, hs, he, ho, hr, hold, hsc, hsk, hlf, hsub⟩ := h
  obtain ⟨lx, hlx⟩ := hK.lit hx
  obtain ⟨v0, hv0⟩ := hin
  rcases find_es (w := w) hK he ho hx with ⟨h1, h2, h3⟩ | ⟨j, e0, h1, h2, h3, h4⟩
  · exact (h3 _ hv0 rfl).elim
  · have hj : es[j]? = some e0 := by simpa using h2
    have hkeyf : ∀ e', es[j]? = some e' → ({ e' with key := K x, val := v } : MapEntry).key = e'.key := fun e' he' => by rw [hj] at he'; cases he'; exact h3.symm
    have hbo : seen.contains e0.born = true := by
      cases hc : seen.contains e0.born with
      | true => rfl
      | false =>
        have hm : e0 ∈ (leftOf es seen).toList := by
          unfold leftOf
          rw [Array.toList_filter, List.mem_filter]
          exact ⟨List.mem_of_getElem? h2, by rw [hc]; rfl⟩
        have h5 : (e0.key, e0.val) ∈ pairs K left := by rw [← hlf]; exact List.mem_map.2 ⟨e0, hm, rfl⟩
        obtain ⟨p, hp, hpe⟩ := List.mem_map.1 h5
        have h6 : K p.1 = K x := (congrArg Prod.fst hpe).trans h3
        exact (hno p hp (hK.inj h6)).elim
    have hlk : l.lookup x = some e0.val := lookup_at hn (List.mem_of_getElem? h4)
    refine ⟨setBlock w b (.map (es.modify j (fun e' => { e' with key := K x, val := v })) clock), ?_, ⟨_, _, since, seen, c0, (heap_set hb).1, stamped_modify hs _ _ (fun _ _ => rfl) (fun e' _ he' => hkeyf e' he'), ?_, ?_, ?_, ?_, hsc, hsk, ?_, ?_⟩, keeps_set hb, size_set _⟩
    · simp [Instr.mapUpdate, run_underlying ht, MapKept.run_getObj_map hb, hK.law.check w false hlx, h1, hj, h3, hK.law.stays w hlx, MapKept.run_setObj_map _ hb, Result.andThen, setBlock]
    · unfold putL
      rw [hlk, Option.isSome_some, if_pos rfl]
      apply List.ext_getElem?
      intro i
      have hei : (es.toList[i]?).map (fun e => (e.key, e.val)) = (l[i]?).map fun p => (K p.1, p.2) := by
        have := congrArg (fun q => q[i]?) he
        simpa [pairs] using this
      simp only [pairs, List.getElem?_map, Array.getElem?_toList, Array.getElem?_modify]
      by_cases hij : j = i
      · subst hij
        rw [h4, hj]
        simp
      · rw [if_neg hij, ← Array.getElem?_toList, hei]
        cases hl : l[i]? with
        | none => rfl
        | some p =>
          have hne : p.1 ≠ x := fun e1 => by
            have h5 : (l.map (·.1))[i]? = some x := by rw [List.getElem?_map, hl, ← e1]; rfl
            have h6 : (l.map (·.1))[j]? = some x := by rw [List.getElem?_map, h4]; rfl
            exact hij ((List.getElem?_inj (by exact (List.getElem?_eq_some_iff.1 h6).1) hn).1 (h6.trans h5.symm))
          simp [hne]
    · unfold putL
      rw [hlk, Option.isSome_some, if_pos rfl]
      intro p hp
      obtain ⟨q, hq, rfl⟩ := List.mem_map.1 hp
      split
      · exact hx
      · exact ho q hq
    · exact ((heap_set hb).2 r hne).trans hr
    · intro y hy
      rw [Array.toList_modify] at hy
      obtain ⟨i, hi⟩ := List.getElem?_of_mem hy
      rw [List.getElem?_modify] at hi
      cases hei : es.toList[i]? with
      | none => rw [hei] at hi; simp at hi
      | some e9 =>
        rw [hei] at hi
        have h9 := hold e9 (List.mem_of_getElem? hei)
        by_cases hij : j = i
        · simp [hij] at hi; rw [← hi]; exact h9
        · simp [hij] at hi; rw [← hi]; exact h9
    · rw [← hlf]
      congr 1
      unfold leftOf
      rw [Array.toList_filter, Array.toList_filter, Array.toList_modify]
      exact filter_modify h2 (by rw [hbo]; rfl) (by dsimp only; rw [hbo]; rfl)
    · intro p hp
      unfold putL
      rw [hlk, Option.isSome_some, if_pos rfl]
      exact List.mem_map.2 ⟨p, hsub p hp, by rw [if_neg (hno p hp)]⟩
end
section
variable {P : Program} {k : TypeId} {κ : Type} {K : κ → Value} {ok : κ → Prop} {w : World} {ops : Array Oper} {rest : List Oper} {a : Act} {Q : Exit → Act → World → Prop} {d : Option Tmp} {ty : TypeId} {ps : String} {af : Array Edge}
theorem wpList_iterPut [DecidableEq κ] {m x v : Operand} {t e : TypeId} (hK : MKey P k K ok) (ht : P.underlying t = some (.map k e)) (b r : Nat) (l left : List (κ × Value)) (y : κ) (u : Value) (hm : a.eval m = .map (some b)) (hx : a.eval x = K y) (hv : a.eval v = u) (h : IterIs K ok w b r l left) (hy : ok y) (hin : ∃ v0, (y, v0) ∈ l) (hno : ∀ p ∈ left, p.1 ≠ y)
    (hq : ∀ w', IterIs K ok w' b r (putL l y u) left → Keeps (fun q => q = b) w w' → w'.heap.size = w.heap.size → wpList P ops Q rest (a.put d undef) w') :
    wpList P ops Q ({ dst := d, op := .mapUpdate t m x v, type := ty, pos := ps, after := af, guard := none } :: rest) a w := by
  refine wpList_plain rfl fun K' hK' => ?_
  obtain ⟨w', hrun, r1, r2, r3⟩ := h.put hK ht hy u hin hno
  unfold Oper.wp
  simp [execOp, hm, hx, hv, hrun, Result.andThen]
  exact hK' _ _ (hq w' r1 r2 r3)
end
end Mem
end Go.Proofs.Ytfafehffnjbhnaa
end
section
/- What collecting does to a store's lists. Plain lemmas. -/
namespace Go.Proofs.Ytfafehffnjbhnaa
set_option linter.unusedVariables false
set_option linter.unusedSimpArgs false
namespace Sto
open Vec
def maxC (m c : Col) : Col := ⟨max m.a c.a, max m.b c.b, max m.c c.c⟩
/-- what is kept, the greatest first; has one that is covered been met -/
def kStep (mk : Col) (p : Bool × List Ent) (e : Ent) : Bool × List Ent := if under mk e = true then (if p.1 = true then p else (true, p.2 ++ [e])) else (p.1, p.2 ++ [e])
def kFold (mk : Col) (l : List Ent) : Bool × List Ent := l.foldl (kStep mk) (false, [])
theorem kFold_snoc (mk : Col) (l : List Ent) (e : Ent) : kFold mk (l ++ [e]) = kStep mk (kFold mk l) e := by unfold kFold; rw [List.foldl_append]; rfl
def kept (mk : Col) (es : List Ent) : List Ent := (kFold mk es.reverse).2.reverse
def collectS (mk : Col) (st : List Ls) : List Ls := st.map fun l => ⟨l.k, kept mk l.es⟩
/-- the same, told from the end -/
def kRec (mk : Col) : Bool → List Ent → List Ent
  | _, [] => []
  | f, e :: l => if under mk e = true then (if f = true then kRec mk true l else e :: kRec mk true l) else e :: kRec mk f l
theorem kFold_rec (mk : Col) : ∀ (l : List Ent) (f : Bool) (a : List Ent), (l.foldl (kStep mk) (f, a)).2 = a ++ kRec mk f l
  | [], f, a => by simp [kRec]
  | e :: l, f, a => by
    rw [List.foldl_cons]
    have hs : kStep mk (f, a) e = if under mk e = true then (if f = true then (f, a) else (true, a ++ [e])) else (f, a ++ [e]) := rfl
    rw [hs]
    unfold kRec
    by_cases hu : under mk e = true
    · rw [if_pos hu, if_pos hu]
      by_cases hf : f = true
      · subst hf
        rw [if_pos rfl, if_pos rfl, kFold_rec mk l true a]
      · rw [if_neg hf, if_neg hf, kFold_rec mk l true _, List.append_assoc]
        rfl
    · rw [if_neg hu, if_neg hu, kFold_rec mk l f _, List.append_assoc]
      rfl
theorem kFold_eq (mk : Col) (l : List Ent) : (kFold mk l).2 = kRec mk false l := by unfold kFold; rw [kFold_rec]; rfl
theorem kRec_sub (mk : Col) : ∀ (f : Bool) (l : List Ent), (kRec mk f l).Sublist l
  | _, [] => List.Sublist.refl _
  | f, e :: l => by
    unfold kRec
    split
    · split
      · exact (kRec_sub mk true l).cons e
      · exact (kRec_sub mk true l).cons_cons e
    · exact (kRec_sub mk f l).cons_cons e
theorem kept_sub (mk : Col) (es : List Ent) : (kept mk es).Sublist es := by
  unfold kept
  rw [kFold_eq]
  have := (kRec_sub mk false es.reverse).reverse
  rwa [List.reverse_reverse] at this
theorem kRec_ne (mk : Col) (l : List Ent) (h : l ≠ []) : kRec mk false l ≠ [] := by
  cases l with
  | nil => exact absurd rfl h
  | cons e l =>
    unfold kRec
    split
    · simp
    · simp
theorem kept_ne (mk : Col) {es : List Ent} (h : es ≠ []) : kept mk es ≠ [] := by
  unfold kept
  rw [kFold_eq]
  intro e
  exact kRec_ne mk es.reverse (by simpa using h) (by simpa using e)
theorem kFold_le (mk : Col) (l : List Ent) : (kFold mk l).2.length ≤ l.length := by rw [kFold_eq]; exact (kRec_sub mk false l).length_le
/-- of those that are covered at most one is kept -/
theorem kRec_few (mk : Col) : ∀ (f : Bool) (l : List Ent), ((kRec mk f l).filter (under mk)).length ≤ (if f = true then 0 else 1)
  | f, [] => by simp [kRec]
  | f, e :: l => by
    have h1 := kRec_few mk true l
    have h2 := kRec_few mk f l
    unfold kRec
    by_cases hu : under mk e = true
    · rw [if_pos hu]
      by_cases hf : f = true
      · rw [if_pos hf, if_pos hf]; simpa using h1
      · rw [if_neg hf, if_neg hf, List.filter_cons, if_pos hu, List.length_cons]
        simp only [if_true] at h1
        omega
    · rw [if_neg hu, List.filter_cons, if_neg hu]
      exact h2
theorem kept_few (mk : Col) (es : List Ent) : ((kept mk es).filter (under mk)).length ≤ 1 := by
  unfold kept
  rw [kFold_eq, List.filter_reverse, List.length_reverse]
  exact kRec_few mk false es.reverse
theorem kRec_again (mk : Col) : ∀ (f : Bool) (l : List Ent), kRec mk f (kRec mk f l) = kRec mk f l
  | f, [] => rfl
  | f, e :: l => by
    have h1 := kRec_again mk true l
    have h2 := kRec_again mk f l
    by_cases hu : under mk e = true
    · by_cases hf : f = true
      · subst hf
        have e1 : kRec mk true (e :: l) = kRec mk true l := by conv => lhs; unfold kRec; rw [if_pos hu, if_pos rfl]
        rw [e1, h1]
      · have e1 : kRec mk f (e :: l) = e :: kRec mk true l := by conv => lhs; unfold kRec; rw [if_pos hu, if_neg hf]
        have e2 : kRec mk f (e :: kRec mk true l) = e :: kRec mk true (kRec mk true l) := by conv => lhs; unfold kRec; rw [if_pos hu, if_neg hf]
        rw [e1, e2, h1]
    · have e1 : ∀ l, kRec mk f (e :: l) = e :: kRec mk f l := fun l => by conv => lhs; unfold kRec; rw [if_neg hu]
      rw [e1, e1, h2]
theorem kept_again (mk : Col) (es : List Ent) : kept mk (kept mk es) = kept mk es := by
  unfold kept
  rw [List.reverse_reverse, kFold_eq, kFold_eq, kRec_again]
theorem collect_again (mk : Col) (st : List Ls) : collectS mk (collectS mk st) = collectS mk st := by
  unfold collectS
  rw [List.map_map]
  refine List.map_congr_left fun l _ => ?_
  show Ls.mk l.k (kept mk (kept mk l.es)) = _
  rw [kept_again]
theorem collect_keys (mk : Col) (st : List Ls) : (collectS mk st).map (·.k) = st.map (·.k) := by
  unfold collectS
  rw [List.map_map]
  rfl
theorem collect_sub (mk : Col) : ∀ st : List Ls, (all (collectS mk st)).Sublist (all st)
  | [] => List.Sublist.refl _
  | a :: st => by
    show (kept mk a.es ++ all (collectS mk st)).Sublist (a.es ++ all st)
    exact (kept_sub mk a.es).append (collect_sub mk st)
theorem Good.collect {rng : Int} {st : List Ls} (h : Good rng st) (mk : Col) : Good rng (collectS mk st) := by
  refine ⟨fun l hl => ?_, fun l hl x hx => ?_, fun l hl => ?_, ?_, ?_⟩
  · obtain ⟨l0, hl0, rfl⟩ := List.mem_map.1 hl
    exact kept_ne mk (h.ne l0 hl0)
  · obtain ⟨l0, hl0, rfl⟩ := List.mem_map.1 hl
    exact h.ok l0 hl0 x ((kept_sub mk l0.es).subset hx)
  · obtain ⟨l0, hl0, rfl⟩ := List.mem_map.1 hl
    exact (h.so l0 hl0).sublist (kept_sub mk l0.es)
  · show ((collectS mk st).map (·.k)).Nodup
    rw [collect_keys]; exact h.kd
  · exact h.dd.sublist (collect_sub mk st)
theorem collect_len (mk : Col) (st : List Ls) : lenS (collectS mk st) ≤ lenS st := by
  rw [← all_len, ← all_len]
  exact (collect_sub mk st).length_le
theorem vers_collect (mk : Col) : ∀ (st : List Ls) (k : ByteArray), vers (collectS mk st) k = kept mk (vers st k)
  | [], k => rfl
  | a :: st, k => by
    show vers (⟨a.k, kept mk a.es⟩ :: collectS mk st) k = kept mk (vers (a :: st) k)
    unfold vers
    by_cases h : a.k = k
    · rw [if_pos h, if_pos h]
    · rw [if_neg h, if_neg h, vers_collect mk st k]
theorem maxC_idem (m c : Col) : maxC (maxC m c) c = maxC m c := by
  unfold maxC
  dsimp only
  congr 1 <;> omega
end Sto
end Go.Proofs.Ytfafehffnjbhnaa
end
section
/- The walk of a store's Collect. Stores that are few. -/
set_option maxRecDepth 8000
namespace Go.Proofs.Ytfafehffnjbhnaa
open Go.ChangeShapes Go.WideShapes Go.ChangeAt Go.RowKit
set_option linter.unusedVariables false
set_option linter.unusedSimpArgs false
namespace Sto
open Vec
def mkTo (m c : Col) : Nat → Col
  | 0 => m
  | 1 => ⟨max m.a c.a, m.b, m.c⟩
  | 2 => ⟨max m.a c.a, max m.b c.b, m.c⟩
  | _ => maxC m c
/-- the receiver's box -/
abbrev SBx (w : World) (h g : Nat) : Prop := Mem.Bx w 30 1 h [.pointer (some ⟨g, 0, none⟩)]
structure CoAt (w : World) (g b : Nat) (rng : Int) (mk : Col) (rs : List LR) (w0 : World) : Prop where
  S : SS w0 g b rng mk rs
  X : SBx w0 w.heap.size g
  k : Mem.Keeps (fun q => q = g) w w0
  z : w.heap.size + 2 ≤ w0.heap.size
/-- behind the mark's turn: the count of what goes, in a box g7 -/
structure CzAt (w : World) (g b : Nat) (rng : Int) (mk : Col) (rs : List LR) (g7 : Nat) (n : Nat) (w1 : World) : Prop where
  S : SS w1 g b rng mk rs
  X : SBx w1 w.heap.size g
  N : Mem.Bx w1 3 1 g7 [.int .i64 (n : Nat)]
  k : Mem.Keeps (fun q => q = g) w w1
  z : w.heap.size + 2 ≤ g7
def inL (lf : List LR) (k : ByteArray) : Bool := lf.any fun r => decide (r.l.k = k)
/-- the lists, of which those of lf are still to come -/
def mix (mk : Col) (lf : List LR) (st : List Ls) : List Ls := st.map fun l => if inL lf l.k = true then l else ⟨l.k, kept mk l.es⟩
structure CoRel (w : World) (g b : Nat) (rng : Int) (mk : Col) (rs0 : List LR) (g7 : Nat) (Ds : List Nat) (cur lf : List LR) (wr : World) : Prop where
  st : states cur = mix mk lf (states rs0)
  sub : ∀ r ∈ lf, r ∈ cur
  nd : (lf.map (·.l.k)).Nodup
  S : SS wr g b rng mk cur
  X : SBx wr w.heap.size g
  N : Mem.Bx wr 3 1 g7 [.int .i64 ((lenS (states rs0) - lenS (states cur) : Nat) : Int)]
  I : Mem.IterIs Value.string okS wr b (g7 + 1) (cur.map ent) (lf.map ent)
  dn : Ds.Nodup
  dm : ∀ D ∈ Ds, wr.heap[D]? = some (.deferred (some []))
  dz : ∀ D ∈ Ds, g7 + 2 ≤ D
  k : Mem.Keeps (fpS g b rs0) w wr
  q : ∀ k, fpS g b cur k → fpS g b rs0 k ∨ g7 + 2 ≤ k
  le : lenS (states cur) ≤ lenS (states rs0)
theorem SS.real {w : World} {g b : Nat} {rng : Int} {mk : Col} {rs : List LR} (h : SS w g b rng mk rs) {q : Nat} (hq : fpS g b rs q) {x : Option (List Deferred)} : w.heap[q]? ≠ some (.deferred x) := by
  intro e
  have own : ∀ {t : TypeId} {sz n c : Nat} {A : Option Addr} {xs : List Value}, Mem.Own w t sz A n c xs → Mem.blk A = some q → False := fun ho hb => by
    rcases ho.2 with ⟨h0, _⟩ | ⟨g', o', cur, h0, hg', _⟩
    · rw [h0] at hb; cases hb
    · rw [h0] at hb; cases hb; rw [hg'] at e; cases e
  rcases hq with rfl | rfl | ⟨r, hr, hb⟩
  · exact own h.B rfl
  · obtain ⟨es, clock, hb, _⟩ := h.M
    rw [hb] at e; cases e
  · exact own (h.O r hr) hb
theorem mix_nil (mk : Col) (st : List Ls) : mix mk [] st = collectS mk st := by
  unfold mix collectS
  refine List.map_congr_left fun l _ => ?_
  rw [if_neg (by simp [inL])]
theorem mix_mem {mk : Col} {lf : List LR} {st : List Ls} {l : Ls} (h : l ∈ mix mk lf st) (hl : inL lf l.k = true) : l ∈ st := by
  obtain ⟨l0, h0, e⟩ := List.mem_map.1 h
  by_cases hi : inL lf l0.k = true
  · rw [if_pos hi] at e; exact e ▸ h0
  · rw [if_neg hi] at e
    subst e
    exact (hi hl).elim
/-- one list more is done -/
theorem mix_step {mk : Col} {lf : List LR} {i : Nat} {r : LR} {st : List Ls} {pre post : List Ls} (hi : lf[i]? = some r) (hn : (lf.map (·.l.k)).Nodup) (hst : pre ++ r.l :: post = mix mk lf st) (hnd : (st.map (·.k)).Nodup) :
    pre ++ ⟨r.l.k, kept mk r.l.es⟩ :: post = mix mk (lf.eraseIdx i) st := by
  have hin : ∀ k, k ≠ r.l.k → inL (lf.eraseIdx i) k = inL lf k := fun k hk => by
    have hp := erase_perm hi
    unfold inL
    rw [← hp.any_eq]
    rw [List.any_cons]
    have : decide (r.l.k = k) = false := by simpa using fun e => hk e.symm
    rw [this, Bool.false_or]
  have hno : inL (lf.eraseIdx i) r.l.k = false := by
    have hp := (erase_perm hi).map (fun q : LR => q.l.k)
    have hn2 := hp.symm.nodup hn
    rw [List.map_cons, List.nodup_cons] at hn2
    unfold inL
    rw [List.any_eq_false]
    intro q hq e
    exact hn2.1 (List.mem_map.2 ⟨q, hq, by simpa using e⟩)
  have hyes : inL lf r.l.k = true := List.any_eq_true.2 ⟨r, List.mem_of_getElem? hi, by simp⟩
  have hk : (pre ++ r.l :: post).map (·.k) = st.map (·.k) := by
    rw [hst]
    unfold mix
    rw [List.map_map]
    refine List.map_congr_left fun l _ => ?_
    show (if inL lf l.k = true then l else _).k = l.k
    split <;> rfl
  have hmap : mix mk (lf.eraseIdx i) st = (mix mk lf st).map fun l => if l.k = r.l.k then ⟨l.k, kept mk l.es⟩ else l := by
    unfold mix
    rw [List.map_map]
    refine List.map_congr_left fun l _ => ?_
    show (if inL (lf.eraseIdx i) l.k = true then l else _) = (fun l : Ls => if l.k = r.l.k then (⟨l.k, kept mk l.es⟩ : Ls) else l) (if inL lf l.k = true then l else _)
    by_cases h : l.k = r.l.k
    · rw [h, hno, hyes]
      simp [h]
    · rw [hin _ h]
      by_cases h2 : inL lf l.k = true
      · simp [h2, h]
      · simp [h2, h]
  rw [hmap, ← hst, List.map_append, List.map_cons, if_pos rfl]
  rw [← hk, List.map_append, List.map_cons] at hnd
  rw [List.nodup_append, List.nodup_cons] at hnd
  have e1 : pre.map (fun l => if l.k = r.l.k then (⟨l.k, kept mk l.es⟩ : Ls) else l) = pre := by
    conv => rhs; rw [← List.map_id pre]
    refine List.map_congr_left fun l hl => ?_
    rw [if_neg (fun e => hnd.2.2 l.k (List.mem_map.2 ⟨l, hl, rfl⟩) r.l.k List.mem_cons_self e)]
    rfl
  have e2 : post.map (fun l => if l.k = r.l.k then (⟨l.k, kept mk l.es⟩ : Ls) else l) = post := by
    conv => rhs; rw [← List.map_id post]
    refine List.map_congr_left fun l hl => ?_
    rw [if_neg (fun e => hnd.2.1.1 (List.mem_map.2 ⟨l, hl, e⟩))]
    rfl
  rw [e1, e2]
/-- in a list's walk: what is kept so far (block gk), has a covered one been met (gk + 1), how many have gone (g7) -/
structure RdAt (g7 gk : Nat) (p : Bool × List Ent) (n : Nat) (W : World) : Prop where
  K : ∃ Ak ck, Mem.Bx W 22 1 gk [.slice Ak p.2.length ck] ∧ EOwn W Ak ck p.2 ∧ ∀ q, Mem.blk Ak = some q → gk + 3 ≤ q
  F : Mem.Bx W 4 1 (gk + 1) [.bool p.1]
  N : Mem.Bx W 3 1 g7 [.int .i64 (n : Nat)]
theorem RdAt.row {g7 gk : Nat} {p : Bool × List Ent} {n : Nat} {X Y : World} {row : Option Nat} (h : RdAt g7 gk p n X) (hg : X.grownBy Y row) (hr : ∀ r, row = some r → ∃ o : Obj, X.heap[r]? = some o ∧ o.isCells = false) : RdAt g7 gk p n Y := by
  obtain ⟨⟨Ak, ck, h1, h2, h3⟩, h4, h5⟩ := h
  exact ⟨⟨Ak, ck, Reg.Bx_kept h1 hg hr, Reg.Own_kept h2 hg hr, h3⟩, Reg.Bx_kept h4 hg hr, Reg.Bx_kept h5 hg hr⟩
theorem RdAt.below {g7 gk : Nat} {p : Bool × List Ent} {n : Nat} {X Y : World} (h : RdAt g7 gk p n X) (hb : Below X.heap.size X Y) : RdAt g7 gk p n Y := by
  obtain ⟨⟨Ak, ck, h1, h2, h3⟩, h4, h5⟩ := h
  exact ⟨⟨Ak, ck, h1.below hb h1.lt, h2.below hb (fun k hk => h2.lt hk), h3⟩, h4.below hb h4.lt, h5.below hb h5.lt⟩
/-- what a list's walk turns -/
abbrev RdS (g7 gk : Nat) (q : Nat) : Prop := q = g7 ∨ q = gk ∨ q = gk + 1 ∨ gk + 3 ≤ q
theorem ls_le {rs : List LR} {r : LR} (h : r ∈ rs) : r.l.es.length ≤ lenS (states rs) := by
  induction rs with
  | nil => cases h
  | cons a rs ih =>
    have h2 : lenS (states (a :: rs)) = a.l.es.length + lenS (states rs) := by simp [lenS, states]
    rw [h2]
    rcases List.mem_cons.1 h with rfl | h
    · omega
    · have := ih h; omega
/-- a list gets another place, the map told so -/
theorem SS.turn2 {w w' : World} {g b : Nat} {rng : Int} {mk : Col} {pre post : List LR} {r r' : LR} (h : SS w g b rng mk (pre ++ r :: post)) (hM : Mem.MapIs Value.string okS w' b ((pre ++ r' :: post).map ent)) (hO : EOwn w' r'.A r'.c r'.l.es)
    (hk : Mem.Keeps (fun k => k = b) w w') (hq : ∀ k, r'.fp k → ¬ fpS g b (pre ++ r :: post) k) : SS w' g b rng mk (pre ++ r' :: post) := by
  have hS := h.S
  have hsub : ∀ q ∈ pre ++ post, q ∈ pre ++ r :: post := fun q hq => by rcases List.mem_append.1 hq with h1 | h1 <;> simp [h1]
  have split : ∀ q ∈ pre ++ r' :: post, q = r' ∨ q ∈ pre ++ post := fun q hq => by
    rcases List.mem_append.1 hq with h1 | h1
    · exact .inr (List.mem_append_left _ h1)
    · rcases List.mem_cons.1 h1 with h1 | h1
      · exact .inl h1
      · exact .inr (List.mem_append_right _ h1)
  have hp := hS.p
  rw [List.pairwise_append, List.pairwise_cons] at hp
  obtain ⟨hp1, ⟨hp2, hp3⟩, hp4⟩ := hp
  refine ⟨h.B.keeps hk hS.gb, hM, fun q hq9 => ?_, hS.gb, fun q hq9 k hf => ?_, ?_⟩
  · rcases split q hq9 with rfl | h1
    · exact hO
    · exact (h.O q (hsub q h1)).keeps hk (fun k hf => (hS.f q (hsub q h1) k hf).2)
  · rcases split q hq9 with rfl | h1
    · exact ⟨fun e => hq k hf (.inl e), fun e => hq k hf (.inr (.inl e))⟩
    · exact hS.f q (hsub q h1) k hf
  · rw [List.pairwise_append, List.pairwise_cons]
    refine ⟨hp1, ⟨fun q hq9 k h1 h2 => hq k h1 (.inr (.inr ⟨q, by simp [hq9], h2⟩)), hp3⟩, fun q hq9 s hs k h1 h2 => ?_⟩
    rcases List.mem_cons.1 hs with rfl | hs
    · exact hq k h2 (.inr (.inr ⟨q, by simp [hq9], h1⟩))
    · exact hp4 q hq9 s (List.mem_cons_of_mem _ hs) k h1 h2
theorem lenS_mid (pre post : List Ls) (l : Ls) : lenS (pre ++ l :: post) = lenS (pre ++ post) + l.es.length := by
  simp [lenS]; omega
theorem keepsFrom_cells {B : Nat} {W W' : World} {S : Nat → Prop} (h : Mem.Keeps S W W') (hS : ∀ k o, S k → B ≤ k → W.heap[k]? = some o → o.isCells = true) : KeepsFrom B W W' :=
  ⟨h.size, fun k o hB hk ho => by
    by_cases hs : S k
    · have := hS k o hs hB hk
      rw [ho] at this
      cases this
    · exact (h.block k (Array.getElem?_eq_some_iff.1 hk).1 hs).trans hk⟩
theorem own_cells {W : World} {t : TypeId} {sz n c : Nat} {A : Option Addr} {xs : List Value} (h : Mem.Own W t sz A n c xs) {k : Nat} (hb : Mem.blk A = some k) {o : Obj} (ho : W.heap[k]? = some o) : o.isCells = true := by
  rcases h.2 with ⟨h0, _⟩ | ⟨g', o', cur, h0, hg', _⟩
  · rw [h0] at hb; cases hb
  · rw [h0] at hb; cases hb; rw [hg'] at ho; cases ho; rfl
structure CmRel (w : World) (g b : Nat) (rng : Int) (mk c : Col) (rs : List LR) (v15 : Value) (wr : World) : Prop where
  out : ∃ k : Nat, k ≤ 3 ∧ v15 = .int .i64 k ∧ Hid (CoAt w g b rng (mkTo mk c k) rs wr)
end Sto
theorem index_col (c : Vec.Col) (W : World) : (Instr.index 26 (Vec.C c) (.int .i64 0)).run Try.prog W = .ok (.int .i64 c.a) W ∧ (Instr.index 26 (Vec.C c) (.int .i64 1)).run Try.prog W = .ok (.int .i64 c.b) W ∧ (Instr.index 26 (Vec.C c) (.int .i64 2)).run Try.prog W = .ok (.int .i64 c.c) W := by
  have hu := Try.underlying26
  refine ⟨?_, ?_, ?_⟩ <;> simp [Instr.index, run_underlying hu, asIntOf, part, go_sem]
open Sto Vec in
set_option maxRecDepth 20000 in
set_option maxHeartbeats 8000000 in
theorem storeCollect_any {w : World} {g b : Nat} {rng : Int} {mk : Vec.Col} {rs0 : List Sto.LR} (h : Sto.SS w g b rng mk rs0) (hG : Sto.Good rng (Sto.states rs0)) (hln : Sto.lenS (Sto.states rs0) ≤ 1000000) (c : Vec.Col) :
    Calls Try.prog 20 #[.pointer (some ⟨g, 0, none⟩), Vec.C c] w fun x w' =>
      ∃ rs', x = .returned (.int .i64 ((Sto.lenS (Sto.states rs0) - Sto.lenS (Sto.states rs') : Nat))) ∧ Sto.states rs' = Sto.collectS (Sto.maxC mk c) (Sto.states rs0) ∧ Sto.SS w' g b rng (Sto.maxC mk c) rs' ∧ Mem.Keeps (Sto.fpS g b rs0) w w' ∧ ∀ q, Sto.fpS g b rs' q → Sto.fpS g b rs0 q ∨ w.heap.size ≤ q := by
  refine (callsIn_wide (n := 9)).1 (callsIn_of_wp_marks Try.func20 rfl trivial ?_ rfl)
  simp only [Try.ntmps20, List.size_toArray, List.length_cons, List.length_nil, Nat.reduceAdd, Nat.reduceSub, Array.replicate_succ, Array.replicate_zero, List.push_toArray, List.append_toArray, List.nil_append, List.cons_append]
  refine wpIn_wide.2 ?_
  have hgw : g < w.heap.size := h.B.lt
  go_upto_region 1 with fail
  refine Reg.wp_gen (fun w0 => CoAt w g b rng mk rs0 w0 ∧ CBx w0 (w.heap.size + 1) c) ⟨⟨?_, ?_, ?_, ?_⟩, ?_⟩ ?_
  · exact (h.below (Reg.below_new w _)).below (Reg.below_new _ _)
  · exact (Mem.Bx.new w 30 #[.pointer (some ⟨g, 0, none⟩)] rfl rfl).keeps ((Mem.Keeps.refl (fun _ => False) _).alloc _) id
  · exact ((Mem.Keeps.refl _ w).alloc _).alloc _
  · simp
  · exact Mem.Bx.new (w.alloc _) 26 (colCells c).toArray rfl (by simp)
  rintro w0 ⟨hA0, hC0⟩
  have HA0 := Lib.hid hA0
  have x0 := hC0.cell (j := 0) rfl
  have x1 := hC0.cell (j := 1) rfl
  have x2 := hC0.cell (j := 2) rfl
  have H := Lib.hid h
  have HG := Lib.hid hG
  clear hA0 hC0 h hG
  go_wp2
  go_loopw [15] (CmRel w g b rng mk c rs0) (fun t _ => 3 - (intOf t).toNat)
  case atStart => exact ⟨⟨0, by omega, rfl, HA0⟩⟩
  case round =>
    obtain ⟨k, hk, rfl, HA⟩ := hrel.out
    clear hrel HA0 x0 x1 x2
    have hc : k = 0 ∨ k = 1 ∨ k = 2 ∨ k = 3 := by omega
    rcases hc with rfl | rfl | rfl | rfl
    ·
      have hix := fun W => (index_col c W).1
      have y0 := HA.out.S.B.cell (j := 2) rfl
      have f1 := HA.out.S.B.fr 2
      have s0 := HA.out.X.cell (j := 0) rfl
      have hmx : ∀ ts t W, (Builtin.max_ ts t #[.int .i64 mk.a, .int .i64 c.a]).run Try.prog W = .ok (.int .i64 (max mk.a c.a)) W := fun ts t W => run_max2 ts t W _ _
      go_upto_region 4 with fail
      refine Reg.still_tail 13 (by kernel_rfl) (by kernel_rfl) ?_
      intro w5 hw5
      simp only [List.take_succ_cons, List.take_zero, List.drop_succ_cons, List.drop_zero]
      have y0' : w5.cell? ⟨g, 2, none⟩ = some (.int .i64 mk.a) := by rw [hw5]; exact y0
      have f1' : w5.frozen? ⟨g, 2, none⟩ = false := by rw [hw5]; exact f1
      have s0' : w5.cell? ⟨w.heap.size, 0, none⟩ = some (.pointer (some ⟨g, 0, none⟩)) := by rw [hw5]; exact s0
      have HK5 : Hid (Mem.Keeps (fun _ => False) wr w5) := by show Mem.Keeps _ _ _; rw [hw5]; exact (Mem.Keeps.refl _ wr).drew
      clear hw5 y0 f1 s0
      repeat still_step
      refine wpStill_nil ?_
      go_wp2
      go_roundw
      case rel =>
        refine ⟨⟨0 + 1, by omega, rfl, ?_⟩⟩
        have hs5 := HA.out.S.keeps HK5.out (fun _ _ h => h)
        have hk6 : Mem.Keeps (fun q => q = g) w5 (w5.setCell ⟨g, 2, none⟩ (.int .i64 (max mk.a c.a))) := (Mem.Keeps.refl (fun q => q = g) w5).setCell (p := ⟨g, 2, none⟩) (fun _ => rfl) _
        have hk7 := ((HK5.out.mono (T := fun q => q = g) (fun _ h _ => h.elim)).trans hk6 (fun _ h _ => h))
        refine ⟨hs5.mark (hs5.B.set 2 (.int .i64 (max mk.a c.a))) hk6, HA.out.X.keeps hk7 (by omega), HA.out.k.trans hk7 (fun _ h _ => h), Nat.le_trans HA.out.z hk7.size⟩
      case measure => simp [intOf]
    ·
      have hix := fun W => (index_col c W).2.1
      have y0 := HA.out.S.B.cell (j := 3) rfl
      have f1 := HA.out.S.B.fr 3
      have s0 := HA.out.X.cell (j := 0) rfl
      have hmx : ∀ ts t W, (Builtin.max_ ts t #[.int .i64 mk.b, .int .i64 c.b]).run Try.prog W = .ok (.int .i64 (max mk.b c.b)) W := fun ts t W => run_max2 ts t W _ _
      go_upto_region 4 with fail
      refine Reg.still_tail 13 (by kernel_rfl) (by kernel_rfl) ?_
      intro w5 hw5
      simp only [List.take_succ_cons, List.take_zero, List.drop_succ_cons, List.drop_zero]
      have y0' : w5.cell? ⟨g, 3, none⟩ = some (.int .i64 mk.b) := by rw [hw5]; exact y0
      have f1' : w5.frozen? ⟨g, 3, none⟩ = false := by rw [hw5]; exact f1
      have s0' : w5.cell? ⟨w.heap.size, 0, none⟩ = some (.pointer (some ⟨g, 0, none⟩)) := by rw [hw5]; exact s0
      have HK5 : Hid (Mem.Keeps (fun _ => False) wr w5) := by show Mem.Keeps _ _ _; rw [hw5]; exact (Mem.Keeps.refl _ wr).drew
      clear hw5 y0 f1 s0
      repeat still_step
      refine wpStill_nil ?_
      go_wp2
      go_roundw
      case rel =>
        refine ⟨⟨1 + 1, by omega, rfl, ?_⟩⟩
        have hs5 := HA.out.S.keeps HK5.out (fun _ _ h => h)
        have hk6 : Mem.Keeps (fun q => q = g) w5 (w5.setCell ⟨g, 3, none⟩ (.int .i64 (max mk.b c.b))) := (Mem.Keeps.refl (fun q => q = g) w5).setCell (p := ⟨g, 3, none⟩) (fun _ => rfl) _
        have hk7 := ((HK5.out.mono (T := fun q => q = g) (fun _ h _ => h.elim)).trans hk6 (fun _ h _ => h))
        refine ⟨hs5.mark (hs5.B.set 3 (.int .i64 (max mk.b c.b))) hk6, HA.out.X.keeps hk7 (by omega), HA.out.k.trans hk7 (fun _ h _ => h), Nat.le_trans HA.out.z hk7.size⟩
      case measure => simp [intOf]
    ·
      have hix := fun W => (index_col c W).2.2
      have y0 := HA.out.S.B.cell (j := 4) rfl
      have f1 := HA.out.S.B.fr 4
      have s0 := HA.out.X.cell (j := 0) rfl
      have hmx : ∀ ts t W, (Builtin.max_ ts t #[.int .i64 mk.c, .int .i64 c.c]).run Try.prog W = .ok (.int .i64 (max mk.c c.c)) W := fun ts t W => run_max2 ts t W _ _
      go_upto_region 4 with fail
      refine Reg.still_tail 13 (by kernel_rfl) (by kernel_rfl) ?_
      intro w5 hw5
      simp only [List.take_succ_cons, List.take_zero, List.drop_succ_cons, List.drop_zero]
      have y0' : w5.cell? ⟨g, 4, none⟩ = some (.int .i64 mk.c) := by rw [hw5]; exact y0
      have f1' : w5.frozen? ⟨g, 4, none⟩ = false := by rw [hw5]; exact f1
      have s0' : w5.cell? ⟨w.heap.size, 0, none⟩ = some (.pointer (some ⟨g, 0, none⟩)) := by rw [hw5]; exact s0
      have HK5 : Hid (Mem.Keeps (fun _ => False) wr w5) := by show Mem.Keeps _ _ _; rw [hw5]; exact (Mem.Keeps.refl _ wr).drew
      clear hw5 y0 f1 s0
      repeat still_step
      refine wpStill_nil ?_
      go_wp2
      go_roundw
      case rel =>
        refine ⟨⟨2 + 1, by omega, rfl, ?_⟩⟩
        have hs5 := HA.out.S.keeps HK5.out (fun _ _ h => h)
        have hk6 : Mem.Keeps (fun q => q = g) w5 (w5.setCell ⟨g, 4, none⟩ (.int .i64 (max mk.c c.c))) := (Mem.Keeps.refl (fun q => q = g) w5).setCell (p := ⟨g, 4, none⟩) (fun _ => rfl) _
        have hk7 := ((HK5.out.mono (T := fun q => q = g) (fun _ h _ => h.elim)).trans hk6 (fun _ h _ => h))
        refine ⟨hs5.mark (hs5.B.set 4 (.int .i64 (max mk.c c.c))) hk6, HA.out.X.keeps hk7 (by omega), HA.out.k.trans hk7 (fun _ h _ => h), Nat.le_trans HA.out.z hk7.size⟩
      case measure => simp [intOf]
    · go_upto_region 7 with fail
      refine Reg.wp_gen (fun w1 => CzAt w g b rng (maxC mk c) rs0 wr.heap.size 0 w1 ∧ w1.heap.size = wr.heap.size + 1) ⟨⟨?_, ?_, ?_, ?_, ?_⟩, ?_⟩ ?_
      · exact HA.out.S.below (Reg.below_new _ _)
      · exact HA.out.X.below (Reg.below_new _ _) HA.out.X.lt
      · exact Mem.Bx.new wr 3 #[.int .i64 0] rfl rfl
      · exact HA.out.k.trans (Mem.Keeps.of_below (Reg.below_new _ _)) (fun _ h _ => h.elim)
      · exact HA.out.z
      · simp
      rintro w1 ⟨hA1, hs1⟩
      obtain ⟨g7, hg7⟩ : ∃ g7, wr.heap.size = g7 := ⟨_, rfl⟩
      rw [hg7] at hA1 hs1 ⊢
      have HA1 := Lib.hid hA1
      have s0 := HA1.out.X.cell (j := 0) rfl
      have m0 := HA1.out.S.B.cell (j := 1) rfl
      obtain ⟨w2, hrun, hI, hk2, hs2⟩ := HA1.out.S.M.range (P := Try.prog) Try.underlying69
      obtain ⟨gt, hgt⟩ : ∃ gt, w1.heap.size = gt := ⟨_, rfl⟩
      rw [hgt] at hrun hI hs2
      have HI := Lib.hid hI
      have HK2 := Lib.hid hk2
      have hgt7 : gt = g7 + 1 := by omega
      clear hA1 hI hk2 HA hg7
      go_wp2
      refine wp_loop (fun a' w' => ∃ (u8 u9 u10 u11 u38 u39 u40 u41 u42 u43 u44 u60 u61 u62 u63 u64 u65 u66 u67 : Value) (Ds : List Nat) (cur lf : List LR), CoRel w g b rng (maxC mk c) rs0 g7 Ds cur lf w' ∧
        a' = { tmps := #[.pointer (some ⟨g, 0, none⟩), C c, .pointer (some ⟨w.heap.size, 0, none⟩), .pointer (some ⟨w.heap.size + 1, 0, none⟩), .int .i64 0, u5, u6, .pointer (some ⟨g7, 0, none⟩), u8, u9, u10, u11, undef, undef, .agg #[.int .i64 c.a, .int .i64 c.b, .int .i64 c.c], .int .i64 ((3 : Nat) : Int), .bool false, u17, u18, u19, u20, u21, u22, u23, u24, u25, u26, u27, u28, u29, u30, u31, u32, .pointer (some ⟨g, 0, none⟩), .pointer (some ⟨g, 0, none⟩), .pointer (some ⟨g, 1, none⟩), .map (some b), .pointer (some ⟨g7 + 1, 0, none⟩), u38, u39, u40, u41, u42, u43, u44, undef, undef, undef, undef, undef, undef, undef, undef, undef, undef, undef, undef, undef, undef, undef, u60, u61, u62, u63, u64, u65, u66, u67, undef], defers := Ds.map fun D => { target := .collected D, args := #[] } })
        (fun _ w' => w'.rangeLeft b (g7 + 1)) ?_ ?_
      · refine ⟨undef, undef, undef, undef, undef, undef, undef, undef, undef, undef, undef, undef, undef, undef, undef, undef, undef, undef, undef, [], rs0, rs0, ?_, rfl⟩
        subst hgt7
        have hz1 : g7 < w1.heap.size := by omega
        refine ⟨?_, fun r hr => hr, HA1.out.S.nodup, HA1.out.S.keeps HK2.out (fun _ _ h => h), HA1.out.X.keeps HK2.out id, ?_, HI.out, List.nodup_nil, fun D h => (by cases h), fun D h => (by cases h), ?_, fun k hk => .inl hk, Nat.le_refl _⟩
        · unfold mix
          symm
          rw [List.map_congr_left (g := id) (fun l hl => ?_), List.map_id]
          obtain ⟨r, hr, rfl⟩ := List.mem_map.1 hl
          have : inL rs0 r.l.k = true := List.any_eq_true.2 ⟨r, hr, by simp⟩
          rw [if_pos this]
          rfl
        · rw [Nat.sub_self]
          exact HA1.out.N.keeps HK2.out id
        · exact (HA1.out.k.mono (T := fpS g b rs0) (fun q e _ => .inl e)).trans HK2.out (fun _ h _ => h.elim)
      · rintro a' wr ⟨u8, u9, u10, u11, u38, u39, u40, u41, u42, u43, u44, u60, u61, u62, u63, u64, u65, u66, u67, Ds, cur, lf, hR, rfl⟩
        have HR := Lib.hid hR
        clear hR hrun s0 m0
        rcases HR.out.I.nexts Try.prog with ⟨hl, hrun⟩ | ⟨im, p, w3, hp, hrun, hI2, hk3, hs3, hen⟩
        · have n0 := HR.out.N.cell (j := 0) rfl
          obtain ⟨nn, hnn⟩ : ∃ nn, lenS (states rs0) - lenS (states cur) = nn := ⟨_, rfl⟩
          rw [hnn] at n0
          have HNN := Lib.hid hnn
          have HL := Lib.hid hl
          clear hl hnn
          go_wp2
          refine Reg.leave_marks (v := .int .i64 ((nn : Nat) : Int)) Ds wr HR.out.dn HR.out.dm ?_
          intro W' hk9
          have hlf : lf = [] := by simpa using HL.out
          subst hlf
          refine ⟨by simp [results, Try.results20, go_sem], cur, by rw [HNN.out], by rw [HR.out.st, mix_nil], HR.out.S.keeps hk9 (fun q hq hd => HR.out.S.real hq (HR.out.dm q hd)), ?_, fun q hq => (HR.out.q q hq).imp id (fun h => by have := HA1.out.z; omega)⟩
          exact HR.out.k.trans hk9 (fun q hd hlt => by have h1 := HR.out.dz q hd; have := HA1.out.z; omega)
        · obtain ⟨r, hr, hpr⟩ : ∃ r, lf[im]? = some r ∧ p = ent r := by
            rw [List.getElem?_map] at hp
            cases hl : lf[im]? with
            | none => rw [hl] at hp; cases hp
            | some r => rw [hl] at hp; exact ⟨r, rfl, by simpa using hp.symm⟩
          subst hpr
          have HR9 := Lib.hid hr
          have HI2 := Lib.hid hI2
          have HK3 := Lib.hid hk3
          have HS3 := Lib.hid hs3
          unfold ent at hrun hen
          dsimp only at hrun hen
          clear hp hr hI2 hk3 hs3
          go_wp2_with (go_at_call 41; refine (backward_any r.A r.l.es.length r.c _).mono ?_; rintro x w9 ⟨rfl, rfl⟩)
          refine Reg.wp_gen (fun w4 => RdAt g7 w3.heap.size (false, []) (lenS (states rs0) - lenS (states cur)) w4 ∧ w4.cell? ⟨w3.heap.size + 1 + 1, 0, none⟩ = some (.slice r.A r.l.es.length r.c) ∧ Mem.Keeps (fun _ => False) w3 w4 ∧ w4.heap.size = w3.heap.size + 3) ⟨⟨⟨none, 0, ?_, Mem.Own.nil _ _ _, fun q hq => (by cases hq)⟩, ?_, ?_⟩, ?_, ?_, ?_⟩ ?_
          · exact (Mem.Bx.new w3 22 #[.slice none 0 0] rfl rfl).keeps (((Mem.Keeps.refl (fun _ => False) _).alloc _).alloc _) id
          · exact (Mem.Bx.new (w3.alloc _) 4 #[.bool false] rfl (by simp)).keeps ((Mem.Keeps.refl (fun _ => False) _).alloc _) id
          · exact (HR.out.N.keeps HK3.out (by omega)).keeps ((((Mem.Keeps.refl (fun _ => False) w3).alloc _).alloc _).alloc _) id
          · exact (Mem.Bx.new ((w3.alloc _).alloc _) 22 #[.slice r.A r.l.es.length r.c] rfl (by simp)).cell (j := 0) rfl
          · exact ((((Mem.Keeps.refl (fun _ => False) w3).alloc _).alloc _).alloc _)
          · simp
          rintro w4 ⟨hrd4, hbox, hk4, hs4⟩
          obtain ⟨gk, hgk⟩ : ∃ gk, w3.heap.size = gk := ⟨_, rfl⟩
          rw [hgk] at hrd4 hbox hs4 ⊢
          have hrc : r ∈ cur := HR.out.sub r (List.mem_of_getElem? HR9.out)
          have hk34 : Mem.Keeps (fun q => q = g7 + 1) wr w4 := HK3.out.trans hk4 (fun _ h _ => h.elim)
          have hzw : w.heap.size + 2 ≤ g7 := HA1.out.z
          have hlt0 : ∀ q, fpS g b rs0 q → q < w.heap.size := fun q hq => H.out.lt hq
          have hwr3 : wr.heap.size = gk := by rw [← hgk, HS3.out]
          have hgt3 : g7 + 1 < gk := by have := HR.out.I.lt; omega
          have hfp : ∀ q, fpS g b cur q → q ≠ g7 ∧ q ≠ g7 + 1 ∧ q < gk := fun q hq => by
            have h1 := HR.out.S.lt hq
            rcases HR.out.q q hq with h2 | h2
            · have := hlt0 q h2; omega
            · omega
          have hX4 : SBx w4 w.heap.size g := HR.out.X.keeps hk34 (by omega)
          have hS4 : SS w4 g b rng (maxC mk c) cur := HR.out.S.keeps hk34 (fun q hq e => (hfp q hq).2.1 e)
          have hO4 := hS4.O r hrc
          have hAS : ∀ q, Mem.blk r.A = some q → ¬ RdS g7 gk q := fun q hq h9 => by
            have h1 := hfp q (.inr (.inr ⟨r, hrc, hq⟩))
            rcases h9 with h9 | h9 | h9 | h9 <;> omega
          have hgS : ¬ RdS g7 gk g := fun h9 => by
            have h1 := hfp g (.inl rfl)
            rcases h9 with h9 | h9 | h9 | h9 <;> omega
          have hwS : ¬ RdS g7 gk w.heap.size := fun h9 => by rcases h9 with h9 | h9 | h9 | h9 <;> omega
          have hrl : r.l ∈ states rs0 := mix_mem (mk := maxC mk c) (lf := lf) (by rw [← HR.out.st]; exact List.mem_map.2 ⟨r, hrc, rfl⟩) (List.any_eq_true.2 ⟨r, List.mem_of_getElem? HR9.out, by simp⟩)
          have hdce : DcOk r.l.es := fun x hx => by
            obtain ⟨r0, hr0, e⟩ := List.mem_map.1 hrl
            exact HG.out.hdc r0 hr0 x (e ▸ hx)
          have hesl : r.l.es.length ≤ 1000000 := by
            have h9 := ls_le hrc
            have := HR.out.le
            omega
          have hene : r.l.es ≠ [] := HG.out.ne r.l hrl
          obtain ⟨n0, hn0⟩ : ∃ n0, lenS (states rs0) - lenS (states cur) = n0 := ⟨_, rfl⟩
          rw [hn0] at hrd4
          have hn0l : n0 ≤ 1000000 := by omega
          have HN0 := Lib.hid hn0
          have HRD := Lib.hid hrd4
          have HX4 := Lib.hid hX4
          have HS4 := Lib.hid hS4
          have HK34 := Lib.hid hk34
          have HK4 := Lib.hid hk4
          have HLT0 := Lib.hid hlt0
          have HFP := Lib.hid hfp
          have HRC := Lib.hid hrc
          have HRL := Lib.hid hrl
          have HENE := Lib.hid hene
          clear hrd4 hX4 hS4 hk34 hlt0 hfp hrc hrl hene hn0 hk4 hwr3
          refine (wpIn_wide (n := 9)).1 ?_
          refine wpIn_rangeFunc_ownH rfl (by omega) (gf := 57) (lb := #[.pointer (some ⟨gk + 1 + 1, 0, none⟩)]) rfl trivial (enters_of Try.func57 (by kernel_rfl) rfl)
            (backward_stops (9 - 1) (by omega) (gk + 1 + 1) r.c r.A r.l.es (by omega) (RdS g7 gk) w4 hAS (fun h9 => by rcases h9 with h9 | h9 | h9 | h9 <;> omega) (by omega) hbox hO4 hdce) keepsK_t (keepsK_b (fun k hk => .inr (.inr (.inr (by omega))))) (Below.refl _ _) (fun _ => rfl)
            (fun pre W => RdAt g7 gk (kFold (maxC mk c) (pre.map (·.e))) (n0 + (pre.length - (kFold (maxC mk c) (pre.map (·.e))).2.length)) W ∧ Mem.Keeps (RdS g7 gk) w4 W)
            (fun _ _ _ => False)
            (fun s X Y row hs hg hr9 => ⟨hs.1.row hg (fun r e => (hr9 r e).2), hs.2.trans (Reg.keeps_row hg hr9) (fun k h _ => .inr (.inr (.inr (by omega))))⟩)
            (fun _ _ _ _ _ hs _ _ => hs)
            ⟨by simpa [kFold] using HRD.out, Mem.Keeps.refl _ _⟩
            (fun x a' W => ∃ bx, w4.heap.size ≤ bx ∧ EBx W bx x.e ∧ a' = { tmps := #[.pointer (some ⟨g, 0, none⟩), C c, .pointer (some ⟨w.heap.size, 0, none⟩), .pointer (some ⟨w.heap.size + 1, 0, none⟩), .int .i64 0, u5, u6, .pointer (some ⟨g7, 0, none⟩), .string r.l.k, .slice r.A r.l.es.length r.c, .pointer (some ⟨gk, 0, none⟩), .pointer (some ⟨gk + 1, 0, none⟩), undef, .pointer (some ⟨bx, 0, none⟩), .agg #[.int .i64 c.a, .int .i64 c.b, .int .i64 c.c], .int .i64 3, .bool false, u17, u18, u19, u20, u21, u22, u23, u24, u25, u26, u27, u28, u29, u30, u31, u32, .pointer (some ⟨g, 0, none⟩), .pointer (some ⟨g, 0, none⟩), .pointer (some ⟨g, 1, none⟩), .map (some b), .pointer (some ⟨g7 + 1, 0, none⟩), .tuple #[.bool true, .string r.l.k, .slice r.A r.l.es.length r.c], .bool true, .tuple #[.string r.l.k, .slice r.A r.l.es.length r.c], .string r.l.k, .slice r.A r.l.es.length r.c, .slice r.A r.l.es.length r.c, .func (.func 57) #[] #[.pointer (some ⟨gk + 1 + 1, 0, none⟩)], .int .i64 (x.i : Int), .agg (entCells x.e).toArray, undef, undef, undef, undef, undef, undef, undef, undef, undef, undef, undef, undef, undef, u60, u61, u62, u63, u64, u65, u66, u67, undef], defers := [] })
            (fun x a' s X Y row hs hg hr9 => by
              obtain ⟨bx, h1, h2, h3⟩ := hs
              exact ⟨bx, h1, Reg.Bx_kept h2 hg (fun r e => (hr9 r e).2), h3⟩)
            ?assign ?body ?done ?stop
          case assign =>
            intro l pre x W K hi hK
            have hsW := hi.2.size
            refine Reg.fence_lit Reg.letsOut_false rfl ?_
            simp only [bEnc]
            go_wp2_with ((with_reducible refine Mem.store_agg _ _ entry_agg W.heap.size (entCells ent0) (entCells x.e) ?hxa ?hya ?hba (entCells_length _) (ent_one _) ?_); ((case hxa => exact rfl); (case hya => exact rfl); (case hba => exact Mem.Bx.new W _ (entCells ent0).toArray rfl rfl); intro w5 hb5 hk5 hs5))
            have hk9 := hk5.newBox rfl
            exact hK _ _ (Reg.keepsFrom_of (hk9.mono (fun _ h _ => h.elim))) (hk9.mono (fun _ h _ => h.elim)) ⟨hi.1.below hk9.belowAll, hi.2.trans hk9 (fun _ h _ => h.elim)⟩ ⟨W.heap.size, hsW, hb5, rfl⟩
          case body =>
            rintro l pre x a' W hl ⟨r9, hr9⟩ ⟨hI, hBW⟩ ⟨bx, hbx, hE, rfl⟩ hlen
            obtain ⟨⟨fd, K⟩, hpk⟩ : ∃ p, kFold (maxC mk c) (pre.map (·.e)) = p := ⟨_, rfl⟩
            have hkf : kFold (maxC mk c) ((pre ++ [x]).map (·.e)) = kStep (maxC mk c) (fd, K) x.e := by rw [List.map_append, List.map_cons, List.map_nil, kFold_snoc, hpk]
            have hKl : K.length ≤ pre.length := by
              have h9 := kFold_le (maxC mk c) (pre.map (·.e))
              rw [hpk, List.length_map] at h9
              exact h9
            rw [hpk] at hI
            obtain ⟨⟨Ak, ck, hKb, hKo, hKz⟩, hKf, hKn⟩ := hI
            dsimp only at hKb hKo hKf hKn
            have hXW : SBx W w.heap.size g := HX4.out.keeps hBW hwS
            have hSW : Mem.Bx W 71 5 g (sCells rng b (maxC mk c)) := HS4.out.B.keeps hBW hgS
            have s0 := hXW.cell (j := 0) rfl
            have m2 := hSW.cell (j := 2) rfl
            have m3 := hSW.cell (j := 3) rfl
            have m4 := hSW.cell (j := 4) rfl
            have ls := hXW.lt
            have lg := hSW.lt
            have HEX := Lib.hid hE
            have HOW := Lib.hid hKo
            have hszW := hBW.size
            clear hXW hSW hE hr9
            refine wpIn_block (wpIn_seq (wpIn_seq ?_))
            cases hu : under (maxC mk c) x.e with
            | false =>
              refine Reg.fence_rel (Reg.letsOut_then (Reg.letsOut_then (Reg.letsOut_block Reg.letsOut_own))) rfl (by kernel_rfl) 69 6 rfl rfl (by kernel_rfl) (Reg.Adds) (Reg.Adds.refl) (Reg.Adds.trans)
                (fun i v u => match i with
                  | 0 => v = .pointer (some ⟨g, 0, none⟩)
                  | 1 => v = .pointer (some ⟨g, 0, none⟩)
                  | 2 => v = .pointer (some ⟨g, 2, none⟩)
                  | 3 => v = Vec.C (maxC mk c)
                  | 4 => v = .agg (entCells x.e).toArray
                  | 5 => v = .bool false
                  | _ => True) ?_ ?_
              · refine Reg.Steps.cons ?_ (Reg.Steps.cons ?_ (Reg.Steps.cons ?_ (Reg.Steps.cons ?_ (Reg.Steps.cons ?_ (Reg.Steps.cons ?_ (Reg.Steps.nil _))))))
                · intro val ac u hR hp ha K hK
                  have e2 : (ac.tmps[2]?).getD undef = .pointer (some ⟨w.heap.size, 0, none⟩) := ha 2 (by decide); clear ha hp
                  have z0 := (hR.cell (p := ⟨w.heap.size, 0, none⟩) ls).trans s0
                  refine Reg.Op1.plain rfl ?_
                  go_wp2
                  exact ⟨rfl, hK _ _ rfl (fun j k _ _ => Reg.Adds.refl _ _ _)⟩
                · intro val ac u hR hp ha K hK
                  obtain ⟨w47, h47, r47⟩ := hp 0 (by decide); have e47 : (ac.tmps[47]?).getD undef = .pointer (some ⟨g, 0, none⟩) := (ha 47 (by decide)).trans h47; clear h47 ha hp
                  refine Reg.Op1.plain rfl ?_
                  go_wp2
                  exact ⟨rfl, hK _ _ rfl (fun j k _ _ => Reg.Adds.refl _ _ _)⟩
                · intro val ac u hR hp ha K hK
                  obtain ⟨w48, h48, r48⟩ := hp 1 (by decide); have e48 : (ac.tmps[48]?).getD undef = .pointer (some ⟨g, 0, none⟩) := (ha 48 (by decide)).trans h48; clear h48 ha hp
                  refine Reg.Op1.plain rfl ?_
                  go_wp2
                  exact ⟨rfl, hK _ _ rfl (fun j k _ _ => Reg.Adds.refl _ _ _)⟩
                · intro val ac u hR hp ha K hK
                  obtain ⟨w49, h49, r49⟩ := hp 2 (by decide); have e49 : (ac.tmps[49]?).getD undef = .pointer (some ⟨g, 2, none⟩) := (ha 49 (by decide)).trans h49; clear h49 ha hp
                  have z2 := (hR.cell (p := ⟨g, 2, none⟩) lg).trans m2
                  have z3 := (hR.cell (p := ⟨g, 3, none⟩) lg).trans m3
                  have z4 := (hR.cell (p := ⟨g, 4, none⟩) lg).trans m4
                  refine Reg.Op1.plain rfl ?_
                  go_wp2
                  exact ⟨rfl, hK _ _ rfl (fun j k _ _ => Reg.Adds.refl _ _ _)⟩
                · intro val ac u hR hp ha K hK
                  have e13 : (ac.tmps[13]?).getD undef = .pointer (some ⟨bx, 0, none⟩) := ha 13 (by decide); clear ha hp
                  refine Reg.Op1.plain rfl ?_
                  have hEu : EBx u bx x.e := Mem.Bx.below (w := W.drew) HEX.out hR HEX.out.lt
                  refine Mem.load_agg _ _ entry_agg bx 0 (entCells x.e) (Reg.eval_of e13) (entCells_length _) (fun j u' hu => by rw [Nat.zero_add]; exact hEu.cell hu) ?_
                  exact ⟨rfl, hK _ _ rfl (fun j k _ _ => Reg.Adds.refl _ _ _)⟩
                · intro val ac u hR hp ha K hK
                  obtain ⟨w50, h50, r50⟩ := hp 3 (by decide); have e50 : (ac.tmps[50]?).getD undef = Vec.C (maxC mk c) := (ha 50 (by decide)).trans h50; obtain ⟨w51, h51, r51⟩ := hp 4 (by decide); have e51 : (ac.tmps[51]?).getD undef = .agg (entCells x.e).toArray := (ha 51 (by decide)).trans h51; clear h50 h51 ha hp
                  refine Reg.Op1.plain rfl ?_
                  go_wp2_with fail
                  refine (covered_any (maxC mk c) x.e u x.ok).mono ?_
                  rintro x9 w' ⟨rfl, hbw⟩
                  rw [hu]
                  go_wp2_with fail
                  exact ⟨rfl, hK _ _ rfl (fun j k _ _ => hbw)⟩
              intro val u hR H
              obtain ⟨_, hv, _⟩ := H 5 (by decide)
              have hv : val 5 = .bool false := hv
              have hb6 : Below W.heap.size W u := (Below.refl _ W).drew.trans hR
              simp only [List.map_cons, List.map_nil, Reg.lay, Act.put, List.setIfInBounds_toArray, List.set_cons_succ, List.set_cons_zero, Nat.reduceAdd, hv]
              clear hR H hv
              obtain ⟨w6, hw6⟩ : ∃ z, z = u := ⟨_, rfl⟩
              subst hw6
              refine wpIn_cond_false rfl (wpIn_skip ?_)
              have HKF : Hid (kFold (maxC mk c) ((pre ++ [x]).map (·.e)) = (fd, K ++ [x.e])) := by show _ = _; rw [hkf]; unfold kStep; rw [if_neg (by simp [hu])]
              have HKW : Hid (Mem.Keeps (fun k => k = g7 ∨ k = gk ∨ k = gk + 1 ∨ Mem.blk Ak = some k) W w6) := (Mem.Keeps.of_below hb6).mono (fun _ h _ => h.elim)
              have HKB := Lib.hid (hKb.below hb6 hKb.lt)
              have HKO : Hid (EOwn w6 Ak ck K) := hKo.below hb6 (fun k hk => hKo.lt hk)
              have HFF := Lib.hid (hKf.below hb6 hKf.lt)
              have HNN7 := Lib.hid (hKn.below hb6 hKn.lt)
              have HE6 : Hid (EBx w6 bx x.e) := HEX.out.below hb6 HEX.out.lt
              have HKZ := Lib.hid hKz
              have HSIZ : Hid (gk + 3 ≤ w6.heap.size) := by show _ ≤ _; have := hb6.size; omega
              clear hKb hKo hKf hKn s0 m2 m3 m4 hu hpk hkf hKz hb6
              refine Reg.fence_lit (Reg.letsOut_block Reg.letsOut_own) rfl ?_
              have y0 := HKB.out.cell (j := 0) rfl
              have HKA : Hid (Mem.Keeps (fun q => Mem.blk Ak = some q) w6 (w6.alloc (.cells (entCells x.e).toArray 40))) := (Mem.Keeps.refl (fun q => Mem.blk Ak = some q) w6).alloc _
              go_wp2_with (first | ((with_reducible refine Mem.load_agg _ _ entry_agg bx 0 (entCells x.e) ?hz (entCells_length _) (fun j u hu => by rw [Nat.zero_add]; exact HE6.out.cell hu) ?_); case hz => exact rfl) | ((with_reducible refine Mem.build1_agg _ _ 20 _ Try.underlying22 entry_zero (by decide) (by decide) (entCells x.e) ?hra (entCells_length _) ?_); (case hra => exact rfl)) | (at_builtin; refine Mem.wpList_app _ rfl (.tmp 56) (.tmp 58) _ rfl entries_elem Ak K.length ck _ rfl (w6.heap.size + 1) (some ⟨w6.heap.size, 0, none⟩) 1 1 (entCells x.e) rfl ?_ (HKO.out.alloc _) (Mem.Rd.alloc_new w6 _ _ _ rfl) rfl (ent_one x.e) (by unfold maxLen; omega) (by omega); intro A4 c4 w7 hown hg2 hat; have hk3 := HKA.out.grown hg2 (fun k hk _ => hk); have HK9 := Lib.hid hk3; have HO9 := Lib.hid hown; have HAT := Lib.hid hat; have hb7 := HKB.out.keeps hk3 (fun h => by have := HKZ.out gk h; omega); have y1 := hb7.cell (j := 0) rfl; have yf := hb7.fr 0; have HB7 := Lib.hid hb7; clear hown hg2 hat hk3 hb7))
              have hkk : (K ++ [x.e]).length = K.length + 1 := by simp
              have hb9 := (HB7.out.set 0 (.slice A4 (K.length + 1) c4))
              have hA4 : ∀ q, Mem.blk A4 = some q → gk + 3 ≤ q := fun q hq => by
                rcases HAT.out with h | h
                · rw [h] at hq; exact HKZ.out q hq
                · rw [h] at hq; cases hq
                  have := HSIZ.out; simp; omega
              have hk10 : Mem.Keeps (fun k => k = g7 ∨ k = gk ∨ k = gk + 1 ∨ Mem.blk Ak = some k) W (w7.setCell ⟨gk, 0, none⟩ (.slice A4 (K.length + 1) c4)) :=
                (HKW.out.trans (HK9.out.mono (T := fun k => k = g7 ∨ k = gk ∨ k = gk + 1 ∨ Mem.blk Ak = some k) (fun k h _ => .inr (.inr (.inr h)))) (fun k h hlt => h)).setCell (p := ⟨gk, 0, none⟩) (fun _ => .inr (.inl rfl)) _
              have hk11 := hk10.mono (T := RdS g7 gk) (fun k h _ => by rcases h with h | h | h | h; exact .inl h; exact .inr (.inl h); exact .inr (.inr (.inl h)); exact .inr (.inr (.inr (HKZ.out k h))))
              refine ⟨keepsFrom_cells hk10 (fun k o h hB ho => ?_), hk11, ⟨⟨A4, c4, ?_, ?_, hA4⟩, ?_, ?_⟩, hBW.trans hk11 (fun _ h _ => h)⟩
              · rcases h with h | h | h | h
                · omega
                · omega
                · omega
                · exact own_cells HOW.out h ho
              · rw [HKF.out, hkk]; exact hb9
              · rw [HKF.out]
                show Mem.Own _ _ _ _ _ _ _
                rw [hkk, List.flatMap_append]
                have h9 := HO9.out.keeps ((Mem.Keeps.refl (fun k => k = gk) w7).setCell (p := ⟨gk, 0, none⟩) (fun _ => rfl) (.slice A4 (K.length + 1) c4)) (fun q hq e => by have := hA4 q hq; omega)
                simpa using h9
              · rw [HKF.out]
                exact (HFF.out.keeps HK9.out (fun h => by have := HKZ.out (gk + 1) h; omega)).keep (by omega) _ _
              · rw [HKF.out, List.length_append, hkk, List.length_singleton, show n0 + (pre.length + 1 - (K.length + 1)) = n0 + (pre.length - K.length) by omega]
                exact (HNN7.out.keeps HK9.out (fun h => by have := HKZ.out g7 h; omega)).keep (by omega) _ _
            | true =>
              refine Reg.fence_rel (Reg.letsOut_then (Reg.letsOut_then (Reg.letsOut_block Reg.letsOut_own))) rfl (by kernel_rfl) 69 6 rfl rfl (by kernel_rfl) (Reg.Adds) (Reg.Adds.refl) (Reg.Adds.trans)
                (fun i v u => match i with
                  | 0 => v = .pointer (some ⟨g, 0, none⟩)
                  | 1 => v = .pointer (some ⟨g, 0, none⟩)
                  | 2 => v = .pointer (some ⟨g, 2, none⟩)
                  | 3 => v = Vec.C (maxC mk c)
                  | 4 => v = .agg (entCells x.e).toArray
                  | 5 => v = .bool true
                  | _ => True) ?_ ?_
              · refine Reg.Steps.cons ?_ (Reg.Steps.cons ?_ (Reg.Steps.cons ?_ (Reg.Steps.cons ?_ (Reg.Steps.cons ?_ (Reg.Steps.cons ?_ (Reg.Steps.nil _))))))
                · intro val ac u hR hp ha K hK
                  have e2 : (ac.tmps[2]?).getD undef = .pointer (some ⟨w.heap.size, 0, none⟩) := ha 2 (by decide); clear ha hp
                  have z0 := (hR.cell (p := ⟨w.heap.size, 0, none⟩) ls).trans s0
                  refine Reg.Op1.plain rfl ?_
                  go_wp2
                  exact ⟨rfl, hK _ _ rfl (fun j k _ _ => Reg.Adds.refl _ _ _)⟩
                · intro val ac u hR hp ha K hK
                  obtain ⟨w47, h47, r47⟩ := hp 0 (by decide); have e47 : (ac.tmps[47]?).getD undef = .pointer (some ⟨g, 0, none⟩) := (ha 47 (by decide)).trans h47; clear h47 ha hp
                  refine Reg.Op1.plain rfl ?_
                  go_wp2
                  exact ⟨rfl, hK _ _ rfl (fun j k _ _ => Reg.Adds.refl _ _ _)⟩
                · intro val ac u hR hp ha K hK
                  obtain ⟨w48, h48, r48⟩ := hp 1 (by decide); have e48 : (ac.tmps[48]?).getD undef = .pointer (some ⟨g, 0, none⟩) := (ha 48 (by decide)).trans h48; clear h48 ha hp
                  refine Reg.Op1.plain rfl ?_
                  go_wp2
                  exact ⟨rfl, hK _ _ rfl (fun j k _ _ => Reg.Adds.refl _ _ _)⟩
                · intro val ac u hR hp ha K hK
                  obtain ⟨w49, h49, r49⟩ := hp 2 (by decide); have e49 : (ac.tmps[49]?).getD undef = .pointer (some ⟨g, 2, none⟩) := (ha 49 (by decide)).trans h49; clear h49 ha hp
                  have z2 := (hR.cell (p := ⟨g, 2, none⟩) lg).trans m2
                  have z3 := (hR.cell (p := ⟨g, 3, none⟩) lg).trans m3
                  have z4 := (hR.cell (p := ⟨g, 4, none⟩) lg).trans m4
                  refine Reg.Op1.plain rfl ?_
                  go_wp2
                  exact ⟨rfl, hK _ _ rfl (fun j k _ _ => Reg.Adds.refl _ _ _)⟩
                · intro val ac u hR hp ha K hK
                  have e13 : (ac.tmps[13]?).getD undef = .pointer (some ⟨bx, 0, none⟩) := ha 13 (by decide); clear ha hp
                  refine Reg.Op1.plain rfl ?_
                  have hEu : EBx u bx x.e := Mem.Bx.below (w := W.drew) HEX.out hR HEX.out.lt
                  refine Mem.load_agg _ _ entry_agg bx 0 (entCells x.e) (Reg.eval_of e13) (entCells_length _) (fun j u' hu => by rw [Nat.zero_add]; exact hEu.cell hu) ?_
                  exact ⟨rfl, hK _ _ rfl (fun j k _ _ => Reg.Adds.refl _ _ _)⟩
                · intro val ac u hR hp ha K hK
                  obtain ⟨w50, h50, r50⟩ := hp 3 (by decide); have e50 : (ac.tmps[50]?).getD undef = Vec.C (maxC mk c) := (ha 50 (by decide)).trans h50; obtain ⟨w51, h51, r51⟩ := hp 4 (by decide); have e51 : (ac.tmps[51]?).getD undef = .agg (entCells x.e).toArray := (ha 51 (by decide)).trans h51; clear h50 h51 ha hp
                  refine Reg.Op1.plain rfl ?_
                  go_wp2_with fail
                  refine (covered_any (maxC mk c) x.e u x.ok).mono ?_
                  rintro x9 w' ⟨rfl, hbw⟩
                  rw [hu]
                  go_wp2_with fail
                  exact ⟨rfl, hK _ _ rfl (fun j k _ _ => hbw)⟩
              intro val u hR H
              obtain ⟨_, hv, _⟩ := H 5 (by decide)
              have hv : val 5 = .bool true := hv
              have hb6 : Below W.heap.size W u := (Below.refl _ W).drew.trans hR
              simp only [List.map_cons, List.map_nil, Reg.lay, Act.put, List.setIfInBounds_toArray, List.set_cons_succ, List.set_cons_zero, Nat.reduceAdd, hv]
              clear hR H hv
              obtain ⟨w6, hw6⟩ : ∃ z, z = u := ⟨_, rfl⟩
              subst hw6
              have HKF0 := Lib.hid hkf
              cases fd with
              | false =>
                have HKF : Hid (kFold (maxC mk c) ((pre ++ [x]).map (·.e)) = (true, K ++ [x.e])) := by show _ = _; rw [hkf]; unfold kStep; rw [if_pos hu, if_neg (by simp)]
                have hf6 := hKf.below hb6 hKf.lt
                have f0 := hf6.cell (j := 0) rfl
                have ff := hf6.fr 0
                have HF6 := Lib.hid hf6
                have HKZ := Lib.hid hKz
                have HU := Lib.hid hu
                clear hu hpk hkf hKz s0 m2 m3 m4 hf6
                refine wpIn_cond_true rfl (wpIn_seq (wpIn_seq (Reg.fence_lit (Reg.letsOut_then (Reg.letsOut_then (Reg.letsOut_then (Reg.letsOut_block Reg.letsOut_own)))) rfl ?_)))
                go_wp2_with fail
                refine wpIn_cond_false rfl (wpIn_skip ?_)
                refine Reg.fence_lit (Reg.letsOut_then (Reg.letsOut_block Reg.letsOut_own)) rfl ?_
                go_wp2_with fail
                obtain ⟨w8, hw8⟩ : ∃ w8, w6.setCell ⟨gk + 1, 0, none⟩ (.bool true) = w8 := ⟨_, rfl⟩
                have hk68 : Mem.Keeps (fun k => k = gk + 1) w6 w8 := by rw [← hw8]; exact (Mem.Keeps.refl (fun k => k = gk + 1) w6).setCell (p := ⟨gk + 1, 0, none⟩) (fun _ => rfl) _
                have HFF : Hid (Mem.Bx w8 4 1 (gk + 1) [.bool true]) := by show Mem.Bx _ _ _ _ _; rw [← hw8]; exact HF6.out.set 0 (.bool true)
                rw [hw8]
                have hkw8 : Mem.Keeps (fun k => k = gk + 1) W w8 := ((Mem.Keeps.of_below hb6).mono (T := fun k => k = gk + 1) (fun _ h _ => h.elim)).trans hk68 (fun _ h _ => h)
                have HKW : Hid (Mem.Keeps (fun k => k = g7 ∨ k = gk ∨ k = gk + 1 ∨ Mem.blk Ak = some k) W w8) := hkw8.mono (fun _ h _ => .inr (.inr (.inl h)))
                have HKB := Lib.hid (hKb.keeps hkw8 (by omega))
                have HKO : Hid (EOwn w8 Ak ck K) := hKo.keeps hkw8 (fun k hk e => by have := HKZ.out k hk; omega)
                have HNN7 := Lib.hid (hKn.keeps hkw8 (by omega))
                have HE6 : Hid (EBx w8 bx x.e) := HEX.out.keeps hkw8 (by omega)
                have HSIZ : Hid (gk + 3 ≤ w8.heap.size) := by show _ ≤ _; have := hkw8.size; omega
                clear hKb hKo hKf hKn hb6 hw8 hk68 hkw8 HF6 f0 ff
                refine Reg.fence_lit (Reg.letsOut_block Reg.letsOut_own) rfl ?_
                have y0 := HKB.out.cell (j := 0) rfl
                have HKA : Hid (Mem.Keeps (fun q => Mem.blk Ak = some q) w8 (w8.alloc (.cells (entCells x.e).toArray 40))) := (Mem.Keeps.refl (fun q => Mem.blk Ak = some q) w8).alloc _
                go_wp2_with (first | ((with_reducible refine Mem.load_agg _ _ entry_agg bx 0 (entCells x.e) ?hz (entCells_length _) (fun j u hu => by rw [Nat.zero_add]; exact HE6.out.cell hu) ?_); case hz => exact rfl) | ((with_reducible refine Mem.build1_agg _ _ 20 _ Try.underlying22 entry_zero (by decide) (by decide) (entCells x.e) ?hra (entCells_length _) ?_); (case hra => exact rfl)) | (at_builtin; refine Mem.wpList_app _ rfl (.tmp 56) (.tmp 58) _ rfl entries_elem Ak K.length ck _ rfl (w8.heap.size + 1) (some ⟨w8.heap.size, 0, none⟩) 1 1 (entCells x.e) rfl ?_ (HKO.out.alloc _) (Mem.Rd.alloc_new w8 _ _ _ rfl) rfl (ent_one x.e) (by unfold maxLen; omega) (by omega); intro A4 c4 w7 hown hg2 hat; have hk3 := HKA.out.grown hg2 (fun k hk _ => hk); have HK9 := Lib.hid hk3; have HO9 := Lib.hid hown; have HAT := Lib.hid hat; have hb7 := HKB.out.keeps hk3 (fun h => by have := HKZ.out gk h; omega); have y1 := hb7.cell (j := 0) rfl; have yf := hb7.fr 0; have HB7 := Lib.hid hb7; clear hown hg2 hat hk3 hb7))
                have hkk : (K ++ [x.e]).length = K.length + 1 := by simp
                have hb9 := (HB7.out.set 0 (.slice A4 (K.length + 1) c4))
                have hA4 : ∀ q, Mem.blk A4 = some q → gk + 3 ≤ q := fun q hq => by
                  rcases HAT.out with h | h
                  · rw [h] at hq; exact HKZ.out q hq
                  · rw [h] at hq; cases hq
                    have := HSIZ.out; simp; omega
                have hk10 : Mem.Keeps (fun k => k = g7 ∨ k = gk ∨ k = gk + 1 ∨ Mem.blk Ak = some k) W (w7.setCell ⟨gk, 0, none⟩ (.slice A4 (K.length + 1) c4)) :=
                  (HKW.out.trans (HK9.out.mono (T := fun k => k = g7 ∨ k = gk ∨ k = gk + 1 ∨ Mem.blk Ak = some k) (fun k h _ => .inr (.inr (.inr h)))) (fun k h hlt => h)).setCell (p := ⟨gk, 0, none⟩) (fun _ => .inr (.inl rfl)) _
                have hk11 := hk10.mono (T := RdS g7 gk) (fun k h _ => by rcases h with h | h | h | h; exact .inl h; exact .inr (.inl h); exact .inr (.inr (.inl h)); exact .inr (.inr (.inr (HKZ.out k h))))
                refine ⟨keepsFrom_cells hk10 (fun k o h hB ho => ?_), hk11, ⟨⟨A4, c4, ?_, ?_, hA4⟩, ?_, ?_⟩, hBW.trans hk11 (fun _ h _ => h)⟩
                · rcases h with h | h | h | h
                  · omega
                  · omega
                  · omega
                  · exact own_cells HOW.out h ho
                · rw [HKF.out, hkk]; exact hb9
                · rw [HKF.out]
                  show Mem.Own _ _ _ _ _ _ _
                  rw [hkk, List.flatMap_append]
                  have h9 := HO9.out.keeps ((Mem.Keeps.refl (fun k => k = gk) w7).setCell (p := ⟨gk, 0, none⟩) (fun _ => rfl) (.slice A4 (K.length + 1) c4)) (fun q hq e => by have := hA4 q hq; omega)
                  simpa using h9
                · rw [HKF.out]
                  exact (HFF.out.keeps HK9.out (fun h => by have := HKZ.out (gk + 1) h; omega)).keep (by omega) _ _
                · rw [HKF.out, List.length_append, hkk, List.length_singleton, show n0 + (pre.length + 1 - (K.length + 1)) = n0 + (pre.length - K.length) by omega]
                  exact (HNN7.out.keeps HK9.out (fun h => by have := HKZ.out g7 h; omega)).keep (by omega) _ _
              | true =>
                have HKF : Hid (kFold (maxC mk c) ((pre ++ [x]).map (·.e)) = (true, K)) := by show _ = _; rw [hkf]; unfold kStep; rw [if_pos hu, if_pos rfl]
                have hf6 := hKf.below hb6 hKf.lt
                have f0 := hf6.cell (j := 0) rfl
                have hn6 := hKn.below hb6 hKn.lt
                have n1 := hn6.cell (j := 0) rfl
                have nf := hn6.fr 0
                have HF6 := Lib.hid hf6
                have HN6 := Lib.hid hn6
                obtain ⟨nq, hnq⟩ : ∃ nq, n0 + (pre.length - K.length) = nq := ⟨_, rfl⟩
                rw [hnq] at n1
                have HNQ := Lib.hid hnq
                have hnql : nq ≤ 3000000 := by omega
                clear hu hpk hkf s0 m2 m3 m4 hf6 hn6 hnq
                refine wpIn_cond_true rfl (wpIn_seq (wpIn_seq (Reg.fence_lit (Reg.letsOut_then (Reg.letsOut_then (Reg.letsOut_then (Reg.letsOut_block Reg.letsOut_own)))) rfl ?_)))
                go_wp2_with fail
                refine wpIn_cond_true rfl (wpIn_seq (Reg.fence_lit (Reg.letsOut_then (Reg.letsOut_then (Reg.letsOut_then (Reg.letsOut_block Reg.letsOut_own)))) rfl ?_))
                go_wp2_with fail
                refine wpIn_exit ?_
                have hk68 : Mem.Keeps (fun k => k = g7) w6 (w6.setCell ⟨g7, 0, none⟩ (.int .i64 ((nq : Int) + 1))) := (Mem.Keeps.refl (fun k => k = g7) w6).setCell (p := ⟨g7, 0, none⟩) (fun _ => rfl) _
                have hkw8 := ((Mem.Keeps.of_below hb6).mono (T := fun k => k = g7) (fun _ h _ => h.elim)).trans hk68 (fun _ h _ => h)
                have hk11 := hkw8.mono (T := RdS g7 gk) (fun k h _ => .inl h)
                refine ⟨keepsFrom_cells hkw8 (fun k o h hB ho => by omega), hk11, ⟨⟨Ak, ck, ?_, ?_, hKz⟩, ?_, ?_⟩, hBW.trans hk11 (fun _ h _ => h)⟩
                · rw [HKF.out]; exact hKb.keeps hkw8 (by omega)
                · rw [HKF.out]; exact hKo.keeps hkw8 (fun k hk e => by have := hKz k hk; omega)
                · rw [HKF.out]; exact hKf.keeps hkw8 (by omega)
                · rw [HKF.out, List.length_append, List.length_singleton, show n0 + (pre.length + 1 - K.length) = nq + 1 by have := HNQ.out; omega]
                  have h9 := HN6.out.set 0 (.int .i64 ((nq : Int) + 1))
                  exact h9
          case done =>
            rintro D ys W hD hys ⟨hI, hBW⟩ hK
            have hyl : ys.length = r.l.es.length := by have := congrArg List.length hys; simpa using this
            rw [hys] at hI
            have hKr : (kFold (maxC mk c) r.l.es.reverse).2.reverse = kept (maxC mk c) r.l.es := rfl
            have hKne := kept_ne (maxC mk c) HENE.out
            have hKsub := (kept_sub (maxC mk c) r.l.es).length_le
            obtain ⟨⟨fd, K⟩, hpk⟩ : ∃ p, kFold (maxC mk c) r.l.es.reverse = p := ⟨_, rfl⟩
            rw [hpk] at hI hKr
            obtain ⟨⟨Ak, ck, hKb, hKo, hKz⟩, hKf, hKn⟩ := hI
            dsimp only at hKb hKo hKf hKn hKr
            have hkl : K.length = (kept (maxC mk c) r.l.es).length := by rw [← hKr, List.length_reverse]
            have hK0 : 0 < K.length := by rw [hkl]; exact List.length_pos_iff.2 hKne
            obtain ⟨g9, o9, hAk⟩ := hKo.form hK0
            subst hAk
            have hg9 := hKz g9 rfl
            have hXW : SBx W w.heap.size g := HX4.out.keeps hBW hwS
            have hSW : SS W g b rng (maxC mk c) cur := HS4.out.keeps hBW (fun q hq h9 => by have := HFP.out q hq; rcases h9 with h9 | h9 | h9 | h9 <;> omega)
            have hb0 : b < gk := (HFP.out b (.inr (.inl rfl))).2.2
            have hbn := HFP.out b (.inr (.inl rfl))
            have hbw : b < w.heap.size := HLT0.out b (.inr (.inl rfl))
            have hIW := (HI2.out.keeps HK4.out id id).keeps hBW (fun h9 => by rcases h9 with h9 | h9 | h9 | h9 <;> omega) (fun h9 => by rcases h9 with h9 | h9 | h9 | h9 <;> omega)
            have y0 := hKb.cell (j := 0) rfl
            have hRV0 := reverse_any g9 o9 ck K W hKo (by omega)
            rw [hKr, hkl] at hRV0
            have hRV := Lib.hid hRV0
            have HKL := Lib.hid hkl
            have HKS := Lib.hid hKsub
            rw [hkl] at y0
            clear hRV0 hkl hKsub hK0
            have HXW := Lib.hid hXW
            have HSW := Lib.hid hSW
            have HIW := Lib.hid hIW
            have HKB := Lib.hid hKb
            have HKN := Lib.hid hKn
            have HDW := Lib.hid hK
            have HBW := Lib.hid hBW
            have HKR := Lib.hid hKr
            have HSW9 : Hid (W.heap[b]? ≠ some (.deferred (some []))) := hSW.real (.inr (.inl rfl))
            have HKO := Lib.hid hKo
            clear hpk hKne hXW hSW hIW hKb hKo hKf hKn hK hBW hKr hKz hys
            dsimp only
            go_upto_region 20 with (go_at_call 42; refine hRV.out.mono ?_; rintro x9 w5 ⟨rfl, hO5, hK5⟩)
            have HO5 : Hid (EOwn w5 (some ⟨g9, o9, none⟩) ck (kept (maxC mk c) r.l.es)) := hO5
            have hne9 : g9 ≠ D := fun e => by
              obtain ⟨o, ho⟩ : ∃ o, W.heap[g9]? = some o := ⟨_, Array.getElem?_eq_getElem (HKO.out.lt rfl)⟩
              have h1 := own_cells HKO.out rfl ho
              rw [e, HDW.out] at ho
              cases ho
              cases h1
            have HX5 := Lib.hid (HXW.out.keeps hK5 (by omega))
            have HS5 := Lib.hid (HSW.out.keeps hK5 (fun q hq e => by have := HFP.out q hq; omega))
            have HI5 := Lib.hid (HIW.out.keeps hK5 (by omega) (by omega))
            have HKB5 := Lib.hid (HKB.out.keeps hK5 (by omega))
            have HKN5 := Lib.hid (HKN.out.keeps hK5 (by omega))
            have HK5 := Lib.hid hK5
            rw [HKL.out] at HKB5
            have l0 := HX5.out.lt
            have l1 := HS5.out.B.lt
            have l2 := HKB5.out.lt
            have z0 := HX5.out.cell (j := 0) rfl
            have z1 := HS5.out.B.cell (j := 1) rfl
            have z2 := HKB5.out.cell (j := 0) rfl
            have HOKK : Hid (okS r.l.k) := by
              obtain ⟨x, hx⟩ := List.exists_mem_of_ne_nil _ HENE.out
              obtain ⟨h1, _, h2⟩ := HG.out.ok r.l HRL.out x hx
              unfold rightE Vec.g3 at h1
              simp only [Bool.and_eq_true, decide_eq_true_eq] at h1
              show okS _
              rw [← h2]
              unfold okS maxLen
              omega
            obtain ⟨pre, post, hcur⟩ := List.append_of_mem HRC.out
            have HCUR := Lib.hid hcur
            have hlfn : ∀ q ∈ lf.eraseIdx im, q.l.k ≠ r.l.k := fun q hq e => by
              have hn2 := ((erase_perm HR9.out).map (fun q : LR => q.l.k)).symm.nodup HR.out.nd
              rw [List.map_cons, List.nodup_cons] at hn2
              exact hn2.1 (List.mem_map.2 ⟨q, hq, e⟩)
            have HLFN := Lib.hid hlfn
            clear hO5 hK5 hcur hlfn HXW HSW HIW HKB HKN
            refine Reg.wp_region_w (by kernel_rfl) 69 7 rfl rfl (by kernel_rfl) (6) (fun y => y = b) (0) (fun _ => False) (0) (fun _ => False)
              (fun i v u => match i with
                | 0 => v = .pointer (some ⟨g, 0, none⟩)
                | 1 => v = .pointer (some ⟨g, 0, none⟩)
                | 2 => v = .pointer (some ⟨g, 1, none⟩)
                | 3 => v = .map (some b)
                | 4 => v = .string r.l.k
                | 5 => v = .slice (some ⟨g9, o9, none⟩) (kept (maxC mk c) r.l.es).length ck
                | 6 => ∃ wm, Mem.IterIs Value.string okS wm b (g7 + 1) (Mem.putL (cur.map ent) r.l.k (.slice (some ⟨g9, o9, none⟩) (kept (maxC mk c) r.l.es).length ck)) ((lf.eraseIdx im).map ent) ∧ wm = u
                | _ => True) ?_ ?_
            · refine Reg.Steps.cons ?_ (Reg.Steps.cons ?_ (Reg.Steps.cons ?_ (Reg.Steps.cons ?_ (Reg.Steps.cons ?_ (Reg.Steps.cons ?_ (Reg.Steps.cons ?_ (Reg.Steps.nil _)))))))
              · intro val ac u hR hp ha K hK
                have e2 : (ac.tmps[2]?).getD undef = .pointer (some ⟨w.heap.size, 0, none⟩) := ha 2 (by decide); clear ha hp
                refine Reg.Op1.plain rfl ?_
                have x0 := (((Mem.Keeps.refl (fun _ => False) w5).drew.trans (Reg.Wr.not1 hR (by decide +kernel)) (fun _ h _ => h.elim id id)).cell (p := ⟨w.heap.size, 0, none⟩) (l0) (id)).trans (z0)
                go_wp2
                exact ⟨rfl, hK _ _ rfl (Reg.Wr.same _)⟩
              · intro val ac u hR hp ha K hK
                obtain ⟨w62, h62, r62⟩ := hp 0 (by decide); have e62 : (ac.tmps[62]?).getD undef = .pointer (some ⟨g, 0, none⟩) := (ha 62 (by decide)).trans h62; clear h62 ha hp
                refine Reg.Op1.plain rfl ?_
                go_wp2
                exact ⟨rfl, hK _ _ rfl (Reg.Wr.same _)⟩
              · intro val ac u hR hp ha K hK
                obtain ⟨w63, h63, r63⟩ := hp 1 (by decide); have e63 : (ac.tmps[63]?).getD undef = .pointer (some ⟨g, 0, none⟩) := (ha 63 (by decide)).trans h63; clear h63 ha hp
                refine Reg.Op1.plain rfl ?_
                go_wp2
                exact ⟨rfl, hK _ _ rfl (Reg.Wr.same _)⟩
              · intro val ac u hR hp ha K hK
                obtain ⟨w64, h64, r64⟩ := hp 2 (by decide); have e64 : (ac.tmps[64]?).getD undef = .pointer (some ⟨g, 1, none⟩) := (ha 64 (by decide)).trans h64; clear h64 ha hp
                refine Reg.Op1.plain rfl ?_
                have x0 := (((Mem.Keeps.refl (fun _ => False) w5).drew.trans (Reg.Wr.not1 hR (by decide +kernel)) (fun _ h _ => h.elim id id)).cell (p := ⟨g, 1, none⟩) (l1) (id)).trans (z1)
                go_wp2
                exact ⟨rfl, hK _ _ rfl (Reg.Wr.same _)⟩
              · intro val ac u hR hp ha K hK
                have e8 : (ac.tmps[8]?).getD undef = .string r.l.k := ha 8 (by decide); clear ha hp
                refine Reg.Op1.plain rfl ?_
                go_wp2
                exact ⟨rfl, hK _ _ rfl (Reg.Wr.same _)⟩
              · intro val ac u hR hp ha K hK
                have e10 : (ac.tmps[10]?).getD undef = .pointer (some ⟨gk, 0, none⟩) := ha 10 (by decide); clear ha hp
                refine Reg.Op1.plain rfl ?_
                have x0 := (((Mem.Keeps.refl (fun _ => False) w5).drew.trans (Reg.Wr.not1 hR (by decide +kernel)) (fun _ h _ => h.elim id id)).cell (p := ⟨gk, 0, none⟩) (l2) (id)).trans (z2)
                go_wp2
                exact ⟨rfl, hK _ _ rfl (Reg.Wr.same _)⟩
              · intro val ac u hR hp ha K hK
                obtain ⟨w65, h65, r65⟩ := hp 3 (by decide); have e65 : (ac.tmps[65]?).getD undef = .map (some b) := (ha 65 (by decide)).trans h65; obtain ⟨w66, h66, r66⟩ := hp 4 (by decide); have e66 : (ac.tmps[66]?).getD undef = .string r.l.k := (ha 66 (by decide)).trans h66; obtain ⟨w67, h67, r67⟩ := hp 5 (by decide); have e67 : (ac.tmps[67]?).getD undef = .slice (some ⟨g9, o9, none⟩) (kept (maxC mk c) r.l.es).length ck := (ha 67 (by decide)).trans h67; clear h65 h66 h67 ha hp
                refine Reg.Op1.plain rfl ?_
                have hq : Mem.Keeps (fun _ => False) w5 u := (Mem.Keeps.refl (fun _ => False) w5).drew.trans (Reg.Wr.not1 hR (by decide +kernel)) (fun _ h _ => h.elim id id)
                have hI9 := HI5.out.keeps hq id id
                rw [← ChangeMaps.map_eraseIdx] at hI9
                refine Mem.wpList_iterPut strKey Try.underlying69 b (g7 + 1) (cur.map ent) ((lf.eraseIdx im).map ent) r.l.k (.slice (some ⟨g9, o9, none⟩) (kept (maxC mk c) r.l.es).length ck) (Reg.eval_of e65) (Reg.eval_of e66) (Reg.eval_of e67) hI9 HOKK.out ⟨_, List.mem_map.2 ⟨r, HRC.out, rfl⟩⟩ (fun p hp => by obtain ⟨q, hq9, rfl⟩ := List.mem_map.1 hp; exact HLFN.out q hq9) ?_
                intro w' hM' hk' hs'
                exact ⟨rfl, hK undef _ ⟨w', hM', rfl⟩ (Reg.Wr.does1 hk')⟩
            · intro val u hR H
              obtain ⟨w10, ⟨_, hM10, rfl⟩, r10⟩ := H 6 (by decide)
              have hq9 : Mem.Keeps (fun y => y = b) w5 u := ((Mem.Keeps.refl (fun y => y = b ∨ False ∨ False) w5).drew.trans (Reg.Wr.all hR) (fun _ h _ => h)).mono (fun _ h _ => h.elim id (fun h => h.elim False.elim False.elim))
              have hI11 := Mem.IterIs.keeps hM10 (Reg.Wr.not1 r10 (by decide +kernel)) (fun h => h.elim id id) (fun h => h.elim id id)
              simp only [List.map_cons, List.map_nil, Reg.lay, Act.put, List.setIfInBounds_toArray, List.set_cons_succ, List.set_cons_zero, Nat.reduceAdd]
              have hcur := HCUR.out
              have hnod : ((pre ++ r :: post).map (·.l.k)).Nodup := by rw [← hcur]; exact HS5.out.nodup
              have hput : Mem.putL (cur.map ent) r.l.k (.slice (some ⟨g9, o9, none⟩) (kept (maxC mk c) r.l.es).length ck) = (pre ++ (⟨⟨r.l.k, kept (maxC mk c) r.l.es⟩, some ⟨g9, o9, none⟩, ck⟩ : LR) :: post).map ent := by
                rw [hcur]
                exact putL_turn (k := r.l.k) (r' := ⟨⟨r.l.k, kept (maxC mk c) r.l.es⟩, some ⟨g9, o9, none⟩, ck⟩) rfl rfl rfl hnod
              rw [hput] at hI11
              have hO11 : EOwn u (some ⟨g9, o9, none⟩) ck (kept (maxC mk c) r.l.es) := HO5.out.keeps hq9 (fun k hk (h : k = b) => by have hk9 : g9 = k := (by simpa [Mem.blk] using hk); omega)
              have hS5 := HS5.out
              rw [hcur] at hS5
              have hS11 := hS5.turn2 (r' := ⟨⟨r.l.k, kept (maxC mk c) r.l.es⟩, some ⟨g9, o9, none⟩, ck⟩) hI11.is hO11 hq9 (fun k hk h => by
                have hk9 : g9 = k := by simpa [LR.fp, Mem.blk] using hk
                rw [← hcur] at h
                have := HFP.out k h
                omega)
              have hst9 : states (pre ++ (⟨⟨r.l.k, kept (maxC mk c) r.l.es⟩, some ⟨g9, o9, none⟩, ck⟩ : LR) :: post) = mix (maxC mk c) (lf.eraseIdx im) (states rs0) := by
                have h9 := mix_step (mk := maxC mk c) (st := states rs0) (pre := states pre) (post := states post) HR9.out HR.out.nd (by rw [← HR.out.st, hcur]; simp [states]) HG.out.kd
                rw [← h9]
                simp [states]
              have hl1 : lenS (states cur) = lenS (states (pre ++ post)) + r.l.es.length := by
                rw [hcur]
                have := lenS_mid (states pre) (states post) r.l
                simpa [states] using this
              have hl2 : lenS (states (pre ++ (⟨⟨r.l.k, kept (maxC mk c) r.l.es⟩, some ⟨g9, o9, none⟩, ck⟩ : LR) :: post)) = lenS (states (pre ++ post)) + (kept (maxC mk c) r.l.es).length := by
                have := lenS_mid (states pre) (states post) ⟨r.l.k, kept (maxC mk c) r.l.es⟩
                simpa [states] using this
              have hle9 := HR.out.le
              have hKsub := HKS.out
              have hWD : ∀ E, W.heap[E]? = some (.deferred (some [])) → E ≠ g9 → E ≠ b → u.heap[E]? = some (.deferred (some [])) := fun E hE h1 h2 => by
                have hlt := (Array.getElem?_eq_some_iff.1 hE).1
                have h3 := (HK5.out.block E hlt h1).trans hE
                exact (hq9.block E (Array.getElem?_eq_some_iff.1 h3).1 h2).trans h3
              have hDs : ∀ E ∈ Ds, E < gk ∧ W.heap[E]? = some (.deferred (some [])) := fun E hE => by
                have h1 := HR.out.dm E hE
                have hlt := (Array.getElem?_eq_some_iff.1 h1).1
                have hz := HR.out.dz E hE
                have h2 := (HK34.out.block E hlt (by omega)).trans h1
                have h4 : E < gk := by have := HS3.out; omega
                exact ⟨h4, (HBW.out.block E (Array.getElem?_eq_some_iff.1 h2).1 (fun h9 => by rcases h9 with h9 | h9 | h9 | h9 <;> omega)).trans h2⟩
              have hrel : CoRel w g b rng (maxC mk c) rs0 g7 (D :: Ds) (pre ++ (⟨⟨r.l.k, kept (maxC mk c) r.l.es⟩, some ⟨g9, o9, none⟩, ck⟩ : LR) :: post) (lf.eraseIdx im) u := by
                refine ⟨hst9, fun q hq => ?_, (HR.out.nd.sublist ((List.eraseIdx_sublist lf im).map _)), hS11, HX5.out.keeps hq9 (by omega), ?_, hI11, ?_, ?_, ?_, ?_, ?_, by omega⟩
                · have h1 := HR.out.sub q ((List.eraseIdx_sublist lf im).subset hq)
                  rw [hcur] at h1
                  rcases List.mem_append.1 h1 with h1 | h1
                  · exact List.mem_append_left _ h1
                  · rcases List.mem_cons.1 h1 with h1 | h1
                    · exact (HLFN.out q hq (by rw [h1])).elim
                    · exact List.mem_append_right _ (List.mem_cons_of_mem _ h1)
                · have h9 := HKN5.out.keeps hq9 (by omega)
                  have e9 : n0 + (ys.length - K.length) = lenS (states rs0) - lenS (states (pre ++ (⟨⟨r.l.k, kept (maxC mk c) r.l.es⟩, some ⟨g9, o9, none⟩, ck⟩ : LR) :: post)) := by
                    have h1 := HN0.out
                    have h2 := HKL.out
                    omega
                  rw [e9] at h9
                  exact h9
                · rw [List.nodup_cons]
                  exact ⟨fun hm => by have := (hDs D hm).1; omega, HR.out.dn⟩
                · intro E hE
                  rcases List.mem_cons.1 hE with rfl | hE
                  · exact hWD E HDW.out (fun e => hne9 e.symm) (by omega)
                  · obtain ⟨h1, h2⟩ := hDs E hE
                    exact hWD E h2 (by omega) (fun e => HSW9.out (e ▸ h2))
                · intro E hE
                  rcases List.mem_cons.1 hE with rfl | hE
                  · omega
                  · exact HR.out.dz E hE
                · refine (((HR.out.k.trans HK34.out (fun q e hlt => by omega)).trans HBW.out (fun q h9 hlt => ?_)).trans HK5.out (fun q e hlt => by omega)).trans hq9 (fun q e _ => .inr (.inl e))
                  rcases h9 with h9 | h9 | h9 | h9 <;> omega
                · rintro q (h9 | h9 | ⟨s, hs, hf⟩)
                  · exact .inl (.inl h9)
                  · exact .inl (.inr (.inl h9))
                  · rcases List.mem_append.1 hs with hs | hs
                    · exact HR.out.q q (.inr (.inr ⟨s, by rw [hcur]; exact List.mem_append_left _ hs, hf⟩))
                    · rcases List.mem_cons.1 hs with rfl | hs
                      · have hk9 : g9 = q := by simpa [LR.fp, Mem.blk] using hf
                        exact .inr (by omega)
                      · exact HR.out.q q (.inr (.inr ⟨s, by rw [hcur]; exact List.mem_append_right _ (List.mem_cons_of_mem _ hs), hf⟩))
              have hcnt : u.rangeLeft b (g7 + 1) < wr.rangeLeft b (g7 + 1) := by
                rw [hI11.count, HR.out.I.count, List.length_map, List.length_map, List.length_eraseIdx, if_pos (List.getElem?_eq_some_iff.1 HR9.out).1]
                have := (List.getElem?_eq_some_iff.1 HR9.out).1
                omega
              have HREL := Lib.hid hrel
              have HCNT := Lib.hid hcnt
              clear hR H hM10 r10 hq9 hI11 hcur hnod hput hO11 hS5 hS11 hst9 hl1 hl2 hle9 hWD hDs hrel hcnt
              go_wp2
              refine ⟨⟨_, _, _, _, _, _, _, _, _, _, _, _, _, _, _, _, _, _, _, D :: Ds, _, _, HREL.out, rfl⟩, HCNT.out⟩
          case stop =>
            rintro D cc pre W hD hpre h9 hK
            exact h9.elim
end Go.Proofs.Ytfafehffnjbhnaa
end
section
/- Lengths of what a store holds; columns opened. Plain lemmas. -/
namespace Go.Proofs.Ytfafehffnjbhnaa
open Go.ChangeShapes Go.WideShapes Go.ChangeAt Go.RowKit
set_option linter.unusedVariables false
set_option linter.unusedSimpArgs false
namespace Sto
open Vec
theorem keys_length (rs : List LR) : (sortK (rs.map (·.l.k))).length = rs.length := by rw [sortK_len, List.length_map]
theorem rs_le : ∀ {rs : List LR}, (∀ r ∈ rs, r.l.es ≠ []) → rs.length ≤ lenS (states rs)
  | [], _ => Nat.zero_le _
  | r :: rs, h => by
    have h1 := rs_le (rs := rs) fun q hq => h q (List.mem_cons_of_mem _ hq)
    have h2 : lenS (states (r :: rs)) = r.l.es.length + lenS (states rs) := by simp [lenS, states]
    have h3 : 0 < r.l.es.length := List.length_pos_iff.2 (h r List.mem_cons_self)
    rw [h2, List.length_cons]
    omega
theorem put_le (rng : Int) (mk : Col) (st : List Ls) (news : List Ent) : lenS (putL rng mk st news).1 ≤ lenS st + news.length := by
  unfold putL
  have : ∀ (l : List Ent) (p : List Ls × Nat), lenS (l.foldl (putStep rng mk) p).1 ≤ lenS p.1 + l.length := by
    intro l
    induction l with
    | nil => intro p; exact Nat.le_refl _
    | cons a l ih =>
      intro p
      refine Nat.le_trans (ih _) ?_
      have h1 : lenS (putStep rng mk p a).1 ≤ lenS p.1 + 1 := by
        unfold putStep
        split
        · exact Nat.le_of_eq (putS_len _ _)
        · exact Nat.le_succ _
      rw [List.length_cons]
      omega
  exact this news (st, 0)
theorem okS_of {rng : Int} {rs : List LR} (h : Good rng (states rs)) : ∀ k ∈ rs.map (·.l.k), Sto.okS k := fun k hk => by
  obtain ⟨r, hr, rfl⟩ := List.mem_map.1 hk
  obtain ⟨x, hx⟩ := List.exists_mem_of_ne_nil _ (h.hne r hr)
  obtain ⟨h1, _, h2⟩ := h.ok r.l (List.mem_map.2 ⟨r, hr, rfl⟩) x hx
  unfold rightE Vec.g3 at h1
  simp only [Bool.and_eq_true, decide_eq_true_eq] at h1
  rw [← h2]
  unfold Sto.okS maxLen
  omega
theorem states_keys (rs : List LR) : (states rs).map (·.k) = rs.map (·.l.k) := by unfold states; rw [List.map_map]; rfl
theorem under0 {e : Ent} (h : rightE e = true) : under col0 e = false := by
  unfold rightE g1 at h
  simp only [Bool.and_eq_true, decide_eq_true_eq] at h
  unfold under
  rw [decide_eq_false_iff_not]
  have h0 : col0.at e.dc.toNat = 0 := by
    unfold Col.at col0
    split <;> rfl
  rw [h0]
  omega
theorem neq_col (x y : Col) (W : World) : (binOp .neq 26 (C x) (C y)).run Try.prog W = .ok (.bool (!eqCol x y)) W := by
  rw [run_neq_struct, eqIn_arr 26 Try.underlying26 9998]
  rfl
theorem colCells_length (c : Col) : (colCells c).length = 3 := rfl
end Sto
section
variable {H : Type} {enc : TypeId × Value → H} {W : World}
set_option maxRecDepth 20000 in
theorem open_cols {base : Nat} {v : Value} {d : DataW H} {p : List MemPlace} (o : Value.okWide Try.prog W .any base 61 v) (k : DataW.Trod enc Try.prog W 0 (fun _ => true) true 61 v d p) (hz : (d.weights Try.prog 61).all (· ≤ reachBytes) = true) :
    ∃ A c, ∃ cs : List Vec.Col, v = .slice A cs.length c ∧ cs.length ≤ c ∧ c ≤ 8796093022208 ∧ Mem.Rd W W.heap.size A (cs.flatMap Vec.colCells) := by
  obtain ⟨A, c, l, h1, h2, h3, h4, h5, _⟩ := Mem.open_slice_sz (α := Vec.Col) (sz := 3) Try.underlying61 (by kernel_rfl) (by omega) Vec.colCells (fun _ => rfl) (fun _ => True) (fun n cs x h hl hz => by obtain ⟨c, hc⟩ := dec_arr Try.underlying26 h hl; exact ⟨c, hc, trivial⟩) o k hz
  have kb : Try.prog.bytesOf 26 = 24 := by kernel_rfl
  rw [kb] at h3
  unfold reachBytes at h3
  exact ⟨A, c, l, h1, h2, by omega, h4⟩
set_option maxRecDepth 20000 in
theorem open_col {base : Nat} {v : Value} {d : DataW H} {p : List MemPlace} (o : Value.okWide Try.prog W .any base 26 v) (k : DataW.Trod enc Try.prog W 0 (fun _ => true) true 26 v d p) : ∃ c : Vec.Col, v = Vec.C c := by
  obtain ⟨cs, rfl, hl⟩ := agg_array Try.underlying26 o
  obtain ⟨m, hm⟩ := k
  obtain ⟨x, hx⟩ := dec_arr (x := (d, p)) Try.underlying26 hm (by rw [show (Value.agg cs.toArray).cells.toList = cs by simp [Value.cells], hl]; kernel_rfl)
  exact ⟨x, by rw [show cs = Vec.colCells x from by simpa [Value.cells] using hx]⟩
end
end Go.Proofs.Ytfafehffnjbhnaa
end
section
/- A store behind a script; acts opened; the document's own covering of columns. -/
set_option maxRecDepth 8000
namespace Go.Proofs.Ytfafehffnjbhnaa
open Go.ChangeShapes Go.WideShapes Go.ChangeAt Go.RowKit
set_option linter.unusedVariables false
set_option linter.unusedSimpArgs false
namespace Sto
open Vec
def actS (rng : Int) (p : List Ls × Col) (a : Ac) : List Ls × Col := if a.kind = 1 then ((putL rng p.2 p.1 a.es).1, p.2) else if a.kind = 2 then (collectS (maxC p.2 a.col) p.1, maxC p.2 a.col) else p
def play (rng : Int) (acs : List Ac) : List Ls × Col := acs.foldl (actS rng) ([], col0)
theorem play_snoc (rng : Int) (acs : List Ac) (a : Ac) : play rng (acs ++ [a]) = actS rng (play rng acs) a := by unfold play; rw [List.foldl_append]; rfl
structure MdRel (w : World) (g b : Nat) (rng : Int) (acs : List Ac) (v6 : Value) (wr : World) : Prop where
  out : ∃ (k : Nat) (mk : Col) (rs : List LR), k ≤ acs.length ∧ v6 = .int .i64 k ∧ lenS (states rs) ≤ lenA (acs.take k) ∧ Hid (play rng (acs.take k) = (states rs, mk)) ∧ Hid (Mine w.heap.size wr g b rng mk rs) ∧ Hid (Below w.heap.size w wr)
theorem lenA_take (acs : List Ac) (k : Nat) : lenA (acs.take k) ≤ lenA acs := by
  have h : ∀ a b : List Ac, lenA (a ++ b) = lenA a + lenA b := fun a b => by simp [lenA]
  have h2 := h (acs.take k) (acs.drop k)
  rw [List.take_append_drop] at h2
  omega
end Sto
open Vec Sto in
set_option maxRecDepth 20000 in
set_option maxHeartbeats 8000000 in
theorem made_any (rng : Int) (A : Option Addr) (c : Nat) (acs : List Vec.Ac) (w : World) (hr : Mem.Rd w w.heap.size A (acs.flatMap Vec.acCells)) (hd : ∀ a ∈ acs, Vec.AcOk w w.heap.size a) (hm : Vec.lenA acs + acs.length ≤ 300) :
    Calls Try.prog 19 #[.int .i64 rng, .slice A acs.length c] w fun x w' =>
      ∃ g b mk rs, x = .returned (.pointer (some ⟨g, 0, none⟩)) ∧ Sto.play rng acs = (Sto.states rs, mk) ∧ Sto.lenS (Sto.states rs) ≤ 300 ∧ Sto.Mine w.heap.size w' g b rng mk rs ∧ Below w.heap.size w w' := by
  have HR := Lib.hid hr
  have HD := Lib.hid hd
  clear hr hd
  go_enter Try.func19, Try.ntmps19
  go_upto_region 2 with (go_at_call 11; refine (storeNew_any rng w).mono ?_; rintro x w3 ⟨g, b, rfl, hA3, hb3, hg1, hg2⟩)
  have HM3 := Lib.hid (new_mine hA3 hg1 hg2)
  have HB3 := Lib.hid hb3
  clear hA3 hb3 hg1 hg2
  go_wp2
  go_loopw [6] (MdRel w g b rng acs) (fun t _ => acs.length - (intOf t).toNat)
  case atStart => exact ⟨⟨0, col0, [], by omega, rfl, by simp [lenS, states], rfl, HM3, HB3⟩⟩
  case round =>
    obtain ⟨k, mk, rs, hk, rfl, hln, HP, HM, HB⟩ := hrel.out
    clear hrel HM3 HB3
    have hz := HB.out.size
    have hlk := lenA_take acs k
    by_cases hlt : k < acs.length
    · obtain ⟨bq, o, rfl, hb, hc⟩ := Mem.Rd.elem acCells_length HR.out hlt (by omega)
      obtain ⟨a, ha⟩ : ∃ a, acs[k] = a := ⟨_, rfl⟩
      have hpk : acs[k]? = some a := by rw [← ha]; exact List.getElem?_eq_getElem hlt
      rw [ha] at hc
      have HAI := Lib.hid (HD.out a (List.mem_of_getElem? hpk))
      have HTS := Lib.hid (show lenA (acs.take (k + 1)) = lenA (acs.take k) + a.es.length by rw [Mem.take_snoc hpk, lenA_snoc])
      have HPS := Lib.hid (show play rng (acs.take (k + 1)) = actS rng (states rs, mk) a by rw [Mem.take_snoc hpk, play_snoc, HP.out])
      have hlk1 := lenA_take acs (k + 1)
      have q0 : wr.cell? ⟨bq, o + k * 5, none⟩ = some (.int .i64 a.kind) := (HB.out.cell (p := ⟨bq, o + k * 5, none⟩) hb).trans (by simpa [Nat.add_assoc] using hc 0 _ rfl)
      have q1 : wr.cell? ⟨bq, o + k * 5 + 1, none⟩ = some (.slice a.L a.es.length a.lc) := (HB.out.cell (p := ⟨bq, o + k * 5 + 1, none⟩) hb).trans (by simpa [Nat.add_assoc] using hc 1 _ rfl)
      have HQ2 : Hid (∀ j u, (colCells a.col)[j]? = some u → wr.cell? ⟨bq, o + k * 5 + 2 + j, none⟩ = some u) := fun j u hu => (HB.out.cell (p := ⟨bq, o + k * 5 + 2 + j, none⟩) hb).trans (by
        have h9 := hc (2 + j) u (by show (acCells a)[2 + j]? = some u; unfold acCells; rw [List.getElem?_append_right (by simp)]; simpa using hu)
        simpa [Nat.add_assoc] using h9)
      have hbw := Nat.lt_of_lt_of_le hb hz
      clear hc ha hpk
      by_cases h1 : a.kind = 1
      · have HPS1 : Hid (play rng (acs.take (k + 1)) = ((putL rng mk (states rs) a.es).1, mk)) := by show _ = _; rw [HPS.out]; unfold actS; rw [if_pos h1]
        rw [h1] at q0
        have hol := ents_len a.es
        have hoo := ents_one a.es
        have hel : a.es.length ≤ 300 := by have := HTS.out; omega
        have hac1 := HAI.out.len
        have hac2 := HAI.out.cap
        have hrd3 := ((HAI.out.rd.below HB.out).more hz).alloc (Nat.le_refl _) (.cells #[] 40)
        have q1' := ((Reg.below_new wr (.cells #[] 40)).cell (p := ⟨bq, o + k * 5 + 1, none⟩) hbw).trans q1
        clear HQ2 HPS h1
        go_upto_region 7 with (first | (at_builtin; refine Mem.wpList_app0 _ rfl (.tmp 22) (.tmp 27) _ rfl entries_elem (some ⟨wr.heap.size, 0, none⟩) rfl wr.heap.size a.L a.es.length a.lc (a.es.flatMap entCells) rfl ?_ (Mem.Own.lit wr _ 20 #[] 0 rfl rfl (by simp [maxLen])) hrd3 hol hoo (by unfold maxLen; omega) (by omega); intro A1 c1 w4 hown hb4 hat4; have HO4 := Lib.hid hown; have HB4 : Hid (Below wr.heap.size wr w4) := (Reg.below_new _ _).trans (hb4.mono (by simp)); have HF4 : Hid (Mem.From wr.heap.size A1) := hat4.elim (fun h => by rw [h]; exact Mem.From.some_ (Nat.le_refl _)) (fun h => by rw [h]; exact Mem.From.some_ (by simp)); have q0' := (HB4.out.cell (p := ⟨bq, o + k * 5, none⟩) hbw).trans q0; clear hown hb4 hat4 hrd3) | (go_at_call 12; refine (storePut_any rng g b mk rs A1 c1 a.es w4 (HM.out.S.below HB4.out) HM.out.G HO4.out (fun q hq h => by have h1 := HF4.out.blk q hq; have h2 := HM.out.S.lt h; omega) (by omega)).mono ?_; rintro x w5 ⟨rs5, rfl, h5⟩))
        have HM5 : Hid (Mine w.heap.size w5 g b rng mk rs5) := by
          obtain ⟨_, h2, h3, h4, h6⟩ := h5
          exact ⟨h2, h3, fun k hk => (h6 k hk).elim (HM.out.a k) (fun h => Nat.le_trans hz (Nat.le_trans HB4.out.size h))⟩
        have HB5 : Hid (Below w.heap.size w w5) := (HB.out.trans (HB4.out.mono hz)).trans (h5.2.2.2.1.below HM.out.a (Nat.le_trans hz HB4.out.size))
        have q5 : w5.cell? ⟨bq, o + k * 5, none⟩ = some (.int .i64 1) := (h5.2.2.2.1.cell (p := ⟨bq, o + k * 5, none⟩) (Nat.lt_of_lt_of_le hbw HB4.out.size) (fun h => by have := HM.out.a bq h; omega)).trans q0'
        have hl5 : lenS (states rs5) ≤ lenA (acs.take (k + 1)) := by
          rw [h5.1, HTS.out]
          have h9 := put_le rng mk (states rs) a.es
          omega
        have HP5 : Hid (play rng (acs.take (k + 1)) = (states rs5, mk)) := by show _ = _; rw [HPS1.out, h5.1]
        clear h5 HO4 HB4 HF4 hol hoo q0 q1 q1' q0' HPS1
        go_wp2
        go_roundw
        case rel => exact ⟨⟨k + 1, mk, rs5, by omega, by go_num, hl5, HP5, HM5, HB5⟩⟩
        case measure => simp [intOf]; omega
      · by_cases h2 : a.kind = 2
        · have HPS1 : Hid (play rng (acs.take (k + 1)) = (collectS (maxC mk a.col) (states rs), maxC mk a.col)) := by show _ = _; rw [HPS.out]; unfold actS; rw [if_neg h1, if_pos h2]
          rw [h2] at q0
          have HCO := Lib.hid (storeCollect_any HM.out.S HM.out.G (by omega) a.col)
          clear HPS h1 h2 q1
          go_wp2_with (first | ((with_reducible refine Mem.load_agg _ _ col_agg bq (o + k * 5 + 2) (colCells a.col) ?hx (colCells_length _) HQ2.out ?_); case hx => exact rfl) | (go_at_call 20; refine HCO.out.mono ?_; rintro x w5 ⟨rs5, rfl, hs1, hS5, hk5, hq5⟩))
          have HM5 : Hid (Mine w.heap.size w5 g b rng (maxC mk a.col) rs5) := ⟨hS5, by rw [hs1]; exact HM.out.G.collect _, fun q hq => (hq5 q hq).elim (HM.out.a q) (fun h => Nat.le_trans hz h)⟩
          have HB5 : Hid (Below w.heap.size w w5) := HB.out.trans (hk5.below HM.out.a hz)
          have hl5 : lenS (states rs5) ≤ lenA (acs.take (k + 1)) := by
            rw [hs1, HTS.out]
            have h9 := collect_len (maxC mk a.col) (states rs)
            omega
          have HP5 : Hid (play rng (acs.take (k + 1)) = (states rs5, maxC mk a.col)) := by show _ = _; rw [HPS1.out, hs1]
          clear hS5 hs1 hk5 hq5 HCO HPS1 q0 HQ2
          go_roundw
          case rel => exact ⟨⟨k + 1, maxC mk a.col, rs5, by omega, by go_num, hl5, HP5, HM5, HB5⟩⟩
          case measure => simp [intOf]; omega
        · have HPS1 : Hid (play rng (acs.take (k + 1)) = (states rs, mk)) := by show _ = _; rw [HPS.out]; unfold actS; rw [if_neg h1, if_neg h2]
          have d1 : decide (a.kind = 1) = false := by simpa using h1
          have d2 : decide (a.kind = 2) = false := by simpa using h2
          have b1 : (a.kind == 1) = false := by simpa using h1
          have b2 : (a.kind == 2) = false := by simpa using h2
          have hl5 : lenS (states rs) ≤ lenA (acs.take (k + 1)) := by rw [HTS.out]; omega
          clear HPS HQ2 q1
          go_wp2
          go_roundw
          case rel => exact ⟨⟨k + 1, mk, rs, by omega, by go_num, hl5, HPS1, HM, HB⟩⟩
          case measure => simp [intOf]; omega
    · obtain rfl : k = acs.length := by omega
      rw [List.take_length] at hln HP
      go_wp2
      go_ret
      exact ⟨g, b, mk, rs, rfl, HP.out, by omega, HM.out, HB.out⟩
open Vec Sto in
set_option maxHeartbeats 2000000 in
theorem refCoversC_any (x y : Vec.Col) (w : World) :
    Calls Try.prog 23 #[Vec.C x, Vec.C y] w fun e w' => e = .returned (.bool (Vec.coversC x y)) ∧ Below w.heap.size w w' := by
  go_enter Try.func23, Try.ntmps23
  go_upto_region 1 with fail
  refine Reg.wp_gen (fun w0 => CBx w0 w.heap.size x ∧ CBx w0 (w.heap.size + 1) y ∧ Below w.heap.size w w0) ⟨?_, ?_, ?_⟩ ?_
  · exact (Mem.Bx.new w 26 (colCells x).toArray rfl rfl).below (Reg.below_new _ _) (by simp)
  · exact Mem.Bx.new (w.alloc _) 26 (colCells y).toArray rfl (by simp)
  · exact (Reg.below_new _ _).alloc (by simp) _
  rintro w0 ⟨H1, H2, HB⟩
  have x0 := H1.cell (j := 0) rfl
  have x1 := H1.cell (j := 1) rfl
  have x2 := H1.cell (j := 2) rfl
  have y0 := H2.cell (j := 0) rfl
  have y1 := H2.cell (j := 1) rfl
  have y2 := H2.cell (j := 2) rfl
  have HB := Lib.hid HB
  clear H1 H2
  have hcv : Vec.coversC x y = (decide (y.a ≤ x.a) && (decide (y.b ≤ x.b) && decide (y.c ≤ x.c))) := by unfold Vec.coversC; simp [Bool.and_assoc]
  cases da : decide (y.a ≤ x.a) with
  | false =>
    go_wp2
    go_ret
    exact ⟨by rw [hcv, da]; rfl, HB.out⟩
  | true =>
    cases db : decide (y.b ≤ x.b) with
    | false =>
      go_wp2
      go_ret
      exact ⟨by rw [hcv, da, db]; rfl, HB.out⟩
    | true =>
      cases dc : decide (y.c ≤ x.c) with
      | false =>
        go_wp2
        go_ret
        exact ⟨by rw [hcv, da, db, dc]; rfl, HB.out⟩
      | true =>
        go_wp2
        go_ret
        exact ⟨by rw [hcv, da, db, dc]; rfl, HB.out⟩
section
variable {H : Type} {enc : TypeId × Value → H} {W : World}
open Vec
set_option maxRecDepth 20000 in
theorem dec_act {n : Nat} {cs : List Value} {x : DataW H × List MemPlace} (h : DataW.trod enc Try.prog W 0 (fun _ => true) true n 28 cs = some x) (hl : cs.length = 5) (hz : Mem.Sz Try.prog 28 x.1) : ∃ a : Vec.Ac, cs = Vec.acCells a ∧ AcOk W W.heap.size a := by
  obtain ⟨m0, y0, e0, _⟩ := Mem.field1_sz Try.underlying28 h hz 0 _ rfl
  obtain ⟨m1, y1, e1, z1⟩ := Mem.field1_sz Try.underlying28 h hz 1 _ rfl
  obtain ⟨m2, y2, e2, _⟩ := Mem.field1_sz Try.underlying28 h hz 2 _ rfl
  have k1 : Try.prog.cellsOf 3 = 1 := by kernel_rfl
  have k2 : Try.prog.cellsOf 22 = 1 := by kernel_rfl
  have k3 : Try.prog.cellsOf 26 = 3 := by kernel_rfl
  have kb : Try.prog.bytesOf 40 = 176 := by kernel_rfl
  change DataW.trod enc Try.prog W 0 (fun _ => true) true m0 3 ((cs.drop 0).take (Try.prog.cellsOf 3)) = some y0 at e0
  change DataW.trod enc Try.prog W 0 (fun _ => true) true m1 22 ((cs.drop 1).take (Try.prog.cellsOf 22)) = some y1 at e1
  change DataW.trod enc Try.prog W 0 (fun _ => true) true m2 26 ((cs.drop 2).take (Try.prog.cellsOf 26)) = some y2 at e2
  rw [k1] at e0
  rw [k2] at e1
  rw [k3] at e2
  obtain ⟨a0, q0, _⟩ := DataW.trod_int Try.underlying3 e0
  obtain ⟨A, c, l, q1, d1, d2, d3, d4, _⟩ := Mem.trod_slice_sz (α := Vec.Ent) (sz := 20) Try.underlying22 (by kernel_rfl) (by omega) Vec.entCells Vec.entCells_length Vec.EntIn (fun n cs x h hl hz => dec_ent h hl hz) e1 z1
  obtain ⟨v, q2⟩ := dec_arr Try.underlying26 e2 (by rw [List.length_take, List.length_drop]; omega)
  rw [kb] at d2
  unfold reachBytes at d2
  refine ⟨⟨a0, A, c, l, v⟩, ?_, ⟨d3, d1, by show c ≤ _; omega, d4⟩⟩
  have hd : cs = (cs.drop 0).take 1 ++ ((cs.drop 1).take 1 ++ (cs.drop 2).take 3) := by
    have h1 : ∀ a b : Nat, cs.drop a = (cs.drop a).take b ++ cs.drop (a + b) := fun a b => by rw [← List.drop_drop, List.take_append_drop]
    conv => lhs; rw [← List.drop_zero (l := cs), h1 0 1, h1 1 1, h1 2 3, List.drop_eq_nil_of_le (show cs.length ≤ 2 + 3 by omega), List.append_nil]
  rw [hd, q0, q1, q2]
  rfl
theorem open_acts {base : Nat} {v : Value} {d : DataW H} {p : List MemPlace} (o : Value.okWide Try.prog W .any base 29 v) (k : DataW.Trod enc Try.prog W 0 (fun _ => true) true 29 v d p) (hz : (d.weights Try.prog 29).all (· ≤ reachBytes) = true) :
    ∃ A c, ∃ acs : List Vec.Ac, v = .slice A acs.length c ∧ acs.length ≤ c ∧ c ≤ 8796093022208 ∧ Mem.Rd W W.heap.size A (acs.flatMap Vec.acCells) ∧ ∀ a ∈ acs, AcOk W W.heap.size a := by
  obtain ⟨A, c, l, h1, h2, h3, h4, h5, _⟩ := Mem.open_slice_sz (α := Vec.Ac) (sz := 5) Try.underlying29 (by kernel_rfl) (by omega) Vec.acCells Vec.acCells_length (fun a => AcOk W W.heap.size a) (fun n cs x h hl hz => dec_act h hl hz) o k hz
  have kb : Try.prog.bytesOf 28 = 56 := by kernel_rfl
  rw [kb] at h3
  unfold reachBytes at h3
  exact ⟨A, c, l, h1, h2, by omega, h4, h5⟩
end
end Go.Proofs.Ytfafehffnjbhnaa
end
section
/- Collecting keeps a key's latest, and what is as of a column that covers the mark. Plain lemmas. -/
namespace Go.Proofs.Ytfafehffnjbhnaa
set_option linter.unusedVariables false
set_option linter.unusedSimpArgs false
namespace Sto
open Vec
theorem kRec_find (mk : Col) {p : Ent → Bool} (hp : ∀ x, under mk x = true → p x = true) : ∀ l : List Ent, (kRec mk false l).find? p = l.find? p
  | [] => rfl
  | x :: l => by
    unfold kRec
    by_cases hu : under mk x = true
    · rw [if_pos hu, if_neg (by simp), List.find?_cons, List.find?_cons, hp x hu]
    · rw [if_neg hu, List.find?_cons, List.find?_cons, kRec_find mk hp l]
theorem kept_rev (mk : Col) (es : List Ent) : (kept mk es).reverse = kRec mk false es.reverse := by unfold kept; rw [List.reverse_reverse, kFold_eq]
theorem last_find (es : List Ent) : last es = match es.reverse.find? (fun _ => true) with
    | some e => (e, true)
    | none => (ent0, false) := by
  unfold last
  rw [List.getLast?_eq_head?_reverse]
  cases es.reverse with
  | nil => rfl
  | cons a l => rfl
theorem latest_collect (mk : Col) (st : List Ls) (k : ByteArray) : latest (collectS mk st) k = latest st k := by
  unfold latest
  rw [vers_collect, last_find, last_find, kept_rev, kRec_find mk (fun _ _ => rfl)]
theorem coversC_iff {x y : Col} : coversC x y = true ↔ y.a ≤ x.a ∧ y.b ≤ x.b ∧ y.c ≤ x.c := by unfold coversC; simp
theorem under_mono {c mk : Col} (h : coversC c mk = true) (x : Ent) (hu : under mk x = true) : under c x = true := by
  rw [coversC_iff] at h
  unfold under at hu ⊢
  rw [decide_eq_true_eq] at hu ⊢
  refine Int.le_trans hu ?_
  unfold Col.at
  split
  · exact h.1
  · exact h.2.1
  · exact h.2.2
theorem covers_max {t m c : Col} (h : coversC t (maxC m c) = true) : coversC t m = true := by
  rw [coversC_iff] at h ⊢
  unfold maxC at h
  dsimp only at h
  omega
theorem asOf_collect {m c t : Col} (st : List Ls) (k : ByteArray) (h : coversC t (maxC m c) = true) : asOf (collectS (maxC m c) st) (maxC m c) k t = asOf st m k t := by
  unfold asOf
  rw [if_pos h, if_pos (covers_max h), vers_collect, kept_rev]
  unfold asOfL
  rw [kRec_find _ (under_mono h)]
theorem asOf_gone {m t : Col} (st : List Ls) (k : ByteArray) (h : coversC t m = false) : asOf st m k t = ⟨ent0, false, 60⟩ := by
  unfold asOf
  rw [if_neg (by simp [h])]
end Sto
end Go.Proofs.Ytfafehffnjbhnaa
end
