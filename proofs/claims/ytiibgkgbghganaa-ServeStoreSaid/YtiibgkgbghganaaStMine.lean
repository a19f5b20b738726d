/- A store that is the statement's own. Plain lemmas. -/
import Derived.Test.YtiibgkgbghganaaStore5
namespace Go.Proofs.Ytiibgkgbghganaa
open Go.ChangeShapes Go.WideShapes Go.ChangeAt Go.RowKit
set_option linter.unusedVariables false
set_option linter.unusedSimpArgs false
namespace Sto
open Vec
theorem Good.hdc {rng : Int} {rs : List LR} (h : Good rng (states rs)) : ∀ r ∈ rs, ∀ x ∈ r.l.es, 0 ≤ x.dc ∧ x.dc < 3 := fun r hr x hx => by
  have h1 := (h.ok r.l (List.mem_map.2 ⟨r, hr, rfl⟩) x hx).1
  unfold rightE Vec.g1 chain at h1
  simp only [Bool.and_eq_true, decide_eq_true_eq] at h1
  omega
theorem Good.hne {rng : Int} {rs : List LR} (h : Good rng (states rs)) : ∀ r ∈ rs, r.l.es ≠ [] := fun r hr => h.ne r.l (List.mem_map.2 ⟨r, hr, rfl⟩)
/-- a store that is the statement's own, above block B -/
structure Mine (B : Nat) (w : World) (g b : Nat) (rng : Int) (mk : Col) (rs : List LR) : Prop where
  S : SS w g b rng mk rs
  G : Good rng (states rs)
  a : ∀ k, fpS g b rs k → B ≤ k
theorem Mine.below {B : Nat} {w w' : World} {g b : Nat} {rng : Int} {mk : Col} {rs : List LR} (h : Mine B w g b rng mk rs) (hb : Below w.heap.size w w') : Mine B w' g b rng mk rs := ⟨h.S.below hb, h.G, h.a⟩
theorem Mine.keeps {B : Nat} {w w' : World} {g b : Nat} {rng : Int} {mk : Col} {rs : List LR} {S : Nat → Prop} (h : Mine B w g b rng mk rs) (hk : Mem.Keeps S w w') (hS : ∀ k, fpS g b rs k → ¬ S k) : Mine B w' g b rng mk rs := ⟨h.S.keeps hk hS, h.G, h.a⟩
theorem new_mine {w w' : World} {g b : Nat} {rng : Int} (h : SS w' g b rng col0 []) (hg : w.heap.size ≤ g) (hb : w.heap.size ≤ b) : Mine w.heap.size w' g b rng col0 [] :=
  ⟨h, Good.none _, fun k hk => by rcases hk with rfl | rfl | ⟨r, hr, _⟩; exact hg; exact hb; cases hr⟩
theorem put_mine {B : Nat} {w w' : World} {g b : Nat} {rng : Int} {mk : Col} {rs0 : List LR} {news : List Ent} {x : Ending} (h : Mine B w g b rng mk rs0) (hB : B ≤ w.heap.size) (he : PutEnd w g b rng mk rs0 news x w') :
    ∃ rs, x = .returned (.int .i64 ((putL rng mk (states rs0) news).2 : Nat)) ∧ states rs = (putL rng mk (states rs0) news).1 ∧ Mine B w' g b rng mk rs ∧ Mem.Keeps (fpS g b rs0) w w' ∧ Below B w w' := by
  obtain ⟨rs, h1, h2, h3, h4, h5, h6⟩ := he
  exact ⟨rs, h1, h2, ⟨h3, h4, fun k hk => (h6 k hk).elim (h.a k) (fun h => by omega)⟩, h5, h5.below h.a hB⟩
end Sto
end Go.Proofs.Ytiibgkgbghganaa
