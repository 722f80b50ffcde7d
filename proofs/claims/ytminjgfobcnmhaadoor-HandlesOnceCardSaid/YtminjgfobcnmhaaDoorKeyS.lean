/-
  Structs of two whole numbers as keys of maps.
-/
import Derived.Test.YtminjgfobcnmhaaDoorProg
import Derived.Test.YtminjgfobcnmhaaDoorStar
import Derived.Maps.Keyed
import Derived.DeepKeys4
namespace Go.Proofs.YtminjgfobcnmhaaDoor
open Go Go.RowKit Go.Maps

theorem pair_key {P : Program} {K I : TypeId} {f1 f2 : Field} (hu : P.underlying K = some (.struct #[f1, f2])) (h1 : f1.type = I ∧ f1.offset = 0) (h2 : f2.type = I ∧ f2.offset = 1) (hn : (f1.name != "_") = true ∧ (f2.name != "_") = true)
    (hI : P.underlying I = some (.int .i64)) (cI : P.cellsOf I = 1) (cK : P.cellsOf K = 2) (hk : P.keyType K = true) (d : Nat) (hd : P.types.size = d + 1) (x g : Int) (hx : (Lit.int .i64 x).wf = true) (hg : (Lit.int .i64 g).wf = true) :
    ∃ kl, keyOf P K (.agg #[.int .i64 x, .int .i64 g]) = some kl := by
  refine ⟨.string (keyBytes [.int .i64 x, .int .i64 g]), ?_⟩
  simp [keyOf, hu, hk, Value.formed, cK, Value.cells, hd, Program.keyLits, h1, h2, hI, cI, hx, hg, hn]
end Go.Proofs.YtminjgfobcnmhaaDoor
