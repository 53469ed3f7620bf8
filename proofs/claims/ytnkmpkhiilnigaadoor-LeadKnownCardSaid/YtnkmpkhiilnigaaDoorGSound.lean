/- Sound Shares (doors of chapter 13: the document's Sound is not reached). -/
import Derived.Test.YtnkmpkhiilnigaaDoorGRollW
namespace Go.Proofs.YtnkmpkhiilnigaaDoor.PA
open Go.RowKit Go.Shelf Go.Lib Go.Sort Go.Proofs.YtnkmpkhiilnigaaDoorW.PrintWords Go.Proofs.YtnkmpkhiilnigaaDoorW.PrintLast

/-- Sound Shares, but for their names' form. -/
structure SoundL (l : List S45) : Prop where
  one : ∀ s ∈ l, 1 ≤ s.f1 ∧ s.f1 ≤ 100
  names : (keys l).Pairwise (fun x y => Op.bytesLess x y = true)
  sum : (l.map (·.f1)).sum = 100

end Go.Proofs.YtnkmpkhiilnigaaDoor.PA
