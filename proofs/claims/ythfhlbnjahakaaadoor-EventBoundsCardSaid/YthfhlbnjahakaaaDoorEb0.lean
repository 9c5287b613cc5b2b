/-
  event: one text more in a row of texts.
-/
import Derived.Test.YthfhlbnjahakaaaDoorEvAw
import Derived.Test.YthfhlbnjahakaaaDoorEvBy
import Derived.Test.YthfhlbnjahakaaaDoorEvKD
import Derived.Test.YthfhlbnjahakaaaDoorEvKG
namespace Go.Proofs.YthfhlbnjahakaaaDoor
open Go.RowKit

theorem strsV_snoc (l : List ByteArray) (k : ByteArray) : strsV (l ++ [k]) = strsV l ++ [.string k] := by unfold strsV; rw [List.map_append]; rfl
end Go.Proofs.YthfhlbnjahakaaaDoor
