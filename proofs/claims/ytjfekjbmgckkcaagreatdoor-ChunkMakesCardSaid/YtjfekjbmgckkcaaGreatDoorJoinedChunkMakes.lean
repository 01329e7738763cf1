/- ChunkMakes: what the kernel works out of the program's text for this row (where the call leads), apart from the walk. -/
import Derived.Test.YtjfekjbmgckkcaaGreatDoorRows
import Derived.WalkKit
import Derived.ProofKit
import Derived.OpenShut
import Derived.ShutString
import Derived.ChangeOld
import Derived.Below
import Derived.LaidMore
import Derived.Stop.Joined
import Derived.SevenTiedAt
namespace Go.Proofs.YtjfekjbmgckkcaaGreatDoor.JoinedChunkMakes
open Go.Proofs.YtjfekjbmgckkcaaGreatDoor Go.ChangeShapes Go.WideShapes Go.ChangeAt Go.RowKit
theorem called : Tryz.pinned.checked.prog.funcNamed Rows.chunkMakesRow.func = some 9 := by kernel_rfl
theorem closed : joinedFacts Tryz.pinned.checked.prog 9 Tryz.f9 Rows.chunkMakesSpec Rows.chunkMakesRow = true := by kernel_rfl
end Go.Proofs.YtjfekjbmgckkcaaGreatDoor.JoinedChunkMakes
