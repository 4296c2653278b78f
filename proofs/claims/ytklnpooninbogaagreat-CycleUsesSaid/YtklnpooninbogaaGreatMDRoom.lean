
import Derived.Test.YtklnpooninbogaaGreatMMHNew
import Derived.Test.YtklnpooninbogaaGreatMMXDel
import Derived.RegionTactic
import Derived.OwnWalk
import Derived.Deep.QuietTactic
import Derived.BigQuiet
namespace Go.Proofs.YtklnpooninbogaaGreat
open Go Go.Proofs Go.RowKit
end Go.Proofs.YtklnpooninbogaaGreat
