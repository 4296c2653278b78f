
import Derived.Test.YtklnpooninbogaaGreatMDRow
import Derived.Test.YtklnpooninbogaaGreatMMHeapAlloc
namespace Go.Proofs.YtklnpooninbogaaGreat
open Go Go.Proofs Go.RowKit
end Go.Proofs.YtklnpooninbogaaGreat
