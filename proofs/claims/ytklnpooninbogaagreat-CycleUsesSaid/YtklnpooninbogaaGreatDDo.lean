
import Derived.Test.YtklnpooninbogaaGreatDRing
import Derived.Deep.DeepCutAuto
namespace Go.Proofs.YtklnpooninbogaaGreat
open Go Go.Proofs Go.RowKit
end Go.Proofs.YtklnpooninbogaaGreat
