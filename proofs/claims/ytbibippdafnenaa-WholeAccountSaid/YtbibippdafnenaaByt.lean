/- Bytes. -/
import Derived.Test.YtbibippdafnenaaMgA
namespace Go.Proofs.Ytbibippdafnenaa
abbrev Byte := BitVec 8
end Go.Proofs.Ytbibippdafnenaa
