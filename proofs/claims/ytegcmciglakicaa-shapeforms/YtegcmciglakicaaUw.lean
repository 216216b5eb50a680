import Derived.Test.YtegcmciglakicaaUq
import Derived.Test.YtegcmciglakicaaUs
namespace Go.Proofs.Ytegcmciglakicaa
theorem ytegcmciglakicaa_shapeForms_holds : Rows.ShapeFormsSaid := forms_holds (forms_true sort35_c sort55_c)
end Go.Proofs.Ytegcmciglakicaa
