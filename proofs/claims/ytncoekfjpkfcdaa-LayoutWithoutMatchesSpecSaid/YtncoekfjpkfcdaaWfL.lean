/- A text of the proof: a verified executor of the program form, or the contracts of the functions that the law reaches. -/
import Derived.Test.YtncoekfjpkfcdaaShT
import Derived.Test.YtncoekfjpkfcdaaVyL
set_option linter.all false
namespace Go.Vx
open Go Go.RowKit
def wf_api_Part (x : api_Part) : Prop := (wfI .i64) x.Frame ∧ (wfI .i64) x.Word ∧ (wfI .i64) x.Low ∧ (wfI .i64) x.Bits ∧ True
def wf_api_Param (x : api_Param) : Prop := wfS x.Name ∧ (wfI .i64) x.Kind ∧ (wfL wf_api_Part) x.Parts ∧ (wfI .i64) x.First ∧ (wfI .i64) x.Every ∧ (wfI .i64) x.Times ∧ (wfI .i64) x.Step ∧ (wfL wfS) x.Names ∧ True
def wf_api_Map (x : api_Map) : Prop := (wfI .i64) x.Version ∧ (wfL wf_api_Param) x.Params ∧ True
end Go.Vx
