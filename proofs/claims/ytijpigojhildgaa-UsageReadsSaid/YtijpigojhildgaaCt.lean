/- Plain laws of the codec: is there nothing more? No statement of its own. -/
import Derived.Test.YtijpigojhildgaaCs
namespace Go.Proofs.Ytijpigojhildgaa.Pure
open Go.Vk Go.Am Go.Pg Go.Sort Go.Proofs Go.Proofs.Ytijpigojhildgaa.Y
set_option linter.unusedVariables false
set_option linter.unusedSimpArgs false
/-- what End tells -/
def endR (s : Rd8) : Int := if s.2 = 0 then (if s.1.length = 0 then 0 else 4) else s.2
theorem own_end (s : Rd8) : codec_Reader_End.f (s.1, s.2) = some (s, endR s) := by
  obtain ⟨bs, e⟩ := s
  unfold codec_Reader_End.f endR
  by_cases he : e = 0
  · subst he
    cases bs with
    | nil => rfl
    | cons x bs => simp
  · have : (e == 0) = false := by simp [he]
    simp [this, he]
end Go.Proofs.Ytijpigojhildgaa.Pure
