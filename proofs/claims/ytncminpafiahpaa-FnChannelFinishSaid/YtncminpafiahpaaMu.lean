/- Channels: what the laws see of them. -/
import Derived.Test.YtncminpafiahpaaMt
set_option linter.unusedSimpArgs false
set_option linter.unusedVariables false
namespace Go.Proofs.Ytncminpafiahpaa
open Go Go.Av
attribute [local go_sem] gives_chk gives_ite gives_some gives_bind gives_join Sum.elim_inl Sum.elim_inr decide_eq_true_eq decide_eq_false_iff_not Bool.not_eq_true' Bool.not_eq_false' Bool.or_eq_true Bool.and_eq_true Bool.not_eq_eq_eq_not beq_iff_eq bne_iff_ne ne_eq Bool.or_eq_false_iff Bool.and_eq_false_iff Bool.not_eq_true Bool.not_eq_false Bool.not_true Bool.not_false Int.toNat_natCast beq_eq_false_iff_ne bne_eq_false_iff_eq Decidable.not_not Bool.default_bool

def mkPk (k : Int) (n : Nat) : Pk := mks (fun j => (k + 2 * (j : Int), k + 2 * (j : Int) + 1)) n
section
variable {vs gs rs : List Int} {k : Int} {ps : Pk}
theorem spec_Step_eq {a : Int} (h1 : vs.length ≤ 1000000000) (h2 : gs.length ≤ 1000000000) (h3 : ps.length ≤ 1000000000) (h4 : rs.length ≤ 1000000000) :
    spec_ChannelStep vs k gs ps rs a = some (if cvok vs k gs ps rs = true then chOut vs (chStep vs k gs ps rs a) else ([], 0, [], [], [], false)) := by
  by_cases h : CvOk vs k gs ps rs
  · rw [spec_Step_ok h, cvok, yes_true h]; rfl
  · rw [spec_Step_bad h1 h2 h3 h4 h, cvok, yes_false h]; rfl
end
end Go.Proofs.Ytncminpafiahpaa
