/- The form's facts on the law ProofChecks, one by one. -/
import Derived.Test.YteamhbohgoclgaaGreatDoorP18
set_option maxRecDepth 100000
set_option maxHeartbeats 16000000
namespace Go.Proofs.YteamhbohgoclgaaGreatDoor
open Go Go.ChangeShapes

theorem proofChecks_nf : Tryz.prog.funcNamed "sandpile/sandpilelaw57.ProofChecks" = some 4 := by kernel_rfl
theorem proofChecks_wf : Rows.proofChecksRow.wf (OpenSpec.ofChange Rows.proofChecksSpec) = true := by kernel_rfl
theorem proofChecks_ip : (Rows.proofChecksRow.inPlace == Tryz.prog.inPlace 4) = true := by kernel_rfl
theorem proofChecks_uf : (Rows.proofChecksRow.unfollowed == Tryz.prog.unfollowed 4) = true := by kernel_rfl
theorem proofChecks_rc : (Rows.proofChecksRow.recurses == Tryz.prog.recurses 4) = true := by kernel_rfl
theorem proofChecks_nm : (Rows.proofChecksRow.named == Tryz.prog.varsNamed 4) = true := by kernel_rfl
theorem proofChecks_nt : namedTie Tryz.prog Rows.proofChecksRow.named Rows.proofChecksSpec.vars = true := by kernel_rfl
theorem proofChecks_pk : (Rows.proofChecksRow.plainKeys == Tryz.prog.plainKeys) = true := by kernel_rfl
theorem proofChecks_lf : (Rows.proofChecksRow.lifted == Tryz.prog.liftsFinal) = true := by kernel_rfl
theorem proofChecks_mk : (Tryz.prog.make == some Rows.proofChecksRow.make) = true := by kernel_rfl
theorem proofChecks_jf : joinedFacts Tryz.prog 4 Tryz.f4 Rows.proofChecksSpec Rows.proofChecksRow = true := by
  unfold joinedFacts
  rw [proofChecks_wf, jf_lo, jf_mr, proofChecks_nt, jf_st, jf_sk, proofChecks_ip, proofChecks_uf, proofChecks_rc, proofChecks_nm, proofChecks_pk, jf_sh, jf_me, proofChecks_lf, proofChecks_mk]
  kernel_rfl
theorem proofChecks_in : Tryz.f4.isInstance Tryz.prog Rows.proofChecksRow.origin Rows.proofChecksRow.targs := of_decide_eq_true (by kernel_rfl)
theorem proofChecks_wr : Tryz.f4.isWrapper Tryz.prog Rows.proofChecksRow.wrapper Rows.proofChecksRow.mainSum := by
  unfold Func.isWrapper
  first
    | (rw [if_pos (by decide +kernel)]; kernel_rfl)
    | (rw [if_neg (by decide +kernel)]; exact ⟨rfl, rfl⟩)
theorem proofChecks_wt : Rows.proofChecksRow.wfByText (OpenSpec.ofChange Rows.proofChecksSpec) = true := by kernel_rfl
theorem proofChecks_gb : false = Rows.proofChecksRow.goesBy Tryz.prog := by kernel_rfl
end Go.Proofs.YteamhbohgoclgaaGreatDoor

