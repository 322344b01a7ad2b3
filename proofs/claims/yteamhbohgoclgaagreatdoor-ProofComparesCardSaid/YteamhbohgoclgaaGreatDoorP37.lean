/- The form's facts on the law ProofCompares, one by one. -/
import Derived.Test.YteamhbohgoclgaaGreatDoorP18
set_option maxRecDepth 100000
set_option maxHeartbeats 16000000
namespace Go.Proofs.YteamhbohgoclgaaGreatDoor
open Go Go.ChangeShapes

theorem proofCompares_nf : Tryz.prog.funcNamed "sandpile/sandpilelaw57.ProofCompares" = some 5 := by kernel_rfl
theorem proofCompares_wf : Rows.proofComparesRow.wf (OpenSpec.ofChange Rows.proofComparesSpec) = true := by kernel_rfl
theorem proofCompares_ip : (Rows.proofComparesRow.inPlace == Tryz.prog.inPlace 5) = true := by kernel_rfl
theorem proofCompares_uf : (Rows.proofComparesRow.unfollowed == Tryz.prog.unfollowed 5) = true := by kernel_rfl
theorem proofCompares_rc : (Rows.proofComparesRow.recurses == Tryz.prog.recurses 5) = true := by kernel_rfl
theorem proofCompares_nm : (Rows.proofComparesRow.named == Tryz.prog.varsNamed 5) = true := by kernel_rfl
theorem proofCompares_nt : namedTie Tryz.prog Rows.proofComparesRow.named Rows.proofComparesSpec.vars = true := by kernel_rfl
theorem proofCompares_pk : (Rows.proofComparesRow.plainKeys == Tryz.prog.plainKeys) = true := by kernel_rfl
theorem proofCompares_lf : (Rows.proofComparesRow.lifted == Tryz.prog.liftsFinal) = true := by kernel_rfl
theorem proofCompares_mk : (Tryz.prog.make == some Rows.proofComparesRow.make) = true := by kernel_rfl
theorem proofCompares_jf : joinedFacts Tryz.prog 5 Tryz.f5 Rows.proofComparesSpec Rows.proofComparesRow = true := by
  unfold joinedFacts
  rw [proofCompares_wf, jf_lo, jf_mr, proofCompares_nt, jf_st, jf_sk, proofCompares_ip, proofCompares_uf, proofCompares_rc, proofCompares_nm, proofCompares_pk, jf_sh, jf_me, proofCompares_lf, proofCompares_mk]
  kernel_rfl
theorem proofCompares_in : Tryz.f5.isInstance Tryz.prog Rows.proofComparesRow.origin Rows.proofComparesRow.targs := of_decide_eq_true (by kernel_rfl)
theorem proofCompares_wr : Tryz.f5.isWrapper Tryz.prog Rows.proofComparesRow.wrapper Rows.proofComparesRow.mainSum := by
  unfold Func.isWrapper
  first
    | (rw [if_pos (by decide +kernel)]; kernel_rfl)
    | (rw [if_neg (by decide +kernel)]; exact ⟨rfl, rfl⟩)
theorem proofCompares_wt : Rows.proofComparesRow.wfByText (OpenSpec.ofChange Rows.proofComparesSpec) = true := by kernel_rfl
theorem proofCompares_gb : false = Rows.proofComparesRow.goesBy Tryz.prog := by kernel_rfl
end Go.Proofs.YteamhbohgoclgaaGreatDoor

