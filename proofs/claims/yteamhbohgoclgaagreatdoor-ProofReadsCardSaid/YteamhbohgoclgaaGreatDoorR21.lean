/- The form's facts on the law ProofReads, one by one. -/
import Derived.Test.YteamhbohgoclgaaGreatDoorR20
set_option maxRecDepth 100000
set_option maxHeartbeats 16000000
namespace Go.Proofs.YteamhbohgoclgaaGreatDoor
open Go Go.ChangeShapes

theorem proofReads_nf : Tryz.prog.funcNamed "sandpile/sandpilelaw57.ProofReads" = some 3 := by kernel_rfl
theorem proofReads_wf : Rows.proofReadsRow.wf (OpenSpec.ofChange Rows.proofReadsSpec) = true := by kernel_rfl
theorem proofReads_ip : (Rows.proofReadsRow.inPlace == Tryz.prog.inPlace 3) = true := by kernel_rfl
theorem proofReads_uf : (Rows.proofReadsRow.unfollowed == Tryz.prog.unfollowed 3) = true := by kernel_rfl
theorem proofReads_rc : (Rows.proofReadsRow.recurses == Tryz.prog.recurses 3) = true := by kernel_rfl
theorem proofReads_nm : (Rows.proofReadsRow.named == Tryz.prog.varsNamed 3) = true := by kernel_rfl
theorem proofReads_nt : namedTie Tryz.prog Rows.proofReadsRow.named Rows.proofReadsSpec.vars = true := by kernel_rfl
theorem proofReads_pk : (Rows.proofReadsRow.plainKeys == Tryz.prog.plainKeys) = true := by kernel_rfl
theorem proofReads_lf : (Rows.proofReadsRow.lifted == Tryz.prog.liftsFinal) = true := by kernel_rfl
theorem proofReads_mk : (Tryz.prog.make == some Rows.proofReadsRow.make) = true := by kernel_rfl
theorem proofReads_jf : joinedFacts Tryz.prog 3 Tryz.f3 Rows.proofReadsSpec Rows.proofReadsRow = true := by
 unfold joinedFacts
 rw [proofReads_wf, jf_lo, jf_mr, proofReads_nt, jf_st, jf_sk, proofReads_ip, proofReads_uf, proofReads_rc, proofReads_nm, proofReads_pk, jf_sh, jf_me, proofReads_lf, proofReads_mk]
 kernel_rfl
theorem proofReads_in : Tryz.f3.isInstance Tryz.prog Rows.proofReadsRow.origin Rows.proofReadsRow.targs := of_decide_eq_true (by kernel_rfl)
theorem proofReads_wr : Tryz.f3.isWrapper Tryz.prog Rows.proofReadsRow.wrapper Rows.proofReadsRow.mainSum := by
 unfold Func.isWrapper
 first
   | (rw [if_pos (by decide +kernel)]; kernel_rfl)
   | (rw [if_neg (by decide +kernel)]; exact ⟨rfl, rfl⟩)
theorem proofReads_wt : Rows.proofReadsRow.wfByText (OpenSpec.ofChange Rows.proofReadsSpec) = true := by kernel_rfl
theorem proofReads_gb : false = Rows.proofReadsRow.goesBy Tryz.prog := by kernel_rfl
end Go.Proofs.YteamhbohgoclgaaGreatDoor
