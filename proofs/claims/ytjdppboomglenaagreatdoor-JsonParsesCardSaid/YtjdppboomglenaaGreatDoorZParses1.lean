/-
  JsonParses in the program: whatever bytes are parsed, the reference answers the same. No condition.
-/
import Derived.Test.YtjdppboomglenaaGreatDoorZRefs
namespace Go.Proofs.YtjdppboomglenaaGreatDoor.Eng
open Go
set_option linter.unusedSimpArgs false
set_option linter.unusedVariables false

attribute [local simp] evC_reg evC_regD evR_cons evR_nil runR_some regK_some evC_ret evC_skip evC_exit Out_seq Out_blk Out_some seqQ_norm seqQ_ret seqQ_exit blkQ_norm blkQ_ret blkQ_exit loopQ_norm loopQ_ret loopQ_exit
attribute [local simp] stepR evOp put upd_apply X.ev initEnv cells_agg cells_int cells_str cells_bool cells_sl cells_ptr cells_pnil cells_fn cells_map vc_length vc_take vc_plain vc_und toVs_plain toPs_plain toVs_und toPs_und takeN evBin isSh intBin strBin callK resOf packR V.plain plainL V.und undL scK kill dstsO dstsL dstsR ite_some ite_pair ite_vbool evUn evLoad evLen V.real finLoop_false quietK_false kill_none


theorem und26 (v : JV) (n : Nat) : (AObj.cells 26 (vc v)).und n 0 = true ∧ (AObj.cells 26 (vc v)).kind ≠ 4 := ⟨by simp [AObj.und], by simp [AObj.kind]⟩

theorem parses_spec (q : List UInt8) (hq : q.length ≤ 9223372036854775807) : call G 3 [.str q] ⟨[], []⟩ = some (.bool true, ⟨[], []⟩) := by
  have ha := awake_spec
  refine call_out (F := af3) rfl rfl ?_
  by_cases hl : (600 : Int) < (q.length : Int)
  · have hl2 : 600 < q.length := by omega
    simp [af3, af3b, ha, hl, hl2]
    refine Out_cond _ _ _ _ _ _ _ rfl (fun _ => ?_) (fun h => by simp at h)
    simp [ha]
    simp [fin]
  · have hl2 : ¬ 600 < q.length := by omega
    have hq2 : q.length ≤ 1000000000 := by omega
    have hp := parse_spec (q := q) hq2 ⟨[], []⟩ (by simp)
    have hr := fun s => refParse_spec (q := q) hq2 s
    have hr1 : pread q (q.length : Int) = pread q 4000 := by
      unfold pread
      rw [if_neg (by omega), if_neg (by omega)]
    have hr2 : pread q ((q.length : Int) - 1) = (jNull, 0, 6) := by
      unfold pread
      rw [if_pos (by omega)]
    have hok := pread_ok (q := q) hq2 4000
    have hw : IntKind.i64.wrap ((q.length : Int) - 1) = (q.length : Int) - 1 := wrap_in (by omega) (by omega)
    have rd1 := read_spec (q := q) hq2 (q.length : Int) ⟨[.cells 26 (vc (pread q 4000).1), .cells 26 (vc (pread q 4000).1)], []⟩ (by
      intro o ho
      simp only [List.mem_cons, List.not_mem_nil, or_false] at ho
      rcases ho with rfl | rfl <;> exact und26 _ _)
    have rd2 := read_spec (q := q) hq2 ((q.length : Int) - 1) ⟨[.cells 26 (vc (pread q 4000).1), .cells 26 (vc (pread q 4000).1), .cells 26 (vc (pread q 4000).1)], []⟩ (by
      intro o ho
      simp only [List.mem_cons, List.not_mem_nil, or_false] at ho
      rcases ho with rfl | rfl | rfl <;> exact und26 _ _)
    rw [hr1] at rd1
    rw [hr2] at rd2
    generalize pread q 4000 = R at *
    obtain ⟨v, at_, e⟩ := R
    have hs := fun s => same_spec v v hok s
    have hss : sameV v v = true := (sameV_iff v v).2 rfl
    rw [hss] at hs
    have hn := fun s => same_spec jNull jNull (by simp [jNull, JV.ok, okVs, okPs]) s
    have hnn : sameV jNull jNull = true := (sameV_iff jNull jNull).2 rfl
    rw [hnn] at hn
    obtain ⟨k1, n1, ss1, L1, F1⟩ := v
    simp only [toV, jNull, vc, toVs, toPs] at hp hr rd1 rd2 hs hn
    simp [af3, af3b, ha, hl, hl2]
    refine Out_cond _ _ _ _ _ _ _ rfl (fun h => by simp at h) (fun _ => ?_)
    simp [hp, hr, rd1, rd2, hw, hs, hn, evStore, V.one, putL, fillL]
    simp [fin]

end Go.Proofs.YtjdppboomglenaaGreatDoor.Eng
