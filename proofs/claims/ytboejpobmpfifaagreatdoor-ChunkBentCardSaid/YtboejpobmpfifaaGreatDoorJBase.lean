/-
  The primitive functions, with one more: chunk.list, whose value keeps the slice that it is given. Condition: what the two packages' tables hold.
-/
import Derived.Test.YtboejpobmpfifaaGreatDoorJBase0
import Derived.Test.YtboejpobmpfifaaGreatDoorEngS
import Derived.Test.YtboejpobmpfifaaGreatDoorEngP
namespace Go.Proofs.YtboejpobmpfifaaGreatDoor.Eng
open Go Go.RowKit
set_option linter.unusedSimpArgs false
set_option linter.unusedVariables false

section
variable {P : Program} {B : Nat} {w0 : World}
/-- A call whose result names nothing that it leaves behind: that may be forgotten. -/
theorem SoundCall.forget {f : FuncId} {args : List V} {s s' : St} {v : V} (h : SoundCall P B w0 f args s (v, s')) (ho : s'.obs.take s.obs.length = s.obs) (hbf : s'.bufs.take s.bufs.length = s.bufs)
    (hu : undL s.obs.length s.bufs.length args = true → v.und s.obs.length s.bufs.length = true) : SoundCall P B w0 f args s (v, s) := by
  intro S cargs hst hI hargs
  have hua := hargs.und
  rw [hst] at hua
  have key : ∀ e w', (∃ c S', e = Ending.returned c ∧ S'.w = w' ∧ S'.st = s' ∧ Inv B w0 S' ∧ Ext S S' ∧ Rel S' v c) →
      ∃ c S', e = Ending.returned c ∧ S'.w = w' ∧ S'.st = s ∧ Inv B w0 S' ∧ Ext S S' ∧ Rel S' v c := by
    rintro e w' ⟨c, S', rfl, rfl, hst', hI', hX, hr⟩
    have hn : s.obs.length ≤ S'.st.obs.length := by rw [hst', ← ho]; simp; omega
    have hb : s.bufs.length ≤ S'.st.bufs.length := by rw [hst', ← hbf]; simp; omega
    have hget : ∀ i, i < s.obs.length → S'.st.obs[i]? = s.obs[i]? := fun i hi => by
      have := congrArg (·[i]?) ho
      simp only [List.getElem?_take, if_pos hi] at this
      rw [hst']; exact this
    have hund : ∀ i o, i < s.obs.length → S'.st.obs[i]? = some o → o.und s.obs.length s.bufs.length = true := by
      intro i o hi ho
      rw [hget i hi] at ho
      have := (hI.obj i o (by rw [hst]; exact ho)).2.und
      rw [hst] at this
      exact this
    have hst2 : (S'.drop s.obs.length s.bufs.length).st = s := by
      simp only [Sit.drop, Sit.dropH, hst']
      rw [ho, hbf]
    exact ⟨c, S'.drop s.obs.length s.bufs.length, rfl, rfl, hst2, hI'.drop hn hb hund, hX.drop (by rw [hst]; exact Nat.le_refl _) (by rw [hst]; exact Nat.le_refl _), hr.cut hn hb (hu hua)⟩
  rcases h S cargs hst hI hargs with ⟨h1, h2⟩ | ⟨x, w', h1, h2⟩
  · exact .inl ⟨h1, h2.mono key⟩
  · exact .inr ⟨x, w', h1, key _ _ h2⟩
end

section
attribute [local simp] evC_reg evC_regD evR_cons evR_nil runR_some regK_some evC_ret evC_skip evC_exit Out_seq Out_blk Out_some seqQ_norm seqQ_ret seqQ_exit blkQ_norm blkQ_ret blkQ_exit loopQ_norm loopQ_ret loopQ_exit
attribute [local simp] stepR evOp put upd_apply X.ev initEnv cells_agg cells_int cells_str cells_bool cells_sl cells_ptr takeN evBin isSh intBin callK resOf packR fin V.plain V.und scK kill dstsO dstsL dstsR ite_some ite_pair ite_vbool evUn evLoad evLen V.real finLoop_false quietK_false kill_none
theorem list_call (o : Own) (xs : List V) (s : St) : call G0 157 [.sl o xs] s = some (.agg [.int .i64 4, .int .i64 0, .str [], .sl o xs, .sl .nil []], ⟨s.obs ++ [.cells 46 [.int .i64 4, .int .i64 0, .str [], .sl o xs, .sl .nil []]], s.bufs⟩) := by
  refine call_out (F := af157) rfl rfl ?_
  simp [af157, af157b, evStore, fillL, putL, V.one, List.getElem?_append, List.set_append]
end

/-- chunk.list. -/
def primList : List V → St → Option (V × St)
  | [.sl o xs], s => some (.agg [.int .i64 4, .int .i64 0, .str [], .sl o xs, .sl .nil []], s)
  | _, _ => none

def prims : FuncId → Option (List V → St → Option (V × St))
  | 157 => some primList
  | f => prims0 f

def G : Gp := ⟨tab, prims⟩

theorem primList_ok {B : Nat} {w0 : World} (hT : Tabs w0) (hB : 8 ≤ B) {args : List V} {s : St} {r : V × St} (h : primList args s = some r) : SoundCall Tryz.prog B w0 157 args s r := by
  unfold primList at h
  split at h
  · rename_i o xs
    cases h
    refine SoundCall.forget ((sound (fitsG0 hT hB)).2.2 157 _ _ _ (list_call o xs s)) (by simp) (by simp) (fun hu => ?_)
    cases o <;> simpa [undL, V.und] using hu
  · cases h

theorem fitsG {B : Nat} {w0 : World} (hT : Tabs w0) (hB : 8 ≤ B) : Fits Tryz.prog B w0 G where
  tab f F h := tab_ok h
  prim f p hp args s r hr := by
    unfold G prims at hp
    simp only at hp
    split at hp
    · cases hp; exact primList_ok hT hB hr
    · exact (fitsG0 hT hB).prim f p hp args s r hr

end Go.Proofs.YtboejpobmpfifaaGreatDoor.Eng
