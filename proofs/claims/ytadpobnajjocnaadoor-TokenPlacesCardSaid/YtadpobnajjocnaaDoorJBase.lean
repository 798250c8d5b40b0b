/-
  The primitive functions, with one more: cascadelaw08.zeros, which fills a new slice of bytes. Condition: what the two packages' tables hold.
-/
import Derived.Test.YtadpobnajjocnaaDoorJBase0
import Derived.Test.YtadpobnajjocnaaDoorEngS
import Derived.Test.YtadpobnajjocnaaDoorEngW
namespace Go.Proofs.YtadpobnajjocnaaDoor.Eng
open Go Go.RowKit
set_option linter.unusedSimpArgs false
set_option linter.unusedVariables false

section
attribute [local simp] evC_reg evR_cons evR_nil runR_some regK_some evC_ret evC_skip evC_exit Out_seq Out_blk Out_some seqQ_norm seqQ_ret seqQ_exit blkQ_norm blkQ_ret blkQ_exit loopQ_norm loopQ_ret loopQ_exit
attribute [local simp] stepR evOp put upd_apply X.ev initEnv takeN evBin isSh intBin callK resOf packR fin V.plain V.und scK kill dstsO dstsL dstsR ite_some ite_pair ite_vbool evUn evLoad evLen V.real finLoop_false quietK_false kill_none

/-- So many are written. -/
def spB (n i : Nat) : List V := asBytes (List.replicate i 120 ++ List.replicate (n - i) 0)
theorem spB_len (n i : Nat) (h : i ≤ n) : (spB n i).length = n := by simp [spB, asBytes]; omega
theorem spB_set (n i : Nat) (h : i < n) : (spB n i).set i (.int .u8 120) = spB n (i + 1) := by
  unfold spB asBytes
  rw [List.map_append, List.map_append]
  have e : n - i = (n - (i + 1)) + 1 := by omega
  rw [e, List.replicate_succ, List.map_cons, List.set_append_right _ _ (by simp)]
  simp [List.replicate_succ']

theorem spLoop (n : Nat) (hn : n ≤ 10000) (s : St) : ∀ (m i : Nat) (env : Env), n - i = m → i ≤ n → env 0 = .int .i64 n → env 3 = .msl s.obs.length 1 0 n → env 4 = .int .i64 i →
    Out (evC G0 (.loop false af7l0) env ⟨s.obs ++ [.arr 5 (spB n i)], s.bufs⟩) (fun e env' s' => e = .exit 0 ∧ env' 3 = .msl s.obs.length 1 0 n ∧ s' = ⟨s.obs ++ [.arr 5 (spB n n)], s.bufs⟩) := by
  intro m
  induction m with
  | zero =>
    intro i env hm hi h0 h3 h4
    have : i = n := by omega
    subst this
    refine Out_loop G0 false _ _ af7l0.eq_1 _ _ _ ?_
    simp [h0, h4]
    refine Out_cond _ _ _ _ _ _ _ rfl (fun h => by simp at h) (fun _ => ?_)
    simp [h3]
  | succ m ih =>
    intro i env hm hi h0 h3 h4
    have hlt : i < n := by omega
    have hw : IntKind.i64.wrap ((i : Int) + 1) = ((i + 1 : Nat) : Int) := by rw [wrap_in (by omega) (by omega)]; omega
    have hset : (s.obs ++ [AObj.arr 5 (spB n i)]).set s.obs.length (AObj.arr 5 ((spB n i).set i (.int .u8 120))) = s.obs ++ [AObj.arr 5 (spB n (i + 1))] := by
      rw [List.set_append_right _ _ (Nat.le_refl _), spB_set n i hlt]
      simp
    have hl := spB_len n i hi
    have hst : evStore 1 (.ptr s.obs.length i) (.int .u8 120) ⟨s.obs ++ [.arr 5 (spB n i)], s.bufs⟩ = some (.tup [], ⟨s.obs ++ [.arr 5 (spB n (i + 1))], s.bufs⟩) := by
      have hc : V.cells (.int .u8 120) = [.int .u8 120] := rfl
      simp only [evStore]
      rw [show (s.obs ++ [AObj.arr 5 (spB n i)])[s.obs.length]? = some (.arr 5 (spB n i)) by simp]
      simp only [hc, putL]
      rw [if_pos ⟨rfl, by omega, rfl⟩, hset]
    refine Out_loop G0 false _ _ af7l0.eq_1 _ _ _ ?_
    simp [h0, h4, hlt]
    refine Out_cond _ _ _ _ _ _ _ rfl (fun _ => ?_) (fun h => by simp at h)
    simp [h3, h4, hlt, hst, hw]
    exact ih (i + 1) _ (by omega) (by omega) (by simp [h0]) (by simp [h3]) (by simp)

theorem sp_call (n : Nat) (hn : n ≤ 10000) (s : St) : call G0 7 [.int .i64 n] s = some (.msl s.obs.length 1 0 n, ⟨s.obs ++ [.arr 5 (asBytes (List.replicate n 120))], s.bufs⟩) := by
  refine call_out (F := af7) rfl rfl ?_
  have hroom : room = 140737488355328 := by decide
  have e0 : (List.replicate n (V.cells (.int .u8 0))).flatten = spB n 0 := by
    have hc : V.cells (.int .u8 0) = [.int .u8 0] := rfl
    rw [hc]
    unfold spB asBytes
    simp only [List.replicate_zero, List.nil_append, Nat.sub_zero, List.map_replicate]
    induction n with
    | zero => rfl
    | succ n ih => rw [List.replicate_succ, List.flatten_cons, ih (by omega)]; rfl
  have e1 : spB n n = asBytes (List.replicate n 120) := by simp [spB]
  have hr : n ≤ 140737488355328 := by omega
  simp [af7, af7b, evMks, hroom, hr, e0]
  refine Out.mono (spLoop n hn s n 0 _ (by omega) (by omega) (by simp) (by simp) (by simp)) ?_
  rintro e env' s' ⟨rfl, h3, rfl⟩
  simp [h3, e1]
end

/-- Signs x: their bytes. -/
def primSp : List V → St → Option (V × St)
  | [.int .i64 n], s => if 0 ≤ n ∧ n ≤ 10000 ∧ (s.obs.all fun o => match o with | .dead => false | _ => true) = true then some (.sl .no (asBytes (List.replicate n.toNat 120)), s) else none
  | _, _ => none

def prims : FuncId → Option (List V → St → Option (V × St))
  | 7 => some primSp
  | f => prims0 f

def G : Gp := ⟨tab, prims⟩

theorem primSp_ok {B : Nat} {w0 : World} (hT : Tabs w0) (hB : 8 ≤ B) {args : List V} {s : St} {r : V × St} (h : primSp args s = some r) : SoundCall Tryd.prog B w0 7 args s r := by
  unfold primSp at h
  split at h
  · rename_i n
    split at h
    · rename_i hc
      obtain ⟨h0, h1, hd⟩ := hc
      cases h
      obtain ⟨m, rfl⟩ : ∃ m : Nat, n = m := ⟨n.toNat, by omega⟩
      have hs := (sound (fitsG0 hT hB)).2.2 7 _ _ _ (sp_call m (by omega) s)
      refine SoundCall.freeze (t := 5) ?_ ?_
      · intro o ho q
        subst q
        have := List.all_eq_true.1 hd _ ho
        simp at this
      · simpa using hs
    · cases h
  · cases h

theorem fitsG {B : Nat} {w0 : World} (hT : Tabs w0) (hB : 8 ≤ B) : Fits Tryd.prog B w0 G where
  tab f F h := tab_ok h
  prim f p hp args s r hr := by
    unfold G prims at hp
    simp only at hp
    split at hp
    · cases hp; exact primSp_ok hT hB hr
    · exact (fitsG0 hT hB).prim f p hp args s r hr

end Go.Proofs.YtadpobnajjocnaaDoor.Eng
