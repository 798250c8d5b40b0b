/-
  strings.Builder. No condition.
-/
import Derived.Test.YtjdppboomglenaaDoorJSpec5
namespace Go.Proofs.YtjdppboomglenaaDoor.Eng
open Go
set_option linter.unusedSimpArgs false
set_option linter.unusedVariables false

attribute [local simp] evC_reg evC_regD evR_cons evR_nil runR_some regK_some evC_ret evC_skip evC_exit Out_seq Out_blk Out_some seqQ_norm seqQ_ret seqQ_exit blkQ_norm blkQ_ret blkQ_exit loopQ_norm loopQ_ret loopQ_exit
attribute [local simp] stepR evOp put upd_apply X.ev initEnv cells_agg cells_int cells_str cells_bool cells_sl cells_ptr cells_pnil cells_fn cells_map vc_length vc_take vc_plain vc_und toVs_plain toPs_plain toVs_und toPs_und takeN evBin isSh intBin strBin callK resOf packR fin V.plain plainL V.und undL scK kill dstsO dstsL dstsR ite_some ite_pair ite_vbool evUn evLoad evLen V.real finLoop_false quietK_false kill_none

def bObj (o i : Nat) (bs : List UInt8) : AObj := .cells 42 [.ptr o 0, .sl (.buf i) (asBytes bs)]
/-- A builder, its buffer the last of all; behind what is there, ahead of other things. -/
def bst (obs tl : List AObj) (bufs : List (Nat × Nat × TypeId)) (bs : List UInt8) : St := ⟨obs ++ bObj obs.length bufs.length bs :: tl, bufs ++ [(bs.length, 1, 5)]⟩
def bst0 (obs tl : List AObj) (bufs : List (Nat × Nat × TypeId)) : St := ⟨obs ++ .cells 42 [.pnil, .sl .nil []] :: tl, bufs⟩
def bst1 (obs tl : List AObj) (bufs : List (Nat × Nat × TypeId)) : St := ⟨obs ++ .cells 42 [.ptr obs.length 0, .sl .nil []] :: tl, bufs⟩

theorem asBytes_length (b : List UInt8) : (asBytes b).length = b.length := by simp [asBytes]
theorem asBytes_app (a b : List UInt8) : asBytes (a ++ b) = asBytes a ++ asBytes b := by simp [asBytes]
theorem fits_bytes (b : List UInt8) : fits 1 (asBytes b) = true := by cases b <;> simp [asBytes, fits]

theorem fits_nil : fits 1 [] = true := rfl
theorem fits_one (k : IntKind) (n : Int) : fits 1 [.int k n] = true := rfl

theorem id_spec (v : V) (s : St) : call G 60 [v] s = some (v, s) := by rw [call_eq]; rfl

theorem copy_bst (obs tl : List AObj) (bufs : List (Nat × Nat × TypeId)) (bs : List UInt8) : call G 44 [.ptr obs.length 0] (bst obs tl bufs bs) = some (.tup [], bst obs tl bufs bs) := by
  refine call_out (F := af44) rfl rfl ?_
  simp [af44, af44b, bst, bObj, evEqp]
  refine Out_cond _ _ _ _ _ _ _ rfl (fun h => by cases h) (fun _ => ?_)
  simp [evEqp]
  refine Out_cond _ _ _ _ _ _ _ rfl (fun h => by cases h) (fun _ => ?_)
  simp

theorem copy_bst0 (obs tl : List AObj) (bufs : List (Nat × Nat × TypeId)) : call G 44 [.ptr obs.length 0] (bst0 obs tl bufs) = some (.tup [], bst1 obs tl bufs) := by
  refine call_out (F := af44) rfl rfl ?_
  simp [af44, af44b, bst0, bst1, evEqp]
  refine Out_cond _ _ _ _ _ _ _ rfl (fun _ => ?_) (fun h => by cases h)
  simp [id_spec, evStore, V.one, putL]

theorem write_bst (obs tl : List AObj) (bufs : List (Nat × Nat × TypeId)) (bs x : List UInt8) (hx : x ≠ []) (hr : bs.length + x.length ≤ 140737488355328) :
    call G 30 [.ptr obs.length 0, .str x] (bst obs tl bufs bs) = some (.tup [.int .i64 x.length, .nilI], bst obs tl bufs (bs ++ x)) := by
  have hroom : room = 140737488355328 := by decide
  have hx0 : ¬ x.length = 0 := by simpa using hx
  refine call_out (F := af30) rfl rfl ?_
  simp [af30, af30b, copy_bst]
  simp [bst, bObj, evApp, appSrc, asBytes_length, hx0, fits_bytes, hroom, hr, evStore, V.one, putL, asBytes_app, hx]

theorem write_bst0 (obs tl : List AObj) (bufs : List (Nat × Nat × TypeId)) (x : List UInt8) (hx : x ≠ []) (hr : x.length ≤ 140737488355328) :
    call G 30 [.ptr obs.length 0, .str x] (bst0 obs tl bufs) = some (.tup [.int .i64 x.length, .nilI], bst obs tl bufs x) := by
  have hroom : room = 140737488355328 := by decide
  have hx0 : ¬ x.length = 0 := by simpa using hx
  refine call_out (F := af30) rfl rfl ?_
  simp [af30, af30b, copy_bst0]
  simp [bst, bst1, bObj, evApp, appSrc, asBytes_length, hx0, fits_bytes, hroom, hr, evStore, V.one, putL, asBytes_app, hx, fits_nil]

theorem one_byte (x : UInt8) : asBytes [x] = [.int .u8 x.toNat] := rfl

theorem byte_bst (obs tl : List AObj) (bufs : List (Nat × Nat × TypeId)) (bs : List UInt8) (x : UInt8) (hr : bs.length + 1 ≤ 140737488355328) :
    call G 34 [.ptr obs.length 0, .int .u8 x.toNat] (bst obs tl bufs bs) = some (.nilI, bst obs tl bufs (bs ++ [x])) := by
  have hroom : room = 140737488355328 := by decide
  refine call_out (F := af34) rfl rfl ?_
  simp [af34, af34b, copy_bst]
  simp [bst, bObj, hroom, hr, evApp, appSrc, asBytes_length, fits_bytes, evStore, V.one, putL, asBytes_app, one_byte, fillS, fits_nil, fits_one]

theorem byte_bst0 (obs tl : List AObj) (bufs : List (Nat × Nat × TypeId)) (x : UInt8) :
    call G 34 [.ptr obs.length 0, .int .u8 x.toNat] (bst0 obs tl bufs) = some (.nilI, bst obs tl bufs [x]) := by
  have hroom : room = 140737488355328 := by decide
  refine call_out (F := af34) rfl rfl ?_
  simp [af34, af34b, copy_bst0]
  simp [bst, bst1, bObj, hroom, evApp, appSrc, asBytes_length, fits_bytes, evStore, V.one, putL, asBytes_app, one_byte, fillS, fits_nil, fits_one]

theorem bytesOf_as : ∀ b : List UInt8, bytesOf (asBytes b) = some b
  | [] => rfl
  | x :: b => by
    have h := bytesOf_as b
    have hx := byte_lt x
    simp only [asBytes, List.map_cons] at h ⊢
    unfold bytesOf
    rw [if_pos (by omega), h]
    simp

theorem fin_same (s : St) (r : V) (h : r.plain.und s.obs.length 0 = true) : fin false s s r = (r.plain, s) := by
  unfold fin
  rw [if_neg (by simp), if_pos ⟨List.take_length, h⟩, List.take_length]

theorem string_bst (obs tl : List AObj) (bufs : List (Nat × Nat × TypeId)) (bs : List UInt8) (hb : bs ≠ []) (hr : bs.length ≤ 140737488355328) : call G 17 [.ptr obs.length 0] (bst obs tl bufs bs) = some (.str bs, bst obs tl bufs bs) := by
  have hroom : room = 140737488355328 := by decide
  refine call_out (F := af17) rfl rfl ?_
  simp [-fin, af17, af17b, bst, bObj, hroom, hr, asBytes_length, hb, bytesOf_as]
  exact fin_same _ _ rfl

end Go.Proofs.YtjdppboomglenaaDoor.Eng
