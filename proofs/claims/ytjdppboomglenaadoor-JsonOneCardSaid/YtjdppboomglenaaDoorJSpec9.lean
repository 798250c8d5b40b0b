/-
  JSON, written by the program. No condition.
-/
import Derived.Test.YtjdppboomglenaaDoorJSpec8
namespace Go.Proofs.YtjdppboomglenaaDoor.Eng
open Go
set_option linter.unusedSimpArgs false
set_option linter.unusedVariables false

attribute [local simp] evC_reg evC_regD evR_cons evR_nil runR_some regK_some evC_ret evC_skip evC_exit Out_seq Out_blk Out_some seqQ_norm seqQ_ret seqQ_exit blkQ_norm blkQ_ret blkQ_exit loopQ_norm loopQ_ret loopQ_exit
attribute [local simp] stepR evOp put upd_apply X.ev initEnv cells_agg cells_int cells_str cells_bool cells_sl cells_ptr cells_pnil cells_fn cells_map vc_length vc_take vc_plain vc_und toVs_plain toPs_plain toVs_und toPs_und takeN evBin isSh intBin strBin callK resOf packR fin V.plain plainL V.und undL scK kill dstsO dstsL dstsR ite_some ite_pair ite_vbool evUn evLoad evLen V.real finLoop_false quietK_false kill_none

def boolV (t : Bool) : List UInt8 := if t then [116, 114, 117, 101] else [102, 97, 108, 115, 101]

theorem fb45_spec (t : Bool) (s : St) : call G 45 [.bool t] s = some (.str (boolV t), s) := by
  refine call_out (F := af45) rfl rfl ?_
  simp [af45, af45b]
  refine Out_cond _ _ _ _ _ _ _ rfl (fun h => ?_) (fun h => ?_)
  · subst h; simp [boolV]
  · subst h; simp [boolV]

theorem fb31_spec (t : Bool) (s : St) : call G 31 [.bool t] s = some (.str (boolV t), s) := by
  refine call_out (F := af31) rfl rfl ?_
  simp [af31, af31b, fb45_spec]

theorem fi_spec (n : Int) (h0 : -9223372036854775808 ≤ n) (h1 : n ≤ 9223372036854775807) (s : St) : call G 32 [.int .i64 n, .int .i64 10] s = some (.str (Lib.itoa n), s) := by
  have hp : G.prim 32 = some primFmt := rfl
  rw [call_prim _ _ _ _ _ hp]
  simp only [primFmt]
  rw [if_pos ⟨h0, h1⟩]

/-- A call that has written into the builder, and made things of its own. -/
theorem fin_sub (o tl junk : List AObj) (bufs : List (Nat × Nat × TypeId)) (bs bs' : List UInt8) : fin false (bst o tl bufs bs) (bst o (tl ++ junk) bufs bs') (.tup []) = (.tup [], bst o tl bufs bs') := by
  have hund : (V.tup []).plain.und (bst o tl bufs bs).obs.length 0 = true := rfl
  have hlen : (bst o tl bufs bs).obs.length = o.length + 1 + tl.length := by simp [bst]; omega
  have htake : (bst o (tl ++ junk) bufs bs').obs.take (bst o tl bufs bs).obs.length = (bst o tl bufs bs').obs := by
    have : (bst o tl bufs bs).obs.length = (bst o tl bufs bs').obs.length := by simp [bst]
    rw [this]
    have e : (bst o (tl ++ junk) bufs bs').obs = (bst o tl bufs bs').obs ++ junk := by simp [bst]
    rw [e, List.take_left]
  unfold fin
  rw [if_neg (by simp)]
  split
  · rename_i h
    rw [htake] at h
    have hb : bs' = bs := by
      have h1 := h.1
      simp only [bst, List.append_cancel_left_eq, List.cons.injEq, and_true, bObj, AObj.cells.injEq, V.sl.injEq, true_and] at h1
      have h2 := congrArg bytesOf h1
      rw [bytesOf_as, bytesOf_as] at h2
      exact Option.some.inj h2
    subst hb
    simp [bst]
    exact List.take_of_length_le (by simp)
  · have hsame : SameOr (bst o tl bufs bs).obs.length (bst o (tl ++ junk) bufs bs').bufs.length (bst o tl bufs bs).obs (bst o (tl ++ junk) bufs bs').obs := by
      intro i hi
      rw [hlen] at hi
      rcases Nat.lt_trichotomy i o.length with h | h | h
      · left
        simp [bst, List.getElem?_append_left h]
      · right
        subst h
        intro x hx
        simp only [bst, bObj] at hx
        rw [List.getElem?_append_right (Nat.le_refl _), Nat.sub_self] at hx
        simp at hx
        subst hx
        simp [AObj.und, undL, V.und, bst]
        have hby : ∀ l : List UInt8, undL (o.length + (tl.length + 1)) (bufs.length + 1) (asBytes l) = true := by
          intro l
          induction l with
          | nil => rfl
          | cons x l ih =>
            have e : asBytes (x :: l) = .int .u8 x.toNat :: asBytes l := rfl
            rw [e]
            simp [undL, V.und, ih]
        have := hby bs'
        simp [this]
      · left
        simp only [bst]
        rw [List.getElem?_append_right (by omega), List.getElem?_append_right (by omega)]
        obtain ⟨j, hj⟩ : ∃ j, i - o.length = j + 1 := ⟨i - o.length - 1, by omega⟩
        rw [hj]
        simp only [List.getElem?_cons_succ]
        rw [List.getElem?_append_left (by omega)]
    rw [if_pos ⟨hsame, hund⟩, htake]
    rfl

theorem fin_sub0 (o tl junk : List AObj) (bufs : List (Nat × Nat × TypeId)) (bs' : List UInt8) : fin false (bst0 o tl bufs) (bst o (tl ++ junk) bufs bs') (.tup []) = (.tup [], bst o tl bufs bs') := by
  have hund : (V.tup []).plain.und (bst0 o tl bufs).obs.length 0 = true := rfl
  have hlen : (bst0 o tl bufs).obs.length = o.length + 1 + tl.length := by simp [bst0]; omega
  have htake : (bst o (tl ++ junk) bufs bs').obs.take (bst0 o tl bufs).obs.length = (bst o tl bufs bs').obs := by
    have : (bst0 o tl bufs).obs.length = (bst o tl bufs bs').obs.length := by simp [bst, bst0]
    rw [this]
    have e : (bst o (tl ++ junk) bufs bs').obs = (bst o tl bufs bs').obs ++ junk := by simp [bst]
    rw [e, List.take_left]
  unfold fin
  rw [if_neg (by simp)]
  split
  · rename_i h
    rw [htake] at h
    exfalso
    have h1 := h.1
    simp only [bst, bst0, List.append_cancel_left_eq, List.cons.injEq, and_true, bObj, AObj.cells.injEq, true_and] at h1
    exact absurd h1.1 (by simp)
  · have hsame : SameOr (bst0 o tl bufs).obs.length (bst o (tl ++ junk) bufs bs').bufs.length (bst0 o tl bufs).obs (bst o (tl ++ junk) bufs bs').obs := by
      intro i hi
      rw [hlen] at hi
      rcases Nat.lt_trichotomy i o.length with h | h | h
      · left
        simp [bst, bst0, List.getElem?_append_left h]
      · right
        subst h
        intro x hx
        simp only [bst, bObj] at hx
        rw [List.getElem?_append_right (Nat.le_refl _), Nat.sub_self] at hx
        simp at hx
        subst hx
        simp [AObj.und, undL, V.und, bst, bst0]
        have hby : ∀ l : List UInt8, undL (o.length + (tl.length + 1)) (bufs.length + 1) (asBytes l) = true := by
          intro l
          induction l with
          | nil => rfl
          | cons x l ih =>
            have e : asBytes (x :: l) = .int .u8 x.toNat :: asBytes l := rfl
            rw [e]
            simp [undL, V.und, ih]
        have := hby bs'
        simp [this]
      · left
        simp only [bst, bst0]
        rw [List.getElem?_append_right (by omega), List.getElem?_append_right (by omega)]
        obtain ⟨j, hj⟩ : ∃ j, i - o.length = j + 1 := ⟨i - o.length - 1, by omega⟩
        rw [hj]
        simp only [List.getElem?_cons_succ]
        rw [List.getElem?_append_left (by omega)]
    rw [if_pos ⟨hsame, hund⟩, htake]
    rfl

/-! ### The builder, fresh or written -/
def bsx (o tl : List AObj) (bufs : List (Nat × Nat × TypeId)) : Option (List UInt8) → St
  | none => bst0 o tl bufs
  | some bs => bst o tl bufs bs

theorem write_bsx (o tl : List AObj) (bufs : List (Nat × Nat × TypeId)) (x : Option (List UInt8)) (t : List UInt8) (ht : t ≠ []) (hr : (x.getD []).length + t.length ≤ 140737488355328) :
    call G 30 [.ptr o.length 0, .str t] (bsx o tl bufs x) = some (.tup [.int .i64 t.length, .nilI], bst o tl bufs (x.getD [] ++ t)) := by
  cases x with
  | none => exact write_bst0 o tl bufs t ht (by simpa using hr)
  | some bs => exact write_bst o tl bufs bs t ht hr

theorem byte_bsx (o tl : List AObj) (bufs : List (Nat × Nat × TypeId)) (x : Option (List UInt8)) (t : UInt8) (hr : (x.getD []).length + 1 ≤ 140737488355328) :
    call G 34 [.ptr o.length 0, .int .u8 t.toNat] (bsx o tl bufs x) = some (.nilI, bst o tl bufs (x.getD [] ++ [t])) := by
  cases x with
  | none => exact byte_bst0 o tl bufs t
  | some bs => exact byte_bst o tl bufs bs t hr

/-! JSON of a right value. -/
mutual
def encJ : JV → List UInt8
  | .mk k n s l f =>
    if k = 0 then [110, 117, 108, 108]
    else if k = 1 then boolV (decide (n = 1))
    else if k = 2 then Lib.itoa n
    else if k = 3 then quoteV s
    else if k = 4 then 91 :: (encVs l 0 ++ [93])
    else if k = 5 then 123 :: (encPs f 0 ++ [125])
    else []
def encVs : List JV → Nat → List UInt8
  | [], _ => []
  | v :: vs, i => (if 0 < i then [44] else []) ++ encJ v ++ encVs vs (i + 1)
def encPs : List (List UInt8 × JV) → Nat → List UInt8
  | [], _ => []
  | p :: ps, i => (if 0 < i then [44] else []) ++ quoteV p.1 ++ [58] ++ encJ p.2 ++ encPs ps (i + 1)
end

theorem fin_bsx (o tl junk : List AObj) (bufs : List (Nat × Nat × TypeId)) (x : Option (List UInt8)) (bs' : List UInt8) : fin false (bsx o tl bufs x) (bst o (tl ++ junk) bufs bs') (.tup []) = (.tup [], bst o tl bufs bs') := by
  cases x with
  | none => exact fin_sub0 o tl junk bufs bs'
  | some bs => exact fin_sub o tl junk bufs bs bs'

theorem bsx_app (o tl l : List AObj) (bufs : List (Nat × Nat × TypeId)) (x : Option (List UInt8)) : ({ obs := (bsx o tl bufs x).obs ++ l, bufs := (bsx o tl bufs x).bufs } : St) = bsx o (tl ++ l) bufs x := by
  cases x <;> simp [bsx, bst, bst0]
theorem bst_app (o tl l : List AObj) (bufs : List (Nat × Nat × TypeId)) (bs : List UInt8) : ({ obs := (bst o tl bufs bs).obs ++ l, bufs := (bst o tl bufs bs).bufs } : St) = bst o (tl ++ l) bufs bs := by
  simp [bst]
theorem bsx_len (o tl : List AObj) (bufs : List (Nat × Nat × TypeId)) (x : Option (List UInt8)) : (bsx o tl bufs x).obs.length = o.length + 1 + tl.length := by
  cases x <;> simp [bsx, bst, bst0] <;> omega
theorem bst_len (o tl : List AObj) (bufs : List (Nat × Nat × TypeId)) (bs : List UInt8) : (bst o tl bufs bs).obs.length = o.length + 1 + tl.length := by
  simp [bst]; omega

end Go.Proofs.YtjdppboomglenaaDoor.Eng
