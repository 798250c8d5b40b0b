/-
  utf8.AppendRune, (*strings.Builder).WriteRune. No condition.
-/
import Derived.Test.YtjdppboomglenaaDoorJSpec6
namespace Go.Proofs.YtjdppboomglenaaDoor.Eng
open Go
set_option linter.unusedSimpArgs false
set_option linter.unusedVariables false

attribute [local simp] evC_reg evC_regD evR_cons evR_nil runR_some regK_some evC_ret evC_skip evC_exit Out_seq Out_blk Out_some seqQ_norm seqQ_ret seqQ_exit blkQ_norm blkQ_ret blkQ_exit loopQ_norm loopQ_ret loopQ_exit
attribute [local simp] stepR evOp put upd_apply X.ev initEnv cells_agg cells_int cells_str cells_bool cells_sl cells_ptr cells_pnil cells_fn cells_map vc_length vc_take vc_plain vc_und toVs_plain toPs_plain toVs_und toPs_und takeN evBin isSh intBin strBin callK resOf packR fin V.plain plainL V.und undL scK kill dstsO dstsL dstsR ite_some ite_pair ite_vbool evUn evLoad evLen V.real finLoop_false quietK_false kill_none

theorem wrapU8 {n : Int} (h0 : 0 ≤ n) : IntKind.u8.wrap n = n % 256 := by
  have e : (2 : Int) ^ IntKind.u8.bits = 256 := by decide
  have e'' : IntKind.u8.signed = false := by decide
  unfold IntKind.wrap
  simp only [e, e'', Bool.false_and, Bool.false_eq_true, if_false]

theorem wrapU32 {n : Int} (h0 : 0 ≤ n) (h1 : n < 4294967296) : IntKind.u32.wrap n = n := by
  have e : (2 : Int) ^ IntKind.u32.bits = 4294967296 := by decide
  have e'' : IntKind.u32.signed = false := by decide
  unfold IntKind.wrap
  simp only [e, e'', Bool.false_and, Bool.false_eq_true, if_false]
  omega

/-- A lead byte's bits, and a later byte's. -/
theorem or_192 : ∀ x : Fin 32, IntKind.u8.wrap ((BitVec.ofInt IntKind.u8.bits 192 ||| BitVec.ofInt IntKind.u8.bits (x.val : Int)).toNat : Int) = 192 + x.val := by decide
theorem or_224 : ∀ x : Fin 16, IntKind.u8.wrap ((BitVec.ofInt IntKind.u8.bits 224 ||| BitVec.ofInt IntKind.u8.bits (x.val : Int)).toNat : Int) = 224 + x.val := by decide
theorem or_240 : ∀ x : Fin 8, IntKind.u8.wrap ((BitVec.ofInt IntKind.u8.bits 240 ||| BitVec.ofInt IntKind.u8.bits (x.val : Int)).toNat : Int) = 240 + x.val := by decide
set_option maxRecDepth 10000 in
theorem or_128 : ∀ x : Fin 64, IntKind.u8.wrap ((BitVec.ofInt IntKind.u8.bits 128 ||| BitVec.ofInt IntKind.u8.bits (x.val : Int)).toNat : Int) = 128 + x.val := by decide
set_option maxRecDepth 100000 in
theorem and_63 : ∀ x : Fin 256, IntKind.u8.wrap ((BitVec.ofInt IntKind.u8.bits (x.val : Int) &&& BitVec.ofInt IntKind.u8.bits 63).toNat : Int) = ((x.val % 64 : Nat) : Int) := by decide

/-- Bits of bytes. -/
def orB (a b : Int) : Int := IntKind.u8.wrap (BitVec.ofInt IntKind.u8.bits a ||| BitVec.ofInt IntKind.u8.bits b).toNat
def andB (a b : Int) : Int := IntKind.u8.wrap (BitVec.ofInt IntKind.u8.bits a &&& BitVec.ofInt IntKind.u8.bits b).toNat
theorem iB_or (a b : Int) : intBin .or .u8 a b = some (.int .u8 (orB a b)) := rfl
theorem iB_and (a b : Int) : intBin .and .u8 a b = some (.int .u8 (andB a b)) := rfl
theorem iB_leq (k : IntKind) (a b : Int) : intBin .leq k a b = some (.bool (decide (a ≤ b))) := rfl
theorem iB_lss (k : IntKind) (a b : Int) : intBin .lss k a b = some (.bool (decide (a < b))) := rfl
theorem iB_gtr (k : IntKind) (a b : Int) : intBin .gtr k a b = some (.bool (decide (b < a))) := rfl

theorem or192 {x : Int} (h0 : 0 ≤ x) (h : x < 32) : orB 192 x = 192 + x := by
  have := or_192 ⟨x.toNat, by omega⟩
  simp only at this
  rw [show ((x.toNat : Nat) : Int) = x by omega] at this
  exact this
theorem or224 {x : Int} (h0 : 0 ≤ x) (h : x < 16) : orB 224 x = 224 + x := by
  have := or_224 ⟨x.toNat, by omega⟩
  simp only at this
  rw [show ((x.toNat : Nat) : Int) = x by omega] at this
  exact this
theorem or240 {x : Int} (h0 : 0 ≤ x) (h : x < 8) : orB 240 x = 240 + x := by
  have := or_240 ⟨x.toNat, by omega⟩
  simp only at this
  rw [show ((x.toNat : Nat) : Int) = x by omega] at this
  exact this
theorem or128 {x : Int} (h0 : 0 ≤ x) (h : x < 64) : orB 128 x = 128 + x := by
  have := or_128 ⟨x.toNat, by omega⟩
  simp only at this
  rw [show ((x.toNat : Nat) : Int) = x by omega] at this
  exact this
theorem and63 {x : Int} (h0 : 0 ≤ x) (h : x < 256) : andB x 63 = x % 64 := by
  have := and_63 ⟨x.toNat, by omega⟩
  simp only at this
  rw [show ((x.toNat : Nat) : Int) = x by omega] at this
  have e : ((x.toNat % 64 : Nat) : Int) = x % 64 := by omega
  rw [e] at this
  exact this

/-- A rune's bytes. -/
def encV (c : Nat) : List UInt8 :=
  if c < 128 then [UInt8.ofNat c]
  else if c < 2048 then [UInt8.ofNat (192 + c / 64), UInt8.ofNat (128 + c % 64)]
  else if c < 65536 then [UInt8.ofNat (224 + c / 4096), UInt8.ofNat (128 + c / 64 % 64), UInt8.ofNat (128 + c % 64)]
  else [UInt8.ofNat (240 + c / 262144), UInt8.ofNat (128 + c / 4096 % 64), UInt8.ofNat (128 + c / 64 % 64), UInt8.ofNat (128 + c % 64)]

theorem fits_int (k : IntKind) (n : Int) (r : List V) : fits 1 (.int k n :: r) = true := rfl

theorem ofNat_val {n : Nat} (h : n < 256) : ((UInt8.ofNat n).toNat : Int) = n := by
  rw [UInt8.toNat_ofNat']; omega

theorem app80_spec (obs : List AObj) (bufs : List (Nat × Nat × TypeId)) (bs : List UInt8) (c : Nat) (h0 : 128 ≤ c) (h1 : c ≤ 1114111) (h2 : c < 55296 ∨ 57344 ≤ c) (hr : bs.length + 4 ≤ 140737488355328) :
    call G 80 [.sl (.buf bufs.length) (asBytes bs), .int .i32 c] ⟨obs, bufs ++ [(bs.length, 1, 5)]⟩ =
      some (.sl (.buf bufs.length) (asBytes (bs ++ encV c)), ⟨obs, bufs ++ [((bs ++ encV c).length, 1, 5)]⟩) := by
  have hroom : room = 140737488355328 := by decide
  have w32 : IntKind.u32.wrap (c : Int) = c := wrapU32 (by omega) (by omega)
  have s6 : (c : Int).fdiv 64 = (c : Int) / 64 := Int.fdiv_eq_ediv_of_nonneg _ (by omega)
  have s12 : (c : Int).fdiv 4096 = (c : Int) / 4096 := Int.fdiv_eq_ediv_of_nonneg _ (by omega)
  have s18 : (c : Int).fdiv 262144 = (c : Int) / 262144 := Int.fdiv_eq_ediv_of_nonneg _ (by omega)
  have m6 : min 6 IntKind.i32.bits = 6 := by decide
  have m12 : min 12 IntKind.i32.bits = 12 := by decide
  have m18 : min 18 IntKind.i32.bits = 18 := by decide
  have lw0 : IntKind.u8.wrap (c : Int) = (c : Int) % 256 := wrapU8 (by omega)
  have lw6 : IntKind.u8.wrap ((c : Int) / 64) = (c : Int) / 64 % 256 := wrapU8 (by omega)
  have lw12 : IntKind.u8.wrap ((c : Int) / 4096) = (c : Int) / 4096 % 256 := wrapU8 (by omega)
  have lw18 : IntKind.u8.wrap ((c : Int) / 262144) = (c : Int) / 262144 % 256 := wrapU8 (by omega)
  have t0 : orB 128 (andB ((c : Int) % 256) 63) = 128 + (c : Int) % 64 := by rw [and63 (by omega) (by omega), or128 (by omega) (by omega)]; omega
  have t6 : orB 128 (andB ((c : Int) / 64 % 256) 63) = 128 + (c : Int) / 64 % 64 := by rw [and63 (by omega) (by omega), or128 (by omega) (by omega)]; omega
  have t12 : orB 128 (andB ((c : Int) / 4096 % 256) 63) = 128 + (c : Int) / 4096 % 64 := by rw [and63 (by omega) (by omega), or128 (by omega) (by omega)]; omega
  refine call_out (F := af80) rfl rfl ?_
  simp [-intBin, iB_leq, af80, af80b, w32]
  refine Out_cond _ _ _ _ _ _ _ rfl (fun h => ?_) (fun h => ?_)
  · have hc : c ≤ 2047 := by simp at h; omega
    have o1 : orB 192 ((c : Int) / 64 % 256) = 192 + (c : Int) / 64 := by rw [or192 (by omega) (by omega)]; omega
    have ev : encV c = [UInt8.ofNat (192 + c / 64), UInt8.ofNat (128 + c % 64)] := by simp [encV, show ¬ c < 128 by omega, show c < 2048 by omega]
    have v1 := ofNat_val (n := 192 + c / 64) (by omega)
    have v2 := ofNat_val (n := 128 + c % 64) (by omega)
    have eb : asBytes (bs ++ encV c) = asBytes bs ++ [.int .u8 (192 + (c : Int) / 64), .int .u8 (128 + (c : Int) % 64)] := by
      rw [asBytes_app, ev]
      simp only [asBytes, List.map_cons, List.map_nil, v1, v2]
      simp
    have hr' : bs.length + 2 ≤ 140737488355328 := by omega
    rw [eb, ev]
    simp [-intBin, iB_or, iB_and, shBin, m6, s6, lw0, lw6, o1, t0, fillS, V.one, evApp, appSrc, asBytes_length, fits_bytes, fits_int, hroom, hr']
  · have hc : ¬ c ≤ 2047 := by simp at h; omega
    have hA : ∀ (env : Env), env 0 = .sl (.buf bufs.length) (asBytes bs) → env 1 = .int .i32 c → env 5 = .int .u32 c → env 25 = .bool (decide (c ≤ 65535)) → True := fun _ _ _ _ _ => trivial
    simp [-intBin, iB_lss]
    refine Out_cond _ _ _ _ _ _ _ rfl (fun h3 => ?_) (fun h3 => ?_)
    · have hc3 : c < 55296 := by simp at h3; omega
      simp
      refine Out_cond _ _ _ _ _ _ _ rfl (fun _ => ?_) (fun h4 => by simp at h4; omega)
      have o1 : orB 224 ((c : Int) / 4096 % 256) = 224 + (c : Int) / 4096 := by rw [or224 (by omega) (by omega)]; omega
      have ev : encV c = [UInt8.ofNat (224 + c / 4096), UInt8.ofNat (128 + c / 64 % 64), UInt8.ofNat (128 + c % 64)] := by
        simp [encV, show ¬ c < 128 by omega, show ¬ c < 2048 by omega, show c < 65536 by omega]
      have v1 := ofNat_val (n := 224 + c / 4096) (by omega)
      have v2 := ofNat_val (n := 128 + c / 64 % 64) (by omega)
      have v3 := ofNat_val (n := 128 + c % 64) (by omega)
      have eb : asBytes (bs ++ encV c) = asBytes bs ++ [.int .u8 (224 + (c : Int) / 4096), .int .u8 (128 + (c : Int) / 64 % 64), .int .u8 (128 + (c : Int) % 64)] := by
        rw [asBytes_app, ev]
        simp only [asBytes, List.map_cons, List.map_nil, v1, v2, v3]
        simp
      have hr' : bs.length + 3 ≤ 140737488355328 := by omega
      rw [eb, ev]
      simp [-intBin, iB_or, iB_and, shBin, m6, m12, s6, s12, lw0, lw6, lw12, o1, t0, t6, fillS, V.one, evApp, appSrc, asBytes_length, fits_bytes, fits_int, hroom, hr']
    · have hc3 : ¬ c < 55296 := by simp at h3; omega
      simp [-intBin, iB_lss, iB_leq]
      refine Out_cond _ _ _ _ _ _ _ rfl (fun h4 => ?_) (fun h4 => ?_)
      · have hc4 : c ≤ 65535 := by simp at h4; omega
        have o1 : orB 224 ((c : Int) / 4096 % 256) = 224 + (c : Int) / 4096 := by rw [or224 (by omega) (by omega)]; omega
        have ev : encV c = [UInt8.ofNat (224 + c / 4096), UInt8.ofNat (128 + c / 64 % 64), UInt8.ofNat (128 + c % 64)] := by
          simp [encV, show ¬ c < 128 by omega, show ¬ c < 2048 by omega, show c < 65536 by omega]
        have v1 := ofNat_val (n := 224 + c / 4096) (by omega)
        have v2 := ofNat_val (n := 128 + c / 64 % 64) (by omega)
        have v3 := ofNat_val (n := 128 + c % 64) (by omega)
        have eb : asBytes (bs ++ encV c) = asBytes bs ++ [.int .u8 (224 + (c : Int) / 4096), .int .u8 (128 + (c : Int) / 64 % 64), .int .u8 (128 + (c : Int) % 64)] := by
          rw [asBytes_app, ev]
          simp only [asBytes, List.map_cons, List.map_nil, v1, v2, v3]
          simp
        have hr' : bs.length + 3 ≤ 140737488355328 := by omega
        rw [eb, ev]
        simp [-intBin, iB_or, iB_and, shBin, m6, m12, s6, s12, lw0, lw6, lw12, o1, t0, t6, fillS, V.one, evApp, appSrc, asBytes_length, fits_bytes, fits_int, hroom, hr']
      · have hc4 : ¬ c ≤ 65535 := by simp at h4; omega
        simp [-intBin, iB_leq, iB_gtr]
        refine Out_cond _ _ _ _ _ _ _ rfl (fun _ => ?_) (fun h5 => by simp at h5; omega)
        have o1 : orB 240 ((c : Int) / 262144 % 256) = 240 + (c : Int) / 262144 := by rw [or240 (by omega) (by omega)]; omega
        have ev : encV c = [UInt8.ofNat (240 + c / 262144), UInt8.ofNat (128 + c / 4096 % 64), UInt8.ofNat (128 + c / 64 % 64), UInt8.ofNat (128 + c % 64)] := by
          simp [encV, show ¬ c < 128 by omega, show ¬ c < 2048 by omega, show ¬ c < 65536 by omega]
        have v1 := ofNat_val (n := 240 + c / 262144) (by omega)
        have v2 := ofNat_val (n := 128 + c / 4096 % 64) (by omega)
        have v3 := ofNat_val (n := 128 + c / 64 % 64) (by omega)
        have v4 := ofNat_val (n := 128 + c % 64) (by omega)
        have eb : asBytes (bs ++ encV c) = asBytes bs ++ [.int .u8 (240 + (c : Int) / 262144), .int .u8 (128 + (c : Int) / 4096 % 64), .int .u8 (128 + (c : Int) / 64 % 64), .int .u8 (128 + (c : Int) % 64)] := by
          rw [asBytes_app, ev]
          simp only [asBytes, List.map_cons, List.map_nil, v1, v2, v3, v4]
          simp
        rw [eb, ev]
        simp [-intBin, iB_or, iB_and, shBin, m6, m12, m18, s6, s12, s18, lw0, lw6, lw12, lw18, o1, t0, t6, t12, fillS, V.one, evApp, appSrc, asBytes_length, fits_bytes, fits_int, hroom, hr]

/-- A rune that may be. -/
def runeOk (c : Nat) : Prop := c ≤ 1114111 ∧ (c < 55296 ∨ 57344 ≤ c)

theorem app65_spec (obs : List AObj) (bufs : List (Nat × Nat × TypeId)) (bs : List UInt8) (c : Nat) (hc : runeOk c) (hr : bs.length + 4 ≤ 140737488355328) :
    call G 65 [.sl (.buf bufs.length) (asBytes bs), .int .i32 c] ⟨obs, bufs ++ [(bs.length, 1, 5)]⟩ =
      some (.sl (.buf bufs.length) (asBytes (bs ++ encV c)), ⟨obs, bufs ++ [((bs ++ encV c).length, 1, 5)]⟩) := by
  obtain ⟨h1, h2⟩ := hc
  have w32 : IntKind.u32.wrap (c : Int) = c := wrapU32 (by omega) (by omega)
  refine call_out (F := af65) rfl rfl ?_
  simp [-intBin, iB_leq, af65, af65b, w32]
  refine Out_cond _ _ _ _ _ _ _ rfl (fun h => ?_) (fun h => ?_)
  · have hc : c < 128 := by simp at h; omega
    have lw0 : IntKind.u8.wrap (c : Int) = c := by rw [wrapU8 (by omega)]; omega
    have v1 := ofNat_val (n := c) (by omega)
    have ev : encV c = [UInt8.ofNat c] := by simp [encV, hc]
    have eb : asBytes (bs ++ encV c) = asBytes bs ++ [.int .u8 c] := by
      rw [asBytes_app, ev]
      simp only [asBytes, List.map_cons, List.map_nil, v1]
    rw [eb, ev]
    have hroom : room = 140737488355328 := by decide
    have hr1 : bs.length + 1 ≤ 140737488355328 := by omega
    simp [lw0, fillS, V.one, evApp, appSrc, asBytes_length, fits_bytes, fits_int, hroom, hr1]
  · have hc : 128 ≤ c := by simp at h; omega
    simp [app80_spec obs bufs bs c hc h1 h2 hr]

theorem encV_len (c : Nat) : 1 ≤ (encV c).length ∧ (encV c).length ≤ 4 := by
  unfold encV
  repeat' split
  all_goals simp

theorem rune_bst (obs tl : List AObj) (bufs : List (Nat × Nat × TypeId)) (bs : List UInt8) (c : Nat) (hc : runeOk c) (hr : bs.length + 4 ≤ 140737488355328) :
    call G 48 [.ptr obs.length 0, .int .i32 c] (bst obs tl bufs bs) = some (.tup [.int .i64 (encV c).length, .nilI], bst obs tl bufs (bs ++ encV c)) := by
  have hl := encV_len c
  have hw : IntKind.i64.wrap ((bs.length : Int) + (encV c).length - bs.length) = (encV c).length := by rw [wrap_in (by omega) (by omega)]; omega
  have h65 := fun o => app65_spec o bufs bs c hc hr
  refine call_out (F := af48) rfl rfl ?_
  simp [af48, af48b, copy_bst]
  simp [bst, bObj, asBytes_length]
  simp at h65
  simp [h65, evStore, V.one, putL, asBytes_length, hw]

end Go.Proofs.YtjdppboomglenaaDoor.Eng
