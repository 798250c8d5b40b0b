/-
  JSON: what the functions do, one behind the other. No condition.
-/
import Derived.Test.YtboejpobmpfifaaGreatDoorJBase
import Derived.Test.YtboejpobmpfifaaGreatDoorEngS
import Derived.Lib.DecodeN
import Derived.Lib.RuneCountTail
/-
  Values of JSON, and what the evaluator makes of small functions over them: few. No condition.
-/
namespace Go.Proofs.YtboejpobmpfifaaGreatDoor.Eng
open Go
set_option linter.unusedSimpArgs false

inductive JV where
  | mk (kind n : Int) (s : List UInt8) (l : List JV) (f : List (List UInt8 × JV))

mutual
def vc : JV → List V
  | .mk k n s l f => [.int .i64 k, .int .i64 n, .str s, .sl .no (toVs l), .sl .no (toPs f)]
def toVs : List JV → List V
  | [] => []
  | v :: vs => .agg (vc v) :: toVs vs
def toPs : List (List UInt8 × JV) → List V
  | [] => []
  | p :: ps => .agg (.str p.1 :: vc p.2) :: toPs ps
end
theorem vc_length (v : JV) : (vc v).length = 5 := by cases v; simp [vc]
theorem vc_take (v : JV) : (vc v).take 5 = vc v := List.take_of_length_le (by rw [vc_length]; omega)
mutual
theorem vc_plain : ∀ v : JV, plainL (vc v) = vc v
  | .mk k n s l f => by simp [vc, plainL, V.plain, toVs_plain l, toPs_plain f]
theorem toVs_plain : ∀ l : List JV, plainL (toVs l) = toVs l
  | [] => rfl
  | v :: vs => by simp [toVs, plainL, V.plain, vc_plain v, toVs_plain vs]
theorem toPs_plain : ∀ l : List (List UInt8 × JV), plainL (toPs l) = toPs l
  | [] => rfl
  | p :: ps => by simp [toPs, plainL, V.plain, vc_plain p.2, toPs_plain ps]
end
mutual
theorem vc_und : ∀ (v : JV) (n b : Nat), undL n b (vc v) = true
  | .mk k m s l f, n, b => by simp [vc, undL, V.und, toVs_und l n b, toPs_und f n b]
theorem toVs_und : ∀ (l : List JV) (n b : Nat), undL n b (toVs l) = true
  | [], _, _ => rfl
  | v :: vs, n, b => by simp [toVs, undL, V.und, vc_und v n b, toVs_und vs n b]
theorem toPs_und : ∀ (l : List (List UInt8 × JV)) (n b : Nat), undL n b (toPs l) = true
  | [], _, _ => rfl
  | p :: ps, n, b => by simp [toPs, undL, V.und, vc_und p.2 n b, toPs_und ps n b]
end
def JV.kind : JV → Int | .mk k _ _ _ _ => k
def JV.n : JV → Int | .mk _ n _ _ _ => n
def JV.s : JV → List UInt8 | .mk _ _ s _ _ => s
def JV.l : JV → List JV | .mk _ _ _ l _ => l
def JV.f : JV → List (List UInt8 × JV) | .mk _ _ _ _ f => f

/-! Numbers that an int64 holds; lengths that an int holds. -/
mutual
def JV.ok : JV → Prop
  | .mk k n s l f => (-9223372036854775808 ≤ k ∧ k ≤ 9223372036854775807) ∧ (-9223372036854775808 ≤ n ∧ n ≤ 9223372036854775807) ∧ s.length ≤ 9223372036854775807 ∧
    l.length ≤ 9223372036854775807 ∧ f.length ≤ 9223372036854775807 ∧ okVs l ∧ okPs f
def okVs : List JV → Prop
  | [] => True
  | v :: vs => v.ok ∧ okVs vs
def okPs : List (List UInt8 × JV) → Prop
  | [] => True
  | p :: ps => p.1.length ≤ 9223372036854775807 ∧ p.2.ok ∧ okPs ps
end
/-! ### few -/

attribute [local simp] evC_reg evR_cons evR_nil runR_some regK_some evC_ret evC_skip evC_exit Out_seq Out_blk Out_some seqQ_norm seqQ_ret seqQ_exit blkQ_norm blkQ_ret blkQ_exit loopQ_norm loopQ_ret loopQ_exit
attribute [local simp] stepR evOp put upd_apply X.ev initEnv cells_agg cells_int cells_str cells_bool cells_sl cells_ptr cells_pnil cells_fn cells_map vc_length vc_take vc_plain vc_und takeN evBin isSh intBin strBin callK resOf packR fin V.plain V.und scK kill dstsO dstsL dstsR ite_some ite_pair ite_vbool evUn evLoad evLen V.real finLoop_false quietK_false kill_none


end Go.Proofs.YtboejpobmpfifaaGreatDoor.Eng

/-
  Texts: what the evaluator makes of the reference's Size, Bad, Right and of the program's Bad, Right. No condition.
-/
namespace Go.Proofs.YtboejpobmpfifaaGreatDoor.Eng
open Go
set_option linter.unusedSimpArgs false
set_option linter.unusedVariables false

attribute [local simp] evC_reg evR_cons evR_nil runR_some regK_some evC_ret evC_skip evC_exit Out_seq Out_blk Out_some seqQ_norm seqQ_ret seqQ_exit blkQ_norm blkQ_ret blkQ_exit loopQ_norm loopQ_ret loopQ_exit
attribute [local simp] stepR evOp put upd_apply X.ev initEnv cells_agg cells_int cells_str cells_bool cells_sl cells_ptr cells_pnil cells_fn cells_map takeN evBin isSh intBin strBin callK resOf packR fin V.plain plainL V.und undL scK kill dstsO dstsL dstsR ite_some ite_pair ite_vbool evUn evLoad evLen V.real finLoop_false quietK_false kill_none

/-- The bytes behind the first of a rune. -/
def contV (b : List UInt8) (p n : Nat) : Nat → Nat → Nat → Option Nat
  | 0, _, v => some v
  | m + 1, i, v =>
    let d := (b.getD (p + i) 0).toNat
    if d < 128 ∨ 192 ≤ d then none else contV b p n m (i + 1) (v * 64 + d - 128)

theorem byte_lt (x : UInt8) : x.toNat < 256 := x.toNat_lt

theorem wrap32 {n : Int} (h0 : -2147483648 ≤ n) (h1 : n ≤ 2147483647) : IntKind.i32.wrap n = n := by
  have e : (2 : Int) ^ IntKind.i32.bits = 4294967296 := by decide
  have e' : (2 : Int) ^ (IntKind.i32.bits - 1) = 2147483648 := by decide
  have e'' : IntKind.i32.signed = true := by decide
  unfold IntKind.wrap
  simp only [e, e', e'', Bool.true_and, decide_eq_true_eq, ge_iff_le]
  split <;> omega

/-- A rune's bytes at a place, and the rune; 0: none begins there. -/
def sizeV (b : List UInt8) (p : Nat) : Nat × Nat :=
  let c := (b.getD p 0).toNat
  let go (n v least : Nat) : Nat × Nat :=
    if b.length < p + n then (0, 0) else
    match contV b p n (n - 1) 1 v with
    | none => (0, 0)
    | some w => if w < least ∨ 1114111 < w ∨ (55296 ≤ w ∧ w < 57344) then (0, 0) else (n, w)
  if c < 128 then (1, c)
  else if 194 ≤ c ∧ c < 224 then go 2 (c - 192) 128
  else if 224 ≤ c ∧ c < 240 then go 3 (c - 224) 2048
  else if 240 ≤ c ∧ c < 245 then go 4 (c - 240) 65536
  else (0, 0)

/-- Where no rune begins; -1. -/
def badV (b : List UInt8) : Nat → Nat → Int
  | 0, _ => -1
  | f + 1, p => if p < b.length then if (sizeV b p).1 = 0 then p else badV b f (p + (sizeV b p).1) else -1

/-! ### The program's -/
theorem nxt_at (b : List UInt8) (pos id : Nat) (s : St) (h : s.obs[id]? = some (.iter b pos)) (hp : pos < b.length) :
    evNxt (.itr id) s = some (.tup [.bool true, .int .i64 pos, .int .i32 (Utf8.decode ⟨b.toArray⟩ pos).1], { s with obs := s.obs.set id (.iter b (pos + (Utf8.decode ⟨b.toArray⟩ pos).2)) }) := by
  simp only [evNxt, h, if_pos hp]
theorem nxt_end (b : List UInt8) (pos id : Nat) (s : St) (h : s.obs[id]? = some (.iter b pos)) (hp : ¬ pos < b.length) :
    evNxt (.itr id) s = some (.tup [.bool false], s) := by
  simp only [evNxt, h, if_neg hp]

theorem dec_spec (b : List UInt8) (s : St) : call G 240 [.str b] s = some (.tup [.int .i32 (Lib.decodeGo ⟨b.toArray⟩).1, .int .i64 (Lib.decodeGo ⟨b.toArray⟩).2], s) := by
  rw [call_eq]
  rfl

/-- A rune at a place, as Go's range decodes it. -/
def decV (b : List UInt8) (p : Nat) : Nat × Nat := Utf8.decode ⟨b.toArray⟩ p

theorem decV_le (b : List UInt8) (p : Nat) (hp : p < b.length) : 1 ≤ (decV b p).2 ∧ p + (decV b p).2 ≤ b.length ∧ (decV b p).1 ≤ 1114111 := by
  unfold decV
  rw [Lib.decode_at]
  have hs : (⟨b.toArray⟩ : ByteArray).size = b.length := rfl
  rw [hs]
  generalize ((⟨b.toArray⟩ : ByteArray).get! p).toNat = b0
  generalize ((⟨b.toArray⟩ : ByteArray).get! (p + 1)).toNat = b1
  generalize ((⟨b.toArray⟩ : ByteArray).get! (p + 2)).toNat = b2
  generalize ((⟨b.toArray⟩ : ByteArray).get! (p + 3)).toNat = b3
  unfold Lib.decodeN
  repeat' split
  all_goals (simp only; omega)

def textBadV (b : List UInt8) : Nat → Nat → Int
  | 0, _ => -1
  | f + 1, p =>
    if p < b.length then
      if (decV b p).1 ≠ 65533 then textBadV b f (p + (decV b p).2)
      else if (Lib.decodeGo ⟨(b.drop p).toArray⟩).2 = 1 then p
      else textBadV b f (p + (decV b p).2)
    else -1

theorem textBadLoop (b : List UInt8) (hb : b.length ≤ 9223372036854775807) (id : Nat) : ∀ (f p : Nat) (env : Env) (s : St), p ≤ b.length → b.length < p + f → env 0 = .str b → env 8 = .itr id → s.obs[id]? = some (.iter b p) →
    Out (evC G (.loop false af172l0) env s) (fun e env' s' => (s'.bufs = s.bufs ∧ ∃ o, s'.obs = s.obs.set id o) ∧
      ((textBadV b f p = -1 ∧ e = .exit 0) ∨ (textBadV b f p ≠ -1 ∧ e = .ret ∧ env' 2 = .int .i64 (textBadV b f p)))) := by
  intro f
  induction f with
  | zero => intro p env s h1 h2; omega
  | succ f ih =>
    intro p env s hp hf h0 h8 hs
    refine Out_loop G false _ _ af172l0.eq_1 _ _ _ ?_
    by_cases hlt : p < b.length
    · have hd := decV_le b p hlt
      have hid : id < s.obs.length := lt_of_get hs
      simp [h0, h8, nxt_at b p id s hs hlt]
      refine Out_cond _ _ _ _ _ _ _ rfl (fun _ => ?_) (fun h => by cases h)
      simp
      have hnext : ∀ (env' : Env), env' 0 = .str b → env' 8 = .itr id →
          Out (evC G (.loop false af172l0) env' { obs := s.obs.set id (.iter b (p + (decV b p).2)), bufs := s.bufs }) (fun e env' s' => (s'.bufs = s.bufs ∧ ∃ o, s'.obs = s.obs.set id o) ∧
            ((textBadV b f (p + (decV b p).2) = -1 ∧ e = .exit 0) ∨ (textBadV b f (p + (decV b p).2) ≠ -1 ∧ e = .ret ∧ env' 2 = .int .i64 (textBadV b f (p + (decV b p).2))))) := by
        intro env' g0 g8
        refine (ih (p + (decV b p).2) env' _ (by omega) (by omega) g0 g8 (by simp [hid])).mono ?_
        rintro e env'' s' ⟨⟨g1, o, g2⟩, g3⟩
        refine ⟨⟨g1, o, ?_⟩, g3⟩
        rw [g2]
        simp
      refine Out_cond _ _ _ _ _ _ _ rfl ?_ ?_
      · intro h
        have hne : (decV b p).1 ≠ 65533 := by
          intro e
          unfold decV at e
          simp [e] at h
        simp
        simp only [textBadV, if_pos hlt, if_pos hne]
        exact hnext _ (by simp [h0]) (by simp [h8])
      · intro h
        have heq : (decV b p).1 = 65533 := by
          simp at h
          unfold decV
          omega
        simp [h0, evSlcS, bnd, dec_spec, hp]
        refine Out_cond _ _ _ _ _ _ _ rfl ?_ ?_
        · intro h1
          simp at h1
          have h1' : (Lib.decodeGo ⟨(b.drop p).toArray⟩).2 = 1 := by omega
          have hv : textBadV b (f + 1) p = p := by simp [textBadV, hlt, heq, h1']
          simp [hv]
          exact ⟨_, rfl⟩
        · intro h1
          simp at h1
          have h1' : ¬ (Lib.decodeGo ⟨(b.drop p).toArray⟩).2 = 1 := by omega
          have hv : textBadV b (f + 1) p = textBadV b f (p + (decV b p).2) := by simp [textBadV, hlt, heq, h1']
          simp
          rw [hv]
          exact hnext _ (by simp [h0]) (by simp [h8])
    · simp [h0, h8, nxt_end b p id s hs hlt]
      refine Out_cond _ _ _ _ _ _ _ rfl (fun h => by cases h) (fun _ => ?_)
      simp [textBadV, hlt]
      exact ⟨.iter b p, by
        apply List.ext_getElem?
        intro j
        by_cases hj : id = j
        · subst hj; rw [List.getElem?_set_self (lt_of_get hs), hs]
        · rw [List.getElem?_set_ne hj]⟩

theorem textBad_spec (b : List UInt8) (hb : b.length ≤ 9223372036854775807) (s : St) : call G 172 [.str b] s = some (.int .i64 (textBadV b (b.length + 1) 0), s) := by
  refine call_out (F := af172) rfl rfl ?_
  simp [af172, af172b]
  refine (textBadLoop b hb s.obs.length (b.length + 1) 0 _ _ (by omega) (by omega) (by simp) (by simp) (by simp)).mono ?_
  rintro e env s' ⟨⟨hbf, o, hob⟩, ⟨h1, rfl⟩ | ⟨h1, rfl, h2⟩⟩
  · simp [h1, hbf, hob, List.set_append]
  · simp [h2, hbf, hob, List.set_append]

/-! ### They are one -/
theorem get!_list (b : List UInt8) (p : Nat) : (⟨b.toArray⟩ : ByteArray).get! p = b.getD p 0 := by
  have := Lib.getD_get!' ⟨b.toArray⟩ p
  simpa using this.symm

theorem sizeV_dec (b : List UInt8) (p : Nat) (hp : p < b.length) : sizeV b p = if decV b p = (65533, 1) then (0, 0) else ((decV b p).2, (decV b p).1) := by
  unfold decV sizeV
  rw [Lib.decode_at]
  have hs : (⟨b.toArray⟩ : ByteArray).size = b.length := rfl
  rw [hs]
  simp only [get!_list, contV]
  have e1 := byte_lt (b.getD p 0)
  have e2 := byte_lt (b.getD (p + 1) 0)
  have e3 := byte_lt (b.getD (p + 2) 0)
  have e4 := byte_lt (b.getD (p + 3) 0)
  generalize (b.getD p 0).toNat = b0 at *
  generalize (b.getD (p + 1) 0).toNat = b1 at *
  generalize (b.getD (p + 1 + 1) 0).toNat = b2 at *
  generalize (b.getD (p + 3) 0).toNat = b3 at *
  generalize b.length = n at *
  have n1 : (1 < n - p) = ¬ (n < p + 2) := propext ⟨fun h => by omega, fun h => by omega⟩
  have n2 : (2 < n - p) = ¬ (n < p + 3) := propext ⟨fun h => by omega, fun h => by omega⟩
  have n3 : (3 < n - p) = ¬ (n < p + 4) := propext ⟨fun h => by omega, fun h => by omega⟩
  have d1 : (b1 / 64 = 2) = ¬ (b1 < 128 ∨ 192 ≤ b1) := propext ⟨fun h => by omega, fun h => by omega⟩
  have d2 : (b2 / 64 = 2) = ¬ (b2 < 128 ∨ 192 ≤ b2) := propext ⟨fun h => by omega, fun h => by omega⟩
  have d3 : (b3 / 64 = 2) = ¬ (b3 < 128 ∨ 192 ≤ b3) := propext ⟨fun h => by omega, fun h => by omega⟩
  by_cases c0 : b0 < 128
  · simp only [if_pos c0, Lib.decodeN]
    simp
    omega
  · simp only [if_neg c0, Lib.decodeN, n1, n2, n3, d1, d2, d3]
    by_cases k2 : 194 ≤ b0 ∧ b0 < 224
    · have q1 : b0 / 32 = 6 := by omega
      have q2 : ¬ b0 / 16 = 14 := by omega
      have q3 : ¬ b0 / 8 = 30 := by omega
      simp only [if_pos k2, q1, q2, q3, true_and, false_and, if_false]
      by_cases m2 : n < p + 2
      · simp [m2]
      · by_cases c1 : b1 < 128 ∨ 192 ≤ b1
        · simp [m2, c1]
        · have hv : b0 % 32 * 64 + b1 % 64 = (b0 - 192) * 64 + b1 - 128 := by omega
          have h1 : 128 ≤ (b0 - 192) * 64 + b1 - 128 := by omega
          have h2 : ¬ ((b0 - 192) * 64 + b1 - 128 < 128 ∨ 1114111 < (b0 - 192) * 64 + b1 - 128 ∨ 55296 ≤ (b0 - 192) * 64 + b1 - 128 ∧ (b0 - 192) * 64 + b1 - 128 < 57344) := by omega
          simp only [if_neg m2, if_neg c1, hv, ge_iff_le, if_pos h1, if_neg h2, m2, c1, not_false_eq_true, and_self, if_true, if_false]
          simp
          try omega
    · simp only [if_neg k2]
      by_cases k3 : 224 ≤ b0 ∧ b0 < 240
      · have q1 : ¬ b0 / 32 = 6 := by omega
        have q2 : b0 / 16 = 14 := by omega
        have q3 : ¬ b0 / 8 = 30 := by omega
        simp only [if_pos k3, q1, q2, q3, true_and, false_and, if_false]
        by_cases m2 : n < p + 3
        · simp [m2]
        · have m1 : ¬ n < p + 2 := by omega
          by_cases c1 : b1 < 128 ∨ 192 ≤ b1
          · simp [m2, c1]
          · by_cases c2 : b2 < 128 ∨ 192 ≤ b2
            · simp [m2, c1, c2]
            · have hv : b0 % 16 * 4096 + b1 % 64 * 64 + b2 % 64 = ((b0 - 224) * 64 + b1 - 128) * 64 + b2 - 128 := by omega
              simp only [if_neg m2, if_neg c1, if_neg c2, hv, m1, m2, c1, c2, not_false_eq_true, and_self, if_true, if_false]
              generalize ((b0 - 224) * 64 + b1 - 128) * 64 + b2 - 128 = w at *
              by_cases hw : w < 2048 ∨ 1114111 < w ∨ 55296 ≤ w ∧ w < 57344
              · have hc : ¬ (w ≥ 2048 ∧ (w < 55296 ∨ 57344 ≤ w ∧ w ≤ 1114111)) := by omega
                simp only [if_pos hw, if_neg hc, if_true]
              · have hc : w ≥ 2048 ∧ (w < 55296 ∨ 57344 ≤ w ∧ w ≤ 1114111) := by omega
                have hx : ¬ ((w, 3) : Nat × Nat) = (65533, 1) := by simp
                simp only [if_neg hw, if_pos hc, if_neg hx]
      · simp only [if_neg k3]
        by_cases k4 : 240 ≤ b0 ∧ b0 < 245
        · have q1 : ¬ b0 / 32 = 6 := by omega
          have q2 : ¬ b0 / 16 = 14 := by omega
          have q3 : b0 / 8 = 30 := by omega
          simp only [if_pos k4, q1, q2, q3, true_and, false_and, if_false]
          by_cases m2 : n < p + 4
          · simp [m2]
          · have m1 : ¬ n < p + 2 := by omega
            have m3 : ¬ n < p + 3 := by omega
            by_cases c1 : b1 < 128 ∨ 192 ≤ b1
            · simp [m2, c1]
            · by_cases c2 : b2 < 128 ∨ 192 ≤ b2
              · simp [m2, c1, c2]
              · by_cases c3 : b3 < 128 ∨ 192 ≤ b3
                · simp [m2, c1, c2, c3]
                · have hv : b0 % 8 * 262144 + b1 % 64 * 4096 + b2 % 64 * 64 + b3 % 64 = (((b0 - 240) * 64 + b1 - 128) * 64 + b2 - 128) * 64 + b3 - 128 := by omega
                  simp only [if_neg m2, if_neg c1, if_neg c2, if_neg c3, hv, m1, m2, m3, c1, c2, c3, not_false_eq_true, and_self, if_true, if_false]
                  generalize (((b0 - 240) * 64 + b1 - 128) * 64 + b2 - 128) * 64 + b3 - 128 = w at *
                  by_cases hw : w < 65536 ∨ 1114111 < w ∨ 55296 ≤ w ∧ w < 57344
                  · have hc : ¬ (w ≥ 65536 ∧ (w < 55296 ∨ 57344 ≤ w ∧ w ≤ 1114111)) := by omega
                    simp only [if_pos hw, if_neg hc, if_true]
                  · have hc : w ≥ 65536 ∧ (w < 55296 ∨ 57344 ≤ w ∧ w ≤ 1114111) := by omega
                    have hx : ¬ ((w, 4) : Nat × Nat) = (65533, 1) := by simp
                    simp only [if_neg hw, if_pos hc, if_neg hx]
        · simp only [if_neg k4]
          have q2 : ¬ b0 / 16 = 14 := by omega
          simp only [q2, false_and, if_false]
          have r1 : b0 / 32 = 6 → ¬ (b0 % 32 * 64 + b1 % 64 ≥ 128) := by omega
          have r2 : b0 / 8 = 30 → ¬ (b0 % 8 * 262144 + b1 % 64 * 4096 + b2 % 64 * 64 + b3 % 64 ≥ 65536 ∧
            (b0 % 8 * 262144 + b1 % 64 * 4096 + b2 % 64 * 64 + b3 % 64 < 55296 ∨ 57344 ≤ b0 % 8 * 262144 + b1 % 64 * 4096 + b2 % 64 * 64 + b3 % 64 ∧ b0 % 8 * 262144 + b1 % 64 * 4096 + b2 % 64 * 64 + b3 % 64 ≤ 1114111)) := by omega
          by_cases q1 : b0 / 32 = 6
          · have q3 : ¬ b0 / 8 = 30 := by omega
            simp only [q1, q3, if_neg (r1 q1), true_and, false_and, if_false, ite_self, if_true]
          · by_cases q3 : b0 / 8 = 30
            · simp only [q1, q3, if_neg (r2 q3), true_and, false_and, if_false, ite_self, if_true]
            · simp only [q1, q3, true_and, false_and, if_false, ite_self, if_true]

theorem decGo_drop (b : List UInt8) (p : Nat) (hp : p < b.length) : Lib.decodeGo ⟨(b.drop p).toArray⟩ = decV b p := by
  have hs : (⟨(b.drop p).toArray⟩ : ByteArray).size = b.length - p := by
    show (b.drop p).toArray.size = _
    simp
  have hs2 : (⟨b.toArray⟩ : ByteArray).size = b.length := rfl
  unfold Lib.decodeGo decV
  rw [if_neg (by omega), Lib.decode_at, Lib.decode_at, hs, hs2]
  simp only [get!_list, Nat.sub_zero]
  have hd : ∀ i, (b.drop p).getD i 0 = b.getD (p + i) 0 := fun i => by simp [List.getD, List.getElem?_drop]
  simp only [hd, Nat.add_zero, Nat.zero_add]

theorem textBad_bad (b : List UInt8) : ∀ f p, textBadV b f p = badV b f p
  | 0, _ => rfl
  | f + 1, p => by
    unfold textBadV badV
    split
    · rename_i hp
      have hd := decV_le b p hp
      rw [decGo_drop b p hp, sizeV_dec b p hp]
      by_cases h1 : (decV b p).1 = 65533
      · by_cases h2 : (decV b p).2 = 1
        · have e : decV b p = (65533, 1) := Prod.ext h1 h2
          simp [e]
        · have e : ¬ decV b p = (65533, 1) := fun q => h2 (by rw [q])
          have h3 : ¬ (decV b p).2 = 0 := by omega
          simp [h1, h2, e, h3, textBad_bad b f]
      · have e : ¬ decV b p = (65533, 1) := fun q => h1 (by rw [q])
        have h3 : ¬ (decV b p).2 = 0 := by omega
        simp [h1, e, h3, textBad_bad b f]
    · rfl

end Go.Proofs.YtboejpobmpfifaaGreatDoor.Eng

/-
  strings.Builder. No condition.
-/
namespace Go.Proofs.YtboejpobmpfifaaGreatDoor.Eng
open Go
set_option linter.unusedSimpArgs false
set_option linter.unusedVariables false

attribute [local simp] evC_reg evC_regD evR_cons evR_nil runR_some regK_some evC_ret evC_skip evC_exit Out_seq Out_blk Out_some seqQ_norm seqQ_ret seqQ_exit blkQ_norm blkQ_ret blkQ_exit loopQ_norm loopQ_ret loopQ_exit
attribute [local simp] stepR evOp put upd_apply X.ev initEnv cells_agg cells_int cells_str cells_bool cells_sl cells_ptr cells_pnil cells_fn cells_map vc_length vc_take vc_plain vc_und toVs_plain toPs_plain toVs_und toPs_und takeN evBin isSh intBin strBin callK resOf packR fin V.plain plainL V.und undL scK kill dstsO dstsL dstsR ite_some ite_pair ite_vbool evUn evLoad evLen V.real finLoop_false quietK_false kill_none

def bObj (o i : Nat) (bs : List UInt8) : AObj := .cells 128 [.ptr o 0, .sl (.buf i) (asBytes bs)]
/-- A builder, its buffer the last of all; behind what is there, ahead of other things. -/
def bst (obs tl : List AObj) (bufs : List (Nat × Nat × TypeId)) (bs : List UInt8) : St := ⟨obs ++ bObj obs.length bufs.length bs :: tl, bufs ++ [(bs.length, 1, 5)]⟩
def bst0 (obs tl : List AObj) (bufs : List (Nat × Nat × TypeId)) : St := ⟨obs ++ .cells 128 [.pnil, .sl .nil []] :: tl, bufs⟩
def bst1 (obs tl : List AObj) (bufs : List (Nat × Nat × TypeId)) : St := ⟨obs ++ .cells 128 [.ptr obs.length 0, .sl .nil []] :: tl, bufs⟩

theorem asBytes_length (b : List UInt8) : (asBytes b).length = b.length := by simp [asBytes]
theorem asBytes_app (a b : List UInt8) : asBytes (a ++ b) = asBytes a ++ asBytes b := by simp [asBytes]
theorem fits_bytes (b : List UInt8) : fits 1 (asBytes b) = true := by cases b <;> simp [asBytes, fits]

theorem fits_nil : fits 1 [] = true := rfl
theorem id_spec (v : V) (s : St) : call G 227 [v] s = some (v, s) := by rw [call_eq]; rfl

theorem copy_bst (obs tl : List AObj) (bufs : List (Nat × Nat × TypeId)) (bs : List UInt8) : call G 147 [.ptr obs.length 0] (bst obs tl bufs bs) = some (.tup [], bst obs tl bufs bs) := by
  refine call_out (F := af147) rfl rfl ?_
  simp [af147, af147b, bst, bObj, evEqp]
  refine Out_cond _ _ _ _ _ _ _ rfl (fun h => by cases h) (fun _ => ?_)
  simp [evEqp]
  refine Out_cond _ _ _ _ _ _ _ rfl (fun h => by cases h) (fun _ => ?_)
  simp

theorem copy_bst0 (obs tl : List AObj) (bufs : List (Nat × Nat × TypeId)) : call G 147 [.ptr obs.length 0] (bst0 obs tl bufs) = some (.tup [], bst1 obs tl bufs) := by
  refine call_out (F := af147) rfl rfl ?_
  simp [af147, af147b, bst0, bst1, evEqp]
  refine Out_cond _ _ _ _ _ _ _ rfl (fun _ => ?_) (fun h => by cases h)
  simp [id_spec, evStore, V.one, putL]

theorem bytesOf_as : ∀ b : List UInt8, bytesOf (asBytes b) = some b
  | [] => rfl
  | x :: b => by
    have h := bytesOf_as b
    have hx := byte_lt x
    simp only [asBytes, List.map_cons] at h ⊢
    unfold bytesOf
    rw [if_pos (by omega), h]
    simp

theorem fin_same (s : St) (r : V) (h : r.plain.und s.obs.length 0 = true) : fin false s s r = (r.plain, s) := by
  unfold fin
  rw [if_neg (by simp), if_pos ⟨List.take_length, h⟩, List.take_length]

theorem string_bst (obs tl : List AObj) (bufs : List (Nat × Nat × TypeId)) (bs : List UInt8) (hb : bs ≠ []) (hr : bs.length ≤ 140737488355328) : call G 75 [.ptr obs.length 0] (bst obs tl bufs bs) = some (.str bs, bst obs tl bufs bs) := by
  have hroom : room = 140737488355328 := by decide
  refine call_out (F := af75) rfl rfl ?_
  simp [-fin, pendF, af75, af75b, bst, bObj, hroom, hr, asBytes_length, hb, bytesOf_as]
  exact fin_same _ _ rfl

end Go.Proofs.YtboejpobmpfifaaGreatDoor.Eng

/-
  utf8.AppendRune, (*strings.Builder).WriteRune. No condition.
-/
namespace Go.Proofs.YtboejpobmpfifaaGreatDoor.Eng
open Go
set_option linter.unusedSimpArgs false
set_option linter.unusedVariables false

attribute [local simp] evC_reg evC_regD evR_cons evR_nil runR_some regK_some evC_ret evC_skip evC_exit Out_seq Out_blk Out_some seqQ_norm seqQ_ret seqQ_exit blkQ_norm blkQ_ret blkQ_exit loopQ_norm loopQ_ret loopQ_exit
attribute [local simp] stepR evOp put upd_apply X.ev initEnv cells_agg cells_int cells_str cells_bool cells_sl cells_ptr cells_pnil cells_fn cells_map vc_length vc_take vc_plain vc_und toVs_plain toPs_plain toVs_und toPs_und takeN evBin isSh intBin strBin callK resOf packR fin V.plain plainL V.und undL scK kill dstsO dstsL dstsR ite_some ite_pair ite_vbool evUn evLoad evLen V.real finLoop_false quietK_false kill_none

theorem wrapU8 {n : Int} (h0 : 0 ≤ n) : IntKind.u8.wrap n = n % 256 := by
  have e : (2 : Int) ^ IntKind.u8.bits = 256 := by decide
  have e'' : IntKind.u8.signed = false := by decide
  unfold IntKind.wrap
  simp only [e, e'', Bool.false_and, Bool.false_eq_true, if_false]

theorem wrapU32 {n : Int} (h0 : 0 ≤ n) (h1 : n < 4294967296) : IntKind.u32.wrap n = n := by
  have e : (2 : Int) ^ IntKind.u32.bits = 4294967296 := by decide
  have e'' : IntKind.u32.signed = false := by decide
  unfold IntKind.wrap
  simp only [e, e'', Bool.false_and, Bool.false_eq_true, if_false]
  omega

/-- A lead byte's bits, and a later byte's. -/
theorem or_192 : ∀ x : Fin 32, IntKind.u8.wrap ((BitVec.ofInt IntKind.u8.bits 192 ||| BitVec.ofInt IntKind.u8.bits (x.val : Int)).toNat : Int) = 192 + x.val := by decide
theorem or_224 : ∀ x : Fin 16, IntKind.u8.wrap ((BitVec.ofInt IntKind.u8.bits 224 ||| BitVec.ofInt IntKind.u8.bits (x.val : Int)).toNat : Int) = 224 + x.val := by decide
theorem or_240 : ∀ x : Fin 8, IntKind.u8.wrap ((BitVec.ofInt IntKind.u8.bits 240 ||| BitVec.ofInt IntKind.u8.bits (x.val : Int)).toNat : Int) = 240 + x.val := by decide
set_option maxRecDepth 10000 in
theorem or_128 : ∀ x : Fin 64, IntKind.u8.wrap ((BitVec.ofInt IntKind.u8.bits 128 ||| BitVec.ofInt IntKind.u8.bits (x.val : Int)).toNat : Int) = 128 + x.val := by decide
set_option maxRecDepth 100000 in
theorem and_63 : ∀ x : Fin 256, IntKind.u8.wrap ((BitVec.ofInt IntKind.u8.bits (x.val : Int) &&& BitVec.ofInt IntKind.u8.bits 63).toNat : Int) = ((x.val % 64 : Nat) : Int) := by decide

/-- Bits of bytes. -/
def orB (a b : Int) : Int := IntKind.u8.wrap (BitVec.ofInt IntKind.u8.bits a ||| BitVec.ofInt IntKind.u8.bits b).toNat
def andB (a b : Int) : Int := IntKind.u8.wrap (BitVec.ofInt IntKind.u8.bits a &&& BitVec.ofInt IntKind.u8.bits b).toNat
theorem iB_or (a b : Int) : intBin .or .u8 a b = some (.int .u8 (orB a b)) := rfl
theorem iB_and (a b : Int) : intBin .and .u8 a b = some (.int .u8 (andB a b)) := rfl
theorem iB_leq (k : IntKind) (a b : Int) : intBin .leq k a b = some (.bool (decide (a ≤ b))) := rfl
theorem iB_lss (k : IntKind) (a b : Int) : intBin .lss k a b = some (.bool (decide (a < b))) := rfl
theorem iB_gtr (k : IntKind) (a b : Int) : intBin .gtr k a b = some (.bool (decide (b < a))) := rfl

theorem or192 {x : Int} (h0 : 0 ≤ x) (h : x < 32) : orB 192 x = 192 + x := by
  have := or_192 ⟨x.toNat, by omega⟩
  simp only at this
  rw [show ((x.toNat : Nat) : Int) = x by omega] at this
  exact this
theorem or224 {x : Int} (h0 : 0 ≤ x) (h : x < 16) : orB 224 x = 224 + x := by
  have := or_224 ⟨x.toNat, by omega⟩
  simp only at this
  rw [show ((x.toNat : Nat) : Int) = x by omega] at this
  exact this
theorem or240 {x : Int} (h0 : 0 ≤ x) (h : x < 8) : orB 240 x = 240 + x := by
  have := or_240 ⟨x.toNat, by omega⟩
  simp only at this
  rw [show ((x.toNat : Nat) : Int) = x by omega] at this
  exact this
theorem or128 {x : Int} (h0 : 0 ≤ x) (h : x < 64) : orB 128 x = 128 + x := by
  have := or_128 ⟨x.toNat, by omega⟩
  simp only at this
  rw [show ((x.toNat : Nat) : Int) = x by omega] at this
  exact this
theorem and63 {x : Int} (h0 : 0 ≤ x) (h : x < 256) : andB x 63 = x % 64 := by
  have := and_63 ⟨x.toNat, by omega⟩
  simp only at this
  rw [show ((x.toNat : Nat) : Int) = x by omega] at this
  have e : ((x.toNat % 64 : Nat) : Int) = x % 64 := by omega
  rw [e] at this
  exact this

/-- A rune's bytes. -/
def encV (c : Nat) : List UInt8 :=
  if c < 128 then [UInt8.ofNat c]
  else if c < 2048 then [UInt8.ofNat (192 + c / 64), UInt8.ofNat (128 + c % 64)]
  else if c < 65536 then [UInt8.ofNat (224 + c / 4096), UInt8.ofNat (128 + c / 64 % 64), UInt8.ofNat (128 + c % 64)]
  else [UInt8.ofNat (240 + c / 262144), UInt8.ofNat (128 + c / 4096 % 64), UInt8.ofNat (128 + c / 64 % 64), UInt8.ofNat (128 + c % 64)]

theorem fits_int (k : IntKind) (n : Int) (r : List V) : fits 1 (.int k n :: r) = true := rfl

theorem ofNat_val {n : Nat} (h : n < 256) : ((UInt8.ofNat n).toNat : Int) = n := by
  rw [UInt8.toNat_ofNat']; omega

theorem app80_spec (obs : List AObj) (bufs : List (Nat × Nat × TypeId)) (bs : List UInt8) (c : Nat) (h0 : 128 ≤ c) (h1 : c ≤ 1114111) (h2 : c < 55296 ∨ 57344 ≤ c) (hr : bs.length + 4 ≤ 140737488355328) :
    call G 339 [.sl (.buf bufs.length) (asBytes bs), .int .i32 c] ⟨obs, bufs ++ [(bs.length, 1, 5)]⟩ =
      some (.sl (.buf bufs.length) (asBytes (bs ++ encV c)), ⟨obs, bufs ++ [((bs ++ encV c).length, 1, 5)]⟩) := by
  have hroom : room = 140737488355328 := by decide
  have w32 : IntKind.u32.wrap (c : Int) = c := wrapU32 (by omega) (by omega)
  have s6 : (c : Int).fdiv 64 = (c : Int) / 64 := Int.fdiv_eq_ediv_of_nonneg _ (by omega)
  have s12 : (c : Int).fdiv 4096 = (c : Int) / 4096 := Int.fdiv_eq_ediv_of_nonneg _ (by omega)
  have s18 : (c : Int).fdiv 262144 = (c : Int) / 262144 := Int.fdiv_eq_ediv_of_nonneg _ (by omega)
  have m6 : min 6 IntKind.i32.bits = 6 := by decide
  have m12 : min 12 IntKind.i32.bits = 12 := by decide
  have m18 : min 18 IntKind.i32.bits = 18 := by decide
  have lw0 : IntKind.u8.wrap (c : Int) = (c : Int) % 256 := wrapU8 (by omega)
  have lw6 : IntKind.u8.wrap ((c : Int) / 64) = (c : Int) / 64 % 256 := wrapU8 (by omega)
  have lw12 : IntKind.u8.wrap ((c : Int) / 4096) = (c : Int) / 4096 % 256 := wrapU8 (by omega)
  have lw18 : IntKind.u8.wrap ((c : Int) / 262144) = (c : Int) / 262144 % 256 := wrapU8 (by omega)
  have t0 : orB 128 (andB ((c : Int) % 256) 63) = 128 + (c : Int) % 64 := by rw [and63 (by omega) (by omega), or128 (by omega) (by omega)]; omega
  have t6 : orB 128 (andB ((c : Int) / 64 % 256) 63) = 128 + (c : Int) / 64 % 64 := by rw [and63 (by omega) (by omega), or128 (by omega) (by omega)]; omega
  have t12 : orB 128 (andB ((c : Int) / 4096 % 256) 63) = 128 + (c : Int) / 4096 % 64 := by rw [and63 (by omega) (by omega), or128 (by omega) (by omega)]; omega
  refine call_out (F := af339) rfl rfl ?_
  simp [-intBin, iB_leq, af339, af339b, w32]
  refine Out_cond _ _ _ _ _ _ _ rfl (fun h => ?_) (fun h => ?_)
  · have hc : c ≤ 2047 := by simp at h; omega
    have o1 : orB 192 ((c : Int) / 64 % 256) = 192 + (c : Int) / 64 := by rw [or192 (by omega) (by omega)]; omega
    have ev : encV c = [UInt8.ofNat (192 + c / 64), UInt8.ofNat (128 + c % 64)] := by simp [encV, show ¬ c < 128 by omega, show c < 2048 by omega]
    have v1 := ofNat_val (n := 192 + c / 64) (by omega)
    have v2 := ofNat_val (n := 128 + c % 64) (by omega)
    have eb : asBytes (bs ++ encV c) = asBytes bs ++ [.int .u8 (192 + (c : Int) / 64), .int .u8 (128 + (c : Int) % 64)] := by
      rw [asBytes_app, ev]
      simp only [asBytes, List.map_cons, List.map_nil, v1, v2]
      simp
    have hr' : bs.length + 2 ≤ 140737488355328 := by omega
    rw [eb, ev]
    simp [-intBin, iB_or, iB_and, shBin, m6, s6, lw0, lw6, o1, t0, fillS, V.one, evApp, appSrc, asBytes_length, fits_bytes, fits_int, hroom, hr']
  · have hc : ¬ c ≤ 2047 := by simp at h; omega
    have hA : ∀ (env : Env), env 0 = .sl (.buf bufs.length) (asBytes bs) → env 1 = .int .i32 c → env 5 = .int .u32 c → env 25 = .bool (decide (c ≤ 65535)) → True := fun _ _ _ _ _ => trivial
    simp [-intBin, iB_lss]
    refine Out_cond _ _ _ _ _ _ _ rfl (fun h3 => ?_) (fun h3 => ?_)
    · have hc3 : c < 55296 := by simp at h3; omega
      simp
      refine Out_cond _ _ _ _ _ _ _ rfl (fun _ => ?_) (fun h4 => by simp at h4; omega)
      have o1 : orB 224 ((c : Int) / 4096 % 256) = 224 + (c : Int) / 4096 := by rw [or224 (by omega) (by omega)]; omega
      have ev : encV c = [UInt8.ofNat (224 + c / 4096), UInt8.ofNat (128 + c / 64 % 64), UInt8.ofNat (128 + c % 64)] := by
        simp [encV, show ¬ c < 128 by omega, show ¬ c < 2048 by omega, show c < 65536 by omega]
      have v1 := ofNat_val (n := 224 + c / 4096) (by omega)
      have v2 := ofNat_val (n := 128 + c / 64 % 64) (by omega)
      have v3 := ofNat_val (n := 128 + c % 64) (by omega)
      have eb : asBytes (bs ++ encV c) = asBytes bs ++ [.int .u8 (224 + (c : Int) / 4096), .int .u8 (128 + (c : Int) / 64 % 64), .int .u8 (128 + (c : Int) % 64)] := by
        rw [asBytes_app, ev]
        simp only [asBytes, List.map_cons, List.map_nil, v1, v2, v3]
        simp
      have hr' : bs.length + 3 ≤ 140737488355328 := by omega
      rw [eb, ev]
      simp [-intBin, iB_or, iB_and, shBin, m6, m12, s6, s12, lw0, lw6, lw12, o1, t0, t6, fillS, V.one, evApp, appSrc, asBytes_length, fits_bytes, fits_int, hroom, hr']
    · have hc3 : ¬ c < 55296 := by simp at h3; omega
      simp [-intBin, iB_lss, iB_leq]
      refine Out_cond _ _ _ _ _ _ _ rfl (fun h4 => ?_) (fun h4 => ?_)
      · have hc4 : c ≤ 65535 := by simp at h4; omega
        have o1 : orB 224 ((c : Int) / 4096 % 256) = 224 + (c : Int) / 4096 := by rw [or224 (by omega) (by omega)]; omega
        have ev : encV c = [UInt8.ofNat (224 + c / 4096), UInt8.ofNat (128 + c / 64 % 64), UInt8.ofNat (128 + c % 64)] := by
          simp [encV, show ¬ c < 128 by omega, show ¬ c < 2048 by omega, show c < 65536 by omega]
        have v1 := ofNat_val (n := 224 + c / 4096) (by omega)
        have v2 := ofNat_val (n := 128 + c / 64 % 64) (by omega)
        have v3 := ofNat_val (n := 128 + c % 64) (by omega)
        have eb : asBytes (bs ++ encV c) = asBytes bs ++ [.int .u8 (224 + (c : Int) / 4096), .int .u8 (128 + (c : Int) / 64 % 64), .int .u8 (128 + (c : Int) % 64)] := by
          rw [asBytes_app, ev]
          simp only [asBytes, List.map_cons, List.map_nil, v1, v2, v3]
          simp
        have hr' : bs.length + 3 ≤ 140737488355328 := by omega
        rw [eb, ev]
        simp [-intBin, iB_or, iB_and, shBin, m6, m12, s6, s12, lw0, lw6, lw12, o1, t0, t6, fillS, V.one, evApp, appSrc, asBytes_length, fits_bytes, fits_int, hroom, hr']
      · have hc4 : ¬ c ≤ 65535 := by simp at h4; omega
        simp [-intBin, iB_leq, iB_gtr]
        refine Out_cond _ _ _ _ _ _ _ rfl (fun _ => ?_) (fun h5 => by simp at h5; omega)
        have o1 : orB 240 ((c : Int) / 262144 % 256) = 240 + (c : Int) / 262144 := by rw [or240 (by omega) (by omega)]; omega
        have ev : encV c = [UInt8.ofNat (240 + c / 262144), UInt8.ofNat (128 + c / 4096 % 64), UInt8.ofNat (128 + c / 64 % 64), UInt8.ofNat (128 + c % 64)] := by
          simp [encV, show ¬ c < 128 by omega, show ¬ c < 2048 by omega, show ¬ c < 65536 by omega]
        have v1 := ofNat_val (n := 240 + c / 262144) (by omega)
        have v2 := ofNat_val (n := 128 + c / 4096 % 64) (by omega)
        have v3 := ofNat_val (n := 128 + c / 64 % 64) (by omega)
        have v4 := ofNat_val (n := 128 + c % 64) (by omega)
        have eb : asBytes (bs ++ encV c) = asBytes bs ++ [.int .u8 (240 + (c : Int) / 262144), .int .u8 (128 + (c : Int) / 4096 % 64), .int .u8 (128 + (c : Int) / 64 % 64), .int .u8 (128 + (c : Int) % 64)] := by
          rw [asBytes_app, ev]
          simp only [asBytes, List.map_cons, List.map_nil, v1, v2, v3, v4]
          simp
        rw [eb, ev]
        simp [-intBin, iB_or, iB_and, shBin, m6, m12, m18, s6, s12, s18, lw0, lw6, lw12, lw18, o1, t0, t6, t12, fillS, V.one, evApp, appSrc, asBytes_length, fits_bytes, fits_int, hroom, hr]

/-- A rune that may be. -/
def runeOk (c : Nat) : Prop := c ≤ 1114111 ∧ (c < 55296 ∨ 57344 ≤ c)

theorem app65_spec (obs : List AObj) (bufs : List (Nat × Nat × TypeId)) (bs : List UInt8) (c : Nat) (hc : runeOk c) (hr : bs.length + 4 ≤ 140737488355328) :
    call G 313 [.sl (.buf bufs.length) (asBytes bs), .int .i32 c] ⟨obs, bufs ++ [(bs.length, 1, 5)]⟩ =
      some (.sl (.buf bufs.length) (asBytes (bs ++ encV c)), ⟨obs, bufs ++ [((bs ++ encV c).length, 1, 5)]⟩) := by
  obtain ⟨h1, h2⟩ := hc
  have w32 : IntKind.u32.wrap (c : Int) = c := wrapU32 (by omega) (by omega)
  refine call_out (F := af313) rfl rfl ?_
  simp [-intBin, iB_leq, af313, af313b, w32]
  refine Out_cond _ _ _ _ _ _ _ rfl (fun h => ?_) (fun h => ?_)
  · have hc : c < 128 := by simp at h; omega
    have lw0 : IntKind.u8.wrap (c : Int) = c := by rw [wrapU8 (by omega)]; omega
    have v1 := ofNat_val (n := c) (by omega)
    have ev : encV c = [UInt8.ofNat c] := by simp [encV, hc]
    have eb : asBytes (bs ++ encV c) = asBytes bs ++ [.int .u8 c] := by
      rw [asBytes_app, ev]
      simp only [asBytes, List.map_cons, List.map_nil, v1]
    rw [eb, ev]
    have hroom : room = 140737488355328 := by decide
    have hr1 : bs.length + 1 ≤ 140737488355328 := by omega
    simp [lw0, fillS, V.one, evApp, appSrc, asBytes_length, fits_bytes, fits_int, hroom, hr1]
  · have hc : 128 ≤ c := by simp at h; omega
    simp [app80_spec obs bufs bs c hc h1 h2 hr]

theorem encV_len (c : Nat) : 1 ≤ (encV c).length ∧ (encV c).length ≤ 4 := by
  unfold encV
  repeat' split
  all_goals simp

theorem rune_bst (obs tl : List AObj) (bufs : List (Nat × Nat × TypeId)) (bs : List UInt8) (c : Nat) (hc : runeOk c) (hr : bs.length + 4 ≤ 140737488355328) :
    call G 279 [.ptr obs.length 0, .int .i32 c] (bst obs tl bufs bs) = some (.tup [.int .i64 (encV c).length, .nilI], bst obs tl bufs (bs ++ encV c)) := by
  have hl := encV_len c
  have hw : IntKind.i64.wrap ((bs.length : Int) + (encV c).length - bs.length) = (encV c).length := by rw [wrap_in (by omega) (by omega)]; omega
  have h65 := fun o => app65_spec o bufs bs c hc hr
  refine call_out (F := af279) rfl rfl ?_
  simp [af279, af279b, copy_bst]
  simp [bst, bObj, asBytes_length]
  simp at h65
  simp [h65, evStore, V.one, putL, asBytes_length, hw]

end Go.Proofs.YtboejpobmpfifaaGreatDoor.Eng

/-
  Texts in quotes. No condition.
-/
namespace Go.Proofs.YtboejpobmpfifaaGreatDoor.Eng
open Go
set_option linter.unusedSimpArgs false
set_option linter.unusedVariables false

attribute [local simp] evC_reg evC_regD evR_cons evR_nil runR_some regK_some evC_ret evC_skip evC_exit Out_seq Out_blk Out_some seqQ_norm seqQ_ret seqQ_exit blkQ_norm blkQ_ret blkQ_exit loopQ_norm loopQ_ret loopQ_exit
attribute [local simp] stepR evOp put upd_apply X.ev initEnv cells_agg cells_int cells_str cells_bool cells_sl cells_ptr cells_pnil cells_fn cells_map vc_length vc_take vc_plain vc_und toVs_plain toPs_plain toVs_und toPs_und takeN evBin isSh intBin strBin callK resOf packR fin V.plain plainL V.und undL scK kill dstsO dstsL dstsR ite_some ite_pair ite_vbool evUn evLoad evLen V.real finLoop_false quietK_false kill_none

theorem decV_ok (b : List UInt8) (p : Nat) (hp : p < b.length) : runeOk (decV b p).1 := by
  unfold decV runeOk
  rw [Lib.decode_at]
  have hx := ((⟨b.toArray⟩ : ByteArray).get! p).toNat_lt
  generalize ((⟨b.toArray⟩ : ByteArray).get! p).toNat = b0 at *
  generalize ((⟨b.toArray⟩ : ByteArray).get! (p + 1)).toNat = b1
  generalize ((⟨b.toArray⟩ : ByteArray).get! (p + 2)).toNat = b2
  generalize ((⟨b.toArray⟩ : ByteArray).get! (p + 3)).toNat = b3
  unfold Lib.decodeN
  repeat' split
  all_goals (simp only; omega)

theorem fin_bst (o tl : List AObj) (bufs : List (Nat × Nat × TypeId)) (bs : List UInt8) (r : V) (h : r.plain.und o.length 0 = true) : fin false ⟨o, bufs⟩ (bst o tl bufs bs) r = (r.plain, ⟨o, bufs⟩) := by
  unfold fin
  rw [if_neg (by simp), if_pos ⟨by simp [bst], h⟩]
  simp [bst]

end Go.Proofs.YtboejpobmpfifaaGreatDoor.Eng

/-
  A text in quotes by the reference is the program's: by bytes and by runes. No condition.
-/
namespace Go.Proofs.YtboejpobmpfifaaGreatDoor.Eng
open Go
set_option linter.unusedSimpArgs false
set_option linter.unusedVariables false

theorem take_drop_getD (b : List UInt8) (p : Nat) : ∀ n, p + n ≤ b.length → (b.drop p).take n = (List.range n).map fun i => b.getD (p + i) 0
  | 0, _ => by simp
  | n + 1, h => by
    rw [List.range_succ, List.map_append, ← take_drop_getD b p n (by omega), List.take_add_one]
    congr 1
    rw [List.getElem?_drop, List.getElem?_eq_getElem (by omega)]
    simp [List.getD_eq_getElem?_getD, List.getElem?_eq_getElem (show p + n < b.length by omega)]

theorem ofNat_eq {n : Nat} {x : UInt8} (h : n = x.toNat) : UInt8.ofNat n = x := by subst h; exact UInt8.ofNat_toNat

theorem size_bytes (b : List UInt8) (p : Nat) (hp : p < b.length) (h : (sizeV b p).1 ≠ 0) :
    encV (sizeV b p).2 = (b.drop p).take (sizeV b p).1 ∧ (((sizeV b p).1 = 1 ∧ (sizeV b p).2 = (b.getD p 0).toNat ∧ (b.getD p 0).toNat < 128) ∨ (128 ≤ (sizeV b p).2 ∧ ∀ x ∈ (b.drop p).take (sizeV b p).1, 128 ≤ x.toNat)) := by
  have e1 := byte_lt (b.getD p 0)
  have hx : ∀ n, n < b.length + 1 - p → (b.drop p).take n = (List.range n).map fun i => b.getD (p + i) 0 := fun n hn => take_drop_getD b p n (by omega)
  revert h
  unfold sizeV
  simp only
  split
  · rename_i hc
    intro _
    rw [hx 1 (by omega)]
    refine ⟨?_, .inl ⟨rfl, rfl, hc⟩⟩
    rw [encV, if_pos hc, ofNat_eq rfl]
    simp [List.range_succ, List.getD_eq_getElem?_getD]
  · rename_i hc
    split
    · rename_i h2
      split
      · intro h; simp at h
      · rename_i hl
        simp only [contV, Nat.reduceAdd]
        have e2 := byte_lt (b.getD (p + 1) 0)
        split
        · intro h; simp at h
        · rename_i w hw
          split at hw
          · cases hw
          · rename_i hd
            have hw' := Option.some.inj hw
            subst hw'
            split
            · intro h; simp at h
            · rename_i hw2
              intro _
              rw [hx 2 (by omega)]
              simp only [List.range_succ, List.range_zero, List.nil_append, List.map_append, List.map_cons, List.map_nil, Nat.add_zero]
              refine ⟨?_, .inr ⟨by omega, ?_⟩⟩
              · rw [encV, if_neg (by omega), if_pos (by omega)]
                simp only [List.cons_append, List.nil_append, List.cons.injEq, and_true]
                exact ⟨ofNat_eq (by omega), ofNat_eq (by omega)⟩
              · intro x hx
                simp only [List.cons_append, List.nil_append, List.mem_cons, List.not_mem_nil, or_false] at hx
                rcases hx with rfl | rfl <;> omega
    · split
      · rename_i h3
        split
        · intro h; simp at h
        · rename_i hl
          simp only [contV, Nat.reduceAdd]
          have e2 := byte_lt (b.getD (p + 1) 0)
          have e3 := byte_lt (b.getD (p + 2) 0)
          split
          · intro h; simp at h
          · rename_i w hw
            split at hw
            · cases hw
            · rename_i hd
              split at hw
              · cases hw
              · rename_i hd2
                have hw' := Option.some.inj hw
                subst hw'
                split
                · intro h; simp at h
                · rename_i hw2
                  intro _
                  rw [hx 3 (by omega)]
                  simp only [List.range_succ, List.range_zero, List.nil_append, List.map_append, List.map_cons, List.map_nil, Nat.add_zero, List.cons_append, List.append_assoc]
                  refine ⟨?_, .inr ⟨by omega, ?_⟩⟩
                  · rw [encV, if_neg (by omega), if_neg (by omega), if_pos (by omega)]
                    simp only [List.cons_append, List.nil_append, List.cons.injEq, and_true]
                    exact ⟨ofNat_eq (by omega), ofNat_eq (by omega), ofNat_eq (by omega)⟩
                  · intro x hx
                    simp only [List.cons_append, List.nil_append, List.mem_cons, List.not_mem_nil, or_false] at hx
                    rcases hx with rfl | rfl | rfl <;> omega
      · split
        · rename_i h4
          split
          · intro h; simp at h
          · rename_i hl
            simp only [contV, Nat.reduceAdd]
            have e2 := byte_lt (b.getD (p + 1) 0)
            have e3 := byte_lt (b.getD (p + 2) 0)
            have e4 := byte_lt (b.getD (p + 3) 0)
            split
            · intro h; simp at h
            · rename_i w hw
              split at hw
              · cases hw
              · rename_i hd
                split at hw
                · cases hw
                · rename_i hd2
                  split at hw
                  · cases hw
                  · rename_i hd3
                    have hw' := Option.some.inj hw
                    subst hw'
                    split
                    · intro h; simp at h
                    · rename_i hw2
                      intro _
                      rw [hx 4 (by omega)]
                      simp only [List.range_succ, List.range_zero, List.nil_append, List.map_append, List.map_cons, List.map_nil, Nat.add_zero, List.cons_append, List.append_assoc]
                      refine ⟨?_, .inr ⟨by omega, ?_⟩⟩
                      · rw [encV, if_neg (by omega), if_neg (by omega), if_neg (by omega)]
                        simp only [List.cons_append, List.nil_append, List.cons.injEq, and_true]
                        exact ⟨ofNat_eq (by omega), ofNat_eq (by omega), ofNat_eq (by omega), ofNat_eq (by omega)⟩
                      · intro x hx
                        simp only [List.cons_append, List.nil_append, List.mem_cons, List.not_mem_nil, or_false] at hx
                        rcases hx with rfl | rfl | rfl | rfl <;> omega
        · intro h; simp at h

/-! ### The reference's text in quotes -/
end Go.Proofs.YtboejpobmpfifaaGreatDoor.Eng
