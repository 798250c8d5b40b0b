/-
  Texts in quotes. No condition.
-/
import Derived.Test.YtjdppboomglenaaDoorJSpec7
namespace Go.Proofs.YtjdppboomglenaaDoor.Eng
open Go
set_option linter.unusedSimpArgs false
set_option linter.unusedVariables false

attribute [local simp] evC_reg evC_regD evR_cons evR_nil runR_some regK_some evC_ret evC_skip evC_exit Out_seq Out_blk Out_some seqQ_norm seqQ_ret seqQ_exit blkQ_norm blkQ_ret blkQ_exit loopQ_norm loopQ_ret loopQ_exit
attribute [local simp] stepR evOp put upd_apply X.ev initEnv cells_agg cells_int cells_str cells_bool cells_sl cells_ptr cells_pnil cells_fn cells_map vc_length vc_take vc_plain vc_und toVs_plain toPs_plain toVs_und toPs_und takeN evBin isSh intBin strBin callK resOf packR fin V.plain plainL V.und undL scK kill dstsO dstsL dstsR ite_some ite_pair ite_vbool evUn evLoad evLen V.real finLoop_false quietK_false kill_none

def hexL : List UInt8 := [48, 49, 50, 51, 52, 53, 54, 55, 56, 57, 97, 98, 99, 100, 101, 102]
def hexV (n : Nat) : List UInt8 := (hexL.take (n + 1)).drop n

/-- What stands for a rune; nothing: it does itself. -/
def escV (c : Nat) : List UInt8 :=
  if c = 34 then [92, 34] else if c = 92 then [92, 92] else if c = 8 then [92, 98] else if c = 12 then [92, 102] else if c = 10 then [92, 110] else if c = 13 then [92, 114] else if c = 9 then [92, 116]
  else if c < 32 then [92, 117, 48, 48] ++ hexV (c / 16) ++ hexV (c % 16) else []

def andI (a b : Int) : Int := IntKind.i32.wrap (BitVec.ofInt IntKind.i32.bits a &&& BitVec.ofInt IntKind.i32.bits b).toNat
theorem iB_and32 (a b : Int) : intBin .and .i32 a b = some (.int .i32 (andI a b)) := rfl
theorem iB_eql (k : IntKind) (a b : Int) : intBin .eql k a b = some (.bool (decide (a = b))) := rfl
theorem iB_neq (k : IntKind) (a b : Int) : intBin .neq k a b = some (.bool (!decide (a = b))) := rfl
theorem iB_add (k : IntKind) (a b : Int) : intBin .add k a b = some (.int k (k.wrap (a + b))) := rfl
set_option maxRecDepth 10000 in
theorem and15f : ∀ x : Fin 32, andI (x.val : Int) 15 = ((x.val % 16 : Nat) : Int) := by decide
theorem hexV_len : ∀ x : Fin 16, (hexV x.val).length = 1 := by decide

theorem hexs (k : IntKind) (y : Int) (n : Nat) (hn : y = n) (h : n < 16) : evSlcS (.str [48, 49, 50, 51, 52, 53, 54, 55, 56, 57, 97, 98, 99, 100, 101, 102]) (some (.int k y)) (some (.int k (y + 1))) = some (.str (hexV n)) := by
  subst hn
  have e : ((n : Int) + 1).toNat = n + 1 := by omega
  have e1 : (0 : Int) ≤ (n : Int) + 1 := by omega
  have e2 : n + 1 ≤ 16 := by omega
  simp [evSlcS, bnd, e, e1, e2, hexV, hexL]

theorem esc_spec (c : Nat) (hc : c ≤ 1114111) (s : St) : call G 47 [.int .i32 c] s = some (.str (escV c), s) := by
  have imax : i64max = 9223372036854775807 := rfl
  refine call_out (F := af47) rfl rfl ?_
  simp [-intBin, iB_eql, af47, af47b]
  refine Out_cond _ _ _ _ _ _ _ rfl (fun h => ?_) (fun h1 => ?_)
  · have hh : c = 34 := by simp at h; omega
    simp [escV, hh]
  have n1 : ¬ c = 34 := by simp at h1; omega
  simp [-intBin, iB_eql]
  refine Out_cond _ _ _ _ _ _ _ rfl (fun h => ?_) (fun h2 => ?_)
  · have hh : c = 92 := by simp at h; omega
    simp [escV, hh]
  have n2 : ¬ c = 92 := by simp at h2; omega
  simp [-intBin, iB_eql]
  refine Out_cond _ _ _ _ _ _ _ rfl (fun h => ?_) (fun h3 => ?_)
  · have hh : c = 8 := by simp at h; omega
    simp [escV, hh]
  have n3 : ¬ c = 8 := by simp at h3; omega
  simp [-intBin, iB_eql]
  refine Out_cond _ _ _ _ _ _ _ rfl (fun h => ?_) (fun h4 => ?_)
  · have hh : c = 12 := by simp at h; omega
    simp [escV, hh]
  have n4 : ¬ c = 12 := by simp at h4; omega
  simp [-intBin, iB_eql]
  refine Out_cond _ _ _ _ _ _ _ rfl (fun h => ?_) (fun h5 => ?_)
  · have hh : c = 10 := by simp at h; omega
    simp [escV, hh]
  have n5 : ¬ c = 10 := by simp at h5; omega
  simp [-intBin, iB_eql]
  refine Out_cond _ _ _ _ _ _ _ rfl (fun h => ?_) (fun h6 => ?_)
  · have hh : c = 13 := by simp at h; omega
    simp [escV, hh]
  have n6 : ¬ c = 13 := by simp at h6; omega
  simp [-intBin, iB_eql]
  refine Out_cond _ _ _ _ _ _ _ rfl (fun h => ?_) (fun h7 => ?_)
  · have hh : c = 9 := by simp at h; omega
    simp [escV, hh]
  have n7 : ¬ c = 9 := by simp at h7; omega
  simp [-intBin, iB_lss]
  refine Out_cond _ _ _ _ _ _ _ rfl (fun h => ?_) (fun h => ?_)
  · have hh : c < 32 := by simp at h; omega
    have s4 : (c : Int).fdiv 16 = (c : Int) / 16 := Int.fdiv_eq_ediv_of_nonneg _ (by omega)
    have m4 : min 4 IntKind.i32.bits = 4 := by decide
    have a15 : andI (c : Int) 15 = ((c % 16 : Nat) : Int) := and15f ⟨c, hh⟩
    have w1 : IntKind.i32.wrap ((c : Int) / 16 + 1) = (c : Int) / 16 + 1 := wrap32 (by omega) (by omega)
    have w2 : IntKind.i32.wrap ((c : Int) % 16 + 1) = (c : Int) % 16 + 1 := wrap32 (by omega) (by omega)
    have l1 : (hexV (c / 16)).length = 1 := hexV_len ⟨c / 16, by omega⟩
    have l2 : (hexV (c % 16)).length = 1 := hexV_len ⟨c % 16, by omega⟩
    have x1 := hexs .i32 ((c : Int) / 16) (c / 16) (by omega) (by omega)
    have x2 := hexs .i32 ((c : Int) % 16) (c % 16) (by omega) (by omega)
    simp [-intBin, -strBin, iB_and32, iB_add, shBin, m4, s4, a15, w1, w2, x1, x2]
    simp [-intBin, iB_and32, iB_add, a15, w2, x2, imax, l1, l2, escV, n1, n2, n3, n4, n5, n6, n7, hh]
  · have hh : ¬ c < 32 := by simp at h; omega
    simp [escV, n1, n2, n3, n4, n5, n6, n7, hh]

theorem decV_ok (b : List UInt8) (p : Nat) (hp : p < b.length) : runeOk (decV b p).1 := by
  unfold decV runeOk
  rw [Lib.decode_at]
  have hx := ((⟨b.toArray⟩ : ByteArray).get! p).toNat_lt
  generalize ((⟨b.toArray⟩ : ByteArray).get! p).toNat = b0 at *
  generalize ((⟨b.toArray⟩ : ByteArray).get! (p + 1)).toNat = b1
  generalize ((⟨b.toArray⟩ : ByteArray).get! (p + 2)).toNat = b2
  generalize ((⟨b.toArray⟩ : ByteArray).get! (p + 3)).toNat = b3
  unfold Lib.decodeN
  repeat' split
  all_goals (simp only; omega)

/-- What is written for a rune. -/
def outV (c : Nat) : List UInt8 := if escV c = [] then encV c else escV c
def quoteB (b : List UInt8) : Nat → Nat → List UInt8
  | 0, _ => []
  | f + 1, p => if p < b.length then outV (decV b p).1 ++ quoteB b f (p + (decV b p).2) else []

theorem escV_len (c : Nat) : (escV c).length ≤ 6 := by
  unfold escV
  split
  · simp
  split
  · simp
  split
  · simp
  split
  · simp
  split
  · simp
  split
  · simp
  split
  · simp
  split
  · have l1 : (hexV (c / 16)).length = 1 := hexV_len ⟨c / 16, by omega⟩
    have l2 : (hexV (c % 16)).length = 1 := hexV_len ⟨c % 16, by omega⟩
    simp [l1, l2]
  · simp
theorem outV_len (c : Nat) : (outV c).length ≤ 6 := by
  have h1 := escV_len c
  have h2 := encV_len c
  unfold outV
  split <;> omega

theorem set_iter (o : List AObj) (x y z : AObj) : (o ++ [x, y]).set (o.length + 1) z = o ++ [x, z] := by
  simp [List.set_append]

theorem quoteLoop (o : List AObj) (bufs : List (Nat × Nat × TypeId)) (b : List UInt8) (hb : b.length ≤ 1000000000) :
    ∀ (f p : Nat) (env : Env) (bs : List UInt8), p ≤ b.length → b.length < p + f → bs.length + 6 * (b.length - p) ≤ 100000000000 → env 4 = .ptr o.length 0 → env 13 = .itr (o.length + 1) →
      Out (evC G (.loop false af33l0) env (bst o [.iter b p] bufs bs)) (fun e env' s' => e = .exit 0 ∧ env' 4 = .ptr o.length 0 ∧ ∃ q, s' = bst o [.iter b q] bufs (bs ++ quoteB b f p)) := by
  intro f
  induction f with
  | zero => intro p env bs h1 h2; omega
  | succ f ih =>
    intro p env bs hp hf hl h4 h13
    refine Out_loop G false _ _ af33l0.eq_1 _ _ _ ?_
    have hs : (bst o [.iter b p] bufs bs).obs[o.length + 1]? = some (.iter b p) := by simp [bst]
    by_cases hlt : p < b.length
    · have hd := decV_le b p hlt
      have hok := decV_ok b p hlt
      have hn := nxt_at b p (o.length + 1) (bst o [.iter b p] bufs bs) hs hlt
      have hset : ({ (bst o [.iter b p] bufs bs) with obs := (bst o [.iter b p] bufs bs).obs.set (o.length + 1) (.iter b (p + (Utf8.decode ⟨b.toArray⟩ p).2)) } : St) = bst o [.iter b (p + (decV b p).2)] bufs bs := by
        simp [bst, set_iter, decV]
      rw [hset] at hn
      have hdec : (Utf8.decode ⟨b.toArray⟩ p).1 = (decV b p).1 := rfl
      rw [hdec] at hn
      have hol := outV_len (decV b p).1
      simp [h13, hn]
      refine Out_cond _ _ _ _ _ _ _ rfl (fun _ => ?_) (fun h => by cases h)
      simp [esc_spec _ hd.2.2]
      refine Out_cond _ _ _ _ _ _ _ rfl (fun h => ?_) (fun h => ?_)
      · have he : ¬ escV (decV b p).1 = [] := by simpa using h
        have ho : outV (decV b p).1 = escV (decV b p).1 := by simp [outV, he]
        have hq : quoteB b (f + 1) p = escV (decV b p).1 ++ quoteB b f (p + (decV b p).2) := by simp [quoteB, hlt, ho]
        rw [ho] at hol
        simp [h4, write_bst o _ bufs bs _ he (by omega)]
        refine (ih (p + (decV b p).2) _ (bs ++ escV (decV b p).1) (by omega) (by omega) (by simp; omega) (by simp [h4]) (by simp [h13])).mono ?_
        rintro e env' s' ⟨rfl, g1, q, rfl⟩
        exact ⟨rfl, g1, q, by rw [hq, List.append_assoc]⟩
      · have he : escV (decV b p).1 = [] := by simpa using h
        have ho : outV (decV b p).1 = encV (decV b p).1 := by simp [outV, he]
        have hq : quoteB b (f + 1) p = encV (decV b p).1 ++ quoteB b f (p + (decV b p).2) := by simp [quoteB, hlt, ho]
        rw [ho] at hol
        simp [h4, rune_bst o _ bufs bs _ hok (by omega)]
        refine (ih (p + (decV b p).2) _ (bs ++ encV (decV b p).1) (by omega) (by omega) (by simp; omega) (by simp [h4]) (by simp [h13])).mono ?_
        rintro e env' s' ⟨rfl, g1, q, rfl⟩
        exact ⟨rfl, g1, q, by rw [hq, List.append_assoc]⟩
    · have hn := nxt_end b p (o.length + 1) (bst o [.iter b p] bufs bs) hs hlt
      simp [h13, hn]
      refine Out_cond _ _ _ _ _ _ _ rfl (fun h => by cases h) (fun _ => ?_)
      simp [quoteB, hlt, h4]
      exact ⟨p, rfl⟩

theorem quoteB_len (b : List UInt8) : ∀ f p, (quoteB b f p).length ≤ 6 * (b.length - p)
  | 0, p => by simp [quoteB]
  | f + 1, p => by
    unfold quoteB
    split
    · rename_i hp
      have h1 := outV_len (decV b p).1
      have h2 := quoteB_len b f (p + (decV b p).2)
      have h3 := decV_le b p hp
      simp
      omega
    · simp

/-- A text in quotes. -/
def quoteV (b : List UInt8) : List UInt8 := 34 :: (quoteB b (b.length + 1) 0 ++ [34])

theorem fin_bst (o tl : List AObj) (bufs : List (Nat × Nat × TypeId)) (bs : List UInt8) (r : V) (h : r.plain.und o.length 0 = true) : fin false ⟨o, bufs⟩ (bst o tl bufs bs) r = (r.plain, ⟨o, bufs⟩) := by
  unfold fin
  rw [if_neg (by simp), if_pos ⟨by simp [bst], h⟩]
  simp [bst]

theorem quote_spec (b : List UInt8) (hb : b.length ≤ 1000000000) (s : St) : call G 33 [.str b] s =
    if rightV b = true then some (.tup [.str (quoteV b), .int .i64 0], s) else some (.tup [.str [], .int .i64 2], s) := by
  obtain ⟨o, bufs⟩ := s
  have hr := fun s => textRight_spec' b (by omega) s
  have hl := quoteB_len b (b.length + 1) 0
  by_cases hrv : rightV b = true
  · rw [if_pos hrv]
    refine call_out (F := af33) rfl rfl ?_
    simp [af33, af33b, hr]
    refine Out_cond _ _ _ _ _ _ _ rfl (fun h => by simp [hrv] at h) (fun _ => ?_)
    have h0 : ({ obs := o ++ [.cells 42 [.pnil, .sl .nil []]], bufs := bufs } : St) = bst0 o [] bufs := rfl
    have hb0 := byte_bst0 o [] bufs 34
    have e34 : ((34 : UInt8).toNat : Int) = 34 := by decide
    rw [e34] at hb0
    have hrng : ({ obs := (bst o [] bufs [34]).obs ++ [.iter b 0], bufs := (bst o [] bufs [34]).bufs } : St) = bst o [.iter b 0] bufs [34] := by simp [bst]
    have hlen : (bst o [] bufs [34]).obs.length = o.length + 1 := by simp [bst]
    simp [h0, hb0, hrng, hlen]
    refine (quoteLoop o bufs b hb (b.length + 1) 0 _ [34] (by omega) (by omega) (by simp; omega) (by simp) (by simp)).mono ?_
    rintro e env s' ⟨rfl, g4, q, rfl⟩
    have hb1 := byte_bst o [.iter b q] bufs ([34] ++ quoteB b (b.length + 1) 0) 34 (by simp; omega)
    rw [e34] at hb1
    have hs1 := string_bst o [.iter b q] bufs ([34] ++ quoteB b (b.length + 1) 0 ++ [34]) (by simp) (by simp; omega)
    simp only [List.cons_append, List.nil_append] at hb1 hs1 ⊢
    simp [-fin, g4, hb1, hs1, quoteV]
    refine Eq.trans (if_pos ⟨by simp [bst], rfl⟩) ?_
    simp [bst]
  · rw [if_neg hrv]
    refine call_out (F := af33) rfl rfl ?_
    simp [af33, af33b, hr]
    refine Out_cond _ _ _ _ _ _ _ rfl (fun _ => ?_) (fun h => by simp [hrv] at h)
    simp

end Go.Proofs.YtjdppboomglenaaDoor.Eng
