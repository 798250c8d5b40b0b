/-
  JSON, written by the program: encode. No condition.
-/
import Derived.Test.YtjdppboomglenaaDoorJSpec9
namespace Go.Proofs.YtjdppboomglenaaDoor.Eng
open Go
set_option linter.unusedSimpArgs false
set_option linter.unusedVariables false

attribute [local simp] evC_reg evC_regD evR_cons evR_nil runR_some regK_some evC_ret evC_skip evC_exit Out_seq Out_blk Out_some seqQ_norm seqQ_ret seqQ_exit blkQ_norm blkQ_ret blkQ_exit loopQ_norm loopQ_ret loopQ_exit
attribute [local simp] stepR evOp put upd_apply X.ev initEnv cells_agg cells_int cells_str cells_bool cells_sl cells_ptr cells_pnil cells_fn cells_map vc_length vc_take vc_plain vc_und toVs_plain toPs_plain toVs_und toPs_und takeN evBin isSh intBin strBin callK resOf packR fin V.plain plainL V.und undL scK kill dstsO dstsL dstsR ite_some ite_pair ite_vbool evUn evLoad evLen V.real finLoop_false quietK_false kill_none

/-- What encode does for a value. -/
def EncOk (x : JV) : Prop := ∀ (o tl : List AObj) (bufs : List (Nat × Nat × TypeId)) (y : Option (List UInt8)), (y.getD []).length + (encJ x).length ≤ 100000000000 →
  call G 16 [.ptr o.length 0, toV x] (bsx o tl bufs y) = some (.tup [], bst o tl bufs (y.getD [] ++ encJ x))

theorem encLoop0 (o tl : List AObj) (bufs : List (Nat × Nat × TypeId)) (L : List JV) (hL : L.length ≤ 9223372036854775807) (ih : ∀ x ∈ L, EncOk x) :
    ∀ (m i : Nat) (env : Env) (junk : List AObj) (bs : List UInt8), L.length - i = m → i ≤ L.length → env 0 = .ptr o.length 0 → env 49 = .sl .no (toVs L) → env 50 = .int .i64 L.length → env 51 = .int .i64 i →
      bs.length + (encVs (L.drop i) i).length ≤ 100000000000 →
      Out (evC G (.loop false af16l0) env (bst o (tl ++ junk) bufs bs)) (fun e env' s' => e = .exit 1 ∧ env' 0 = .ptr o.length 0 ∧ ∃ junk', s' = bst o (tl ++ junk') bufs (bs ++ encVs (L.drop i) i)) := by
  intro m
  induction m with
  | zero =>
    intro i env junk bs hm hi h0 h49 h50 h51 hb
    have : i = L.length := by omega
    subst this
    refine Out_loop G false _ _ af16l0.eq_1 _ _ _ ?_
    simp [h50, h51]
    refine Out_cond _ _ _ _ _ _ _ rfl (fun h => by simp at h) (fun _ => ?_)
    simp [encVs, h0]
    exact ⟨junk, rfl⟩
  | succ m ihm =>
    intro i env junk bs hm hi h0 h49 h50 h51 hb
    have hlt : i < L.length := by omega
    have hdr := List.drop_eq_getElem_cons hlt
    have hwi : IntKind.i64.wrap ((i : Int) + 1) = ((i + 1 : Nat) : Int) := by rw [wrap_in (by omega) (by omega)]; omega
    have hx := ih L[i] (List.getElem_mem hlt)
    rw [hdr] at hb ⊢
    simp only [encVs] at hb ⊢
    refine Out_loop G false _ _ af16l0.eq_1 _ _ _ ?_
    simp [h50, h51]
    refine Out_cond _ _ _ _ _ _ _ rfl (fun _ => ?_) (fun h => by simp at h; omega)
    have hload : ∀ bs', (bst o (tl ++ (junk ++ [.cells 25 (vc L[i])])) bufs bs').obs[(bst o (tl ++ junk) bufs bs).obs.length]? = some (.cells 25 (vc L[i])) := by
      intro bs'
      simp only [bst]
      rw [List.getElem?_append_right (by simp)]
      simp
    have hcall : ∀ bs', bs'.length + (encJ L[i]).length ≤ 100000000000 → call G 16 [.ptr o.length 0, .agg (vc L[i])] (bst o (tl ++ (junk ++ [.cells 25 (vc L[i])])) bufs bs') = some (.tup [], bst o (tl ++ (junk ++ [.cells 25 (vc L[i])])) bufs (bs' ++ encJ L[i])) := by
      intro bs' hl
      exact hx o (tl ++ (junk ++ [.cells 25 (vc L[i])])) bufs (some bs') hl
    have h44 : call G 34 [.ptr o.length 0, .int .u8 44] (bst o (tl ++ (junk ++ [.cells 25 (vc L[i])])) bufs bs) = some (.nilI, bst o (tl ++ (junk ++ [.cells 25 (vc L[i])])) bufs (bs ++ [44])) := by
      have := byte_bst o (tl ++ (junk ++ [.cells 25 (vc L[i])])) bufs bs 44 (by omega)
      simpa using this
    have hstore : evStore 5 (.ptr (bst o (tl ++ junk) bufs bs).obs.length 0) (.agg (vc L[i])) ⟨(bst o (tl ++ junk) bufs bs).obs ++ [.cells 25 [.int .i64 0, .int .i64 0, .str [], .sl .nil [], .sl .nil []]], (bst o (tl ++ junk) bufs bs).bufs⟩ =
        some (.tup [], bst o (tl ++ (junk ++ [.cells 25 (vc L[i])])) bufs bs) := by
      cases L[i]
      simp [evStore, vc, V.one, putL, bst]
    simp [h49, h51, toVs_get, List.getElem?_eq_getElem hlt]
    rw [hstore]
    simp
    refine Out_cond _ _ _ _ _ _ _ rfl (fun hi0 => ?_) (fun hi0 => ?_)
    · have hi0' : 0 < i := by simpa using hi0
      simp only [if_pos hi0'] at hb ⊢
      simp at hb
      simp [h0, h44, hload]
      rw [hcall (bs ++ [44]) (by simp; omega)]
      simp [h51, hwi]
      refine Out.mono (ihm (i + 1) _ (junk ++ [.cells 25 (vc L[i])]) (bs ++ 44 :: encJ L[i]) ?_ ?_ ?_ ?_ ?_ ?_ ?_) ?_
      · omega
      · omega
      · simp [h0]
      · simp [h49]
      · simp [h50]
      · simp
      · simp; omega
      rintro e env' s' ⟨rfl, h, junk', rfl⟩
      exact ⟨rfl, h, junk', by simp⟩
    · have hi0' : ¬ 0 < i := by simpa using hi0
      simp only [if_neg hi0'] at hb ⊢
      simp at hb
      simp [h0, hload]
      rw [hcall bs (by omega)]
      simp [h51, hwi]
      refine Out.mono (ihm (i + 1) _ (junk ++ [.cells 25 (vc L[i])]) (bs ++ encJ L[i]) ?_ ?_ ?_ ?_ ?_ ?_ ?_) ?_
      · omega
      · omega
      · simp [h0]
      · simp [h49]
      · simp [h50]
      · simp
      · simp; omega
      rintro e env' s' ⟨rfl, h, junk', rfl⟩
      exact ⟨rfl, h, junk', by simp⟩

theorem quoteV_ne (b : List UInt8) : quoteV b ≠ [] := by simp [quoteV]

theorem encLoop1 (o tl : List AObj) (bufs : List (Nat × Nat × TypeId)) (L : List (List UInt8 × JV)) (hL : L.length ≤ 9223372036854775807) (hr : ∀ p ∈ L, rightV p.1 = true ∧ p.1.length ≤ 1000000000) (ih : ∀ p ∈ L, EncOk p.2) :
    ∀ (m i : Nat) (env : Env) (junk : List AObj) (bs : List UInt8), L.length - i = m → i ≤ L.length → env 0 = .ptr o.length 0 → env 71 = .sl .no (toPs L) → env 72 = .int .i64 L.length → env 73 = .int .i64 i →
      bs.length + (encPs (L.drop i) i).length ≤ 100000000000 →
      Out (evC G (.loop false af16l1) env (bst o (tl ++ junk) bufs bs)) (fun e env' s' => e = .exit 3 ∧ env' 0 = .ptr o.length 0 ∧ ∃ junk', s' = bst o (tl ++ junk') bufs (bs ++ encPs (L.drop i) i)) := by
  intro m
  induction m with
  | zero =>
    intro i env junk bs hm hi h0 h49 h50 h51 hb
    have : i = L.length := by omega
    subst this
    refine Out_loop G false _ _ af16l1.eq_1 _ _ _ ?_
    simp [h50, h51]
    refine Out_cond _ _ _ _ _ _ _ rfl (fun h => by simp at h) (fun _ => ?_)
    simp [encPs, h0]
    exact ⟨junk, rfl⟩
  | succ m ihm =>
    intro i env junk bs hm hi h0 h49 h50 h51 hb
    have hlt : i < L.length := by omega
    have hdr := List.drop_eq_getElem_cons hlt
    have hwi : IntKind.i64.wrap ((i : Int) + 1) = ((i + 1 : Nat) : Int) := by rw [wrap_in (by omega) (by omega)]; omega
    have hx := ih L[i] (List.getElem_mem hlt)
    obtain ⟨hr1, hr2⟩ := hr L[i] (List.getElem_mem hlt)
    rw [hdr] at hb ⊢
    simp only [encPs] at hb ⊢
    generalize hp : L[i] = p at *
    obtain ⟨key, x⟩ := p
    simp only at hb hx hr1 hr2 ⊢
    refine Out_loop G false _ _ af16l1.eq_1 _ _ _ ?_
    simp [h50, h51]
    refine Out_cond _ _ _ _ _ _ _ rfl (fun _ => ?_) (fun h => by simp at h; omega)
    have hq := quote_spec key hr2
    simp only [hr1, if_true] at hq
    have hload : ∀ bs', (bst o (tl ++ (junk ++ [.cells 48 (.str key :: vc x)])) bufs bs').obs[(bst o (tl ++ junk) bufs bs).obs.length]? = some (.cells 48 (.str key :: vc x)) := by
      intro bs'
      simp only [bst]
      rw [List.getElem?_append_right (by simp)]
      simp
    have hcall : ∀ bs', bs'.length + (encJ x).length ≤ 100000000000 → call G 16 [.ptr o.length 0, .agg (vc x)] (bst o (tl ++ (junk ++ [.cells 48 (.str key :: vc x)])) bufs bs') = some (.tup [], bst o (tl ++ (junk ++ [.cells 48 (.str key :: vc x)])) bufs (bs' ++ encJ x)) := by
      intro bs' hl
      exact hx o (tl ++ (junk ++ [.cells 48 (.str key :: vc x)])) bufs (some bs') hl
    have h44 : call G 34 [.ptr o.length 0, .int .u8 44] (bst o (tl ++ (junk ++ [.cells 48 (.str key :: vc x)])) bufs bs) = some (.nilI, bst o (tl ++ (junk ++ [.cells 48 (.str key :: vc x)])) bufs (bs ++ [44])) := by
      have := byte_bst o (tl ++ (junk ++ [.cells 48 (.str key :: vc x)])) bufs bs 44 (by omega)
      simpa using this
    have hwr : ∀ bs', bs'.length + (quoteV key).length ≤ 100000000000 → call G 30 [.ptr o.length 0, .str (quoteV key)] (bst o (tl ++ (junk ++ [.cells 48 (.str key :: vc x)])) bufs bs') = some (.tup [.int .i64 (quoteV key).length, .nilI], bst o (tl ++ (junk ++ [.cells 48 (.str key :: vc x)])) bufs (bs' ++ quoteV key)) :=
      fun bs' hl => write_bst o (tl ++ (junk ++ [.cells 48 (.str key :: vc x)])) bufs bs' (quoteV key) (quoteV_ne key) (by omega)
    have h58 : ∀ bs', bs'.length ≤ 100000000000 → call G 34 [.ptr o.length 0, .int .u8 58] (bst o (tl ++ (junk ++ [.cells 48 (.str key :: vc x)])) bufs bs') = some (.nilI, bst o (tl ++ (junk ++ [.cells 48 (.str key :: vc x)])) bufs (bs' ++ [58])) := by
      intro bs' hl
      have := byte_bst o (tl ++ (junk ++ [.cells 48 (.str key :: vc x)])) bufs bs' 58 (by omega)
      simpa using this
    have hstore : evStore 6 (.ptr (bst o (tl ++ junk) bufs bs).obs.length 0) (.agg (.str key :: vc x)) ⟨(bst o (tl ++ junk) bufs bs).obs ++ [.cells 48 [.str [], .int .i64 0, .int .i64 0, .str [], .sl .nil [], .sl .nil []]], (bst o (tl ++ junk) bufs bs).bufs⟩ =
        some (.tup [], bst o (tl ++ (junk ++ [.cells 48 (.str key :: vc x)])) bufs bs) := by
      cases x
      simp [evStore, vc, V.one, putL, bst]
    simp [h49, h51, toPs_get, List.getElem?_eq_getElem hlt, hp]
    rw [hstore]
    simp
    refine Out_cond _ _ _ _ _ _ _ rfl (fun hi0 => ?_) (fun hi0 => ?_)
    · have hi0' : 0 < i := by simpa using hi0
      simp only [if_pos hi0'] at hb ⊢
      simp at hb
      simp [h0, h44, hload, hq]
      rw [hwr _ (by simp; omega)]
      simp [h0]
      rw [h58 _ (by simp; omega)]
      simp [h0, hload]
      rw [hcall _ (by simp; omega)]
      simp [h51, hwi]
      refine Out.mono (ihm (i + 1) _ (junk ++ [.cells 48 (.str key :: vc x)]) (bs ++ 44 :: (quoteV key ++ 58 :: encJ x)) ?_ ?_ ?_ ?_ ?_ ?_ ?_) ?_
      · omega
      · omega
      · simp [h0]
      · simp [h49]
      · simp [h50]
      · simp
      · simp; omega
      rintro e env' s' ⟨rfl, h, junk', rfl⟩
      exact ⟨rfl, h, junk', by simp⟩
    · have hi0' : ¬ 0 < i := by simpa using hi0
      simp only [if_neg hi0'] at hb ⊢
      simp at hb
      simp [h0, hload, hq]
      rw [hwr _ (by omega)]
      simp [h0]
      rw [h58 _ (by simp; omega)]
      simp [h0, hload]
      rw [hcall _ (by simp; omega)]
      simp [h51, hwi]
      refine Out.mono (ihm (i + 1) _ (junk ++ [.cells 48 (.str key :: vc x)]) (bs ++ (quoteV key ++ 58 :: encJ x)) ?_ ?_ ?_ ?_ ?_ ?_ ?_) ?_
      · omega
      · omega
      · simp [h0]
      · simp [h49]
      · simp [h50]
      · simp
      · simp; omega
      rintro e env' s' ⟨rfl, h, junk', rfl⟩
      exact ⟨rfl, h, junk', by simp⟩

end Go.Proofs.YtjdppboomglenaaDoor.Eng
