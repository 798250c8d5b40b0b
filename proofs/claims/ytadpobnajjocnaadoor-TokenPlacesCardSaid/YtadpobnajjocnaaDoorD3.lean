/-
  TokenPlaces in the program. No condition.
-/
import Derived.Test.YtadpobnajjocnaaDoorD0
namespace Go.Proofs.YtadpobnajjocnaaDoor.Eng
open Go
set_option linter.unusedSimpArgs false
set_option linter.unusedVariables false

attribute [local simp] evC_condT evC_condF evC_reg evC_regD evR_cons evR_nil runR_some regK_some evC_ret evC_skip evC_exit Out_seq Out_blk Out_some seqQ_norm seqQ_ret seqQ_exit blkQ_norm blkQ_ret blkQ_exit loopQ_norm loopQ_ret loopQ_exit
attribute [local simp] stepR evOp put upd_apply X.ev initEnv cells_agg cells_int cells_str cells_bool cells_sl cells_ptr cells_pnil cells_fn cells_map takeN evBin isSh intBin strBin callK resOf packR V.plain plainL V.und undL scK kill dstsO dstsL dstsR ite_some ite_pair ite_vbool evUn evLoad evLen V.real finLoop_false quietK_false kill_none
/-- Tokens at rising places: a text where a sign 22 stands, all else as it stands. -/
def plc (b : List UInt8) : Nat → List Tok → Prop
  | _, [] => True
  | from_, t :: A => ∃ l, l <:+ b ∧ l ≠ [] ∧ t.a = ((b.length - l.length : Nat) : Int) ∧ from_ ≤ b.length - l.length ∧
      ((t.k = 4 ∧ hd0 l = 34 ∧ plc b (b.length - l.length + 1) A) ∨ (t.k ≠ 4 ∧ t.s ≠ [] ∧ t.s <+: l ∧ plc b (b.length - l.length + t.s.length) A))

theorem tokP_4 {l l' s : List UInt8} (h : tokP l = .ok (4, s) l') : hd0 l = 34 := by
  unfold tokP at h
  split at h
  · simp at h
  split at h
  · simp at h
  split at h
  · simp at h
  split at h
  · have := (tnum_self h).1; omega
  split at h
  · rename_i hb
    exact begs_hd hb
  split at h
  · assumption
  · cases h

theorem lexL_plc (b : List UInt8) : ∀ (n : Nat) (l : List UInt8) (toks T : List Tok) (l2 : List UInt8) (from_ : Nat), l <:+ b → from_ ≤ b.length - l.length → lexL b n l toks = .ok T l2 → ∃ R, T = toks ++ R ∧ plc b from_ R := by
  intro n
  induction n with
  | zero => intro l toks T l2 f _ _ h; cases h
  | succ n ih =>
    intro l toks T l2 f hl hf h
    rw [lexL] at h
    split at h
    · cases h; exact ⟨[], by simp, trivial⟩
    rename_i hne
    split at h
    · cases h
    cases hT : tokP l with
    | err l' e => rw [hT] at h; cases h
    | ok kt l' =>
      obtain ⟨k, s⟩ := kt
      rw [hT] at h
      simp only at h
      obtain ⟨hs1, hs2⟩ := tokP_suf hne hT
      have hbt := betw_suf false l'
      have hbl := suf_len hbt
      have hlb := suf_len hl
      have hlb' := (hbt.trans hs1).trans hl
      by_cases hk : k = 4
      · subst hk
        obtain ⟨R, hR, hp⟩ := ih _ _ T l2 (b.length - l.length + 1) hlb' (by omega) h
        refine ⟨⟨4, s, ((b.length - l.length : Nat) : Int)⟩ :: R, by rw [hR]; simp, l, hl, hne, rfl, hf, .inl ⟨rfl, tokP_4 hT, hp⟩⟩
      · have hc := tokP_cons hne hT hk
        obtain ⟨_, hsn, _⟩ := tokP_self hne hT hk
        have hcl := congrArg List.length hc
        rw [List.length_append] at hcl
        obtain ⟨R, hR, hp⟩ := ih _ _ T l2 (b.length - l.length + s.length) hlb' (by omega) h
        exact ⟨⟨k, s, ((b.length - l.length : Nat) : Int)⟩ :: R, by rw [hR]; simp, l, hl, hne, rfl, hf, .inr ⟨hk, hsn, ⟨l', hc.symm⟩, hp⟩⟩
theorem lexP_plc {b : List UInt8} (h : (lexP b).2.1 = 0) : plc b 0 (lexP b).1 ∧ b.length ≤ 4000 := by
  obtain ⟨h1, _, l2, h2⟩ := lexP_ok h rfl
  obtain ⟨R, hR, hp⟩ := lexL_plc b _ _ [] _ l2 0 (betw_suf false b) (Nat.zero_le _) h2
  rw [hR, List.nil_append]
  exact ⟨hp, h1⟩
/-- What is wrong stands in the text. -/
theorem lexL_at (b : List UInt8) : ∀ (n : Nat) (l : List UInt8) (toks : List Tok) (l2 : List UInt8) (e : Int), lexL b n l toks = .err l2 e → ∃ k : Nat, ((b.length - l2.length : Nat) : Int) = k ∧ k ≤ b.length := by
  intro n l toks l2 e _
  exact ⟨b.length - l2.length, rfl, by omega⟩
theorem lexP_at (b : List UInt8) : 0 ≤ (lexP b).2.2 ∧ (lexP b).2.2 ≤ (b.length : Int) := by
  unfold lexP
  split
  · exact ⟨by simp, by simp⟩
  split
  · rename_i h
    refine ⟨h, ?_⟩
    simp only
    have key : ∀ f p, p ≤ b.length → badV b f p ≤ (b.length : Int) := by
      intro f
      induction f with
      | zero => intro p _; rw [badV]; omega
      | succ f ih =>
        intro p hp
        rw [badV]
        split
        · split
          · omega
          · rename_i hlt _
            exact ih _ (sizeV_le b p hlt).2.1
        · omega
    exact key _ 0 (Nat.zero_le _)
  · split
    · exact ⟨by simp, by simp⟩
    · simp only
      exact ⟨by omega, by omega⟩

theorem lexL_len (b : List UInt8) : ∀ (n : Nat) (l l2 : List UInt8) (toks T : List Tok), toks.length ≤ 900 → lexL b n l toks = .ok T l2 → T.length ≤ 900 := by
  intro n
  induction n with
  | zero => intro l l2 toks T _ h; cases h
  | succ n ih =>
    intro l l2 toks T ht h
    rw [lexL] at h
    split at h
    · cases h; exact ht
    split at h
    · cases h
    rename_i h9
    cases hT : tokP l with
    | err l' e => rw [hT] at h; cases h
    | ok kt l' =>
      rw [hT] at h
      exact ih _ _ _ _ (by rw [List.length_append]; simp; omega) h
theorem lexP_len (b : List UInt8) : (lexP b).1.length ≤ 1000000 := by
  unfold lexP
  split
  · simp
  split
  · simp
  split
  · rename_i toks l h
    have := lexL_len b _ _ _ [] _ (by simp) h
    simp only
    omega
  · simp

theorem placeLoop {b : List UInt8} (hb : b.length ≤ 1000000) (A : List Tok) (hA : A.length ≤ 1000000) (s : St) : ∀ (m i f : Nat) (env : Env), A.length - i = m → i ≤ A.length → plc b f (A.drop i) → f ≤ 2000000 →
    env 0 = .str b → env 3 = .sl .no (tokVs A) → env 5 = .int .i64 f → env 6 = .int .i64 i →
    Out (evC G (.loop false af4l0) env s) (fun ex env' s' => ex = .exit 0 ∧ s' = s) := by
  intro m
  have htl := tokVs_len A
  induction m with
  | zero =>
    intro i f env hm hi hp hf h0 h3 h5 h6
    have h : ¬ i < A.length := by omega
    have h' : ¬ (i : Int) < (A.length : Int) := by omega
    refine Out_loop G false _ _ af4l0.eq_1 _ _ _ ?_
    simp [h3, h6, htl, h, h']
  | succ m ih =>
    intro i f env hm hi hp hf h0 h3 h5 h6
    have h : i < A.length := by omega
    have h' : (i : Int) < (A.length : Int) := by omega
    have hdr := List.drop_eq_getElem_cons h
    have hgm : (tokVs A)[((i : Nat) : Int).toNat]? = some (tokV A[i]) := by
      unfold tokVs
      rw [Int.toNat_natCast, List.getElem?_map, List.getElem?_eq_getElem h]; rfl
    have hw : IntKind.i64.wrap ((i : Int) + 1) = ((i + 1 : Nat) : Int) := by rw [wrap_in (by omega) (by omega)]; omega
    rw [hdr] at hp
    obtain ⟨l, hl, hne, ha, hfl, hcase⟩ := hp
    have hgo := fun f env => ih (i + 1) f env (by omega) (by omega)
    clear ih hdr
    generalize A[i] = t at *
    obtain ⟨k, x, a⟩ := t
    simp only at ha hcase
    subst ha
    have hlb := suf_len hl
    have hpos := List.length_pos_iff.2 hne
    generalize hat : b.length - l.length = at_ at *
    have q1 : ¬ at_ < f := by omega
    have q1' : ¬ (at_ : Int) < (f : Int) := by omega
    have q2 : ¬ b.length ≤ at_ := by omega
    have q2' : ¬ (b.length : Int) ≤ (at_ : Int) := by omega
    have w2 : IntKind.i64.wrap ((at_ : Int) + 1) = ((at_ + 1 : Nat) : Int) := by rw [wrap_in (by omega) (by omega)]; omega
    rcases hcase with ⟨hk, h34, hp⟩ | ⟨hk, hx, hpre, hp⟩
    · subst hk
      obtain ⟨c, l', rfl⟩ := List.exists_cons_of_ne_nil hne
      have hgi := at_get hl
      rw [show b.length - (l'.length + 1) = at_ by simpa using hat] at hgi
      have hc : c = 34 := h34
      subst hc
      refine Out_loop G false _ _ af4l0.eq_1 _ _ _ ?_
      simp [h0, h3, h5, h6, htl, h, h', ↓hgm, tokV, q1, q1', q2, q2', w2, ↓hgi, hw]
      exact hgo (at_ + 1) _ hp (by omega) (by simp [h0]) (by simp [h3]) (by simp) (by simp)
    · have hk' : (k = 4) = False := eq_false hk
      obtain ⟨l', rfl⟩ := hpre
      have hxp := List.length_pos_iff.2 hx
      rw [List.length_append] at hat hlb
      have hx0 : ¬ (x.length : Int) = 0 := by omega
      have hsl : evSlcS (.str b) (some (.int .i64 (at_ : Int))) (some (.int .i64 ((at_ : Int) + (x.length : Int)))) = some (.str x) := by
        have hn : ((at_ : Int) + (x.length : Int)).toNat = at_ + x.length := by omega
        have h0' : (0 : Int) ≤ (at_ : Int) + (x.length : Int) := by omega
        simp only [evSlcS, bnd, if_pos (Int.natCast_nonneg at_), Int.toNat_natCast, if_pos h0', hn]
        rw [if_pos ⟨by omega, by omega⟩]
        have hd := suf_drop hl
        rw [List.length_append, hat] at hd
        rw [List.drop_take, hd, Nat.add_sub_cancel_left, List.take_left]
      have w3 : IntKind.i64.wrap ((at_ : Int) + (x.length : Int)) = (at_ : Int) + (x.length : Int) := wrap_in (by omega) (by omega)
      have w4 : IntKind.i64.wrap ((b.length : Int) - (at_ : Int)) = ((b.length - at_ : Nat) : Int) := by rw [wrap_in (by omega) (by omega)]; omega
      have q3 : ¬ b.length - at_ < x.length := by omega
      refine Out_loop G false _ _ af4l0.eq_1 _ _ _ ?_
      simp [h0, h3, h5, h6, htl, h, h', ↓hgm, tokV, q1, q1', q2, q2', w2, hw, hk', w3, w4, q3, hsl, hx, hx0]
      exact hgo (at_ + x.length) _ hp (by omega) (by simp [h0]) (by simp [h3]) (by simp) (by simp)

theorem places_law (b : List UInt8) (hb : b.length ≤ 9223372036854775807) (s : St) : ∃ s', call G 4 [.str b] s = some (.bool true, s') := by
  have ha := awake_spec
  refine ⟨s, ?_⟩
  refine call_out (F := af4) rfl rfl ?_
  by_cases h6 : 600 < b.length
  · have h6' : (600 : Int) < (b.length : Int) := by omega
    simp [af4, af4b, ha, h6, h6']
    rw [fin_id _ (v := .bool _) rfl]
    rfl
  have h6' : ¬ (600 : Int) < (b.length : Int) := by omega
  have hlx := lex_spec b hb
  obtain ⟨a1, a2⟩ := lexP_at b
  by_cases he : (lexP b).2.1 = 0
  · obtain ⟨hp, _⟩ := lexP_plc he
    have hlen : (lexP b).1.length ≤ 1000000 := lexP_len b
    rw [he] at hlx
    clear he
    generalize (lexP b).1 = A at *
    generalize (lexP b).2.2 = fa at *
    have hpl := tokVs_plain A
    simp [af4, af4b, ha, h6, h6', hlx, hpl, fillL, putL, evStore, V.one]
    refine Out.mono (placeLoop (b := b) (by omega) A hlen _ A.length 0 0 _ (by omega) (by omega) (by simpa using hp) (by omega) (by simp) (by simp) (by simp) (by simp)) ?_
    rintro ex env' s' ⟨rfl, rfl⟩
    simp
    rw [fin_s0 _ _ _ (by rfl)]
    rfl
  · have hA : (lexP b).1 = [] := by
      unfold lexP at he ⊢
      split
      · rfl
      · split
        · rfl
        · rename_i c1 c2
          rw [if_neg c1, if_neg c2] at he
          split
          · rename_i hq; rw [hq] at he; exact absurd rfl he
          · rfl
    have he' : ((lexP b).2.1 = 0) = False := eq_false he
    rw [hA] at hlx
    generalize (lexP b).2.1 = e at *
    generalize (lexP b).2.2 = p at *
    simp [af4, af4b, ha, h6, h6', hlx, he', a1, a2, tokVs, fillL, putL, evStore, V.one]
    rw [fin_s0 _ _ _ (by rfl)]
    rfl

end Go.Proofs.YtadpobnajjocnaaDoor.Eng
