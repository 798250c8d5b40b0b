/-
  Values that are right: keys, and tree.Right whole. No condition.
-/
import Derived.Test.YtjdppboomglenaaDoorJSpec3
namespace Go.Proofs.YtjdppboomglenaaDoor.Eng
open Go
set_option linter.unusedSimpArgs false
set_option linter.unusedVariables false

attribute [local simp] evC_reg evR_cons evR_nil runR_some regK_some evC_ret evC_skip evC_exit Out_seq Out_blk Out_some seqQ_norm seqQ_ret seqQ_exit blkQ_norm blkQ_ret blkQ_exit loopQ_norm loopQ_ret loopQ_exit
attribute [local simp] stepR evOp put upd_apply X.ev initEnv cells_agg cells_int cells_str cells_bool cells_sl cells_ptr cells_pnil cells_fn cells_map vc_length vc_take vc_plain vc_und toVs_plain toPs_plain toVs_und toPs_und takeN evBin isSh intBin strBin callK resOf packR fin V.plain plainL V.und undL scK kill dstsO dstsL dstsR ite_some ite_pair ite_vbool evUn evLoad evLen V.real finLoop_false quietK_false kill_none

/-! ### Maps whose keys are texts -/
theorem find_cons (k : V) (e : V × V × Nat) (es : List (V × V × Nat)) : find k (e :: es) = match keyEq k e.1 with
    | some true => some (some (e.2.1, e.2.2))
    | some false => find k es
    | none => none := by rw [find]; rfl

theorem find_app_none {k : V} {e : V × V × Nat} : ∀ {es : List (V × V × Nat)}, find k es = some none → find k (es ++ [e]) = find k [e]
  | [], _ => rfl
  | x :: es, h => by
    rw [List.cons_append, find_cons]
    rw [find_cons] at h
    cases hq : keyEq k x.1 with
    | none => rw [hq] at h; cases h
    | some t =>
      rw [hq] at h
      cases t with
      | true => cases h
      | false => exact find_app_none h

theorem find_app_some {k : V} {e : V × V × Nat} {r : V × Nat} : ∀ {es : List (V × V × Nat)}, find k es = some (some r) → find k (es ++ [e]) = some (some r)
  | [], h => by simp [find] at h
  | x :: es, h => by
    rw [List.cons_append, find_cons]
    rw [find_cons] at h
    cases hq : keyEq k x.1 with
    | none => rw [hq] at h; cases h
    | some t =>
      rw [hq] at h
      cases t with
      | true => exact h
      | false => exact find_app_some h

/-- Entries: the keys that are there have 1. -/
structure Seen (es : List (V × V × Nat)) (ks : List (List UInt8)) : Prop where
  yes : ∀ k, k ∈ ks → ∃ b, find (.str k) es = some (some (.int .i64 1, b))
  no : ∀ k, k ∉ ks → find (.str k) es = some none

theorem Seen.nil : Seen [] [] := ⟨fun _ h => absurd h List.not_mem_nil, fun _ _ => rfl⟩

theorem Seen.push {es : List (V × V × Nat)} {ks : List (List UInt8)} (h : Seen es ks) {k : List UInt8} (hk : k ∉ ks) (c : Nat) : Seen (es ++ [(.str k, .int .i64 1, c)]) (ks ++ [k]) where
  yes k' hk' := by
    by_cases hm : k' ∈ ks
    · obtain ⟨b, hb⟩ := h.yes k' hm
      exact ⟨b, find_app_some hb⟩
    · have : k' = k := by
        rcases List.mem_append.1 hk' with q | q
        · exact absurd q hm
        · simpa using q
      subst this
      refine ⟨c, ?_⟩
      rw [find_app_none (h.no k' hm)]
      simp [find, keyEq]
  no k' hk' := by
    simp only [List.mem_append, List.mem_singleton, not_or] at hk'
    rw [find_app_none (h.no k' hk'.1)]
    simp [find, keyEq, hk'.2]

theorem find_set {k v : V} : ∀ {es : List (V × V × Nat)} {r : V × Nat}, find k es = some (some r) → find k (setKey k v es) = some (some (v, r.2))
  | [], r, h => by simp [find] at h
  | x :: es, r, h => by
    rw [find_cons] at h
    cases hq : keyEq k x.1 with
    | none => rw [hq] at h; cases h
    | some t =>
      rw [hq] at h
      unfold setKey
      cases t with
      | true =>
        cases h
        rw [if_pos hq, find_cons]
        simp [hq]
      | false =>
        rw [if_neg (by rw [hq]; simp), find_cons, hq]
        exact find_set h

/-- Keys that may be. -/
def keysV : List (List UInt8) → List (List UInt8 × JV) → Bool
  | _, [] => true
  | seen, p :: ps => if p.1 ∈ seen ∨ rightV p.1 = false then false else keysV (seen ++ [p.1]) ps

theorem keysLoop (base : List AObj) (bufs : List (Nat × Nat × TypeId)) (L : List (List UInt8 × JV)) (hL : L.length ≤ 9223372036854775807) (hk : ∀ p ∈ L, p.1.length ≤ 9223372036854775807) :
    ∀ (m i : Nat) (env : Env) (es : List (V × V × Nat)) (clock : Nat) (junk : List AObj) (ks : List (List UInt8)), L.length - i = m → i ≤ L.length → env 3 = .map base.length → env 7 = .sl .no (toPs L) → env 8 = .int .i64 L.length → env 9 = .int .i64 i → Seen es ks →
      Out (evC G (.loop false af27l0) env ⟨base ++ .map es clock :: junk, bufs⟩) (fun e env' s' => (∃ rest, s' = ⟨base ++ rest, bufs⟩) ∧ ((keysV ks (L.drop i) = true ∧ e = .exit 0) ∨ (keysV ks (L.drop i) = false ∧ e = .ret ∧ env' 2 = .bool false))) := by
  intro m
  induction m with
  | zero =>
    intro i env es clock junk ks hm hi h3 h7 h8 h9 hse
    have : i = L.length := by omega
    subst this
    refine Out_loop G false _ _ af27l0.eq_1 _ _ _ ?_
    simp [h8, h9]
    refine Out_cond _ _ _ _ _ _ _ rfl (fun h => by simp at h) (fun _ => ?_)
    simp [keysV]
  | succ m ihm =>
    intro i env es clock junk ks hm hi h3 h7 h8 h9 hse
    have hlt : i < L.length := by omega
    have hd := List.drop_eq_getElem_cons hlt
    refine Out_loop G false _ _ af27l0.eq_1 _ _ _ ?_
    simp [h8, h9]
    refine Out_cond _ _ _ _ _ _ _ rfl (fun _ => ?_) (fun h => by simp at h; omega)
    have hkey := hk L[i] (List.getElem_mem hlt)
    generalize hp : L[i] = p at *
    obtain ⟨key, ⟨kk, nn, ss, ll, ff⟩⟩ := p
    simp only at hkey
    by_cases hin : key ∈ ks
    · obtain ⟨bb, hb⟩ := hse.yes key hin
      have hset := find_set (v := .int .i64 2) hb
      have hw : IntKind.i64.wrap 2 = 2 := by decide
      simp [h3, h7, h9, toPs_get, List.getElem?_eq_getElem hlt, hp, evStore, putL, V.one, vc, evLookup, evLook, evMupd, keyOk, hb, hset, hw]
      refine Out_cond _ _ _ _ _ _ _ rfl (fun _ => ?_) (fun h => by cases h)
      rw [hd, keysV, if_pos (.inl hin)]
      simp
    · have hb := hse.no key hin
      have hw : IntKind.i64.wrap 1 = 1 := by decide
      have hpush := find_app_none (e := (.str key, .int .i64 1, clock)) hb
      simp [find, keyEq] at hpush
      simp [h3, h7, h9, toPs_get, List.getElem?_eq_getElem hlt, hp, evStore, putL, V.one, vc, evLookup, evLook, evMupd, keyOk, hb, hpush, hw, textRight_spec' key hkey]
      have hw2 : IntKind.i64.wrap ((i : Int) + 1) = ((i + 1 : Nat) : Int) := by rw [wrap_in (by omega) (by omega)]; omega
      refine Out_cond _ _ _ _ _ _ _ rfl (fun h => ?_) (fun h => ?_)
      · have hr : rightV key = false := by simpa using h
        rw [hd, keysV, if_pos (.inr hr)]
        simp
      · have hr : rightV key = true := by simpa using h
        have hn : ¬ (key ∈ ks ∨ rightV key = false) := by simp [hin, hr]
        rw [hd, keysV, if_neg hn]
        simp [h9, hw2]
        exact ihm (i + 1) _ _ _ _ (ks ++ [key]) (by omega) (by omega) (by simp [h3]) (by simp [h7]) (by simp [h8]) (by simp) (hse.push hin clock)

theorem keys_spec (L : List (List UInt8 × JV)) (hL : L.length ≤ 9223372036854775807) (hk : ∀ p ∈ L, p.1.length ≤ 9223372036854775807) (s : St) : call G 27 [.sl .no (toPs L)] s = some (.bool (keysV [] L), s) := by
  obtain ⟨obs, bufs⟩ := s
  refine call_out (F := af27) rfl rfl ?_
  simp [af27, af27b, toPs_length]
  refine (keysLoop obs bufs L hL hk L.length 0 _ [] 0 [] [] (by omega) (by omega) (by simp) (by simp) (by simp) (by simp) Seen.nil).mono ?_
  rintro e env s' ⟨⟨rest, rfl⟩, ⟨h1, rfl⟩ | ⟨h1, rfl, h2⟩⟩
  · rw [List.drop_zero] at h1
    simp [h1]
  · rw [List.drop_zero] at h1
    simp [h1, h2]

/-! ### tree.Right -/
/-! A value of so many levels is right. -/
mutual
def treeV : JV → Int → Bool
  | .mk k n s l f, d =>
    if d < 1 ∨ unusedV (.mk k n s l f) = false then false
    else if k = 0 then true
    else if k = 1 then decide (n = 0) || decide (n = 1)
    else if k = 2 then decide (-9007199254740991 ≤ n) && decide (n ≤ 9007199254740991)
    else if k = 3 then rightV s
    else if k = 4 then treeVs l (d - 1)
    else if k = 5 then keysV [] f && treePs f (d - 1)
    else false
def treeVs : List JV → Int → Bool
  | [], _ => true
  | v :: vs, d => treeV v d && treeVs vs d
def treePs : List (List UInt8 × JV) → Int → Bool
  | [], _ => true
  | p :: ps, d => treeV p.2 d && treePs ps d
end
theorem treeVs_any (l : List JV) (d : Int) : l.any (fun x => !treeV x d) = !treeVs l d := by
  induction l with
  | nil => rfl
  | cons x l ih => simp [treeVs, ih]
theorem treePs_any (l : List (List UInt8 × JV)) (d : Int) : l.any (fun x => !treeV x.2 d) = !treePs l d := by
  induction l with
  | nil => rfl
  | cons x l ih => simp [treePs, ih]

/-- The closure's cell. -/
def Clo (c : Nat) (s : St) : Prop := s.obs[c]? = some (.cells 27 [.fn (.func 22) [] [.ptr c 0]])

theorem Clo.app {c : Nat} {s : St} (h : Clo c s) (l : List AObj) : Clo c ⟨s.obs ++ l, s.bufs⟩ := by
  unfold Clo at *
  rw [List.getElem?_append_left (lt_of_get h)]
  exact h

theorem f26_spec (x : JV) (c e : Nat) (d : Int) (hd : -1000 ≤ d ∧ d ≤ 1000) (s : St) (hcl : Clo c s) (he : s.obs[e]? = some (.cells 3 [.int .i64 d]))
    (ih : ∀ s', Clo c s' → call G 22 [toV x, .int .i64 (d - 1), .ptr c 0] s' = some (.bool (treeV x (d - 1)), s')) :
    call G 26 [toV x, .ptr c 0, .ptr e 0] s = some (.bool (!treeV x (d - 1)), s) := by
  have h1 := hcl.app [.cells 25 (vc x)]
  have h2 : (s.obs ++ [AObj.cells 25 (vc x)])[e]? = some (.cells 3 [.int .i64 d]) := by
    rw [List.getElem?_append_left (lt_of_get he)]; exact he
  have h3 : (s.obs ++ [AObj.cells 25 (vc x)])[c]? = some (.cells 27 [.fn (.func 22) [] [.ptr c 0]]) := h1
  have hw : IntKind.i64.wrap (d - 1) = d - 1 := wrap_in (by omega) (by omega)
  refine call_out (F := af26) rfl rfl ?_
  simp [af26, af26b, h2, h3, hw, ih _ h1]

theorem f29_spec (x : List UInt8 × JV) (c e : Nat) (d : Int) (hd : -1000 ≤ d ∧ d ≤ 1000) (s : St) (hcl : Clo c s) (he : s.obs[e]? = some (.cells 3 [.int .i64 d]))
    (ih : ∀ s', Clo c s' → call G 22 [toV x.2, .int .i64 (d - 1), .ptr c 0] s' = some (.bool (treeV x.2 (d - 1)), s')) :
    call G 29 [pv x, .ptr c 0, .ptr e 0] s = some (.bool (!treeV x.2 (d - 1)), s) := by
  have h1 := hcl.app [.cells 48 (.str x.1 :: vc x.2)]
  have h2 : (s.obs ++ [AObj.cells 48 (.str x.1 :: vc x.2)])[e]? = some (.cells 3 [.int .i64 d]) := by
    rw [List.getElem?_append_left (lt_of_get he)]; exact he
  have h3 : (s.obs ++ [AObj.cells 48 (.str x.1 :: vc x.2)])[c]? = some (.cells 27 [.fn (.func 22) [] [.ptr c 0]]) := h1
  have hw : IntKind.i64.wrap (d - 1) = d - 1 := wrap_in (by omega) (by omega)
  refine call_out (F := af29) rfl rfl ?_
  simp [af29, af29b, h2, h3, hw, ih _ h1]

theorem tree_spec : ∀ (v : JV), v.ok → ∀ (d : Int) (c : Nat) (s : St), -100 ≤ d → d ≤ 1000 → Clo c s → call G 22 [toV v, .int .i64 d, .ptr c 0] s = some (.bool (treeV v d), s)
  | .mk k nn b l f, hok, d, c, s, hd0, hd1, hcl => by
    obtain ⟨_, _, hb, hl, hf, hokl, hokf⟩ := hok
    have ihl : ∀ x ∈ l, ∀ (s : St), 1 ≤ d → Clo c s → call G 22 [toV x, .int .i64 (d - 1), .ptr c 0] s = some (.bool (treeV x (d - 1)), s) := fun x hx s h1 hc => tree_spec x (okVs_mem hokl x hx) (d - 1) c s (by omega) (by omega) hc
    have ihf : ∀ x ∈ f, ∀ (s : St), 1 ≤ d → Clo c s → call G 22 [toV x.2, .int .i64 (d - 1), .ptr c 0] s = some (.bool (treeV x.2 (d - 1)), s) := fun x hx s h1 hc => tree_spec x.2 (okPs_mem hokf x hx).2 (d - 1) c s (by omega) (by omega) hc
    have hun := unused_spec (.mk k nn b l f)
    simp only [toV, vc] at hun
    have hobj := hcl.app [.cells 25 (vc (.mk k nn b l f)), .cells 3 [.int .i64 d]]
    simp only [vc] at hobj
    refine call_out (F := af22) rfl rfl ?_
    simp [af22, af22b, vc, hun]
    refine Out_cond _ _ _ _ _ _ _ rfl (fun h => ?_) (fun h => ?_)
    · have h' : d < 1 ∨ unusedV (.mk k nn b l f) = false := by
        simp at h
        rcases h with h | h
        · exact .inl (by omega)
        · exact .inr h
      simp [treeV, h']
    · have h' : ¬ (d < 1 ∨ unusedV (.mk k nn b l f) = false) := by
        simp at h
        simp [h.2]
        omega
      have hd : 1 ≤ d := by omega
      have hcl2 : ({ obs := s.obs ++ [.cells 25 [.int .i64 k, .int .i64 nn, .str b, .sl .no (toVs l), .sl .no (toPs f)], .cells 3 [.int .i64 d]], bufs := s.bufs } : St).obs[s.obs.length + 1]? = some (.cells 3 [.int .i64 d]) := by simp
      simp
      refine Out_cond _ _ _ _ _ _ _ rfl (fun h0 => ?_) (fun h0 => ?_)
      · simp at h0
        have ht : treeV (.mk k nn b l f) d = true := by rw [treeV, if_neg h', if_pos h0]
        simp [ht]
      · simp at h0
        simp
        refine Out_cond _ _ _ _ _ _ _ rfl (fun h1 => ?_) (fun h1 => ?_)
        · simp at h1
          have ht : treeV (.mk k nn b l f) d = (decide (nn = 0) || decide (nn = 1)) := by rw [treeV, if_neg h', if_neg h0, if_pos h1]
          simp [ht]
        · simp at h1
          simp
          refine Out_cond _ _ _ _ _ _ _ rfl (fun h2 => ?_) (fun h2 => ?_)
          · simp at h2
            have ht : treeV (.mk k nn b l f) d = (decide (-9007199254740991 ≤ nn) && decide (nn ≤ 9007199254740991)) := by rw [treeV, if_neg h', if_neg h0, if_neg h1, if_pos h2]
            simp [ht]
          · simp at h2
            simp
            refine Out_cond _ _ _ _ _ _ _ rfl (fun h3 => ?_) (fun h3 => ?_)
            · simp at h3
              have ht : treeV (.mk k nn b l f) d = rightV b := by rw [treeV, if_neg h', if_neg h0, if_neg h1, if_neg h2, if_pos h3]
              simp [ht, textRight_spec' b hb]
            · simp at h3
              simp
              refine Out_cond _ _ _ _ _ _ _ rfl (fun h4 => ?_) (fun h4 => ?_)
              · simp at h4
                have ht : treeV (.mk k nn b l f) d = treeVs l (d - 1) := by rw [treeV, if_neg h', if_neg h0, if_neg h1, if_neg h2, if_neg h3, if_pos h4]
                have hcon := contains42 l hl 26 [.ptr c 0, .ptr (s.obs.length + 1) 0] rfl (fun x => !treeV x (d - 1)) _
                  (fun x hx => f26_spec x c (s.obs.length + 1) d ⟨by omega, by omega⟩ _ hobj hcl2 (fun s' hc => ihl x hx s' hd hc))
                rw [treeVs_any] at hcon
                simp [ht, hcon]
              · simp at h4
                simp
                refine Out_cond _ _ _ _ _ _ _ rfl (fun h5 => ?_) (fun h5 => ?_)
                · simp at h5
                  have ht : treeV (.mk k nn b l f) d = (keysV [] f && treePs f (d - 1)) := by rw [treeV, if_neg h', if_neg h0, if_neg h1, if_neg h2, if_neg h3, if_neg h4, if_pos h5]
                  have hcon := contains43 f hf 29 [.ptr c 0, .ptr (s.obs.length + 1) 0] rfl (fun x => !treeV x.2 (d - 1)) _
                    (fun x hx => f29_spec x c (s.obs.length + 1) d ⟨by omega, by omega⟩ _ hobj hcl2 (fun s' hc => ihf x hx s' hd hc))
                  rw [treePs_any] at hcon
                  have hkey := keys_spec f hf (fun p hp => (okPs_mem hokf p hp).1)
                  simp [ht, hcon, hkey]
                · simp at h5
                  have ht : treeV (.mk k nn b l f) d = false := by rw [treeV, if_neg h', if_neg h0, if_neg h1, if_neg h2, if_neg h3, if_neg h4, if_neg h5]
                  simp [ht]
termination_by v => SizeOf.sizeOf v
decreasing_by
  · have := List.sizeOf_lt_of_mem hx
    simp; omega
  · have := List.sizeOf_lt_of_mem hx
    obtain ⟨a, b⟩ := x
    simp at this ⊢; omega

theorem treeRight_spec (v : JV) (hok : v.ok) (s : St) : call G 15 [toV v] s = some (.bool (treeV v 12), s) := by
  have hcl : Clo (s.obs.length + 1) ⟨s.obs ++ [.cells 25 (vc v), .cells 27 [.fn (.func 22) [] [.ptr (s.obs.length + 1) 0]]], s.bufs⟩ := by
    unfold Clo; simp
  have h := tree_spec v hok 12 _ _ (by omega) (by omega) hcl
  refine call_out (F := af15) rfl rfl ?_
  simp [af15, af15b, evStore, putL, V.one, h]

end Go.Proofs.YtjdppboomglenaaDoor.Eng
