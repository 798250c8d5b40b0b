/-
  Literals, read by the reference; the statement LitParses over texts. No condition.
-/
import Derived.Test.YtboejpobmpfifaaGreatDoorLRds
import Derived.Test.YtboejpobmpfifaaGreatDoorLVals
import Derived.Test.YtboejpobmpfifaaGreatDoorLTys
set_option linter.unusedSimpArgs false
set_option linter.unusedVariables false
namespace Go.Proofs.YtboejpobmpfifaaGreatDoor.Eng
open Go
attribute [local simp] hZ hQ eW eX dV eZ dD dC eY dU dT eG eT dP cE dZ dE cS dQ cD bZ dB bY
attribute [local simp] iD aW put dF X.ev cK cT cU cY bW dS cW bX dR cV eO gG kY bK fM gS fJ gD V.plain aU V.und cB scK kill aF bO aH dX dW cZ mA bR fW V.real bH bN dA
attribute [local simp] eS iS fP jO eE eD gA fZ
def By (s : List UInt8) : Prop := ∃ (ng : Bool) (ds : List UInt8), s = (if ng = true then 45 :: ds else ds) ∧ ds ≠ [] ∧ (∀ x ∈ ds, bV x = true) ∧ kG ds ≤ 9007199254740991 ∧ ds.length ≤ 900000
def EJ (t : Tok) : Prop := (t.k = 1 ∨ t.k = 2 ∨ t.k = 3 ∨ t.k = 4) ∧ (t.k = 3 → By t.s)
theorem DP (l : List UInt8) : (tdg l).length ≤ l.length := by
  have h := congrArg List.length (rV l)
  rw [List.length_append] at h
  have h2 : (eQ l).length ≤ l.length := by
    unfold eQ
    split
    · simp
    · split <;> simp
  omega
theorem Gf {l l' s : List UInt8} {k : Int} (hl : l.length ≤ 900000) (h : fI l = .ok (k, s) l') : (k = 1 ∨ k = 2 ∨ k = 3 ∨ k = 4) ∧ (k = 3 → By s) := by
  unfold fI at h
  repeat' split at h
  all_goals first
    | (cases h; done)
    | (simp only [PR.ok.injEq, Prod.mk.injEq] at h; exact ⟨by omega, fun h3 => by omega⟩)
    | skip
  · unfold iH at h
    split at h
    · cases h
    split at h
    · cases h
    rename_i hb hn
    simp only [PR.ok.injEq, Prod.mk.injEq] at h
    refine ⟨by omega, fun _ => ⟨iO l, tdg l, h.1.2.symm, fun he => hb (.inl he), tZ l, ?_, ?_⟩⟩
    · have : ¬ 9007199254740991 < kG (tdg l) := fun he => hb (.inr (.inr he))
      omega
    · have := DP l
      omega
  · unfold rX at h
    repeat' split at h
    all_goals first
      | (cases h; done)
      | (simp only [PR.ok.injEq, Prod.mk.injEq] at h; exact ⟨by omega, fun h3 => by omega⟩)
  · unfold wN at h
    repeat' split at h
    all_goals first
      | (cases h; done)
      | (simp only [PR.ok.injEq, Prod.mk.injEq] at h; exact ⟨by omega, fun h3 => by omega⟩)
theorem Fo (b : List UInt8) : ∀ (n : Nat) (l l2 : List UInt8) (toks T : List Tok), l.length ≤ 900000 → (∀ t ∈ toks, EJ t) → kS b n l toks = .ok T l2 → ∀ t ∈ T, EJ t := by
  intro n
  induction n with
  | zero => intro l l2 toks T _ _ h; cases h
  | succ n ih =>
    intro l l2 toks T hl ht h
    rw [kS] at h
    split at h
    · cases h; exact ht
    split at h
    · cases h
    rename_i hne _
    cases hT : fI l with
    | err l' e => rw [hT] at h; cases h
    | ok kt l' =>
      obtain ⟨k, s⟩ := kt
      rw [hT] at h
      obtain ⟨h1, h2⟩ := wL hne hT
      have h3 := (gQ false l').length_le
      refine ih _ _ _ _ (by omega) ?_ h
      intro t hm
      rcases List.mem_append.1 hm with hm | hm
      · exact ht t hm
      · simp at hm; subst hm; exact Gf hl hT
theorem xY (b : List UInt8) : ∀ t ∈ (dJ b).1, EJ t := by
  unfold dJ
  split
  · simp
  split
  · simp
  split
  · rename_i toks l h
    have := (gQ false b).length_le
    exact Fo b _ _ _ [] _ (by omega) (by simp) h
  · simp
def iX (a : Nat) (c : UInt8) : Nat := if c = 45 then a else 10 * a + (c.toNat - 48)
theorem sT : ∀ (ds : List UInt8) (a : Nat), (∀ x ∈ ds, bV x = true) → ds.foldl iX a = ds.foldl (fun a x => 10 * a + (x.toNat - 48)) a
  | [], a, _ => rfl
  | d :: ds, a, hd => by
    have h1 := hd d (by simp)
    have h2 : d ≠ 45 := by intro h; subst h; simp [bV] at h1
    simp only [List.foldl_cons]
    rw [show iX a d = 10 * a + (d.toNat - 48) by unfold iX; rw [if_neg h2]]
    exact sT ds _ (fun x hx => hd x (by simp [hx]))
theorem Cd : ∀ (ds : List UInt8) (a : Nat), a ≤ ds.foldl iX a
  | [], a => Nat.le_refl _
  | d :: ds, a => by
    refine Nat.le_trans ?_ (Cd ds (iX a d))
    unfold iX; split <;> omega
theorem CX {x : List UInt8} (hx : x.length ≤ 1000000000) : ∀ (u : List UInt8) (a : Nat) (env : Env) (s : St), u <:+ x → (∀ c ∈ u, bV c = true ∨ c = 45) → u.foldl iX a ≤ 9007199254740991 → env 0 = .str x → env 3 = .int .i64 a → env 4 = .int .i64 ((x.length - u.length : Nat) : Int) →
    Out (evC G (.loop false af209l0) env s) (fun ex env' s' => ex = .exit 0 ∧ s' = s ∧ env' 0 = .str x ∧ env' 3 = .int .i64 ((u.foldl iX a : Nat) : Int)) := by
  intro u
  induction u with
  | nil =>
    intro a env s hu hd hv h0 h3 h4
    refine aG G false _ _ af209l0.eq_1 _ _ _ ?_
    simp at h4
    simp [h0, h3, h4]
  | cons c t ih =>
    intro a env s hu hd hv h0 h3 h4
    have hgi := eL hu
    have hlen := aL hu
    simp only [List.length_cons] at hlen h4 hgi
    have hlt : x.length - (t.length + 1) < x.length := by omega
    have hw : IntKind.i64.wrap (((x.length - (t.length + 1) : Nat) : Int) + 1) = ((x.length - t.length : Nat) : Int) := by rw [aD (by omega) (by omega)]; omega
    have hut : t <:+ x := (List.suffix_cons c t).trans hu
    have e45 : ((c.toNat : Int) = 45) ↔ c = 45 := gF c 45 (by decide)
    have hva := Cd t (iX a c)
    simp only [List.foldl_cons] at hv
    refine aG G false _ _ af209l0.eq_1 _ _ _ ?_
    by_cases hc : c = 45
    · have hct := eq_true hc
      have hst : iX a c = a := by unfold iX; rw [if_pos hc]
      rw [hst] at hv
      simp [h0, h3, h4, hlt, ↓hgi, e45, hct, hw]
      refine Out.mono (ih a _ s hut (fun y hy => hd y (by simp [hy])) hv (by simp [h0]) (by simp [h3]) (by simp)) ?_
      rintro ex env' s' ⟨q1, q2, q3, q4⟩
      rw [hst]
      exact ⟨q1, q2, q3, q4⟩
    · have hct := eq_false hc
      have hdg := (hd c (by simp)).resolve_right hc
      simp only [bV, Bool.and_eq_true, decide_eq_true_eq] at hdg
      have hst : iX a c = 10 * a + (c.toNat - 48) := by unfold iX; rw [if_neg hc]
      have h8 := c.toNat_lt
      have hle : iX a c ≤ 9007199254740991 := Nat.le_trans hva hv
      have w1 : IntKind.i64.wrap ((a : Int) * 10) = (a : Int) * 10 := aD (by omega) (by omega)
      have w2 : IntKind.i64.wrap (c.toNat : Int) = (c.toNat : Int) := aD (by omega) (by omega)
      have w3 : IntKind.i64.wrap ((a : Int) * 10 + (c.toNat : Int)) = (a : Int) * 10 + (c.toNat : Int) := aD (by omega) (by omega)
      have w4 : IntKind.i64.wrap ((a : Int) * 10 + (c.toNat : Int) - 48) = ((iX a c : Nat) : Int) := by rw [aD (by omega) (by omega), hst]; omega
      simp [h0, h3, h4, hlt, ↓hgi, e45, hct, hw, w1, w2, w3, w4]
      refine Out.mono (ih (iX a c) _ s hut (fun y hy => hd y (by simp [hy])) hv (by simp [h0]) (by simp) (by simp)) ?_
      rintro ex env' s' ⟨q1, q2, q3, q4⟩
      exact ⟨q1, q2, q3, q4⟩
theorem Ho {ng : Bool} {ds : List UInt8} (hne : ds ≠ []) (hd : ∀ x ∈ ds, bV x = true) (hv : kG ds ≤ 9007199254740991) : Bx (if ng = true then 45 :: ds else ds) = if ng = true then -(kG ds : Int) else (kG ds : Int) := by
  unfold Bx
  rw [(Hs hd hne ng).1 hv]
theorem Bz {x : List UInt8} (h : By x) (s : St) : call G 209 [.str x] s = some (.int .i64 (Bx x), s) := by
  obtain ⟨ng, ds, hx, hne, hd, hv, hl⟩ := h
  have hI := Ho (ng := ng) hne hd hv
  have hfold : x.foldl iX 0 = kG ds := by
    subst hx
    cases ng with
    | true => simp only [if_true, List.foldl_cons, show iX 0 45 = 0 from rfl]; exact sT ds 0 hd
    | false => simp only [Bool.false_eq_true, if_false]; exact sT ds 0 hd
  have hall : ∀ c ∈ x, bV c = true ∨ c = 45 := by
    intro c hc
    subst hx
    cases ng with
    | true => rcases List.mem_cons.1 hc with h | h
              · exact .inr h
              · exact .inl (hd c h)
    | false => exact .inl (hd c hc)
  have hxl : x.length ≤ 1000000000 := by
    subst hx
    cases ng <;> simp <;> omega
  have hh : x[0]? = some (hd0 x) ∧ (hd0 x = 45 ↔ ng = true) := by
    subst hx
    cases ds with
    | nil => exact absurd rfl hne
    | cons d ds =>
      cases ng with
      | true => simp [hd0]
      | false =>
        have h1 := hd d (by simp)
        have h2 : d ≠ 45 := by intro h; subst h; simp [bV] at h1
        simp [hd0, h2]
  obtain ⟨hg0, h45⟩ := hh
  have hg0' : x[(0 : Int).toNat]? = some (hd0 x) := hg0
  rw [← hx] at hI
  rw [hI]
  have e45 : (((hd0 x).toNat : Int) = 45) ↔ hd0 x = 45 := gF _ 45 (by decide)
  refine aC (F := af209) rfl rfl ?_
  simp [af209, af209b]
  refine Out.mono (CX hxl x 0 _ s (List.suffix_refl _) hall (by rw [hfold]; exact hv) (by simp) (by simp) (by simp)) ?_
  rintro ex env' s' ⟨rfl, rfl, q0, q3⟩
  rw [hfold] at q3
  cases ng with
  | true =>
    have hw : IntKind.i64.wrap (-(kG ds : Int)) = -(kG ds : Int) := aD (by omega) (by omega)
    simp [q0, q3, ↓hg0', ↓hg0, e45, h45, hw]
    rw [aN _ (v := .int _ _) rfl]
    rfl
  | false =>
    simp [q0, q3, ↓hg0', ↓hg0, e45, h45]
    rw [aN _ (v := .int _ _) rfl]
    rfl
def fzV (q : Lrd × JV) : JV := if q.1.e = 0 then q.2 else jNull
structure Rrd.fine (q : Rrd) : Prop where
  ok : q.ok
  len : q.L.length ≤ 900
  toks : ∀ t ∈ q.L, EJ t
theorem zO {q q' : Rrd} (h : q.fine) (hk : q'.ok) (hL : q'.L = q.L) : q'.fine := ⟨hk, by rw [hL]; exact h.len, by rw [hL]; exact h.toks⟩
theorem Er {q : Rrd} (h : q.fine) : q.rs.mu ≤ 901 := by
  have := h.len
  have h2 : q.rs.L.length ≤ q.L.length := by simp [Rrd.rs]
  unfold Lrd.mu
  split <;> omega
def RSp (c : Bool) (d : Nat) : Prop :=
  ∀ (q : Rrd), q.fine → ∀ (s : St), ∃ q' : Rrd, call G 132 [rrV q, .int .i64 d, .bool c] s = some (.tup [rrV q', toV (fzV (Lrd.val c d q.rs))], s) ∧ q'.rs = (Lrd.val c d q.rs).1 ∧ q'.ok ∧ q'.L = q.L
theorem Je (f : Lrd → Lrd × JV) {R : Lrd} (he : R.e ≠ 0) : ∀ (n : Nat) (acc : List JV), (Lrd.lst f n R acc).1 = R
  | 0, acc => rfl
  | n + 1, acc => by rw [Lrd.lst, KT he, if_neg (by simp), if_pos he]
theorem Jn (f : Lrd → Lrd × JV) {R : Lrd} (he : R.e ≠ 0) : ∀ (n : Nat) (acc : List (List UInt8 × JV)), (Lrd.obj f n R acc).1 = R
  | 0, acc => rfl
  | n + 1, acc => by rw [Lrd.obj, KT he, if_neg (by simp), if_pos he]
abbrev zR : List V := [.sl .nil [], .int .i64 0, .int .i64 0, .int .i64 0, .int .i64 0]
section
variable {s : St}
def MM (s : St) (q : Rrd) (m : List V) (bx : List (Nat × Nat × TypeId)) (J : List AObj) : St :=
  ⟨s.obs ++ (.cells 102 (rrC q) :: .cells 102 zR :: .cells 46 zL :: .cells 46 m :: J), s.bufs ++ bx⟩
variable (q : Rrd) (m : List V) (bx : List (Nat × Nat × TypeId)) (J : List AObj)
theorem Cu : (MM s q m bx J).obs[s.obs.length]? = some (.cells 102 (rrC q)) := by
  simp only [MM]; rw [List.getElem?_append_right (by omega)]; simp
theorem IC : (MM s q m bx J).obs[s.obs.length + 1]? = some (.cells 102 zR) := by
  simp only [MM]; rw [List.getElem?_append_right (by omega)]; simp
theorem Gq : (MM s q m bx J).obs[s.obs.length + 3]? = some (.cells 46 m) := by
  simp only [MM]; rw [List.getElem?_append_right (by omega)]; simp
theorem uE (q' : Rrd) : (⟨(MM s q m bx J).obs.set s.obs.length (.cells 102 (rrC q')), (MM s q m bx J).bufs⟩ : St) = MM s q' m bx J := by
  simp only [MM]; rw [List.set_append_right _ _ (by omega)]; simp
theorem Ee (m' : List V) (bx' : List (Nat × Nat × TypeId)) : (⟨(MM s q m bx J).obs.set (s.obs.length + 3) (.cells 46 m'), s.bufs ++ bx'⟩ : St) = MM s q m' bx' J := by
  simp only [MM]; rw [List.set_append_right _ _ (by omega)]; simp
theorem Ed (J2 : List AObj) : (⟨(MM s q m bx J).obs ++ J2, (MM s q m bx J).bufs⟩ : St) = MM s q m bx (J ++ J2) := by
  simp only [MM, List.append_assoc, List.cons_append]
theorem yU : (MM s q m bx J).obs.length = s.obs.length + 4 + J.length := by
  simp only [MM, List.length_append, List.length_cons]; omega
theorem yV (a : AObj) : (MM s q m bx (J ++ [a])).obs.length = s.obs.length + 4 + J.length + 1 := by
  rw [yU]; simp; omega
theorem yS (J2 : List AObj) (i : Nat) : (MM s q m bx (J ++ J2)).obs[s.obs.length + 4 + J.length + i]? = J2[i]? := by
  simp only [MM]
  rw [List.getElem?_append_right (by omega), show s.obs.length + 4 + J.length + i - s.obs.length = J.length + i + 1 + 1 + 1 + 1 by omega]
  simp only [List.getElem?_cons_succ]
  rw [List.getElem?_append_right (by omega), show J.length + i - J.length = i by omega]
theorem yT (J2 : List AObj) : (MM s q m bx (J ++ J2)).obs[s.obs.length + 4 + J.length]? = J2[0]? := yS q m bx J J2 0
theorem yW (J2 : List AObj) (i : Nat) (o : AObj) : (⟨(MM s q m bx (J ++ J2)).obs.set (s.obs.length + 4 + J.length + i) o, (MM s q m bx (J ++ J2)).bufs⟩ : St) = MM s q m bx (J ++ J2.set i o) := by
  simp only [MM]
  rw [List.set_append_right _ _ (by omega), show s.obs.length + 4 + J.length + i - s.obs.length = J.length + i + 1 + 1 + 1 + 1 by omega]
  simp only [List.set_cons_succ]
  rw [List.set_append_right _ _ (by omega), show J.length + i - J.length = i by omega]
theorem qP (J2 : List AObj) (o : AObj) : (⟨(MM s q m bx (J ++ J2)).obs.set (s.obs.length + 4 + J.length) o, (MM s q m bx (J ++ J2)).bufs⟩ : St) = MM s q m bx (J ++ J2.set 0 o) := yW q m bx J J2 0 o
theorem tM (a : AObj) : (MM s q m bx J).obs.set (s.obs.length + 1) a = s.obs ++ (.cells 102 (rrC q) :: a :: .cells 46 zL :: .cells 46 m :: J) := by
  simp only [MM]; rw [List.set_append_right _ _ (by omega)]; simp
end
section
variable {c : Bool} {d : Nat} {s : St}
def ML (s : St) (q : Rrd) (acc : List JV) (J : List AObj) : St := MM s q (mkL (.sl (bE s.bufs acc) (cQ acc))) (dH (80, 46) acc) J
def LOk (s : St) (L : List Tok) (p : Lrd × List JV) (s' : St) : Prop := ∃ q' J', q'.fine ∧ q'.L = L ∧ q'.rs.over = false ∧ q'.e = 0 ∧ q'.rs.tl = p.1 ∧ s' = ML s q' p.2 J'
def IA (s : St) (L : List Tok) (R : Lrd) (s' : St) : Prop := ∃ (q' : Rrd) (X : List AObj) (bx : List (Nat × Nat × TypeId)), q'.fine ∧ q'.L = L ∧ q'.rs = R ∧ q'.e ≠ 0 ∧ s' = ⟨s.obs ++ (.cells 102 (rrC q') :: .cells 102 (rrC q') :: .cells 46 zL :: X), s.bufs ++ bx⟩
set_option maxHeartbeats 2000000 in
theorem FL (hv : RSp c d) : ∀ (n : Nat) (q : Rrd) (acc : List JV) (J : List AObj) (k : Nat) (env : Env), q.rs.mu < n → k + q.rs.mu ≤ 950 → q.fine → q.e = 0 → acc.length ≤ k →
    env 1 = .int .i64 d → env 2 = .bool c → env 3 = .bool false → env 4 = .ptr s.obs.length 0 → env 8 = .ptr (s.obs.length + 1) 0 → env 9 = .ptr (s.obs.length + 2) 0 → env 10 = .ptr (s.obs.length + 3) 0 → env 11 = .str [93] → env 12 = .int .i64 k →
    Out (evC G (.loop false af210l1) env (ML s q acc J)) (fun ex env' s' => env' 8 = .ptr (s.obs.length + 1) 0 ∧ env' 9 = .ptr (s.obs.length + 2) 0 ∧
      ((ex = .exit 0 ∧ env' 4 = .ptr s.obs.length 0 ∧ env' 10 = .ptr (s.obs.length + 3) 0 ∧ LOk s q.L (Lrd.lst (Lrd.val c d) n q.rs acc) s') ∨ (ex = .ret ∧ IA s q.L (Lrd.lst (Lrd.val c d) n q.rs acc).1 s'))) := by
  intro n
  induction n with
  | zero => intro q acc J k env h; omega
  | succ n ih =>
    intro q acc J k env hn hk hf hq0 hal h1 h2 h3 h4 h8 h9 h10 h11 h12
    have his := fun S => iB hf.ok [93] S
    have hpl := aE q.L
    have hkl : (k : Int) < 1000 := by omega
    have hwk : IntKind.i64.wrap ((k : Int) + 1) = (k : Int) + 1 := aD (by omega) (by omega)
    refine aG G false _ _ af210l1.eq_1 _ _ _ ?_
    rw [Lrd.lst]
    simp only [ML]
    generalize hm : mkL (.sl (bE s.bufs acc) (cQ acc)) = m
    generalize hbx : dH (80, 46) acc = bx
    have hm0 := Cu (s := s) q m bx J
    by_cases hi : q.rs.is [93] = true
    · rw [if_pos hi]
      simp only [rrV, rrC] at his hm0
      simp [h1, h2, h3, h4, h8, h9, h10, h11, h12, hkl, ↓hm0, hpl, his, hi]
      exact ⟨q, J, hf, rfl, mF hi, hq0, rfl, by rw [ML, hm, hbx]⟩
    · have hi' : q.rs.is [93] = false := by simpa using hi
      rw [if_neg hi, if_neg (show ¬ q.rs.e ≠ 0 from fun h => h hq0)]
      obtain ⟨q', hc, hrs, hok', hL'⟩ := hv q hf (MM s q m bx J)
      obtain ⟨v1, v2, v3⟩ := jN c d q.rs
      have hmu := v3 hq0
      have hf' := zO hf hok' hL'
      have hfz : fzV (Lrd.val c d q.rs) = if q'.e = 0 then (Lrd.val c d q.rs).2 else jNull := by
        unfold fzV; rw [← hrs]; rfl
      rw [hfz] at hc
      rw [← hrs] at hmu ⊢
      generalize (Lrd.val c d q.rs).2 = v at *
      have hpl' := aE q'.L
      have hlen := yU (s := s) q m bx J
      have hpush := fun J J2 => Ed (s := s) q m bx J J2
      have hlen1 := fun a => yV (s := s) q m bx J a
      have hgj := fun J2 i => yS (s := s) q m bx J J2 i
      have hgj0 := fun J2 => yT (s := s) q m bx J J2
      have hsj := fun J2 i o => yW (s := s) q m bx J J2 i o
      have hsj0 := fun J2 o => qP (s := s) q m bx J J2 o
      have hgn := fun J2 i => yS (s := s) q' m bx J J2 i
      have hgn0 := fun J2 => yT (s := s) q' m bx J J2
      have hset := fun J2 => uE (s := s) q m bx J2 q'
      have hm0' := fun J2 => Cu (s := s) q m bx J2
      have hn0' := fun J2 => Cu (s := s) q' m bx J2
      by_cases he : q'.e = 0
      · rw [if_pos he] at hc
        have hnx := fun env => ih q' (acc ++ [v]) (J ++ [.cells 102 (rrC q'), .cells 46 (vc v)]) (k + 1) env (by omega) (by omega) hf' he (by simp; omega)
        simp only [ML] at hnx
        have hm3 : (MM s q' m bx (J ++ [.cells 102 (rrC q'), .cells 46 (vc v)])).obs[s.obs.length + 3]? = some (.cells 46 (mkL (.sl (bE s.bufs acc) (cQ acc)))) := by rw [hm]; exact Gq _ _ _ _
        have hroom : iF = 140737488355328 := by decide
        have hap : ∀ o, gM false 5 (80, 46) (.sl (bE s.bufs acc) (cQ acc)) (.sl o [toV v]) (MM s q' m bx (J ++ [.cells 102 (rrC q'), .cells 46 (vc v)])) = some (.sl (.buf s.bufs.length) (cQ acc ++ [toV v]), ⟨(MM s q' m bx (J ++ [.cells 102 (rrC q'), .cells 46 (vc v)])).obs, s.bufs ++ [(acc.length + 1, 80, 46)]⟩) := fun o => by
          rw [← hbx]
          exact mV cQ rfl jZ 5 80 46 o (toV v) xM (by simp) acc (by rw [hroom]; omega) _ s.bufs
        have hst : (⟨(MM s q' m bx (J ++ [.cells 102 (rrC q'), .cells 46 (vc v)])).obs.set (s.obs.length + 3) (.cells 46 [.int .i64 4, .int .i64 0, .str [], .sl (.buf s.bufs.length) (cQ acc ++ [toV v]), .sl .nil []]), s.bufs ++ [(acc.length + 1, 80, 46)]⟩ : St) = MM s q' (mkL (.sl (bE s.bufs (acc ++ [v])) (cQ (acc ++ [v])))) (dH (80, 46) (acc ++ [v])) (J ++ [.cells 102 (rrC q'), .cells 46 (vc v)]) := by
          have hne : acc ++ [v] ≠ [] := by simp
          simp only [mkL, bE, dH, hne, if_false, Ck, List.length_append, List.length_cons, List.length_nil]
          exact Ee q' m bx _ _ _
        obtain ⟨k2, n2, s2, ll, ff⟩ := v
        obtain ⟨L', k', n', e', a'⟩ := q'
        simp only at he hpl'
        subst he
        simp only [rrV, rrC, toV, vc, mkL] at his hc hm0 hset hm0' hn0' hm3 hap hst hnx
        simp [h1, h2, h3, h4, h8, h9, h10, h11, h12, hkl, hwk, ↓hm0, hpl, his, hi', hc, hlen, hlen1, hgj, hgj0, hsj, hsj0, hgn, hgn0, aI, bC, aK, V.one, aB, hpush, ↓hm0', ↓hn0', hset, ↓hm3, hap, hst]
        refine Out.mono (hnx _ (by simp [h1]) (by simp [h2]) (by simp [h3]) (by simp [h4]) (by simp [h8]) (by simp [h9]) (by simp [h10]) (by simp [h11]) (by simp)) ?_
        rintro ex env' s' ⟨w8, w9, ⟨rfl, w4, w10, hq⟩ | ⟨rfl, hq⟩⟩
        · exact ⟨w8, w9, .inl ⟨rfl, w4, w10, by rw [← hL']; exact hq⟩⟩
        · exact ⟨w8, w9, .inr ⟨rfl, by rw [← hL']; exact hq⟩⟩
      · rw [if_neg he] at hc
        have hbad := Je (Lrd.val c d) (R := q'.rs) he n (acc ++ [v])
        have hm1 := IC (s := s) q' m bx (J ++ [.cells 102 (rrC q'), .cells 46 (vc jNull)])
        have hs1 := tM (s := s) q' m bx (J ++ [.cells 102 (rrC q'), .cells 46 (vc jNull)]) (.cells 102 (rrC q'))
        have hfx : ∀ a b x X, (s.obs ++ a :: b :: x :: X)[s.obs.length + 2]? = some x := fun a b x X => by rw [List.getElem?_append_right (by omega)]; simp
        have hfs : ∀ a b x X o, (s.obs ++ a :: b :: x :: X).set (s.obs.length + 2) o = s.obs ++ a :: b :: o :: X := fun a b x X o => by rw [List.set_append_right _ _ (by omega)]; simp
        have hbf : ∀ J2, (MM s q' m bx J2).bufs = s.bufs ++ bx := fun _ => rfl
        have hgoal : ∀ X, IA s q.L (Lrd.lst (Lrd.val c d) n q'.rs (acc ++ [v])).1 ⟨s.obs ++ (.cells 102 (rrC q') :: .cells 102 (rrC q') :: .cells 46 zL :: X), s.bufs ++ bx⟩ := fun X => ⟨q', X, bx, hf', hL', hbad.symm, he, rfl⟩
        have het : (q'.e = 0) = False := eq_false he
        clear hv ih hfz hbad
        obtain ⟨L', k', n', e', a'⟩ := q'
        simp only at het hpl'
        simp only [rrV, rrC, toV, vc, jNull, cQ, cC] at his hc hm0 hset hm0' hn0' hm1 hs1 hgoal
        simp [h1, h2, h3, h4, h8, h9, h10, h11, h12, hkl, hwk, ↓hm0, hpl, hpl', his, hi', hc, hlen, hlen1, hgj, hgj0, hsj, hsj0, hgn, hgn0, aI, bC, aK, V.one, aB, hpush, ↓hm0', ↓hn0', hset, het, ↓hm1, hs1, hfx, hfs, hbf]
        exact hgoal _
end
section
variable {O : List AObj} {B : List (Nat × Nat × TypeId)} {p m : Nat} {ow : Own} {acc : List (List UInt8 × JV)} {key : List UInt8} {at_ : Int}
set_option maxHeartbeats 1000000 in
theorem Gj (hp : p < O.length) (hm : O[m]? = some (.cells 46 (mkP (.sl ow (cC acc))))) (hpm : p ≠ m) (hacc : acc.length ≤ 1000000) : ∀ (j i : Nat) (x : Rrd) (env : Env), acc.length - i = j → i ≤ acc.length → x.ok →
    env 10 = .ptr m 0 → env 14 = .int .i64 at_ → env 15 = .ptr p 0 → env 16 = .str key → env 17 = .int .i64 i →
    Out (evC G (.loop false af210l0) env ⟨O.set p (.cells 102 (rrC x)), B⟩) (fun ex env' s' => ex = .exit 2 ∧ env' 1 = env 1 ∧ env' 2 = env 2 ∧ env' 3 = env 3 ∧ env' 4 = env 4 ∧ env' 8 = env 8 ∧ env' 9 = env 9 ∧ env' 10 = env 10 ∧ env' 11 = env 11 ∧ env' 12 = env 12 ∧ env' 15 = env 15 ∧ env' 16 = env 16 ∧
      s' = ⟨O.set p (.cells 102 (rrC (if (acc.drop i).any (fun y => decide (y.1 = key)) = true then x.fail at_ 7 else x))), B⟩) := by
  intro j
  induction j with
  | zero =>
    intro i x env hj hi hx h10 h14 h15 h16 h17
    have : i = acc.length := by omega
    subst this
    have hm' : ∀ o, (O.set p o)[m]? = some (.cells 46 (mkP (.sl ow (cC acc)))) := fun o => by rw [List.getElem?_set_ne hpm]; exact hm
    simp only [mkP] at hm'
    refine aG G false _ _ af210l0.eq_1 _ _ _ ?_
    simp [h10, h17, ↓hm', fD]
  | succ j ih =>
    intro i x env hj hi hx h10 h14 h15 h16 h17
    have hlt : i < acc.length := by omega
    have hd := List.drop_eq_getElem_cons hlt
    have hm' : ∀ o, (O.set p o)[m]? = some (.cells 46 (mkP (.sl ow (cC acc)))) := fun o => by rw [List.getElem?_set_ne hpm]; exact hm
    have hp' : ∀ o, (O.set p o)[p]? = some o := fun o => List.getElem?_set_self hp
    have hw : IntKind.i64.wrap ((i : Int) + 1) = ((i + 1 : Nat) : Int) := by rw [aD (by omega) (by omega)]; omega
    have hgt := List.getElem?_eq_getElem hlt
    simp only [mkP] at hm'
    rw [hd]
    generalize hy : acc[i] = y at *
    obtain ⟨ky, vy⟩ := y
    have hti : (cC acc)[i]? = some (.agg (.str ky :: vc vy)) := by rw [rW, hgt]; rfl
    have hti' : (cC acc)[((i : Nat) : Int).toNat]? = some (.agg (.str ky :: vc vy)) := by rw [Int.toNat_natCast]; exact hti
    refine aG G false _ _ af210l0.eq_1 _ _ _ ?_
    by_cases hk : ky = key
    · have hkt := eq_true hk
      have hfl := fun S => lK hx at_ 7 S
      have hnx := fun env => ih (i + 1) (x.fail at_ 7) env (by omega) (by omega) (iR hx _ _)
      have hff : (x.fail at_ 7).fail at_ 7 = x.fail at_ 7 := by
        unfold Rrd.fail
        by_cases he : x.e = 0 <;> simp [he]
      rw [hff, ite_self] at hnx
      simp only [List.any_cons, hk, decide_true, Bool.true_or, if_true]
      have hpl := aE x.L
      generalize x.fail at_ 7 = x2 at *
      obtain ⟨L, k, n, e, a⟩ := x
      obtain ⟨L2, k2, n2, e2, a2⟩ := x2
      simp only at hpl
      simp only [rrV, rrC] at hfl hnx ⊢
      simp [h10, h14, h15, h16, h17, ↓hm', ↓hp', fD, hlt, ↓hti, ↓hti', hkt, hpl, hfl, aI, bC, aK, V.one, aB, hw, List.set_set]
      refine Out.mono (hnx _ (by simp [h10]) (by simp [h14]) (by simp [h15]) (by simp [h16]) (by simp)) ?_
      rintro ex env' s' ⟨rfl, w1, w2, w3, w4, w8, w9, w10, w11, w12, w15, w16, w⟩
      simp at w1 w2 w3 w4 w8 w9 w10 w11 w12 w15 w16
      exact ⟨rfl, w1, w2, w3, w4, w8, w9, w10.trans h10, w11, w12, w15.trans h15, w16.trans h16, w⟩
    · have hkt := eq_false hk
      have hnx := fun env => ih (i + 1) x env (by omega) (by omega) hx
      simp only [List.any_cons, hk, decide_false, Bool.false_or]
      simp [h10, h14, h15, h16, h17, ↓hm', ↓hp', fD, hlt, ↓hti, ↓hti', hkt, hw]
      refine Out.mono (hnx _ (by simp [h10]) (by simp [h14]) (by simp [h15]) (by simp [h16]) (by simp)) ?_
      rintro ex env' s' ⟨rfl, w1, w2, w3, w4, w8, w9, w10, w11, w12, w15, w16, w⟩
      simp at w1 w2 w3 w4 w8 w9 w10 w11 w12 w15 w16
      exact ⟨rfl, w1, w2, w3, w4, w8, w9, w10.trans h10, w11, w12, w15.trans h15, w16.trans h16, w⟩
end
section
variable {c : Bool} {d : Nat} {s : St}
def MO (s : St) (q : Rrd) (acc : List (List UInt8 × JV)) (J : List AObj) : St := MM s q (mkP (.sl (bE s.bufs acc) (cC acc))) (dH (96, 63) acc) J
def OOk (s : St) (L : List Tok) (p : Lrd × List (List UInt8 × JV)) (s' : St) : Prop := ∃ q' J', q'.fine ∧ q'.L = L ∧ q'.rs.over = false ∧ q'.e = 0 ∧ q'.rs.tl = p.1 ∧ s' = MO s q' p.2 J'
def Rrd.key (q : Rrd) (acc : List (List UInt8 × JV)) : Rrd :=
  (if acc.any (fun p => decide (p.1 = q.name.2)) = true then q.name.1.fail q.rs.at_ 7 else q.name.1).must [58]
theorem Jv (q : Rrd) (acc : List (List UInt8 × JV)) : (q.key acc).rs = (q.rs.key acc).1 := by
  obtain ⟨n1, n2⟩ := rO q
  unfold Rrd.key Lrd.key
  rw [EG, n2]
  split
  · rw [tY, n1]
  · rw [n1]
theorem Ez (q : Rrd) (x : List UInt8) : (q.must x).L = q.L := by
  unfold Rrd.must Rrd.form Rrd.fail
  repeat' split
  all_goals rfl
theorem zK (q : Rrd) (p e : Int) : (q.fail p e).L = q.L := by
  unfold Rrd.fail
  split <;> rfl
theorem Ad (q : Rrd) : q.name.1.L = q.L := by
  unfold Rrd.name Rrd.form Rrd.fail
  repeat' split
  all_goals rfl
theorem Ju {q : Rrd} (h : q.ok) (acc : List (List UInt8 × JV)) : (q.key acc).ok ∧ (q.key acc).L = q.L := by
  unfold Rrd.key
  split
  · exact ⟨tV (iR (nI h) _ _) _, by rw [Ez, zK, Ad]⟩
  · exact ⟨tV (nI h) _, by rw [Ez, Ad]⟩
set_option maxHeartbeats 4000000 in
theorem HF (hv : RSp c d) : ∀ (n : Nat) (q : Rrd) (acc : List (List UInt8 × JV)) (J : List AObj) (k : Nat) (env : Env), q.rs.mu < n → k + q.rs.mu ≤ 950 → q.fine → q.e = 0 → acc.length ≤ k →
    env 1 = .int .i64 d → env 2 = .bool c → env 3 = .bool true → env 4 = .ptr s.obs.length 0 → env 8 = .ptr (s.obs.length + 1) 0 → env 9 = .ptr (s.obs.length + 2) 0 → env 10 = .ptr (s.obs.length + 3) 0 → env 11 = .str [125] → env 12 = .int .i64 k →
    Out (evC G (.loop false af210l1) env (MO s q acc J)) (fun ex env' s' => env' 8 = .ptr (s.obs.length + 1) 0 ∧ env' 9 = .ptr (s.obs.length + 2) 0 ∧
      ((ex = .exit 0 ∧ env' 4 = .ptr s.obs.length 0 ∧ env' 10 = .ptr (s.obs.length + 3) 0 ∧ OOk s q.L (Lrd.obj (Lrd.val c d) n q.rs acc) s') ∨ (ex = .ret ∧ IA s q.L (Lrd.obj (Lrd.val c d) n q.rs acc).1 s'))) := by
  intro n
  induction n with
  | zero => intro q acc J k env h; omega
  | succ n ih =>
    intro q acc J k env hn hk hf hq0 hal h1 h2 h3 h4 h8 h9 h10 h11 h12
    have his := fun S => iB hf.ok [125] S
    have hpl := aE q.L
    have hkl : (k : Int) < 1000 := by omega
    have hwk : IntKind.i64.wrap ((k : Int) + 1) = (k : Int) + 1 := aD (by omega) (by omega)
    refine aG G false _ _ af210l1.eq_1 _ _ _ ?_
    rw [Lrd.obj]
    simp only [MO]
    generalize hm : mkP (.sl (bE s.bufs acc) (cC acc)) = m
    generalize hbx : dH (96, 63) acc = bx
    have hm0 := Cu (s := s) q m bx J
    by_cases hi : q.rs.is [125] = true
    · rw [if_pos hi]
      simp only [rrV, rrC] at his hm0
      simp [h1, h2, h3, h4, h8, h9, h10, h11, h12, hkl, ↓hm0, hpl, his, hi]
      exact ⟨q, J, hf, rfl, mF hi, hq0, rfl, by rw [MO, hm, hbx]⟩
    · have hi' : q.rs.is [125] = false := by simpa using hi
      rw [if_neg hi, if_neg (show ¬ q.rs.e ≠ 0 from fun h => h hq0)]
      have hat := fun S => pR hf.ok S
      have hnm := fun S => oU hf.ok S
      have hok1 := nI hf.ok
      obtain ⟨hKok, hKL⟩ := Ju hf.ok acc
      have hKf := zO hf hKok hKL
      have hKrs := Jv q acc
      have hK2 : (q.rs.key acc).2 = q.name.2 := (rO q).2.symm
      rw [hK2, ← hKrs]
      have hkeyeq : q.key acc = (if acc.any (fun p => decide (p.1 = q.name.2)) = true then q.name.1.fail q.rs.at_ 7 else q.name.1).must [58] := rfl
      obtain ⟨v1, v2, v3⟩ := jN c d (q.key acc).rs
      have hmu : (Lrd.val c d (q.key acc).rs).1.mu < q.rs.mu := by
        have hm0 : (q.key acc).rs.mu ≤ q.rs.mu := by rw [hKrs]; exact Hl (fun h => absurd hq0 h) (Ew q.rs acc).length_le
        have hm1 : 1 ≤ q.rs.mu := by unfold Lrd.mu; rw [if_pos (show q.rs.e = 0 from hq0)]; omega
        by_cases hke : (q.key acc).rs.e = 0
        · have := v3 hke; omega
        · have : (Lrd.val c d (q.key acc).rs).1.mu = 0 := by unfold Lrd.mu; rw [if_neg (v1 hke)]
          omega
      have hval := fun S => hv (q.key acc) hKf S
      have hms : ∀ S, call G 68 [rrV (if acc.any (fun p => decide (p.1 = q.name.2)) = true then q.name.1.fail q.rs.at_ 7 else q.name.1), .str [58]] S = some (rrV (q.key acc), S) := fun S => by
        rw [hkeyeq]
        refine tJ ?_ _ _
        split
        · exact iR hok1 _ _
        · exact hok1
      clear hkeyeq hKrs v1 v2 v3
      generalize q.key acc = K at *
      have htw := fun O B p mm hp hmm hpm j i env hj hi => @Gj O B p mm (bE s.bufs acc) acc q.name.2 q.rs.at_ hp hmm hpm (by omega) j i q.name.1 env hj hi hok1
      have htw0 := fun O B p mm hp hmm hpm env => htw O B p mm hp hmm hpm acc.length 0 env (by omega) (by omega)
      simp only [List.drop_zero] at htw0
      generalize hx2 : (if acc.any (fun p => decide (p.1 = q.name.2)) = true then q.name.1.fail q.rs.at_ 7 else q.name.1) = x2 at *
      generalize q.name.1 = x1 at *
      generalize q.name.2 = key at *
      generalize q.rs.at_ = at_ at *
      have hpl1 := aE x1.L
      have hpl2 := aE x2.L
      have hplK := aE K.L
      clear htw
      have hTw : ∀ (env : Env), env 10 = .ptr (s.obs.length + 3) 0 → env 14 = .int .i64 at_ → env 15 = .ptr (s.obs.length + 4 + J.length) 0 → env 16 = .str key → env 17 = .int .i64 0 →
          Out (evC G (.loop false af210l0) env (MM s q m bx (J ++ [.cells 102 (rrC x1)]))) (fun ex env' s' => ex = .exit 2 ∧ env' 1 = env 1 ∧ env' 2 = env 2 ∧ env' 3 = env 3 ∧ env' 4 = env 4 ∧ env' 8 = env 8 ∧ env' 9 = env 9 ∧ env' 10 = env 10 ∧ env' 11 = env 11 ∧ env' 12 = env 12 ∧ env' 15 = env 15 ∧ env' 16 = env 16 ∧
            s' = MM s q m bx (J ++ [.cells 102 (rrC x2)])) := by
        intro env e10 e14 e15 e16 e17
        have hlen1 := yV (s := s) q m bx J (.cells 102 (rrC x1))
        have h3m : (MM s q m bx (J ++ [.cells 102 (rrC x1)])).obs[s.obs.length + 3]? = some (.cells 46 (mkP (.sl (bE s.bufs acc) (cC acc)))) := by rw [hm]; exact Gq _ _ _ _
        have := htw0 (MM s q m bx (J ++ [.cells 102 (rrC x1)])).obs (MM s q m bx (J ++ [.cells 102 (rrC x1)])).bufs (s.obs.length + 4 + J.length) (s.obs.length + 3) (by omega) h3m (by omega) env e10 e14 e15 e16 (by simpa using e17)
        rw [qP, qP] at this
        exact this
      clear htw0
      obtain ⟨q', hc0, hrs, hok', hL'⟩ := hval (MM s K m bx (J ++ [.cells 102 (rrC x2)]))
      clear hval
      have hf' := zO hKf hok' hL'
      have hLq : q'.L = q.L := hL'.trans hKL
      have hfz : fzV (Lrd.val c d K.rs) = if q'.e = 0 then (Lrd.val c d K.rs).2 else jNull := by
        unfold fzV; rw [← hrs]; rfl
      rw [hfz] at hc0
      rw [← hrs] at hmu ⊢
      generalize (Lrd.val c d K.rs).2 = v at *
      have hpl' := aE q'.L
      have hlen2 : ∀ (q0 : Rrd) (a b : AObj), (MM s q0 m bx (J ++ [a, b])).obs.length = s.obs.length + 4 + J.length + 2 := fun q0 a b => by rw [yU]; simp; omega
      have hsetK := fun J2 => uE (s := s) q m bx J2 K
      have hsetq := fun J2 => uE (s := s) K m bx J2 q'
      have h3m : ∀ q0 J2, (MM s q0 m bx J2).obs[s.obs.length + 3]? = some (.cells 46 (mkP (.sl (bE s.bufs acc) (cC acc)))) := fun q0 J2 => by rw [hm]; exact Gq _ _ _ _
      have hm0g := fun q0 J2 => Cu (s := s) q0 m bx J2
      have hgj := fun q0 J2 i => yS (s := s) q0 m bx J J2 i
      have hgj0 := fun q0 J2 => yT (s := s) q0 m bx J J2
      have hsj := fun q0 J2 i o => yW (s := s) q0 m bx J J2 i o
      have hsj0 := fun q0 J2 o => qP (s := s) q0 m bx J J2 o
      have hpush := fun q0 J1 J2 => Ed (s := s) q0 m bx J1 J2
      have hlen := fun q0 => yU (s := s) q0 m bx J
      have hlen1 := fun q0 a => yV (s := s) q0 m bx J a
      by_cases he : q'.e = 0
      · rw [if_pos he] at hc0
        have hnx := fun env => ih q' (acc ++ [(key, v)]) (J ++ [.cells 102 (rrC x2), .cells 102 (rrC q'), .cells 46 (vc v)]) (k + 1) env (by omega) (by omega) hf' he (by simp; omega)
        simp only [MO] at hnx
        have hroom : iF = 140737488355328 := by decide
        have hap : ∀ o, gM false 6 (96, 63) (.sl (bE s.bufs acc) (cC acc)) (.sl o [pv (key, v)]) (MM s q' m bx (J ++ [.cells 102 (rrC x2), .cells 102 (rrC q'), .cells 46 (vc v)])) = some (.sl (.buf s.bufs.length) (cC acc ++ [pv (key, v)]), ⟨(MM s q' m bx (J ++ [.cells 102 (rrC x2), .cells 102 (rrC q'), .cells 46 (vc v)])).obs, s.bufs ++ [(acc.length + 1, 96, 63)]⟩) := fun o => by
          rw [← hbx]
          exact mV cC rfl fD 6 96 63 o (pv (key, v)) xL (by simp [pv]) acc (by rw [hroom]; omega) _ s.bufs
        have hst : (⟨(MM s q' m bx (J ++ [.cells 102 (rrC x2), .cells 102 (rrC q'), .cells 46 (vc v)])).obs.set (s.obs.length + 3) (.cells 46 [.int .i64 5, .int .i64 0, .str [], .sl .nil [], .sl (.buf s.bufs.length) (cC acc ++ [pv (key, v)])]), s.bufs ++ [(acc.length + 1, 96, 63)]⟩ : St) = MM s q' (mkP (.sl (bE s.bufs (acc ++ [(key, v)])) (cC (acc ++ [(key, v)])))) (dH (96, 63) (acc ++ [(key, v)])) (J ++ [.cells 102 (rrC x2), .cells 102 (rrC q'), .cells 46 (vc v)]) := by
          have hne : acc ++ [(key, v)] ≠ [] := by simp
          simp only [mkP, bE, dH, hne, if_false, Cj, List.length_append, List.length_cons, List.length_nil]
          exact Ee q' m bx _ _ _
        rw [hLq] at hnx
        clear hf hKok hKL hKf hL' hrs hfz hf' hok' hLq hok1
        obtain ⟨k2, n2, s2, ll, ff⟩ := v
        obtain ⟨L', k', n', e', a'⟩ := q'
        simp only at he hpl'
        subst he
        simp only [rrV, rrC, toV, vc, mkP, pv] at his hat hnm hms hTw hc0 hsetK hsetq h3m hm0g hap hst hnx
        simp [h1, h2, h3, h4, h8, h9, h10, h11, h12, hkl, hwk, ↓hm0g, hpl, his, hi', hat, hnm, hlen, hlen1, hlen2, ↓hgj, ↓hgj0, hsj, hsj0, hpush, aI, bC, aK, V.one, aB]
        refine Out.mono (hTw _ (by simp [h10]) (by simp) (by simp) (by simp) (by simp)) ?_
        rintro ex env1 s1 ⟨rfl, w1, w2, w3, w4, w8, w9, w10, w11, w12, w15, w16, rfl⟩
        simp [h1, h2, h3, h4, h8, h9, h10, h11, h12] at w1 w2 w3 w4 w8 w9 w10 w11 w12 w15 w16
        simp [w1, w2, w3, w4, w8, w9, w10, w11, w12, w15, w16, hkl, hwk, ↓hm0g, hpl2, hplK, hms, hsetK, hsetq, hc0, hlen, hlen1, hlen2, ↓hgj, ↓hgj0, hsj, hsj0, hpush, ↓h3m, aI, bC, aK, V.one, aB, hap, hst]
        refine Out.mono (hnx _ (by simp [w1]) (by simp [w2]) (by simp [w3]) (by simp [w4]) (by simp [w8]) (by simp [w9]) (by simp [w10]) (by simp [w11]) (by simp)) ?_
        rintro ex env' s' ⟨w8, w9, ⟨rfl, w4, w10, hq⟩ | ⟨rfl, hq⟩⟩
        · exact ⟨w8, w9, .inl ⟨rfl, w4, w10, hq⟩⟩
        · exact ⟨w8, w9, .inr ⟨rfl, hq⟩⟩
      · rw [if_neg he] at hc0
        have hbad := Jn (Lrd.val c d) (R := q'.rs) he n (acc ++ [(key, v)])
        have hm1 := IC (s := s) q' m bx (J ++ [.cells 102 (rrC x2), .cells 102 (rrC q'), .cells 46 (vc jNull)])
        have hs1 := tM (s := s) q' m bx (J ++ [.cells 102 (rrC x2), .cells 102 (rrC q'), .cells 46 (vc jNull)]) (.cells 102 (rrC q'))
        have hfx : ∀ a b x X, (s.obs ++ a :: b :: x :: X)[s.obs.length + 2]? = some x := fun a b x X => by rw [List.getElem?_append_right (by omega)]; simp
        have hfs : ∀ a b x X o, (s.obs ++ a :: b :: x :: X).set (s.obs.length + 2) o = s.obs ++ a :: b :: o :: X := fun a b x X o => by rw [List.set_append_right _ _ (by omega)]; simp
        have hbf : ∀ J2, (MM s q' m bx J2).bufs = s.bufs ++ bx := fun _ => rfl
        have hgoal : ∀ X, IA s q.L (Lrd.obj (Lrd.val c d) n q'.rs (acc ++ [(key, v)])).1 ⟨s.obs ++ (.cells 102 (rrC q') :: .cells 102 (rrC q') :: .cells 46 zL :: X), s.bufs ++ bx⟩ := fun X => ⟨q', X, bx, hf', hLq, hbad.symm, he, rfl⟩
        have het : (q'.e = 0) = False := eq_false he
        clear hv ih hfz hbad hf hKok hKL hKf hL' hrs hf' hok' hLq hok1
        obtain ⟨L', k', n', e', a'⟩ := q'
        simp only at het hpl'
        simp only [rrV, rrC, toV, vc, jNull, cQ, cC] at his hat hnm hms hTw hc0 hsetK hsetq hm0g hm1 hs1 hgoal
        simp [h1, h2, h3, h4, h8, h9, h10, h11, h12, hkl, hwk, ↓hm0g, hpl, his, hi', hat, hnm, hlen, hlen1, hlen2, ↓hgj, ↓hgj0, hsj, hsj0, hpush, aI, bC, aK, V.one, aB]
        refine Out.mono (hTw _ (by simp [h10]) (by simp) (by simp) (by simp) (by simp)) ?_
        rintro ex env1 s1 ⟨rfl, w1, w2, w3, w4, w8, w9, w10, w11, w12, w15, w16, rfl⟩
        simp [h1, h2, h3, h4, h8, h9, h10, h11, h12] at w1 w2 w3 w4 w8 w9 w10 w11 w12 w15 w16
        simp [w1, w2, w3, w4, w8, w9, w10, w11, w12, w15, w16, hkl, hwk, ↓hm0g, hpl2, hplK, hpl', hms, hsetK, hsetq, hc0, hlen, hlen1, hlen2, ↓hgj, ↓hgj0, hsj, hsj0, hpush, aI, bC, aK, V.one, aB, het, ↓hm1, hs1, hfx, hfs, hbf]
        exact hgoal _
end
section
variable {c : Bool} {d : Nat} {q : Rrd}
theorem Fv (s : St) (q' : Rrd) (X : List AObj) (bx : List (Nat × Nat × TypeId)) (ow : Own) (acc : List JV) :
    fin false s ⟨s.obs ++ X, s.bufs ++ bx⟩ (.tup [.agg (rrC q'), .agg [.int .i64 4, .int .i64 0, .str [], .sl ow (cQ acc), .sl .nil []]]) = (.tup [rrV q', toV (.mk 4 0 [] acc [])], s) := by
  have h1 := aE q'.L
  have h2 := bT q'.L
  rw [qV _ _ _ _ (by simp [rrC, h1, h2])]
  simp [rrV, rrC, h1, vc, cC]
theorem Fw (s : St) (q' : Rrd) (X : List AObj) (bx : List (Nat × Nat × TypeId)) (ow : Own) (acc : List (List UInt8 × JV)) :
    fin false s ⟨s.obs ++ X, s.bufs ++ bx⟩ (.tup [.agg (rrC q'), .agg [.int .i64 5, .int .i64 0, .str [], .sl .nil [], .sl ow (cC acc)]]) = (.tup [rrV q', toV (.mk 5 0 [] [] acc)], s) := by
  have h1 := aE q'.L
  have h2 := bT q'.L
  rw [qV _ _ _ _ (by simp [rrC, h1, h2])]
  simp [rrV, rrC, h1, vc, cQ]
theorem yB (s : St) (q' : Rrd) (X : List AObj) (bx : List (Nat × Nat × TypeId)) :
    fin false s ⟨s.obs ++ X, s.bufs ++ bx⟩ (.tup [.agg (rrC q'), .agg zL]) = (.tup [rrV q', toV jNull], s) := by
  have h1 := aE q'.L
  have h2 := bT q'.L
  rw [qV _ _ _ _ (by simp [rrC, h1, h2])]
  simp [rrV, rrC, h1, jNull, vc, cQ, cC]
def sX (s : St) (L : List Tok) (R : Lrd) (w : JV) (v : V) (s' : St) : Prop := s' = s ∧ ∃ q' : Rrd, v = .tup [rrV q', toV (if q'.e = 0 then w else jNull)] ∧ q'.rs = R ∧ q'.ok ∧ q'.L = L
set_option maxHeartbeats 2000000 in
theorem Dr (hv : RSp c d) (hf : q.fine) (hq0 : q.e = 0) {n : Nat} (hn : q.rs.mu < n) (s : St) :
    ∃ q' : Rrd, call G 210 [rrV q, .int .i64 d, .bool c, .bool false] s = some (.tup [rrV q', toV (if q'.e = 0 then .mk 4 0 [] (Lrd.lst (Lrd.val c d) n q.rs []).2 [] else jNull)], s) ∧ q'.rs = (Lrd.lst (Lrd.val c d) n q.rs []).1 ∧ q'.ok ∧ q'.L = q.L := by
  have hmu := Er hf
  have hlp := fun env => FL (s := s) hv n q [] [] 0 env hn (by omega) hf hq0 (by simp)
  generalize hp : Lrd.lst (Lrd.val c d) n q.rs [] = p at *
  obtain ⟨R', acc'⟩ := p
  simp only at hlp
  have key : ∃ r, call G 210 [rrV q, .int .i64 d, .bool c, .bool false] s = some r ∧ sX s q.L R' (.mk 4 0 [] acc' []) r.1 r.2 := by
    refine kI (G := G) (f := 210) (F := af210) (T := sX s q.L R' (.mk 4 0 [] acc' [])) rfl rfl ?_
    have hpl := aE q.L
    have hst0 : (⟨s.obs ++ [.cells 102 (rrC q), .cells 102 zR, .cells 46 zL, .cells 46 [.int .i64 4, .int .i64 0, .str [], .sl .nil [], .sl .nil []]], s.bufs⟩ : St) = ML s q [] [] := by
      simp [ML, MM, mkL, bE, dH, cQ]
    have hL0 := hpl
    clear hf hq0 hn hmu hp
    obtain ⟨L, k, nn, e, a⟩ := q
    simp only at hpl
    simp only [rrV, rrC] at hst0 ⊢
    simp [af210, af210b, hpl, aI, bC, aK, V.one, aB, hst0]
    refine Out.mono (hlp _ (by simp) (by simp) (by simp) (by simp) (by simp) (by simp) (by simp) (by simp) (by simp)) ?_
    rintro ex env' s' ⟨w8, w9, ⟨rfl, w4, w10, hq⟩ | ⟨rfl, hq⟩⟩
    · obtain ⟨q2, J', x1, x2, x3, x4, x5, rfl⟩ := hq
      have hset : ∀ m bx J2, (⟨(MM s q2 m bx J2).obs.set s.obs.length (.cells 102 (rrC q2.inc)), s.bufs ++ bx⟩ : St) = MM s q2.inc m bx J2 := fun m bx J2 => uE (s := s) q2 m bx J2 q2.inc
      have h0 := fun q m bx J2 => Cu (s := s) q m bx J2
      have h1 := fun q m bx J2 => IC (s := s) q m bx J2
      have h3 := fun q m bx J2 => Gq (s := s) q m bx J2
      have hs1 := fun m bx J2 => tM (s := s) q2.inc m bx J2
      have hfx : ∀ a b x X, (s.obs ++ a :: b :: x :: X)[s.obs.length + 2]? = some x := fun a b x X => by rw [List.getElem?_append_right (by omega)]; simp
      have hfs : ∀ a b x X o, (s.obs ++ a :: b :: x :: X).set (s.obs.length + 2) o = s.obs ++ a :: b :: o :: X := fun a b x X o => by rw [List.set_append_right _ _ (by omega)]; simp
      have hbf : ∀ q m bx J2, (MM s q m bx J2).bufs = s.bufs ++ bx := fun _ _ _ _ => rfl
      have hw : IntKind.i64.wrap ((q2.k : Int) + 1) = (q2.k : Int) + 1 := aD (by omega) (by have := x1.ok.2.1; have := x1.ok.2.2; omega)
      have hfin := fun X bx ow acc => Fv s q2.inc X bx ow acc
      have hT : sX s L R' (.mk 4 0 [] acc' []) (.tup [rrV q2.inc, toV (.mk 4 0 [] acc' [])]) s := by
        refine ⟨rfl, q2.inc, ?_, by rw [jJ]; exact x5, nH x1.ok x3, x2⟩
        rw [if_pos (show q2.inc.e = 0 from x4)]
      have hpl2 := aE q2.L
      simp only [ML]
      generalize hm : dH (80, 46) acc' = bx
      clear x1 x2 x3 x4 x5 hv hlp
      obtain ⟨L2, k2, n2, e2, a2⟩ := q2
      simp only at hw hpl2
      simp only [rrV, rrC, Rrd.inc, mkL] at hset h0 hs1 hfin hT ⊢
      push_cast at hset hs1 hfin hT
      simp [w4, w8, w9, w10, ↓h0, hw, hset, ↓h1, ↓h3, hs1, hfx, hfs, hbf, aI, aK, V.one, aB, aV, aQ, aP, bD, aY, aR, cR]
      exact ⟨_, _, hfin _ _ _ _, hT⟩
    · obtain ⟨q2, X, bx, x1, x2, x3, x4, rfl⟩ := hq
      have hfin := yB s q2 (.cells 102 (rrC q2) :: .cells 102 (rrC q2) :: .cells 46 zL :: X) bx
      have g1 : ∀ a b X, (s.obs ++ a :: b :: X)[s.obs.length + 1]? = some b := fun a b X => by rw [List.getElem?_append_right (by omega)]; simp
      have g2 : ∀ a b x X, (s.obs ++ a :: b :: x :: X)[s.obs.length + 2]? = some x := fun a b x X => by rw [List.getElem?_append_right (by omega)]; simp
      have hT : sX s L R' (.mk 4 0 [] acc' []) (.tup [rrV q2, toV jNull]) s := by
        refine ⟨rfl, q2, ?_, x3, x1.ok, x2⟩
        rw [if_neg x4]
      simp only [rrV, rrC] at hfin hT ⊢
      simp [w8, w9, g1, g2]
      exact ⟨_, _, hfin, hT⟩
  obtain ⟨⟨v, s'⟩, hc, rfl, q', rfl, h1, h2, h3⟩ := key
  exact ⟨q', hc, h1, h2, h3⟩
set_option maxHeartbeats 2000000 in
theorem FN (hv : RSp c d) (hf : q.fine) (hq0 : q.e = 0) {n : Nat} (hn : q.rs.mu < n) (s : St) :
    ∃ q' : Rrd, call G 210 [rrV q, .int .i64 d, .bool c, .bool true] s = some (.tup [rrV q', toV (if q'.e = 0 then .mk 5 0 [] [] (Lrd.obj (Lrd.val c d) n q.rs []).2 else jNull)], s) ∧ q'.rs = (Lrd.obj (Lrd.val c d) n q.rs []).1 ∧ q'.ok ∧ q'.L = q.L := by
  have hmu := Er hf
  have hlp := fun env => HF (s := s) hv n q [] [] 0 env hn (by omega) hf hq0 (by simp)
  generalize hp : Lrd.obj (Lrd.val c d) n q.rs [] = p at *
  obtain ⟨R', acc'⟩ := p
  simp only at hlp
  have key : ∃ r, call G 210 [rrV q, .int .i64 d, .bool c, .bool true] s = some r ∧ sX s q.L R' (.mk 5 0 [] [] acc') r.1 r.2 := by
    refine kI (G := G) (f := 210) (F := af210) (T := sX s q.L R' (.mk 5 0 [] [] acc')) rfl rfl ?_
    have hpl := aE q.L
    have hst0 : (⟨s.obs ++ [.cells 102 (rrC q), .cells 102 zR, .cells 46 zL, .cells 46 [.int .i64 5, .int .i64 0, .str [], .sl .nil [], .sl .nil []]], s.bufs⟩ : St) = MO s q [] [] := by
      simp [MO, MM, mkP, bE, dH, cC]
    have hL0 := hpl
    clear hf hq0 hn hmu hp
    obtain ⟨L, k, nn, e, a⟩ := q
    simp only at hpl
    simp only [rrV, rrC] at hst0 ⊢
    simp [af210, af210b, hpl, aI, bC, aK, V.one, aB, hst0]
    refine Out.mono (hlp _ (by simp) (by simp) (by simp) (by simp) (by simp) (by simp) (by simp) (by simp) (by simp)) ?_
    rintro ex env' s' ⟨w8, w9, ⟨rfl, w4, w10, hq⟩ | ⟨rfl, hq⟩⟩
    · obtain ⟨q2, J', x1, x2, x3, x4, x5, rfl⟩ := hq
      have hset : ∀ m bx J2, (⟨(MM s q2 m bx J2).obs.set s.obs.length (.cells 102 (rrC q2.inc)), s.bufs ++ bx⟩ : St) = MM s q2.inc m bx J2 := fun m bx J2 => uE (s := s) q2 m bx J2 q2.inc
      have h0 := fun q m bx J2 => Cu (s := s) q m bx J2
      have h1 := fun q m bx J2 => IC (s := s) q m bx J2
      have h3 := fun q m bx J2 => Gq (s := s) q m bx J2
      have hs1 := fun m bx J2 => tM (s := s) q2.inc m bx J2
      have hfx : ∀ a b x X, (s.obs ++ a :: b :: x :: X)[s.obs.length + 2]? = some x := fun a b x X => by rw [List.getElem?_append_right (by omega)]; simp
      have hfs : ∀ a b x X o, (s.obs ++ a :: b :: x :: X).set (s.obs.length + 2) o = s.obs ++ a :: b :: o :: X := fun a b x X o => by rw [List.set_append_right _ _ (by omega)]; simp
      have hbf : ∀ q m bx J2, (MM s q m bx J2).bufs = s.bufs ++ bx := fun _ _ _ _ => rfl
      have hw : IntKind.i64.wrap ((q2.k : Int) + 1) = (q2.k : Int) + 1 := aD (by omega) (by have := x1.ok.2.1; have := x1.ok.2.2; omega)
      have hfin := fun X bx ow acc => Fw s q2.inc X bx ow acc
      have hT : sX s L R' (.mk 5 0 [] [] acc') (.tup [rrV q2.inc, toV (.mk 5 0 [] [] acc')]) s := by
        refine ⟨rfl, q2.inc, ?_, by rw [jJ]; exact x5, nH x1.ok x3, x2⟩
        rw [if_pos (show q2.inc.e = 0 from x4)]
      have hpl2 := aE q2.L
      simp only [MO]
      generalize hm : dH (96, 63) acc' = bx
      clear x1 x2 x3 x4 x5 hv hlp
      obtain ⟨L2, k2, n2, e2, a2⟩ := q2
      simp only at hw hpl2
      simp only [rrV, rrC, Rrd.inc, mkP] at hset h0 hs1 hfin hT ⊢
      push_cast at hset hs1 hfin hT
      simp [w4, w8, w9, w10, ↓h0, hw, hset, ↓h1, ↓h3, hs1, hfx, hfs, hbf, aI, aK, V.one, aB, aV, aQ, aP, bD, aY, aR, cR]
      exact ⟨_, _, hfin _ _ _ _, hT⟩
    · obtain ⟨q2, X, bx, x1, x2, x3, x4, rfl⟩ := hq
      have hfin := yB s q2 (.cells 102 (rrC q2) :: .cells 102 (rrC q2) :: .cells 46 zL :: X) bx
      have g1 : ∀ a b X, (s.obs ++ a :: b :: X)[s.obs.length + 1]? = some b := fun a b X => by rw [List.getElem?_append_right (by omega)]; simp
      have g2 : ∀ a b x X, (s.obs ++ a :: b :: x :: X)[s.obs.length + 2]? = some x := fun a b x X => by rw [List.getElem?_append_right (by omega)]; simp
      have hT : sX s L R' (.mk 5 0 [] [] acc') (.tup [rrV q2, toV jNull]) s := by
        refine ⟨rfl, q2, ?_, x3, x1.ok, x2⟩
        rw [if_neg x4]
      simp only [rrV, rrC] at hfin hT ⊢
      simp [w8, w9, g1, g2]
      exact ⟨_, _, hfin, hT⟩
  obtain ⟨⟨v, s'⟩, hc, rfl, q', rfl, h1, h2, h3⟩ := key
  exact ⟨q', hc, h1, h2, h3⟩
end
theorem qJ (s : St) (q' : Rrd) (X : List AObj) (k n : Int) (x : List UInt8) :
    fin false s ⟨s.obs ++ X, s.bufs⟩ (.tup [.agg (rrC q'), .agg [.int .i64 k, .int .i64 n, .str x, .sl .nil [], .sl .nil []]]) = (.tup [rrV q', toV (.mk k n x [] [])], s) := by
  have h1 := aE q'.L
  have h2 := bT q'.L
  rw [bS _ _ _ (by simp [rrC, h1, h2])]
  simp [rrV, rrC, h1, vc, cQ, cC]
theorem Jy (s : St) (q' : Rrd) (X : List AObj) (w : JV) :
    fin false s ⟨s.obs ++ X, s.bufs⟩ (.tup [.agg (rrC q'), .agg (vc w)]) = (.tup [rrV q', toV w], s) := by
  have h1 := aE q'.L
  have h2 := bT q'.L
  rw [bS _ _ _ (by simp [rrC, h1, h2])]
  simp [rrV, rrC, h1]
section
variable {c : Bool} {q : Rrd} {z : Int}
theorem yJ (h : q.ok) (ho : q.rs.over = true) (s : St) : call G 132 [rrV q, .int .i64 z, .bool c] s = some (.tup [rrV q.form, toV jNull], s) := by
  have hpl := aE q.L
  have hud := bT q.L
  have h1 := eN h
  have h2 := jV h
  have hf := fun X => qJ s q.form X
  generalize q.form = q2 at *
  have hpl2 := aE q2.L
  refine aC (F := af132) rfl rfl ?_
  obtain ⟨L, k, n, e, a⟩ := q
  obtain ⟨L2, k2, n2, e2, a2⟩ := q2
  simp only at hpl hud hpl2
  simp only [rrV, rrC, vc, toV] at h1 h2 hf ⊢
  simp [af132, af132b, hpl, hpl2, hud, h1, h2, ho, aI, aK, aB, V.one, hf, bB, aV, aQ, aP, bD, aY, aR, cR]
  rfl
theorem FT (h : q.ok) (ho : q.rs.over = false) (hz : z < 1) (s : St) : call G 132 [rrV q, .int .i64 z, .bool c] s = some (.tup [rrV (q.fail q.rs.at_ 5), toV jNull], s) := by
  have hpl := aE q.L
  have hud := bT q.L
  have h1 := eN h
  have h2 := pR h
  have h3 := lK h q.rs.at_ 5
  have hf := fun X => qJ s (q.fail q.rs.at_ 5) X
  generalize q.rs.at_ = p at *
  generalize q.fail p 5 = q2 at *
  have hpl2 := aE q2.L
  refine aC (F := af132) rfl rfl ?_
  obtain ⟨L, k, n, e, a⟩ := q
  obtain ⟨L2, k2, n2, e2, a2⟩ := q2
  simp only at hpl hud hpl2
  simp only [rrV, rrC, vc, toV] at h1 h2 h3 hf ⊢
  simp [af132, af132b, hpl, hpl2, hud, h1, h2, h3, ho, hz, aI, aK, aB, V.one, hf, bB, aV, aQ, aP, bD, aY, aR, cR]
  rfl
theorem HL (h : q.ok) (ho : q.rs.over = false) (hz : ¬ z < 1) {t : Tok} (hk : q.k < q.L.length) (hg : q.L[q.k]? = some t) (k3 : t.k = 3) (hnum : By t.s) (s : St) :
    call G 132 [rrV q, .int .i64 z, .bool c] s = some (.tup [rrV q.inc, toV (.mk 2 (Bx t.s) [] [] [])], s) := by
  have hpl := aE q.L
  have hud := bT q.L
  have h1 := eN h
  have h2 := fun s => Bz hnum s
  have hf := fun X => qJ s q.inc X
  have hgt := kN hg
  have hgt' := hgt
  rw [Int.toNat_natCast] at hgt'
  have hw : IntKind.i64.wrap ((q.k : Int) + 1) = (q.k : Int) + 1 := aD (by omega) (by have := h.2.1; have := h.2.2; omega)
  refine aC (F := af132) rfl rfl ?_
  obtain ⟨L, k, n, e, a⟩ := q
  obtain ⟨tk, ts, ta⟩ := t
  simp only at hpl hud hgt hgt' hw k3 hk
  subst k3
  simp only [rrV, rrC, Rrd.inc, vc, toV] at h1 hf ⊢
  push_cast at hf ⊢
  simp [af132, af132b, hpl, hud, h1, h2, ho, hz, ↓hgt, ↓hgt', fO, hw, aI, bC, aK, aB, V.one, hf, bB, aV, aQ, aP, bD, aY, aR, cR]
theorem HN (h : q.ok) (ho : q.rs.over = false) (hz : ¬ z < 1) {t : Tok} (hk : q.k < q.L.length) (hg : q.L[q.k]? = some t) (k3 : t.k = 4) (s : St) :
    call G 132 [rrV q, .int .i64 z, .bool c] s = some (.tup [rrV q.inc, toV (.mk 3 0 t.s [] [])], s) := by
  have hpl := aE q.L
  have hud := bT q.L
  have h1 := eN h
  have hf := fun X => qJ s q.inc X
  have hgt := kN hg
  have hgt' := hgt
  rw [Int.toNat_natCast] at hgt'
  have hw : IntKind.i64.wrap ((q.k : Int) + 1) = (q.k : Int) + 1 := aD (by omega) (by have := h.2.1; have := h.2.2; omega)
  refine aC (F := af132) rfl rfl ?_
  obtain ⟨L, k, n, e, a⟩ := q
  obtain ⟨tk, ts, ta⟩ := t
  simp only at hpl hud hgt hgt' hw k3 hk
  subst k3
  simp only [rrV, rrC, Rrd.inc, vc, toV] at h1 hf ⊢
  push_cast at hf ⊢
  simp [af132, af132b, hpl, hud, h1, ho, hz, ↓hgt, ↓hgt', fO, hw, aI, bC, aK, aB, V.one, hf, bB, aV, aQ, aP, bD, aY, aR, cR]
theorem FS (h : q.ok) (ho : q.rs.over = false) (hz : ¬ z < 1) {t : Tok} (hk : q.k < q.L.length) (hg : q.L[q.k]? = some t) (k3 : t.k = 2) (s : St) :
    call G 132 [rrV q, .int .i64 z, .bool c] s = some (.tup [rrV q.inc, toV (iP t.s)], s) := by
  have hpl := aE q.L
  have hud := bT q.L
  have h1 := eN h
  have hf := fun X => qJ s q.inc X
  have hgt := kN hg
  have hgt' := hgt
  rw [Int.toNat_natCast] at hgt'
  have hw : IntKind.i64.wrap ((q.k : Int) + 1) = (q.k : Int) + 1 := aD (by omega) (by have := h.2.1; have := h.2.2; omega)
  refine aC (F := af132) rfl rfl ?_
  obtain ⟨L, k, n, e, a⟩ := q
  obtain ⟨tk, ts, ta⟩ := t
  simp only at hpl hud hgt hgt' hw k3 hk
  subst k3
  simp only [rrV, rrC, Rrd.inc, vc, toV] at h1 hf ⊢
  push_cast at hf ⊢
  by_cases e1 : ts = yP
  · subst e1
    have hn : iP yP = jNull := rfl
    rw [hn]
    simp only [yP] at hgt hgt'
    simp [af132, af132b, hpl, hud, h1, ho, hz, ↓hgt, ↓hgt', fO, hw, aI, bC, aK, aB, V.one, hf, bB, aV, aQ, aP, bD, aY, aR, cR]
    rfl
  by_cases e2 : ts = yQ
  · subst e2
    have hn : iP yQ = .mk 1 1 [] [] [] := rfl
    rw [hn]
    simp only [yQ] at hgt hgt'
    simp [af132, af132b, hpl, hud, h1, ho, hz, ↓hgt, ↓hgt', fO, hw, aI, bC, aK, aB, V.one, hf, bB, aV, aQ, aP, bD, aY, aR, cR]
    rfl
  by_cases e3 : ts = sW
  · subst e3
    have hn : iP sW = .mk 1 0 [] [] [] := rfl
    rw [hn]
    simp only [sW] at hgt hgt'
    simp [af132, af132b, hpl, hud, h1, ho, hz, ↓hgt, ↓hgt', fO, hw, aI, bC, aK, aB, V.one, hf, bB, aV, aQ, aP, bD, aY, aR, cR]
    rfl
  · have hn : iP ts = .mk 6 0 ts [] [] := by unfold iP; rw [if_neg e1, if_neg e2, if_neg e3]
    have f1 : (ts = [110, 117, 108, 108]) = False := eq_false e1
    have f2 : (ts = [116, 114, 117, 101]) = False := eq_false e2
    have f3 : (ts = [102, 97, 108, 115, 101]) = False := eq_false e3
    rw [hn]
    simp [af132, af132b, hpl, hud, h1, ho, hz, f1, f2, f3, ↓hgt, ↓hgt', fO, hw, aI, bC, aK, aB, V.one, hf, bB, aV, aQ, aP, bD, aY, aR, cR]
    rfl
theorem yH (h : q.ok) (ho : q.rs.over = false) (hz : ¬ z < 1) {t : Tok} (hk : q.k < q.L.length) (hg : q.L[q.k]? = some t) (k3 : t.k = 1) (n1 : t.s ≠ [91]) (n2 : t.s ≠ [123]) (n3 : t.s ≠ [36] ∨ c = true) (s : St) :
    call G 132 [rrV q, .int .i64 z, .bool c] s = some (.tup [rrV q.form, toV jNull], s) := by
  have hpl := aE q.L
  have hud := bT q.L
  have h1 := eN h
  have h2 := jV h
  have hf := fun X => qJ s q.form X
  generalize q.form = q2 at *
  have hpl2 := aE q2.L
  have hgt := kN hg
  have hgt' := hgt
  rw [Int.toNat_natCast] at hgt'
  have hw : IntKind.i64.wrap ((q.k : Int) + 1) = (q.k : Int) + 1 := aD (by omega) (by have := h.2.1; have := h.2.2; omega)
  refine aC (F := af132) rfl rfl ?_
  obtain ⟨L, k, n, e, a⟩ := q
  obtain ⟨L2, k2, n2', e2, a2⟩ := q2
  obtain ⟨tk, ts, ta⟩ := t
  simp only at hpl hpl2 hud hgt hgt' hw k3 hk n1 n2 n3
  subst k3
  simp only [rrV, rrC, vc, toV] at h1 h2 hf ⊢
  have f1 := eq_false n1
  have f2 := eq_false n2
  by_cases e3 : ts = [36]
  · have hc : c = true := n3.resolve_left (fun h => h e3)
    subst hc
    subst e3
    simp [af132, af132b, hpl, hpl2, hud, h1, h2, ho, hz, ↓hgt, ↓hgt', fO, hw, aI, bC, aK, aB, V.one, hf, bB, aV, aQ, aP, bD, aY, aR, cR]
    rfl
  · have f3 := eq_false e3
    simp [af132, af132b, hpl, hpl2, hud, h1, h2, ho, hz, f1, f2, f3, ↓hgt, ↓hgt', fO, hw, aI, bC, aK, aB, V.one, hf, bB, aV, aQ, aP, bD, aY, aR, cR]
    rfl
theorem HM (h : q.ok) (ho : q.rs.over = false) (hz : ¬ z < 1) {t : Tok} (hk : q.k < q.L.length) (hg : q.L[q.k]? = some t) (k3 : t.k = 1) (n3 : t.s = [36]) (s : St) :
    call G 132 [rrV q, .int .i64 z, .bool false] s = some (.tup [rrV q.inc.name.1, toV (if q.inc.name.1.e = 0 then .mk 7 0 q.inc.name.2 [] [] else jNull)], s) := by
  have hpl := aE q.L
  have hud := bT q.L
  have h1 := eN h
  have h2 := oU (nH h ho)
  have hf := fun X => qJ s q.inc.name.1 X
  generalize q.inc.name = N at *
  obtain ⟨q2, x⟩ := N
  simp only at h2 hf
  have hpl2 := aE q2.L
  have hgt := kN hg
  have hgt' := hgt
  rw [Int.toNat_natCast] at hgt'
  have hw : IntKind.i64.wrap ((q.k : Int) + 1) = (q.k : Int) + 1 := aD (by omega) (by have := h.2.1; have := h.2.2; omega)
  refine aC (F := af132) rfl rfl ?_
  obtain ⟨L, k, n, e, a⟩ := q
  obtain ⟨L2, k2, n2', e2, a2⟩ := q2
  obtain ⟨tk, ts, ta⟩ := t
  simp only at hpl hpl2 hud hgt hgt' hw k3 hk n3
  subst k3
  subst n3
  simp only [rrV, rrC, Rrd.inc, vc, toV] at h1 h2 hf ⊢
  push_cast at h2
  by_cases he : e2 = 0
  · subst he
    simp [af132, af132b, hpl, hpl2, hud, h1, h2, ho, hz, ↓hgt, ↓hgt', fO, hw, aI, bC, aK, aB, V.one, hf, bB, aV, aQ, aP, bD, aY, aR, cR]
    rfl
  · have he' := eq_false he
    simp [af132, af132b, hpl, hpl2, hud, h1, h2, ho, hz, he', ↓hgt, ↓hgt', fO, hw, aI, bC, aK, aB, V.one, hf, bB, aV, aQ, aP, bD, aY, aR, cR]
    rfl
theorem yI (h : q.ok) (ho : q.rs.over = false) {d : Nat} (hd : d ≤ 1000) {t : Tok} (hk : q.k < q.L.length) (hg : q.L[q.k]? = some t) (k3 : t.k = 1) (n3 : t.s = [91] ∨ t.s = [123]) {q2 : Rrd} {w : JV} (s : St)
    (h2 : ∀ s, call G 210 [rrV q.inc, .int .i64 d, .bool c, .bool (decide (t.s = [123]))] s = some (.tup [rrV q2, toV w], s)) :
    call G 132 [rrV q, .int .i64 ((d : Int) + 1), .bool c] s = some (.tup [rrV q2, toV w], s) := by
  have hpl := aE q.L
  have hud := bT q.L
  have h1 := eN h
  have hf := fun X => Jy s q2 X w
  have hpl2 := aE q2.L
  have hgt := kN hg
  have hgt' := hgt
  rw [Int.toNat_natCast] at hgt'
  have hw : IntKind.i64.wrap ((q.k : Int) + 1) = (q.k : Int) + 1 := aD (by omega) (by have := h.2.1; have := h.2.2; omega)
  have hwd : IntKind.i64.wrap (d : Int) = (d : Int) := aD (by omega) (by omega)
  have hz : ¬ (d : Int) + 1 < 1 := by omega
  refine aC (F := af132) rfl rfl ?_
  obtain ⟨L, k, n, e, a⟩ := q
  obtain ⟨L2, k2, n2', e2, a2⟩ := q2
  obtain ⟨tk, ts, ta⟩ := t
  obtain ⟨wk, wn, wx, wl, wf⟩ := w
  simp only at hpl hpl2 hud hgt hgt' hw k3 hk n3 h2
  subst k3
  simp only [rrV, rrC, Rrd.inc, vc, toV] at h1 h2 hf ⊢
  push_cast at h2
  rcases n3 with rfl | rfl
  · simp at h2
    simp [af132, af132b, hpl, hpl2, hud, h1, h2, ho, hz, ↓hgt, ↓hgt', fO, hw, hwd, aI, bC, aK, aB, V.one, hf, bB, aV, aQ, aP, bD, aY, aR, cR]
  · simp at h2
    simp [af132, af132b, hpl, hpl2, hud, h1, h2, ho, hz, ↓hgt, ↓hgt', fO, hw, hwd, aI, bC, aK, aB, V.one, hf, bB, aV, aQ, aP, bD, aY, aR, cR]
end
theorem Dx {q q' : Rrd} (h : q.rs = q'.rs) (hL : q.L = q'.L) (hk : q.ok) (hk' : q'.ok) : q = q' := by
  obtain ⟨L, k, n, e, a⟩ := q
  obtain ⟨L', k', n', e', a'⟩ := q'
  simp only at hL
  subst hL
  simp only [Rrd.rs, Lrd.mk.injEq] at h
  obtain ⟨h1, h2, h3, h4⟩ := h
  have h5 := congrArg List.length h1
  simp only [List.length_drop] at h5
  have a1 := hk.2.1
  have a2 := hk'.2.1
  simp only at a1 a2
  have : k = k' := by omega
  subst h2 h3 h4 this
  rfl
theorem zQ {R : Lrd} : R.form.e ≠ 0 := iL (by decide)
theorem pI {q : Lrd × JV} (h : q.1.e ≠ 0) : fzV q = jNull := by unfold fzV; rw [if_neg h]
theorem zT {q : Lrd × JV} (h : q.1.e = 0) : fzV q = q.2 := by unfold fzV; rw [if_pos h]
theorem tQ (q : Rrd) : q.form.L = q.L := zK q _ _
theorem BR (c : Bool) : ∀ d, d ≤ 1000 → RSp c d
  | 0, _ => by
    intro q hf s
    rw [Lrd.val]
    by_cases ho : q.rs.over = true
    · rw [if_pos ho]
      refine ⟨q.form, ?_, nR q, iR hf.ok _ _, tQ q⟩
      rw [pI zQ]
      exact yJ hf.ok ho s
    · rw [if_neg ho]
      refine ⟨q.fail q.rs.at_ 5, ?_, tY q _ _, iR hf.ok _ _, zK _ _ _⟩
      rw [pI (iL (by decide))]
      exact FT hf.ok (by simpa using ho) (by decide) s
  | d + 1, hd => by
    intro q hf s
    have hv := BR c d (by omega)
    have hz : ¬ ((d : Int) + 1) < 1 := by omega
    rw [Lrd.val]
    push_cast
    rcases nP q with ⟨ho, _⟩ | ⟨t, he, ho, hk, hg, hh, hkd, _⟩
    · rw [if_pos ho]
      refine ⟨q.form, ?_, nR q, iR hf.ok _ _, tQ q⟩
      rw [pI zQ]
      exact yJ hf.ok ho s
    rw [if_neg (by simp [ho]), hkd, hh]
    have htm : t ∈ q.L := List.mem_of_getElem? hg
    obtain ⟨tk1, tk2⟩ := hf.toks t htm
    have hoki := nH hf.ok ho
    have htl : q.rs.tl.e = 0 := he
    by_cases k2 : t.k = 2
    · rw [if_pos k2]
      refine ⟨q.inc, ?_, jJ q, hoki, rfl⟩
      rw [zT (by exact htl)]
      exact FS hf.ok ho hz hk hg k2 s
    rw [if_neg k2]
    by_cases k3 : t.k = 3
    · rw [if_pos k3]
      refine ⟨q.inc, ?_, jJ q, hoki, rfl⟩
      rw [zT (by exact htl)]
      exact HL hf.ok ho hz hk hg k3 (tk2 k3) s
    rw [if_neg k3]
    by_cases k4 : t.k = 4
    · rw [if_pos k4]
      refine ⟨q.inc, ?_, jJ q, hoki, rfl⟩
      rw [zT (by exact htl)]
      exact HN hf.ok ho hz hk hg k4 s
    rw [if_neg k4]
    have k1 : t.k = 1 := by omega
    have his : ∀ x, q.rs.is x = decide (t.s = x) := fun x => by
      unfold Lrd.is
      rw [hkd, hh, k1]; rfl
    rw [his, his, his]
    by_cases n36 : t.s = [36]
    · by_cases hc : c = false
      · subst hc
        rw [if_pos ⟨by simp [n36], rfl⟩]
        obtain ⟨e1, e2⟩ := rO q.inc
        rw [jJ] at e1 e2
        refine ⟨q.inc.name.1, ?_, e1, nI hoki, Ad _⟩
        have hfz : fzV (q.rs.tl.name.1, JV.mk 7 0 q.rs.tl.name.2 [] []) = if q.inc.name.1.e = 0 then .mk 7 0 q.inc.name.2 [] [] else jNull := by
          unfold fzV
          rw [← e1, ← e2]; rfl
        rw [hfz]
        exact HM hf.ok ho hz hk hg k1 n36 s
      · have hc' : c = true := by simpa using hc
        rw [if_neg (by simp [hc']), if_neg (by simp [n36]), if_neg (by simp [n36])]
        refine ⟨q.form, ?_, nR q, iR hf.ok _ _, tQ q⟩
        rw [pI zQ]
        exact yH hf.ok ho hz hk hg k1 (by simp [n36]) (by simp [n36]) (.inr hc') s
    rw [if_neg (by simp [n36])]
    have hfi := zO (q' := q.inc) hf hoki rfl
    have hmu := Hm ho
    have hmu' : q.inc.rs.mu < q.rs.L.length + 2 := by rw [jJ]; exact hmu
    by_cases n91 : t.s = [91]
    · rw [if_pos (by simp [n91])]
      have key := fun s => Dr hv hfi (by exact he) hmu' s
      rw [jJ] at key
      generalize Lrd.lst (Lrd.val c d) (q.rs.L.length + 2) q.rs.tl [] = p at *
      obtain ⟨q', _, e1, e2, e3⟩ := key s
      have hcall : ∀ s, call G 210 [rrV q.inc, .int .i64 d, .bool c, .bool (decide (t.s = [123]))] s = some (.tup [rrV q', toV (if q'.e = 0 then .mk 4 0 [] p.2 [] else jNull)], s) := by
        intro s
        obtain ⟨q'', hc, f1, f2, f3⟩ := key s
        have hq : q'' = q' := Dx (f1.trans e1.symm) (f3.trans e3.symm) f2 e2
        rw [n91]
        subst hq
        exact hc
      refine ⟨q', ?_, e1, e2, e3⟩
      have hfz : fzV (p.1, JV.mk 4 0 [] p.2 []) = if q'.e = 0 then .mk 4 0 [] p.2 [] else jNull := by
        unfold fzV
        rw [← e1]; rfl
      rw [hfz]
      exact yI hf.ok ho (by omega) hk hg k1 (.inl n91) s hcall
    rw [if_neg (by simp [n91])]
    by_cases n123 : t.s = [123]
    · rw [if_pos (by simp [n123])]
      have key := fun s => FN hv hfi (by exact he) hmu' s
      rw [jJ] at key
      generalize Lrd.obj (Lrd.val c d) (q.rs.L.length + 2) q.rs.tl [] = p at *
      obtain ⟨q', _, e1, e2, e3⟩ := key s
      have hcall : ∀ s, call G 210 [rrV q.inc, .int .i64 d, .bool c, .bool (decide (t.s = [123]))] s = some (.tup [rrV q', toV (if q'.e = 0 then .mk 5 0 [] [] p.2 else jNull)], s) := by
        intro s
        obtain ⟨q'', hc, f1, f2, f3⟩ := key s
        have hq : q'' = q' := Dx (f1.trans e1.symm) (f3.trans e3.symm) f2 e2
        rw [n123]
        subst hq
        exact hc
      refine ⟨q', ?_, e1, e2, e3⟩
      have hfz : fzV (p.1, JV.mk 5 0 [] [] p.2) = if q'.e = 0 then .mk 5 0 [] [] p.2 else jNull := by
        unfold fzV
        rw [← e1]; rfl
      rw [hfz]
      exact yI hf.ok ho (by omega) hk hg k1 (.inr n123) s hcall
    rw [if_neg (by simp [n123])]
    refine ⟨q.form, ?_, nR q, iR hf.ok _ _, tQ q⟩
    rw [pI zQ]
    exact yH hf.ok ho hz hk hg k1 n91 n123 (.inl n36) s
theorem Bg {f : Lrd → Lrd × JV} (hf : ∀ R, R.good → (f R).1.good) : ∀ (n : Nat) (R : Lrd) (acc : List JV), R.good → (Lrd.lst f n R acc).1.good
  | 0, R, acc, h => h
  | n + 1, R, acc, h => by
    rw [Lrd.lst]
    split
    · exact h
    split
    · exact h
    · exact Bg hf n _ _ (hf R h)
theorem Hb {R : Lrd} (h : R.good) (acc : List (List UInt8 × JV)) : (R.key acc).1.good := by
  unfold Lrd.key
  refine xQ ?_ _
  split
  · exact iA (mB h) _ (by decide)
  · exact mB h
theorem Bh {f : Lrd → Lrd × JV} (hf : ∀ R, R.good → (f R).1.good) : ∀ (n : Nat) (R : Lrd) (acc : List (List UInt8 × JV)), R.good → (Lrd.obj f n R acc).1.good
  | 0, R, acc, h => h
  | n + 1, R, acc, h => by
    rw [Lrd.obj]
    split
    · exact h
    split
    · exact h
    · exact Bh hf n _ _ (hf _ (Hb h acc))
theorem Bk (c : Bool) : ∀ (d : Nat) (R : Lrd), R.good → (Lrd.val c d R).1.good
  | 0, R, h => by
    rw [Lrd.val]
    split
    · exact iA h _ (by decide)
    · exact iA h _ (by decide)
  | d + 1, R, h => by
    have ih := Bk c d
    have ht : R.tl.good := h
    rw [Lrd.val]
    repeat' split
    · exact iA h _ (by decide)
    · exact ht
    · exact ht
    · exact ht
    · exact mB ht
    · exact Bg ih _ _ _ ht
    · exact Bh ih _ _ _ ht
    · exact iA h _ (by decide)
section
variable {c : Bool} {d r : Nat} {R : Lrd} {s : St}
theorem Ea (hd : d ≤ 1000) (ht : R.tame) (hbas : ∀ o ∈ s.obs.take (r + 1), o.und (r + 1) 0 = true ∧ o.kind ≠ 4) (hs : s.obs[r]? = some (rdO R)) :
    ∃ ex, call G 133 [.ptr r 0, .int .i64 d, .bool c] s = some (toV (fzV (Lrd.val c d R)), ⟨s.obs.set r (rdO (Lrd.val c d R).1), s.bufs ++ ex⟩) := by
  have hr := eC hs
  have hb2 : ∀ o ∈ (s.obs ++ [AObj.cells 46 zL]).take (r + 1), o.und (r + 1) 0 = true ∧ o.kind ≠ 4 := by
    rw [List.take_append_of_le_length (by omega)]; exact hbas
  obtain ⟨ex, h1⟩ := EQ c d hd R ⟨s.obs ++ [.cells 46 zL], s.bufs⟩ r ht hb2 (Al hs _)
  simp only [Dk hs] at h1
  generalize Lrd.val c d R = Q at *
  obtain ⟨R', v⟩ := Q
  simp only at h1 ⊢
  by_cases he : R'.e = 0
  · have hz : fzV (R', v) = v := zT he
    rw [hz]
    obtain ⟨ex', hfin, _⟩ := sF s hr (o := rdO R') (gZ _ _ _) [.cells 46 (vc v), .cells 46 (vc v)] ex (v := toV v) (by simp)
    refine ⟨ex', aC (F := af133) rfl rfl ?_⟩
    have hg := iW (s := s) hr (rdO R')
    obtain ⟨L, n, e, a⟩ := R'
    obtain ⟨k2, n2, s2, ll, ff⟩ := v
    simp only at he
    subst he
    simp only [rdO, toV, vc] at h1 hg hfin ⊢
    simp [af133, af133b, h1, ↓hg, aI, aK, aB, V.one, fR, lF, fY, lL]
    simp at hfin
    rw [hfin]
  · have hz : fzV (R', v) = jNull := pI he
    rw [hz]
    obtain ⟨ex', hfin, _⟩ := sF s hr (o := rdO R') (gZ _ _ _) [.cells 46 zL, .cells 46 (vc v)] ex (v := .agg zL) (by simp)
    refine ⟨ex', aC (F := af133) rfl rfl ?_⟩
    have hg := iW (s := s) hr (rdO R')
    obtain ⟨L, n, e, a⟩ := R'
    obtain ⟨k2, n2, s2, ll, ff⟩ := v
    simp only at he
    have he' := eq_false he
    simp only [rdO, toV, vc, jNull] at h1 hg hfin ⊢
    simp [af133, af133b, h1, ↓hg, he', aI, aK, aB, V.one, fR, lF, fY, lL]
    simp at hfin
    rw [hfin]
    rfl
end
theorem FB {x : List UInt8} (h : By x) : x.length ≤ 1000000 := by
  obtain ⟨ng, ds, rfl, _, _, _, hl⟩ := h
  cases ng <;> simp <;> omega
theorem BG (b : List UInt8) : (rd0 b).tame := ⟨by have := (pK b).2; simp only [rd0]; omega, fun t ht hk => FB ((xY b t ht).2 hk)⟩
theorem HH (b : List UInt8) : (rr0 b).fine := ⟨Du b, (pK b).2, xY b⟩
def PV (c : Bool) (b : List UInt8) : JV × Int × Int :=
  if (Lrd.val c 12 (rd0 b)).1.whole.e = 0 then (fzV (Lrd.val c 12 (rd0 b)), 0, 0) else (jNull, (Lrd.val c 12 (rd0 b)).1.whole.e, (Lrd.val c 12 (rd0 b)).1.whole.a)
theorem EE (c : Bool) (b : List UInt8) (hb : b.length ≤ 9223372036854775807) (s : St) (hS : ∀ o ∈ s.obs, o.und s.obs.length 0 = true ∧ o.kind ≠ 4) :
    call G 58 [.str b, .bool c] s = some (.tup [toV (PV c b).1, .agg [.int .i64 (PV c b).2.1, .int .i64 (PV c b).2.2]], s) := by
  refine aC (F := af58) rfl rfl ?_
  have h1 : ∀ X, call G 50 [.str b] ⟨s.obs ++ X, s.bufs⟩ = some (.ptr (s.obs.length + X.length + 1) 0, ⟨s.obs ++ (X ++ [.cells 29 [.int .i64 (dJ b).2.1, .int .i64 (dJ b).2.2], rdO (rd0 b)]), s.bufs⟩) := by
    intro X
    have := yC b hb ⟨s.obs ++ X, s.bufs⟩
    simp only [List.length_append, List.append_assoc] at this
    exact this
  have g3 : ∀ (a c d o : AObj) (X : List AObj), (s.obs ++ a :: c :: d :: o :: X)[s.obs.length + 3]? = some o := fun a c d o X => by
    rw [List.getElem?_append_right (by omega)]; simp
  have t3 : ∀ (a c d o o' : AObj) (X : List AObj), (s.obs ++ a :: c :: d :: o :: X).set (s.obs.length + 3) o' = s.obs ++ a :: c :: d :: o' :: X := fun a c d o o' X => by
    rw [List.set_append_right _ _ (by omega)]; simp
  have hbas : ∀ o ∈ (s.obs ++ AObj.cells 46 zL :: .cells 29 [.int .i64 0, .int .i64 0] :: .cells 29 [.int .i64 (dJ b).2.1, .int .i64 (dJ b).2.2] :: rdO (rd0 b) :: []).take (s.obs.length + 3 + 1), o.und (s.obs.length + 3 + 1) 0 = true ∧ o.kind ≠ 4 := by
    intro o ho
    have ho := List.mem_of_mem_take ho
    simp only [List.mem_append, List.mem_cons, List.not_mem_nil, or_false] at ho
    rcases ho with ho | rfl | rfl | rfl | rfl
    · exact ⟨AObj.und_mono (by omega) (Nat.zero_le _) _ (hS o ho).1, (hS o ho).2⟩
    · exact ⟨rfl, by simp [AObj.kind]⟩
    · exact ⟨rfl, by simp [AObj.kind]⟩
    · exact ⟨rfl, by simp [AObj.kind]⟩
    · exact ⟨gZ _ _ _, by rw [rK]; decide⟩
  obtain ⟨ex, h2⟩ := Ea (c := c) (d := 12) (s := ⟨s.obs ++ AObj.cells 46 zL :: .cells 29 [.int .i64 0, .int .i64 0] :: .cells 29 [.int .i64 (dJ b).2.1, .int .i64 (dJ b).2.2] :: rdO (rd0 b) :: [], s.bufs⟩) (by omega) (BG b) hbas (g3 _ _ _ _ _)
  simp only [t3] at h2
  unfold PV
  generalize Lrd.val c 12 (rd0 b) = Q at *
  have h3 : ∀ (a c d : AObj) (X : List AObj) (R : Lrd), call G 125 [.ptr (s.obs.length + 3) 0] ⟨s.obs ++ a :: c :: d :: rdO R :: X, s.bufs ++ ex⟩ = some (.agg [.int .i64 R.whole.e, .int .i64 R.whole.a], ⟨s.obs ++ a :: c :: d :: rdO R.whole :: X, s.bufs ++ ex⟩) := by
    intro a c d X R
    have := wS (s := ⟨s.obs ++ a :: c :: d :: rdO R :: X, s.bufs ++ ex⟩) (g3 a c d (rdO R) X)
    simp only [upR, t3] at this
    exact this
  have h3' := fun a c d X => h3 a c d X Q.1
  generalize Q.1.whole = R2 at *
  generalize fzV Q = v at *
  generalize rd0 b = R0 at *
  generalize Q.1 = R1 at *
  obtain ⟨k2, n2, s2, ll, ff⟩ := v
  simp only [toV, vc] at h2 ⊢
  push_cast at h2
  have hfin : ∀ X (e a : Int), fin false s ⟨s.obs ++ X, s.bufs ++ ex⟩ (.tup [.agg [.int .i64 k2, .int .i64 n2, .str s2, .sl .no (cQ ll), .sl .no (cC ff)], .agg [.int .i64 e, .int .i64 a]]) = (.tup [.agg [.int .i64 k2, .int .i64 n2, .str s2, .sl .no (cQ ll), .sl .no (cC ff)], .agg [.int .i64 e, .int .i64 a]], s) := by
    intro X e a
    rw [qV _ _ _ _ (by simp)]
    simp
  by_cases he : R2.e = 0
  · rw [if_pos he]
    simp [af58, af58b, h1, h2, h3', he, aI, aK, aB, V.one]
    rw [hfin]
    rfl
  · rw [if_neg he]
    have he' : (R2.e = 0) = False := eq_false he
    simp [af58, af58b, h1, h2, h3', he', aI, aK, aB, V.one, aV, aQ, aP, bD, aY, aR, cR]
    rw [qV _ _ _ _ (by rfl)]
    rfl
theorem BP (c : Bool) (b : List UInt8) (hb : b.length ≤ 9223372036854775807) (s : St) :
    call G 59 [.str b, .bool c] s = some (.tup [toV (PV c b).1, .agg [.int .i64 (PV c b).2.1, .int .i64 (PV c b).2.2]], s) := by
  have h1 := vX b hb
  have h2 := fun s => BR c 12 (by omega) (rr0 b) (HH b) s
  rw [HI] at h2
  obtain ⟨q', _, e1, e2, e3⟩ := h2 s
  have h2' : ∀ s, call G 132 [rrV (rr0 b), .int .i64 12, .bool c] s = some (.tup [rrV q', toV (fzV (Lrd.val c 12 (rd0 b)))], s) := by
    intro s
    obtain ⟨q'', hc, f1, f2, f3⟩ := h2 s
    have hq : q'' = q' := Dx (f1.trans e1.symm) (f3.trans e3.symm) f2 e2
    subst hq
    exact hc
  have h3 := fun s => rN e2 s
  have hg := Bk c 12 (rd0 b) (Bi b)
  rw [e1] at h3
  unfold PV
  have hgw : (Lrd.val c 12 (rd0 b)).1.whole.e = 0 → (Lrd.val c 12 (rd0 b)).1.whole.a = 0 := by
    intro he
    obtain ⟨w1, _⟩ := ES he
    rw [w1] at he ⊢
    exact hg he
  generalize Lrd.val c 12 (rd0 b) = Q at *
  generalize Q.1.whole = R2 at *
  generalize fzV Q = v at *
  clear h2 hg e1 e3
  have hpl0 := aE (rr0 b).L
  have hpl1 := aE q'.L
  generalize rr0 b = q0 at *
  refine aC (F := af59) rfl rfl ?_
  obtain ⟨k2, n2, s2, ll, ff⟩ := v
  obtain ⟨L0, k0, n0, e0, a0⟩ := q0
  obtain ⟨L, k, n, e, a⟩ := q'
  simp only at hpl0 hpl1
  simp only [rrV, rrC, toV, vc] at h1 h2' h3 ⊢
  have hfin : ∀ X (e a : Int), fin false s ⟨s.obs ++ X, s.bufs⟩ (.tup [.agg [.int .i64 k2, .int .i64 n2, .str s2, .sl .no (cQ ll), .sl .no (cC ff)], .agg [.int .i64 e, .int .i64 a]]) = (.tup [.agg [.int .i64 k2, .int .i64 n2, .str s2, .sl .no (cQ ll), .sl .no (cC ff)], .agg [.int .i64 e, .int .i64 a]], s) := by
    intro X e a
    rw [bS _ _ _ (by simp)]
    simp
  by_cases he : R2.e = 0
  · rw [if_pos he]
    have ha := hgw he
    simp [af59, af59b, h1, h2', hpl0, hpl1, h3, he, ha, aI, aK, aB, V.one, aV, aQ, aP, bD, aY, aR, cR]
    rw [hfin]
    rfl
  · rw [if_neg he]
    have he' : (R2.e = 0) = False := eq_false he
    simp [af59, af59b, h1, h2', hpl0, hpl1, h3, he', aI, aK, aB, V.one, aV, aQ, aP, bD, aY, aR, cR]
    rw [bS _ _ _ (by rfl)]
    rfl
theorem Ey {f : Lrd → Lrd × JV} (hf : reads f) (hl : ∀ R, R.L.length ≤ 100000 → (f R).2.lok) : ∀ (n : Nat) (R : Lrd) (acc : List JV), R.L.length ≤ 100000 → rD acc → acc.length + R.mu ≤ 200000 →
    rD (Lrd.lst f n R acc).2 ∧ (Lrd.lst f n R acc).2.length ≤ 200000
  | 0, R, acc, _, ha, hm => ⟨ha, by simp only [Lrd.lst]; omega⟩
  | n + 1, R, acc, hR, ha, hm => by
    rw [Lrd.lst]
    split
    · exact ⟨ha, by simp only; omega⟩
    split
    · exact ⟨ha, by simp only; omega⟩
    · rename_i _ he
      obtain ⟨_, h2, h3⟩ := hf R
      have h3 := h3 (Classical.not_not.1 he)
      have h4 := h2.length_le
      refine Ey hf hl n _ _ (by omega) ?_ (by simp; omega)
      rw [lokVs_iff] at ha ⊢
      intro v hv
      rcases List.mem_append.1 hv with hv | hv
      · exact ha v hv
      · simp at hv; subst hv; exact hl R hR
theorem EB {f : Lrd → Lrd × JV} (hf : reads f) (hl : ∀ R, R.L.length ≤ 100000 → (f R).2.lok) : ∀ (n : Nat) (R : Lrd) (acc : List (List UInt8 × JV)), R.L.length ≤ 100000 → rC acc → acc.length + R.mu ≤ 200000 →
    rC (Lrd.obj f n R acc).2 ∧ (Lrd.obj f n R acc).2.length ≤ 200000
  | 0, R, acc, _, ha, hm => ⟨ha, by simp only [Lrd.obj]; omega⟩
  | n + 1, R, acc, hR, ha, hm => by
    rw [Lrd.obj]
    split
    · exact ⟨ha, by simp only; omega⟩
    split
    · exact ⟨ha, by simp only; omega⟩
    · rename_i _ he
      have he := Classical.not_not.1 he
      obtain ⟨h1, h2, h3⟩ := hf (R.key acc).1
      have hk := (Ew R acc).length_le
      have h4 := h2.length_le
      have hm0 : (R.key acc).1.mu ≤ R.mu := Hl (fun h => absurd he h) hk
      have hm1 : 1 ≤ R.mu := by unfold Lrd.mu; rw [if_pos he]; omega
      have h5 : (f (R.key acc).1).1.mu < R.mu := by
        by_cases hke : (R.key acc).1.e = 0
        · have := h3 hke; omega
        · have : (f (R.key acc).1).1.mu = 0 := by unfold Lrd.mu; rw [if_neg (h1 hke)]
          omega
      refine EB hf hl n _ _ (by omega) ?_ (by simp; omega)
      rw [lokPs_iff] at ha ⊢
      intro v hv
      rcases List.mem_append.1 hv with hv | hv
      · exact ha v hv
      · simp at hv; subst hv; exact hl _ (by omega)
theorem mK : jNull.lok := by simp [jNull, JV.lok, rD, rC]
theorem rB (k n : Int) (x : List UInt8) : (JV.mk k n x [] []).lok := by simp [JV.lok, rD, rC]
theorem Fz (x : List UInt8) : (iP x).lok := by
  unfold iP
  repeat' split
  all_goals first | exact mK | exact rB _ _ _
theorem ER (c : Bool) : ∀ (d : Nat) (R : Lrd), R.L.length ≤ 100000 → (Lrd.val c d R).2.lok
  | 0, R, h => by
    rw [Lrd.val]
    split <;> exact mK
  | d + 1, R, h => by
    have ih := ER c d
    have hr := jN c d
    have hmt : R.tl.mu ≤ 100001 := by
      have : R.tl.L.length ≤ R.L.length := (Ay R).length_le
      unfold Lrd.mu; split <;> omega
    have htl : R.tl.L.length ≤ 100000 := Nat.le_trans (Ay R).length_le h
    rw [Lrd.val]
    repeat' split
    · exact mK
    · exact Fz _
    · exact rB _ _ _
    · exact rB _ _ _
    · exact rB _ _ _
    · obtain ⟨h1, h2⟩ := Ey hr ih (R.L.length + 2) R.tl [] htl trivial (by simp; omega)
      exact ⟨by omega, by simp, h1, trivial⟩
    · obtain ⟨h1, h2⟩ := EB hr ih (R.L.length + 2) R.tl [] htl trivial (by simp; omega)
      exact ⟨by simp, by omega, trivial, h1⟩
    · exact mK
theorem Kq {q : Lrd × JV} (h : q.2.lok) : (fzV q).lok := by
  unfold fzV
  split
  · exact h
  · exact mK
theorem Hw (c : Bool) (b : List UInt8) : (PV c b).1.lok := by
  unfold PV
  split
  · exact Kq (ER c 12 _ (BG b).1)
  · exact mK
theorem yK {v : JV} (h : v.lok) (s : St) : call G 26 [toV v, toV v] s = some (.bool true, s) := by
  rw [sQ v v h s, (sP v v).2 rfl]
theorem Db (b : List UInt8) : ∃ s', call G 13 [.str b] ⟨[], []⟩ = some (.bool true, s') := by
  have ha := AK
  refine ⟨⟨[], []⟩, ?_⟩
  refine aC (F := af13) rfl rfl ?_
  by_cases hb : 400 < b.length
  · have hb' : (400 : Int) < (b.length : Int) := by omega
    simp [af13, af13b, ha, hb, hb']
    rw [aN _ (v := .bool _) rfl]
    rfl
  have hb' : ¬ (400 : Int) < (b.length : Int) := by omega
  have p0 := EE false b (by omega)
  have p1 := EE true b (by omega)
  have r0 := BP false b (by omega)
  have r1 := BP true b (by omega)
  have l0 := yK (Hw false b)
  have l1 := yK (Hw true b)
  have t0 := ED b (by omega)
  have t1 := HG b (by omega)
  generalize PV false b = A at *
  generalize PV true b = C at *
  generalize PT b = T at *
  obtain ⟨⟨k2, n2, s2, ll, ff⟩, e, a⟩ := A
  obtain ⟨⟨k3, n3, s3, l3, f3⟩, e3, a3⟩ := C
  obtain ⟨tx, tw, te, ta⟩ := T
  simp only [toV, vc, tyV] at p0 p1 r0 r1 l0 l1 t0 t1
  have q0 := p0 ⟨[], []⟩ (by simp)
  have q1 := p1 ⟨[.cells 46 [.int .i64 k2, .int .i64 n2, .str s2, .sl .no (cQ ll), .sl .no (cC ff)], .cells 29 [.int .i64 e, .int .i64 a], .cells 46 [.int .i64 k2, .int .i64 n2, .str s2, .sl .no (cQ ll), .sl .no (cC ff)], .cells 29 [.int .i64 e, .int .i64 a]], []⟩ (by simp [AObj.und, AObj.kind])
  simp [af13, af13b, ha, hb, hb']
  refine aG G false _ _ af13l0.eq_1 _ _ _ ?_
  have w1 : IntKind.i64.wrap 1 = 1 := by decide
  have w2 : IntKind.i64.wrap 2 = 2 := by decide
  simp [w1, q0, r0, l0, aI, aK, aB, V.one, xI, kJ, nB]
  refine aG G false _ _ af13l0.eq_1 _ _ _ ?_
  simp [w1, w2, q1, r1, l1, aI, aK, aB, V.one, xI, kJ, nB]
  refine aG G false _ _ af13l0.eq_1 _ _ _ ?_
  simp [t0, t1, aI, aK, aB, V.one, xI, kJ, nB]
  exact bS ⟨[], []⟩ _ (.bool true) rfl
end Go.Proofs.YtboejpobmpfifaaGreatDoor.Eng
