/-
 Literals, read by the reference; the statement LitParses over texts. No condition.
-/
import Derived.Test.YtboejpobmpfifaaGreatDoorLRds
import Derived.Test.YtboejpobmpfifaaGreatDoorLVals
import Derived.Test.YtboejpobmpfifaaGreatDoorLTys
set_option linter.unusedSimpArgs false
set_option linter.unusedVariables false
namespace Go.Proofs.YtboejpobmpfifaaGreatDoor.Eng
open Go
attribute [local simp] gS gR eT eN dR eV cY cW eU dQ dP eF eS dL cC dU cZ cN dM cA bX cV bW
attribute [local simp] hZ aZ put dB X.ev cF cO cP cS bU dO cR bV dN cQ eR gH kV bM fL gT fE gB V.plain aW V.und bY scK kill aF bQ aG dT dS cT mB bR fU V.real bH bK cU
attribute [local simp] eK iE fH iX dY dX fS fR
def BA (s : List UInt8) : Prop := ∃ (ng : Bool) (ds : List UInt8), s = (if ng = true then 45 :: ds else ds) ∧ ds ≠ [] ∧ (∀ x ∈ ds, cB x = true) ∧ kJ ds ≤ 9007199254740991 ∧ ds.length ≤ 900000
def EF (t : Tok) : Prop := (t.k = 1 ∨ t.k = 2 ∨ t.k = 3 ∨ t.k = 4) ∧ (t.k = 3 → BA t.s)
theorem DO (l : List UInt8) : (tdg l).length ≤ l.length := by
 have h := congrArg List.length (sD l)
 rw [List.length_append] at h
 have h2 : (eX l).length ≤ l.length := by
  unfold eX
  split
  ·simp
  ·split <;> simp
 omega
theorem Ge {l l' s : List UInt8} {k : Int} (hl : l.length ≤ 900000) (h : fM l = .ok (k, s) l') : (k = 1 ∨ k = 2 ∨ k = 3 ∨ k = 4) ∧ (k = 3 → BA s) := by
 unfold fM at h
 repeat' split at h
 all_goals first
  | (cases h; done)
  | (simp only [PR.ok.injEq, Prod.mk.injEq] at h; exact ⟨by omega, fun h3 => by omega⟩)
  | skip
 ·unfold iL at h
  split at h
  ·cases h
  split at h
  ·cases h
  rename_i hb hn
  simp only [PR.ok.injEq, Prod.mk.injEq] at h
  refine ⟨by omega, fun _ => ⟨iS l, tdg l, h.1.2.symm, fun he => hb (.inl he), uF l, ?_, ?_⟩⟩
  ·have : ¬ 9007199254740991 < kJ (tdg l) := fun he => hb (.inr (.inr he))
   omega
  ·have := DO l
   omega
 ·unfold sF at h
  repeat' split at h
  all_goals first
   | (cases h; done)
   | (simp only [PR.ok.injEq, Prod.mk.injEq] at h; exact ⟨by omega, fun h3 => by omega⟩)
 ·unfold wW at h
  repeat' split at h
  all_goals first
   | (cases h; done)
   | (simp only [PR.ok.injEq, Prod.mk.injEq] at h; exact ⟨by omega, fun h3 => by omega⟩)
theorem Fj (b : List UInt8) : ∀ (n : Nat) (l l2 : List UInt8) (toks T : List Tok), l.length ≤ 900000 → (∀ t ∈ toks, EF t) → mC b n l toks = .ok T l2 → ∀ t ∈ T, EF t := by
 intro n
 induction n with
 | zero => intro l l2 toks T _ _ h; cases h
 | succ n ih =>
  intro l l2 toks T hl ht h
  rw [mC] at h
  split at h
  ·cases h; exact ht
  split at h
  ·cases h
  rename_i hne _
  cases hT : fM l with
  | err l' e => rw [hT] at h; cases h
  | ok kt l' =>
   obtain ⟨k, s⟩ := kt
   rw [hT] at h
   obtain ⟨h1, h2⟩ := wU hne hT
   have h3 := (gY false l').length_le
   refine ih _ _ _ _ (by omega) ?_ h
   intro t hm
   rcases List.mem_append.1 hm with hm | hm
   ·exact ht t hm
   ·simp at hm; subst hm; exact Ge hl hT
theorem Fl (b : List UInt8) : ∀ t ∈ (dK b).1, EF t := by
 unfold dK
 split
 ·simp
 split
 ·simp
 split
 ·rename_i toks l h
  have := (gY false b).length_le
  exact Fj b _ _ _ [] _ (by omega) (by simp) h
 ·simp
def jB (a : Nat) (c : UInt8) : Nat := if c = 45 then a else 10 * a + (c.toNat - 48)
theorem tB : ∀ (ds : List UInt8) (a : Nat), (∀ x ∈ ds, cB x = true) → ds.foldl jB a = ds.foldl (fun a x => 10 * a + (x.toNat - 48)) a
 | [], a, _ => rfl
 | d :: ds, a, hd => by
  have h1 := hd d (by simp)
  have h2 : d ≠ 45 := by intro h; subst h; simp [cB] at h1
  simp only [List.foldl_cons]
  rw [show jB a d = 10 * a + (d.toNat - 48) by unfold jB; rw [if_neg h2]]
  exact tB ds _ (fun x hx => hd x (by simp [hx]))
theorem Cd : ∀ (ds : List UInt8) (a : Nat), a ≤ ds.foldl jB a
 | [], a => Nat.le_refl _
 | d :: ds, a => by
  refine Nat.le_trans ?_ (Cd ds (jB a d))
  unfold jB; split <;> omega
theorem CY {x : List UInt8} (hx : x.length ≤ 1000000000) : ∀ (u : List UInt8) (a : Nat) (env : Env) (s : St), u <:+ x → (∀ c ∈ u, cB c = true ∨ c = 45) → u.foldl jB a ≤ 9007199254740991 → env 0 = .str x → env 3 = .int .i64 a → env 4 = .int .i64 ((x.length - u.length : Nat) : Int) →
  Out (evC G (.loop false af209l0) env s) (fun ex env' s' => ex = .exit 0 ∧ s' = s ∧ env' 0 = .str x ∧ env' 3 = .int .i64 ((u.foldl jB a : Nat) : Int)) := by
 intro u
 induction u with
 | nil =>
  intro a env s hu hd hv h0 h3 h4
  refine aH G false _ _ af209l0.eq_1 _ _ _ ?_
  simp at h4
  simp [h0, h3, h4]
 | cons c t ih =>
  intro a env s hu hd hv h0 h3 h4
  have hgi := eM hu
  have hlen := aO hu
  simp only [List.length_cons] at hlen h4 hgi
  have hlt : x.length - (t.length + 1) < x.length := by omega
  have hw : IntKind.i64.wrap (((x.length - (t.length + 1) : Nat) : Int) + 1) = ((x.length - t.length : Nat) : Int) := by rw [aD (by omega) (by omega)]; omega
  have hut : t <:+ x := (List.suffix_cons c t).trans hu
  have e45 : ((c.toNat : Int) = 45) ↔ c = 45 := gL c 45 (by decide)
  have hva := Cd t (jB a c)
  simp only [List.foldl_cons] at hv
  refine aH G false _ _ af209l0.eq_1 _ _ _ ?_
  by_cases hc : c = 45
  ·have hct := eq_true hc
   have hst : jB a c = a := by unfold jB; rw [if_pos hc]
   rw [hst] at hv
   simp [h0, h3, h4, hlt, ↓hgi, e45, hct, hw]
   refine Out.mono (ih a _ s hut (fun y hy => hd y (by simp [hy])) hv (by simp [h0]) (by simp [h3]) (by simp)) ?_
   rintro ex env' s' ⟨q1, q2, q3, q4⟩
   rw [hst]
   exact ⟨q1, q2, q3, q4⟩
  ·have hct := eq_false hc
   have hdg := (hd c (by simp)).resolve_right hc
   simp only [cB, Bool.and_eq_true, decide_eq_true_eq] at hdg
   have hst : jB a c = 10 * a + (c.toNat - 48) := by unfold jB; rw [if_neg hc]
   have h8 := c.toNat_lt
   have hle : jB a c ≤ 9007199254740991 := Nat.le_trans hva hv
   have w1 : IntKind.i64.wrap ((a : Int) * 10) = (a : Int) * 10 := aD (by omega) (by omega)
   have w2 : IntKind.i64.wrap (c.toNat : Int) = (c.toNat : Int) := aD (by omega) (by omega)
   have w3 : IntKind.i64.wrap ((a : Int) * 10 + (c.toNat : Int)) = (a : Int) * 10 + (c.toNat : Int) := aD (by omega) (by omega)
   have w4 : IntKind.i64.wrap ((a : Int) * 10 + (c.toNat : Int) - 48) = ((jB a c : Nat) : Int) := by rw [aD (by omega) (by omega), hst]; omega
   simp [h0, h3, h4, hlt, ↓hgi, e45, hct, hw, w1, w2, w3, w4]
   refine Out.mono (ih (jB a c) _ s hut (fun y hy => hd y (by simp [hy])) hv (by simp [h0]) (by simp) (by simp)) ?_
   rintro ex env' s' ⟨q1, q2, q3, q4⟩
   exact ⟨q1, q2, q3, q4⟩
theorem Hr {ng : Bool} {ds : List UInt8} (hne : ds ≠ []) (hd : ∀ x ∈ ds, cB x = true) (hv : kJ ds ≤ 9007199254740991) : Bz (if ng = true then 45 :: ds else ds) = if ng = true then -(kJ ds : Int) else (kJ ds : Int) := by
 unfold Bz
 rw [(Hv hd hne ng).1 hv]
theorem BB {x : List UInt8} (h : BA x) (s : St) : call G 209 [.str x] s = some (.int .i64 (Bz x), s) := by
 obtain ⟨ng, ds, hx, hne, hd, hv, hl⟩ := h
 have hI := Hr (ng := ng) hne hd hv
 have hfold : x.foldl jB 0 = kJ ds := by
  subst hx
  cases ng with
  | true => simp only [if_true, List.foldl_cons, show jB 0 45 = 0 from rfl]; exact tB ds 0 hd
  | false => simp only [Bool.false_eq_true, if_false]; exact tB ds 0 hd
 have hall : ∀ c ∈ x, cB c = true ∨ c = 45 := by
  intro c hc
  subst hx
  cases ng with
  | true =>
   rcases List.mem_cons.1 hc with h | h
   ·exact .inr h
   ·exact .inl (hd c h)
  | false => exact .inl (hd c hc)
 have hxl : x.length ≤ 1000000000 := by
  subst hx
  cases ng <;> simp <;> omega
 have hh : x[0]? = some (hd0 x) ∧ (hd0 x = 45 ↔ ng = true) := by
  subst hx
  cases ds with
  | nil => exact absurd rfl hne
  | cons d ds =>
   cases ng with
   | true => simp [hd0]
   | false =>
    have h1 := hd d (by simp)
    have h2 : d ≠ 45 := by intro h; subst h; simp [cB] at h1
    simp [hd0, h2]
 obtain ⟨hg0, h45⟩ := hh
 have hg0' : x[(0 : Int).toNat]? = some (hd0 x) := hg0
 rw [← hx] at hI
 rw [hI]
 have e45 : (((hd0 x).toNat : Int) = 45) ↔ hd0 x = 45 := gL _ 45 (by decide)
 refine aC (F := af209) rfl rfl ?_
 simp [af209, af209b]
 refine Out.mono (CY hxl x 0 _ s (List.suffix_refl _) hall (by rw [hfold]; exact hv) (by simp) (by simp) (by simp)) ?_
 rintro ex env' s' ⟨rfl, rfl, q0, q3⟩
 rw [hfold] at q3
 cases ng with
 | true =>
  have hw : IntKind.i64.wrap (-(kJ ds : Int)) = -(kJ ds : Int) := aD (by omega) (by omega)
  simp [q0, q3, ↓hg0', ↓hg0, e45, h45, hw]
  rw [aS _ (v := .int _ _) rfl]
  rfl
 | false =>
  simp [q0, q3, ↓hg0', ↓hg0, e45, h45]
  rw [aS _ (v := .int _ _) rfl]
  rfl
def fzV (q : Qk × JV) : JV := if q.1.e = 0 then q.2 else jNull
structure Qj.fine (q : Qj) : Prop where
 ok : q.ok
 len : q.L.length ≤ 900
 toks : ∀ t ∈ q.L, EF t
theorem vC {q q' : Qj} (h : q.fine) (hk : q'.ok) (hL : q'.L = q.L) : q'.fine := ⟨hk, by rw [hL]; exact h.len, by rw [hL]; exact h.toks⟩
theorem Ep {q : Qj} (h : q.fine) : q.rs.mu ≤ 901 := by
 have := h.len
 have h2 : q.rs.L.length ≤ q.L.length := by simp [Qj.rs]
 unfold Qk.mu
 split <;> omega
def RSp (c : Bool) (d : Nat) : Prop :=
 ∀ (q : Qj), q.fine → ∀ (s : St), ∃ q' : Qj, call G 132 [rrV q, .int .i64 d, .bool c] s = some (.tup [rrV q', toV (fzV (Qk.val c d q.rs))], s) ∧ q'.rs = (Qk.val c d q.rs).1 ∧ q'.ok ∧ q'.L = q.L
theorem Jh (f : Qk → Qk × JV) {R : Qk} (he : R.e ≠ 0) : ∀ (n : Nat) (acc : List JV), (Qk.lst f n R acc).1 = R
 | 0, acc => rfl
 | n + 1, acc => by rw [Qk.lst, Lb he, if_neg (by simp), if_pos he]
theorem Jp (f : Qk → Qk × JV) {R : Qk} (he : R.e ≠ 0) : ∀ (n : Nat) (acc : List (List UInt8 × JV)), (Qk.obj f n R acc).1 = R
 | 0, acc => rfl
 | n + 1, acc => by rw [Qk.obj, Lb he, if_neg (by simp), if_pos he]
abbrev zR : List V := [.sl .nil [], .int .i64 0, .int .i64 0, .int .i64 0, .int .i64 0]
section
variable {s : St}
def MM (s : St) (q : Qj) (m : List V) (bx : List (Nat × Nat × TypeId)) (J : List Qw) : St :=
 ⟨s.obs ++ (.cells 102 (rrC q) :: .cells 102 zR :: .cells 46 zL :: .cells 46 m :: J), s.bufs ++ bx⟩
variable (q : Qj) (m : List V) (bx : List (Nat × Nat × TypeId)) (J : List Qw)
theorem Cv : (MM s q m bx J).obs[s.obs.length]? = some (.cells 102 (rrC q)) := by
 simp only [MM]; rw [List.getElem?_append_right (by omega)]; simp
theorem IE : (MM s q m bx J).obs[s.obs.length + 1]? = some (.cells 102 zR) := by
 simp only [MM]; rw [List.getElem?_append_right (by omega)]; simp
theorem Gn : (MM s q m bx J).obs[s.obs.length + 3]? = some (.cells 46 m) := by
 simp only [MM]; rw [List.getElem?_append_right (by omega)]; simp
theorem uK (q' : Qj) : (⟨(MM s q m bx J).obs.set s.obs.length (.cells 102 (rrC q')), (MM s q m bx J).bufs⟩ : St) = MM s q' m bx J := by
 simp only [MM]; rw [List.set_append_right _ _ (by omega)]; simp
theorem Ed (m' : List V) (bx' : List (Nat × Nat × TypeId)) : (⟨(MM s q m bx J).obs.set (s.obs.length + 3) (.cells 46 m'), s.bufs ++ bx'⟩ : St) = MM s q m' bx' J := by
 simp only [MM]; rw [List.set_append_right _ _ (by omega)]; simp
theorem Ec (J2 : List Qw) : (⟨(MM s q m bx J).obs ++ J2, (MM s q m bx J).bufs⟩ : St) = MM s q m bx (J ++ J2) := by
 simp only [MM, List.append_assoc, List.cons_append]
theorem zC : (MM s q m bx J).obs.length = s.obs.length + 4 + J.length := by
 simp only [MM, List.length_append, List.length_cons]; omega
theorem zD (a : Qw) : (MM s q m bx (J ++ [a])).obs.length = s.obs.length + 4 + J.length + 1 := by
 rw [zC]; simp; omega
theorem zA (J2 : List Qw) (i : Nat) : (MM s q m bx (J ++ J2)).obs[s.obs.length + 4 + J.length + i]? = J2[i]? := by
 simp only [MM]
 rw [List.getElem?_append_right (by omega), show s.obs.length + 4 + J.length + i - s.obs.length = J.length + i + 1 + 1 + 1 + 1 by omega]
 simp only [List.getElem?_cons_succ]
 rw [List.getElem?_append_right (by omega), show J.length + i - J.length = i by omega]
theorem zB (J2 : List Qw) : (MM s q m bx (J ++ J2)).obs[s.obs.length + 4 + J.length]? = J2[0]? := zA q m bx J J2 0
theorem zE (J2 : List Qw) (i : Nat) (o : Qw) : (⟨(MM s q m bx (J ++ J2)).obs.set (s.obs.length + 4 + J.length + i) o, (MM s q m bx (J ++ J2)).bufs⟩ : St) = MM s q m bx (J ++ J2.set i o) := by
 simp only [MM]
 rw [List.set_append_right _ _ (by omega), show s.obs.length + 4 + J.length + i - s.obs.length = J.length + i + 1 + 1 + 1 + 1 by omega]
 simp only [List.set_cons_succ]
 rw [List.set_append_right _ _ (by omega), show J.length + i - J.length = i by omega]
theorem qY (J2 : List Qw) (o : Qw) : (⟨(MM s q m bx (J ++ J2)).obs.set (s.obs.length + 4 + J.length) o, (MM s q m bx (J ++ J2)).bufs⟩ : St) = MM s q m bx (J ++ J2.set 0 o) := zE q m bx J J2 0 o
theorem tT (a : Qw) : (MM s q m bx J).obs.set (s.obs.length + 1) a = s.obs ++ (.cells 102 (rrC q) :: a :: .cells 46 zL :: .cells 46 m :: J) := by
 simp only [MM]; rw [List.set_append_right _ _ (by omega)]; simp
end
section
variable {c : Bool} {d : Nat} {s : St}
def ML (s : St) (q : Qj) (acc : List JV) (J : List Qw) : St := MM s q (mkL (.sl (bF s.bufs acc) (dJ acc))) (dH (80, 46) acc) J
def LOk (s : St) (L : List Tok) (p : Qk × List JV) (s' : St) : Prop := ∃ q' J', q'.fine ∧ q'.L = L ∧ q'.rs.over = false ∧ q'.e = 0 ∧ q'.rs.tl = p.1 ∧ s' = ML s q' p.2 J'
def IC (s : St) (L : List Tok) (R : Qk) (s' : St) : Prop := ∃ (q' : Qj) (X : List Qw) (bx : List (Nat × Nat × TypeId)), q'.fine ∧ q'.L = L ∧ q'.rs = R ∧ q'.e ≠ 0 ∧ s' = ⟨s.obs ++ (.cells 102 (rrC q') :: .cells 102 (rrC q') :: .cells 46 zL :: X), s.bufs ++ bx⟩
set_option maxHeartbeats 2000000 in
theorem FK (hv : RSp c d) : ∀ (n : Nat) (q : Qj) (acc : List JV) (J : List Qw) (k : Nat) (env : Env), q.rs.mu < n → k + q.rs.mu ≤ 950 → q.fine → q.e = 0 → acc.length ≤ k →
  env 1 = .int .i64 d → env 2 = .bool c → env 3 = .bool false → env 4 = .ptr s.obs.length 0 → env 8 = .ptr (s.obs.length + 1) 0 → env 9 = .ptr (s.obs.length + 2) 0 → env 10 = .ptr (s.obs.length + 3) 0 → env 11 = .str [93] → env 12 = .int .i64 k →
  Out (evC G (.loop false af210l1) env (ML s q acc J)) (fun ex env' s' => env' 8 = .ptr (s.obs.length + 1) 0 ∧ env' 9 = .ptr (s.obs.length + 2) 0 ∧
   ((ex = .exit 0 ∧ env' 4 = .ptr s.obs.length 0 ∧ env' 10 = .ptr (s.obs.length + 3) 0 ∧ LOk s q.L (Qk.lst (Qk.val c d) n q.rs acc) s') ∨ (ex = .ret ∧ IC s q.L (Qk.lst (Qk.val c d) n q.rs acc).1 s'))) := by
 intro n
 induction n with
 | zero => intro q acc J k env h; omega
 | succ n ih =>
  intro q acc J k env hn hk hf hq0 hal h1 h2 h3 h4 h8 h9 h10 h11 h12
  have his := fun S => gF hf.ok [93] S
  have hpl := aE q.L
  have hkl : (k : Int) < 1000 := by omega
  have hwk : IntKind.i64.wrap ((k : Int) + 1) = (k : Int) + 1 := aD (by omega) (by omega)
  refine aH G false _ _ af210l1.eq_1 _ _ _ ?_
  rw [Qk.lst]
  simp only [ML]
  generalize hm : mkL (.sl (bF s.bufs acc) (dJ acc)) = m
  generalize hbx : dH (80, 46) acc = bx
  have hm0 := Cv (s := s) q m bx J
  by_cases hi : q.rs.is [93] = true
  ·rw [if_pos hi]
   simp only [rrV, rrC] at his hm0
   simp [h1, h2, h3, h4, h8, h9, h10, h11, h12, hkl, ↓hm0, hpl, his, hi]
   exact ⟨q, J, hf, rfl, kW hi, hq0, rfl, by rw [ML, hm, hbx]⟩
  ·have hi' : q.rs.is [93] = false := by simpa using hi
   rw [if_neg hi, if_neg (show ¬ q.rs.e ≠ 0 from fun h => h hq0)]
   obtain ⟨q', hc, hrs, hok', hL'⟩ := hv q hf (MM s q m bx J)
   obtain ⟨v1, v2, v3⟩ := jR c d q.rs
   have hmu := v3 hq0
   have hf' := vC hf hok' hL'
   have hfz : fzV (Qk.val c d q.rs) = if q'.e = 0 then (Qk.val c d q.rs).2 else jNull := by
    unfold fzV; rw [← hrs]; rfl
   rw [hfz] at hc
   rw [← hrs] at hmu ⊢
   generalize (Qk.val c d q.rs).2 = v at *
   have hpl' := aE q'.L
   have hlen := zC (s := s) q m bx J
   have hpush := fun J J2 => Ec (s := s) q m bx J J2
   have hlen1 := fun a => zD (s := s) q m bx J a
   have hgj := fun J2 i => zA (s := s) q m bx J J2 i
   have hgj0 := fun J2 => zB (s := s) q m bx J J2
   have hsj := fun J2 i o => zE (s := s) q m bx J J2 i o
   have hsj0 := fun J2 o => qY (s := s) q m bx J J2 o
   have hgn := fun J2 i => zA (s := s) q' m bx J J2 i
   have hgn0 := fun J2 => zB (s := s) q' m bx J J2
   have hset := fun J2 => uK (s := s) q m bx J2 q'
   have hm0' := fun J2 => Cv (s := s) q m bx J2
   have hn0' := fun J2 => Cv (s := s) q' m bx J2
   by_cases he : q'.e = 0
   ·rw [if_pos he] at hc
    have hnx := fun env => ih q' (acc ++ [v]) (J ++ [.cells 102 (rrC q'), .cells 46 (vc v)]) (k + 1) env (by omega) (by omega) hf' he (by simp; omega)
    simp only [ML] at hnx
    have hm3 : (MM s q' m bx (J ++ [.cells 102 (rrC q'), .cells 46 (vc v)])).obs[s.obs.length + 3]? = some (.cells 46 (mkL (.sl (bF s.bufs acc) (dJ acc)))) := by rw [hm]; exact Gn _ _ _ _
    have hroom : iJ = 140737488355328 := by decide
    have hap : ∀ o, gU false 5 (80, 46) (.sl (bF s.bufs acc) (dJ acc)) (.sl o [toV v]) (MM s q' m bx (J ++ [.cells 102 (rrC q'), .cells 46 (vc v)])) = some (.sl (.buf s.bufs.length) (dJ acc ++ [toV v]), ⟨(MM s q' m bx (J ++ [.cells 102 (rrC q'), .cells 46 (vc v)])).obs, s.bufs ++ [(acc.length + 1, 80, 46)]⟩) := fun o => by
     rw [← hbx]
     exact nC dJ rfl kB 5 80 46 o (toV v) xW (by simp) acc (by rw [hroom]; omega) _ s.bufs
    have hst : (⟨(MM s q' m bx (J ++ [.cells 102 (rrC q'), .cells 46 (vc v)])).obs.set (s.obs.length + 3) (.cells 46 [.int .i64 4, .int .i64 0, .str [], .sl (.buf s.bufs.length) (dJ acc ++ [toV v]), .sl .nil []]), s.bufs ++ [(acc.length + 1, 80, 46)]⟩ : St) = MM s q' (mkL (.sl (bF s.bufs (acc ++ [v])) (dJ (acc ++ [v])))) (dH (80, 46) (acc ++ [v])) (J ++ [.cells 102 (rrC q'), .cells 46 (vc v)]) := by
     have hne : acc ++ [v] ≠ [] := by simp
     simp only [mkL, bF, dH, hne, if_false, Ck, List.length_append, List.length_cons, List.length_nil]
     exact Ed q' m bx _ _ _
    obtain ⟨k2, n2, s2, ll, ff⟩ := v
    obtain ⟨L', k', n', e', a'⟩ := q'
    simp only at he hpl'
    subst he
    simp only [rrV, rrC, toV, vc, mkL] at his hc hm0 hset hm0' hn0' hm3 hap hst hnx
    simp [h1, h2, h3, h4, h8, h9, h10, h11, h12, hkl, hwk, ↓hm0, hpl, his, hi', hc, hlen, hlen1, hgj, hgj0, hsj, hsj0, hgn, hgn0, aI, aY, aK, V.one, aB, hpush, ↓hm0', ↓hn0', hset, ↓hm3, hap, hst]
    refine Out.mono (hnx _ (by simp [h1]) (by simp [h2]) (by simp [h3]) (by simp [h4]) (by simp [h8]) (by simp [h9]) (by simp [h10]) (by simp [h11]) (by simp)) ?_
    rintro ex env' s' ⟨w8, w9, ⟨rfl, w4, w10, hq⟩ | ⟨rfl, hq⟩⟩
    ·exact ⟨w8, w9, .inl ⟨rfl, w4, w10, by rw [← hL']; exact hq⟩⟩
    ·exact ⟨w8, w9, .inr ⟨rfl, by rw [← hL']; exact hq⟩⟩
   ·rw [if_neg he] at hc
    have hbad := Jh (Qk.val c d) (R := q'.rs) he n (acc ++ [v])
    have hm1 := IE (s := s) q' m bx (J ++ [.cells 102 (rrC q'), .cells 46 (vc jNull)])
    have hs1 := tT (s := s) q' m bx (J ++ [.cells 102 (rrC q'), .cells 46 (vc jNull)]) (.cells 102 (rrC q'))
    have hfx : ∀ a b x X, (s.obs ++ a :: b :: x :: X)[s.obs.length + 2]? = some x := fun a b x X => by rw [List.getElem?_append_right (by omega)]; simp
    have hfs : ∀ a b x X o, (s.obs ++ a :: b :: x :: X).set (s.obs.length + 2) o = s.obs ++ a :: b :: o :: X := fun a b x X o => by rw [List.set_append_right _ _ (by omega)]; simp
    have hbf : ∀ J2, (MM s q' m bx J2).bufs = s.bufs ++ bx := fun _ => rfl
    have hgoal : ∀ X, IC s q.L (Qk.lst (Qk.val c d) n q'.rs (acc ++ [v])).1 ⟨s.obs ++ (.cells 102 (rrC q') :: .cells 102 (rrC q') :: .cells 46 zL :: X), s.bufs ++ bx⟩ := fun X => ⟨q', X, bx, hf', hL', hbad.symm, he, rfl⟩
    have het : (q'.e = 0) = False := eq_false he
    clear hv ih hfz hbad
    obtain ⟨L', k', n', e', a'⟩ := q'
    simp only at het hpl'
    simp only [rrV, rrC, toV, vc, jNull, dJ, dF] at his hc hm0 hset hm0' hn0' hm1 hs1 hgoal
    simp [h1, h2, h3, h4, h8, h9, h10, h11, h12, hkl, hwk, ↓hm0, hpl, hpl', his, hi', hc, hlen, hlen1, hgj, hgj0, hsj, hsj0, hgn, hgn0, aI, aY, aK, V.one, aB, hpush, ↓hm0', ↓hn0', hset, het, ↓hm1, hs1, hfx, hfs, hbf]
    exact hgoal _
end
section
variable {O : List Qw} {B : List (Nat × Nat × TypeId)} {p m : Nat} {ow : Own} {acc : List (List UInt8 × JV)} {key : List UInt8} {at_ : Int}
set_option maxHeartbeats 1000000 in
theorem Gj (hp : p < O.length) (hm : O[m]? = some (.cells 46 (mkP (.sl ow (dF acc))))) (hpm : p ≠ m) (hacc : acc.length ≤ 1000000) : ∀ (j i : Nat) (x : Qj) (env : Env), acc.length - i = j → i ≤ acc.length → x.ok →
  env 10 = .ptr m 0 → env 14 = .int .i64 at_ → env 15 = .ptr p 0 → env 16 = .str key → env 17 = .int .i64 i →
  Out (evC G (.loop false af210l0) env ⟨O.set p (.cells 102 (rrC x)), B⟩) (fun ex env' s' => ex = .exit 2 ∧ env' 1 = env 1 ∧ env' 2 = env 2 ∧ env' 3 = env 3 ∧ env' 4 = env 4 ∧ env' 8 = env 8 ∧ env' 9 = env 9 ∧ env' 10 = env 10 ∧ env' 11 = env 11 ∧ env' 12 = env 12 ∧ env' 15 = env 15 ∧ env' 16 = env 16 ∧
   s' = ⟨O.set p (.cells 102 (rrC (if (acc.drop i).any (fun y => decide (y.1 = key)) = true then x.fail at_ 7 else x))), B⟩) := by
 intro j
 induction j with
 | zero =>
  intro i x env hj hi hx h10 h14 h15 h16 h17
  have : i = acc.length := by omega
  subst this
  have hm' : ∀ o, (O.set p o)[m]? = some (.cells 46 (mkP (.sl ow (dF acc)))) := fun o => by rw [List.getElem?_set_ne hpm]; exact hm
  simp only [mkP] at hm'
  refine aH G false _ _ af210l0.eq_1 _ _ _ ?_
  simp [h10, h17, ↓hm', fF]
 | succ j ih =>
  intro i x env hj hi hx h10 h14 h15 h16 h17
  have hlt : i < acc.length := by omega
  have hd := List.drop_eq_getElem_cons hlt
  have hm' : ∀ o, (O.set p o)[m]? = some (.cells 46 (mkP (.sl ow (dF acc)))) := fun o => by rw [List.getElem?_set_ne hpm]; exact hm
  have hp' : ∀ o, (O.set p o)[p]? = some o := fun o => List.getElem?_set_self hp
  have hw : IntKind.i64.wrap ((i : Int) + 1) = ((i + 1 : Nat) : Int) := by rw [aD (by omega) (by omega)]; omega
  have hgt := List.getElem?_eq_getElem hlt
  simp only [mkP] at hm'
  rw [hd]
  generalize hy : acc[i] = y at *
  obtain ⟨ky, vy⟩ := y
  have hti : (dF acc)[i]? = some (.agg (.str ky :: vc vy)) := by rw [sE, hgt]; rfl
  have hti' : (dF acc)[((i : Nat) : Int).toNat]? = some (.agg (.str ky :: vc vy)) := by rw [Int.toNat_natCast]; exact hti
  refine aH G false _ _ af210l0.eq_1 _ _ _ ?_
  by_cases hk : ky = key
  ·have hkt := eq_true hk
   have hfl := fun S => jX hx at_ 7 S
   have hnx := fun env => ih (i + 1) (x.fail at_ 7) env (by omega) (by omega) (gI hx _ _)
   have hff : (x.fail at_ 7).fail at_ 7 = x.fail at_ 7 := by
    unfold Qj.fail
    by_cases he : x.e = 0 <;> simp [he]
   rw [hff, ite_self] at hnx
   simp only [List.any_cons, hk, decide_true, Bool.true_or, if_true]
   have hpl := aE x.L
   generalize x.fail at_ 7 = x2 at *
   obtain ⟨L, k, n, e, a⟩ := x
   obtain ⟨L2, k2, n2, e2, a2⟩ := x2
   simp only at hpl
   simp only [rrV, rrC] at hfl hnx ⊢
   simp [h10, h14, h15, h16, h17, ↓hm', ↓hp', fF, hlt, ↓hti, ↓hti', hkt, hpl, hfl, aI, aY, aK, V.one, aB, hw, List.set_set]
   refine Out.mono (hnx _ (by simp [h10]) (by simp [h14]) (by simp [h15]) (by simp [h16]) (by simp)) ?_
   rintro ex env' s' ⟨rfl, w1, w2, w3, w4, w8, w9, w10, w11, w12, w15, w16, w⟩
   simp at w1 w2 w3 w4 w8 w9 w10 w11 w12 w15 w16
   exact ⟨rfl, w1, w2, w3, w4, w8, w9, w10.trans h10, w11, w12, w15.trans h15, w16.trans h16, w⟩
  ·have hkt := eq_false hk
   have hnx := fun env => ih (i + 1) x env (by omega) (by omega) hx
   simp only [List.any_cons, hk, decide_false, Bool.false_or]
   simp [h10, h14, h15, h16, h17, ↓hm', ↓hp', fF, hlt, ↓hti, ↓hti', hkt, hw]
   refine Out.mono (hnx _ (by simp [h10]) (by simp [h14]) (by simp [h15]) (by simp [h16]) (by simp)) ?_
   rintro ex env' s' ⟨rfl, w1, w2, w3, w4, w8, w9, w10, w11, w12, w15, w16, w⟩
   simp at w1 w2 w3 w4 w8 w9 w10 w11 w12 w15 w16
   exact ⟨rfl, w1, w2, w3, w4, w8, w9, w10.trans h10, w11, w12, w15.trans h15, w16.trans h16, w⟩
end
section
variable {c : Bool} {d : Nat} {s : St}
def MO (s : St) (q : Qj) (acc : List (List UInt8 × JV)) (J : List Qw) : St := MM s q (mkP (.sl (bF s.bufs acc) (dF acc))) (dH (96, 63) acc) J
def OOk (s : St) (L : List Tok) (p : Qk × List (List UInt8 × JV)) (s' : St) : Prop := ∃ q' J', q'.fine ∧ q'.L = L ∧ q'.rs.over = false ∧ q'.e = 0 ∧ q'.rs.tl = p.1 ∧ s' = MO s q' p.2 J'
def Qj.key (q : Qj) (acc : List (List UInt8 × JV)) : Qj :=
 (if acc.any (fun p => decide (p.1 = q.name.2)) = true then q.name.1.fail q.rs.at_ 7 else q.name.1).must [58]
theorem Jz (q : Qj) (acc : List (List UInt8 × JV)) : (q.key acc).rs = (q.rs.key acc).1 := by
 obtain ⟨n1, n2⟩ := pZ q
 unfold Qj.key Qk.key
 rw [Ay, n2]
 split
 ·rw [pY, n1]
 ·rw [n1]
theorem uA (q : Qj) (x : List UInt8) : (q.must x).L = q.L := by
 unfold Qj.must Qj.form Qj.fail
 repeat' split
 all_goals rfl
theorem pM (q : Qj) (p e : Int) : (q.fail p e).L = q.L := by
 unfold Qj.fail
 split <;> rfl
theorem pS (q : Qj) : q.name.1.L = q.L := by
 unfold Qj.name Qj.form Qj.fail
 repeat' split
 all_goals rfl
theorem Jy {q : Qj} (h : q.ok) (acc : List (List UInt8 × JV)) : (q.key acc).ok ∧ (q.key acc).L = q.L := by
 unfold Qj.key
 split
 ·exact ⟨rP (gI (lQ h) _ _) _, by rw [uA, pM, pS]⟩
 ·exact ⟨rP (lQ h) _, by rw [uA, pS]⟩
set_option maxHeartbeats 4000000 in
theorem HH (hv : RSp c d) : ∀ (n : Nat) (q : Qj) (acc : List (List UInt8 × JV)) (J : List Qw) (k : Nat) (env : Env), q.rs.mu < n → k + q.rs.mu ≤ 950 → q.fine → q.e = 0 → acc.length ≤ k →
  env 1 = .int .i64 d → env 2 = .bool c → env 3 = .bool true → env 4 = .ptr s.obs.length 0 → env 8 = .ptr (s.obs.length + 1) 0 → env 9 = .ptr (s.obs.length + 2) 0 → env 10 = .ptr (s.obs.length + 3) 0 → env 11 = .str [125] → env 12 = .int .i64 k →
  Out (evC G (.loop false af210l1) env (MO s q acc J)) (fun ex env' s' => env' 8 = .ptr (s.obs.length + 1) 0 ∧ env' 9 = .ptr (s.obs.length + 2) 0 ∧
   ((ex = .exit 0 ∧ env' 4 = .ptr s.obs.length 0 ∧ env' 10 = .ptr (s.obs.length + 3) 0 ∧ OOk s q.L (Qk.obj (Qk.val c d) n q.rs acc) s') ∨ (ex = .ret ∧ IC s q.L (Qk.obj (Qk.val c d) n q.rs acc).1 s'))) := by
 intro n
 induction n with
 | zero => intro q acc J k env h; omega
 | succ n ih =>
  intro q acc J k env hn hk hf hq0 hal h1 h2 h3 h4 h8 h9 h10 h11 h12
  have his := fun S => gF hf.ok [125] S
  have hpl := aE q.L
  have hkl : (k : Int) < 1000 := by omega
  have hwk : IntKind.i64.wrap ((k : Int) + 1) = (k : Int) + 1 := aD (by omega) (by omega)
  refine aH G false _ _ af210l1.eq_1 _ _ _ ?_
  rw [Qk.obj]
  simp only [MO]
  generalize hm : mkP (.sl (bF s.bufs acc) (dF acc)) = m
  generalize hbx : dH (96, 63) acc = bx
  have hm0 := Cv (s := s) q m bx J
  by_cases hi : q.rs.is [125] = true
  ·rw [if_pos hi]
   simp only [rrV, rrC] at his hm0
   simp [h1, h2, h3, h4, h8, h9, h10, h11, h12, hkl, ↓hm0, hpl, his, hi]
   exact ⟨q, J, hf, rfl, kW hi, hq0, rfl, by rw [MO, hm, hbx]⟩
  ·have hi' : q.rs.is [125] = false := by simpa using hi
   rw [if_neg hi, if_neg (show ¬ q.rs.e ≠ 0 from fun h => h hq0)]
   have hat := fun S => kS hf.ok S
   have hnm := fun S => lU hf.ok S
   have hok1 := lQ hf.ok
   obtain ⟨hKok, hKL⟩ := Jy hf.ok acc
   have hKf := vC hf hKok hKL
   have hKrs := Jz q acc
   have hK2 : (q.rs.key acc).2 = q.name.2 := (pZ q).2.symm
   rw [hK2, ← hKrs]
   have hkeyeq : q.key acc = (if acc.any (fun p => decide (p.1 = q.name.2)) = true then q.name.1.fail q.rs.at_ 7 else q.name.1).must [58] := rfl
   obtain ⟨v1, v2, v3⟩ := jR c d (q.key acc).rs
   have hmu : (Qk.val c d (q.key acc).rs).1.mu < q.rs.mu := by
    have hm0 : (q.key acc).rs.mu ≤ q.rs.mu := by rw [hKrs]; exact Ho (fun h => absurd hq0 h) (Eu q.rs acc).length_le
    have hm1 : 1 ≤ q.rs.mu := by unfold Qk.mu; rw [if_pos (show q.rs.e = 0 from hq0)]; omega
    by_cases hke : (q.key acc).rs.e = 0
    ·have := v3 hke; omega
    ·have : (Qk.val c d (q.key acc).rs).1.mu = 0 := by unfold Qk.mu; rw [if_neg (v1 hke)]
     omega
   have hval := fun S => hv (q.key acc) hKf S
   have hms : ∀ S, call G 68 [rrV (if acc.any (fun p => decide (p.1 = q.name.2)) = true then q.name.1.fail q.rs.at_ 7 else q.name.1), .str [58]] S = some (rrV (q.key acc), S) := fun S => by
    rw [hkeyeq]
    refine lT ?_ _ _
    split
    ·exact gI hok1 _ _
    ·exact hok1
   clear hkeyeq hKrs v1 v2 v3
   generalize q.key acc = K at *
   have htw := fun O B p mm hp hmm hpm j i env hj hi => @Gj O B p mm (bF s.bufs acc) acc q.name.2 q.rs.at_ hp hmm hpm (by omega) j i q.name.1 env hj hi hok1
   have htw0 := fun O B p mm hp hmm hpm env => htw O B p mm hp hmm hpm acc.length 0 env (by omega) (by omega)
   simp only [List.drop_zero] at htw0
   generalize hx2 : (if acc.any (fun p => decide (p.1 = q.name.2)) = true then q.name.1.fail q.rs.at_ 7 else q.name.1) = x2 at *
   generalize q.name.1 = x1 at *
   generalize q.name.2 = key at *
   generalize q.rs.at_ = at_ at *
   have hpl1 := aE x1.L
   have hpl2 := aE x2.L
   have hplK := aE K.L
   clear htw
   have hTw : ∀ (env : Env), env 10 = .ptr (s.obs.length + 3) 0 → env 14 = .int .i64 at_ → env 15 = .ptr (s.obs.length + 4 + J.length) 0 → env 16 = .str key → env 17 = .int .i64 0 →
     Out (evC G (.loop false af210l0) env (MM s q m bx (J ++ [.cells 102 (rrC x1)]))) (fun ex env' s' => ex = .exit 2 ∧ env' 1 = env 1 ∧ env' 2 = env 2 ∧ env' 3 = env 3 ∧ env' 4 = env 4 ∧ env' 8 = env 8 ∧ env' 9 = env 9 ∧ env' 10 = env 10 ∧ env' 11 = env 11 ∧ env' 12 = env 12 ∧ env' 15 = env 15 ∧ env' 16 = env 16 ∧
      s' = MM s q m bx (J ++ [.cells 102 (rrC x2)])) := by
    intro env e10 e14 e15 e16 e17
    have hlen1 := zD (s := s) q m bx J (.cells 102 (rrC x1))
    have h3m : (MM s q m bx (J ++ [.cells 102 (rrC x1)])).obs[s.obs.length + 3]? = some (.cells 46 (mkP (.sl (bF s.bufs acc) (dF acc)))) := by rw [hm]; exact Gn _ _ _ _
    have := htw0 (MM s q m bx (J ++ [.cells 102 (rrC x1)])).obs (MM s q m bx (J ++ [.cells 102 (rrC x1)])).bufs (s.obs.length + 4 + J.length) (s.obs.length + 3) (by omega) h3m (by omega) env e10 e14 e15 e16 (by simpa using e17)
    rw [qY, qY] at this
    exact this
   clear htw0
   obtain ⟨q', hc0, hrs, hok', hL'⟩ := hval (MM s K m bx (J ++ [.cells 102 (rrC x2)]))
   clear hval
   have hf' := vC hKf hok' hL'
   have hLq : q'.L = q.L := hL'.trans hKL
   have hfz : fzV (Qk.val c d K.rs) = if q'.e = 0 then (Qk.val c d K.rs).2 else jNull := by
    unfold fzV; rw [← hrs]; rfl
   rw [hfz] at hc0
   rw [← hrs] at hmu ⊢
   generalize (Qk.val c d K.rs).2 = v at *
   have hpl' := aE q'.L
   have hlen2 : ∀ (q0 : Qj) (a b : Qw), (MM s q0 m bx (J ++ [a, b])).obs.length = s.obs.length + 4 + J.length + 2 := fun q0 a b => by rw [zC]; simp; omega
   have hsetK := fun J2 => uK (s := s) q m bx J2 K
   have hsetq := fun J2 => uK (s := s) K m bx J2 q'
   have h3m : ∀ q0 J2, (MM s q0 m bx J2).obs[s.obs.length + 3]? = some (.cells 46 (mkP (.sl (bF s.bufs acc) (dF acc)))) := fun q0 J2 => by rw [hm]; exact Gn _ _ _ _
   have hm0g := fun q0 J2 => Cv (s := s) q0 m bx J2
   have hgj := fun q0 J2 i => zA (s := s) q0 m bx J J2 i
   have hgj0 := fun q0 J2 => zB (s := s) q0 m bx J J2
   have hsj := fun q0 J2 i o => zE (s := s) q0 m bx J J2 i o
   have hsj0 := fun q0 J2 o => qY (s := s) q0 m bx J J2 o
   have hpush := fun q0 J1 J2 => Ec (s := s) q0 m bx J1 J2
   have hlen := fun q0 => zC (s := s) q0 m bx J
   have hlen1 := fun q0 a => zD (s := s) q0 m bx J a
   by_cases he : q'.e = 0
   ·rw [if_pos he] at hc0
    have hnx := fun env => ih q' (acc ++ [(key, v)]) (J ++ [.cells 102 (rrC x2), .cells 102 (rrC q'), .cells 46 (vc v)]) (k + 1) env (by omega) (by omega) hf' he (by simp; omega)
    simp only [MO] at hnx
    have hroom : iJ = 140737488355328 := by decide
    have hap : ∀ o, gU false 6 (96, 63) (.sl (bF s.bufs acc) (dF acc)) (.sl o [pv (key, v)]) (MM s q' m bx (J ++ [.cells 102 (rrC x2), .cells 102 (rrC q'), .cells 46 (vc v)])) = some (.sl (.buf s.bufs.length) (dF acc ++ [pv (key, v)]), ⟨(MM s q' m bx (J ++ [.cells 102 (rrC x2), .cells 102 (rrC q'), .cells 46 (vc v)])).obs, s.bufs ++ [(acc.length + 1, 96, 63)]⟩) := fun o => by
     rw [← hbx]
     exact nC dF rfl fF 6 96 63 o (pv (key, v)) xV (by simp [pv]) acc (by rw [hroom]; omega) _ s.bufs
    have hst : (⟨(MM s q' m bx (J ++ [.cells 102 (rrC x2), .cells 102 (rrC q'), .cells 46 (vc v)])).obs.set (s.obs.length + 3) (.cells 46 [.int .i64 5, .int .i64 0, .str [], .sl .nil [], .sl (.buf s.bufs.length) (dF acc ++ [pv (key, v)])]), s.bufs ++ [(acc.length + 1, 96, 63)]⟩ : St) = MM s q' (mkP (.sl (bF s.bufs (acc ++ [(key, v)])) (dF (acc ++ [(key, v)])))) (dH (96, 63) (acc ++ [(key, v)])) (J ++ [.cells 102 (rrC x2), .cells 102 (rrC q'), .cells 46 (vc v)]) := by
     have hne : acc ++ [(key, v)] ≠ [] := by simp
     simp only [mkP, bF, dH, hne, if_false, Cj, List.length_append, List.length_cons, List.length_nil]
     exact Ed q' m bx _ _ _
    rw [hLq] at hnx
    clear hf hKok hKL hKf hL' hrs hfz hf' hok' hLq hok1
    obtain ⟨k2, n2, s2, ll, ff⟩ := v
    obtain ⟨L', k', n', e', a'⟩ := q'
    simp only at he hpl'
    subst he
    simp only [rrV, rrC, toV, vc, mkP, pv] at his hat hnm hms hTw hc0 hsetK hsetq h3m hm0g hap hst hnx
    simp [h1, h2, h3, h4, h8, h9, h10, h11, h12, hkl, hwk, ↓hm0g, hpl, his, hi', hat, hnm, hlen, hlen1, hlen2, ↓hgj, ↓hgj0, hsj, hsj0, hpush, aI, aY, aK, V.one, aB]
    refine Out.mono (hTw _ (by simp [h10]) (by simp) (by simp) (by simp) (by simp)) ?_
    rintro ex env1 s1 ⟨rfl, w1, w2, w3, w4, w8, w9, w10, w11, w12, w15, w16, rfl⟩
    simp [h1, h2, h3, h4, h8, h9, h10, h11, h12] at w1 w2 w3 w4 w8 w9 w10 w11 w12 w15 w16
    simp [w1, w2, w3, w4, w8, w9, w10, w11, w12, w15, w16, hkl, hwk, ↓hm0g, hpl2, hplK, hms, hsetK, hsetq, hc0, hlen, hlen1, hlen2, ↓hgj, ↓hgj0, hsj, hsj0, hpush, ↓h3m, aI, aY, aK, V.one, aB, hap, hst]
    refine Out.mono (hnx _ (by simp [w1]) (by simp [w2]) (by simp [w3]) (by simp [w4]) (by simp [w8]) (by simp [w9]) (by simp [w10]) (by simp [w11]) (by simp)) ?_
    rintro ex env' s' ⟨w8, w9, ⟨rfl, w4, w10, hq⟩ | ⟨rfl, hq⟩⟩
    ·exact ⟨w8, w9, .inl ⟨rfl, w4, w10, hq⟩⟩
    ·exact ⟨w8, w9, .inr ⟨rfl, hq⟩⟩
   ·rw [if_neg he] at hc0
    have hbad := Jp (Qk.val c d) (R := q'.rs) he n (acc ++ [(key, v)])
    have hm1 := IE (s := s) q' m bx (J ++ [.cells 102 (rrC x2), .cells 102 (rrC q'), .cells 46 (vc jNull)])
    have hs1 := tT (s := s) q' m bx (J ++ [.cells 102 (rrC x2), .cells 102 (rrC q'), .cells 46 (vc jNull)]) (.cells 102 (rrC q'))
    have hfx : ∀ a b x X, (s.obs ++ a :: b :: x :: X)[s.obs.length + 2]? = some x := fun a b x X => by rw [List.getElem?_append_right (by omega)]; simp
    have hfs : ∀ a b x X o, (s.obs ++ a :: b :: x :: X).set (s.obs.length + 2) o = s.obs ++ a :: b :: o :: X := fun a b x X o => by rw [List.set_append_right _ _ (by omega)]; simp
    have hbf : ∀ J2, (MM s q' m bx J2).bufs = s.bufs ++ bx := fun _ => rfl
    have hgoal : ∀ X, IC s q.L (Qk.obj (Qk.val c d) n q'.rs (acc ++ [(key, v)])).1 ⟨s.obs ++ (.cells 102 (rrC q') :: .cells 102 (rrC q') :: .cells 46 zL :: X), s.bufs ++ bx⟩ := fun X => ⟨q', X, bx, hf', hLq, hbad.symm, he, rfl⟩
    have het : (q'.e = 0) = False := eq_false he
    clear hv ih hfz hbad hf hKok hKL hKf hL' hrs hf' hok' hLq hok1
    obtain ⟨L', k', n', e', a'⟩ := q'
    simp only at het hpl'
    simp only [rrV, rrC, toV, vc, jNull, dJ, dF] at his hat hnm hms hTw hc0 hsetK hsetq hm0g hm1 hs1 hgoal
    simp [h1, h2, h3, h4, h8, h9, h10, h11, h12, hkl, hwk, ↓hm0g, hpl, his, hi', hat, hnm, hlen, hlen1, hlen2, ↓hgj, ↓hgj0, hsj, hsj0, hpush, aI, aY, aK, V.one, aB]
    refine Out.mono (hTw _ (by simp [h10]) (by simp) (by simp) (by simp) (by simp)) ?_
    rintro ex env1 s1 ⟨rfl, w1, w2, w3, w4, w8, w9, w10, w11, w12, w15, w16, rfl⟩
    simp [h1, h2, h3, h4, h8, h9, h10, h11, h12] at w1 w2 w3 w4 w8 w9 w10 w11 w12 w15 w16
    simp [w1, w2, w3, w4, w8, w9, w10, w11, w12, w15, w16, hkl, hwk, ↓hm0g, hpl2, hplK, hpl', hms, hsetK, hsetq, hc0, hlen, hlen1, hlen2, ↓hgj, ↓hgj0, hsj, hsj0, hpush, aI, aY, aK, V.one, aB, het, ↓hm1, hs1, hfx, hfs, hbf]
    exact hgoal _
end
section
variable {c : Bool} {d : Nat} {q : Qj}
theorem Fs (s : St) (q' : Qj) (X : List Qw) (bx : List (Nat × Nat × TypeId)) (ow : Own) (acc : List JV) :
  fin false s ⟨s.obs ++ X, s.bufs ++ bx⟩ (.tup [.agg (rrC q'), .agg [.int .i64 4, .int .i64 0, .str [], .sl ow (dJ acc), .sl .nil []]]) = (.tup [rrV q', toV (.mk 4 0 [] acc [])], s) := by
 have h1 := aE q'.L
 have h2 := bE q'.L
 rw [vB _ _ _ _ (by simp [rrC, h1, h2])]
 simp [rrV, rrC, h1, vc, dF]
theorem Ft (s : St) (q' : Qj) (X : List Qw) (bx : List (Nat × Nat × TypeId)) (ow : Own) (acc : List (List UInt8 × JV)) :
  fin false s ⟨s.obs ++ X, s.bufs ++ bx⟩ (.tup [.agg (rrC q'), .agg [.int .i64 5, .int .i64 0, .str [], .sl .nil [], .sl ow (dF acc)]]) = (.tup [rrV q', toV (.mk 5 0 [] [] acc)], s) := by
 have h1 := aE q'.L
 have h2 := bE q'.L
 rw [vB _ _ _ _ (by simp [rrC, h1, h2])]
 simp [rrV, rrC, h1, vc, dJ]
theorem yI (s : St) (q' : Qj) (X : List Qw) (bx : List (Nat × Nat × TypeId)) :
  fin false s ⟨s.obs ++ X, s.bufs ++ bx⟩ (.tup [.agg (rrC q'), .agg zL]) = (.tup [rrV q', toV jNull], s) := by
 have h1 := aE q'.L
 have h2 := bE q'.L
 rw [vB _ _ _ _ (by simp [rrC, h1, h2])]
 simp [rrV, rrC, h1, jNull, vc, dJ, dF]
def tF (s : St) (L : List Tok) (R : Qk) (w : JV) (v : V) (s' : St) : Prop := s' = s ∧ ∃ q' : Qj, v = .tup [rrV q', toV (if q'.e = 0 then w else jNull)] ∧ q'.rs = R ∧ q'.ok ∧ q'.L = L
set_option maxHeartbeats 2000000 in
theorem Dq (hv : RSp c d) (hf : q.fine) (hq0 : q.e = 0) {n : Nat} (hn : q.rs.mu < n) (s : St) :
  ∃ q' : Qj, call G 210 [rrV q, .int .i64 d, .bool c, .bool false] s = some (.tup [rrV q', toV (if q'.e = 0 then .mk 4 0 [] (Qk.lst (Qk.val c d) n q.rs []).2 [] else jNull)], s) ∧ q'.rs = (Qk.lst (Qk.val c d) n q.rs []).1 ∧ q'.ok ∧ q'.L = q.L := by
 have hmu := Ep hf
 have hlp := fun env => FK (s := s) hv n q [] [] 0 env hn (by omega) hf hq0 (by simp)
 generalize hp : Qk.lst (Qk.val c d) n q.rs [] = p at *
 obtain ⟨R', acc'⟩ := p
 simp only at hlp
 have key : ∃ r, call G 210 [rrV q, .int .i64 d, .bool c, .bool false] s = some r ∧ tF s q.L R' (.mk 4 0 [] acc' []) r.1 r.2 := by
  refine kM (G := G) (f := 210) (F := af210) (T := tF s q.L R' (.mk 4 0 [] acc' [])) rfl rfl ?_
  have hpl := aE q.L
  have hst0 : (⟨s.obs ++ [.cells 102 (rrC q), .cells 102 zR, .cells 46 zL, .cells 46 [.int .i64 4, .int .i64 0, .str [], .sl .nil [], .sl .nil []]], s.bufs⟩ : St) = ML s q [] [] := by
   simp [ML, MM, mkL, bF, dH, dJ]
  have hL0 := hpl
  clear hf hq0 hn hmu hp
  obtain ⟨L, k, nn, e, a⟩ := q
  simp only at hpl
  simp only [rrV, rrC] at hst0 ⊢
  simp [af210, af210b, hpl, aI, aY, aK, V.one, aB, hst0]
  refine Out.mono (hlp _ (by simp) (by simp) (by simp) (by simp) (by simp) (by simp) (by simp) (by simp) (by simp)) ?_
  rintro ex env' s' ⟨w8, w9, ⟨rfl, w4, w10, hq⟩ | ⟨rfl, hq⟩⟩
  ·obtain ⟨q2, J', x1, x2, x3, x4, x5, rfl⟩ := hq
   have hset : ∀ m bx J2, (⟨(MM s q2 m bx J2).obs.set s.obs.length (.cells 102 (rrC q2.inc)), s.bufs ++ bx⟩ : St) = MM s q2.inc m bx J2 := fun m bx J2 => uK (s := s) q2 m bx J2 q2.inc
   have h0 := fun q m bx J2 => Cv (s := s) q m bx J2
   have h1 := fun q m bx J2 => IE (s := s) q m bx J2
   have h3 := fun q m bx J2 => Gn (s := s) q m bx J2
   have hs1 := fun m bx J2 => tT (s := s) q2.inc m bx J2
   have hfx : ∀ a b x X, (s.obs ++ a :: b :: x :: X)[s.obs.length + 2]? = some x := fun a b x X => by rw [List.getElem?_append_right (by omega)]; simp
   have hfs : ∀ a b x X o, (s.obs ++ a :: b :: x :: X).set (s.obs.length + 2) o = s.obs ++ a :: b :: o :: X := fun a b x X o => by rw [List.set_append_right _ _ (by omega)]; simp
   have hbf : ∀ q m bx J2, (MM s q m bx J2).bufs = s.bufs ++ bx := fun _ _ _ _ => rfl
   have hw : IntKind.i64.wrap ((q2.k : Int) + 1) = (q2.k : Int) + 1 := aD (by omega) (by have := x1.ok.2.1; have := x1.ok.2.2; omega)
   have hfin := fun X bx ow acc => Fs s q2.inc X bx ow acc
   have hT : tF s L R' (.mk 4 0 [] acc' []) (.tup [rrV q2.inc, toV (.mk 4 0 [] acc' [])]) s := by
    refine ⟨rfl, q2.inc, ?_, by rw [iW]; exact x5, mD x1.ok x3, x2⟩
    rw [if_pos (show q2.inc.e = 0 from x4)]
   have hpl2 := aE q2.L
   simp only [ML]
   generalize hm : dH (80, 46) acc' = bx
   clear x1 x2 x3 x4 x5 hv hlp
   obtain ⟨L2, k2, n2, e2, a2⟩ := q2
   simp only at hw hpl2
   simp only [rrV, rrC, Qj.inc, mkL] at hset h0 hs1 hfin hT ⊢
   push_cast at hset hs1 hfin hT
   simp [w4, w8, w9, w10, ↓h0, hw, hset, ↓h1, ↓h3, hs1, hfx, hfs, hbf, aI, aK, V.one, aB, aR, aN, aM, bA, aT, aQ, cE]
   exact ⟨_, _, hfin _ _ _ _, hT⟩
  ·obtain ⟨q2, X, bx, x1, x2, x3, x4, rfl⟩ := hq
   have hfin := yI s q2 (.cells 102 (rrC q2) :: .cells 102 (rrC q2) :: .cells 46 zL :: X) bx
   have g1 : ∀ a b X, (s.obs ++ a :: b :: X)[s.obs.length + 1]? = some b := fun a b X => by rw [List.getElem?_append_right (by omega)]; simp
   have g2 : ∀ a b x X, (s.obs ++ a :: b :: x :: X)[s.obs.length + 2]? = some x := fun a b x X => by rw [List.getElem?_append_right (by omega)]; simp
   have hT : tF s L R' (.mk 4 0 [] acc' []) (.tup [rrV q2, toV jNull]) s := by
    refine ⟨rfl, q2, ?_, x3, x1.ok, x2⟩
    rw [if_neg x4]
   simp only [rrV, rrC] at hfin hT ⊢
   simp [w8, w9, g1, g2]
   exact ⟨_, _, hfin, hT⟩
 obtain ⟨⟨v, s'⟩, hc, rfl, q', rfl, h1, h2, h3⟩ := key
 exact ⟨q', hc, h1, h2, h3⟩
set_option maxHeartbeats 2000000 in
theorem FM (hv : RSp c d) (hf : q.fine) (hq0 : q.e = 0) {n : Nat} (hn : q.rs.mu < n) (s : St) :
  ∃ q' : Qj, call G 210 [rrV q, .int .i64 d, .bool c, .bool true] s = some (.tup [rrV q', toV (if q'.e = 0 then .mk 5 0 [] [] (Qk.obj (Qk.val c d) n q.rs []).2 else jNull)], s) ∧ q'.rs = (Qk.obj (Qk.val c d) n q.rs []).1 ∧ q'.ok ∧ q'.L = q.L := by
 have hmu := Ep hf
 have hlp := fun env => HH (s := s) hv n q [] [] 0 env hn (by omega) hf hq0 (by simp)
 generalize hp : Qk.obj (Qk.val c d) n q.rs [] = p at *
 obtain ⟨R', acc'⟩ := p
 simp only at hlp
 have key : ∃ r, call G 210 [rrV q, .int .i64 d, .bool c, .bool true] s = some r ∧ tF s q.L R' (.mk 5 0 [] [] acc') r.1 r.2 := by
  refine kM (G := G) (f := 210) (F := af210) (T := tF s q.L R' (.mk 5 0 [] [] acc')) rfl rfl ?_
  have hpl := aE q.L
  have hst0 : (⟨s.obs ++ [.cells 102 (rrC q), .cells 102 zR, .cells 46 zL, .cells 46 [.int .i64 5, .int .i64 0, .str [], .sl .nil [], .sl .nil []]], s.bufs⟩ : St) = MO s q [] [] := by
   simp [MO, MM, mkP, bF, dH, dF]
  have hL0 := hpl
  clear hf hq0 hn hmu hp
  obtain ⟨L, k, nn, e, a⟩ := q
  simp only at hpl
  simp only [rrV, rrC] at hst0 ⊢
  simp [af210, af210b, hpl, aI, aY, aK, V.one, aB, hst0]
  refine Out.mono (hlp _ (by simp) (by simp) (by simp) (by simp) (by simp) (by simp) (by simp) (by simp) (by simp)) ?_
  rintro ex env' s' ⟨w8, w9, ⟨rfl, w4, w10, hq⟩ | ⟨rfl, hq⟩⟩
  ·obtain ⟨q2, J', x1, x2, x3, x4, x5, rfl⟩ := hq
   have hset : ∀ m bx J2, (⟨(MM s q2 m bx J2).obs.set s.obs.length (.cells 102 (rrC q2.inc)), s.bufs ++ bx⟩ : St) = MM s q2.inc m bx J2 := fun m bx J2 => uK (s := s) q2 m bx J2 q2.inc
   have h0 := fun q m bx J2 => Cv (s := s) q m bx J2
   have h1 := fun q m bx J2 => IE (s := s) q m bx J2
   have h3 := fun q m bx J2 => Gn (s := s) q m bx J2
   have hs1 := fun m bx J2 => tT (s := s) q2.inc m bx J2
   have hfx : ∀ a b x X, (s.obs ++ a :: b :: x :: X)[s.obs.length + 2]? = some x := fun a b x X => by rw [List.getElem?_append_right (by omega)]; simp
   have hfs : ∀ a b x X o, (s.obs ++ a :: b :: x :: X).set (s.obs.length + 2) o = s.obs ++ a :: b :: o :: X := fun a b x X o => by rw [List.set_append_right _ _ (by omega)]; simp
   have hbf : ∀ q m bx J2, (MM s q m bx J2).bufs = s.bufs ++ bx := fun _ _ _ _ => rfl
   have hw : IntKind.i64.wrap ((q2.k : Int) + 1) = (q2.k : Int) + 1 := aD (by omega) (by have := x1.ok.2.1; have := x1.ok.2.2; omega)
   have hfin := fun X bx ow acc => Ft s q2.inc X bx ow acc
   have hT : tF s L R' (.mk 5 0 [] [] acc') (.tup [rrV q2.inc, toV (.mk 5 0 [] [] acc')]) s := by
    refine ⟨rfl, q2.inc, ?_, by rw [iW]; exact x5, mD x1.ok x3, x2⟩
    rw [if_pos (show q2.inc.e = 0 from x4)]
   have hpl2 := aE q2.L
   simp only [MO]
   generalize hm : dH (96, 63) acc' = bx
   clear x1 x2 x3 x4 x5 hv hlp
   obtain ⟨L2, k2, n2, e2, a2⟩ := q2
   simp only at hw hpl2
   simp only [rrV, rrC, Qj.inc, mkP] at hset h0 hs1 hfin hT ⊢
   push_cast at hset hs1 hfin hT
   simp [w4, w8, w9, w10, ↓h0, hw, hset, ↓h1, ↓h3, hs1, hfx, hfs, hbf, aI, aK, V.one, aB, aR, aN, aM, bA, aT, aQ, cE]
   exact ⟨_, _, hfin _ _ _ _, hT⟩
  ·obtain ⟨q2, X, bx, x1, x2, x3, x4, rfl⟩ := hq
   have hfin := yI s q2 (.cells 102 (rrC q2) :: .cells 102 (rrC q2) :: .cells 46 zL :: X) bx
   have g1 : ∀ a b X, (s.obs ++ a :: b :: X)[s.obs.length + 1]? = some b := fun a b X => by rw [List.getElem?_append_right (by omega)]; simp
   have g2 : ∀ a b x X, (s.obs ++ a :: b :: x :: X)[s.obs.length + 2]? = some x := fun a b x X => by rw [List.getElem?_append_right (by omega)]; simp
   have hT : tF s L R' (.mk 5 0 [] [] acc') (.tup [rrV q2, toV jNull]) s := by
    refine ⟨rfl, q2, ?_, x3, x1.ok, x2⟩
    rw [if_neg x4]
   simp only [rrV, rrC] at hfin hT ⊢
   simp [w8, w9, g1, g2]
   exact ⟨_, _, hfin, hT⟩
 obtain ⟨⟨v, s'⟩, hc, rfl, q', rfl, h1, h2, h3⟩ := key
 exact ⟨q', hc, h1, h2, h3⟩
end
theorem qS (s : St) (q' : Qj) (X : List Qw) (k n : Int) (x : List UInt8) :
  fin false s ⟨s.obs ++ X, s.bufs⟩ (.tup [.agg (rrC q'), .agg [.int .i64 k, .int .i64 n, .str x, .sl .nil [], .sl .nil []]]) = (.tup [rrV q', toV (.mk k n x [] [])], s) := by
 have h1 := aE q'.L
 have h2 := bE q'.L
 rw [bZ _ _ _ (by simp [rrC, h1, h2])]
 simp [rrV, rrC, h1, vc, dJ, dF]
theorem JC (s : St) (q' : Qj) (X : List Qw) (w : JV) :
  fin false s ⟨s.obs ++ X, s.bufs⟩ (.tup [.agg (rrC q'), .agg (vc w)]) = (.tup [rrV q', toV w], s) := by
 have h1 := aE q'.L
 have h2 := bE q'.L
 rw [bZ _ _ _ (by simp [rrC, h1, h2])]
 simp [rrV, rrC, h1]
section
variable {c : Bool} {q : Qj} {z : Int}
theorem sW (h : q.ok) (ho : q.rs.over = true) (s : St) : call G 132 [rrV q, .int .i64 z, .bool c] s = some (.tup [rrV q.form, toV jNull], s) := by
 have hpl := aE q.L
 have hud := bE q.L
 have h1 := eP h
 have h2 := lS h
 have hf := fun X => qS s q.form X
 generalize q.form = q2 at *
 have hpl2 := aE q2.L
 refine aC (F := af132) rfl rfl ?_
 obtain ⟨L, k, n, e, a⟩ := q
 obtain ⟨L2, k2, n2, e2, a2⟩ := q2
 simp only at hpl hud hpl2
 simp only [rrV, rrC, vc, toV] at h1 h2 hf ⊢
 simp [af132, af132b, hpl, hpl2, hud, h1, h2, ho, aI, aK, aB, V.one, hf, aL, aR, aN, aM, bA, aT, aQ, cE]
 rfl
theorem yQ (h : q.ok) (ho : q.rs.over = false) (hz : z < 1) (s : St) : call G 132 [rrV q, .int .i64 z, .bool c] s = some (.tup [rrV (q.fail q.rs.at_ 5), toV jNull], s) := by
 have hpl := aE q.L
 have hud := bE q.L
 have h1 := eP h
 have h2 := kS h
 have h3 := jX h q.rs.at_ 5
 have hf := fun X => qS s (q.fail q.rs.at_ 5) X
 generalize q.rs.at_ = p at *
 generalize q.fail p 5 = q2 at *
 have hpl2 := aE q2.L
 refine aC (F := af132) rfl rfl ?_
 obtain ⟨L, k, n, e, a⟩ := q
 obtain ⟨L2, k2, n2, e2, a2⟩ := q2
 simp only at hpl hud hpl2
 simp only [rrV, rrC, vc, toV] at h1 h2 h3 hf ⊢
 simp [af132, af132b, hpl, hpl2, hud, h1, h2, h3, ho, hz, aI, aK, aB, V.one, hf, aL, aR, aN, aM, bA, aT, aQ, cE]
 rfl
theorem HL (h : q.ok) (ho : q.rs.over = false) (hz : ¬ z < 1) {t : Tok} (hk : q.k < q.L.length) (hg : q.L[q.k]? = some t) (k3 : t.k = 3) (hnum : BA t.s) (s : St) :
  call G 132 [rrV q, .int .i64 z, .bool c] s = some (.tup [rrV q.inc, toV (.mk 2 (Bz t.s) [] [] [])], s) := by
 have hpl := aE q.L
 have hud := bE q.L
 have h1 := eP h
 have h2 := fun s => BB hnum s
 have hf := fun X => qS s q.inc X
 have hgt := kR hg
 have hgt' := hgt
 rw [Int.toNat_natCast] at hgt'
 have hw : IntKind.i64.wrap ((q.k : Int) + 1) = (q.k : Int) + 1 := aD (by omega) (by have := h.2.1; have := h.2.2; omega)
 refine aC (F := af132) rfl rfl ?_
 obtain ⟨L, k, n, e, a⟩ := q
 obtain ⟨tk, ts, ta⟩ := t
 simp only at hpl hud hgt hgt' hw k3 hk
 subst k3
 simp only [rrV, rrC, Qj.inc, vc, toV] at h1 hf ⊢
 push_cast at hf ⊢
 simp [af132, af132b, hpl, hud, h1, h2, ho, hz, ↓hgt, ↓hgt', fN, hw, aI, aY, aK, aB, V.one, hf, aL, aR, aN, aM, bA, aT, aQ, cE]
theorem HN (h : q.ok) (ho : q.rs.over = false) (hz : ¬ z < 1) {t : Tok} (hk : q.k < q.L.length) (hg : q.L[q.k]? = some t) (k3 : t.k = 4) (s : St) :
  call G 132 [rrV q, .int .i64 z, .bool c] s = some (.tup [rrV q.inc, toV (.mk 3 0 t.s [] [])], s) := by
 have hpl := aE q.L
 have hud := bE q.L
 have h1 := eP h
 have hf := fun X => qS s q.inc X
 have hgt := kR hg
 have hgt' := hgt
 rw [Int.toNat_natCast] at hgt'
 have hw : IntKind.i64.wrap ((q.k : Int) + 1) = (q.k : Int) + 1 := aD (by omega) (by have := h.2.1; have := h.2.2; omega)
 refine aC (F := af132) rfl rfl ?_
 obtain ⟨L, k, n, e, a⟩ := q
 obtain ⟨tk, ts, ta⟩ := t
 simp only at hpl hud hgt hgt' hw k3 hk
 subst k3
 simp only [rrV, rrC, Qj.inc, vc, toV] at h1 hf ⊢
 push_cast at hf ⊢
 simp [af132, af132b, hpl, hud, h1, ho, hz, ↓hgt, ↓hgt', fN, hw, aI, aY, aK, aB, V.one, hf, aL, aR, aN, aM, bA, aT, aQ, cE]
theorem FQ (h : q.ok) (ho : q.rs.over = false) (hz : ¬ z < 1) {t : Tok} (hk : q.k < q.L.length) (hg : q.L[q.k]? = some t) (k3 : t.k = 2) (s : St) :
  call G 132 [rrV q, .int .i64 z, .bool c] s = some (.tup [rrV q.inc, toV (iT t.s)], s) := by
 have hpl := aE q.L
 have hud := bE q.L
 have h1 := eP h
 have hf := fun X => qS s q.inc X
 have hgt := kR hg
 have hgt' := hgt
 rw [Int.toNat_natCast] at hgt'
 have hw : IntKind.i64.wrap ((q.k : Int) + 1) = (q.k : Int) + 1 := aD (by omega) (by have := h.2.1; have := h.2.2; omega)
 refine aC (F := af132) rfl rfl ?_
 obtain ⟨L, k, n, e, a⟩ := q
 obtain ⟨tk, ts, ta⟩ := t
 simp only at hpl hud hgt hgt' hw k3 hk
 subst k3
 simp only [rrV, rrC, Qj.inc, vc, toV] at h1 hf ⊢
 push_cast at hf ⊢
 by_cases e1 : ts = yW
 ·subst e1
  have hn : iT yW = jNull := rfl
  rw [hn]
  simp only [yW] at hgt hgt'
  simp [af132, af132b, hpl, hud, h1, ho, hz, ↓hgt, ↓hgt', fN, hw, aI, aY, aK, aB, V.one, hf, aL, aR, aN, aM, bA, aT, aQ, cE]
  rfl
 by_cases e2 : ts = yX
 ·subst e2
  have hn : iT yX = .mk 1 1 [] [] [] := rfl
  rw [hn]
  simp only [yX] at hgt hgt'
  simp [af132, af132b, hpl, hud, h1, ho, hz, ↓hgt, ↓hgt', fN, hw, aI, aY, aK, aB, V.one, hf, aL, aR, aN, aM, bA, aT, aQ, cE]
  rfl
 by_cases e3 : ts = tE
 ·subst e3
  have hn : iT tE = .mk 1 0 [] [] [] := rfl
  rw [hn]
  simp only [tE] at hgt hgt'
  simp [af132, af132b, hpl, hud, h1, ho, hz, ↓hgt, ↓hgt', fN, hw, aI, aY, aK, aB, V.one, hf, aL, aR, aN, aM, bA, aT, aQ, cE]
  rfl
 ·have hn : iT ts = .mk 6 0 ts [] [] := by unfold iT; rw [if_neg e1, if_neg e2, if_neg e3]
  have f1 : (ts = [110, 117, 108, 108]) = False := eq_false e1
  have f2 : (ts = [116, 114, 117, 101]) = False := eq_false e2
  have f3 : (ts = [102, 97, 108, 115, 101]) = False := eq_false e3
  rw [hn]
  simp [af132, af132b, hpl, hud, h1, ho, hz, f1, f2, f3, ↓hgt, ↓hgt', fN, hw, aI, aY, aK, aB, V.one, hf, aL, aR, aN, aM, bA, aT, aQ, cE]
  rfl
theorem yO (h : q.ok) (ho : q.rs.over = false) (hz : ¬ z < 1) {t : Tok} (hk : q.k < q.L.length) (hg : q.L[q.k]? = some t) (k3 : t.k = 1) (n1 : t.s ≠ [91]) (n2 : t.s ≠ [123]) (n3 : t.s ≠ [36] ∨ c = true) (s : St) :
  call G 132 [rrV q, .int .i64 z, .bool c] s = some (.tup [rrV q.form, toV jNull], s) := by
 have hpl := aE q.L
 have hud := bE q.L
 have h1 := eP h
 have h2 := lS h
 have hf := fun X => qS s q.form X
 generalize q.form = q2 at *
 have hpl2 := aE q2.L
 have hgt := kR hg
 have hgt' := hgt
 rw [Int.toNat_natCast] at hgt'
 have hw : IntKind.i64.wrap ((q.k : Int) + 1) = (q.k : Int) + 1 := aD (by omega) (by have := h.2.1; have := h.2.2; omega)
 refine aC (F := af132) rfl rfl ?_
 obtain ⟨L, k, n, e, a⟩ := q
 obtain ⟨L2, k2, n2', e2, a2⟩ := q2
 obtain ⟨tk, ts, ta⟩ := t
 simp only at hpl hpl2 hud hgt hgt' hw k3 hk n1 n2 n3
 subst k3
 simp only [rrV, rrC, vc, toV] at h1 h2 hf ⊢
 have f1 := eq_false n1
 have f2 := eq_false n2
 by_cases e3 : ts = [36]
 ·have hc : c = true := n3.resolve_left (fun h => h e3)
  subst hc
  subst e3
  simp [af132, af132b, hpl, hpl2, hud, h1, h2, ho, hz, ↓hgt, ↓hgt', fN, hw, aI, aY, aK, aB, V.one, hf, aL, aR, aN, aM, bA, aT, aQ, cE]
  rfl
 ·have f3 := eq_false e3
  simp [af132, af132b, hpl, hpl2, hud, h1, h2, ho, hz, f1, f2, f3, ↓hgt, ↓hgt', fN, hw, aI, aY, aK, aB, V.one, hf, aL, aR, aN, aM, bA, aT, aQ, cE]
  rfl
theorem HM (h : q.ok) (ho : q.rs.over = false) (hz : ¬ z < 1) {t : Tok} (hk : q.k < q.L.length) (hg : q.L[q.k]? = some t) (k3 : t.k = 1) (n3 : t.s = [36]) (s : St) :
  call G 132 [rrV q, .int .i64 z, .bool false] s = some (.tup [rrV q.inc.name.1, toV (if q.inc.name.1.e = 0 then .mk 7 0 q.inc.name.2 [] [] else jNull)], s) := by
 have hpl := aE q.L
 have hud := bE q.L
 have h1 := eP h
 have h2 := lU (mD h ho)
 have hf := fun X => qS s q.inc.name.1 X
 generalize q.inc.name = N at *
 obtain ⟨q2, x⟩ := N
 simp only at h2 hf
 have hpl2 := aE q2.L
 have hgt := kR hg
 have hgt' := hgt
 rw [Int.toNat_natCast] at hgt'
 have hw : IntKind.i64.wrap ((q.k : Int) + 1) = (q.k : Int) + 1 := aD (by omega) (by have := h.2.1; have := h.2.2; omega)
 refine aC (F := af132) rfl rfl ?_
 obtain ⟨L, k, n, e, a⟩ := q
 obtain ⟨L2, k2, n2', e2, a2⟩ := q2
 obtain ⟨tk, ts, ta⟩ := t
 simp only at hpl hpl2 hud hgt hgt' hw k3 hk n3
 subst k3
 subst n3
 simp only [rrV, rrC, Qj.inc, vc, toV] at h1 h2 hf ⊢
 push_cast at h2
 by_cases he : e2 = 0
 ·subst he
  simp [af132, af132b, hpl, hpl2, hud, h1, h2, ho, hz, ↓hgt, ↓hgt', fN, hw, aI, aY, aK, aB, V.one, hf, aL, aR, aN, aM, bA, aT, aQ, cE]
  rfl
 ·have he' := eq_false he
  simp [af132, af132b, hpl, hpl2, hud, h1, h2, ho, hz, he', ↓hgt, ↓hgt', fN, hw, aI, aY, aK, aB, V.one, hf, aL, aR, aN, aM, bA, aT, aQ, cE]
  rfl
theorem yP (h : q.ok) (ho : q.rs.over = false) {d : Nat} (hd : d ≤ 1000) {t : Tok} (hk : q.k < q.L.length) (hg : q.L[q.k]? = some t) (k3 : t.k = 1) (n3 : t.s = [91] ∨ t.s = [123]) {q2 : Qj} {w : JV} (s : St)
  (h2 : ∀ s, call G 210 [rrV q.inc, .int .i64 d, .bool c, .bool (decide (t.s = [123]))] s = some (.tup [rrV q2, toV w], s)) :
  call G 132 [rrV q, .int .i64 ((d : Int) + 1), .bool c] s = some (.tup [rrV q2, toV w], s) := by
 have hpl := aE q.L
 have hud := bE q.L
 have h1 := eP h
 have hf := fun X => JC s q2 X w
 have hpl2 := aE q2.L
 have hgt := kR hg
 have hgt' := hgt
 rw [Int.toNat_natCast] at hgt'
 have hw : IntKind.i64.wrap ((q.k : Int) + 1) = (q.k : Int) + 1 := aD (by omega) (by have := h.2.1; have := h.2.2; omega)
 have hwd : IntKind.i64.wrap (d : Int) = (d : Int) := aD (by omega) (by omega)
 have hz : ¬ (d : Int) + 1 < 1 := by omega
 refine aC (F := af132) rfl rfl ?_
 obtain ⟨L, k, n, e, a⟩ := q
 obtain ⟨L2, k2, n2', e2, a2⟩ := q2
 obtain ⟨tk, ts, ta⟩ := t
 obtain ⟨wk, wn, wx, wl, wf⟩ := w
 simp only at hpl hpl2 hud hgt hgt' hw k3 hk n3 h2
 subst k3
 simp only [rrV, rrC, Qj.inc, vc, toV] at h1 h2 hf ⊢
 push_cast at h2
 rcases n3 with rfl | rfl
 ·simp at h2
  simp [af132, af132b, hpl, hpl2, hud, h1, h2, ho, hz, ↓hgt, ↓hgt', fN, hw, hwd, aI, aY, aK, aB, V.one, hf, aL, aR, aN, aM, bA, aT, aQ, cE]
 ·simp at h2
  simp [af132, af132b, hpl, hpl2, hud, h1, h2, ho, hz, ↓hgt, ↓hgt', fN, hw, hwd, aI, aY, aK, aB, V.one, hf, aL, aR, aN, aM, bA, aT, aQ, cE]
end
theorem Dw {q q' : Qj} (h : q.rs = q'.rs) (hL : q.L = q'.L) (hk : q.ok) (hk' : q'.ok) : q = q' := by
 obtain ⟨L, k, n, e, a⟩ := q
 obtain ⟨L', k', n', e', a'⟩ := q'
 simp only at hL
 subst hL
 simp only [Qj.rs, Qk.mk.injEq] at h
 obtain ⟨h1, h2, h3, h4⟩ := h
 have h5 := congrArg List.length h1
 simp only [List.length_drop] at h5
 have a1 := hk.2.1
 have a2 := hk'.2.1
 simp only at a1 a2
 have : k = k' := by omega
 subst h2 h3 h4 this
 rfl
theorem vE {R : Qk} : R.form.e ≠ 0 := iC (by decide)
theorem lL {q : Qk × JV} (h : q.1.e ≠ 0) : fzV q = jNull := by unfold fzV; rw [if_neg h]
theorem Ad {q : Qk × JV} (h : q.1.e = 0) : fzV q = q.2 := by unfold fzV; rw [if_pos h]
theorem rH (q : Qj) : q.form.L = q.L := pM q _ _
theorem BR (c : Bool) : ∀ d, d ≤ 1000 → RSp c d
 | 0, _ => by
  intro q hf s
  rw [Qk.val]
  by_cases ho : q.rs.over = true
  ·rw [if_pos ho]
   refine ⟨q.form, ?_, nW q, gI hf.ok _ _, rH q⟩
   rw [lL vE]
   exact sW hf.ok ho s
  ·rw [if_neg ho]
   refine ⟨q.fail q.rs.at_ 5, ?_, pY q _ _, gI hf.ok _ _, pM _ _ _⟩
   rw [lL (iC (by decide))]
   exact yQ hf.ok (by simpa using ho) (by decide) s
 | d + 1, hd => by
  intro q hf s
  have hv := BR c d (by omega)
  have hz : ¬ ((d : Int) + 1) < 1 := by omega
  rw [Qk.val]
  push_cast
  rcases nU q with ⟨ho, _⟩ | ⟨t, he, ho, hk, hg, hh, hkd, _⟩
  ·rw [if_pos ho]
   refine ⟨q.form, ?_, nW q, gI hf.ok _ _, rH q⟩
   rw [lL vE]
   exact sW hf.ok ho s
  rw [if_neg (by simp [ho]), hkd, hh]
  have htm : t ∈ q.L := List.mem_of_getElem? hg
  obtain ⟨tk1, tk2⟩ := hf.toks t htm
  have hoki := mD hf.ok ho
  have htl : q.rs.tl.e = 0 := he
  by_cases k2 : t.k = 2
  ·rw [if_pos k2]
   refine ⟨q.inc, ?_, iW q, hoki, rfl⟩
   rw [Ad (by exact htl)]
   exact FQ hf.ok ho hz hk hg k2 s
  rw [if_neg k2]
  by_cases k3 : t.k = 3
  ·rw [if_pos k3]
   refine ⟨q.inc, ?_, iW q, hoki, rfl⟩
   rw [Ad (by exact htl)]
   exact HL hf.ok ho hz hk hg k3 (tk2 k3) s
  rw [if_neg k3]
  by_cases k4 : t.k = 4
  ·rw [if_pos k4]
   refine ⟨q.inc, ?_, iW q, hoki, rfl⟩
   rw [Ad (by exact htl)]
   exact HN hf.ok ho hz hk hg k4 s
  rw [if_neg k4]
  have k1 : t.k = 1 := by omega
  have his : ∀ x, q.rs.is x = decide (t.s = x) := fun x => by
   unfold Qk.is
   rw [hkd, hh, k1]; rfl
  rw [his, his, his]
  by_cases n36 : t.s = [36]
  ·by_cases hc : c = false
   ·subst hc
    rw [if_pos ⟨by simp [n36], rfl⟩]
    obtain ⟨e1, e2⟩ := pZ q.inc
    rw [iW] at e1 e2
    refine ⟨q.inc.name.1, ?_, e1, lQ hoki, pS _⟩
    have hfz : fzV (q.rs.tl.name.1, JV.mk 7 0 q.rs.tl.name.2 [] []) = if q.inc.name.1.e = 0 then .mk 7 0 q.inc.name.2 [] [] else jNull := by
     unfold fzV
     rw [← e1, ← e2]; rfl
    rw [hfz]
    exact HM hf.ok ho hz hk hg k1 n36 s
   ·have hc' : c = true := by simpa using hc
    rw [if_neg (by simp [hc']), if_neg (by simp [n36]), if_neg (by simp [n36])]
    refine ⟨q.form, ?_, nW q, gI hf.ok _ _, rH q⟩
    rw [lL vE]
    exact yO hf.ok ho hz hk hg k1 (by simp [n36]) (by simp [n36]) (.inr hc') s
  rw [if_neg (by simp [n36])]
  have hfi := vC (q' := q.inc) hf hoki rfl
  have hmu := Hp ho
  have hmu' : q.inc.rs.mu < q.rs.L.length + 2 := by rw [iW]; exact hmu
  by_cases n91 : t.s = [91]
  ·rw [if_pos (by simp [n91])]
   have key := fun s => Dq hv hfi (by exact he) hmu' s
   rw [iW] at key
   generalize Qk.lst (Qk.val c d) (q.rs.L.length + 2) q.rs.tl [] = p at *
   obtain ⟨q', _, e1, e2, e3⟩ := key s
   have hcall : ∀ s, call G 210 [rrV q.inc, .int .i64 d, .bool c, .bool (decide (t.s = [123]))] s = some (.tup [rrV q', toV (if q'.e = 0 then .mk 4 0 [] p.2 [] else jNull)], s) := by
    intro s
    obtain ⟨q'', hc, f1, f2, f3⟩ := key s
    have hq : q'' = q' := Dw (f1.trans e1.symm) (f3.trans e3.symm) f2 e2
    rw [n91]
    subst hq
    exact hc
   refine ⟨q', ?_, e1, e2, e3⟩
   have hfz : fzV (p.1, JV.mk 4 0 [] p.2 []) = if q'.e = 0 then .mk 4 0 [] p.2 [] else jNull := by
    unfold fzV
    rw [← e1]; rfl
   rw [hfz]
   exact yP hf.ok ho (by omega) hk hg k1 (.inl n91) s hcall
  rw [if_neg (by simp [n91])]
  by_cases n123 : t.s = [123]
  ·rw [if_pos (by simp [n123])]
   have key := fun s => FM hv hfi (by exact he) hmu' s
   rw [iW] at key
   generalize Qk.obj (Qk.val c d) (q.rs.L.length + 2) q.rs.tl [] = p at *
   obtain ⟨q', _, e1, e2, e3⟩ := key s
   have hcall : ∀ s, call G 210 [rrV q.inc, .int .i64 d, .bool c, .bool (decide (t.s = [123]))] s = some (.tup [rrV q', toV (if q'.e = 0 then .mk 5 0 [] [] p.2 else jNull)], s) := by
    intro s
    obtain ⟨q'', hc, f1, f2, f3⟩ := key s
    have hq : q'' = q' := Dw (f1.trans e1.symm) (f3.trans e3.symm) f2 e2
    rw [n123]
    subst hq
    exact hc
   refine ⟨q', ?_, e1, e2, e3⟩
   have hfz : fzV (p.1, JV.mk 5 0 [] [] p.2) = if q'.e = 0 then .mk 5 0 [] [] p.2 else jNull := by
    unfold fzV
    rw [← e1]; rfl
   rw [hfz]
   exact yP hf.ok ho (by omega) hk hg k1 (.inr n123) s hcall
  rw [if_neg (by simp [n123])]
  refine ⟨q.form, ?_, nW q, gI hf.ok _ _, rH q⟩
  rw [lL vE]
  exact yO hf.ok ho hz hk hg k1 n91 n123 (.inl n36) s
section
variable {c : Bool} {d r : Nat} {R : Qk} {s : St}
end
theorem Fy {x : List UInt8} (h : BA x) : x.length ≤ 1000000 := by
 obtain ⟨ng, ds, rfl, _, _, _, hl⟩ := h
 cases ng <;> simp <;> omega
theorem HI (b : List UInt8) : (rr0 b).fine := ⟨KI b, (sS b).2, Fl b⟩
theorem Ex {f : Qk → Qk × JV} (hf : reads f) (hl : ∀ R, R.L.length ≤ 100000 → (f R).2.lok) : ∀ (n : Nat) (R : Qk) (acc : List JV), R.L.length ≤ 100000 → rM acc → acc.length + R.mu ≤ 200000 →
  rM (Qk.lst f n R acc).2 ∧ (Qk.lst f n R acc).2.length ≤ 200000
 | 0, R, acc, _, ha, hm => ⟨ha, by simp only [Qk.lst]; omega⟩
 | n + 1, R, acc, hR, ha, hm => by
  rw [Qk.lst]
  split
  ·exact ⟨ha, by simp only; omega⟩
  split
  ·exact ⟨ha, by simp only; omega⟩
  ·rename_i _ he
   obtain ⟨_, h2, h3⟩ := hf R
   have h3 := h3 (Classical.not_not.1 he)
   have h4 := h2.length_le
   refine Ex hf hl n _ _ (by omega) ?_ (by simp; omega)
   rw [lokVs_iff] at ha ⊢
   intro v hv
   rcases List.mem_append.1 hv with hv | hv
   ·exact ha v hv
   ·simp at hv; subst hv; exact hl R hR
theorem EA {f : Qk → Qk × JV} (hf : reads f) (hl : ∀ R, R.L.length ≤ 100000 → (f R).2.lok) : ∀ (n : Nat) (R : Qk) (acc : List (List UInt8 × JV)), R.L.length ≤ 100000 → rL acc → acc.length + R.mu ≤ 200000 →
  rL (Qk.obj f n R acc).2 ∧ (Qk.obj f n R acc).2.length ≤ 200000
 | 0, R, acc, _, ha, hm => ⟨ha, by simp only [Qk.obj]; omega⟩
 | n + 1, R, acc, hR, ha, hm => by
  rw [Qk.obj]
  split
  ·exact ⟨ha, by simp only; omega⟩
  split
  ·exact ⟨ha, by simp only; omega⟩
  ·rename_i _ he
   have he := Classical.not_not.1 he
   obtain ⟨h1, h2, h3⟩ := hf (R.key acc).1
   have hk := (Eu R acc).length_le
   have h4 := h2.length_le
   have hm0 : (R.key acc).1.mu ≤ R.mu := Ho (fun h => absurd he h) hk
   have hm1 : 1 ≤ R.mu := by unfold Qk.mu; rw [if_pos he]; omega
   have h5 : (f (R.key acc).1).1.mu < R.mu := by
    by_cases hke : (R.key acc).1.e = 0
    ·have := h3 hke; omega
    ·have : (f (R.key acc).1).1.mu = 0 := by unfold Qk.mu; rw [if_neg (h1 hke)]
     omega
   refine EA hf hl n _ _ (by omega) ?_ (by simp; omega)
   rw [lokPs_iff] at ha ⊢
   intro v hv
   rcases List.mem_append.1 hv with hv | hv
   ·exact ha v hv
   ·simp at hv; subst hv; exact hl _ (by omega)
theorem oT : jNull.lok := by simp [jNull, JV.lok, rM, rL]
theorem rK (k n : Int) (x : List UInt8) : (JV.mk k n x [] []).lok := by simp [JV.lok, rM, rL]
theorem Fw (x : List UInt8) : (iT x).lok := by
 unfold iT
 repeat' split
 all_goals first | exact oT | exact rK _ _ _
theorem EN (c : Bool) : ∀ (d : Nat) (R : Qk), R.L.length ≤ 100000 → (Qk.val c d R).2.lok
 | 0, R, h => by
  rw [Qk.val]
  split <;> exact oT
 | d + 1, R, h => by
  have ih := EN c d
  have hr := jR c d
  have hmt : R.tl.mu ≤ 100001 := by
   have : R.tl.L.length ≤ R.L.length := (AF R).length_le
   unfold Qk.mu; split <;> omega
  have htl : R.tl.L.length ≤ 100000 := Nat.le_trans (AF R).length_le h
  rw [Qk.val]
  repeat' split
  ·exact oT
  ·exact Fw _
  ·exact rK _ _ _
  ·exact rK _ _ _
  ·exact rK _ _ _
  ·obtain ⟨h1, h2⟩ := Ex hr ih (R.L.length + 2) R.tl [] htl trivial (by simp; omega)
   exact ⟨by omega, by simp, h1, trivial⟩
  ·obtain ⟨h1, h2⟩ := EA hr ih (R.L.length + 2) R.tl [] htl trivial (by simp; omega)
   exact ⟨by simp, by omega, trivial, h1⟩
  ·exact oT
theorem Kv {q : Qk × JV} (h : q.2.lok) : (fzV q).lok := by
 unfold fzV
 split
 ·exact h
 ·exact oT
theorem FU {v : JV} (h : v.lok) (s : St) : call G 26 [toV v, toV v] s = some (.bool true, s) := by
 rw [sY v v h s, (sX v v).2 rfl]
