/-
 The two readers of tokens: small functions, types. No condition.
-/
import Derived.Test.YtboejpobmpfifaaGreatDoorTRefs
set_option linter.unusedSimpArgs false
set_option linter.unusedVariables false
namespace Go.Proofs.YtboejpobmpfifaaGreatDoor.Eng
open Go
attribute [local simp] gS gR eT eN dR eV cY cW eU dQ dP eF eS dL cC dU cZ cN dM cA bX cV bW
attribute [local simp] hZ aZ put dB X.ev cF cO cP cS bU dO cR bV dN cQ eR gH kV bM fL gT fE gB V.plain aW V.und bY scK kill aF bQ aG dT dS cT mB bR fU V.real bH bK cU
theorem aM (env : Env) : fP [] env = true := rfl
theorem bA (r : List (Nat × Nat)) (env : Env) (p q : Nat) (h : q < 1000000) : fP ((p, q) :: r) env = (cE (env p) (env q) && fP r env) := by
 simp only [fP, List.all_cons, uM]
 rw [if_pos h]
theorem eY (r : List (Nat × Nat)) (env : Env) (p q : Nat) (h0 : ¬ q < 1000000) (h : q < 2000000) : fP ((p, q) :: r) env = (kC (env (q - 1000000)) (env p) && fP r env) := by
 simp only [fP, List.all_cons, uM]
 rw [if_neg h0, if_pos h]
theorem aT (env : Env) (s : St) : kL [] env s = (env, s) := rfl
theorem aQ (r : List (Nat × Nat)) (env : Env) (s : St) (p q : Nat) (h : q < 2000000) : kL ((p, q) :: r) env s = kL r env s := by
 simp only [kL]
 rw [if_pos h]
theorem CL {g : FuncId} {args : List V} {s : St} {r : Nat} {o0 : Qw} (hs : s.obs[r]? = some o0) (hn : eD args = r + 1) (ha : bY (r + 1) 0 args = true)
  (hb : ∀ o ∈ s.obs.take (r + 1), o.und (r + 1) 0 = true ∧ o.kind ≠ 4) {v : V} {o : Qw} {ex : List (Nat × Nat × TypeId)}
  (hc : call G g args ⟨s.obs.take (r + 1), []⟩ = some (v, ⟨(s.obs.take (r + 1)).set r o, ex⟩)) (hv : v.und (r + 1) 0 = true) (ho : o.und 0 0 = true) (hk : o.kind = o0.kind) :
  frK s args (call G g args (vF s args)) = some (v, upR s r o) := by
 have hr := cK hs
 have hin : vF s args = ⟨s.obs.take (r + 1), []⟩ := by simp only [vF, hn]
 have hok : FrOk (eD args) s args (v, ⟨(s.obs.take (r + 1)).set r o, ex⟩) := by
  rw [hn]
  refine ⟨by omega, ha, hb, hv, ?_, ?_⟩
  ·intro x hx
   rcases List.mem_or_eq_of_mem_set hx with h | h
   ·exact (hb x h).1
   ·rw [h]; exact Qw.und_mono (Nat.zero_le _) (Nat.zero_le _) _ ho
  ·apply List.ext_getElem?
   intro i
   simp only [List.getElem?_map, List.getElem?_set, List.length_take]
   split
   ·rename_i h
    subst h
    rw [if_pos (by omega), List.getElem?_take, if_pos (by omega), hs]
    simp [hk]
   ·rfl
 rw [hin, hc, Ha _ _ _ _ hok, hn]
 congr 2
 simp only [upR]
 congr 1
 apply List.ext_getElem?
 intro i
 rw [List.getElem?_append, List.getElem?_set]
 simp only [List.length_set, List.length_take, List.getElem?_set, List.getElem?_take, List.getElem?_drop]
 by_cases h1 : i < min (r + 1) s.obs.length
 ·rw [if_pos h1]
  by_cases h2 : r = i
  ·subst h2
   simp [hr]
   exact h1
  ·rw [if_neg h2, if_neg h2, if_pos (by omega)]
 ·rw [if_neg h1, if_neg (by omega)]
  congr 1
  omega
structure Qk where
 L : List Tok
 n : Int
 e : Int
 a : Int
def rdO (R : Qk) : Qw := .cells 185 [.sl .no (bO R.L), .int .i64 R.n, .int .i64 R.e, .int .i64 R.a]
theorem fZ (R : Qk) (n m : Nat) : (rdO R).und n m = true := by
 have := bE R.L n m
 simp [rdO, Qw.und, this]
theorem oY (R : Qk) : (rdO R).kind = 0 := rfl
def Qk.at_ (R : Qk) : Int := if R.e = 0 then (match R.L with | [] => R.n | t :: _ => t.a) else R.a
def Qk.over (R : Qk) : Bool := !decide (R.e = 0) || decide (R.L = [])
def Qk.fail (R : Qk) (p e : Int) : Qk := if R.e = 0 ∧ e ≠ 0 then ⟨R.L, R.n, e, p⟩ else R
def Qk.form (R : Qk) : Qk := R.fail R.at_ 4
def Qk.kind (R : Qk) : Int := if R.over = true then 0 else match R.L with | [] => 0 | t :: _ => t.k
def Qk.tl (R : Qk) : Qk := ⟨R.L.drop 1, R.n, R.e, R.a⟩
def Qk.hd (R : Qk) : Tok := match R.L with | [] => ⟨0, [], 0⟩ | t :: _ => t
def Qk.is (R : Qk) (x : List UInt8) : Bool := (decide (R.kind = 1) || decide (R.kind = 2)) && decide (R.hd.s = x)
def Qk.take (R : Qk) (x : List UInt8) : Qk := if R.is x = true then R.tl else R
def Qk.must (R : Qk) (x : List UInt8) : Qk := if R.is x = true then R.tl else R.form
def Qk.name (R : Qk) : Qk × List UInt8 := if R.kind = 2 then (R.tl, R.hd.s) else (R.form, [])
def Qk.next (R : Qk) : Qk × Tok := if R.over = true then (R.form, ⟨0, [], 0⟩) else (R.tl, R.hd)
theorem mT {n e a : Int} : Qk.over ⟨[], n, e, a⟩ = true := by simp [Qk.over]
theorem Fz {t : Tok} {L : List Tok} {n a : Int} : Qk.over ⟨t :: L, n, 0, a⟩ = false := by simp [Qk.over]
theorem yE {t : Tok} {L : List Tok} {n a : Int} : Qk.kind ⟨t :: L, n, 0, a⟩ = t.k := by simp [Qk.kind, Fz]
theorem mQ {R : Qk} (h : R.over = true) : R.kind = 0 := by simp [Qk.kind, h]
theorem nL {R : Qk} (h : R.over = true) (x : List UInt8) : R.is x = false := by simp [Qk.is, mQ h]
section
variable {s : St} {r : Nat}
theorem iQ (hr : r < s.obs.length) (o : Qw) (X : List Qw) : (s.obs.set r o ++ X)[r]? = some o := by
 rw [List.getElem?_append_left (by simpa using hr), List.getElem?_set_self hr]
theorem HR (hr : r < s.obs.length) (o o' : Qw) (X : List Qw) : (s.obs.set r o ++ X).set r o' = s.obs.set r o' ++ X := by
 rw [List.set_append_left _ _ (by simpa using hr), List.set_set]
theorem fV (o a : Qw) (X : List Qw) : (s.obs.set r o ++ a :: X)[s.obs.length]? = some a := by
 rw [List.getElem?_append_right (by simp)]; simp
theorem lM (o a b : Qw) (X : List Qw) : (s.obs.set r o ++ a :: b :: X)[s.obs.length + 1]? = some b := by
 rw [List.getElem?_append_right (by simp)]; simp
theorem gD (o a a' : Qw) (X : List Qw) : (s.obs.set r o ++ a :: X).set s.obs.length a' = s.obs.set r o ++ a' :: X := by
 rw [List.set_append_right _ _ (by simp)]; simp
theorem lV (o a b b' : Qw) (X : List Qw) : (s.obs.set r o ++ a :: b :: X).set (s.obs.length + 1) b' = s.obs.set r o ++ a :: b' :: X := by
 rw [List.set_append_right _ _ (by simp)]; simp
end
section
variable {s : St} {r : Nat} {R : Qk}
theorem Di (hs : s.obs[r]? = some (rdO R)) (R' : Qk) (junk : List Qw) {v : V} (hv : v.plain.und s.obs.length 0 = true) :
  fin false s ⟨s.obs.set r (rdO R') ++ junk, s.bufs⟩ v = (v.plain, upR s r (rdO R')) := En s (cK hs) (fZ _ _ _) junk hv
theorem nR (hs : s.obs[r]? = some (rdO R)) (R' : Qk) {v : V} (hv : v.plain.und s.obs.length 0 = true) :
  fin false s ⟨s.obs.set r (rdO R'), s.bufs⟩ v = (v.plain, upR s r (rdO R')) := IW s (cK hs) (fZ _ _ _) hv
theorem gJ (hs : s.obs[r]? = some (rdO R)) : upR s r (rdO R) = s := HT hs
theorem wD (hs : s.obs[r]? = some (rdO R)) (X : List Qw) : (s.obs ++ X)[r]? = some (rdO R) := by
 rw [List.getElem?_append_left (cK hs)]; exact hs
theorem Dj (hs : s.obs[r]? = some (rdO R)) (o : Qw) (X : List Qw) : (s.obs ++ X).set r o = s.obs.set r o ++ X := List.set_append_left _ _ (cK hs)
theorem pW (hs : s.obs[r]? = some (rdO R)) : call G 56 [.ptr r 0] s = some (.bool R.over, s) := by
 obtain ⟨L, n, e, a⟩ := R
 have htl := dA L
 refine aC (F := af56) rfl rfl ?_
 simp only [rdO] at hs
 by_cases he : e = 0
 ·subst he
  simp [af56, af56b, hs, htl]
  rw [aS _ (v := .bool _) rfl]
  simp [Qk.over]
 ·simp [af56, af56b, hs, he]
  rw [aS _ (v := .bool _) rfl]
  simp [Qk.over, he]
theorem oX (hs : s.obs[r]? = some (rdO R)) : call G 54 [.ptr r 0] s = some (.int .i64 R.at_, s) := by
 obtain ⟨L, n, e, a⟩ := R
 have htl := dA L
 refine aC (F := af54) rfl rfl ?_
 simp only [rdO] at hs
 by_cases he : e = 0
 ·subst he
  cases L with
  | nil =>
   simp [af54, af54b, hs, htl, bO]
   rw [aS _ (v := .int _ _) rfl]
   simp [Qk.at_]
  | cons t L =>
   obtain ⟨k, x, p⟩ := t
   have e1 : bO (⟨k, x, p⟩ :: L) = .agg [.int .i64 k, .str x, .int .i64 p] :: bO L := rfl
   have hne : ¬ ((bO L).length : Int) + 1 = 0 := by omega
   rw [e1] at hs
   simp [af54, af54b, hs, hne]
   rw [aS _ (v := .int _ _) rfl]
   simp [Qk.at_]
 ·simp [af54, af54b, hs, he]
  rw [aS _ (v := .int _ _) rfl]
  simp [Qk.at_, he]
theorem qP (hs : s.obs[r]? = some (rdO R)) (p e2 : Int) : call G 135 [.ptr r 0, .int .i64 p, .int .i64 e2] s = some (.tup [], upR s r (rdO (R.fail p e2))) := by
 have hfin := fun R' => nR hs R' (v := .tup []) rfl
 have hup := gJ hs
 have hr := cK hs
 obtain ⟨L, n, e, a⟩ := R
 refine aC (F := af135) rfl rfl ?_
 have hs' := hs
 simp only [rdO] at hs'
 by_cases he : e = 0
 ·subst he
  by_cases h2 : e2 = 0
  ·simp [af135, af135b, hs', h2]
   rw [aS _ (v := .tup []) rfl]
   simp [Qk.fail, h2, hup]
  ·have h2' : (e2 = 0) = False := eq_false h2
   have := hfin ⟨L, n, e2, p⟩
   simp only [rdO] at this
   simp [af135, af135b, hs', h2', aI, aK, aB, V.one]
   rw [this]
   simp [Qk.fail, h2, rdO]
 ·simp [af135, af135b, hs', he]
  rw [aS _ (v := .tup []) rfl]
  simp [Qk.fail, he, hup]
theorem nS (hs : s.obs[r]? = some (rdO R)) : call G 202 [.ptr r 0] s = some (.tup [], upR s r (rdO R.form)) := by
 have h1 := oX hs
 have h2 := qP hs R.at_ 4
 refine aC (F := af202) rfl rfl ?_
 simp [af202, af202b, h1, h2]
 have := nR hs R.form (v := .tup []) rfl
 simp only [Qk.form, upR] at this ⊢
 exact this
theorem qQ (hs : s.obs[r]? = some (rdO R)) : call G 207 [.ptr r 0] s = some (.int .i64 R.kind, s) := by
 have h1 := pW hs
 refine aC (F := af207) rfl rfl ?_
 by_cases ho : R.over = true
 ·simp [af207, af207b, h1, ho]
  rw [aS _ (v := .int _ _) rfl]
  simp [Qk.kind, ho]
 ·have ho' : R.over = false := by simpa using ho
  obtain ⟨L, n, e, a⟩ := R
  cases L with
  | nil => rw [mT] at ho'; cases ho'
  | cons t L =>
   obtain ⟨k, x, p⟩ := t
   have e1 : bO (⟨k, x, p⟩ :: L) = .agg [.int .i64 k, .str x, .int .i64 p] :: bO L := rfl
   simp only [rdO] at hs
   rw [e1] at hs
   simp [af207, af207b, h1, ho', hs]
   rw [aS _ (v := .int _ _) rfl]
   simp [Qk.kind, ho']
theorem oZ (hs : s.obs[r]? = some (rdO R)) : call G 208 [.ptr r 0] s = some (fN R.next.2, upR s r (rdO R.next.1)) := by
 have hr := cK hs
 refine aC (F := af208) rfl rfl ?_
 have h1 := fun X => pW (s := ⟨s.obs ++ X, s.bufs⟩) (wD hs X)
 have h2 := fun X => nS (s := ⟨s.obs ++ X, s.bufs⟩) (wD hs X)
 simp only [upR, Dj hs] at h2
 by_cases ho : R.over = true
 ·have hn : R.next = (R.form, ⟨0, [], 0⟩) := by unfold Qk.next; rw [if_pos ho]
  have hf := Di hs R.form [.cells 195 [.int .i64 0, .str [], .int .i64 0]] (v := fN ⟨0, [], 0⟩) rfl
  rw [hn]
  have hg : ∀ o X, (s.obs.set r o ++ X)[s.obs.length]? = X[0]? := fun o X => by
   rw [List.getElem?_append_right (by simp)]; simp
  have hst : ∀ o a b, (s.obs.set r o ++ [a]).set s.obs.length b = s.obs.set r o ++ [b] := fun o a b => by
   rw [List.set_append_right _ _ (by simp)]; simp
  simp [af208, af208b, h1, h2, ho, aI, aK, aB, V.one, hg, hst]
  simp only [fN] at hf
  rw [hf]
  rfl
 ·have ho' : R.over = false := by simpa using ho
  have hn : R.next = (R.tl, R.hd) := by unfold Qk.next; rw [if_neg ho]
  rw [hn]
  obtain ⟨L, n, e, a⟩ := R
  cases L with
  | nil => rw [mT] at ho'; cases ho'
  | cons t L =>
   obtain ⟨k, x, p⟩ := t
   have e1 : bO (⟨k, x, p⟩ :: L) = .agg [.int .i64 k, .str x, .int .i64 p] :: bO L := rfl
   have hf := Di hs (Qk.tl ⟨⟨k, x, p⟩ :: L, n, e, a⟩) [.cells 195 [.int .i64 k, .str x, .int .i64 p], .cells 195 [.int .i64 k, .str x, .int .i64 p]] (v := fN ⟨k, x, p⟩) rfl
   have hx := fun X => wD hs X
   have hset := fun o X => Dj hs o X
   simp only [rdO] at hx
   rw [e1] at hx
   have hft := sN (⟨k, x, p⟩ :: L)
   rw [e1] at hft
   simp [af208, af208b, h1, ho', ↓hx, hset, aI, aK, aB, V.one, oL, bnd, hft, fV, lM, gD, lV]
   simp only [rdO, fN, Qk.tl, Qk.hd, List.drop_succ_cons, List.drop_zero] at hf ⊢
   rw [hf]
   rfl
end
section
variable {s : St} {r : Nat} {R : Qk}
theorem BN (hs : s.obs[r]? = some (rdO R)) (x : List UInt8) : call G 128 [.ptr r 0, .str x] s = some (.bool (R.is x), s) := by
 have h1 := qQ hs
 refine aC (F := af128) rfl rfl ?_
 by_cases hk : R.kind = 1 ∨ R.kind = 2
 ·have ho : R.over = false := by
   cases h : R.over with
   | false => rfl
   | true => rw [mQ h] at hk; omega
  obtain ⟨L, n, e, a⟩ := R
  cases L with
  | nil => rw [mT] at ho; cases ho
  | cons t L =>
   obtain ⟨k, y, p⟩ := t
   have e1 : bO (⟨k, y, p⟩ :: L) = .agg [.int .i64 k, .str y, .int .i64 p] :: bO L := rfl
   simp only [rdO] at hs
   rw [e1] at hs
   have hk' : Qk.kind ⟨⟨k, y, p⟩ :: L, n, e, a⟩ = k := by simp [Qk.kind, ho]
   rw [hk'] at hk h1
   rcases hk with rfl | rfl
   ·simp [af128, af128b, h1, hs]
    rw [aS _ (v := .bool _) rfl]
    simp [Qk.is, hk', Qk.hd]
    congr
   ·simp [af128, af128b, h1, hs]
    rw [aS _ (v := .bool _) rfl]
    simp [Qk.is, hk', Qk.hd]
    congr
 ·have k1 : (R.kind = 1) = False := eq_false fun h => hk (.inl h)
  have k2 : (R.kind = 2) = False := eq_false fun h => hk (.inr h)
  simp [af128, af128b, h1, k1, k2]
  rw [aS _ (v := .bool _) rfl]
  simp [Qk.is, k1, k2]
theorem CX {x : List UInt8} (h : R.is x = true) : R.next.1 = R.tl := by
 have ho : R.over = false := by
  cases h1 : R.over with
  | false => rfl
  | true => rw [nL h1] at h; cases h
 simp [Qk.next, ho]
theorem kZ (hs : s.obs[r]? = some (rdO R)) (x : List UInt8) : call G 129 [.ptr r 0, .str x] s = some (.bool (R.is x), upR s r (rdO (R.take x))) := by
 have h1 := BN hs x
 have h2 := oZ hs
 refine aC (F := af129) rfl rfl ?_
 by_cases h : R.is x = true
 ·rw [CX h] at h2
  have hf := nR hs R.tl (v := .bool true) rfl
  simp only [upR] at h2 hf
  simp [af129, af129b, h1, h, h2]
  rw [hf]
  simp [Qk.take, h, upR]
 ·have h' : R.is x = false := by simpa using h
  simp [af129, af129b, h1, h']
  rw [aS _ (v := .bool _) rfl]
  simp [Qk.take, h', gJ hs]
theorem wF (hs : s.obs[r]? = some (rdO R)) (x : List UInt8) : call G 130 [.ptr r 0, .str x] s = some (.tup [], upR s r (rdO (R.must x))) := by
 have h1 := kZ hs x
 refine aC (F := af130) rfl rfl ?_
 by_cases h : R.is x = true
 ·have hf := nR hs R.tl (v := .tup []) rfl
  simp only [upR, Qk.take, h, if_true] at h1 hf
  simp [af130, af130b, h1]
  rw [hf]
  simp [Qk.must, h, upR]
 ·have h' : R.is x = false := by simpa using h
  have h2 := nS hs
  have hup := gJ hs
  have hf := nR hs R.form (v := .tup []) rfl
  simp only [Qk.take, h', Bool.false_eq_true, if_false, hup] at h1
  simp only [upR] at h2 hf
  simp [af130, af130b, h1, h2]
  rw [hf]
  simp [Qk.must, h', upR]
theorem CQ (h : R.kind = 2) : R.next = (R.tl, R.hd) := by
 have ho : R.over = false := by
  cases h1 : R.over with
  | false => rfl
  | true => rw [mQ h1] at h; omega
 simp [Qk.next, ho]
theorem qR (hs : s.obs[r]? = some (rdO R)) : call G 131 [.ptr r 0] s = some (.str R.name.2, upR s r (rdO R.name.1)) := by
 have h1 := qQ hs
 refine aC (F := af131) rfl rfl ?_
 by_cases h : R.kind = 2
 ·have h2 := oZ hs
  rw [CQ h] at h2
  have hf := nR hs R.tl (v := .str R.hd.s) rfl
  simp only [upR, fN] at h2 hf
  simp [af131, af131b, h1, h, h2]
  rw [hf]
  simp [Qk.name, h, upR]
 ·have h' : (R.kind = 2) = False := eq_false h
  have h2 := nS hs
  have hf := nR hs R.form (v := .str []) rfl
  simp only [upR] at h2 hf
  simp [af131, af131b, h1, h', h2]
  rw [hf]
  simp [Qk.name, h', upR]
end
section
variable {s : St} {r : Nat}
theorem SXs (hr : r < s.obs.length) (R R' : Qk) (X : List Qw) : upR (⟨s.obs.set r (rdO R) ++ X, s.bufs⟩ : St) r (rdO R') = ⟨s.obs.set r (rdO R') ++ X, s.bufs⟩ := by
 simp only [upR, HR hr]
theorem jD (hr : r < s.obs.length) (R R' : Qk) (X : List Qw) {v : V} (hv : v.plain.und s.obs.length 0 = true) :
  fin false (⟨s.obs.set r (rdO R), s.bufs⟩ : St) ⟨s.obs.set r (rdO R') ++ X, s.bufs⟩ v = (v.plain, ⟨s.obs.set r (rdO R'), s.bufs⟩) := by
 have := Di (s := ⟨s.obs.set r (rdO R), s.bufs⟩) (r := r) (R := R) (by simp only; rw [List.getElem?_set_self hr]) R' X (v := v) (by simpa using hv)
 simpa only [upR, List.set_set] using this
theorem JX (hr : r < s.obs.length) (R : Qk) (X : List Qw) : call G 54 [.ptr r 0] ⟨s.obs.set r (rdO R) ++ X, s.bufs⟩ = some (.int .i64 R.at_, ⟨s.obs.set r (rdO R) ++ X, s.bufs⟩) := oX (iQ hr _ _)
theorem mA (hr : r < s.obs.length) (R : Qk) (X : List Qw) : call G 56 [.ptr r 0] ⟨s.obs.set r (rdO R) ++ X, s.bufs⟩ = some (.bool R.over, ⟨s.obs.set r (rdO R) ++ X, s.bufs⟩) := pW (iQ hr _ _)
theorem nM (hr : r < s.obs.length) (R : Qk) (X : List Qw) : call G 207 [.ptr r 0] ⟨s.obs.set r (rdO R) ++ X, s.bufs⟩ = some (.int .i64 R.kind, ⟨s.obs.set r (rdO R) ++ X, s.bufs⟩) := qQ (iQ hr _ _)
theorem vM (hr : r < s.obs.length) (R : Qk) (X : List Qw) (x : List UInt8) : call G 128 [.ptr r 0, .str x] ⟨s.obs.set r (rdO R) ++ X, s.bufs⟩ = some (.bool (R.is x), ⟨s.obs.set r (rdO R) ++ X, s.bufs⟩) := BN (iQ hr _ _) x
theorem zW (hr : r < s.obs.length) (R : Qk) (X : List Qw) (p e : Int) : call G 135 [.ptr r 0, .int .i64 p, .int .i64 e] ⟨s.obs.set r (rdO R) ++ X, s.bufs⟩ = some (.tup [], ⟨s.obs.set r (rdO (R.fail p e)) ++ X, s.bufs⟩) := by
 rw [qP (iQ hr _ _) p e, SXs hr]
theorem Aa (hr : r < s.obs.length) (R : Qk) (X : List Qw) : call G 202 [.ptr r 0] ⟨s.obs.set r (rdO R) ++ X, s.bufs⟩ = some (.tup [], ⟨s.obs.set r (rdO R.form) ++ X, s.bufs⟩) := by
 rw [nS (iQ hr _ _), SXs hr]
theorem uB (hr : r < s.obs.length) (R : Qk) (X : List Qw) : call G 208 [.ptr r 0] ⟨s.obs.set r (rdO R) ++ X, s.bufs⟩ = some (fN R.next.2, ⟨s.obs.set r (rdO R.next.1) ++ X, s.bufs⟩) := by
 rw [oZ (iQ hr _ _), SXs hr]
theorem rZ (hr : r < s.obs.length) (R : Qk) (X : List Qw) (x : List UInt8) : call G 129 [.ptr r 0, .str x] ⟨s.obs.set r (rdO R) ++ X, s.bufs⟩ = some (.bool (R.is x), ⟨s.obs.set r (rdO (R.take x)) ++ X, s.bufs⟩) := by
 rw [kZ (iQ hr _ _) x, SXs hr]
theorem Ey (hr : r < s.obs.length) (R : Qk) (X : List Qw) (x : List UInt8) : call G 130 [.ptr r 0, .str x] ⟨s.obs.set r (rdO R) ++ X, s.bufs⟩ = some (.tup [], ⟨s.obs.set r (rdO (R.must x)) ++ X, s.bufs⟩) := by
 rw [wF (iQ hr _ _) x, SXs hr]
theorem Am (hr : r < s.obs.length) (R : Qk) (X : List Qw) : call G 131 [.ptr r 0] ⟨s.obs.set r (rdO R) ++ X, s.bufs⟩ = some (.str R.name.2, ⟨s.obs.set r (rdO R.name.1) ++ X, s.bufs⟩) := by
 rw [qR (iQ hr _ _), SXs hr]
end
def Qk.bang (q : Qk × List UInt8 × List UInt8) : Qk × List UInt8 × List UInt8 := if q.1.is [33] = true then (q.1.tl, q.2.1, q.2.2 ++ [33]) else q
def Qk.typ : Nat → Qk → Qk × List UInt8 × List UInt8
 | 0, R => if R.is [91] = true then (R.fail R.at_ 5, [], []) else Qk.bang (R.name.1, R.name.2, [])
 | n + 1, R => if R.is [91] = true then Qk.bang (((Qk.typ n R.tl).1.must [93]), (Qk.typ n R.tl).2.1, (Qk.typ n R.tl).2.2 ++ [91]) else Qk.bang (R.name.1, R.name.2, [])
theorem uP (q : Qk × List UInt8 × List UInt8) : (Qk.bang q).2.2.length ≤ q.2.2.length + 1 := by
 unfold Qk.bang
 split <;> simp
theorem AJ : ∀ (n : Nat) (R : Qk), (Qk.typ n R).2.2.length ≤ 2 * n + 1
 | 0, R => by
  rw [Qk.typ]
  split
  ·simp
  ·exact uP _
 | n + 1, R => by
  have ih := AJ n R.tl
  rw [Qk.typ]
  split
  ·have := uP (((Qk.typ n R.tl).1.must [93]), (Qk.typ n R.tl).2.1, (Qk.typ n R.tl).2.2 ++ [91])
   simp only [List.length_append, List.length_cons, List.length_nil] at this
   omega
  ·have := uP (R.name.1, R.name.2, [])
   simp only [List.length_nil] at this
   omega
def tyV (x w : List UInt8) : V := .agg [.str x, .str w]
set_option maxHeartbeats 2000000 in
theorem Io : ∀ (n : Nat), n ≤ 1000 → ∀ (s : St) (r : Nat) (R : Qk), s.obs[r]? = some (rdO R) →
  call G 201 [.ptr r 0, .int .i64 n] s = some (tyV (Qk.typ n R).2.1 (Qk.typ n R).2.2, upR s r (rdO (Qk.typ n R).1)) := by
 have e64 : gN = 9223372036854775807 := rfl
 have bangE : ∀ q : Qk × List UInt8 × List UInt8, q.1.is [33] = true → Qk.bang q = (q.1.tl, q.2.1, q.2.2 ++ [33]) := fun q h => by unfold Qk.bang; rw [if_pos h]
 have bangN : ∀ q : Qk × List UInt8 × List UInt8, q.1.is [33] = false → Qk.bang q = q := fun q h => by unfold Qk.bang; rw [if_neg (by simp [h])]
 intro n
 induction n with
 | zero =>
  intro hn s r R hs
  have hr := cK hs
  have hup := gJ hs
  rw [← hup]
  simp only [upR, List.set_set]
  refine aC (F := af201) rfl rfl ?_
  have h1 := vM (s := s) hr R
  have h2 := JX (s := s) hr R
  have h3 := zW (s := s) hr R
  have h4 := Am (s := s) hr R
  have h5 := rZ (s := s) hr
  have hfin := fun R' X x w => jD (s := s) hr R R' X (v := .agg [.str x, .str w]) rfl
  by_cases h : R.is [91] = true
  ·simp [af201, af201b, h1, h2, h3, h, aI, aK, aB, V.one, fV, lM, gD, lV, hfin]
   simp [Qk.typ, h, tyV]
  ·have h' : R.is [91] = false := by simpa using h
   have ht : R.take [91] = R := by simp [Qk.take, h']
   have hty : Qk.typ 0 R = Qk.bang (R.name.1, R.name.2, []) := by rw [Qk.typ, if_neg h]
   rw [hty]
   generalize hN : R.name = N at *
   obtain ⟨R1, x⟩ := N
   simp only at h4
   by_cases hb : R1.is [33] = true
   ·have ht1 : R1.take [33] = R1.tl := by simp [Qk.take, hb]
    rw [bangE _ hb]
    simp [af201, af201b, h1, h4, h5, ht, h', hb, ht1, aI, aK, aB, V.one, fV, lM, gD, lV, hfin, e64]
    rfl
   ·have hb' : R1.is [33] = false := by simpa using hb
    have ht1 : R1.take [33] = R1 := by simp [Qk.take, hb']
    rw [bangN _ hb']
    simp [af201, af201b, h1, h4, h5, ht, h', hb', ht1, aI, aK, aB, V.one, fV, lM, gD, lV, hfin, e64]
    rfl
 | succ n ih =>
  intro hn s r R hs
  have hr := cK hs
  have hup := gJ hs
  rw [← hup]
  simp only [upR, List.set_set]
  refine aC (F := af201) rfl rfl ?_
  have h1 := vM (s := s) hr R
  have h4 := Am (s := s) hr R
  have h5 := rZ (s := s) hr
  have h6 := Ey (s := s) hr
  have hfin := fun R' X x w => jD (s := s) hr R R' X (v := .agg [.str x, .str w]) rfl
  by_cases h : R.is [91] = true
  ·have ht : R.take [91] = R.tl := by simp [Qk.take, h]
   have hlt : ¬ (n : Int) + 1 < 1 := by omega
   have hw : IntKind.i64.wrap (n : Int) = (n : Int) := aD (by omega) (by omega)
   have hty : Qk.typ (n + 1) R = Qk.bang (((Qk.typ n R.tl).1.must [93]), (Qk.typ n R.tl).2.1, (Qk.typ n R.tl).2.2 ++ [91]) := by rw [Qk.typ, if_pos h]
   have hl := AJ n R.tl
   have hgo : ∀ X, call G 201 [.ptr r 0, .int .i64 n] ⟨s.obs.set r (rdO R.tl) ++ X, s.bufs⟩ = some (.agg [.str (Qk.typ n R.tl).2.1, .str (Qk.typ n R.tl).2.2], ⟨s.obs.set r (rdO (Qk.typ n R.tl).1) ++ X, s.bufs⟩) := by
    intro X
    have := ih (by omega) ⟨s.obs.set r (rdO R.tl) ++ X, s.bufs⟩ r R.tl (iQ hr _ _)
    rw [SXs hr] at this
    exact this
   rw [hty]
   generalize Qk.typ n R.tl = q at *
   obtain ⟨R1, x, w⟩ := q
   simp only at hgo hl
   have hl1 : (w.length : Int) + 1 ≤ 9223372036854775807 := by omega
   have hl2 : (w.length : Int) + 1 + 1 ≤ 9223372036854775807 := by omega
   by_cases hb : (R1.must [93]).is [33] = true
   ·have ht1 : (R1.must [93]).take [33] = (R1.must [93]).tl := by simp [Qk.take, hb]
    rw [bangE _ hb]
    simp [af201, af201b, h1, h5, h6, ht, h, hlt, hw, hgo, hb, ht1, aI, aK, aB, V.one, fV, lM, gD, lV, hfin, e64, hl1, hl2]
    rfl
   ·have hb' : (R1.must [93]).is [33] = false := by simpa using hb
    have ht1 : (R1.must [93]).take [33] = R1.must [93] := by simp [Qk.take, hb']
    rw [bangN _ hb']
    simp [af201, af201b, h1, h5, h6, ht, h, hlt, hw, hgo, hb', ht1, aI, aK, aB, V.one, fV, lM, gD, lV, hfin, e64, hl1, hl2]
    rfl
  ·have h' : R.is [91] = false := by simpa using h
   have ht : R.take [91] = R := by simp [Qk.take, h']
   have hty : Qk.typ (n + 1) R = Qk.bang (R.name.1, R.name.2, []) := by rw [Qk.typ, if_neg h]
   rw [hty]
   generalize hN : R.name = N at *
   obtain ⟨R1, x⟩ := N
   simp only at h4
   by_cases hb : R1.is [33] = true
   ·have ht1 : R1.take [33] = R1.tl := by simp [Qk.take, hb]
    rw [bangE _ hb]
    simp [af201, af201b, h1, h4, h5, ht, h', hb, ht1, aI, aK, aB, V.one, fV, lM, gD, lV, hfin, e64]
    rfl
   ·have hb' : R1.is [33] = false := by simpa using hb
    have ht1 : R1.take [33] = R1 := by simp [Qk.take, hb']
    rw [bangN _ hb']
    simp [af201, af201b, h1, h4, h5, ht, h', hb', ht1, aI, aK, aB, V.one, fV, lM, gD, lV, hfin, e64]
    rfl
def rd0 (b : List UInt8) : Qk := ⟨(dK b).1, b.length, (dK b).2.1, (dK b).2.2⟩
def fzT (q : Qk × List UInt8 × List UInt8) : Qk × List UInt8 × List UInt8 := if q.1.e = 0 then q else (q.1, [], [])
def Qk.ty (R : Qk) : Qk × List UInt8 × List UInt8 := fzT (Qk.typ 4 R)
def Qk.whole (R : Qk) : Qk := if R.over = true then R else R.form
def PT (b : List UInt8) : List UInt8 × List UInt8 × Int × Int :=
 if (rd0 b).ty.1.whole.e = 0 then ((rd0 b).ty.2.1, (rd0 b).ty.2.2, 0, 0) else ([], [], (rd0 b).ty.1.whole.e, (rd0 b).ty.1.whole.a)
theorem yJ (b : List UInt8) (hb : b.length ≤ 9223372036854775807) (s : St) :
  call G 50 [.str b] s = some (.ptr (s.obs.length + 1) 0, ⟨s.obs ++ [.cells 29 [.int .i64 (dK b).2.1, .int .i64 (dK b).2.2], rdO (rd0 b)], s.bufs⟩) := by
 have hlx := Hk b hb
 have hpl := aE (dK b).1
 refine aC (F := af50) rfl rfl ?_
 have hr : rdO (rd0 b) = .cells 185 [.sl .no (bO (dK b).1), .int .i64 b.length, .int .i64 (dK b).2.1, .int .i64 (dK b).2.2] := rfl
 rw [hr]
 generalize (dK b).1 = L at *
 generalize (dK b).2.1 = e at *
 generalize (dK b).2.2 = a at *
 simp [af50, af50b, hlx, hpl, aI, aK, aB, V.one]
 rfl
section
variable {s : St} {r : Nat} {R : Qk}
theorem yV (hs : s.obs[r]? = some (rdO R)) : call G 124 [.ptr r 0] s = some (tyV R.ty.2.1 R.ty.2.2, upR s r (rdO R.ty.1)) := by
 have hr := cK hs
 have hup := gJ hs
 rw [← hup]
 simp only [upR, List.set_set]
 refine aC (F := af124) rfl rfl ?_
 have hgo : ∀ X, call G 201 [.ptr r 0, .int .i64 4] ⟨s.obs.set r (rdO R) ++ X, s.bufs⟩ = some (.agg [.str (Qk.typ 4 R).2.1, .str (Qk.typ 4 R).2.2], ⟨s.obs.set r (rdO (Qk.typ 4 R).1) ++ X, s.bufs⟩) := by
  intro X
  have := Io 4 (by omega) ⟨s.obs.set r (rdO R) ++ X, s.bufs⟩ r R (iQ hr _ _)
  rw [SXs hr] at this
  exact this
 have hfin := fun R' X x w => jD (s := s) hr R R' X (v := .agg [.str x, .str w]) rfl
 have hq : R.ty = fzT (Qk.typ 4 R) := rfl
 rw [hq]
 generalize Qk.typ 4 R = q at *
 obtain ⟨⟨L, n, e, a⟩, x, w⟩ := q
 have hg := fun X => iQ (s := s) hr (rdO ⟨L, n, e, a⟩) X
 simp only [rdO] at hgo hg hfin ⊢
 by_cases he : e = 0
 ·subst he
  have hz : fzT (⟨L, n, 0, a⟩, x, w) = (⟨L, n, 0, a⟩, x, w) := rfl
  have hf := hfin ⟨L, n, 0, a⟩
  simp only at hf
  rw [hz]
  simp [af124, af124b, hgo, ↓hg, aI, aK, aB, V.one, fV, lM, gD, lV, hf]
  rfl
 ·have he' : (e = 0) = False := eq_false he
  have hz : fzT (⟨L, n, e, a⟩, x, w) = (⟨L, n, e, a⟩, [], []) := by unfold fzT; rw [if_neg he]
  have hf := hfin ⟨L, n, e, a⟩
  simp only at hf
  rw [hz]
  simp [af124, af124b, hgo, ↓hg, he', aI, aK, aB, V.one, fV, lM, gD, lV, hf]
  rfl
theorem DZ (hs : s.obs[r]? = some (rdO R)) : call G 125 [.ptr r 0] s = some (.agg [.int .i64 R.whole.e, .int .i64 R.whole.a], upR s r (rdO R.whole)) := by
 have hr := cK hs
 have hup := gJ hs
 rw [← hup]
 simp only [upR, List.set_set]
 refine aC (F := af125) rfl rfl ?_
 have h1 := mA (s := s) hr R
 have h2 := Aa (s := s) hr R
 by_cases ho : R.over = true
 ·have hw : R.whole = R := by unfold Qk.whole; rw [if_pos ho]
  rw [hw]
  have hg := fun X => iQ (s := s) hr (rdO R) X
  have hf := fun X => jD (s := s) hr R R X (v := .agg [.int .i64 R.e, .int .i64 R.a]) rfl
  obtain ⟨L, n, e, a⟩ := R
  simp only [rdO] at hg h1 hf ⊢
  simp [af125, af125b, h1, ho, ↓hg, aI, aK, aB, V.one, fV, gD, hf]
 ·have ho' : R.over = false := by simpa using ho
  have hw : R.whole = R.form := by unfold Qk.whole; rw [if_neg ho]
  rw [hw]
  have hf := fun X => jD (s := s) hr R R.form X (v := .agg [.int .i64 R.form.e, .int .i64 R.form.a]) rfl
  have hg := fun X => iQ (s := s) hr (rdO R.form) X
  generalize R.form = R1 at *
  obtain ⟨L1, n1, e1, a1⟩ := R1
  simp only [rdO] at hg h1 h2 hf ⊢
  simp [af125, af125b, h1, h2, ho', ↓hg, aI, aK, aB, V.one, fV, gD, hf]
end
theorem Ju (b : List UInt8) (hb : b.length ≤ 9223372036854775807) (s : St) : call G 48 [.str b] s = some (.tup [tyV (PT b).1 (PT b).2.1, .agg [.int .i64 (PT b).2.2.1, .int .i64 (PT b).2.2.2]], s) := by
 refine aC (F := af48) rfl rfl ?_
 have h1 : ∀ X, call G 50 [.str b] ⟨s.obs ++ X, s.bufs⟩ = some (.ptr (s.obs.length + X.length + 1) 0, ⟨s.obs ++ (X ++ [.cells 29 [.int .i64 (dK b).2.1, .int .i64 (dK b).2.2], rdO (rd0 b)]), s.bufs⟩) := by
  intro X
  have := yJ b hb ⟨s.obs ++ X, s.bufs⟩
  simp only [List.length_append, List.append_assoc] at this
  exact this
 have g3 : ∀ (a c d o : Qw) (X : List Qw), (s.obs ++ a :: c :: d :: o :: X)[s.obs.length + 3]? = some o := fun a c d o X => by
  rw [List.getElem?_append_right (by omega)]; simp
 have t3 : ∀ (a c d o o' : Qw) (X : List Qw), (s.obs ++ a :: c :: d :: o :: X).set (s.obs.length + 3) o' = s.obs ++ a :: c :: d :: o' :: X := fun a c d o o' X => by
  rw [List.set_append_right _ _ (by omega)]; simp
 have h2 : ∀ (a c d : Qw) (X : List Qw) (R : Qk), call G 124 [.ptr (s.obs.length + 3) 0] ⟨s.obs ++ a :: c :: d :: rdO R :: X, s.bufs⟩ = some (tyV R.ty.2.1 R.ty.2.2, ⟨s.obs ++ a :: c :: d :: rdO R.ty.1 :: X, s.bufs⟩) := by
  intro a c d X R
  have := yV (s := ⟨s.obs ++ a :: c :: d :: rdO R :: X, s.bufs⟩) (g3 a c d (rdO R) X)
  simp only [upR, t3] at this
  exact this
 have h3 : ∀ (a c d : Qw) (X : List Qw) (R : Qk), call G 125 [.ptr (s.obs.length + 3) 0] ⟨s.obs ++ a :: c :: d :: rdO R :: X, s.bufs⟩ = some (.agg [.int .i64 R.whole.e, .int .i64 R.whole.a], ⟨s.obs ++ a :: c :: d :: rdO R.whole :: X, s.bufs⟩) := by
  intro a c d X R
  have := DZ (s := ⟨s.obs ++ a :: c :: d :: rdO R :: X, s.bufs⟩) (g3 a c d (rdO R) X)
  simp only [upR, t3] at this
  exact this
 simp only [tyV] at h2
 unfold PT
 generalize (rd0 b) = R0 at *
 generalize hq : R0.ty = q at *
 obtain ⟨R1, x, w⟩ := q
 have h2' := fun a c d X => h2 a c d X R0
 simp only [hq] at h2'
 have h3' := fun a c d X => h3 a c d X R1
 generalize R1.whole = R2 at *
 by_cases he : R2.e = 0
 ·rw [if_pos he]
  simp [af48, af48b, h1, h2', h3', he, aI, aK, aB, V.one]
  rw [bZ _ _ _ (by rfl)]
  rfl
 ·rw [if_neg he]
  have he' : (R2.e = 0) = False := eq_false he
  simp [af48, af48b, h1, h2', h3', he', aI, aK, aB, V.one, aR, aN, aM, bA, aT, aQ, cE]
  rw [bZ _ _ _ (by rfl)]
  rfl
structure Qj where
 L : List Tok
 k : Nat
 n : Int
 e : Int
 a : Int
def Qj.rs (q : Qj) : Qk := ⟨q.L.drop q.k, q.n, q.e, q.a⟩
def rrC (q : Qj) : List V := [.sl .no (bO q.L), .int .i64 q.k, .int .i64 q.n, .int .i64 q.e, .int .i64 q.a]
def rrV (q : Qj) : V := .agg (rrC q)
def Qj.ok (q : Qj) : Prop := (∀ t ∈ q.L, 1 ≤ t.k) ∧ q.k ≤ q.L.length ∧ q.L.length ≤ 1000000000
def Qj.fail (q : Qj) (p e : Int) : Qj := if q.e = 0 ∧ e ≠ 0 then ⟨q.L, q.k, q.n, e, p⟩ else q
def Qj.form (q : Qj) : Qj := q.fail q.rs.at_ 4
def Qj.inc (q : Qj) : Qj := ⟨q.L, q.k + 1, q.n, q.e, q.a⟩
def Qj.must (q : Qj) (x : List UInt8) : Qj := if q.rs.is x = true then q.inc else q.form
def Qj.name (q : Qj) : Qj × List UInt8 := if q.rs.kind = 2 then (q.inc, q.rs.hd.s) else (q.form, [])
theorem pY (q : Qj) (p e : Int) : (q.fail p e).rs = q.rs.fail p e := by
 unfold Qj.fail Qk.fail
 have : q.rs.e = q.e := rfl
 rw [this]
 split <;> rfl
theorem nW (q : Qj) : q.form.rs = q.rs.form := pY q _ _
theorem iW (q : Qj) : q.inc.rs = q.rs.tl := by
 simp [Qj.inc, Qj.rs, Qk.tl]
theorem Ay (q : Qj) (x : List UInt8) : (q.must x).rs = q.rs.must x := by
 unfold Qj.must Qk.must
 split
 ·exact iW q
 ·exact nW q
theorem pZ (q : Qj) : q.name.1.rs = q.rs.name.1 ∧ q.name.2 = q.rs.name.2 := by
 unfold Qj.name Qk.name
 split
 ·exact ⟨iW q, rfl⟩
 ·exact ⟨nW q, rfl⟩
theorem gI {q : Qj} (h : q.ok) (p e : Int) : (q.fail p e).ok := by
 unfold Qj.fail
 split
 ·exact h
 ·exact h
theorem GM {L : List Tok} {k : Nat} {t : Tok} {T : List Tok} (h : L.drop k = t :: T) : L[k]? = some t ∧ k < L.length := by
 have h1 : (L.drop k)[0]? = some t := by rw [h]; rfl
 rw [List.getElem?_drop, Nat.add_zero] at h1
 exact ⟨h1, (List.getElem?_eq_some_iff.1 h1).1⟩
theorem nU (q : Qj) : (q.rs.over = true ∧ (q.e ≠ 0 ∨ q.L.length ≤ q.k)) ∨ ∃ t, q.e = 0 ∧ q.rs.over = false ∧ q.k < q.L.length ∧ q.L[q.k]? = some t ∧ q.rs.hd = t ∧ q.rs.kind = t.k ∧ q.rs.at_ = t.a := by
 obtain ⟨L, k, n, e, a⟩ := q
 by_cases he : e = 0
 ·subst he
  cases hd : L.drop k with
  | nil =>
   left
   have hl : L.length ≤ k := List.drop_eq_nil_iff.1 hd
   refine ⟨?_, .inr hl⟩
   simp [Qj.rs, hd, Qk.over]
  | cons t T =>
   right
   obtain ⟨h1, h2⟩ := GM hd
   refine ⟨t, rfl, ?_, h2, h1, ?_, ?_, ?_⟩ <;> simp [Qj.rs, hd, Qk.over, Qk.hd, Qk.kind, Qk.at_]
 ·left
  exact ⟨by simp [Qj.rs, Qk.over, he], .inl he⟩
theorem kR {L : List Tok} {k : Nat} {t : Tok} (h : L[k]? = some t) : (bO L)[((k : Nat) : Int).toNat]? = some (fN t) := by
 unfold bO
 rw [Int.toNat_natCast, List.getElem?_map, h]; rfl
section
variable {q : Qj}
theorem eP (h : q.ok) (s : St) : call G 57 [rrV q] s = some (.bool q.rs.over, s) := by
 have hc := nU q
 have htl := dA q.L
 have hpl := aE q.L
 refine aC (F := af57) rfl rfl ?_
 obtain ⟨L, k, n, e, a⟩ := q
 rcases hc with ⟨ho, he⟩ | ⟨t, he, ho, hk, _⟩
 ·by_cases h0 : e = 0
  ·have hk : L.length ≤ k := he.resolve_left (fun h => h h0)
   have hk' : (L.length : Int) ≤ (k : Int) := by omega
   subst h0
   simp only at htl hpl
   simp [af57, af57b, rrV, rrC, htl, hpl, hk, hk']
   rw [bZ _ _ _ (by rfl)]
   rw [ho]; rfl
  ·simp only at htl hpl
   simp [af57, af57b, rrV, rrC, htl, hpl, h0]
   rw [bZ _ _ _ (by rfl)]
   rw [ho]; rfl
 ·simp only at he hk htl hpl
  subst he
  have hk1 : ¬ L.length ≤ k := by omega
  have hk' : ¬ (L.length : Int) ≤ (k : Int) := by omega
  simp [af57, af57b, rrV, rrC, htl, hpl, hk1, hk']
  rw [bZ _ _ _ (by rfl)]
  rw [ho]; rfl
theorem kS (h : q.ok) (s : St) : call G 55 [rrV q] s = some (.int .i64 q.rs.at_, s) := by
 have hc := nU q
 have htl := dA q.L
 have hpl := aE q.L
 refine aC (F := af55) rfl rfl ?_
 obtain ⟨L, k, n, e, a⟩ := q
 rcases hc with ⟨ho, he⟩ | ⟨t, he, ho, hk, hg, _, _, ha⟩
 ·by_cases h0 : e = 0
  ·have hk : L.length ≤ k := he.resolve_left (fun h => h h0)
   have hk' : (L.length : Int) ≤ (k : Int) := by omega
   have ha : Qk.at_ (Qj.rs ⟨L, k, n, e, a⟩) = n := by simp [Qj.rs, Qk.at_, h0, List.drop_eq_nil_iff.2 hk]
   subst h0
   simp only at htl hpl
   simp [af55, af55b, rrV, rrC, htl, hpl, hk, hk']
   rw [bZ _ _ _ (by rfl), ha]; rfl
  ·have ha : Qk.at_ (Qj.rs ⟨L, k, n, e, a⟩) = a := by simp [Qj.rs, Qk.at_, h0]
   simp only at htl hpl
   simp [af55, af55b, rrV, rrC, htl, hpl, h0]
   rw [bZ _ _ _ (by rfl), ha]; rfl
 ·simp only at he hk htl hpl hg
  subst he
  have hk1 : ¬ L.length ≤ k := by omega
  have hk' : ¬ (L.length : Int) ≤ (k : Int) := by omega
  have hgt := kR hg
  obtain ⟨tk, ts, ta⟩ := t
  simp [af55, af55b, rrV, rrC, htl, hpl, hk1, hk', ↓hgt, fN]
  rw [bZ _ _ _ (by rfl), ha]; rfl
theorem jX (h : q.ok) (p e2 : Int) (s : St) : call G 136 [rrV q, .int .i64 p, .int .i64 e2] s = some (rrV (q.fail p e2), s) := by
 have hpl := aE q.L
 have hud := bE q.L
 refine aC (F := af136) rfl rfl ?_
 obtain ⟨L, k, n, e, a⟩ := q
 simp only at hpl hud
 have hf : ∀ X e a, fin false s ⟨s.obs ++ X, s.bufs⟩ (.agg (rrC ⟨L, k, n, e, a⟩)) = (rrV ⟨L, k, n, e, a⟩, s) := by
  intro X e a
  rw [bZ _ _ _ (by simp [rrC, hpl, hud])]
  simp [rrV, rrC, hpl]
 simp only [rrC] at hf
 by_cases h1 : e = 0
 ·by_cases h2 : e2 = 0
  ·simp [af136, af136b, rrV, rrC, hpl, h1, h2, aI, aK, aB, V.one, hf]
   simp [Qj.fail, h1, rrV, rrC]
  ·have h2' : (e2 = 0) = False := eq_false h2
   simp [af136, af136b, rrV, rrC, hpl, h1, h2', aI, aK, aB, V.one, hf]
   simp [Qj.fail, h1, h2, rrV, rrC]
 ·have h1' : (e = 0) = False := eq_false h1
  simp [af136, af136b, rrV, rrC, hpl, h1', aI, aK, aB, V.one, hf]
  simp [Qj.fail, h1, rrV, rrC]
end
section
variable {q : Qj}
theorem rW (q : Qj) (n m : Nat) : (rrV q).und n m = true := by
 have := bE q.L n m
 simp [rrV, rrC, this]
theorem pX (q : Qj) : (rrV q).plain = rrV q := by
 have := aE q.L
 simp [rrV, rrC, this]
theorem Dt (q : Qj) (s : St) (X : List Qw) : fin false s ⟨s.obs ++ X, s.bufs⟩ (rrV q) = (rrV q, s) := by
 rw [bZ _ _ _ (by rw [pX]; exact rW _ _ _), pX]
theorem JB (q : Qj) (x : List UInt8) (s : St) (X : List Qw) : fin false s ⟨s.obs ++ X, s.bufs⟩ (.tup [rrV q, .str x]) = (.tup [rrV q, .str x], s) := by
 have h1 := rW q s.obs.length 0
 have h2 := pX q
 rw [bZ _ _ _ (by simp [h2, h1])]
 simp [h2]
theorem lS (h : q.ok) (s : St) : call G 69 [rrV q] s = some (rrV q.form, s) := by
 have hpl := aE q.L
 have hud := bE q.L
 have h1 := kS h
 have h2 := jX h q.rs.at_ 4
 have hq : q.fail q.rs.at_ 4 = q.form := rfl
 rw [hq] at h2
 have hf := fun X => Dt q.form s X
 generalize q.rs.at_ = p at *
 generalize q.form = q2 at *
 refine aC (F := af69) rfl rfl ?_
 obtain ⟨L, k, n, e, a⟩ := q
 obtain ⟨L2, k2, n2, e2, a2⟩ := q2
 simp only at hpl hud
 simp only [rrV, rrC] at h1 h2 hf ⊢
 simp [af69, af69b, hpl, hud, h1, h2, aI, aK, aB, V.one, hf, aL]
theorem gF (h : q.ok) (x : List UInt8) (s : St) : call G 67 [rrV q, .str x] s = some (.bool (q.rs.is x), s) := by
 have hc := nU q
 have htl := dA q.L
 have hpl := aE q.L
 have h1 := eP h
 have hok := h
 refine aC (F := af67) rfl rfl ?_
 obtain ⟨L, k, n, e, a⟩ := q
 simp only at htl hpl
 rcases hc with ⟨ho, he⟩ | ⟨t, he, ho, hk, hg, hh, hkd, ha⟩
 ·simp only [rrV, rrC] at h1 ⊢
  simp [af67, af67b, htl, hpl, h1, ho]
  rw [bZ _ _ _ (by rfl), nL ho]; rfl
 ·simp only at he hk hg
  have hk1 : ¬ L.length ≤ k := by omega
  have hgt := kR hg
  have ht1 : 1 ≤ t.k := hok.1 t (List.mem_of_getElem? hg)
  obtain ⟨tk, ts, ta⟩ := t
  simp only at ht1 hkd
  simp only [rrV, rrC] at h1 ⊢
  by_cases h2 : tk ≤ 2
  ·have hcase : tk = 1 ∨ tk = 2 := by omega
   have hk2 : (decide (tk = 1) || decide (tk = 2)) = true := by rcases hcase with rfl | rfl <;> rfl
   simp [af67, af67b, htl, hpl, h1, ho, hk1, hk, ↓hgt, fN, h2]
   rw [bZ _ _ _ (by rfl)]
   unfold Qk.is
   rw [hkd, hh, hk2, Bool.true_and]; rfl
  ·have hk2 : (decide (tk = 1) || decide (tk = 2)) = false := by
    rw [decide_eq_false (by omega), decide_eq_false (by omega)]; rfl
   simp [af67, af67b, htl, hpl, h1, ho, hk1, hk, ↓hgt, fN, h2]
   rw [bZ _ _ _ (by rfl)]
   unfold Qk.is
   rw [hkd, hk2, Bool.false_and]; rfl
theorem lT (h : q.ok) (x : List UInt8) (s : St) : call G 68 [rrV q, .str x] s = some (rrV (q.must x), s) := by
 have hpl := aE q.L
 have h1 := gF h x
 have h2 := lS h
 have hf := fun X => Dt (q.must x) s X
 refine aC (F := af68) rfl rfl ?_
 by_cases hi : q.rs.is x = true
 ·have hm : q.must x = q.inc := by unfold Qj.must; rw [if_pos hi]
  have hw : IntKind.i64.wrap ((q.k : Int) + 1) = (q.k : Int) + 1 := aD (by omega) (by have := h.2.1; have := h.2.2; omega)
  rw [hm] at hf ⊢
  obtain ⟨L, k, n, e, a⟩ := q
  simp only at hpl hw
  simp only [rrV, rrC, Qj.inc] at h1 hf ⊢
  push_cast at hf ⊢
  simp [af68, af68b, hpl, h1, hi, hw, aI, aK, aB, V.one, hf]
 ·have hi' : q.rs.is x = false := by simpa using hi
  have hm : q.must x = q.form := by unfold Qj.must; rw [if_neg hi]
  rw [hm] at hf ⊢
  generalize q.form = q2 at *
  obtain ⟨L, k, n, e, a⟩ := q
  obtain ⟨L2, k2, n2, e2, a2⟩ := q2
  simp only at hpl
  simp only [rrV, rrC] at h1 h2 hf ⊢
  simp [af68, af68b, hpl, h1, hi', h2, aI, aK, aB, V.one, hf]
theorem lU (h : q.ok) (s : St) : call G 70 [rrV q] s = some (.tup [rrV q.name.1, .str q.name.2], s) := by
 have hc := nU q
 have htl := dA q.L
 have hpl := aE q.L
 have h1 := eP h
 have h2 := lS h
 have hf := fun X => JB q.name.1 q.name.2 s X
 refine aC (F := af70) rfl rfl ?_
 rcases hc with ⟨ho, he⟩ | ⟨t, he, ho, hk, hg, hh, hkd, ha⟩
 ·have hm : q.name = (q.form, []) := by unfold Qj.name; rw [mQ ho, if_neg (by decide)]
  rw [hm] at hf ⊢
  generalize q.form = q2 at *
  obtain ⟨L, k, n, e, a⟩ := q
  obtain ⟨L2, k2, n2, e2, a2⟩ := q2
  simp only at hpl htl
  simp only [rrV, rrC] at h1 h2 hf ⊢
  simp [af70, af70b, htl, hpl, h1, ho, h2, aI, aK, aB, V.one, hf]
 ·have hgt := kR hg
  have hk1 : ¬ q.L.length ≤ q.k := by omega
  by_cases hk2 : t.k = 2
  ·have hm : q.name = (q.inc, t.s) := by unfold Qj.name; rw [hkd, if_pos hk2, hh]
   have hw : IntKind.i64.wrap ((q.k : Int) + 1) = (q.k : Int) + 1 := aD (by omega) (by have := h.2.1; have := h.2.2; omega)
   rw [hm] at hf ⊢
   obtain ⟨L, k, n, e, a⟩ := q
   obtain ⟨tk, ts, ta⟩ := t
   simp only at hpl htl hw hgt hk1 hk hk2
   subst hk2
   simp only [rrV, rrC, Qj.inc] at h1 hf ⊢
   push_cast at hf ⊢
   simp [af70, af70b, htl, hpl, h1, ho, hk1, hk, ↓hgt, fN, hw, aI, aK, aB, V.one, hf]
  ·have hm : q.name = (q.form, []) := by unfold Qj.name; rw [hkd, if_neg hk2]
   have hk2' : (t.k = 2) = False := eq_false hk2
   rw [hm] at hf ⊢
   generalize q.form = q2 at *
   obtain ⟨L, k, n, e, a⟩ := q
   obtain ⟨L2, k2, n2, e2, a2⟩ := q2
   obtain ⟨tk, ts, ta⟩ := t
   simp only at hpl htl hgt hk1 hk hk2'
   simp only [rrV, rrC] at h1 h2 hf ⊢
   simp [af70, af70b, htl, hpl, h1, ho, hk1, hk, ↓hgt, fN, hk2', h2, aI, aK, aB, V.one, hf]
end
theorem Gf {l l' s : List UInt8} {k : Int} (h : fM l = .ok (k, s) l') : 1 ≤ k := by
 unfold fM at h
 repeat' split at h
 all_goals first
  | (cases h; done)
  | (simp only [PR.ok.injEq, Prod.mk.injEq] at h; omega)
  | skip
 ·unfold iL at h
  repeat' split at h
  all_goals first
   | (cases h; done)
   | (simp only [PR.ok.injEq, Prod.mk.injEq] at h; omega)
 ·unfold sF at h
  repeat' split at h
  all_goals first
   | (cases h; done)
   | (simp only [PR.ok.injEq, Prod.mk.injEq] at h; omega)
 ·unfold wW at h
  repeat' split at h
  all_goals first
   | (cases h; done)
   | (simp only [PR.ok.injEq, Prod.mk.injEq] at h; omega)
theorem Fk (b : List UInt8) : ∀ (n : Nat) (l l2 : List UInt8) (toks T : List Tok), (∀ t ∈ toks, 1 ≤ t.k) → toks.length ≤ 900 → mC b n l toks = .ok T l2 → (∀ t ∈ T, 1 ≤ t.k) ∧ T.length ≤ 900 := by
 intro n
 induction n with
 | zero => intro l l2 toks T _ _ h; cases h
 | succ n ih =>
  intro l l2 toks T ht hl h
  rw [mC] at h
  split at h
  ·cases h; exact ⟨ht, hl⟩
  split at h
  ·cases h
  cases hT : fM l with
  | err l' e => rw [hT] at h; cases h
  | ok kt l' =>
   obtain ⟨k, s⟩ := kt
   rw [hT] at h
   refine ih _ _ _ _ ?_ (by rw [List.length_append]; simp; omega) h
   intro t hm
   rcases List.mem_append.1 hm with hm | hm
   ·exact ht t hm
   ·simp at hm; subst hm; exact Gf hT
theorem sS (b : List UInt8) : (∀ t ∈ (dK b).1, 1 ≤ t.k) ∧ (dK b).1.length ≤ 900 := by
 unfold dK
 split
 ·simp
 split
 ·simp
 split
 ·rename_i toks l h
  exact Fk b _ _ _ [] _ (by simp) (by simp) h
 ·simp
def rr0 (b : List UInt8) : Qj := ⟨(dK b).1, 0, b.length, (dK b).2.1, (dK b).2.2⟩
theorem KI (b : List UInt8) : (rr0 b).ok := ⟨(sS b).1, by simp [rr0], by have := (sS b).2; simp only [rr0]; omega⟩
theorem Du (b : List UInt8) (hb : b.length ≤ 9223372036854775807) (s : St) : call G 51 [.str b] s = some (rrV (rr0 b), s) := by
 have hlx := FJ b hb
 have hpl := aE (dK b).1
 have hf := fun X => Dt (rr0 b) s X
 refine aC (F := af51) rfl rfl ?_
 have hr : rrC (rr0 b) = [.sl .no (bO (dK b).1), .int .i64 0, .int .i64 b.length, .int .i64 (dK b).2.1, .int .i64 (dK b).2.2] := rfl
 simp only [rrV, hr] at hf ⊢
 generalize (dK b).1 = L at *
 generalize (dK b).2.1 = e at *
 generalize (dK b).2.2 = a at *
 simp [af51, af51b, hlx, hpl, aI, aK, aB, V.one, hf]
def fzR (p : Qj × List UInt8 × List UInt8) : Qj × List UInt8 × List UInt8 := if p.1.e = 0 then p else (p.1, [], [])
def Qj.bang (p : Qj × List UInt8 × List UInt8) : Qj × List UInt8 × List UInt8 := if p.1.rs.is [33] = true then (p.1.inc, p.2.1, p.2.2 ++ [33]) else p
def Qj.typ : Nat → Qj → Qj × List UInt8 × List UInt8
 | 0, q => if q.rs.is [91] = true then (q.fail q.rs.at_ 5, [], []) else fzR (Qj.bang (q.name.1, q.name.2, []))
 | n + 1, q => if q.rs.is [91] = true then fzR (Qj.bang (((Qj.typ n q.inc).1.must [93]), (Qj.typ n q.inc).2.1, (Qj.typ n q.inc).2.2 ++ [91])) else fzR (Qj.bang (q.name.1, q.name.2, []))
theorem Lb {R : Qk} {x : List UInt8} (h : R.e ≠ 0) : R.is x = false := nL (by simp [Qk.over, h]) x
theorem sP (p : Qj × List UInt8 × List UInt8) : (fzR p).1 = p.1 := by unfold fzR; split <;> rfl
theorem zO {p : Qj × List UInt8 × List UInt8} {R : Qk} {x w : List UInt8} (h : p.1.rs = R) (h2 : p.1.e = 0 → p.2 = (x, w)) :
  (Qj.bang p).1.rs = (Qk.bang (R, x, w)).1 ∧ ((Qj.bang p).1.e = 0 → (Qj.bang p).2 = (Qk.bang (R, x, w)).2) := by
 unfold Qj.bang Qk.bang
 rw [h]
 by_cases hi : R.is [33] = true
 ·rw [if_pos hi, if_pos hi]
  refine ⟨by rw [iW, h], fun he => ?_⟩
  have := h2 he
  simp only [this]
 ·rw [if_neg hi, if_neg hi]
  exact ⟨h, h2⟩
theorem IU {q : Qj} {p e : Int} (h : (q.fail p e).e = 0) : q.e = 0 := by
 unfold Qj.fail at h
 split at h
 ·rename_i hc; exact hc.1
 ·exact h
theorem Jj {q : Qj} {x : List UInt8} (h : (q.must x).e = 0) : q.e = 0 := by
 unfold Qj.must at h
 split at h
 ·exact h
 ·exact IU h
theorem Az : ∀ (n : Nat) (q : Qj), (Qj.typ n q).1.rs = (Qk.typ n q.rs).1 ∧ ((Qj.typ n q).1.e = 0 → (Qj.typ n q).2 = (Qk.typ n q.rs).2)
 | 0, q => by
  rw [Qj.typ, Qk.typ]
  by_cases hi : q.rs.is [91] = true
  ·rw [if_pos hi, if_pos hi]
   exact ⟨pY _ _ _, fun _ => rfl⟩
  ·rw [if_neg hi, if_neg hi]
   obtain ⟨h1, h2⟩ := pZ q
   obtain ⟨b1, b2⟩ := zO (p := (q.name.1, q.name.2, [])) (R := q.rs.name.1) (x := q.rs.name.2) (w := []) h1 (fun _ => by rw [h2])
   rw [sP]
   refine ⟨b1, fun he => ?_⟩
   unfold fzR
   rw [if_pos he]
   exact b2 he
 | n + 1, q => by
  rw [Qj.typ, Qk.typ]
  by_cases hi : q.rs.is [91] = true
  ·rw [if_pos hi, if_pos hi]
   obtain ⟨h1, h2⟩ := Az n q.inc
   rw [iW] at h1 h2
   obtain ⟨b1, b2⟩ := zO (p := (((Qj.typ n q.inc).1.must [93]), (Qj.typ n q.inc).2.1, (Qj.typ n q.inc).2.2 ++ [91])) (R := (Qk.typ n q.rs.tl).1.must [93]) (x := (Qk.typ n q.rs.tl).2.1) (w := (Qk.typ n q.rs.tl).2.2 ++ [91])
    (by rw [Ay, h1]) (fun he => by rw [h2 (Jj he)])
   rw [sP]
   refine ⟨b1, fun he => ?_⟩
   unfold fzR
   rw [if_pos he]
   exact b2 he
  ·rw [if_neg hi, if_neg hi]
   obtain ⟨h1, h2⟩ := pZ q
   obtain ⟨b1, b2⟩ := zO (p := (q.name.1, q.name.2, [])) (R := q.rs.name.1) (x := q.rs.name.2) (w := []) h1 (fun _ => by rw [h2])
   rw [sP]
   refine ⟨b1, fun he => ?_⟩
   unfold fzR
   rw [if_pos he]
   exact b2 he
section
variable {q : Qj}
theorem mD (h : q.ok) (ho : q.rs.over = false) : q.inc.ok := by
 rcases nU q with ⟨h1, _⟩ | ⟨t, _, _, hk, _⟩
 ·rw [h1] at ho; cases ho
 ·exact ⟨h.1, by simp only [Qj.inc]; omega, h.2.2⟩
theorem kW {R : Qk} {x : List UInt8} (h : R.is x = true) : R.over = false := by
 cases h1 : R.over with
 | false => rfl
 | true => rw [nL h1] at h; cases h
theorem rP (h : q.ok) (x : List UInt8) : (q.must x).ok := by
 unfold Qj.must
 split
 ·rename_i hi; exact mD h (kW hi)
 ·exact gI h _ _
theorem lQ (h : q.ok) : q.name.1.ok := by
 unfold Qj.name
 split
 ·rename_i hk
  refine mD h ?_
  cases h1 : q.rs.over with
  | false => rfl
  | true => rw [mQ h1] at hk; omega
 ·exact gI h _ _
end
theorem Ao {p : Qj × List UInt8 × List UInt8} (h : p.1.ok) : (Qj.bang p).1.ok := by
 unfold Qj.bang
 split
 ·rename_i hi; exact mD h (kW hi)
 ·exact h
theorem Da : ∀ (n : Nat) (q : Qj), q.ok → (Qj.typ n q).1.ok
 | 0, q, h => by
  rw [Qj.typ]
  split
  ·exact gI h _ _
  ·rw [sP]; exact Ao (lQ h)
 | n + 1, q, h => by
  rw [Qj.typ]
  split
  ·rename_i hi
   rw [sP]
   exact Ao (rP (Da n q.inc (mD h (kW hi))) _)
  ·rw [sP]; exact Ao (lQ h)
theorem KJ (n : Nat) (q : Qj) : (Qj.typ n q).2.2.length ≤ 2 * n + 1 := by
 by_cases he : (Qj.typ n q).1.e = 0
 ·rw [(Az n q).2 he]; exact AJ n _
 ·have : (Qj.typ n q).2 = ([], []) := by
   cases n with
   | zero =>
    rw [Qj.typ] at he ⊢
    split
    ·rfl
    ·rename_i hi
     rw [if_neg hi, sP] at he
     unfold fzR
     rw [if_neg he]
   | succ n =>
    rw [Qj.typ] at he ⊢
    split
    ·rename_i hi
     rw [if_pos hi, sP] at he
     unfold fzR
     rw [if_neg he]
    ·rename_i hi
     rw [if_neg hi, sP] at he
     unfold fzR
     rw [if_neg he]
  rw [this]; simp
theorem nV (q : Qj) (x w : List UInt8) (s : St) (X : List Qw) : fin false s ⟨s.obs ++ X, s.bufs⟩ (.tup [rrV q, tyV x w]) = (.tup [rrV q, tyV x w], s) := by
 have h1 := rW q s.obs.length 0
 have h2 := pX q
 rw [bZ _ _ _ (by simp [h2, h1, tyV])]
 simp [h2, tyV]
theorem GA {q : Qj} (h : q.rs.is [33] = true) : q.e = 0 := by
 rcases nU q with ⟨h1, _⟩ | ⟨t, h0, _⟩
 ·rw [nL h1] at h; cases h
 ·exact h0
set_option maxHeartbeats 2000000 in
theorem Dv : ∀ (n : Nat), n ≤ 1000 → ∀ (q : Qj), q.ok → ∀ (s : St), call G 134 [rrV q, .int .i64 n] s = some (.tup [rrV (Qj.typ n q).1, tyV (Qj.typ n q).2.1 (Qj.typ n q).2.2], s) := by
 have e64 : gN = 9223372036854775807 := rfl
 have key : ∀ (n : Nat) (q : Qj), q.ok → ∀ (s : St), q.rs.is [91] = false → call G 134 [rrV q, .int .i64 n] s = some (.tup [rrV (fzR (Qj.bang (q.name.1, q.name.2, []))).1, tyV (fzR (Qj.bang (q.name.1, q.name.2, []))).2.1 (fzR (Qj.bang (q.name.1, q.name.2, []))).2.2], s) := by
  intro n q hq s hi
  have hpl := aE q.L
  have hud := bE q.L
  have h1 := gF hq
  have hnm := lU hq
  have hok1 := lQ hq
  generalize hN : q.name = N at *
  obtain ⟨q1, x⟩ := N
  simp only at hok1 hnm
  have hi1 := gF hok1 [33]
  have hpl1 := aE q1.L
  have hw1 : IntKind.i64.wrap ((q1.k : Int) + 1) = (q1.k : Int) + 1 := aD (by omega) (by have := hok1.2.1; have := hok1.2.2; omega)
  refine aC (F := af134) rfl rfl ?_
  by_cases hb : q1.rs.is [33] = true
  ·have he := GA hb
   have hty : fzR (Qj.bang (q1, x, [])) = (q1.inc, x, [33]) := by
    unfold Qj.bang
    rw [if_pos hb]
    unfold fzR
    rw [if_pos (show q1.inc.e = 0 from he)]; rfl
   rw [hty]
   have hf := fun X => nV q1.inc x [33] s X
   obtain ⟨L, k, n', e, a⟩ := q
   obtain ⟨L1, k1, n1, e1, a1⟩ := q1
   simp only at hpl hud hpl1 hw1 he
   subst he
   simp only [rrV, rrC, tyV, Qj.inc] at h1 hnm hi1 hf ⊢
   push_cast at hf ⊢
   simp [af134, af134b, hpl, hpl1, hud, h1, hi, hnm, hi1, hb, hw1, e64, aI, aK, aB, V.one, hf, aL, aR, aN, aM, bA, aT, aQ, cE]
  ·have hb' : q1.rs.is [33] = false := by simpa using hb
   have hbg : Qj.bang (q1, x, []) = (q1, x, []) := by unfold Qj.bang; rw [if_neg hb]
   rw [hbg]
   by_cases he : q1.e = 0
   ·have hty : fzR (q1, x, []) = (q1, x, []) := by unfold fzR; rw [if_pos he]
    rw [hty]
    have hf := fun X => nV q1 x [] s X
    obtain ⟨L, k, n', e, a⟩ := q
    obtain ⟨L1, k1, n1, e1, a1⟩ := q1
    simp only at hpl hud hpl1 hw1 he
    subst he
    simp only [rrV, rrC, tyV, Qj.inc] at h1 hnm hi1 hf ⊢
    simp [af134, af134b, hpl, hpl1, hud, h1, hi, hnm, hi1, hb', hw1, e64, aI, aK, aB, V.one, hf, aL, aR, aN, aM, bA, aT, aQ, cE]
   ·have hty : fzR (q1, x, []) = (q1, [], []) := by unfold fzR; rw [if_neg he]
    rw [hty]
    have hf := fun X => nV q1 [] [] s X
    obtain ⟨L, k, n', e, a⟩ := q
    obtain ⟨L1, k1, n1, e1, a1⟩ := q1
    simp only at hpl hud hpl1 hw1 he
    have he' : (e1 = 0) = False := eq_false he
    simp only [rrV, rrC, tyV, Qj.inc] at h1 hnm hi1 hf ⊢
    simp [af134, af134b, hpl, hpl1, hud, h1, hi, hnm, hi1, hb', hw1, he', e64, aI, aK, aB, V.one, hf, aL, aR, aN, aM, bA, aT, aQ, cE]
 intro n
 induction n with
 | zero =>
  intro hn q hq s
  by_cases hi : q.rs.is [91] = true
  ·have hpl := aE q.L
   have hud := bE q.L
   have h1 := gF hq
   refine aC (F := af134) rfl rfl ?_
   have h2 := kS hq
   have h3 := jX hq q.rs.at_ 5
   have hty : Qj.typ 0 q = (q.fail q.rs.at_ 5, [], []) := by rw [Qj.typ, if_pos hi]
   rw [hty]
   have hf := fun X => nV (q.fail q.rs.at_ 5) [] [] s X
   generalize q.rs.at_ = p at *
   generalize q.fail p 5 = q2 at *
   obtain ⟨L, k, n, e, a⟩ := q
   obtain ⟨L2, k2, n2, e2, a2⟩ := q2
   simp only at hpl hud
   simp only [rrV, rrC, tyV] at h1 h2 h3 hf ⊢
   simp [af134, af134b, hpl, hud, h1, hi, h2, h3, aI, aK, aB, V.one, hf, aL, aR, aN, aM, bA, aT, aQ, cE]
  ·have hty : Qj.typ 0 q = fzR (Qj.bang (q.name.1, q.name.2, [])) := by rw [Qj.typ, if_neg hi]
   rw [hty]
   exact key 0 q hq s (by simpa using hi)
 | succ n ih =>
  intro hn q hq s
  by_cases hi : q.rs.is [91] = true
  ·have hty : Qj.typ (n + 1) q = fzR (Qj.bang (((Qj.typ n q.inc).1.must [93]), (Qj.typ n q.inc).2.1, (Qj.typ n q.inc).2.2 ++ [91])) := by rw [Qj.typ, if_pos hi]
   have hpl := aE q.L
   have hud := bE q.L
   have h1 := gF hq
   have hoki := mD hq (kW hi)
   have hgo := fun s => ih (by omega) q.inc hoki s
   have hok0 := Da n q.inc hoki
   have hl := KJ n q.inc
   have hlt : ¬ (n : Int) + 1 < 1 := by omega
   have hw : IntKind.i64.wrap (n : Int) = (n : Int) := aD (by omega) (by omega)
   have hwk : IntKind.i64.wrap ((q.k : Int) + 1) = (q.k : Int) + 1 := aD (by omega) (by have := hq.2.1; have := hq.2.2; omega)
   rw [hty]
   generalize Qj.typ n q.inc = T at *
   obtain ⟨q0, x, w⟩ := T
   simp only at hok0 hl
   have hmu := lT hok0 [93]
   have hok1 := rP hok0 [93]
   simp only
   generalize q0.must [93] = q1 at *
   have hi1 := gF hok1 [33]
   have hpl0 := aE q0.L
   have hpl1 := aE q1.L
   have hw1 : IntKind.i64.wrap ((q1.k : Int) + 1) = (q1.k : Int) + 1 := aD (by omega) (by have := hok1.2.1; have := hok1.2.2; omega)
   have hl1 : (w.length : Int) + 1 ≤ 9223372036854775807 := by omega
   have hl2 : (w.length : Int) + 1 + 1 ≤ 9223372036854775807 := by omega
   refine aC (F := af134) rfl rfl ?_
   by_cases hb : q1.rs.is [33] = true
   ·have he := GA hb
    have hty2 : fzR (Qj.bang (q1, x, w ++ [91])) = (q1.inc, x, w ++ [91] ++ [33]) := by
     unfold Qj.bang
     rw [if_pos hb]
     unfold fzR
     rw [if_pos (show q1.inc.e = 0 from he)]
    rw [hty2]
    have hf := fun X => nV q1.inc x (w ++ [91] ++ [33]) s X
    obtain ⟨L, k, n', e, a⟩ := q
    obtain ⟨L0, k0, n0, e0, a0⟩ := q0
    obtain ⟨L1, k1, n1, e1, a1⟩ := q1
    simp only at hpl hud hpl0 hpl1 hw1 he hwk
    subst he
    simp only [rrV, rrC, tyV, Qj.inc, List.append_assoc, List.cons_append, List.nil_append] at h1 hgo hmu hi1 hf ⊢
    push_cast at hf hgo ⊢
    simp [af134, af134b, hpl, hpl0, hpl1, hud, h1, hi, hlt, hw, hwk, hgo, hmu, hi1, hb, hw1, hl1, hl2, e64, aI, aK, aB, V.one, hf, aL, aR, aN, aM, bA, aT, aQ, cE]
   ·have hb' : q1.rs.is [33] = false := by simpa using hb
    have hbg : Qj.bang (q1, x, w ++ [91]) = (q1, x, w ++ [91]) := by unfold Qj.bang; rw [if_neg hb]
    rw [hbg]
    by_cases he : q1.e = 0
    ·have hty2 : fzR (q1, x, w ++ [91]) = (q1, x, w ++ [91]) := by unfold fzR; rw [if_pos he]
     rw [hty2]
     have hf := fun X => nV q1 x (w ++ [91]) s X
     obtain ⟨L, k, n', e, a⟩ := q
     obtain ⟨L0, k0, n0, e0, a0⟩ := q0
     obtain ⟨L1, k1, n1, e1, a1⟩ := q1
     simp only at hpl hud hpl0 hpl1 hw1 he hwk
     subst he
     simp only [rrV, rrC, tyV, Qj.inc] at h1 hgo hmu hi1 hf ⊢
     push_cast at hgo
     simp [af134, af134b, hpl, hpl0, hpl1, hud, h1, hi, hlt, hw, hwk, hgo, hmu, hi1, hb', hw1, hl1, hl2, e64, aI, aK, aB, V.one, hf, aL, aR, aN, aM, bA, aT, aQ, cE]
    ·have hty2 : fzR (q1, x, w ++ [91]) = (q1, [], []) := by unfold fzR; rw [if_neg he]
     rw [hty2]
     have hf := fun X => nV q1 [] [] s X
     have he' : (q1.e = 0) = False := eq_false he
     obtain ⟨L, k, n', e, a⟩ := q
     obtain ⟨L0, k0, n0, e0, a0⟩ := q0
     obtain ⟨L1, k1, n1, e1, a1⟩ := q1
     simp only at hpl hud hpl0 hpl1 hw1 he' hwk
     simp only [rrV, rrC, tyV, Qj.inc] at h1 hgo hmu hi1 hf ⊢
     push_cast at hgo
     simp [af134, af134b, hpl, hpl0, hpl1, hud, h1, hi, hlt, hw, hwk, hgo, hmu, hi1, hb', hw1, he', hl1, hl2, e64, aI, aK, aB, V.one, hf, aL, aR, aN, aM, bA, aT, aQ, cE]
  ·have hty : Qj.typ (n + 1) q = fzR (Qj.bang (q.name.1, q.name.2, [])) := by rw [Qj.typ, if_neg hi]
   rw [hty]
   have := key (n + 1) q hq s (by simpa using hi)
   exact this
theorem ty_e (R : Qk) : R.ty.1 = (Qk.typ 4 R).1 := by unfold Qk.ty fzT; split <;> rfl
