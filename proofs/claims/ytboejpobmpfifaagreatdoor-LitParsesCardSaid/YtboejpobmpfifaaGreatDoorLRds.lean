/-
 The two readers of tokens: small functions, types. No condition.
-/
import Derived.Test.YtboejpobmpfifaaGreatDoorTRefs
set_option linter.unusedSimpArgs false
set_option linter.unusedVariables false
namespace Go.Proofs.YtboejpobmpfifaaGreatDoor.Eng
open Go
attribute [local simp] hZ hQ eW eX dV eZ dD dC eY dU dT eG eT dP cE dZ dE cS dQ cD bZ dB bY
attribute [local simp] iD aW put dF X.ev cK cT cU cY bW dS cW bX dR cV eO gG kY bK fM gS fJ gD V.plain aU V.und cB scK kill aF bO aH dX dW cZ mA bR fW V.real bH bN dA
theorem aP (env : Env) : fL [] env = true := rfl
theorem bD (r : List (Nat × Nat)) (env : Env) (p q : Nat) (h : q < 1000000) : fL ((p, q) :: r) env = (cR (env p) (env q) && fL r env) := by
 simp only [fL, List.all_cons, uG]
 rw [if_pos h]
theorem rZ (r : List (Nat × Nat)) (env : Env) (p q : Nat) (h0 : ¬ q < 1000000) (h : q < 2000000) : fL ((p, q) :: r) env = (tL (env (q - 1000000)) (env p) && fL r env) := by
 simp only [fL, List.all_cons, uG]
 rw [if_neg h0, if_pos h]
theorem aY (env : Env) (s : St) : kH [] env s = (env, s) := rfl
theorem aR (r : List (Nat × Nat)) (env : Env) (s : St) (p q : Nat) (h : q < 2000000) : kH ((p, q) :: r) env s = kH r env s := by
 simp only [kH]
 rw [if_pos h]
theorem Ko {g : FuncId} {args : List V} {s : St} {r : Nat} {o0 : AObj} (hs : s.obs[r]? = some o0) (hn : eR args = r + 1) (ha : cB (r + 1) 0 args = true)
  (hb : ∀ o ∈ s.obs.take (r + 1), o.und (r + 1) 0 = true ∧ o.kind ≠ 4) {v : V} {o : AObj} {ex : List (Nat × Nat × TypeId)}
  (hc : call G g args ⟨s.obs.take (r + 1), []⟩ = some (v, ⟨(s.obs.take (r + 1)).set r o, ex⟩)) (hv : v.und (r + 1) 0 = true) (ho : o.und 0 0 = true) (hk : o.kind = o0.kind) :
  frK s args (call G g args (wU s args)) = some (v, upR s r o) := by
 have hr := eC hs
 have hin : wU s args = ⟨s.obs.take (r + 1), []⟩ := by simp only [wU, hn]
 have hok : FrOk (eR args) s args (v, ⟨(s.obs.take (r + 1)).set r o, ex⟩) := by
  rw [hn]
  refine ⟨by omega, ha, hb, hv, ?_, ?_⟩
  ·intro x hx
   rcases List.mem_or_eq_of_mem_set hx with h | h
   ·exact (hb x h).1
   ·rw [h]; exact AObj.und_mono (Nat.zero_le _) (Nat.zero_le _) _ ho
  ·apply List.ext_getElem?
   intro i
   simp only [List.getElem?_map, List.getElem?_set, List.length_take]
   split
   ·rename_i h
    subst h
    rw [if_pos (by omega), List.getElem?_take, if_pos (by omega), hs]
    simp [hk]
   ·rfl
 rw [hin, hc, GW _ _ _ _ hok, hn]
 congr 2
 simp only [upR]
 congr 1
 apply List.ext_getElem?
 intro i
 rw [List.getElem?_append, List.getElem?_set]
 simp only [List.length_set, List.length_take, List.getElem?_set, List.getElem?_take, List.getElem?_drop]
 by_cases h1 : i < min (r + 1) s.obs.length
 ·rw [if_pos h1]
  by_cases h2 : r = i
  ·subst h2
   simp [hr]
   exact h1
  ·rw [if_neg h2, if_neg h2, if_pos (by omega)]
 ·rw [if_neg h1, if_neg (by omega)]
  congr 1
  omega
structure Lrd where
 L : List Tok
 n : Int
 e : Int
 a : Int
def rdO (R : Lrd) : AObj := .cells 185 [.sl .no (bP R.L), .int .i64 R.n, .int .i64 R.e, .int .i64 R.a]
theorem gZ (R : Lrd) (n m : Nat) : (rdO R).und n m = true := by
 have := bT R.L n m
 simp [rdO, AObj.und, this]
theorem rK (R : Lrd) : (rdO R).kind = 0 := rfl
def Lrd.at_ (R : Lrd) : Int := if R.e = 0 then (match R.L with | [] => R.n | t :: _ => t.a) else R.a
def Lrd.over (R : Lrd) : Bool := !decide (R.e = 0) || decide (R.L = [])
def Lrd.fail (R : Lrd) (p e : Int) : Lrd := if R.e = 0 ∧ e ≠ 0 then ⟨R.L, R.n, e, p⟩ else R
def Lrd.form (R : Lrd) : Lrd := R.fail R.at_ 4
def Lrd.kind (R : Lrd) : Int := if R.over = true then 0 else match R.L with | [] => 0 | t :: _ => t.k
def Lrd.tl (R : Lrd) : Lrd := ⟨R.L.drop 1, R.n, R.e, R.a⟩
def Lrd.hd (R : Lrd) : Tok := match R.L with | [] => ⟨0, [], 0⟩ | t :: _ => t
def Lrd.is (R : Lrd) (x : List UInt8) : Bool := (decide (R.kind = 1) || decide (R.kind = 2)) && decide (R.hd.s = x)
def Lrd.take (R : Lrd) (x : List UInt8) : Lrd := if R.is x = true then R.tl else R
def Lrd.must (R : Lrd) (x : List UInt8) : Lrd := if R.is x = true then R.tl else R.form
def Lrd.name (R : Lrd) : Lrd × List UInt8 := if R.kind = 2 then (R.tl, R.hd.s) else (R.form, [])
def Lrd.next (R : Lrd) : Lrd × Tok := if R.over = true then (R.form, ⟨0, [], 0⟩) else (R.tl, R.hd)
theorem mL {n e a : Int} : Lrd.over ⟨[], n, e, a⟩ = true := by simp [Lrd.over]
theorem FC {t : Tok} {L : List Tok} {n a : Int} : Lrd.over ⟨t :: L, n, 0, a⟩ = false := by simp [Lrd.over]
theorem xW {t : Tok} {L : List Tok} {n a : Int} : Lrd.kind ⟨t :: L, n, 0, a⟩ = t.k := by simp [Lrd.kind, FC]
theorem mH {R : Lrd} (h : R.over = true) : R.kind = 0 := by simp [Lrd.kind, h]
theorem nE {R : Lrd} (h : R.over = true) (x : List UInt8) : R.is x = false := by simp [Lrd.is, mH h]
section
variable {s : St} {r : Nat}
theorem iW (hr : r < s.obs.length) (o : AObj) (X : List AObj) : (s.obs.set r o ++ X)[r]? = some o := by
 rw [List.getElem?_append_left (by simpa using hr), List.getElem?_set_self hr]
theorem JZ (hr : r < s.obs.length) (o o' : AObj) (X : List AObj) : (s.obs.set r o ++ X).set r o' = s.obs.set r o' ++ X := by
 rw [List.set_append_left _ _ (by simpa using hr), List.set_set]
theorem fR (o a : AObj) (X : List AObj) : (s.obs.set r o ++ a :: X)[s.obs.length]? = some a := by
 rw [List.getElem?_append_right (by simp)]; simp
theorem lF (o a b : AObj) (X : List AObj) : (s.obs.set r o ++ a :: b :: X)[s.obs.length + 1]? = some b := by
 rw [List.getElem?_append_right (by simp)]; simp
theorem fY (o a a' : AObj) (X : List AObj) : (s.obs.set r o ++ a :: X).set s.obs.length a' = s.obs.set r o ++ a' :: X := by
 rw [List.set_append_right _ _ (by simp)]; simp
theorem lL (o a b b' : AObj) (X : List AObj) : (s.obs.set r o ++ a :: b :: X).set (s.obs.length + 1) b' = s.obs.set r o ++ a :: b' :: X := by
 rw [List.set_append_right _ _ (by simp)]; simp
end
section
variable {s : St} {r : Nat} {R : Lrd}
theorem Dj (hs : s.obs[r]? = some (rdO R)) (R' : Lrd) (junk : List AObj) {v : V} (hv : v.plain.und s.obs.length 0 = true) :
  fin false s ⟨s.obs.set r (rdO R') ++ junk, s.bufs⟩ v = (v.plain, upR s r (rdO R')) := Ep s (eC hs) (gZ _ _ _) junk hv
theorem nL (hs : s.obs[r]? = some (rdO R)) (R' : Lrd) {v : V} (hv : v.plain.und s.obs.length 0 = true) :
  fin false s ⟨s.obs.set r (rdO R'), s.bufs⟩ v = (v.plain, upR s r (rdO R')) := IT s (eC hs) (gZ _ _ _) hv
theorem jU (hs : s.obs[r]? = some (rdO R)) : upR s r (rdO R) = s := HS hs
theorem Al (hs : s.obs[r]? = some (rdO R)) (X : List AObj) : (s.obs ++ X)[r]? = some (rdO R) := by
 rw [List.getElem?_append_left (eC hs)]; exact hs
theorem Dk (hs : s.obs[r]? = some (rdO R)) (o : AObj) (X : List AObj) : (s.obs ++ X).set r o = s.obs.set r o ++ X := List.set_append_left _ _ (eC hs)
theorem sM (hs : s.obs[r]? = some (rdO R)) : call G 56 [.ptr r 0] s = some (.bool R.over, s) := by
 obtain ⟨L, n, e, a⟩ := R
 have htl := cM L
 refine aC (F := af56) rfl rfl ?_
 simp only [rdO] at hs
 by_cases he : e = 0
 ·subst he
  simp [af56, af56b, hs, htl]
  rw [aN _ (v := .bool _) rfl]
  simp [Lrd.over]
 ·simp [af56, af56b, hs, he]
  rw [aN _ (v := .bool _) rfl]
  simp [Lrd.over, he]
theorem vR (hs : s.obs[r]? = some (rdO R)) : call G 54 [.ptr r 0] s = some (.int .i64 R.at_, s) := by
 obtain ⟨L, n, e, a⟩ := R
 have htl := cM L
 refine aC (F := af54) rfl rfl ?_
 simp only [rdO] at hs
 by_cases he : e = 0
 ·subst he
  cases L with
  | nil =>
   simp [af54, af54b, hs, htl, bP]
   rw [aN _ (v := .int _ _) rfl]
   simp [Lrd.at_]
  | cons t L =>
   obtain ⟨k, x, p⟩ := t
   have e1 : bP (⟨k, x, p⟩ :: L) = .agg [.int .i64 k, .str x, .int .i64 p] :: bP L := rfl
   have hne : ¬ ((bP L).length : Int) + 1 = 0 := by omega
   rw [e1] at hs
   simp [af54, af54b, hs, hne]
   rw [aN _ (v := .int _ _) rfl]
   simp [Lrd.at_]
 ·simp [af54, af54b, hs, he]
  rw [aN _ (v := .int _ _) rfl]
  simp [Lrd.at_, he]
theorem qH (hs : s.obs[r]? = some (rdO R)) (p e2 : Int) : call G 135 [.ptr r 0, .int .i64 p, .int .i64 e2] s = some (.tup [], upR s r (rdO (R.fail p e2))) := by
 have hfin := fun R' => nL hs R' (v := .tup []) rfl
 have hup := jU hs
 have hr := eC hs
 obtain ⟨L, n, e, a⟩ := R
 refine aC (F := af135) rfl rfl ?_
 have hs' := hs
 simp only [rdO] at hs'
 by_cases he : e = 0
 ·subst he
  by_cases h2 : e2 = 0
  ·simp [af135, af135b, hs', h2]
   rw [aN _ (v := .tup []) rfl]
   simp [Lrd.fail, h2, hup]
  ·have h2' : (e2 = 0) = False := eq_false h2
   have := hfin ⟨L, n, e2, p⟩
   simp only [rdO] at this
   simp [af135, af135b, hs', h2', aI, aK, aB, V.one]
   rw [this]
   simp [Lrd.fail, h2, rdO]
 ·simp [af135, af135b, hs', he]
  rw [aN _ (v := .tup []) rfl]
  simp [Lrd.fail, he, hup]
theorem nM (hs : s.obs[r]? = some (rdO R)) : call G 202 [.ptr r 0] s = some (.tup [], upR s r (rdO R.form)) := by
 have h1 := vR hs
 have h2 := qH hs R.at_ 4
 refine aC (F := af202) rfl rfl ?_
 simp [af202, af202b, h1, h2]
 have := nL hs R.form (v := .tup []) rfl
 simp only [Lrd.form, upR] at this ⊢
 exact this
theorem qI (hs : s.obs[r]? = some (rdO R)) : call G 207 [.ptr r 0] s = some (.int .i64 R.kind, s) := by
 have h1 := sM hs
 refine aC (F := af207) rfl rfl ?_
 by_cases ho : R.over = true
 ·simp [af207, af207b, h1, ho]
  rw [aN _ (v := .int _ _) rfl]
  simp [Lrd.kind, ho]
 ·have ho' : R.over = false := by simpa using ho
  obtain ⟨L, n, e, a⟩ := R
  cases L with
  | nil => rw [mL] at ho'; cases ho'
  | cons t L =>
   obtain ⟨k, x, p⟩ := t
   have e1 : bP (⟨k, x, p⟩ :: L) = .agg [.int .i64 k, .str x, .int .i64 p] :: bP L := rfl
   simp only [rdO] at hs
   rw [e1] at hs
   simp [af207, af207b, h1, ho', hs]
   rw [aN _ (v := .int _ _) rfl]
   simp [Lrd.kind, ho']
theorem oS (hs : s.obs[r]? = some (rdO R)) : call G 208 [.ptr r 0] s = some (fO R.next.2, upR s r (rdO R.next.1)) := by
 have hr := eC hs
 refine aC (F := af208) rfl rfl ?_
 have h1 := fun X => sM (s := ⟨s.obs ++ X, s.bufs⟩) (Al hs X)
 have h2 := fun X => nM (s := ⟨s.obs ++ X, s.bufs⟩) (Al hs X)
 simp only [upR, Dk hs] at h2
 by_cases ho : R.over = true
 ·have hn : R.next = (R.form, ⟨0, [], 0⟩) := by unfold Lrd.next; rw [if_pos ho]
  have hf := Dj hs R.form [.cells 195 [.int .i64 0, .str [], .int .i64 0]] (v := fO ⟨0, [], 0⟩) rfl
  rw [hn]
  have hg : ∀ o X, (s.obs.set r o ++ X)[s.obs.length]? = X[0]? := fun o X => by
   rw [List.getElem?_append_right (by simp)]; simp
  have hst : ∀ o a b, (s.obs.set r o ++ [a]).set s.obs.length b = s.obs.set r o ++ [b] := fun o a b => by
   rw [List.set_append_right _ _ (by simp)]; simp
  simp [af208, af208b, h1, h2, ho, aI, aK, aB, V.one, hg, hst]
  simp only [fO] at hf
  rw [hf]
  rfl
 ·have ho' : R.over = false := by simpa using ho
  have hn : R.next = (R.tl, R.hd) := by unfold Lrd.next; rw [if_neg ho]
  rw [hn]
  obtain ⟨L, n, e, a⟩ := R
  cases L with
  | nil => rw [mL] at ho'; cases ho'
  | cons t L =>
   obtain ⟨k, x, p⟩ := t
   have e1 : bP (⟨k, x, p⟩ :: L) = .agg [.int .i64 k, .str x, .int .i64 p] :: bP L := rfl
   have hf := Dj hs (Lrd.tl ⟨⟨k, x, p⟩ :: L, n, e, a⟩) [.cells 195 [.int .i64 k, .str x, .int .i64 p], .cells 195 [.int .i64 k, .str x, .int .i64 p]] (v := fO ⟨k, x, p⟩) rfl
   have hx := fun X => Al hs X
   have hset := fun o X => Dk hs o X
   simp only [rdO] at hx
   rw [e1] at hx
   have hft := sG (⟨k, x, p⟩ :: L)
   rw [e1] at hft
   simp [af208, af208b, h1, ho', ↓hx, hset, aI, aK, aB, V.one, oH, bnd, hft, fR, lF, fY, lL]
   simp only [rdO, fO, Lrd.tl, Lrd.hd, List.drop_succ_cons, List.drop_zero] at hf ⊢
   rw [hf]
   rfl
end
section
variable {s : St} {r : Nat} {R : Lrd}
theorem BM (hs : s.obs[r]? = some (rdO R)) (x : List UInt8) : call G 128 [.ptr r 0, .str x] s = some (.bool (R.is x), s) := by
 have h1 := qI hs
 refine aC (F := af128) rfl rfl ?_
 by_cases hk : R.kind = 1 ∨ R.kind = 2
 ·have ho : R.over = false := by
   cases h : R.over with
   | false => rfl
   | true => rw [mH h] at hk; omega
  obtain ⟨L, n, e, a⟩ := R
  cases L with
  | nil => rw [mL] at ho; cases ho
  | cons t L =>
   obtain ⟨k, y, p⟩ := t
   have e1 : bP (⟨k, y, p⟩ :: L) = .agg [.int .i64 k, .str y, .int .i64 p] :: bP L := rfl
   simp only [rdO] at hs
   rw [e1] at hs
   have hk' : Lrd.kind ⟨⟨k, y, p⟩ :: L, n, e, a⟩ = k := by simp [Lrd.kind, ho]
   rw [hk'] at hk h1
   rcases hk with rfl | rfl
   ·simp [af128, af128b, h1, hs]
    rw [aN _ (v := .bool _) rfl]
    simp [Lrd.is, hk', Lrd.hd]
    congr
   ·simp [af128, af128b, h1, hs]
    rw [aN _ (v := .bool _) rfl]
    simp [Lrd.is, hk', Lrd.hd]
    congr
 ·have k1 : (R.kind = 1) = False := eq_false fun h => hk (.inl h)
  have k2 : (R.kind = 2) = False := eq_false fun h => hk (.inr h)
  simp [af128, af128b, h1, k1, k2]
  rw [aN _ (v := .bool _) rfl]
  simp [Lrd.is, k1, k2]
theorem CW {x : List UInt8} (h : R.is x = true) : R.next.1 = R.tl := by
 have ho : R.over = false := by
  cases h1 : R.over with
  | false => rfl
  | true => rw [nE h1] at h; cases h
 simp [Lrd.next, ho]
theorem nS (hs : s.obs[r]? = some (rdO R)) (x : List UInt8) : call G 129 [.ptr r 0, .str x] s = some (.bool (R.is x), upR s r (rdO (R.take x))) := by
 have h1 := BM hs x
 have h2 := oS hs
 refine aC (F := af129) rfl rfl ?_
 by_cases h : R.is x = true
 ·rw [CW h] at h2
  have hf := nL hs R.tl (v := .bool true) rfl
  simp only [upR] at h2 hf
  simp [af129, af129b, h1, h, h2]
  rw [hf]
  simp [Lrd.take, h, upR]
 ·have h' : R.is x = false := by simpa using h
  simp [af129, af129b, h1, h']
  rw [aN _ (v := .bool _) rfl]
  simp [Lrd.take, h', jU hs]
theorem vU (hs : s.obs[r]? = some (rdO R)) (x : List UInt8) : call G 130 [.ptr r 0, .str x] s = some (.tup [], upR s r (rdO (R.must x))) := by
 have h1 := nS hs x
 refine aC (F := af130) rfl rfl ?_
 by_cases h : R.is x = true
 ·have hf := nL hs R.tl (v := .tup []) rfl
  simp only [upR, Lrd.take, h, if_true] at h1 hf
  simp [af130, af130b, h1]
  rw [hf]
  simp [Lrd.must, h, upR]
 ·have h' : R.is x = false := by simpa using h
  have h2 := nM hs
  have hup := jU hs
  have hf := nL hs R.form (v := .tup []) rfl
  simp only [Lrd.take, h', Bool.false_eq_true, if_false, hup] at h1
  simp only [upR] at h2 hf
  simp [af130, af130b, h1, h2]
  rw [hf]
  simp [Lrd.must, h', upR]
theorem CP (h : R.kind = 2) : R.next = (R.tl, R.hd) := by
 have ho : R.over = false := by
  cases h1 : R.over with
  | false => rfl
  | true => rw [mH h1] at h; omega
 simp [Lrd.next, ho]
theorem vV (hs : s.obs[r]? = some (rdO R)) : call G 131 [.ptr r 0] s = some (.str R.name.2, upR s r (rdO R.name.1)) := by
 have h1 := qI hs
 refine aC (F := af131) rfl rfl ?_
 by_cases h : R.kind = 2
 ·have h2 := oS hs
  rw [CP h] at h2
  have hf := nL hs R.tl (v := .str R.hd.s) rfl
  simp only [upR, fO] at h2 hf
  simp [af131, af131b, h1, h, h2]
  rw [hf]
  simp [Lrd.name, h, upR]
 ·have h' : (R.kind = 2) = False := eq_false h
  have h2 := nM hs
  have hf := nL hs R.form (v := .str []) rfl
  simp only [upR] at h2 hf
  simp [af131, af131b, h1, h', h2]
  rw [hf]
  simp [Lrd.name, h', upR]
end
section
variable {s : St} {r : Nat}
theorem SXs (hr : r < s.obs.length) (R R' : Lrd) (X : List AObj) : upR (⟨s.obs.set r (rdO R) ++ X, s.bufs⟩ : St) r (rdO R') = ⟨s.obs.set r (rdO R') ++ X, s.bufs⟩ := by
 simp only [upR, JZ hr]
theorem kB (hr : r < s.obs.length) (R R' : Lrd) (X : List AObj) {v : V} (hv : v.plain.und s.obs.length 0 = true) :
  fin false (⟨s.obs.set r (rdO R), s.bufs⟩ : St) ⟨s.obs.set r (rdO R') ++ X, s.bufs⟩ v = (v.plain, ⟨s.obs.set r (rdO R'), s.bufs⟩) := by
 have := Dj (s := ⟨s.obs.set r (rdO R), s.bufs⟩) (r := r) (R := R) (by simp only; rw [List.getElem?_set_self hr]) R' X (v := v) (by simpa using hv)
 simpa only [upR, List.set_set] using this
theorem JR (hr : r < s.obs.length) (R : Lrd) (X : List AObj) : call G 54 [.ptr r 0] ⟨s.obs.set r (rdO R) ++ X, s.bufs⟩ = some (.int .i64 R.at_, ⟨s.obs.set r (rdO R) ++ X, s.bufs⟩) := vR (iW hr _ _)
theorem lQ (hr : r < s.obs.length) (R : Lrd) (X : List AObj) : call G 56 [.ptr r 0] ⟨s.obs.set r (rdO R) ++ X, s.bufs⟩ = some (.bool R.over, ⟨s.obs.set r (rdO R) ++ X, s.bufs⟩) := sM (iW hr _ _)
theorem nF (hr : r < s.obs.length) (R : Lrd) (X : List AObj) : call G 207 [.ptr r 0] ⟨s.obs.set r (rdO R) ++ X, s.bufs⟩ = some (.int .i64 R.kind, ⟨s.obs.set r (rdO R) ++ X, s.bufs⟩) := qI (iW hr _ _)
theorem xT (hr : r < s.obs.length) (R : Lrd) (X : List AObj) (x : List UInt8) : call G 128 [.ptr r 0, .str x] ⟨s.obs.set r (rdO R) ++ X, s.bufs⟩ = some (.bool (R.is x), ⟨s.obs.set r (rdO R) ++ X, s.bufs⟩) := BM (iW hr _ _) x
theorem Eo (hr : r < s.obs.length) (R : Lrd) (X : List AObj) (p e : Int) : call G 135 [.ptr r 0, .int .i64 p, .int .i64 e] ⟨s.obs.set r (rdO R) ++ X, s.bufs⟩ = some (.tup [], ⟨s.obs.set r (rdO (R.fail p e)) ++ X, s.bufs⟩) := by
 rw [qH (iW hr _ _) p e, SXs hr]
theorem zP (hr : r < s.obs.length) (R : Lrd) (X : List AObj) : call G 202 [.ptr r 0] ⟨s.obs.set r (rdO R) ++ X, s.bufs⟩ = some (.tup [], ⟨s.obs.set r (rdO R.form) ++ X, s.bufs⟩) := by
 rw [nM (iW hr _ _), SXs hr]
theorem tT (hr : r < s.obs.length) (R : Lrd) (X : List AObj) : call G 208 [.ptr r 0] ⟨s.obs.set r (rdO R) ++ X, s.bufs⟩ = some (fO R.next.2, ⟨s.obs.set r (rdO R.next.1) ++ X, s.bufs⟩) := by
 rw [oS (iW hr _ _), SXs hr]
theorem rR (hr : r < s.obs.length) (R : Lrd) (X : List AObj) (x : List UInt8) : call G 129 [.ptr r 0, .str x] ⟨s.obs.set r (rdO R) ++ X, s.bufs⟩ = some (.bool (R.is x), ⟨s.obs.set r (rdO (R.take x)) ++ X, s.bufs⟩) := by
 rw [nS (iW hr _ _) x, SXs hr]
theorem Jg (hr : r < s.obs.length) (R : Lrd) (X : List AObj) (x : List UInt8) : call G 130 [.ptr r 0, .str x] ⟨s.obs.set r (rdO R) ++ X, s.bufs⟩ = some (.tup [], ⟨s.obs.set r (rdO (R.must x)) ++ X, s.bufs⟩) := by
 rw [vU (iW hr _ _) x, SXs hr]
theorem Ae (hr : r < s.obs.length) (R : Lrd) (X : List AObj) : call G 131 [.ptr r 0] ⟨s.obs.set r (rdO R) ++ X, s.bufs⟩ = some (.str R.name.2, ⟨s.obs.set r (rdO R.name.1) ++ X, s.bufs⟩) := by
 rw [vV (iW hr _ _), SXs hr]
end
def Lrd.bang (q : Lrd × List UInt8 × List UInt8) : Lrd × List UInt8 × List UInt8 := if q.1.is [33] = true then (q.1.tl, q.2.1, q.2.2 ++ [33]) else q
def Lrd.typ : Nat → Lrd → Lrd × List UInt8 × List UInt8
 | 0, R => if R.is [91] = true then (R.fail R.at_ 5, [], []) else Lrd.bang (R.name.1, R.name.2, [])
 | n + 1, R => if R.is [91] = true then Lrd.bang (((Lrd.typ n R.tl).1.must [93]), (Lrd.typ n R.tl).2.1, (Lrd.typ n R.tl).2.2 ++ [91]) else Lrd.bang (R.name.1, R.name.2, [])
theorem uJ (q : Lrd × List UInt8 × List UInt8) : (Lrd.bang q).2.2.length ≤ q.2.2.length + 1 := by
 unfold Lrd.bang
 split <;> simp
theorem AB : ∀ (n : Nat) (R : Lrd), (Lrd.typ n R).2.2.length ≤ 2 * n + 1
 | 0, R => by
  rw [Lrd.typ]
  split
  ·simp
  ·exact uJ _
 | n + 1, R => by
  have ih := AB n R.tl
  rw [Lrd.typ]
  split
  ·have := uJ (((Lrd.typ n R.tl).1.must [93]), (Lrd.typ n R.tl).2.1, (Lrd.typ n R.tl).2.2 ++ [91])
   simp only [List.length_append, List.length_cons, List.length_nil] at this
   omega
  ·have := uJ (R.name.1, R.name.2, [])
   simp only [List.length_nil] at this
   omega
def tyV (x w : List UInt8) : V := .agg [.str x, .str w]
set_option maxHeartbeats 2000000 in
theorem Il : ∀ (n : Nat), n ≤ 1000 → ∀ (s : St) (r : Nat) (R : Lrd), s.obs[r]? = some (rdO R) →
  call G 201 [.ptr r 0, .int .i64 n] s = some (tyV (Lrd.typ n R).2.1 (Lrd.typ n R).2.2, upR s r (rdO (Lrd.typ n R).1)) := by
 have e64 : gI = 9223372036854775807 := rfl
 have bangE : ∀ q : Lrd × List UInt8 × List UInt8, q.1.is [33] = true → Lrd.bang q = (q.1.tl, q.2.1, q.2.2 ++ [33]) := fun q h => by unfold Lrd.bang; rw [if_pos h]
 have bangN : ∀ q : Lrd × List UInt8 × List UInt8, q.1.is [33] = false → Lrd.bang q = q := fun q h => by unfold Lrd.bang; rw [if_neg (by simp [h])]
 intro n
 induction n with
 | zero =>
  intro hn s r R hs
  have hr := eC hs
  have hup := jU hs
  rw [← hup]
  simp only [upR, List.set_set]
  refine aC (F := af201) rfl rfl ?_
  have h1 := xT (s := s) hr R
  have h2 := JR (s := s) hr R
  have h3 := Eo (s := s) hr R
  have h4 := Ae (s := s) hr R
  have h5 := rR (s := s) hr
  have hfin := fun R' X x w => kB (s := s) hr R R' X (v := .agg [.str x, .str w]) rfl
  by_cases h : R.is [91] = true
  ·simp [af201, af201b, h1, h2, h3, h, aI, aK, aB, V.one, fR, lF, fY, lL, hfin]
   simp [Lrd.typ, h, tyV]
  ·have h' : R.is [91] = false := by simpa using h
   have ht : R.take [91] = R := by simp [Lrd.take, h']
   have hty : Lrd.typ 0 R = Lrd.bang (R.name.1, R.name.2, []) := by rw [Lrd.typ, if_neg h]
   rw [hty]
   generalize hN : R.name = N at *
   obtain ⟨R1, x⟩ := N
   simp only at h4
   by_cases hb : R1.is [33] = true
   ·have ht1 : R1.take [33] = R1.tl := by simp [Lrd.take, hb]
    rw [bangE _ hb]
    simp [af201, af201b, h1, h4, h5, ht, h', hb, ht1, aI, aK, aB, V.one, fR, lF, fY, lL, hfin, e64]
    rfl
   ·have hb' : R1.is [33] = false := by simpa using hb
    have ht1 : R1.take [33] = R1 := by simp [Lrd.take, hb']
    rw [bangN _ hb']
    simp [af201, af201b, h1, h4, h5, ht, h', hb', ht1, aI, aK, aB, V.one, fR, lF, fY, lL, hfin, e64]
    rfl
 | succ n ih =>
  intro hn s r R hs
  have hr := eC hs
  have hup := jU hs
  rw [← hup]
  simp only [upR, List.set_set]
  refine aC (F := af201) rfl rfl ?_
  have h1 := xT (s := s) hr R
  have h4 := Ae (s := s) hr R
  have h5 := rR (s := s) hr
  have h6 := Jg (s := s) hr
  have hfin := fun R' X x w => kB (s := s) hr R R' X (v := .agg [.str x, .str w]) rfl
  by_cases h : R.is [91] = true
  ·have ht : R.take [91] = R.tl := by simp [Lrd.take, h]
   have hlt : ¬ (n : Int) + 1 < 1 := by omega
   have hw : IntKind.i64.wrap (n : Int) = (n : Int) := aD (by omega) (by omega)
   have hty : Lrd.typ (n + 1) R = Lrd.bang (((Lrd.typ n R.tl).1.must [93]), (Lrd.typ n R.tl).2.1, (Lrd.typ n R.tl).2.2 ++ [91]) := by rw [Lrd.typ, if_pos h]
   have hl := AB n R.tl
   have hgo : ∀ X, call G 201 [.ptr r 0, .int .i64 n] ⟨s.obs.set r (rdO R.tl) ++ X, s.bufs⟩ = some (.agg [.str (Lrd.typ n R.tl).2.1, .str (Lrd.typ n R.tl).2.2], ⟨s.obs.set r (rdO (Lrd.typ n R.tl).1) ++ X, s.bufs⟩) := by
    intro X
    have := ih (by omega) ⟨s.obs.set r (rdO R.tl) ++ X, s.bufs⟩ r R.tl (iW hr _ _)
    rw [SXs hr] at this
    exact this
   rw [hty]
   generalize Lrd.typ n R.tl = q at *
   obtain ⟨R1, x, w⟩ := q
   simp only at hgo hl
   have hl1 : (w.length : Int) + 1 ≤ 9223372036854775807 := by omega
   have hl2 : (w.length : Int) + 1 + 1 ≤ 9223372036854775807 := by omega
   by_cases hb : (R1.must [93]).is [33] = true
   ·have ht1 : (R1.must [93]).take [33] = (R1.must [93]).tl := by simp [Lrd.take, hb]
    rw [bangE _ hb]
    simp [af201, af201b, h1, h5, h6, ht, h, hlt, hw, hgo, hb, ht1, aI, aK, aB, V.one, fR, lF, fY, lL, hfin, e64, hl1, hl2]
    rfl
   ·have hb' : (R1.must [93]).is [33] = false := by simpa using hb
    have ht1 : (R1.must [93]).take [33] = R1.must [93] := by simp [Lrd.take, hb']
    rw [bangN _ hb']
    simp [af201, af201b, h1, h5, h6, ht, h, hlt, hw, hgo, hb', ht1, aI, aK, aB, V.one, fR, lF, fY, lL, hfin, e64, hl1, hl2]
    rfl
  ·have h' : R.is [91] = false := by simpa using h
   have ht : R.take [91] = R := by simp [Lrd.take, h']
   have hty : Lrd.typ (n + 1) R = Lrd.bang (R.name.1, R.name.2, []) := by rw [Lrd.typ, if_neg h]
   rw [hty]
   generalize hN : R.name = N at *
   obtain ⟨R1, x⟩ := N
   simp only at h4
   by_cases hb : R1.is [33] = true
   ·have ht1 : R1.take [33] = R1.tl := by simp [Lrd.take, hb]
    rw [bangE _ hb]
    simp [af201, af201b, h1, h4, h5, ht, h', hb, ht1, aI, aK, aB, V.one, fR, lF, fY, lL, hfin, e64]
    rfl
   ·have hb' : R1.is [33] = false := by simpa using hb
    have ht1 : R1.take [33] = R1 := by simp [Lrd.take, hb']
    rw [bangN _ hb']
    simp [af201, af201b, h1, h4, h5, ht, h', hb', ht1, aI, aK, aB, V.one, fR, lF, fY, lL, hfin, e64]
    rfl
def rd0 (b : List UInt8) : Lrd := ⟨(dJ b).1, b.length, (dJ b).2.1, (dJ b).2.2⟩
def fzT (q : Lrd × List UInt8 × List UInt8) : Lrd × List UInt8 × List UInt8 := if q.1.e = 0 then q else (q.1, [], [])
def Lrd.ty (R : Lrd) : Lrd × List UInt8 × List UInt8 := fzT (Lrd.typ 4 R)
def Lrd.whole (R : Lrd) : Lrd := if R.over = true then R else R.form
def PT (b : List UInt8) : List UInt8 × List UInt8 × Int × Int :=
 if (rd0 b).ty.1.whole.e = 0 then ((rd0 b).ty.2.1, (rd0 b).ty.2.2, 0, 0) else ([], [], (rd0 b).ty.1.whole.e, (rd0 b).ty.1.whole.a)
theorem yC (b : List UInt8) (hb : b.length ≤ 9223372036854775807) (s : St) :
  call G 50 [.str b] s = some (.ptr (s.obs.length + 1) 0, ⟨s.obs ++ [.cells 29 [.int .i64 (dJ b).2.1, .int .i64 (dJ b).2.2], rdO (rd0 b)], s.bufs⟩) := by
 have hlx := Hh b hb
 have hpl := aE (dJ b).1
 refine aC (F := af50) rfl rfl ?_
 have hr : rdO (rd0 b) = .cells 185 [.sl .no (bP (dJ b).1), .int .i64 b.length, .int .i64 (dJ b).2.1, .int .i64 (dJ b).2.2] := rfl
 rw [hr]
 generalize (dJ b).1 = L at *
 generalize (dJ b).2.1 = e at *
 generalize (dJ b).2.2 = a at *
 simp [af50, af50b, hlx, hpl, aI, aK, aB, V.one]
 rfl
section
variable {s : St} {r : Nat} {R : Lrd}
theorem Gk (hs : s.obs[r]? = some (rdO R)) : call G 124 [.ptr r 0] s = some (tyV R.ty.2.1 R.ty.2.2, upR s r (rdO R.ty.1)) := by
 have hr := eC hs
 have hup := jU hs
 rw [← hup]
 simp only [upR, List.set_set]
 refine aC (F := af124) rfl rfl ?_
 have hgo : ∀ X, call G 201 [.ptr r 0, .int .i64 4] ⟨s.obs.set r (rdO R) ++ X, s.bufs⟩ = some (.agg [.str (Lrd.typ 4 R).2.1, .str (Lrd.typ 4 R).2.2], ⟨s.obs.set r (rdO (Lrd.typ 4 R).1) ++ X, s.bufs⟩) := by
  intro X
  have := Il 4 (by omega) ⟨s.obs.set r (rdO R) ++ X, s.bufs⟩ r R (iW hr _ _)
  rw [SXs hr] at this
  exact this
 have hfin := fun R' X x w => kB (s := s) hr R R' X (v := .agg [.str x, .str w]) rfl
 have hq : R.ty = fzT (Lrd.typ 4 R) := rfl
 rw [hq]
 generalize Lrd.typ 4 R = q at *
 obtain ⟨⟨L, n, e, a⟩, x, w⟩ := q
 have hg := fun X => iW (s := s) hr (rdO ⟨L, n, e, a⟩) X
 simp only [rdO] at hgo hg hfin ⊢
 by_cases he : e = 0
 ·subst he
  have hz : fzT (⟨L, n, 0, a⟩, x, w) = (⟨L, n, 0, a⟩, x, w) := rfl
  have hf := hfin ⟨L, n, 0, a⟩
  simp only at hf
  rw [hz]
  simp [af124, af124b, hgo, ↓hg, aI, aK, aB, V.one, fR, lF, fY, lL, hf]
  rfl
 ·have he' : (e = 0) = False := eq_false he
  have hz : fzT (⟨L, n, e, a⟩, x, w) = (⟨L, n, e, a⟩, [], []) := by unfold fzT; rw [if_neg he]
  have hf := hfin ⟨L, n, e, a⟩
  simp only at hf
  rw [hz]
  simp [af124, af124b, hgo, ↓hg, he', aI, aK, aB, V.one, fR, lF, fY, lL, hf]
  rfl
theorem wS (hs : s.obs[r]? = some (rdO R)) : call G 125 [.ptr r 0] s = some (.agg [.int .i64 R.whole.e, .int .i64 R.whole.a], upR s r (rdO R.whole)) := by
 have hr := eC hs
 have hup := jU hs
 rw [← hup]
 simp only [upR, List.set_set]
 refine aC (F := af125) rfl rfl ?_
 have h1 := lQ (s := s) hr R
 have h2 := zP (s := s) hr R
 by_cases ho : R.over = true
 ·have hw : R.whole = R := by unfold Lrd.whole; rw [if_pos ho]
  rw [hw]
  have hg := fun X => iW (s := s) hr (rdO R) X
  have hf := fun X => kB (s := s) hr R R X (v := .agg [.int .i64 R.e, .int .i64 R.a]) rfl
  obtain ⟨L, n, e, a⟩ := R
  simp only [rdO] at hg h1 hf ⊢
  simp [af125, af125b, h1, ho, ↓hg, aI, aK, aB, V.one, fR, fY, hf]
 ·have ho' : R.over = false := by simpa using ho
  have hw : R.whole = R.form := by unfold Lrd.whole; rw [if_neg ho]
  rw [hw]
  have hf := fun X => kB (s := s) hr R R.form X (v := .agg [.int .i64 R.form.e, .int .i64 R.form.a]) rfl
  have hg := fun X => iW (s := s) hr (rdO R.form) X
  generalize R.form = R1 at *
  obtain ⟨L1, n1, e1, a1⟩ := R1
  simp only [rdO] at hg h1 h2 hf ⊢
  simp [af125, af125b, h1, h2, ho', ↓hg, aI, aK, aB, V.one, fR, fY, hf]
end
theorem ED (b : List UInt8) (hb : b.length ≤ 9223372036854775807) (s : St) : call G 48 [.str b] s = some (.tup [tyV (PT b).1 (PT b).2.1, .agg [.int .i64 (PT b).2.2.1, .int .i64 (PT b).2.2.2]], s) := by
 refine aC (F := af48) rfl rfl ?_
 have h1 : ∀ X, call G 50 [.str b] ⟨s.obs ++ X, s.bufs⟩ = some (.ptr (s.obs.length + X.length + 1) 0, ⟨s.obs ++ (X ++ [.cells 29 [.int .i64 (dJ b).2.1, .int .i64 (dJ b).2.2], rdO (rd0 b)]), s.bufs⟩) := by
  intro X
  have := yC b hb ⟨s.obs ++ X, s.bufs⟩
  simp only [List.length_append, List.append_assoc] at this
  exact this
 have g3 : ∀ (a c d o : AObj) (X : List AObj), (s.obs ++ a :: c :: d :: o :: X)[s.obs.length + 3]? = some o := fun a c d o X => by
  rw [List.getElem?_append_right (by omega)]; simp
 have t3 : ∀ (a c d o o' : AObj) (X : List AObj), (s.obs ++ a :: c :: d :: o :: X).set (s.obs.length + 3) o' = s.obs ++ a :: c :: d :: o' :: X := fun a c d o o' X => by
  rw [List.set_append_right _ _ (by omega)]; simp
 have h2 : ∀ (a c d : AObj) (X : List AObj) (R : Lrd), call G 124 [.ptr (s.obs.length + 3) 0] ⟨s.obs ++ a :: c :: d :: rdO R :: X, s.bufs⟩ = some (tyV R.ty.2.1 R.ty.2.2, ⟨s.obs ++ a :: c :: d :: rdO R.ty.1 :: X, s.bufs⟩) := by
  intro a c d X R
  have := Gk (s := ⟨s.obs ++ a :: c :: d :: rdO R :: X, s.bufs⟩) (g3 a c d (rdO R) X)
  simp only [upR, t3] at this
  exact this
 have h3 : ∀ (a c d : AObj) (X : List AObj) (R : Lrd), call G 125 [.ptr (s.obs.length + 3) 0] ⟨s.obs ++ a :: c :: d :: rdO R :: X, s.bufs⟩ = some (.agg [.int .i64 R.whole.e, .int .i64 R.whole.a], ⟨s.obs ++ a :: c :: d :: rdO R.whole :: X, s.bufs⟩) := by
  intro a c d X R
  have := wS (s := ⟨s.obs ++ a :: c :: d :: rdO R :: X, s.bufs⟩) (g3 a c d (rdO R) X)
  simp only [upR, t3] at this
  exact this
 simp only [tyV] at h2
 unfold PT
 generalize (rd0 b) = R0 at *
 generalize hq : R0.ty = q at *
 obtain ⟨R1, x, w⟩ := q
 have h2' := fun a c d X => h2 a c d X R0
 simp only [hq] at h2'
 have h3' := fun a c d X => h3 a c d X R1
 generalize R1.whole = R2 at *
 by_cases he : R2.e = 0
 ·rw [if_pos he]
  simp [af48, af48b, h1, h2', h3', he, aI, aK, aB, V.one]
  rw [bS _ _ _ (by rfl)]
  rfl
 ·rw [if_neg he]
  have he' : (R2.e = 0) = False := eq_false he
  simp [af48, af48b, h1, h2', h3', he', aI, aK, aB, V.one, aV, aQ, aP, bD, aY, aR, cR]
  rw [bS _ _ _ (by rfl)]
  rfl
structure Rrd where
 L : List Tok
 k : Nat
 n : Int
 e : Int
 a : Int
def Rrd.rs (q : Rrd) : Lrd := ⟨q.L.drop q.k, q.n, q.e, q.a⟩
def rrC (q : Rrd) : List V := [.sl .no (bP q.L), .int .i64 q.k, .int .i64 q.n, .int .i64 q.e, .int .i64 q.a]
def rrV (q : Rrd) : V := .agg (rrC q)
def Rrd.ok (q : Rrd) : Prop := (∀ t ∈ q.L, 1 ≤ t.k) ∧ q.k ≤ q.L.length ∧ q.L.length ≤ 1000000000
def Rrd.fail (q : Rrd) (p e : Int) : Rrd := if q.e = 0 ∧ e ≠ 0 then ⟨q.L, q.k, q.n, e, p⟩ else q
def Rrd.form (q : Rrd) : Rrd := q.fail q.rs.at_ 4
def Rrd.inc (q : Rrd) : Rrd := ⟨q.L, q.k + 1, q.n, q.e, q.a⟩
def Rrd.must (q : Rrd) (x : List UInt8) : Rrd := if q.rs.is x = true then q.inc else q.form
def Rrd.name (q : Rrd) : Rrd × List UInt8 := if q.rs.kind = 2 then (q.inc, q.rs.hd.s) else (q.form, [])
theorem tY (q : Rrd) (p e : Int) : (q.fail p e).rs = q.rs.fail p e := by
 unfold Rrd.fail Lrd.fail
 have : q.rs.e = q.e := rfl
 rw [this]
 split <;> rfl
theorem nR (q : Rrd) : q.form.rs = q.rs.form := tY q _ _
theorem jJ (q : Rrd) : q.inc.rs = q.rs.tl := by
 simp [Rrd.inc, Rrd.rs, Lrd.tl]
theorem EG (q : Rrd) (x : List UInt8) : (q.must x).rs = q.rs.must x := by
 unfold Rrd.must Lrd.must
 split
 ·exact jJ q
 ·exact nR q
theorem rO (q : Rrd) : q.name.1.rs = q.rs.name.1 ∧ q.name.2 = q.rs.name.2 := by
 unfold Rrd.name Lrd.name
 split
 ·exact ⟨jJ q, rfl⟩
 ·exact ⟨nR q, rfl⟩
theorem iR {q : Rrd} (h : q.ok) (p e : Int) : (q.fail p e).ok := by
 unfold Rrd.fail
 split
 ·exact h
 ·exact h
theorem GI {L : List Tok} {k : Nat} {t : Tok} {T : List Tok} (h : L.drop k = t :: T) : L[k]? = some t ∧ k < L.length := by
 have h1 : (L.drop k)[0]? = some t := by rw [h]; rfl
 rw [List.getElem?_drop, Nat.add_zero] at h1
 exact ⟨h1, (List.getElem?_eq_some_iff.1 h1).1⟩
theorem nP (q : Rrd) : (q.rs.over = true ∧ (q.e ≠ 0 ∨ q.L.length ≤ q.k)) ∨ ∃ t, q.e = 0 ∧ q.rs.over = false ∧ q.k < q.L.length ∧ q.L[q.k]? = some t ∧ q.rs.hd = t ∧ q.rs.kind = t.k ∧ q.rs.at_ = t.a := by
 obtain ⟨L, k, n, e, a⟩ := q
 by_cases he : e = 0
 ·subst he
  cases hd : L.drop k with
  | nil =>
   left
   have hl : L.length ≤ k := List.drop_eq_nil_iff.1 hd
   refine ⟨?_, .inr hl⟩
   simp [Rrd.rs, hd, Lrd.over]
  | cons t T =>
   right
   obtain ⟨h1, h2⟩ := GI hd
   refine ⟨t, rfl, ?_, h2, h1, ?_, ?_, ?_⟩ <;> simp [Rrd.rs, hd, Lrd.over, Lrd.hd, Lrd.kind, Lrd.at_]
 ·left
  exact ⟨by simp [Rrd.rs, Lrd.over, he], .inl he⟩
theorem kN {L : List Tok} {k : Nat} {t : Tok} (h : L[k]? = some t) : (bP L)[((k : Nat) : Int).toNat]? = some (fO t) := by
 unfold bP
 rw [Int.toNat_natCast, List.getElem?_map, h]; rfl
section
variable {q : Rrd}
theorem eN (h : q.ok) (s : St) : call G 57 [rrV q] s = some (.bool q.rs.over, s) := by
 have hc := nP q
 have htl := cM q.L
 have hpl := aE q.L
 refine aC (F := af57) rfl rfl ?_
 obtain ⟨L, k, n, e, a⟩ := q
 rcases hc with ⟨ho, he⟩ | ⟨t, he, ho, hk, _⟩
 ·by_cases h0 : e = 0
  ·have hk : L.length ≤ k := he.resolve_left (fun h => h h0)
   have hk' : (L.length : Int) ≤ (k : Int) := by omega
   subst h0
   simp only at htl hpl
   simp [af57, af57b, rrV, rrC, htl, hpl, hk, hk']
   rw [bS _ _ _ (by rfl)]
   rw [ho]; rfl
  ·simp only at htl hpl
   simp [af57, af57b, rrV, rrC, htl, hpl, h0]
   rw [bS _ _ _ (by rfl)]
   rw [ho]; rfl
 ·simp only at he hk htl hpl
  subst he
  have hk1 : ¬ L.length ≤ k := by omega
  have hk' : ¬ (L.length : Int) ≤ (k : Int) := by omega
  simp [af57, af57b, rrV, rrC, htl, hpl, hk1, hk']
  rw [bS _ _ _ (by rfl)]
  rw [ho]; rfl
theorem pR (h : q.ok) (s : St) : call G 55 [rrV q] s = some (.int .i64 q.rs.at_, s) := by
 have hc := nP q
 have htl := cM q.L
 have hpl := aE q.L
 refine aC (F := af55) rfl rfl ?_
 obtain ⟨L, k, n, e, a⟩ := q
 rcases hc with ⟨ho, he⟩ | ⟨t, he, ho, hk, hg, _, _, ha⟩
 ·by_cases h0 : e = 0
  ·have hk : L.length ≤ k := he.resolve_left (fun h => h h0)
   have hk' : (L.length : Int) ≤ (k : Int) := by omega
   have ha : Lrd.at_ (Rrd.rs ⟨L, k, n, e, a⟩) = n := by simp [Rrd.rs, Lrd.at_, h0, List.drop_eq_nil_iff.2 hk]
   subst h0
   simp only at htl hpl
   simp [af55, af55b, rrV, rrC, htl, hpl, hk, hk']
   rw [bS _ _ _ (by rfl), ha]; rfl
  ·have ha : Lrd.at_ (Rrd.rs ⟨L, k, n, e, a⟩) = a := by simp [Rrd.rs, Lrd.at_, h0]
   simp only at htl hpl
   simp [af55, af55b, rrV, rrC, htl, hpl, h0]
   rw [bS _ _ _ (by rfl), ha]; rfl
 ·simp only at he hk htl hpl hg
  subst he
  have hk1 : ¬ L.length ≤ k := by omega
  have hk' : ¬ (L.length : Int) ≤ (k : Int) := by omega
  have hgt := kN hg
  obtain ⟨tk, ts, ta⟩ := t
  simp [af55, af55b, rrV, rrC, htl, hpl, hk1, hk', ↓hgt, fO]
  rw [bS _ _ _ (by rfl), ha]; rfl
theorem lK (h : q.ok) (p e2 : Int) (s : St) : call G 136 [rrV q, .int .i64 p, .int .i64 e2] s = some (rrV (q.fail p e2), s) := by
 have hpl := aE q.L
 have hud := bT q.L
 refine aC (F := af136) rfl rfl ?_
 obtain ⟨L, k, n, e, a⟩ := q
 simp only at hpl hud
 have hf : ∀ X e a, fin false s ⟨s.obs ++ X, s.bufs⟩ (.agg (rrC ⟨L, k, n, e, a⟩)) = (rrV ⟨L, k, n, e, a⟩, s) := by
  intro X e a
  rw [bS _ _ _ (by simp [rrC, hpl, hud])]
  simp [rrV, rrC, hpl]
 simp only [rrC] at hf
 by_cases h1 : e = 0
 ·by_cases h2 : e2 = 0
  ·simp [af136, af136b, rrV, rrC, hpl, h1, h2, aI, aK, aB, V.one, hf]
   simp [Rrd.fail, h1, rrV, rrC]
  ·have h2' : (e2 = 0) = False := eq_false h2
   simp [af136, af136b, rrV, rrC, hpl, h1, h2', aI, aK, aB, V.one, hf]
   simp [Rrd.fail, h1, h2, rrV, rrC]
 ·have h1' : (e = 0) = False := eq_false h1
  simp [af136, af136b, rrV, rrC, hpl, h1', aI, aK, aB, V.one, hf]
  simp [Rrd.fail, h1, rrV, rrC]
end
section
variable {q : Rrd}
theorem Aq (q : Rrd) (n m : Nat) : (rrV q).und n m = true := by
 have := bT q.L n m
 simp [rrV, rrC, this]
theorem pQ (q : Rrd) : (rrV q).plain = rrV q := by
 have := aE q.L
 simp [rrV, rrC, this]
theorem Dv (q : Rrd) (s : St) (X : List AObj) : fin false s ⟨s.obs ++ X, s.bufs⟩ (rrV q) = (rrV q, s) := by
 rw [bS _ _ _ (by rw [pQ]; exact Aq _ _ _), pQ]
theorem Jx (q : Rrd) (x : List UInt8) (s : St) (X : List AObj) : fin false s ⟨s.obs ++ X, s.bufs⟩ (.tup [rrV q, .str x]) = (.tup [rrV q, .str x], s) := by
 have h1 := Aq q s.obs.length 0
 have h2 := pQ q
 rw [bS _ _ _ (by simp [h2, h1])]
 simp [h2]
theorem jV (h : q.ok) (s : St) : call G 69 [rrV q] s = some (rrV q.form, s) := by
 have hpl := aE q.L
 have hud := bT q.L
 have h1 := pR h
 have h2 := lK h q.rs.at_ 4
 have hq : q.fail q.rs.at_ 4 = q.form := rfl
 rw [hq] at h2
 have hf := fun X => Dv q.form s X
 generalize q.rs.at_ = p at *
 generalize q.form = q2 at *
 refine aC (F := af69) rfl rfl ?_
 obtain ⟨L, k, n, e, a⟩ := q
 obtain ⟨L2, k2, n2, e2, a2⟩ := q2
 simp only at hpl hud
 simp only [rrV, rrC] at h1 h2 hf ⊢
 simp [af69, af69b, hpl, hud, h1, h2, aI, aK, aB, V.one, hf, bB]
theorem iB (h : q.ok) (x : List UInt8) (s : St) : call G 67 [rrV q, .str x] s = some (.bool (q.rs.is x), s) := by
 have hc := nP q
 have htl := cM q.L
 have hpl := aE q.L
 have h1 := eN h
 have hok := h
 refine aC (F := af67) rfl rfl ?_
 obtain ⟨L, k, n, e, a⟩ := q
 simp only at htl hpl
 rcases hc with ⟨ho, he⟩ | ⟨t, he, ho, hk, hg, hh, hkd, ha⟩
 ·simp only [rrV, rrC] at h1 ⊢
  simp [af67, af67b, htl, hpl, h1, ho]
  rw [bS _ _ _ (by rfl), nE ho]; rfl
 ·simp only at he hk hg
  have hk1 : ¬ L.length ≤ k := by omega
  have hgt := kN hg
  have ht1 : 1 ≤ t.k := hok.1 t (List.mem_of_getElem? hg)
  obtain ⟨tk, ts, ta⟩ := t
  simp only at ht1 hkd
  simp only [rrV, rrC] at h1 ⊢
  by_cases h2 : tk ≤ 2
  ·have hcase : tk = 1 ∨ tk = 2 := by omega
   have hk2 : (decide (tk = 1) || decide (tk = 2)) = true := by rcases hcase with rfl | rfl <;> rfl
   simp [af67, af67b, htl, hpl, h1, ho, hk1, hk, ↓hgt, fO, h2]
   rw [bS _ _ _ (by rfl)]
   unfold Lrd.is
   rw [hkd, hh, hk2, Bool.true_and]; rfl
  ·have hk2 : (decide (tk = 1) || decide (tk = 2)) = false := by
    rw [decide_eq_false (by omega), decide_eq_false (by omega)]; rfl
   simp [af67, af67b, htl, hpl, h1, ho, hk1, hk, ↓hgt, fO, h2]
   rw [bS _ _ _ (by rfl)]
   unfold Lrd.is
   rw [hkd, hk2, Bool.false_and]; rfl
theorem tJ (h : q.ok) (x : List UInt8) (s : St) : call G 68 [rrV q, .str x] s = some (rrV (q.must x), s) := by
 have hpl := aE q.L
 have h1 := iB h x
 have h2 := jV h
 have hf := fun X => Dv (q.must x) s X
 refine aC (F := af68) rfl rfl ?_
 by_cases hi : q.rs.is x = true
 ·have hm : q.must x = q.inc := by unfold Rrd.must; rw [if_pos hi]
  have hw : IntKind.i64.wrap ((q.k : Int) + 1) = (q.k : Int) + 1 := aD (by omega) (by have := h.2.1; have := h.2.2; omega)
  rw [hm] at hf ⊢
  obtain ⟨L, k, n, e, a⟩ := q
  simp only at hpl hw
  simp only [rrV, rrC, Rrd.inc] at h1 hf ⊢
  push_cast at hf ⊢
  simp [af68, af68b, hpl, h1, hi, hw, aI, aK, aB, V.one, hf]
 ·have hi' : q.rs.is x = false := by simpa using hi
  have hm : q.must x = q.form := by unfold Rrd.must; rw [if_neg hi]
  rw [hm] at hf ⊢
  generalize q.form = q2 at *
  obtain ⟨L, k, n, e, a⟩ := q
  obtain ⟨L2, k2, n2, e2, a2⟩ := q2
  simp only at hpl
  simp only [rrV, rrC] at h1 h2 hf ⊢
  simp [af68, af68b, hpl, h1, hi', h2, aI, aK, aB, V.one, hf]
theorem oU (h : q.ok) (s : St) : call G 70 [rrV q] s = some (.tup [rrV q.name.1, .str q.name.2], s) := by
 have hc := nP q
 have htl := cM q.L
 have hpl := aE q.L
 have h1 := eN h
 have h2 := jV h
 have hf := fun X => Jx q.name.1 q.name.2 s X
 refine aC (F := af70) rfl rfl ?_
 rcases hc with ⟨ho, he⟩ | ⟨t, he, ho, hk, hg, hh, hkd, ha⟩
 ·have hm : q.name = (q.form, []) := by unfold Rrd.name; rw [mH ho, if_neg (by decide)]
  rw [hm] at hf ⊢
  generalize q.form = q2 at *
  obtain ⟨L, k, n, e, a⟩ := q
  obtain ⟨L2, k2, n2, e2, a2⟩ := q2
  simp only at hpl htl
  simp only [rrV, rrC] at h1 h2 hf ⊢
  simp [af70, af70b, htl, hpl, h1, ho, h2, aI, aK, aB, V.one, hf]
 ·have hgt := kN hg
  have hk1 : ¬ q.L.length ≤ q.k := by omega
  by_cases hk2 : t.k = 2
  ·have hm : q.name = (q.inc, t.s) := by unfold Rrd.name; rw [hkd, if_pos hk2, hh]
   have hw : IntKind.i64.wrap ((q.k : Int) + 1) = (q.k : Int) + 1 := aD (by omega) (by have := h.2.1; have := h.2.2; omega)
   rw [hm] at hf ⊢
   obtain ⟨L, k, n, e, a⟩ := q
   obtain ⟨tk, ts, ta⟩ := t
   simp only at hpl htl hw hgt hk1 hk hk2
   subst hk2
   simp only [rrV, rrC, Rrd.inc] at h1 hf ⊢
   push_cast at hf ⊢
   simp [af70, af70b, htl, hpl, h1, ho, hk1, hk, ↓hgt, fO, hw, aI, aK, aB, V.one, hf]
  ·have hm : q.name = (q.form, []) := by unfold Rrd.name; rw [hkd, if_neg hk2]
   have hk2' : (t.k = 2) = False := eq_false hk2
   rw [hm] at hf ⊢
   generalize q.form = q2 at *
   obtain ⟨L, k, n, e, a⟩ := q
   obtain ⟨L2, k2, n2, e2, a2⟩ := q2
   obtain ⟨tk, ts, ta⟩ := t
   simp only at hpl htl hgt hk1 hk hk2'
   simp only [rrV, rrC] at h1 h2 hf ⊢
   simp [af70, af70b, htl, hpl, h1, ho, hk1, hk, ↓hgt, fO, hk2', h2, aI, aK, aB, V.one, hf]
end
theorem Gg {l l' s : List UInt8} {k : Int} (h : fI l = .ok (k, s) l') : 1 ≤ k := by
 unfold fI at h
 repeat' split at h
 all_goals first
  | (cases h; done)
  | (simp only [PR.ok.injEq, Prod.mk.injEq] at h; omega)
  | skip
 ·unfold iH at h
  repeat' split at h
  all_goals first
   | (cases h; done)
   | (simp only [PR.ok.injEq, Prod.mk.injEq] at h; omega)
 ·unfold rX at h
  repeat' split at h
  all_goals first
   | (cases h; done)
   | (simp only [PR.ok.injEq, Prod.mk.injEq] at h; omega)
 ·unfold wN at h
  repeat' split at h
  all_goals first
   | (cases h; done)
   | (simp only [PR.ok.injEq, Prod.mk.injEq] at h; omega)
theorem Fp (b : List UInt8) : ∀ (n : Nat) (l l2 : List UInt8) (toks T : List Tok), (∀ t ∈ toks, 1 ≤ t.k) → toks.length ≤ 900 → kS b n l toks = .ok T l2 → (∀ t ∈ T, 1 ≤ t.k) ∧ T.length ≤ 900 := by
 intro n
 induction n with
 | zero => intro l l2 toks T _ _ h; cases h
 | succ n ih =>
  intro l l2 toks T ht hl h
  rw [kS] at h
  split at h
  ·cases h; exact ⟨ht, hl⟩
  split at h
  ·cases h
  cases hT : fI l with
  | err l' e => rw [hT] at h; cases h
  | ok kt l' =>
   obtain ⟨k, s⟩ := kt
   rw [hT] at h
   refine ih _ _ _ _ ?_ (by rw [List.length_append]; simp; omega) h
   intro t hm
   rcases List.mem_append.1 hm with hm | hm
   ·exact ht t hm
   ·simp at hm; subst hm; exact Gg hT
theorem pK (b : List UInt8) : (∀ t ∈ (dJ b).1, 1 ≤ t.k) ∧ (dJ b).1.length ≤ 900 := by
 unfold dJ
 split
 ·simp
 split
 ·simp
 split
 ·rename_i toks l h
  exact Fp b _ _ _ [] _ (by simp) (by simp) h
 ·simp
def rr0 (b : List UInt8) : Rrd := ⟨(dJ b).1, 0, b.length, (dJ b).2.1, (dJ b).2.2⟩
theorem Du (b : List UInt8) : (rr0 b).ok := ⟨(pK b).1, by simp [rr0], by have := (pK b).2; simp only [rr0]; omega⟩
theorem HI (b : List UInt8) : (rr0 b).rs = rd0 b := rfl
theorem vX (b : List UInt8) (hb : b.length ≤ 9223372036854775807) (s : St) : call G 51 [.str b] s = some (rrV (rr0 b), s) := by
 have hlx := FK b hb
 have hpl := aE (dJ b).1
 have hf := fun X => Dv (rr0 b) s X
 refine aC (F := af51) rfl rfl ?_
 have hr : rrC (rr0 b) = [.sl .no (bP (dJ b).1), .int .i64 0, .int .i64 b.length, .int .i64 (dJ b).2.1, .int .i64 (dJ b).2.2] := rfl
 simp only [rrV, hr] at hf ⊢
 generalize (dJ b).1 = L at *
 generalize (dJ b).2.1 = e at *
 generalize (dJ b).2.2 = a at *
 simp [af51, af51b, hlx, hpl, aI, aK, aB, V.one, hf]
theorem rN {q : Rrd} (h : q.ok) (s : St) : call G 137 [rrV q] s = some (.agg [.int .i64 q.rs.whole.e, .int .i64 q.rs.whole.a], s) := by
 have hpl := aE q.L
 have h1 := eN h
 have h2 := jV h
 refine aC (F := af137) rfl rfl ?_
 by_cases ho : q.rs.over = true
 ·have hw : q.rs.whole = q.rs := by unfold Lrd.whole; rw [if_pos ho]
  rw [hw]
  obtain ⟨L, k, n, e, a⟩ := q
  simp only at hpl
  simp only [rrV, rrC] at h1 ⊢
  simp [af137, af137b, hpl, h1, ho, aI, aK, aB, V.one]
  rw [bS _ _ _ (by rfl)]; rfl
 ·have ho' : q.rs.over = false := by simpa using ho
  have hw : q.rs.whole = q.form.rs := by unfold Lrd.whole; rw [if_neg ho, nR]
  rw [hw]
  generalize q.form = q2 at *
  obtain ⟨L, k, n, e, a⟩ := q
  obtain ⟨L2, k2, n2, e2, a2⟩ := q2
  simp only at hpl
  simp only [rrV, rrC] at h1 h2 ⊢
  simp [af137, af137b, hpl, h1, ho', h2, aI, aK, aB, V.one]
  rw [bS _ _ _ (by rfl)]; rfl
def fzR (p : Rrd × List UInt8 × List UInt8) : Rrd × List UInt8 × List UInt8 := if p.1.e = 0 then p else (p.1, [], [])
def Rrd.bang (p : Rrd × List UInt8 × List UInt8) : Rrd × List UInt8 × List UInt8 := if p.1.rs.is [33] = true then (p.1.inc, p.2.1, p.2.2 ++ [33]) else p
def Rrd.typ : Nat → Rrd → Rrd × List UInt8 × List UInt8
 | 0, q => if q.rs.is [91] = true then (q.fail q.rs.at_ 5, [], []) else fzR (Rrd.bang (q.name.1, q.name.2, []))
 | n + 1, q => if q.rs.is [91] = true then fzR (Rrd.bang (((Rrd.typ n q.inc).1.must [93]), (Rrd.typ n q.inc).2.1, (Rrd.typ n q.inc).2.2 ++ [91])) else fzR (Rrd.bang (q.name.1, q.name.2, []))
theorem KT {R : Lrd} {x : List UInt8} (h : R.e ≠ 0) : R.is x = false := nE (by simp [Lrd.over, h]) x
theorem zU (p : Rrd × List UInt8 × List UInt8) : (fzR p).1 = p.1 := by unfold fzR; split <;> rfl
theorem zC {p : Rrd × List UInt8 × List UInt8} {R : Lrd} {x w : List UInt8} (h : p.1.rs = R) (h2 : p.1.e = 0 → p.2 = (x, w)) :
  (Rrd.bang p).1.rs = (Lrd.bang (R, x, w)).1 ∧ ((Rrd.bang p).1.e = 0 → (Rrd.bang p).2 = (Lrd.bang (R, x, w)).2) := by
 unfold Rrd.bang Lrd.bang
 rw [h]
 by_cases hi : R.is [33] = true
 ·rw [if_pos hi, if_pos hi]
  refine ⟨by rw [jJ, h], fun he => ?_⟩
  have := h2 he
  simp only [this]
 ·rw [if_neg hi, if_neg hi]
  exact ⟨h, h2⟩
theorem IR {q : Rrd} {p e : Int} (h : (q.fail p e).e = 0) : q.e = 0 := by
 unfold Rrd.fail at h
 split at h
 ·rename_i hc; exact hc.1
 ·exact h
theorem Jh {q : Rrd} {x : List UInt8} (h : (q.must x).e = 0) : q.e = 0 := by
 unfold Rrd.must at h
 split at h
 ·exact h
 ·exact IR h
theorem Ar : ∀ (n : Nat) (q : Rrd), (Rrd.typ n q).1.rs = (Lrd.typ n q.rs).1 ∧ ((Rrd.typ n q).1.e = 0 → (Rrd.typ n q).2 = (Lrd.typ n q.rs).2)
 | 0, q => by
  rw [Rrd.typ, Lrd.typ]
  by_cases hi : q.rs.is [91] = true
  ·rw [if_pos hi, if_pos hi]
   exact ⟨tY _ _ _, fun _ => rfl⟩
  ·rw [if_neg hi, if_neg hi]
   obtain ⟨h1, h2⟩ := rO q
   obtain ⟨b1, b2⟩ := zC (p := (q.name.1, q.name.2, [])) (R := q.rs.name.1) (x := q.rs.name.2) (w := []) h1 (fun _ => by rw [h2])
   rw [zU]
   refine ⟨b1, fun he => ?_⟩
   unfold fzR
   rw [if_pos he]
   exact b2 he
 | n + 1, q => by
  rw [Rrd.typ, Lrd.typ]
  by_cases hi : q.rs.is [91] = true
  ·rw [if_pos hi, if_pos hi]
   obtain ⟨h1, h2⟩ := Ar n q.inc
   rw [jJ] at h1 h2
   obtain ⟨b1, b2⟩ := zC (p := (((Rrd.typ n q.inc).1.must [93]), (Rrd.typ n q.inc).2.1, (Rrd.typ n q.inc).2.2 ++ [91])) (R := (Lrd.typ n q.rs.tl).1.must [93]) (x := (Lrd.typ n q.rs.tl).2.1) (w := (Lrd.typ n q.rs.tl).2.2 ++ [91])
    (by rw [EG, h1]) (fun he => by rw [h2 (Jh he)])
   rw [zU]
   refine ⟨b1, fun he => ?_⟩
   unfold fzR
   rw [if_pos he]
   exact b2 he
  ·rw [if_neg hi, if_neg hi]
   obtain ⟨h1, h2⟩ := rO q
   obtain ⟨b1, b2⟩ := zC (p := (q.name.1, q.name.2, [])) (R := q.rs.name.1) (x := q.rs.name.2) (w := []) h1 (fun _ => by rw [h2])
   rw [zU]
   refine ⟨b1, fun he => ?_⟩
   unfold fzR
   rw [if_pos he]
   exact b2 he
section
variable {q : Rrd}
theorem nH (h : q.ok) (ho : q.rs.over = false) : q.inc.ok := by
 rcases nP q with ⟨h1, _⟩ | ⟨t, _, _, hk, _⟩
 ·rw [h1] at ho; cases ho
 ·exact ⟨h.1, by simp only [Rrd.inc]; omega, h.2.2⟩
theorem mF {R : Lrd} {x : List UInt8} (h : R.is x = true) : R.over = false := by
 cases h1 : R.over with
 | false => rfl
 | true => rw [nE h1] at h; cases h
theorem tV (h : q.ok) (x : List UInt8) : (q.must x).ok := by
 unfold Rrd.must
 split
 ·rename_i hi; exact nH h (mF hi)
 ·exact iR h _ _
theorem nI (h : q.ok) : q.name.1.ok := by
 unfold Rrd.name
 split
 ·rename_i hk
  refine nH h ?_
  cases h1 : q.rs.over with
  | false => rfl
  | true => rw [mH h1] at hk; omega
 ·exact iR h _ _
end
theorem Af {p : Rrd × List UInt8 × List UInt8} (h : p.1.ok) : (Rrd.bang p).1.ok := by
 unfold Rrd.bang
 split
 ·rename_i hi; exact nH h (mF hi)
 ·exact h
theorem CZ : ∀ (n : Nat) (q : Rrd), q.ok → (Rrd.typ n q).1.ok
 | 0, q, h => by
  rw [Rrd.typ]
  split
  ·exact iR h _ _
  ·rw [zU]; exact Af (nI h)
 | n + 1, q, h => by
  rw [Rrd.typ]
  split
  ·rename_i hi
   rw [zU]
   exact Af (tV (CZ n q.inc (nH h (mF hi))) _)
  ·rw [zU]; exact Af (nI h)
theorem KD (n : Nat) (q : Rrd) : (Rrd.typ n q).2.2.length ≤ 2 * n + 1 := by
 by_cases he : (Rrd.typ n q).1.e = 0
 ·rw [(Ar n q).2 he]; exact AB n _
 ·have : (Rrd.typ n q).2 = ([], []) := by
   cases n with
   | zero =>
    rw [Rrd.typ] at he ⊢
    split
    ·rfl
    ·rename_i hi
     rw [if_neg hi, zU] at he
     unfold fzR
     rw [if_neg he]
   | succ n =>
    rw [Rrd.typ] at he ⊢
    split
    ·rename_i hi
     rw [if_pos hi, zU] at he
     unfold fzR
     rw [if_neg he]
    ·rename_i hi
     rw [if_neg hi, zU] at he
     unfold fzR
     rw [if_neg he]
  rw [this]; simp
theorem nQ (q : Rrd) (x w : List UInt8) (s : St) (X : List AObj) : fin false s ⟨s.obs ++ X, s.bufs⟩ (.tup [rrV q, tyV x w]) = (.tup [rrV q, tyV x w], s) := by
 have h1 := Aq q s.obs.length 0
 have h2 := pQ q
 rw [bS _ _ _ (by simp [h2, h1, tyV])]
 simp [h2, tyV]
theorem Gw {q : Rrd} (h : q.rs.is [33] = true) : q.e = 0 := by
 rcases nP q with ⟨h1, _⟩ | ⟨t, h0, _⟩
 ·rw [nE h1] at h; cases h
 ·exact h0
set_option maxHeartbeats 2000000 in
theorem Dw : ∀ (n : Nat), n ≤ 1000 → ∀ (q : Rrd), q.ok → ∀ (s : St), call G 134 [rrV q, .int .i64 n] s = some (.tup [rrV (Rrd.typ n q).1, tyV (Rrd.typ n q).2.1 (Rrd.typ n q).2.2], s) := by
 have e64 : gI = 9223372036854775807 := rfl
 have key : ∀ (n : Nat) (q : Rrd), q.ok → ∀ (s : St), q.rs.is [91] = false → call G 134 [rrV q, .int .i64 n] s = some (.tup [rrV (fzR (Rrd.bang (q.name.1, q.name.2, []))).1, tyV (fzR (Rrd.bang (q.name.1, q.name.2, []))).2.1 (fzR (Rrd.bang (q.name.1, q.name.2, []))).2.2], s) := by
  intro n q hq s hi
  have hpl := aE q.L
  have hud := bT q.L
  have h1 := iB hq
  have hnm := oU hq
  have hok1 := nI hq
  generalize hN : q.name = N at *
  obtain ⟨q1, x⟩ := N
  simp only at hok1 hnm
  have hi1 := iB hok1 [33]
  have hpl1 := aE q1.L
  have hw1 : IntKind.i64.wrap ((q1.k : Int) + 1) = (q1.k : Int) + 1 := aD (by omega) (by have := hok1.2.1; have := hok1.2.2; omega)
  refine aC (F := af134) rfl rfl ?_
  by_cases hb : q1.rs.is [33] = true
  ·have he := Gw hb
   have hty : fzR (Rrd.bang (q1, x, [])) = (q1.inc, x, [33]) := by
    unfold Rrd.bang
    rw [if_pos hb]
    unfold fzR
    rw [if_pos (show q1.inc.e = 0 from he)]; rfl
   rw [hty]
   have hf := fun X => nQ q1.inc x [33] s X
   obtain ⟨L, k, n', e, a⟩ := q
   obtain ⟨L1, k1, n1, e1, a1⟩ := q1
   simp only at hpl hud hpl1 hw1 he
   subst he
   simp only [rrV, rrC, tyV, Rrd.inc] at h1 hnm hi1 hf ⊢
   push_cast at hf ⊢
   simp [af134, af134b, hpl, hpl1, hud, h1, hi, hnm, hi1, hb, hw1, e64, aI, aK, aB, V.one, hf, bB, aV, aQ, aP, bD, aY, aR, cR]
  ·have hb' : q1.rs.is [33] = false := by simpa using hb
   have hbg : Rrd.bang (q1, x, []) = (q1, x, []) := by unfold Rrd.bang; rw [if_neg hb]
   rw [hbg]
   by_cases he : q1.e = 0
   ·have hty : fzR (q1, x, []) = (q1, x, []) := by unfold fzR; rw [if_pos he]
    rw [hty]
    have hf := fun X => nQ q1 x [] s X
    obtain ⟨L, k, n', e, a⟩ := q
    obtain ⟨L1, k1, n1, e1, a1⟩ := q1
    simp only at hpl hud hpl1 hw1 he
    subst he
    simp only [rrV, rrC, tyV, Rrd.inc] at h1 hnm hi1 hf ⊢
    simp [af134, af134b, hpl, hpl1, hud, h1, hi, hnm, hi1, hb', hw1, e64, aI, aK, aB, V.one, hf, bB, aV, aQ, aP, bD, aY, aR, cR]
   ·have hty : fzR (q1, x, []) = (q1, [], []) := by unfold fzR; rw [if_neg he]
    rw [hty]
    have hf := fun X => nQ q1 [] [] s X
    obtain ⟨L, k, n', e, a⟩ := q
    obtain ⟨L1, k1, n1, e1, a1⟩ := q1
    simp only at hpl hud hpl1 hw1 he
    have he' : (e1 = 0) = False := eq_false he
    simp only [rrV, rrC, tyV, Rrd.inc] at h1 hnm hi1 hf ⊢
    simp [af134, af134b, hpl, hpl1, hud, h1, hi, hnm, hi1, hb', hw1, he', e64, aI, aK, aB, V.one, hf, bB, aV, aQ, aP, bD, aY, aR, cR]
 intro n
 induction n with
 | zero =>
  intro hn q hq s
  by_cases hi : q.rs.is [91] = true
  ·have hpl := aE q.L
   have hud := bT q.L
   have h1 := iB hq
   refine aC (F := af134) rfl rfl ?_
   have h2 := pR hq
   have h3 := lK hq q.rs.at_ 5
   have hty : Rrd.typ 0 q = (q.fail q.rs.at_ 5, [], []) := by rw [Rrd.typ, if_pos hi]
   rw [hty]
   have hf := fun X => nQ (q.fail q.rs.at_ 5) [] [] s X
   generalize q.rs.at_ = p at *
   generalize q.fail p 5 = q2 at *
   obtain ⟨L, k, n, e, a⟩ := q
   obtain ⟨L2, k2, n2, e2, a2⟩ := q2
   simp only at hpl hud
   simp only [rrV, rrC, tyV] at h1 h2 h3 hf ⊢
   simp [af134, af134b, hpl, hud, h1, hi, h2, h3, aI, aK, aB, V.one, hf, bB, aV, aQ, aP, bD, aY, aR, cR]
  ·have hty : Rrd.typ 0 q = fzR (Rrd.bang (q.name.1, q.name.2, [])) := by rw [Rrd.typ, if_neg hi]
   rw [hty]
   exact key 0 q hq s (by simpa using hi)
 | succ n ih =>
  intro hn q hq s
  by_cases hi : q.rs.is [91] = true
  ·have hty : Rrd.typ (n + 1) q = fzR (Rrd.bang (((Rrd.typ n q.inc).1.must [93]), (Rrd.typ n q.inc).2.1, (Rrd.typ n q.inc).2.2 ++ [91])) := by rw [Rrd.typ, if_pos hi]
   have hpl := aE q.L
   have hud := bT q.L
   have h1 := iB hq
   have hoki := nH hq (mF hi)
   have hgo := fun s => ih (by omega) q.inc hoki s
   have hok0 := CZ n q.inc hoki
   have hl := KD n q.inc
   have hlt : ¬ (n : Int) + 1 < 1 := by omega
   have hw : IntKind.i64.wrap (n : Int) = (n : Int) := aD (by omega) (by omega)
   have hwk : IntKind.i64.wrap ((q.k : Int) + 1) = (q.k : Int) + 1 := aD (by omega) (by have := hq.2.1; have := hq.2.2; omega)
   rw [hty]
   generalize Rrd.typ n q.inc = T at *
   obtain ⟨q0, x, w⟩ := T
   simp only at hok0 hl
   have hmu := tJ hok0 [93]
   have hok1 := tV hok0 [93]
   simp only
   generalize q0.must [93] = q1 at *
   have hi1 := iB hok1 [33]
   have hpl0 := aE q0.L
   have hpl1 := aE q1.L
   have hw1 : IntKind.i64.wrap ((q1.k : Int) + 1) = (q1.k : Int) + 1 := aD (by omega) (by have := hok1.2.1; have := hok1.2.2; omega)
   have hl1 : (w.length : Int) + 1 ≤ 9223372036854775807 := by omega
   have hl2 : (w.length : Int) + 1 + 1 ≤ 9223372036854775807 := by omega
   refine aC (F := af134) rfl rfl ?_
   by_cases hb : q1.rs.is [33] = true
   ·have he := Gw hb
    have hty2 : fzR (Rrd.bang (q1, x, w ++ [91])) = (q1.inc, x, w ++ [91] ++ [33]) := by
     unfold Rrd.bang
     rw [if_pos hb]
     unfold fzR
     rw [if_pos (show q1.inc.e = 0 from he)]
    rw [hty2]
    have hf := fun X => nQ q1.inc x (w ++ [91] ++ [33]) s X
    obtain ⟨L, k, n', e, a⟩ := q
    obtain ⟨L0, k0, n0, e0, a0⟩ := q0
    obtain ⟨L1, k1, n1, e1, a1⟩ := q1
    simp only at hpl hud hpl0 hpl1 hw1 he hwk
    subst he
    simp only [rrV, rrC, tyV, Rrd.inc, List.append_assoc, List.cons_append, List.nil_append] at h1 hgo hmu hi1 hf ⊢
    push_cast at hf hgo ⊢
    simp [af134, af134b, hpl, hpl0, hpl1, hud, h1, hi, hlt, hw, hwk, hgo, hmu, hi1, hb, hw1, hl1, hl2, e64, aI, aK, aB, V.one, hf, bB, aV, aQ, aP, bD, aY, aR, cR]
   ·have hb' : q1.rs.is [33] = false := by simpa using hb
    have hbg : Rrd.bang (q1, x, w ++ [91]) = (q1, x, w ++ [91]) := by unfold Rrd.bang; rw [if_neg hb]
    rw [hbg]
    by_cases he : q1.e = 0
    ·have hty2 : fzR (q1, x, w ++ [91]) = (q1, x, w ++ [91]) := by unfold fzR; rw [if_pos he]
     rw [hty2]
     have hf := fun X => nQ q1 x (w ++ [91]) s X
     obtain ⟨L, k, n', e, a⟩ := q
     obtain ⟨L0, k0, n0, e0, a0⟩ := q0
     obtain ⟨L1, k1, n1, e1, a1⟩ := q1
     simp only at hpl hud hpl0 hpl1 hw1 he hwk
     subst he
     simp only [rrV, rrC, tyV, Rrd.inc] at h1 hgo hmu hi1 hf ⊢
     push_cast at hgo
     simp [af134, af134b, hpl, hpl0, hpl1, hud, h1, hi, hlt, hw, hwk, hgo, hmu, hi1, hb', hw1, hl1, hl2, e64, aI, aK, aB, V.one, hf, bB, aV, aQ, aP, bD, aY, aR, cR]
    ·have hty2 : fzR (q1, x, w ++ [91]) = (q1, [], []) := by unfold fzR; rw [if_neg he]
     rw [hty2]
     have hf := fun X => nQ q1 [] [] s X
     have he' : (q1.e = 0) = False := eq_false he
     obtain ⟨L, k, n', e, a⟩ := q
     obtain ⟨L0, k0, n0, e0, a0⟩ := q0
     obtain ⟨L1, k1, n1, e1, a1⟩ := q1
     simp only at hpl hud hpl0 hpl1 hw1 he' hwk
     simp only [rrV, rrC, tyV, Rrd.inc] at h1 hgo hmu hi1 hf ⊢
     push_cast at hgo
     simp [af134, af134b, hpl, hpl0, hpl1, hud, h1, hi, hlt, hw, hwk, hgo, hmu, hi1, hb', hw1, he', hl1, hl2, e64, aI, aK, aB, V.one, hf, bB, aV, aQ, aP, bD, aY, aR, cR]
  ·have hty : Rrd.typ (n + 1) q = fzR (Rrd.bang (q.name.1, q.name.2, [])) := by rw [Rrd.typ, if_neg hi]
   rw [hty]
   have := key (n + 1) q hq s (by simpa using hi)
   exact this
def Lrd.good (R : Lrd) : Prop := R.e = 0 → R.a = 0
theorem iA {R : Lrd} (h : R.good) (p : Int) {e : Int} (he : e ≠ 0) : (R.fail p e).good := by
 unfold Lrd.fail
 split
 ·intro h0; exact absurd h0 he
 ·exact h
theorem xQ {R : Lrd} (h : R.good) (x : List UInt8) : (R.must x).good := by
 unfold Lrd.must
 split
 ·exact h
 ·exact iA h _ (by decide)
theorem mB {R : Lrd} (h : R.good) : R.name.1.good := by
 unfold Lrd.name
 split
 ·exact h
 ·exact iA h _ (by decide)
theorem sI {q : Lrd × List UInt8 × List UInt8} (h : q.1.good) : (Lrd.bang q).1.good := by
 unfold Lrd.bang
 split
 ·exact h
 ·exact h
theorem Bj : ∀ (n : Nat) (R : Lrd), R.good → (Lrd.typ n R).1.good
 | 0, R, h => by
  rw [Lrd.typ]
  split
  ·exact iA h _ (by decide)
  ·exact sI (mB h)
 | n + 1, R, h => by
  rw [Lrd.typ]
  split
  ·exact sI (xQ (Bj n R.tl h) _)
  ·exact sI (mB h)
theorem Bi (b : List UInt8) : (rd0 b).good := by
 intro h
 have h' : (dJ b).2.1 = 0 := h
 show (dJ b).2.2 = 0
 revert h'
 unfold dJ
 split
 ·intro h; cases h
 split
 ·intro h; cases h
 split
 ·intro _; rfl
 ·rename_i l e hL
  intro h0
  simp only at h0
  subst h0
  exfalso
  revert hL
  have key : ∀ (n : Nat) (l l2 : List UInt8) (toks : List Tok), kS b n l toks ≠ .err l2 0 := by
   intro n
   induction n with
   | zero => intro l l2 toks h; cases h
   | succ n ih =>
    intro l l2 toks h
    rw [kS] at h
    split at h
    ·cases h
    ·split at h
     ·cases h
     ·cases hT : fI l with
      | err l' e =>
       rw [hT] at h
       have := wK hT
       simp only [PR.err.injEq] at h
       omega
      | ok kt l' => rw [hT] at h; exact ih _ _ _ h
  exact key _ _ _ _
theorem ES {R : Lrd} (h : R.whole.e = 0) : R.whole = R ∧ R.over = true := by
 unfold Lrd.whole at h ⊢
 by_cases ho : R.over = true
 ·rw [if_pos ho]; exact ⟨rfl, ho⟩
 ·exfalso
  rw [if_neg ho] at h
  have he : R.e = 0 := by
   cases hq : decide (R.e = 0) with
   | true => simpa using hq
   | false => exact absurd (by simp [Lrd.over, hq]) ho
  unfold Lrd.form Lrd.fail at h
  rw [if_pos ⟨he, by decide⟩] at h
  cases h
theorem ty_e (R : Lrd) : R.ty.1 = (Lrd.typ 4 R).1 := by unfold Lrd.ty fzT; split <;> rfl
theorem HG (b : List UInt8) (hb : b.length ≤ 9223372036854775807) (s : St) : call G 60 [.str b] s = some (.tup [tyV (PT b).1 (PT b).2.1, .agg [.int .i64 (PT b).2.2.1, .int .i64 (PT b).2.2.2]], s) := by
 have h1 := vX b hb
 have h2 := Dw 4 (by omega) (rr0 b) (Du b)
 have hok := CZ 4 (rr0 b) (Du b)
 have h3 := rN hok
 obtain ⟨e1, e2⟩ := Ar 4 (rr0 b)
 rw [HI] at e1 e2
 have hg := Bj 4 (rd0 b) (Bi b)
 have hty : (rd0 b).ty = fzT (Lrd.typ 4 (rd0 b)) := rfl
 have hte := ty_e (rd0 b)
 refine aC (F := af60) rfl rfl ?_
 have hplq := aE (Rrd.typ 4 (rr0 b)).1.L
 unfold PT
 rw [hte]
 rw [e1] at h3
 have hgw : (Lrd.typ 4 (rd0 b)).1.whole.e = 0 → (Lrd.typ 4 (rd0 b)).1.whole.a = 0 ∧ (rd0 b).ty.2 = (Rrd.typ 4 (rr0 b)).2 := by
  intro he
  obtain ⟨w1, _⟩ := ES he
  rw [w1] at he ⊢
  refine ⟨hg he, ?_⟩
  rw [hty]
  unfold fzT
  rw [if_pos he]
  refine (e2 ?_).symm
  have : (Rrd.typ 4 (rr0 b)).1.e = (Lrd.typ 4 (rd0 b)).1.e := by rw [← e1]; rfl
  rw [this]; exact he
 generalize (Lrd.typ 4 (rd0 b)).1.whole = R2 at *
 generalize (rd0 b).ty.2 = t2 at *
 clear hg hty hte e1 e2
 generalize rr0 b = q0 at *
 generalize Rrd.typ 4 q0 = T at *
 obtain ⟨q, x, w⟩ := T
 simp only at h2 h3 hgw hplq
 have hpl0 := aE q0.L
 obtain ⟨L0, k0, n0, e0, a0⟩ := q0
 obtain ⟨L, k, n, e, a⟩ := q
 simp only at hplq hpl0
 simp only [rrV, rrC, tyV] at h1 h2 h3 ⊢
 push_cast at h2
 by_cases he : R2.e = 0
 ·obtain ⟨g1, g2⟩ := hgw he
  rw [if_pos he]
  subst g2
  simp [af60, af60b, h1, hpl0, hplq, h2, h3, he, g1, aI, aK, aB, V.one, aV, aQ, aP, bD, aY, aR, cR]
  rw [bS _ _ _ (by rfl)]
  rfl
 ·rw [if_neg he]
  have he' : (R2.e = 0) = False := eq_false he
  simp [af60, af60b, h1, hpl0, hplq, h2, h3, he', aI, aK, aB, V.one, aV, aQ, aP, bD, aY, aR, cR]
  rw [bS _ _ _ (by rfl)]
  rfl
end Go.Proofs.YtboejpobmpfifaaGreatDoor.Eng
