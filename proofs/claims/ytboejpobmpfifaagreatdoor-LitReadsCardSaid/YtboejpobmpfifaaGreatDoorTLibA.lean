/-
 JSON: what the functions do, one behind the other. No condition.
-/
import Derived.Test.YtboejpobmpfifaaGreatDoorJBase
import Derived.Test.YtboejpobmpfifaaGreatDoorEngS
import Derived.Lib.DecodeN
import Derived.Lib.RuneCountTail
set_option linter.unusedSimpArgs false
set_option linter.unusedVariables false
namespace Go.Proofs.YtboejpobmpfifaaGreatDoor.Eng
open Go
inductive JV where
 | mk (kind n : Int) (s : List UInt8) (l : List JV) (f : List (List UInt8 × JV))
mutual
def vc : JV → List V
 | .mk k n s l f => [.int .i64 k, .int .i64 n, .str s, .sl .no (dJ l), .sl .no (dF f)]
def dJ : List JV → List V
 | [] => []
 | v :: vs => .agg (vc v) :: dJ vs
def dF : List (List UInt8 × JV) → List V
 | [] => []
 | p :: ps => .agg (.str p.1 :: vc p.2) :: dF ps
end
abbrev toV (v : JV) : V := .agg (vc v)
theorem eK (v : JV) : (vc v).length = 5 := by cases v; simp [vc]
theorem iE (v : JV) : (vc v).take 5 = vc v := List.take_of_length_le (by rw [eK]; omega)
mutual
theorem fH : ∀ v : JV, aW (vc v) = vc v
 | .mk k n s l f => by simp [vc, aW, V.plain, dY l, dX f]
theorem dY : ∀ l : List JV, aW (dJ l) = dJ l
 | [] => rfl
 | v :: vs => by simp [dJ, aW, V.plain, fH v, dY vs]
theorem dX : ∀ l : List (List UInt8 × JV), aW (dF l) = dF l
 | [] => rfl
 | p :: ps => by simp [dF, aW, V.plain, fH p.2, dX ps]
end
mutual
theorem iX : ∀ (v : JV) (n b : Nat), bY n b (vc v) = true
 | .mk k m s l f, n, b => by simp [vc, bY, V.und, fS l n b, fR f n b]
theorem fS : ∀ (l : List JV) (n b : Nat), bY n b (dJ l) = true
 | [], _, _ => rfl
 | v :: vs, n, b => by simp [dJ, bY, V.und, iX v n b, fS vs n b]
theorem fR : ∀ (l : List (List UInt8 × JV)) (n b : Nat), bY n b (dF l) = true
 | [], _, _ => rfl
 | p :: ps, n, b => by simp [dF, bY, V.und, iX p.2 n b, fR ps n b]
end
def JV.kind : JV → Int | .mk k _ _ _ _ => k
def JV.n : JV → Int | .mk _ n _ _ _ => n
def JV.s : JV → List UInt8 | .mk _ _ s _ _ => s
def JV.l : JV → List JV | .mk _ _ _ l _ => l
def JV.f : JV → List (List UInt8 × JV) | .mk _ _ _ _ f => f
theorem kB (l : List JV) : (dJ l).length = l.length := by induction l <;> simp [dJ, *]
theorem fF (l : List (List UInt8 × JV)) : (dF l).length = l.length := by induction l <;> simp [dF, *]
theorem Ih (l : List JV) (i : Nat) : (dJ l)[i]? = (l[i]?).map toV := by
 induction l generalizing i with
 | nil => simp [dJ]
 | cons x l ih => cases i <;> simp [dJ, ih]
theorem sE (l : List (List UInt8 × JV)) (i : Nat) : (dF l)[i]? = (l[i]?).map fun p => .agg (.str p.1 :: vc p.2) := by
 induction l generalizing i with
 | nil => simp [dF]
 | cons x l ih => cases i <;> simp [dF, ih]
mutual
def JV.ok : JV → Prop
 | .mk k n s l f => (-9223372036854775808 ≤ k ∧ k ≤ 9223372036854775807) ∧ (-9223372036854775808 ≤ n ∧ n ≤ 9223372036854775807) ∧ s.length ≤ 9223372036854775807 ∧
  l.length ≤ 9223372036854775807 ∧ f.length ≤ 9223372036854775807 ∧ Lh l ∧ Lg f
def Lh : List JV → Prop
 | [] => True
 | v :: vs => v.ok ∧ Lh vs
def Lg : List (List UInt8 × JV) → Prop
 | [] => True
 | p :: ps => p.1.length ≤ 9223372036854775807 ∧ p.2.ok ∧ Lg ps
end
attribute [local simp] eT dR eV cY cW eU dQ dP eF eS dL cC dU cZ cN dM cA bX cV bW
attribute [local simp] hZ aZ put dB X.ev cF cO cP cS bU dO cR bV dN cQ eK iE fH iX eR gH kV bM fL gT fE gB fin V.plain V.und scK kill aF bQ aG dT dS cT mB bR fU V.real bH bK cU
end Go.Proofs.YtboejpobmpfifaaGreatDoor.Eng
namespace Go.Proofs.YtboejpobmpfifaaGreatDoor.Eng
open Go
attribute [local simp] eT dR eV cY cW eU dQ dP eF eS dL cC dU cZ cN dM cA bX cV bW
attribute [local simp] hZ aZ put dB X.ev cF cO cP cS bU dO cR bV dN cQ eR gH kV bM fL gT fE gB fin V.plain aW V.und bY scK kill aF bQ aG dT dS cT mB bR fU V.real bH bK cU
def jA (b : List UInt8) (p n : Nat) : Nat → Nat → Nat → Option Nat
 | 0, _, v => some v
 | m + 1, i, v =>
  let d := (b.getD (p + i) 0).toNat
  if d < 128 ∨ 192 ≤ d then none else jA b p n m (i + 1) (v * 64 + d - 128)
theorem eZ (x : UInt8) : x.toNat < 256 := x.toNat_lt
theorem wM (b : List UInt8) (p n : Nat) (hb : b.length ≤ 9223372036854775807) (hpn : p + n ≤ b.length) (hn : n ≤ 4) (v9 : V) :
  ∀ (m i v : Nat) (env : Env) (s : St), n - i = m → i ≤ n → v < 64 ^ i → env 0 = .str b → env 1 = .int .i64 p → env 7 = .int .i64 n → env 8 = .int .i64 v → env 9 = v9 → env 10 = .int .i64 i →
   Out (evC G (.loop false af229l0) env s) (fun e env' s' => s' = s ∧ match jA b p n m i v with
    | some w => e = .exit 0 ∧ env' 8 = .int .i64 w ∧ env' 7 = .int .i64 n ∧ env' 9 = v9
    | none => e = .ret ∧ env' 4 = .int .i64 0 ∧ env' 5 = .int .i32 0) := by
 intro m
 induction m with
 | zero =>
  intro i v env s hm hi hv h0 h1 h7 h8 h9 h10
  have : i = n := by omega
  subst this
  refine aH G false _ _ af229l0.eq_1 _ _ _ ?_
  simp [h7, h10]
  refine aA _ _ _ _ _ _ _ rfl ?_ ?_
  ·intro h; simp at h
  ·intro _
   simp [h7, h8, h9, jA]
 | succ m ihm =>
  intro i v env s hm hi hv h0 h1 h7 h8 h9 h10
  have hlt : i < n := by omega
  refine aH G false _ _ af229l0.eq_1 _ _ _ ?_
  simp [h7, h10]
  refine aA _ _ _ _ _ _ _ rfl ?_ ?_
  ·intro _
   have hx : b[p + i]? = some (b[p + i]'(by omega)) := List.getElem?_eq_getElem (by omega)
   have hg : b.getD (p + i) 0 = b[p + i]'(by omega) := by simp [List.getD, hx]
   have hd := eZ (b[p + i]'(by omega))
   generalize b[p + i]'(by omega) = x at *
   have hw1 : IntKind.i64.wrap ((p : Int) + i) = (p : Int) + i := aD (by omega) (by omega)
   have ht : ((p : Int) + i).toNat = p + i := by omega
   have hge : (0 : Int) ≤ (p : Int) + i := by omega
   have hw2 : IntKind.i64.wrap (x.toNat : Int) = x.toNat := aD (by omega) (by omega)
   have h4 : v ≤ 262144 := by
    have : 64 ^ i ≤ 64 ^ 3 := Nat.pow_le_pow_right (by omega) (by omega)
    omega
   simp only [jA, hg]
   simp [h0, h1, h7, h8, h9, h10, hw1, hx, hw2, ht, hge]
   refine aA _ _ _ _ _ _ _ rfl ?_ ?_
   ·intro h
    simp at h
    have hc : x.toNat < 128 ∨ 192 ≤ x.toNat := by omega
    simp [hc]
   ·intro h
    simp at h
    have hc : ¬ (x.toNat < 128 ∨ 192 ≤ x.toNat) := by omega
    have e1 : IntKind.i64.wrap ((v : Int) * 64) = (v : Int) * 64 := aD (by omega) (by omega)
    have e2 : IntKind.i64.wrap ((v : Int) * 64 + (x.toNat : Int)) = (v : Int) * 64 + x.toNat := aD (by omega) (by omega)
    have e3 : IntKind.i64.wrap ((v : Int) * 64 + (x.toNat : Int) - 128) = ((v * 64 + x.toNat - 128 : Nat) : Int) := by rw [aD (by omega) (by omega)]; omega
    have e4 : IntKind.i64.wrap ((i : Int) + 1) = ((i + 1 : Nat) : Int) := by rw [aD (by omega) (by omega)]; omega
    simp only [Nat.not_lt, not_or, Nat.not_le] at hc
    simp [h8, h10, e1, e2, e3, e4, hc]
    have hlt' : v * 64 + x.toNat - 128 < 64 ^ (i + 1) := by rw [Nat.pow_succ]; omega
    rw [if_neg (by omega)]
    exact ihm (i + 1) (v * 64 + x.toNat - 128) _ s (by omega) (by omega) hlt' (by simp [h0]) (by simp [h1]) (by simp [h7]) (by simp) (by simp [h9]) (by simp)
  ·intro h
   simp at h
   omega
theorem gA {n : Int} (h0 : -2147483648 ≤ n) (h1 : n ≤ 2147483647) : IntKind.i32.wrap n = n := by
 have e : (2 : Int) ^ IntKind.i32.bits = 4294967296 := by decide
 have e' : (2 : Int) ^ (IntKind.i32.bits - 1) = 2147483648 := by decide
 have e'' : IntKind.i32.signed = true := by decide
 unfold IntKind.wrap
 simp only [e, e', e'', Bool.true_and, decide_eq_true_eq, ge_iff_le]
 split <;> omega
def cI (b : List UInt8) (p : Nat) : Nat × Nat :=
 let c := (b.getD p 0).toNat
 let go (n v least : Nat) : Nat × Nat :=
  if b.length < p + n then (0, 0) else
  match jA b p n (n - 1) 1 v with
  | none => (0, 0)
  | some w => if w < least ∨ 1114111 < w ∨ (55296 ≤ w ∧ w < 57344) then (0, 0) else (n, w)
 if c < 128 then (1, c)
 else if 194 ≤ c ∧ c < 224 then go 2 (c - 192) 128
 else if 224 ≤ c ∧ c < 240 then go 3 (c - 224) 2048
 else if 240 ≤ c ∧ c < 245 then go 4 (c - 240) 65536
 else (0, 0)
theorem yR (b : List UInt8) (p : Nat) (hb : b.length ≤ 9223372036854775807) (hp : p < b.length) (s : St) :
  call G 229 [.str b, .int .i64 p] s = some (.tup [.int .i64 (cI b p).1, .int .i32 (cI b p).2], s) := by
 have hx : b[p]? = some (b[p]'hp) := List.getElem?_eq_getElem hp
 have hg : b.getD p 0 = b[p]'hp := by simp [List.getD, hx]
 have hd := eZ (b[p]'hp)
 have ew2 : IntKind.i64.wrap (IntKind.i64.wrap ((b.length : Int) - 2) + 1) = (b.length : Int) - 2 + 1 := by
  rw [aD (n := (b.length : Int) - 2) (by omega) (by omega), aD (by omega) (by omega)]
 have ew3 : IntKind.i64.wrap (IntKind.i64.wrap ((b.length : Int) - 3) + 1) = (b.length : Int) - 3 + 1 := by
  rw [aD (n := (b.length : Int) - 3) (by omega) (by omega), aD (by omega) (by omega)]
 have ew4 : IntKind.i64.wrap (IntKind.i64.wrap ((b.length : Int) - 4) + 1) = (b.length : Int) - 4 + 1 := by
  rw [aD (n := (b.length : Int) - 4) (by omega) (by omega), aD (by omega) (by omega)]
 generalize b[p]'hp = x at *
 have hw2 : IntKind.i64.wrap (x.toNat : Int) = x.toNat := aD (by omega) (by omega)
 refine aC (F := af229) rfl rfl ?_
 simp [af229, af229b, hx, hw2]
 refine aA _ _ _ _ _ _ _ rfl ?_ ?_
 ·intro h
  simp at h
  have hc0 : x.toNat < 128 := by omega
  have e32 : IntKind.i32.wrap (x.toNat : Int) = x.toNat := gA (by omega) (by omega)
  simp [e32, cI, hx, hc0]
 ·intro h
  simp at h
  have hc0 : ¬ x.toNat < 128 := by omega
  simp
  refine aA _ _ _ _ _ _ _ rfl ?_ ?_
  ·intro h2
   simp at h2
   have h2a : 194 ≤ x.toNat := by omega
   have h2b : x.toNat < 224 := by omega
   have ev : IntKind.i64.wrap ((x.toNat : Int) - 192) = ((x.toNat - 192 : Nat) : Int) := by rw [aD (by omega) (by omega)]; omega
   simp [ev]
   refine aA _ _ _ _ _ _ _ rfl (fun h3 => by simp at h3; omega) (fun _ => ?_)
   simp
   refine aA _ _ _ _ _ _ _ rfl (fun h3 => by simp at h3; omega) (fun _ => ?_)
   simp
   refine aA _ _ _ _ _ _ _ rfl ?_ ?_
   ·intro hp
    simp at hp
    have hp' : b.length < p + 2 := by
     rw [ew2] at hp
     omega
    simp [cI, hx, hc0, h2a, h2b, hp']
   ·intro hp
    simp at hp
    have hp' : ¬ (b.length < p + 2) := by
     rw [ew2] at hp
     omega
    have hpn : p + 2 ≤ b.length := by
     rw [ew2] at hp
     omega
    simp
    refine (wM b p 2 hb hpn (by omega) (.int .i64 128) 1 1 (x.toNat - 192) _ _ (by omega) (by omega) (by simp; omega) (by simp) (by simp) (by simp) (by simp) (by simp) (by simp)).mono ?_
    rintro e env s' ⟨rfl, hq⟩
    cases hcv : jA b p 2 1 1 (x.toNat - 192) with
    | none =>
     rw [hcv] at hq
     obtain ⟨rfl, q4, q5⟩ := hq
     simp [q4, q5, cI, hx, hc0, h2a, h2b, hp', hcv]
    | some w =>
     rw [hcv] at hq
     obtain ⟨rfl, q8, q7, q9⟩ := hq
     simp [q8, q7, q9]
     refine aA _ _ _ _ _ _ _ rfl ?_ ?_
     ·intro hw
      simp at hw
      have hw' : w < 128 ∨ 1114111 < w ∨ (55296 ≤ w ∧ w < 57344) := by omega
      simp [cI, hx, hc0, h2a, h2b, hp', hcv, hw']
     ·intro hw
      simp at hw
      have hw' : ¬ (w < 128 ∨ 1114111 < w ∨ (55296 ≤ w ∧ w < 57344)) := by omega
      have e32 : IntKind.i32.wrap (w : Int) = w := gA (by omega) (by omega)
      simp [q7, q8, e32, cI, hx, hc0, h2a, h2b, hp', hcv, hw']
  ·intro h2
   simp at h2
   have n2 : ¬ (194 ≤ x.toNat ∧ x.toNat < 224) := by omega
   simp
   refine aA _ _ _ _ _ _ _ rfl ?_ ?_
   ·intro h3
    simp at h3
    have h3a : 224 ≤ x.toNat := by omega
    have h3b : x.toNat < 240 := by omega
    have ev : IntKind.i64.wrap ((x.toNat : Int) - 224) = ((x.toNat - 224 : Nat) : Int) := by rw [aD (by omega) (by omega)]; omega
    simp [ev]
    refine aA _ _ _ _ _ _ _ rfl (fun h3 => by simp at h3; omega) (fun _ => ?_)
    simp
    refine aA _ _ _ _ _ _ _ rfl ?_ ?_
    ·intro hp
     simp at hp
     have hp' : b.length < p + 3 := by
      rw [ew3] at hp
      omega
     simp [cI, hx, hc0, n2, h3a, h3b, hp']
    ·intro hp
     simp at hp
     have hp' : ¬ (b.length < p + 3) := by
      rw [ew3] at hp
      omega
     have hpn : p + 3 ≤ b.length := by
      rw [ew3] at hp
      omega
     simp
     refine (wM b p 3 hb hpn (by omega) (.int .i64 2048) 2 1 (x.toNat - 224) _ _ (by omega) (by omega) (by simp; omega) (by simp) (by simp) (by simp) (by simp) (by simp) (by simp)).mono ?_
     rintro e env s' ⟨rfl, hq⟩
     cases hcv : jA b p 3 2 1 (x.toNat - 224) with
     | none =>
      rw [hcv] at hq
      obtain ⟨rfl, q4, q5⟩ := hq
      simp [q4, q5, cI, hx, hc0, n2, h3a, h3b, hp', hcv]
     | some w =>
      rw [hcv] at hq
      obtain ⟨rfl, q8, q7, q9⟩ := hq
      simp [q8, q7, q9]
      refine aA _ _ _ _ _ _ _ rfl ?_ ?_
      ·intro hw
       simp at hw
       have hw' : w < 2048 ∨ 1114111 < w ∨ (55296 ≤ w ∧ w < 57344) := by omega
       simp [cI, hx, hc0, n2, h3a, h3b, hp', hcv, hw']
      ·intro hw
       simp at hw
       have hw' : ¬ (w < 2048 ∨ 1114111 < w ∨ (55296 ≤ w ∧ w < 57344)) := by omega
       have e32 : IntKind.i32.wrap (w : Int) = w := gA (by omega) (by omega)
       simp [q7, q8, e32, cI, hx, hc0, n2, h3a, h3b, hp', hcv, hw']
   ·intro h3
    simp at h3
    have n3 : ¬ (224 ≤ x.toNat ∧ x.toNat < 240) := by omega
    simp
    refine aA _ _ _ _ _ _ _ rfl ?_ ?_
    ·intro h4
     simp at h4
     have h4a : 240 ≤ x.toNat := by omega
     have h4b : x.toNat < 245 := by omega
     have ev : IntKind.i64.wrap ((x.toNat : Int) - 240) = ((x.toNat - 240 : Nat) : Int) := by rw [aD (by omega) (by omega)]; omega
     simp [ev]
     refine aA _ _ _ _ _ _ _ rfl ?_ ?_
     ·intro hp
      simp at hp
      have hp' : b.length < p + 4 := by
       rw [ew4] at hp
       omega
      simp [cI, hx, hc0, n2, n3, h4a, h4b, hp']
     ·intro hp
      simp at hp
      have hp' : ¬ (b.length < p + 4) := by
       rw [ew4] at hp
       omega
      have hpn : p + 4 ≤ b.length := by
       rw [ew4] at hp
       omega
      simp
      refine (wM b p 4 hb hpn (by omega) (.int .i64 65536) 3 1 (x.toNat - 240) _ _ (by omega) (by omega) (by simp; omega) (by simp) (by simp) (by simp) (by simp) (by simp) (by simp)).mono ?_
      rintro e env s' ⟨rfl, hq⟩
      cases hcv : jA b p 4 3 1 (x.toNat - 240) with
      | none =>
       rw [hcv] at hq
       obtain ⟨rfl, q4, q5⟩ := hq
       simp [q4, q5, cI, hx, hc0, n2, n3, h4a, h4b, hp', hcv]
      | some w =>
       rw [hcv] at hq
       obtain ⟨rfl, q8, q7, q9⟩ := hq
       simp [q8, q7, q9]
       refine aA _ _ _ _ _ _ _ rfl ?_ ?_
       ·intro hw
        simp at hw
        have hw' : w < 65536 ∨ 1114111 < w ∨ (55296 ≤ w ∧ w < 57344) := by omega
        simp [cI, hx, hc0, n2, n3, h4a, h4b, hp', hcv, hw']
       ·intro hw
        simp at hw
        have hw' : ¬ (w < 65536 ∨ 1114111 < w ∨ (55296 ≤ w ∧ w < 57344)) := by omega
        have e32 : IntKind.i32.wrap (w : Int) = w := gA (by omega) (by omega)
        simp [q7, q8, e32, cI, hx, hc0, n2, n3, h4a, h4b, hp', hcv, hw']
    ·intro h4
     simp at h4
     have n4 : ¬ (240 ≤ x.toNat ∧ x.toNat < 245) := by omega
     simp
     refine aA _ _ _ _ _ _ _ rfl (fun _ => ?_) (fun h5 => by simp at h5)
     simp [cI, hx, hc0, n2, n3, n4]
theorem HX (b : List UInt8) (p : Nat) (hp : p < b.length) : (cI b p).1 ≤ 4 ∧ p + (cI b p).1 ≤ b.length ∧ (cI b p).2 ≤ 1114111 := by
 unfold cI
 have hd := eZ (b.getD p 0)
 generalize b.getD p 0 = x at *
 have go : ∀ n v least, n ≤ 4 → (if b.length < p + n then (0, 0) else match jA b p n (n - 1) 1 v with
  | none => (0, 0)
  | some w => if w < least ∨ 1114111 < w ∨ (55296 ≤ w ∧ w < 57344) then (0, 0) else (n, w) : Nat × Nat).1 ≤ 4 ∧
  p + (if b.length < p + n then (0, 0) else match jA b p n (n - 1) 1 v with
  | none => (0, 0)
  | some w => if w < least ∨ 1114111 < w ∨ (55296 ≤ w ∧ w < 57344) then (0, 0) else (n, w) : Nat × Nat).1 ≤ b.length ∧ (if b.length < p + n then (0, 0) else match jA b p n (n - 1) 1 v with
  | none => (0, 0)
  | some w => if w < least ∨ 1114111 < w ∨ (55296 ≤ w ∧ w < 57344) then (0, 0) else (n, w) : Nat × Nat).2 ≤ 1114111 := by
  intro n v least hn
  split
  ·simp; omega
  ·split
   ·simp; omega
   ·split
    ·simp; omega
    ·simp; omega
 simp only
 split
 ·simp; omega
 ·split
  ·exact go 2 _ _ (by omega)
  ·split
   ·exact go 3 _ _ (by omega)
   ·split
    ·exact go 4 _ _ (by omega)
    ·simp; omega
def mH (b : List UInt8) : Nat → Nat → Int
 | 0, _ => -1
 | f + 1, p => if p < b.length then if (cI b p).1 = 0 then p else mH b f (p + (cI b p).1) else -1
theorem CZ (b : List UInt8) (pos id : Nat) (s : St) (h : s.obs[id]? = some (.iter b pos)) (hp : pos < b.length) :
  uY (.itr id) s = some (.tup [.bool true, .int .i64 pos, .int .i32 (Utf8.decode ⟨b.toArray⟩ pos).1], { s with obs := s.obs.set id (.iter b (pos + (Utf8.decode ⟨b.toArray⟩ pos).2)) }) := by
 simp only [uY, h, if_pos hp]
theorem Ez (b : List UInt8) (pos id : Nat) (s : St) (h : s.obs[id]? = some (.iter b pos)) (hp : ¬ pos < b.length) :
  uY (.itr id) s = some (.tup [.bool false], s) := by
 simp only [uY, h, if_neg hp]
theorem Bf (b : List UInt8) (s : St) : call G 240 [.str b] s = some (.tup [.int .i32 (Lib.decodeGo ⟨b.toArray⟩).1, .int .i64 (Lib.decodeGo ⟨b.toArray⟩).2], s) := by
 rw [tV]
 rfl
def bS (b : List UInt8) (p : Nat) : Nat × Nat := Utf8.decode ⟨b.toArray⟩ p
theorem lH (b : List UInt8) (p : Nat) (hp : p < b.length) : 1 ≤ (bS b p).2 ∧ p + (bS b p).2 ≤ b.length ∧ (bS b p).1 ≤ 1114111 := by
 unfold bS
 rw [Lib.decode_at]
 have hs : (⟨b.toArray⟩ : ByteArray).size = b.length := rfl
 rw [hs]
 generalize ((⟨b.toArray⟩ : ByteArray).get! p).toNat = b0
 generalize ((⟨b.toArray⟩ : ByteArray).get! (p + 1)).toNat = b1
 generalize ((⟨b.toArray⟩ : ByteArray).get! (p + 2)).toNat = b2
 generalize ((⟨b.toArray⟩ : ByteArray).get! (p + 3)).toNat = b3
 unfold Lib.decodeN
 repeat' split
 all_goals (simp only; omega)
def dV (b : List UInt8) : Nat → Nat → Int
 | 0, _ => -1
 | f + 1, p =>
  if p < b.length then
   if (bS b p).1 ≠ 65533 then dV b f (p + (bS b p).2)
   else if (Lib.decodeGo ⟨(b.drop p).toArray⟩).2 = 1 then p
   else dV b f (p + (bS b p).2)
  else -1
theorem Ch (b : List UInt8) (hb : b.length ≤ 9223372036854775807) (id : Nat) : ∀ (f p : Nat) (env : Env) (s : St), p ≤ b.length → b.length < p + f → env 0 = .str b → env 8 = .itr id → s.obs[id]? = some (.iter b p) →
  Out (evC G (.loop false af172l0) env s) (fun e env' s' => (s'.bufs = s.bufs ∧ ∃ o, s'.obs = s.obs.set id o) ∧
   ((dV b f p = -1 ∧ e = .exit 0) ∨ (dV b f p ≠ -1 ∧ e = .ret ∧ env' 2 = .int .i64 (dV b f p)))) := by
 intro f
 induction f with
 | zero => intro p env s h1 h2; omega
 | succ f ih =>
  intro p env s hp hf h0 h8 hs
  refine aH G false _ _ af172l0.eq_1 _ _ _ ?_
  by_cases hlt : p < b.length
  ·have hd := lH b p hlt
   have hid : id < s.obs.length := bB hs
   simp [h0, h8, CZ b p id s hs hlt]
   refine aA _ _ _ _ _ _ _ rfl (fun _ => ?_) (fun h => by cases h)
   simp
   have hnext : ∀ (env' : Env), env' 0 = .str b → env' 8 = .itr id →
     Out (evC G (.loop false af172l0) env' { obs := s.obs.set id (.iter b (p + (bS b p).2)), bufs := s.bufs }) (fun e env' s' => (s'.bufs = s.bufs ∧ ∃ o, s'.obs = s.obs.set id o) ∧
      ((dV b f (p + (bS b p).2) = -1 ∧ e = .exit 0) ∨ (dV b f (p + (bS b p).2) ≠ -1 ∧ e = .ret ∧ env' 2 = .int .i64 (dV b f (p + (bS b p).2))))) := by
    intro env' g0 g8
    refine (ih (p + (bS b p).2) env' _ (by omega) (by omega) g0 g8 (by simp [hid])).mono ?_
    rintro e env'' s' ⟨⟨g1, o, g2⟩, g3⟩
    refine ⟨⟨g1, o, ?_⟩, g3⟩
    rw [g2]
    simp
   refine aA _ _ _ _ _ _ _ rfl ?_ ?_
   ·intro h
    have hne : (bS b p).1 ≠ 65533 := by
     intro e
     unfold bS at e
     simp [e] at h
    simp
    simp only [dV, if_pos hlt, if_pos hne]
    exact hnext _ (by simp [h0]) (by simp [h8])
   ·intro h
    have heq : (bS b p).1 = 65533 := by
     simp at h
     unfold bS
     omega
    simp [h0, bD, bnd, Bf, hp]
    refine aA _ _ _ _ _ _ _ rfl ?_ ?_
    ·intro h1
     simp at h1
     have h1' : (Lib.decodeGo ⟨(b.drop p).toArray⟩).2 = 1 := by omega
     have hv : dV b (f + 1) p = p := by simp [dV, hlt, heq, h1']
     simp [hv]
     exact ⟨_, rfl⟩
    ·intro h1
     simp at h1
     have h1' : ¬ (Lib.decodeGo ⟨(b.drop p).toArray⟩).2 = 1 := by omega
     have hv : dV b (f + 1) p = dV b f (p + (bS b p).2) := by simp [dV, hlt, heq, h1']
     simp
     rw [hv]
     exact hnext _ (by simp [h0]) (by simp [h8])
  ·simp [h0, h8, Ez b p id s hs hlt]
   refine aA _ _ _ _ _ _ _ rfl (fun h => by cases h) (fun _ => ?_)
   simp [dV, hlt]
   exact ⟨.iter b p, by
    apply List.ext_getElem?
    intro j
    by_cases hj : id = j
    ·subst hj; rw [List.getElem?_set_self (bB hs), hs]
    ·rw [List.getElem?_set_ne hj]⟩
theorem AE (b : List UInt8) (hb : b.length ≤ 9223372036854775807) (s : St) : call G 172 [.str b] s = some (.int .i64 (dV b (b.length + 1) 0), s) := by
 refine aC (F := af172) rfl rfl ?_
 simp [af172, af172b]
 refine (Ch b hb s.obs.length (b.length + 1) 0 _ _ (by omega) (by omega) (by simp) (by simp) (by simp)).mono ?_
 rintro e env s' ⟨⟨hbf, o, hob⟩, ⟨h1, rfl⟩ | ⟨h1, rfl, h2⟩⟩
 ·simp [h1, hbf, hob, List.set_append]
 ·simp [h2, hbf, hob, List.set_append]
theorem xZ (b : List UInt8) (p : Nat) : (⟨b.toArray⟩ : ByteArray).get! p = b.getD p 0 := by
 have := Lib.getD_get!' ⟨b.toArray⟩ p
 simpa using this.symm
theorem kT (b : List UInt8) (p : Nat) (hp : p < b.length) : cI b p = if bS b p = (65533, 1) then (0, 0) else ((bS b p).2, (bS b p).1) := by
 unfold bS cI
 rw [Lib.decode_at]
 have hs : (⟨b.toArray⟩ : ByteArray).size = b.length := rfl
 rw [hs]
 simp only [xZ, jA]
 have e1 := eZ (b.getD p 0)
 have e2 := eZ (b.getD (p + 1) 0)
 have e3 := eZ (b.getD (p + 2) 0)
 have e4 := eZ (b.getD (p + 3) 0)
 generalize (b.getD p 0).toNat = b0 at *
 generalize (b.getD (p + 1) 0).toNat = b1 at *
 generalize (b.getD (p + 1 + 1) 0).toNat = b2 at *
 generalize (b.getD (p + 3) 0).toNat = b3 at *
 generalize b.length = n at *
 have n1 : (1 < n - p) = ¬ (n < p + 2) := propext ⟨fun h => by omega, fun h => by omega⟩
 have n2 : (2 < n - p) = ¬ (n < p + 3) := propext ⟨fun h => by omega, fun h => by omega⟩
 have n3 : (3 < n - p) = ¬ (n < p + 4) := propext ⟨fun h => by omega, fun h => by omega⟩
 have d1 : (b1 / 64 = 2) = ¬ (b1 < 128 ∨ 192 ≤ b1) := propext ⟨fun h => by omega, fun h => by omega⟩
 have d2 : (b2 / 64 = 2) = ¬ (b2 < 128 ∨ 192 ≤ b2) := propext ⟨fun h => by omega, fun h => by omega⟩
 have d3 : (b3 / 64 = 2) = ¬ (b3 < 128 ∨ 192 ≤ b3) := propext ⟨fun h => by omega, fun h => by omega⟩
 by_cases c0 : b0 < 128
 ·simp only [if_pos c0, Lib.decodeN]
  simp
  omega
 ·simp only [if_neg c0, Lib.decodeN, n1, n2, n3, d1, d2, d3]
  by_cases k2 : 194 ≤ b0 ∧ b0 < 224
  ·have q1 : b0 / 32 = 6 := by omega
   have q2 : ¬ b0 / 16 = 14 := by omega
   have q3 : ¬ b0 / 8 = 30 := by omega
   simp only [if_pos k2, q1, q2, q3, true_and, false_and, if_false]
   by_cases m2 : n < p + 2
   ·simp [m2]
   ·by_cases c1 : b1 < 128 ∨ 192 ≤ b1
    ·simp [m2, c1]
    ·have hv : b0 % 32 * 64 + b1 % 64 = (b0 - 192) * 64 + b1 - 128 := by omega
     have h1 : 128 ≤ (b0 - 192) * 64 + b1 - 128 := by omega
     have h2 : ¬ ((b0 - 192) * 64 + b1 - 128 < 128 ∨ 1114111 < (b0 - 192) * 64 + b1 - 128 ∨ 55296 ≤ (b0 - 192) * 64 + b1 - 128 ∧ (b0 - 192) * 64 + b1 - 128 < 57344) := by omega
     simp only [if_neg m2, if_neg c1, hv, ge_iff_le, if_pos h1, if_neg h2, m2, c1, not_false_eq_true, and_self, if_true, if_false]
     simp
     try omega
  ·simp only [if_neg k2]
   by_cases k3 : 224 ≤ b0 ∧ b0 < 240
   ·have q1 : ¬ b0 / 32 = 6 := by omega
    have q2 : b0 / 16 = 14 := by omega
    have q3 : ¬ b0 / 8 = 30 := by omega
    simp only [if_pos k3, q1, q2, q3, true_and, false_and, if_false]
    by_cases m2 : n < p + 3
    ·simp [m2]
    ·have m1 : ¬ n < p + 2 := by omega
     by_cases c1 : b1 < 128 ∨ 192 ≤ b1
     ·simp [m2, c1]
     ·by_cases c2 : b2 < 128 ∨ 192 ≤ b2
      ·simp [m2, c1, c2]
      ·have hv : b0 % 16 * 4096 + b1 % 64 * 64 + b2 % 64 = ((b0 - 224) * 64 + b1 - 128) * 64 + b2 - 128 := by omega
       simp only [if_neg m2, if_neg c1, if_neg c2, hv, m1, m2, c1, c2, not_false_eq_true, and_self, if_true, if_false]
       generalize ((b0 - 224) * 64 + b1 - 128) * 64 + b2 - 128 = w at *
       by_cases hw : w < 2048 ∨ 1114111 < w ∨ 55296 ≤ w ∧ w < 57344
       ·have hc : ¬ (w ≥ 2048 ∧ (w < 55296 ∨ 57344 ≤ w ∧ w ≤ 1114111)) := by omega
        simp only [if_pos hw, if_neg hc, if_true]
       ·have hc : w ≥ 2048 ∧ (w < 55296 ∨ 57344 ≤ w ∧ w ≤ 1114111) := by omega
        have hx : ¬ ((w, 3) : Nat × Nat) = (65533, 1) := by simp
        simp only [if_neg hw, if_pos hc, if_neg hx]
   ·simp only [if_neg k3]
    by_cases k4 : 240 ≤ b0 ∧ b0 < 245
    ·have q1 : ¬ b0 / 32 = 6 := by omega
     have q2 : ¬ b0 / 16 = 14 := by omega
     have q3 : b0 / 8 = 30 := by omega
     simp only [if_pos k4, q1, q2, q3, true_and, false_and, if_false]
     by_cases m2 : n < p + 4
     ·simp [m2]
     ·have m1 : ¬ n < p + 2 := by omega
      have m3 : ¬ n < p + 3 := by omega
      by_cases c1 : b1 < 128 ∨ 192 ≤ b1
      ·simp [m2, c1]
      ·by_cases c2 : b2 < 128 ∨ 192 ≤ b2
       ·simp [m2, c1, c2]
       ·by_cases c3 : b3 < 128 ∨ 192 ≤ b3
        ·simp [m2, c1, c2, c3]
        ·have hv : b0 % 8 * 262144 + b1 % 64 * 4096 + b2 % 64 * 64 + b3 % 64 = (((b0 - 240) * 64 + b1 - 128) * 64 + b2 - 128) * 64 + b3 - 128 := by omega
         simp only [if_neg m2, if_neg c1, if_neg c2, if_neg c3, hv, m1, m2, m3, c1, c2, c3, not_false_eq_true, and_self, if_true, if_false]
         generalize (((b0 - 240) * 64 + b1 - 128) * 64 + b2 - 128) * 64 + b3 - 128 = w at *
         by_cases hw : w < 65536 ∨ 1114111 < w ∨ 55296 ≤ w ∧ w < 57344
         ·have hc : ¬ (w ≥ 65536 ∧ (w < 55296 ∨ 57344 ≤ w ∧ w ≤ 1114111)) := by omega
          simp only [if_pos hw, if_neg hc, if_true]
         ·have hc : w ≥ 65536 ∧ (w < 55296 ∨ 57344 ≤ w ∧ w ≤ 1114111) := by omega
          have hx : ¬ ((w, 4) : Nat × Nat) = (65533, 1) := by simp
          simp only [if_neg hw, if_pos hc, if_neg hx]
    ·simp only [if_neg k4]
     have q2 : ¬ b0 / 16 = 14 := by omega
     simp only [q2, false_and, if_false]
     have r1 : b0 / 32 = 6 → ¬ (b0 % 32 * 64 + b1 % 64 ≥ 128) := by omega
     have r2 : b0 / 8 = 30 → ¬ (b0 % 8 * 262144 + b1 % 64 * 4096 + b2 % 64 * 64 + b3 % 64 ≥ 65536 ∧
      (b0 % 8 * 262144 + b1 % 64 * 4096 + b2 % 64 * 64 + b3 % 64 < 55296 ∨ 57344 ≤ b0 % 8 * 262144 + b1 % 64 * 4096 + b2 % 64 * 64 + b3 % 64 ∧ b0 % 8 * 262144 + b1 % 64 * 4096 + b2 % 64 * 64 + b3 % 64 ≤ 1114111)) := by omega
     by_cases q1 : b0 / 32 = 6
     ·have q3 : ¬ b0 / 8 = 30 := by omega
      simp only [q1, q3, if_neg (r1 q1), true_and, false_and, if_false, ite_self, if_true]
     ·by_cases q3 : b0 / 8 = 30
      ·simp only [q1, q3, if_neg (r2 q3), true_and, false_and, if_false, ite_self, if_true]
      ·simp only [q1, q3, true_and, false_and, if_false, ite_self, if_true]
theorem nG (b : List UInt8) (p : Nat) (hp : p < b.length) : Lib.decodeGo ⟨(b.drop p).toArray⟩ = bS b p := by
 have hs : (⟨(b.drop p).toArray⟩ : ByteArray).size = b.length - p := by
  show (b.drop p).toArray.size = _
  simp
 have hs2 : (⟨b.toArray⟩ : ByteArray).size = b.length := rfl
 unfold Lib.decodeGo bS
 rw [if_neg (by omega), Lib.decode_at, Lib.decode_at, hs, hs2]
 simp only [xZ, Nat.sub_zero]
 have hd : ∀ i, (b.drop p).getD i 0 = b.getD (p + i) 0 := fun i => by simp [List.getD, List.getElem?_drop]
 simp only [hd, Nat.add_zero, Nat.zero_add]
theorem pH (b : List UInt8) : ∀ f p, dV b f p = mH b f p
 | 0, _ => rfl
 | f + 1, p => by
  unfold dV mH
  split
  ·rename_i hp
   have hd := lH b p hp
   rw [nG b p hp, kT b p hp]
   by_cases h1 : (bS b p).1 = 65533
   ·by_cases h2 : (bS b p).2 = 1
    ·have e : bS b p = (65533, 1) := Prod.ext h1 h2
     simp [e]
    ·have e : ¬ bS b p = (65533, 1) := fun q => h2 (by rw [q])
     have h3 : ¬ (bS b p).2 = 0 := by omega
     simp [h1, h2, e, h3, pH b f]
   ·have e : ¬ bS b p = (65533, 1) := fun q => h1 (by rw [q])
    have h3 : ¬ (bS b p).2 = 0 := by omega
    simp [h1, e, h3, pH b f]
  ·rfl
end Go.Proofs.YtboejpobmpfifaaGreatDoor.Eng
namespace Go.Proofs.YtboejpobmpfifaaGreatDoor.Eng
open Go
attribute [local simp] eT eN dR eV cY cW eU dQ dP eF eS dL cC dU cZ cN dM cA bX cV bW
attribute [local simp] hZ aZ put dB X.ev cF cO cP cS bU dO cR bV dN cQ eK iE fH iX dY dX fS fR eR gH kV bM fL gT fE gB fin V.plain aW V.und bY scK kill aF bQ aG dT dS cT mB bR fU V.real bH bK cU
def Gz (o i : Nat) (bs : List UInt8) : Qw := .cells 128 [.ptr o 0, .sl (.buf i) (aU bs)]
def bst (obs tl : List Qw) (bufs : List (Nat × Nat × TypeId)) (bs : List UInt8) : St := ⟨obs ++ Gz obs.length bufs.length bs :: tl, bufs ++ [(bs.length, 1, 5)]⟩
def AX (obs tl : List Qw) (bufs : List (Nat × Nat × TypeId)) : St := ⟨obs ++ .cells 128 [.pnil, .sl .nil []] :: tl, bufs⟩
def Kq (obs tl : List Qw) (bufs : List (Nat × Nat × TypeId)) : St := ⟨obs ++ .cells 128 [.ptr obs.length 0, .sl .nil []] :: tl, bufs⟩
theorem bJ (b : List UInt8) : (aU b).length = b.length := by simp [aU]
theorem jV (a b : List UInt8) : aU (a ++ b) = aU a ++ aU b := by simp [aU]
theorem fI (b : List UInt8) : fits 1 (aU b) = true := by cases b <;> simp [aU, fits]
theorem oM : fits 1 [] = true := rfl
theorem Ja (v : V) (s : St) : call G 227 [v] s = some (v, s) := by rw [tV]; rfl
theorem GJ (obs tl : List Qw) (bufs : List (Nat × Nat × TypeId)) (bs : List UInt8) : call G 147 [.ptr obs.length 0] (bst obs tl bufs bs) = some (.tup [], bst obs tl bufs bs) := by
 refine aC (F := af147) rfl rfl ?_
 simp [af147, af147b, bst, Gz, xR]
 refine aA _ _ _ _ _ _ _ rfl (fun h => by cases h) (fun _ => ?_)
 simp [xR]
 refine aA _ _ _ _ _ _ _ rfl (fun h => by cases h) (fun _ => ?_)
 simp
theorem EY (obs tl : List Qw) (bufs : List (Nat × Nat × TypeId)) : call G 147 [.ptr obs.length 0] (AX obs tl bufs) = some (.tup [], Kq obs tl bufs) := by
 refine aC (F := af147) rfl rfl ?_
 simp [af147, af147b, AX, Kq, xR]
 refine aA _ _ _ _ _ _ _ rfl (fun _ => ?_) (fun h => by cases h)
 simp [Ja, aB, V.one, aK]
theorem uT : ∀ b : List UInt8, fY (aU b) = some b
 | [] => rfl
 | x :: b => by
  have h := uT b
  have hx := eZ x
  simp only [aU, List.map_cons] at h ⊢
  unfold fY
  rw [if_pos (by omega), h]
  simp
theorem Bi (s : St) (r : V) (h : r.plain.und s.obs.length 0 = true) : fin false s s r = (r.plain, s) := by
 unfold fin
 rw [if_neg (by simp), if_pos ⟨List.take_length, h⟩, List.take_length]
theorem DK (obs tl : List Qw) (bufs : List (Nat × Nat × TypeId)) (bs : List UInt8) (hb : bs ≠ []) (hr : bs.length ≤ 140737488355328) : call G 75 [.ptr obs.length 0] (bst obs tl bufs bs) = some (.str bs, bst obs tl bufs bs) := by
 have hroom : iJ = 140737488355328 := by decide
 refine aC (F := af75) rfl rfl ?_
 simp [-fin, bG, af75, af75b, bst, Gz, hroom, hr, bJ, hb, uT]
 exact Bi _ _ rfl
theorem jS {n : Int} (h0 : 0 ≤ n) : IntKind.u8.wrap n = n % 256 := by
 have e : (2 : Int) ^ IntKind.u8.bits = 256 := by decide
 have e'' : IntKind.u8.signed = false := by decide
 unfold IntKind.wrap
 simp only [e, e'', Bool.false_and, Bool.false_eq_true, if_false]
theorem uH {n : Int} (h0 : 0 ≤ n) (h1 : n < 4294967296) : IntKind.u32.wrap n = n := by
 have e : (2 : Int) ^ IntKind.u32.bits = 4294967296 := by decide
 have e'' : IntKind.u32.signed = false := by decide
 unfold IntKind.wrap
 simp only [e, e'', Bool.false_and, Bool.false_eq_true, if_false]
 omega
theorem KE : ∀ x : Fin 32, IntKind.u8.wrap ((BitVec.ofInt IntKind.u8.bits 192 ||| BitVec.ofInt IntKind.u8.bits (x.val : Int)).toNat : Int) = 192 + x.val := by decide
theorem KF : ∀ x : Fin 16, IntKind.u8.wrap ((BitVec.ofInt IntKind.u8.bits 224 ||| BitVec.ofInt IntKind.u8.bits (x.val : Int)).toNat : Int) = 224 + x.val := by decide
theorem KG : ∀ x : Fin 8, IntKind.u8.wrap ((BitVec.ofInt IntKind.u8.bits 240 ||| BitVec.ofInt IntKind.u8.bits (x.val : Int)).toNat : Int) = 240 + x.val := by decide
set_option maxRecDepth 10000 in
theorem KD : ∀ x : Fin 64, IntKind.u8.wrap ((BitVec.ofInt IntKind.u8.bits 128 ||| BitVec.ofInt IntKind.u8.bits (x.val : Int)).toNat : Int) = 128 + x.val := by decide
set_option maxRecDepth 100000 in
theorem Kk : ∀ x : Fin 256, IntKind.u8.wrap ((BitVec.ofInt IntKind.u8.bits (x.val : Int) &&& BitVec.ofInt IntKind.u8.bits 63).toNat : Int) = ((x.val % 64 : Nat) : Int) := by decide
def orB (a b : Int) : Int := IntKind.u8.wrap (BitVec.ofInt IntKind.u8.bits a ||| BitVec.ofInt IntKind.u8.bits b).toNat
def AP (a b : Int) : Int := IntKind.u8.wrap (BitVec.ofInt IntKind.u8.bits a &&& BitVec.ofInt IntKind.u8.bits b).toNat
theorem tL (a b : Int) : bM .or .u8 a b = some (.int .u8 (orB a b)) := rfl
theorem oO (a b : Int) : bM .and .u8 a b = some (.int .u8 (AP a b)) := rfl
theorem oP (k : IntKind) (a b : Int) : bM .leq k a b = some (.bool (decide (a ≤ b))) := rfl
theorem Ai (k : IntKind) (a b : Int) : bM .lss k a b = some (.bool (decide (a < b))) := rfl
theorem Hf (k : IntKind) (a b : Int) : bM .gtr k a b = some (.bool (decide (b < a))) := rfl
theorem Ka {x : Int} (h0 : 0 ≤ x) (h : x < 32) : orB 192 x = 192 + x := by
 have := KE ⟨x.toNat, by omega⟩
 simp only at this
 rw [show ((x.toNat : Nat) : Int) = x by omega] at this
 exact this
theorem EB {x : Int} (h0 : 0 ≤ x) (h : x < 16) : orB 224 x = 224 + x := by
 have := KF ⟨x.toNat, by omega⟩
 simp only at this
 rw [show ((x.toNat : Nat) : Int) = x by omega] at this
 exact this
theorem Kb {x : Int} (h0 : 0 ≤ x) (h : x < 8) : orB 240 x = 240 + x := by
 have := KG ⟨x.toNat, by omega⟩
 simp only at this
 rw [show ((x.toNat : Nat) : Int) = x by omega] at this
 exact this
theorem yL {x : Int} (h0 : 0 ≤ x) (h : x < 64) : orB 128 x = 128 + x := by
 have := KD ⟨x.toNat, by omega⟩
 simp only at this
 rw [show ((x.toNat : Nat) : Int) = x by omega] at this
 exact this
theorem xK {x : Int} (h0 : 0 ≤ x) (h : x < 256) : AP x 63 = x % 64 := by
 have := Kk ⟨x.toNat, by omega⟩
 simp only at this
 rw [show ((x.toNat : Nat) : Int) = x by omega] at this
 have e : ((x.toNat % 64 : Nat) : Int) = x % 64 := by omega
 rw [e] at this
 exact this
def bP (c : Nat) : List UInt8 :=
 if c < 128 then [UInt8.ofNat c]
 else if c < 2048 then [UInt8.ofNat (192 + c / 64), UInt8.ofNat (128 + c % 64)]
 else if c < 65536 then [UInt8.ofNat (224 + c / 4096), UInt8.ofNat (128 + c / 64 % 64), UInt8.ofNat (128 + c % 64)]
 else [UInt8.ofNat (240 + c / 262144), UInt8.ofNat (128 + c / 4096 % 64), UInt8.ofNat (128 + c / 64 % 64), UInt8.ofNat (128 + c % 64)]
theorem hM (k : IntKind) (n : Int) (r : List V) : fits 1 (.int k n :: r) = true := rfl
theorem bL {n : Nat} (h : n < 256) : ((UInt8.ofNat n).toNat : Int) = n := by
 rw [UInt8.toNat_ofNat']; omega
theorem Cy (obs : List Qw) (bufs : List (Nat × Nat × TypeId)) (bs : List UInt8) (c : Nat) (h0 : 128 ≤ c) (h1 : c ≤ 1114111) (h2 : c < 55296 ∨ 57344 ≤ c) (hr : bs.length + 4 ≤ 140737488355328) :
  call G 339 [.sl (.buf bufs.length) (aU bs), .int .i32 c] ⟨obs, bufs ++ [(bs.length, 1, 5)]⟩ =
   some (.sl (.buf bufs.length) (aU (bs ++ bP c)), ⟨obs, bufs ++ [((bs ++ bP c).length, 1, 5)]⟩) := by
 have hroom : iJ = 140737488355328 := by decide
 have w32 : IntKind.u32.wrap (c : Int) = c := uH (by omega) (by omega)
 have s6 : (c : Int).fdiv 64 = (c : Int) / 64 := Int.fdiv_eq_ediv_of_nonneg _ (by omega)
 have s12 : (c : Int).fdiv 4096 = (c : Int) / 4096 := Int.fdiv_eq_ediv_of_nonneg _ (by omega)
 have s18 : (c : Int).fdiv 262144 = (c : Int) / 262144 := Int.fdiv_eq_ediv_of_nonneg _ (by omega)
 have m6 : min 6 IntKind.i32.bits = 6 := by decide
 have m12 : min 12 IntKind.i32.bits = 12 := by decide
 have m18 : min 18 IntKind.i32.bits = 18 := by decide
 have lw0 : IntKind.u8.wrap (c : Int) = (c : Int) % 256 := jS (by omega)
 have lw6 : IntKind.u8.wrap ((c : Int) / 64) = (c : Int) / 64 % 256 := jS (by omega)
 have lw12 : IntKind.u8.wrap ((c : Int) / 4096) = (c : Int) / 4096 % 256 := jS (by omega)
 have lw18 : IntKind.u8.wrap ((c : Int) / 262144) = (c : Int) / 262144 % 256 := jS (by omega)
 have t0 : orB 128 (AP ((c : Int) % 256) 63) = 128 + (c : Int) % 64 := by rw [xK (by omega) (by omega), yL (by omega) (by omega)]; omega
 have t6 : orB 128 (AP ((c : Int) / 64 % 256) 63) = 128 + (c : Int) / 64 % 64 := by rw [xK (by omega) (by omega), yL (by omega) (by omega)]; omega
 have t12 : orB 128 (AP ((c : Int) / 4096 % 256) 63) = 128 + (c : Int) / 4096 % 64 := by rw [xK (by omega) (by omega), yL (by omega) (by omega)]; omega
 refine aC (F := af339) rfl rfl ?_
 simp [-bM, oP, af339, af339b, w32]
 refine aA _ _ _ _ _ _ _ rfl (fun h => ?_) (fun h => ?_)
 ·have hc : c ≤ 2047 := by simp at h; omega
  have o1 : orB 192 ((c : Int) / 64 % 256) = 192 + (c : Int) / 64 := by rw [Ka (by omega) (by omega)]; omega
  have ev : bP c = [UInt8.ofNat (192 + c / 64), UInt8.ofNat (128 + c % 64)] := by simp [bP, show ¬ c < 128 by omega, show c < 2048 by omega]
  have v1 := bL (n := 192 + c / 64) (by omega)
  have v2 := bL (n := 128 + c % 64) (by omega)
  have eb : aU (bs ++ bP c) = aU bs ++ [.int .u8 (192 + (c : Int) / 64), .int .u8 (128 + (c : Int) % 64)] := by
   rw [jV, ev]
   simp only [aU, List.map_cons, List.map_nil, v1, v2]
   simp
  have hr' : bs.length + 2 ≤ 140737488355328 := by omega
  rw [eb, ev]
  simp [-bM, tL, oO, mZ, m6, s6, lw0, lw6, o1, t0, aY, V.one, gU, fX, bJ, fI, hM, hroom, hr']
 ·have hc : ¬ c ≤ 2047 := by simp at h; omega
  have hA : ∀ (env : Env), env 0 = .sl (.buf bufs.length) (aU bs) → env 1 = .int .i32 c → env 5 = .int .u32 c → env 25 = .bool (decide (c ≤ 65535)) → True := fun _ _ _ _ _ => trivial
  simp [-bM, Ai]
  refine aA _ _ _ _ _ _ _ rfl (fun h3 => ?_) (fun h3 => ?_)
  ·have hc3 : c < 55296 := by simp at h3; omega
   simp
   refine aA _ _ _ _ _ _ _ rfl (fun _ => ?_) (fun h4 => by simp at h4; omega)
   have o1 : orB 224 ((c : Int) / 4096 % 256) = 224 + (c : Int) / 4096 := by rw [EB (by omega) (by omega)]; omega
   have ev : bP c = [UInt8.ofNat (224 + c / 4096), UInt8.ofNat (128 + c / 64 % 64), UInt8.ofNat (128 + c % 64)] := by
    simp [bP, show ¬ c < 128 by omega, show ¬ c < 2048 by omega, show c < 65536 by omega]
   have v1 := bL (n := 224 + c / 4096) (by omega)
   have v2 := bL (n := 128 + c / 64 % 64) (by omega)
   have v3 := bL (n := 128 + c % 64) (by omega)
   have eb : aU (bs ++ bP c) = aU bs ++ [.int .u8 (224 + (c : Int) / 4096), .int .u8 (128 + (c : Int) / 64 % 64), .int .u8 (128 + (c : Int) % 64)] := by
    rw [jV, ev]
    simp only [aU, List.map_cons, List.map_nil, v1, v2, v3]
    simp
   have hr' : bs.length + 3 ≤ 140737488355328 := by omega
   rw [eb, ev]
   simp [-bM, tL, oO, mZ, m6, m12, s6, s12, lw0, lw6, lw12, o1, t0, t6, aY, V.one, gU, fX, bJ, fI, hM, hroom, hr']
  ·have hc3 : ¬ c < 55296 := by simp at h3; omega
   simp [-bM, Ai, oP]
   refine aA _ _ _ _ _ _ _ rfl (fun h4 => ?_) (fun h4 => ?_)
   ·have hc4 : c ≤ 65535 := by simp at h4; omega
    have o1 : orB 224 ((c : Int) / 4096 % 256) = 224 + (c : Int) / 4096 := by rw [EB (by omega) (by omega)]; omega
    have ev : bP c = [UInt8.ofNat (224 + c / 4096), UInt8.ofNat (128 + c / 64 % 64), UInt8.ofNat (128 + c % 64)] := by
     simp [bP, show ¬ c < 128 by omega, show ¬ c < 2048 by omega, show c < 65536 by omega]
    have v1 := bL (n := 224 + c / 4096) (by omega)
    have v2 := bL (n := 128 + c / 64 % 64) (by omega)
    have v3 := bL (n := 128 + c % 64) (by omega)
    have eb : aU (bs ++ bP c) = aU bs ++ [.int .u8 (224 + (c : Int) / 4096), .int .u8 (128 + (c : Int) / 64 % 64), .int .u8 (128 + (c : Int) % 64)] := by
     rw [jV, ev]
     simp only [aU, List.map_cons, List.map_nil, v1, v2, v3]
     simp
    have hr' : bs.length + 3 ≤ 140737488355328 := by omega
    rw [eb, ev]
    simp [-bM, tL, oO, mZ, m6, m12, s6, s12, lw0, lw6, lw12, o1, t0, t6, aY, V.one, gU, fX, bJ, fI, hM, hroom, hr']
   ·have hc4 : ¬ c ≤ 65535 := by simp at h4; omega
    simp [-bM, oP, Hf]
    refine aA _ _ _ _ _ _ _ rfl (fun _ => ?_) (fun h5 => by simp at h5; omega)
    have o1 : orB 240 ((c : Int) / 262144 % 256) = 240 + (c : Int) / 262144 := by rw [Kb (by omega) (by omega)]; omega
    have ev : bP c = [UInt8.ofNat (240 + c / 262144), UInt8.ofNat (128 + c / 4096 % 64), UInt8.ofNat (128 + c / 64 % 64), UInt8.ofNat (128 + c % 64)] := by
     simp [bP, show ¬ c < 128 by omega, show ¬ c < 2048 by omega, show ¬ c < 65536 by omega]
    have v1 := bL (n := 240 + c / 262144) (by omega)
    have v2 := bL (n := 128 + c / 4096 % 64) (by omega)
    have v3 := bL (n := 128 + c / 64 % 64) (by omega)
    have v4 := bL (n := 128 + c % 64) (by omega)
    have eb : aU (bs ++ bP c) = aU bs ++ [.int .u8 (240 + (c : Int) / 262144), .int .u8 (128 + (c : Int) / 4096 % 64), .int .u8 (128 + (c : Int) / 64 % 64), .int .u8 (128 + (c : Int) % 64)] := by
     rw [jV, ev]
     simp only [aU, List.map_cons, List.map_nil, v1, v2, v3, v4]
     simp
    rw [eb, ev]
    simp [-bM, tL, oO, mZ, m6, m12, m18, s6, s12, s18, lw0, lw6, lw12, lw18, o1, t0, t6, t12, aY, V.one, gU, fX, bJ, fI, hM, hroom, hr]
def gX (c : Nat) : Prop := c ≤ 1114111 ∧ (c < 55296 ∨ 57344 ≤ c)
theorem Cx (obs : List Qw) (bufs : List (Nat × Nat × TypeId)) (bs : List UInt8) (c : Nat) (hc : gX c) (hr : bs.length + 4 ≤ 140737488355328) :
  call G 313 [.sl (.buf bufs.length) (aU bs), .int .i32 c] ⟨obs, bufs ++ [(bs.length, 1, 5)]⟩ =
   some (.sl (.buf bufs.length) (aU (bs ++ bP c)), ⟨obs, bufs ++ [((bs ++ bP c).length, 1, 5)]⟩) := by
 obtain ⟨h1, h2⟩ := hc
 have w32 : IntKind.u32.wrap (c : Int) = c := uH (by omega) (by omega)
 refine aC (F := af313) rfl rfl ?_
 simp [-bM, oP, af313, af313b, w32]
 refine aA _ _ _ _ _ _ _ rfl (fun h => ?_) (fun h => ?_)
 ·have hc : c < 128 := by simp at h; omega
  have lw0 : IntKind.u8.wrap (c : Int) = c := by rw [jS (by omega)]; omega
  have v1 := bL (n := c) (by omega)
  have ev : bP c = [UInt8.ofNat c] := by simp [bP, hc]
  have eb : aU (bs ++ bP c) = aU bs ++ [.int .u8 c] := by
   rw [jV, ev]
   simp only [aU, List.map_cons, List.map_nil, v1]
  rw [eb, ev]
  have hroom : iJ = 140737488355328 := by decide
  have hr1 : bs.length + 1 ≤ 140737488355328 := by omega
  simp [lw0, aY, V.one, gU, fX, bJ, fI, hM, hroom, hr1]
 ·have hc : 128 ≤ c := by simp at h; omega
  simp [Cy obs bufs bs c hc h1 h2 hr]
theorem mK (c : Nat) : 1 ≤ (bP c).length ∧ (bP c).length ≤ 4 := by
 unfold bP
 repeat' split
 all_goals simp
theorem HK (obs tl : List Qw) (bufs : List (Nat × Nat × TypeId)) (bs : List UInt8) (c : Nat) (hc : gX c) (hr : bs.length + 4 ≤ 140737488355328) :
  call G 279 [.ptr obs.length 0, .int .i32 c] (bst obs tl bufs bs) = some (.tup [.int .i64 (bP c).length, .nilI], bst obs tl bufs (bs ++ bP c)) := by
 have hl := mK c
 have hw : IntKind.i64.wrap ((bs.length : Int) + (bP c).length - bs.length) = (bP c).length := by rw [aD (by omega) (by omega)]; omega
 have h65 := fun o => Cx o bufs bs c hc hr
 refine aC (F := af279) rfl rfl ?_
 simp [af279, af279b, GJ]
 simp [bst, Gz, bJ]
 simp at h65
 simp [h65, aB, V.one, aK, bJ, hw]
theorem IQ (b : List UInt8) (p : Nat) (hp : p < b.length) : gX (bS b p).1 := by
 unfold bS gX
 rw [Lib.decode_at]
 have hx := ((⟨b.toArray⟩ : ByteArray).get! p).toNat_lt
 generalize ((⟨b.toArray⟩ : ByteArray).get! p).toNat = b0 at *
 generalize ((⟨b.toArray⟩ : ByteArray).get! (p + 1)).toNat = b1
 generalize ((⟨b.toArray⟩ : ByteArray).get! (p + 2)).toNat = b2
 generalize ((⟨b.toArray⟩ : ByteArray).get! (p + 3)).toNat = b3
 unfold Lib.decodeN
 repeat' split
 all_goals (simp only; omega)
theorem IV (o tl : List Qw) (bufs : List (Nat × Nat × TypeId)) (bs : List UInt8) (r : V) (h : r.plain.und o.length 0 = true) : fin false ⟨o, bufs⟩ (bst o tl bufs bs) r = (r.plain, ⟨o, bufs⟩) := by
 unfold fin
 rw [if_neg (by simp), if_pos ⟨by simp [bst], h⟩]
 simp [bst]
end Go.Proofs.YtboejpobmpfifaaGreatDoor.Eng
namespace Go.Proofs.YtboejpobmpfifaaGreatDoor.Eng
open Go
theorem pF (b : List UInt8) (p : Nat) : ∀ n, p + n ≤ b.length → (b.drop p).take n = (List.range n).map fun i => b.getD (p + i) 0
 | 0, _ => by simp
 | n + 1, h => by
  rw [List.range_succ, List.map_append, ← pF b p n (by omega), List.take_add_one]
  congr 1
  rw [List.getElem?_drop, List.getElem?_eq_getElem (by omega)]
  simp [List.getD_eq_getElem?_getD, List.getElem?_eq_getElem (show p + n < b.length by omega)]
theorem gO {n : Nat} {x : UInt8} (h : n = x.toNat) : UInt8.ofNat n = x := by subst h; exact UInt8.ofNat_toNat
theorem qT (b : List UInt8) (p : Nat) (hp : p < b.length) (h : (cI b p).1 ≠ 0) :
  bP (cI b p).2 = (b.drop p).take (cI b p).1 ∧ (((cI b p).1 = 1 ∧ (cI b p).2 = (b.getD p 0).toNat ∧ (b.getD p 0).toNat < 128) ∨ (128 ≤ (cI b p).2 ∧ ∀ x ∈ (b.drop p).take (cI b p).1, 128 ≤ x.toNat)) := by
 have e1 := eZ (b.getD p 0)
 have hx : ∀ n, n < b.length + 1 - p → (b.drop p).take n = (List.range n).map fun i => b.getD (p + i) 0 := fun n hn => pF b p n (by omega)
 revert h
 unfold cI
 simp only
 split
 ·rename_i hc
  intro _
  rw [hx 1 (by omega)]
  refine ⟨?_, .inl ⟨rfl, rfl, hc⟩⟩
  rw [bP, if_pos hc, gO rfl]
  simp [List.range_succ, List.getD_eq_getElem?_getD]
 ·rename_i hc
  split
  ·rename_i h2
   split
   ·intro h; simp at h
   ·rename_i hl
    simp only [jA, Nat.reduceAdd]
    have e2 := eZ (b.getD (p + 1) 0)
    split
    ·intro h; simp at h
    ·rename_i w hw
     split at hw
     ·cases hw
     ·rename_i hd
      have hw' := Option.some.inj hw
      subst hw'
      split
      ·intro h; simp at h
      ·rename_i hw2
       intro _
       rw [hx 2 (by omega)]
       simp only [List.range_succ, List.range_zero, List.nil_append, List.map_append, List.map_cons, List.map_nil, Nat.add_zero]
       refine ⟨?_, .inr ⟨by omega, ?_⟩⟩
       ·rw [bP, if_neg (by omega), if_pos (by omega)]
        simp only [List.cons_append, List.nil_append, List.cons.injEq, and_true]
        exact ⟨gO (by omega), gO (by omega)⟩
       ·intro x hx
        simp only [List.cons_append, List.nil_append, List.mem_cons, List.not_mem_nil, or_false] at hx
        rcases hx with rfl | rfl <;> omega
  ·split
   ·rename_i h3
    split
    ·intro h; simp at h
    ·rename_i hl
     simp only [jA, Nat.reduceAdd]
     have e2 := eZ (b.getD (p + 1) 0)
     have e3 := eZ (b.getD (p + 2) 0)
     split
     ·intro h; simp at h
     ·rename_i w hw
      split at hw
      ·cases hw
      ·rename_i hd
       split at hw
       ·cases hw
       ·rename_i hd2
        have hw' := Option.some.inj hw
        subst hw'
        split
        ·intro h; simp at h
        ·rename_i hw2
         intro _
         rw [hx 3 (by omega)]
         simp only [List.range_succ, List.range_zero, List.nil_append, List.map_append, List.map_cons, List.map_nil, Nat.add_zero, List.cons_append, List.append_assoc]
         refine ⟨?_, .inr ⟨by omega, ?_⟩⟩
         ·rw [bP, if_neg (by omega), if_neg (by omega), if_pos (by omega)]
          simp only [List.cons_append, List.nil_append, List.cons.injEq, and_true]
          exact ⟨gO (by omega), gO (by omega), gO (by omega)⟩
         ·intro x hx
          simp only [List.cons_append, List.nil_append, List.mem_cons, List.not_mem_nil, or_false] at hx
          rcases hx with rfl | rfl | rfl <;> omega
   ·split
    ·rename_i h4
     split
     ·intro h; simp at h
     ·rename_i hl
      simp only [jA, Nat.reduceAdd]
      have e2 := eZ (b.getD (p + 1) 0)
      have e3 := eZ (b.getD (p + 2) 0)
      have e4 := eZ (b.getD (p + 3) 0)
      split
      ·intro h; simp at h
      ·rename_i w hw
       split at hw
       ·cases hw
       ·rename_i hd
        split at hw
        ·cases hw
        ·rename_i hd2
         split at hw
         ·cases hw
         ·rename_i hd3
          have hw' := Option.some.inj hw
          subst hw'
          split
          ·intro h; simp at h
          ·rename_i hw2
           intro _
           rw [hx 4 (by omega)]
           simp only [List.range_succ, List.range_zero, List.nil_append, List.map_append, List.map_cons, List.map_nil, Nat.add_zero, List.cons_append, List.append_assoc]
           refine ⟨?_, .inr ⟨by omega, ?_⟩⟩
           ·rw [bP, if_neg (by omega), if_neg (by omega), if_neg (by omega)]
            simp only [List.cons_append, List.nil_append, List.cons.injEq, and_true]
            exact ⟨gO (by omega), gO (by omega), gO (by omega), gO (by omega)⟩
           ·intro x hx
            simp only [List.cons_append, List.nil_append, List.mem_cons, List.not_mem_nil, or_false] at hx
            rcases hx with rfl | rfl | rfl | rfl <;> omega
    ·intro h; simp at h
