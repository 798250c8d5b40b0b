/-
 JSON: what the functions do, one behind the other. No condition.
-/
import Derived.Test.YtboejpobmpfifaaGreatDoorTLib0
set_option linter.unusedSimpArgs false
set_option linter.unusedVariables false
namespace Go.Proofs.YtboejpobmpfifaaGreatDoor.Eng
open Go
attribute [local simp] eT eN dR eV cY cW eU dQ dP eF eS dL cC dU cZ cN dM cA bX cV bW
attribute [local simp] hZ aZ put dB X.ev cF cO cP cS bU dO cR bV dN cQ eK iE fH iX dY dX fS fR eR gH kV bM fL gT fE gB V.plain aW V.und bY scK kill aF bQ aG dT dS cT mB bR fU V.real bH bK cU
inductive PR (α : Type) where
 | ok (v : α) (l : List UInt8)
 | err (l : List UInt8) (e : Int)
abbrev upR (s : St) (r : Nat) (o : Qw) : St := ⟨s.obs.set r o, s.bufs⟩
theorem dE {b l : List UInt8} (h : l <:+ b) : b.drop (b.length - l.length) = l := (List.suffix_iff_eq_drop.1 h).symm
theorem aO {b l : List UInt8} (h : l <:+ b) : l.length ≤ b.length := h.length_le
theorem JF {b l : List UInt8} (h : l <:+ b) : b[b.length - l.length]? = l[0]? := by
 have := dE h
 conv => rhs; rw [← this]
 simp [List.getElem?_drop]
theorem cJ {b : List UInt8} {c : UInt8} {l : List UInt8} (h : (c :: l) <:+ b) : l <:+ b := (List.suffix_cons c l).trans h
theorem sM (s : St) {r : Nat} {o : Qw} (hr : r < s.obs.length) (ho : o.und s.obs.length s.bufs.length = true) (junk : List Qw) (ex : List (Nat × Nat × TypeId)) {v : V} (hv : v.plain.und s.obs.length 0 = true) :
  ∃ ex', fin false s ⟨s.obs.set r o ++ junk, s.bufs ++ ex⟩ v = (v.plain, ⟨s.obs.set r o, s.bufs ++ ex'⟩) ∧ (ex = [] → ex' = []) := by
 have hl : (s.obs.set r o).length = s.obs.length := by simp
 have ht : (s.obs.set r o ++ junk).take s.obs.length = s.obs.set r o := by rw [← hl, List.take_left]
 unfold fin
 simp only [Bool.false_eq_true, if_false, ht]
 split
 ·rename_i h
  have h1 : s.obs.set r o = s.obs := by rw [← ht]; exact h.1
  exact ⟨[], by rw [h1]; simp, fun _ => rfl⟩
 ·rename_i h
  rw [if_pos]
  ·exact ⟨ex, rfl, fun h => h⟩
  ·refine ⟨fun i hi => ?_, hv⟩
   by_cases e : i = r
   ·subst e
    right
    intro o' ho'
    rw [List.getElem?_append_left (by omega), List.getElem?_set_self hi] at ho'
    cases ho'
    exact Qw.und_mono (Nat.le_refl _) (by simp) _ ho
   ·left
    rw [List.getElem?_append_left (by omega), List.getElem?_set_ne (by omega)]
theorem En (s : St) {r : Nat} {o : Qw} (hr : r < s.obs.length) (ho : o.und s.obs.length s.bufs.length = true) (junk : List Qw) {v : V} (hv : v.plain.und s.obs.length 0 = true) :
  fin false s ⟨s.obs.set r o ++ junk, s.bufs⟩ v = (v.plain, ⟨s.obs.set r o, s.bufs⟩) := by
 obtain ⟨ex', h1, h2⟩ := sM s hr ho junk [] hv
 rw [h2 rfl] at h1
 simpa using h1
theorem IW (s : St) {r : Nat} {o : Qw} (hr : r < s.obs.length) (ho : o.und s.obs.length s.bufs.length = true) {v : V} (hv : v.plain.und s.obs.length 0 = true) :
  fin false s ⟨s.obs.set r o, s.bufs⟩ v = (v.plain, ⟨s.obs.set r o, s.bufs⟩) := by
 have := En s hr ho [] hv
 simpa using this
theorem cK {s : St} {r : Nat} {o : Qw} (h : s.obs[r]? = some o) : r < s.obs.length := (List.getElem?_eq_some_iff.1 h).1
theorem HT {s : St} {r : Nat} {o : Qw} (h : s.obs[r]? = some o) : upR s r o = s := by
 have hr := cK h
 have : s.obs[r] = o := by rw [List.getElem?_eq_getElem hr] at h; exact Option.some.inj h
 simp only [upR]
 rw [← this, List.set_getElem_self hr]
theorem pP (b : List UInt8) (c : UInt8) (s : St) : call G 256 [.str b, .int .u8 c.toNat] s = some (.int .i64 (Lib.indexByte b c), s) := by
 rw [jE G 256 _ s vZ rfl]
 simp [vZ]
def hd0 (l : List UInt8) : UInt8 := (l[0]?).getD 0
def jNull : JV := .mk 0 0 [] [] []
def yW : List UInt8 := [110, 117, 108, 108]
def yX : List UInt8 := [116, 114, 117, 101]
def tE : List UInt8 := [102, 97, 108, 115, 101]
def eG (l w : List UInt8) : Bool := decide (w.length ≤ l.length) && decide (l.take w.length = w)
theorem Ah (l w : List UInt8) (hl : l.length ≤ 9223372036854775807) (s : St) : call G 261 [.str l, .str w] s = some (.bool (eG l w), s) := by
 have h84 : call G 300 [.str l, .str w] s = some (.bool (eG l w), s) := by
  refine aC (F := af300) rfl rfl ?_
  by_cases h : w.length ≤ l.length
  ·have h' : ((w.length : Nat) : Int) ≤ (l.length : Int) := by omega
   simp [af300, af300b, h, h', bD, bnd]
   rw [aS s (v := .bool _) rfl]
   simp [eG, h]
  ·have h' : ¬ ((w.length : Nat) : Int) ≤ (l.length : Int) := by omega
   simp [af300, af300b, h, h']
   rw [aS s (v := .bool _) rfl]
   simp [eG, h]
 refine aC (F := af261) rfl rfl ?_
 simp [af261, af261b, h84]
 exact aS s (v := .bool _) rfl
theorem GB {l w : List UInt8} (h : eG l w = true) : w.length ≤ l.length := by
 simp only [eG, Bool.and_eq_true, decide_eq_true_eq] at h
 exact h.1
theorem BC {b l : List UInt8} (hl : l <:+ b) {n : Nat} (hn : n ≤ l.length) : b.length - (l.drop n).length = b.length - l.length + n := by
 have := aO hl
 simp only [List.length_drop]
 omega
def eX : List UInt8 → List UInt8
 | [] => []
 | x :: t => if x = 45 then t else x :: t
def iS (l : List UInt8) : Bool := decide (hd0 l = 45)
theorem JN (l : List UInt8) : ∀ a : Nat, a ≤ l.foldl (fun a x => 10 * a + (x.toNat - 48)) a := by
 induction l with
 | nil => intro a; exact Nat.le_refl _
 | cons x l ih =>
  intro a
  simp only [List.foldl_cons]
  exact Nat.le_trans (by omega) (ih _)
theorem Hu : ∀ (l : List UInt8) (a : Nat), (∀ x ∈ l, cB x = true) →
  (Lib.parseUintM 18446744073709551615 a l = .ok (l.foldl (fun a x => 10 * a + (x.toNat - 48)) a)) ∨ (Lib.parseUintM 18446744073709551615 a l = .range ∧ 18446744073709551615 < l.foldl (fun a x => 10 * a + (x.toNat - 48)) a)
 | [], a, _ => .inl rfl
 | x :: l, a, h => by
  have hx := h x (by simp)
  simp only [cB, Bool.and_eq_true, decide_eq_true_eq] at hx
  simp only [Lib.parseUintM, if_pos hx, List.foldl_cons]
  have hge := JN l (10 * a + (x.toNat - 48))
  split
  ·exact .inr ⟨rfl, by omega⟩
  ·split
   ·exact .inr ⟨rfl, by omega⟩
   ·rw [show a * 10 + (x.toNat - 48) = 10 * a + (x.toNat - 48) by omega]
    exact Hu l _ (fun y hy => h y (by simp [hy]))
def erV (t : Bool) : V := if t = true then .ifc 341 .junk else .nilI
theorem Jt (w : List UInt8) (hw : w.length ≤ 1000000000) : ∃ n eb, (∀ s, call G 273 [.str w, .int .i64 10, .int .i64 64] s = some (.tup [.int .i64 n, erV eb], s)) ∧
  (eb = true ∧ (∀ v, Lib.parseIntB 64 w ≠ .ok v) ∨ eb = false ∧ Lib.parseIntB 64 w = .ok n) := by
 have h := fun s => jE G 273 [.str w, .int .i64 10, .int .i64 64] s qN rfl
 have hle : w.length ≤ 281474976710656 := by omega
 simp only [qN, if_pos hle] at h
 cases hp : Lib.parseIntB 64 w with
 | ok v => simp only [hp] at h; exact ⟨v, false, h, .inr ⟨rfl, rfl⟩⟩
 | range => simp only [hp] at h; exact ⟨_, true, h, .inl ⟨rfl, fun v q => by cases q⟩⟩
 | _ => simp only [hp] at h; exact ⟨0, true, h, .inl ⟨rfl, fun v q => by cases q⟩⟩
theorem xJ (l : List UInt8) : ∀ x ∈ l.takeWhile cB, cB x = true := fun x hx => by
 have := List.all_takeWhile (p := cB) (l := l)
 rw [List.all_eq_true] at this
 exact this x hx
theorem Hv {ds : List UInt8} (hd : ∀ x ∈ ds, cB x = true) (hne : ds ≠ []) (ng : Bool) :
  (kJ ds ≤ 9007199254740991 → Lib.parseIntB 64 (if ng = true then 45 :: ds else ds) = .ok (if ng = true then -(kJ ds : Int) else (kJ ds : Int))) ∧
  (9007199254740991 < kJ ds → ∀ n, Lib.parseIntB 64 (if ng = true then 45 :: ds else ds) = .ok n → n < -9007199254740991 ∨ 9007199254740991 < n) := by
 have hu := Hu ds 0 hd
 have hB : Lib.parseUintB 64 ds = Lib.parseUintM 18446744073709551615 0 ds := by simp [Lib.parseUintB, hne]
 have hv : ds.foldl (fun a x => 10 * a + (x.toNat - 48)) 0 = kJ ds := rfl
 rw [hv, ← hB] at hu
 have hfirst : ∀ c r, ds = c :: r → c.toNat ≠ 43 ∧ c.toNat ≠ 45 := by
  rintro c r rfl
  have := hd c (by simp)
  simp only [cB, Bool.and_eq_true, decide_eq_true_eq] at this
  omega
 have hP : Lib.parseIntB 64 (if ng = true then 45 :: ds else ds) = match Lib.parseUintB 64 ds with
   | Lib.NumEnd.syntax => Lib.NumEnd.syntax
   | .range => .range
   | .ok u => if ¬ ng = true ∧ 2 ^ 63 ≤ u then .range else if ng = true ∧ 2 ^ 63 < u then .range else .ok (if ng = true then -(u : Int) else u) := by
  cases ng with
  | true => simp [Lib.parseIntB]; cases Lib.parseUintB 64 ds <;> rfl
  | false =>
   cases ds with
   | nil => exact absurd rfl hne
   | cons c r =>
    obtain ⟨h1, h2⟩ := hfirst c r rfl
    simp [Lib.parseIntB, h1, h2]
    cases Lib.parseUintB 64 (c :: r) <;> rfl
 rw [hP]
 refine ⟨fun hle => ?_, fun hgt n => ?_⟩
 ·rcases hu with hu | ⟨_, hu⟩
  ·rw [hu]
   cases ng <;> simp <;> omega
  ·omega
 ·rcases hu with hu | ⟨hu, _⟩
  ·rw [hu]
   intro h
   simp only at h
   split at h
   ·cases h
   ·split at h
    ·cases h
    ·simp only [Lib.NumEnd.ok.injEq] at h
     split at h <;> omega
  ·rw [hu]
   intro h
   cases h
theorem vV (l : List UInt8) : eX l <:+ l := by
 cases l with
 | nil => exact List.suffix_refl _
 | cons x t =>
  simp only [eX]
  split
  ·exact List.suffix_cons _ _
  ·exact List.suffix_refl _
theorem AK : ∀ (l : List UInt8) (a : Nat), 10 ^ l.length * a ≤ l.foldl (fun a x => 10 * a + (x.toNat - 48)) a
 | [], a => by simp
 | x :: l, a => by
  simp only [List.foldl_cons, List.length_cons]
  refine Nat.le_trans ?_ (AK l _)
  rw [Nat.pow_succ, Nat.mul_assoc]
  exact Nat.mul_le_mul_left _ (by omega)
theorem Ir {ds : List UInt8} (hd : ∀ x ∈ ds, cB x = true) (h0 : hd0 ds ≠ 48) (hl : 17 ≤ ds.length) : 9007199254740991 < kJ ds := by
 cases ds with
 | nil => simp at hl
 | cons x r =>
  have hx := hd x (by simp)
  simp only [cB, Bool.and_eq_true, decide_eq_true_eq] at hx
  have hx0 : x.toNat ≠ 48 := fun q => h0 (by simp only [hd0, List.getElem?_cons_zero, Option.getD_some]; exact UInt8.toNat_inj.1 q)
  have h1 := AK r (10 * 0 + (x.toNat - 48))
  have h2 : 10 ^ 16 * 1 ≤ 10 ^ r.length * (10 * 0 + (x.toNat - 48)) := Nat.mul_le_mul (Nat.pow_le_pow_right (by omega) (by simp at hl; omega)) (by omega)
  have h3 : kJ (x :: r) = r.foldl (fun a x => 10 * a + (x.toNat - 48)) (10 * 0 + (x.toNat - 48)) := rfl
  rw [h3]
  have : (10 : Nat) ^ 16 = 10000000000000000 := by decide
  omega
theorem FV {G : Gp} {b : Qq} {Q Q' : Qg → Env → St → Prop} (h : ∀ e env s, Q e env s → Q' e env s) : ∀ e env s, BV G b Q e env s → BV G b Q' e env s
 | .norm, env, s, q => Out.mono q h
 | .ret, env, s, q => h _ _ _ q
 | .exit i, env, s, q => h _ _ _ q
end Go.Proofs.YtboejpobmpfifaaGreatDoor.Eng
namespace Go.Proofs.YtboejpobmpfifaaGreatDoor.Eng
open Go
attribute [local simp] eT eN dR eV cY cW eU dQ dP eF eS dL cC dU cZ cN dM cA bX cV bW
attribute [local simp] hZ aZ put dB X.ev cF cO cP cS bU dO cR bV dN cQ eK iE fH iX dY dX fS fR eR gH kV bM fL gT fE gB fin V.plain aW V.und bY scK kill aF bQ aG dT dS cT mB bR fU V.real bH bK cU
def kO (x : UInt8) : Int :=
 if 48 ≤ x.toNat ∧ x.toNat ≤ 57 then x.toNat - 48
 else if 97 ≤ x.toNat ∧ x.toNat ≤ 102 then x.toNat - 87
 else if 65 ≤ x.toNat ∧ x.toNat ≤ 70 then x.toNat - 55
 else -1
theorem Ix {n : Int} (h0 : 0 ≤ n) (h1 : n < 256) : IntKind.u8.wrap n = n := by rw [jS h0]; omega
theorem Fe (x : UInt8) (s : St) : call G 357 [.int .u8 x.toNat] s = some (.int .i32 (kO x), s) := by
 have hx := x.toNat_lt
 refine aC (F := af357) rfl rfl ?_
 by_cases a1 : 48 ≤ x.toNat ∧ x.toNat ≤ 57
 ·have i1 : (48 : Int) ≤ (x.toNat : Int) := by omega
  have i2 : (x.toNat : Int) ≤ 57 := by omega
  have w1 : IntKind.u8.wrap ((x.toNat : Int) - 48) = x.toNat - 48 := Ix (by omega) (by omega)
  have w2 : IntKind.i32.wrap ((x.toNat : Int) - 48) = x.toNat - 48 := gA (by omega) (by omega)
  simp [af357, af357b, i1, i2]
  refine aA _ _ _ _ _ _ _ rfl (fun _ => ?_) (fun h => by cases h)
  simp [w1, w2, kO, a1]
 ·have h1 : kO x = if 97 ≤ x.toNat ∧ x.toNat ≤ 102 then (x.toNat : Int) - 87 else if 65 ≤ x.toNat ∧ x.toNat ≤ 70 then (x.toNat : Int) - 55 else -1 := by
   unfold kO; rw [if_neg a1]
  have c1 : ∀ (Q : Qg → Env → St → Prop) env, Out (evC G (.reg [⟨(some 4), .mov (.tmp 0)⟩, ⟨(some 5), .bin .geq (.tmp 4) (.c (.int .u8 48))⟩,
    ⟨(some 9), .sc 6 true (.tmp 5) [⟨(some 7), .mov (.tmp 0)⟩, ⟨(some 8), .bin .leq (.tmp 7) (.c (.int .u8 57))⟩] (.tmp 8)⟩, ⟨(some 3), .mov (.tmp 9)⟩]) env s) Q → True := fun _ _ _ => trivial
  by_cases i1 : (48 : Int) ≤ (x.toNat : Int)
  ·have i2 : ¬ (x.toNat : Int) ≤ 57 := by omega
   simp [af357, af357b, i1, i2]
   refine aA _ _ _ _ _ _ _ rfl (fun h => by cases h) (fun _ => ?_)
   by_cases b1 : (97 : Int) ≤ (x.toNat : Int)
   ·by_cases b2 : (x.toNat : Int) ≤ 102
    ·have w1 : IntKind.u8.wrap ((x.toNat : Int) - 97) = x.toNat - 97 := Ix (by omega) (by omega)
     have w2 : IntKind.i32.wrap ((x.toNat : Int) - 97) = x.toNat - 97 := gA (by omega) (by omega)
     have w3 : IntKind.i32.wrap ((x.toNat : Int) - 97 + 10) = x.toNat - 87 := by rw [gA (by omega) (by omega)]; omega
     simp [b1, b2]
     refine aA _ _ _ _ _ _ _ rfl (fun _ => ?_) (fun h => by cases h)
     simp [w1, w2, w3, h1]
     omega
    ·simp [b1, b2]
     refine aA _ _ _ _ _ _ _ rfl (fun h => by cases h) (fun _ => ?_)
     have d1 : (65 : Int) ≤ (x.toNat : Int) := by omega
     have d2 : ¬ (x.toNat : Int) ≤ 70 := by omega
     simp [d1, d2]
     refine aA _ _ _ _ _ _ _ rfl (fun h => by cases h) (fun _ => ?_)
     simp [h1]
     rw [if_neg (by omega), if_neg (by omega)]
   ·simp [b1]
    refine aA _ _ _ _ _ _ _ rfl (fun h => by cases h) (fun _ => ?_)
    by_cases d1 : (65 : Int) ≤ (x.toNat : Int)
    ·by_cases d2 : (x.toNat : Int) ≤ 70
     ·have w1 : IntKind.u8.wrap ((x.toNat : Int) - 65) = x.toNat - 65 := Ix (by omega) (by omega)
      have w2 : IntKind.i32.wrap ((x.toNat : Int) - 65) = x.toNat - 65 := gA (by omega) (by omega)
      have w3 : IntKind.i32.wrap ((x.toNat : Int) - 65 + 10) = x.toNat - 55 := by rw [gA (by omega) (by omega)]; omega
      simp [d1, d2]
      refine aA _ _ _ _ _ _ _ rfl (fun _ => ?_) (fun h => by cases h)
      simp [w1, w2, w3, h1]
      rw [if_neg (by omega), if_pos (by omega)]
     ·simp [d1, d2]
      refine aA _ _ _ _ _ _ _ rfl (fun h => by cases h) (fun _ => ?_)
      simp [h1]
      rw [if_neg (by omega), if_neg (by omega)]
    ·simp [d1]
     refine aA _ _ _ _ _ _ _ rfl (fun h => by cases h) (fun _ => ?_)
     simp [h1]
     rw [if_neg (by omega), if_neg (by omega)]
  ·simp [af357, af357b, i1]
   refine aA _ _ _ _ _ _ _ rfl (fun h => by cases h) (fun _ => ?_)
   have b1 : ¬ (97 : Int) ≤ (x.toNat : Int) := by omega
   simp [b1]
   refine aA _ _ _ _ _ _ _ rfl (fun h => by cases h) (fun _ => ?_)
   have d1 : ¬ (65 : Int) ≤ (x.toNat : Int) := by omega
   simp [d1]
   refine aA _ _ _ _ _ _ _ rfl (fun h => by cases h) (fun _ => ?_)
   simp [h1]
   rw [if_neg (by omega), if_neg (by omega)]
theorem Af (x : UInt8) : -1 ≤ kO x ∧ kO x ≤ 15 := by
 have hx := x.toNat_lt
 unfold kO
 repeat' split
 all_goals omega
def fJ (x : UInt8) : Int × Bool :=
 if x.toNat = 34 ∨ x.toNat = 92 ∨ x.toNat = 47 then (x.toNat, true)
 else if x.toNat = 98 then (8, true) else if x.toNat = 102 then (12, true) else if x.toNat = 110 then (10, true)
 else if x.toNat = 114 then (13, true) else if x.toNat = 116 then (9, true) else (0, false)
theorem BW (x : UInt8) (s : St) : call G 346 [.int .u8 x.toNat] s = some (.tup [.int .i32 (fJ x).1, .bool (fJ x).2], s) := by
 have hx := x.toNat_lt
 have w : IntKind.i32.wrap (x.toNat : Int) = x.toNat := gA (by omega) (by omega)
 refine aC (F := af346) rfl rfl ?_
 by_cases a1 : x.toNat = 34
 ·have i1 : (x.toNat : Int) = 34 := by omega
  simp [af346, af346b, i1, ↓fJ, a1]
  refine aA _ _ _ _ _ _ _ rfl (fun _ => ?_) (fun h => by cases h)
  simp
  refine aA _ _ _ _ _ _ _ rfl (fun _ => ?_) (fun h => by cases h)
  simp [i1, show IntKind.i32.wrap 34 = 34 from by decide]
 have j1 : ¬ (x.toNat : Int) = 34 := by omega
 simp [af346, af346b, j1]
 refine aA _ _ _ _ _ _ _ rfl (fun h => by cases h) (fun _ => ?_)
 by_cases a2 : x.toNat = 92
 ·have i1 : (x.toNat : Int) = 92 := by omega
  simp [i1]
  refine aA _ _ _ _ _ _ _ rfl (fun _ => ?_) (fun h => by cases h)
  simp
  refine aA _ _ _ _ _ _ _ rfl (fun _ => ?_) (fun h => by cases h)
  simp [i1, show IntKind.i32.wrap 92 = 92 from by decide, fJ, a2]
 have j2 : ¬ (x.toNat : Int) = 92 := by omega
 simp [j2]
 refine aA _ _ _ _ _ _ _ rfl (fun h => by cases h) (fun _ => ?_)
 by_cases a3 : x.toNat = 47
 ·have i1 : (x.toNat : Int) = 47 := by omega
  simp [i1]
  refine aA _ _ _ _ _ _ _ rfl (fun _ => ?_) (fun h => by cases h)
  simp [i1, show IntKind.i32.wrap 47 = 47 from by decide, fJ, a3]
 have j3 : ¬ (x.toNat : Int) = 47 := by omega
 simp [j3]
 refine aA _ _ _ _ _ _ _ rfl (fun h => by cases h) (fun _ => ?_)
 by_cases a4 : x.toNat = 98
 ·have i1 : (x.toNat : Int) = 98 := by omega
  simp [i1]
  refine aA _ _ _ _ _ _ _ rfl (fun _ => ?_) (fun h => by cases h)
  simp [fJ, a4]
 have j4 : ¬ (x.toNat : Int) = 98 := by omega
 simp [j4]
 refine aA _ _ _ _ _ _ _ rfl (fun h => by cases h) (fun _ => ?_)
 by_cases a5 : x.toNat = 102
 ·have i1 : (x.toNat : Int) = 102 := by omega
  simp [i1]
  refine aA _ _ _ _ _ _ _ rfl (fun _ => ?_) (fun h => by cases h)
  simp [fJ, a5]
 have j5 : ¬ (x.toNat : Int) = 102 := by omega
 simp [j5]
 refine aA _ _ _ _ _ _ _ rfl (fun h => by cases h) (fun _ => ?_)
 by_cases a6 : x.toNat = 110
 ·have i1 : (x.toNat : Int) = 110 := by omega
  simp [i1]
  refine aA _ _ _ _ _ _ _ rfl (fun _ => ?_) (fun h => by cases h)
  simp [fJ, a6]
 have j6 : ¬ (x.toNat : Int) = 110 := by omega
 simp [j6]
 refine aA _ _ _ _ _ _ _ rfl (fun h => by cases h) (fun _ => ?_)
 by_cases a7 : x.toNat = 114
 ·have i1 : (x.toNat : Int) = 114 := by omega
  simp [i1]
  refine aA _ _ _ _ _ _ _ rfl (fun _ => ?_) (fun h => by cases h)
  simp [fJ, a7]
 have j7 : ¬ (x.toNat : Int) = 114 := by omega
 simp [j7]
 refine aA _ _ _ _ _ _ _ rfl (fun h => by cases h) (fun _ => ?_)
 by_cases a8 : x.toNat = 116
 ·have i1 : (x.toNat : Int) = 116 := by omega
  simp [i1]
  refine aA _ _ _ _ _ _ _ rfl (fun _ => ?_) (fun h => by cases h)
  simp [fJ, a8]
 have j8 : ¬ (x.toNat : Int) = 116 := by omega
 simp [j8]
 refine aA _ _ _ _ _ _ _ rfl (fun h => by cases h) (fun _ => ?_)
 simp [fJ, a1, a2, a3, a4, a5, a6, a7, a8]
def lE : Int → List UInt8 → Int
 | n, [] => n
 | n, d :: ds => if kO d < 0 then -1 else lE (n * 16 + kO d) ds
def cM : List UInt8 → Int
 | a :: u :: d1 :: d2 :: d3 :: d4 :: _ => if a = 92 ∧ u = 117 then lE 0 [d1, d2, d3, d4] else -1
 | _ => -1
theorem tY : ∀ (ds : List UInt8) (n : Int), 0 ≤ n → -1 ≤ lE n ds
 | [], n, h => by simp only [lE]; omega
 | d :: ds, n, h => by
  simp only [lE]
  split
  ·omega
  ·exact tY ds _ (by omega)
theorem KK {n d : Int} (h0 : 0 ≤ n) (h1 : n < 134217728) (h2 : 0 ≤ d) (h3 : d < 16) :
  gH .or (.int .i32 (IntKind.i32.wrap (n * 2 ^ (min 4 IntKind.i32.bits)))) (.int .i32 d) = some (.int .i32 (n * 16 + d)) := by
 have m : min 4 IntKind.i32.bits = 4 := by decide
 have w : IntKind.i32.wrap (n * 2 ^ (min 4 IntKind.i32.bits)) = n * 16 := by rw [m, gA (by omega) (by omega)]; rfl
 rw [w]
 have hb : IntKind.i32.bits = 32 := rfl
 simp only [gH, kV, bM, Bool.false_eq_true, if_false, if_true, hb]
 have e1 : (BitVec.ofInt 32 (n * 16) ||| BitVec.ofInt 32 d).toNat = (n * 16 + d).toNat := by
  rw [BitVec.toNat_or, BitVec.toNat_ofInt, BitVec.toNat_ofInt]
  have p : ((2 ^ 32 : Nat) : Int) = 4294967296 := by decide
  rw [p, Int.emod_eq_of_lt (by omega) (by omega), Int.emod_eq_of_lt (by omega) (by omega)]
  have q : (n * 16).toNat = 2 ^ 4 * n.toNat := by omega
  rw [q, ← Nat.two_pow_add_eq_or_of_lt (i := 4) (by omega)]
  omega
 have e2 : (BitVec.ofInt IntKind.i32.bits (n * 16) ||| BitVec.ofInt IntKind.i32.bits d).toNat = (n * 16 + d).toNat := e1
 rw [e2, gA (by omega) (by omega)]
 congr 2
 omega
theorem pI {l : List UInt8} (h : l.length < 6) : cM l = -1 := by
 rcases l with _ | ⟨_, _ | ⟨_, _ | ⟨_, _ | ⟨_, _ | ⟨_, _ | ⟨_, _⟩⟩⟩⟩⟩⟩ <;> first | rfl | (simp at h; omega)
theorem Ip (l r : List UInt8) (hl : l.length ≤ 1000000000) : ∀ (ds pre : List UInt8) (i : Nat) (n : Int) (env : Env) (s : St), l = pre ++ ds ++ r → pre.length = 2 + i → ds.length + i = 4 → 0 ≤ n → (n + 1) * 16 ^ ds.length ≤ 65536 →
  env 0 = .str l → env 3 = .int .i32 n → env 19 = .int .i64 i →
  Out (evC G (.loop false af347l0) env s) (fun e env' s' => s' = s ∧ ((lE n ds = -1 ∧ e = .ret ∧ env' 2 = .int .i32 (-1)) ∨ (0 ≤ lE n ds ∧ e = .exit 0 ∧ env' 3 = .int .i32 (lE n ds)))) := by
 intro ds
 induction ds with
 | nil =>
  intro pre i n env s hle hp hd h0 h1 e0 e3 e19
  have hi : i = 4 := by simpa using hd
  subst hi
  refine aH G false _ _ af347l0.eq_1 _ _ _ ?_
  simp [e19]
  refine aA _ _ _ _ _ _ _ rfl (fun h => by cases h) (fun _ => ?_)
  simp [lE, e3, h0]
 | cons d ds ih =>
  intro pre i n env s hle hp hd h0 h1 e0 e3 e19
  have hi4 : i < 4 := by simp at hd; omega
  have hi4' : (i : Int) < 4 := by omega
  have hg : l[2 + i]? = some d := by
   rw [hle, List.append_assoc, List.getElem?_append_right (by omega), hp]
   simp
  have hw : IntKind.i64.wrap (2 + (i : Int)) = ((2 + i : Nat) : Int) := by rw [aD (by omega) (by omega)]; omega
  have hgi : l[((2 : Int) + (i : Int)).toNat]? = some d := by rw [show ((2 : Int) + (i : Int)).toNat = 2 + i by omega]; exact hg
  have hge : (0 : Int) ≤ 2 + (i : Int) := by omega
  have hdl := Af d
  have hpow : (16 : Int) ^ (ds.length + 1) = 16 ^ ds.length * 16 := by rw [Int.pow_succ]
  have hpos : (1 : Int) ≤ 16 ^ ds.length := by
   have := Nat.one_le_pow ds.length 16 (by omega)
   have h2 : ((16 ^ ds.length : Nat) : Int) = (16 : Int) ^ ds.length := by simp
   omega
  have hn : n < 4096 := by
   simp only [List.length_cons] at h1
   rw [hpow] at h1
   have : (n + 1) * 16 ≤ (n + 1) * (16 ^ ds.length * 16) := by
    refine Int.mul_le_mul_of_nonneg_left ?_ (by omega)
    omega
   omega
  refine aH G false _ _ af347l0.eq_1 _ _ _ ?_
  simp [e19, hi4']
  refine aA _ _ _ _ _ _ _ rfl (fun _ => ?_) (fun h => by cases h)
  simp [e0, e3, e19, hw, hge, ↓hgi, Fe]
  refine aA _ _ _ _ _ _ _ rfl (fun h => ?_) (fun h => ?_)
  ·have q1 : kO d < 0 := by simpa using h
   simp [lE, q1]
  ·have q1 : ¬ kO d < 0 := by simpa using h
   have o1 := KK (n := n) (d := kO d) h0 (by omega) (by omega) (by omega)
   have hsh : mZ .shl .i32 n 4 = some (.int .i32 (IntKind.i32.wrap (n * 2 ^ (min 4 IntKind.i32.bits)))) := rfl
   have hw2 : IntKind.i64.wrap ((i : Int) + 1) = ((i + 1 : Nat) : Int) := by rw [aD (by omega) (by omega)]; omega
   simp only [gH, kV, bM, Bool.false_eq_true, if_false, if_true, Option.some.injEq] at o1
   simp [e3, e19, hsh, hw2]
   refine Out.mono (ih (pre ++ [d]) (i + 1) (n * 16 + kO d) _ s ?_ ?_ ?_ ?_ ?_ ?_ ?_ ?_) ?_
   ·rw [hle]; simp
   ·simp [hp]; omega
   ·simp at hd ⊢; omega
   ·omega
   ·simp only [List.length_cons] at h1
    rw [hpow] at h1
    have e : (n * 16 + kO d + 1) * 16 ^ ds.length ≤ ((n + 1) * 16) * 16 ^ ds.length := Int.mul_le_mul_of_nonneg_right (by omega) (by omega)
    have e2 : ((n + 1) * 16) * 16 ^ ds.length = (n + 1) * (16 ^ ds.length * 16) := by rw [Int.mul_assoc, Int.mul_comm 16]
    omega
   ·simp [e0]
   ·simp at o1 ⊢
    exact o1
   ·simp
   ·rintro e env' s' ⟨rfl, h⟩
    refine ⟨rfl, ?_⟩
    rw [lE, if_neg q1]
    exact h
theorem wY (l : List UInt8) (hl : l.length ≤ 1000000000) (s : St) : call G 347 [.str l] s = some (.int .i32 (cM l), s) := by
 have b92 : ∀ x : UInt8, ((x.toNat : Int) = 92) ↔ x = 92 := fun x => ⟨fun q => UInt8.toNat_inj.1 (by simp; omega), fun q => by subst q; rfl⟩
 have b117 : ∀ x : UInt8, ((x.toNat : Int) = 117) ↔ x = 117 := fun x => ⟨fun q => UInt8.toNat_inj.1 (by simp; omega), fun q => by subst q; rfl⟩
 refine aC (F := af347) rfl rfl ?_
 by_cases h6 : l.length < 6
 ·have h6' : (l.length : Int) < 6 := by omega
  simp [af347, af347b, h6']
  refine aA _ _ _ _ _ _ _ rfl (fun _ => ?_) (fun h => by cases h)
  simp [pI h6]
 rcases l with _ | ⟨a, _ | ⟨u, _ | ⟨d1, _ | ⟨d2, _ | ⟨d3, _ | ⟨d4, r⟩⟩⟩⟩⟩⟩
 iterate 6 (exact absurd (by simp) h6)
 have h6' : (6 : Int) ≤ (r.length : Int) + 1 + 1 + 1 + 1 + 1 + 1 := by omega
 have h6'' : ¬ ((r.length : Int) + 1 + 1 + 1 + 1 + 1 + 1 < 6) := by omega
 by_cases ha : a = 92
 ·by_cases hu : u = 117
  ·subst ha hu
   simp [af347, af347b, h6', h6'']
   refine aA _ _ _ _ _ _ _ rfl (fun h => by cases h) (fun _ => ?_)
   simp
   refine Out.mono (Ip _ r hl [d1, d2, d3, d4] [92, 117] 0 0 _ s (by simp) rfl rfl (by omega) (by simp) ?_ ?_ ?_) ?_
   ·simp
   ·simp
   ·simp
   rintro e env' s' ⟨rfl, ⟨h1, rfl, h2⟩ | ⟨h1, rfl, h2⟩⟩
   ·simp [h2, cM, h1]
   ·simp [h2, cM]
  ·have hu' := mt (b117 u).1 hu
   subst ha
   simp [af347, af347b, h6', h6'', hu']
   refine aA _ _ _ _ _ _ _ rfl (fun _ => ?_) (fun h => by cases h)
   simp [cM, hu]
 ·have ha' := mt (b92 a).1 ha
  simp [af347, af347b, h6', h6'', ha']
  refine aA _ _ _ _ _ _ _ rfl (fun _ => ?_) (fun h => by cases h)
  simp [cM, ha]
def gQ (l : List UInt8) : Int × Nat :=
 if 1 < l.length ∧ (fJ ((l[1]?).getD 0)).2 = true then ((fJ ((l[1]?).getD 0)).1, 2)
 else if cM l < 0 ∨ (56320 ≤ cM l ∧ cM l ≤ 57343) then (0, 0)
 else if cM l < 55296 ∨ 57343 < cM l then (cM l, 6)
 else if cM (l.drop 6) < 56320 ∨ 57343 < cM (l.drop 6) then (0, 0)
 else (65536 + (cM l - 55296) * 1024 + cM (l.drop 6) - 56320, 12)
theorem Ag : ∀ (ds : List UInt8) (n : Int), 0 ≤ n → (n + 1) * 16 ^ ds.length ≤ 65536 → lE n ds < 65536
 | [], n, h, h1 => by simp [lE] at h1 ⊢; omega
 | d :: ds, n, h, h1 => by
  have hdl := Af d
  have hpow : (16 : Int) ^ (ds.length + 1) = 16 ^ ds.length * 16 := by rw [Int.pow_succ]
  have hpos : (0 : Int) ≤ 16 ^ ds.length := by
   exact Int.le_of_lt (Int.pow_pos (by omega))
  simp only [lE]
  split
  ·omega
  ·refine Ag ds _ (by omega) ?_
   simp only [List.length_cons] at h1
   rw [hpow] at h1
   have e : (n * 16 + kO d + 1) * 16 ^ ds.length ≤ ((n + 1) * 16) * 16 ^ ds.length := Int.mul_le_mul_of_nonneg_right (by omega) hpos
   have e2 : ((n + 1) * 16) * 16 ^ ds.length = (n + 1) * (16 ^ ds.length * 16) := by rw [Int.mul_assoc, Int.mul_comm 16]
   omega
theorem sG (l : List UInt8) : -1 ≤ cM l ∧ cM l < 65536 ∧ (0 ≤ cM l → 6 ≤ l.length) := by
 rcases l with _ | ⟨a, _ | ⟨u, _ | ⟨d1, _ | ⟨d2, _ | ⟨d3, _ | ⟨d4, r⟩⟩⟩⟩⟩⟩ <;> try (simp [cM]; done)
 simp only [cM]
 split
 ·exact ⟨tY _ _ (by omega), Ag _ _ (by omega) (by simp), fun _ => by simp⟩
 ·exact ⟨by omega, by omega, fun h => by omega⟩
theorem Fb (l : List UInt8) (hl : l.length ≤ 1000000000) (s : St) : call G 328 [.str l] s = some (.tup [.int .i32 (gQ l).1, .int .i64 (gQ l).2], s) := by
 have hu := wY l hl
 obtain ⟨u0, u1, u6⟩ := sG l
 have hs6 : 6 ≤ l.length → bD (.str l) (some (.int .i64 6)) none = some (.str (l.drop 6)) := by
  intro h; simp [bD, bnd, h]
 have hd := wY (l.drop 6) (by simp; omega)
 obtain ⟨v0, v1, _⟩ := sG (l.drop 6)
 refine aC (F := af328) rfl rfl ?_
 simp [af328, af328b]
 refine Out.mono (Q := fun e env' s' => s' = s ∧ ((e = .ret ∧ 1 < l.length ∧ (fJ ((l[1]?).getD 0)).2 = true ∧ env' 2 = .int .i32 (fJ ((l[1]?).getD 0)).1 ∧ env' 3 = .int .i64 2) ∨
  (e = .norm ∧ env' 0 = .str l ∧ ¬ (1 < l.length ∧ (fJ ((l[1]?).getD 0)).2 = true)))) ?_ ?_
 ·refine aA _ _ _ _ _ _ _ rfl (fun h => ?_) (fun h => ?_)
  ·have h' : 1 < l.length := by simp at h; omega
   obtain ⟨x, hx⟩ : ∃ x, l[1]? = some x := ⟨_, List.getElem?_eq_getElem (by omega)⟩
   simp [hx, BW]
   refine aA _ _ _ _ _ _ _ rfl (fun hq => ?_) (fun hq => ?_)
   ·simp [h', hq]
   ·simp [hq]
  ·simp at h
   simp
   omega
 rintro e env1 s1 ⟨rfl, ⟨rfl, h1, h2, h3, h4⟩ | ⟨rfl, g0, hno⟩⟩
 ·simp only [h3, h4, gQ, h1, h2, and_self, if_true]
  simp [h3, h4]
 ·generalize hU : cM l = U at *
  simp [g0, hu]
  by_cases c1 : U < 0
  ·have c1' : ¬ 0 ≤ U := by omega
   simp [c1, c1']
   refine aA _ _ _ _ _ _ _ rfl (fun _ => ?_) (fun h => by cases h)
   simp [gQ, hno, hU, c1]
  have c1' : 0 ≤ U := by omega
  by_cases c2 : 56320 ≤ U
  ·by_cases c3 : U ≤ 57343
   ·simp [c1, c1', c2, c3]
    refine aA _ _ _ _ _ _ _ rfl (fun _ => ?_) (fun h => by cases h)
    simp [gQ, hno, hU, c2, c3]
   ·have c4 : ¬ U < 55296 := by omega
    have c4' : 55296 ≤ U := by omega
    have c5 : 57343 < U := by omega
    simp [c1, c1', c2, c3, c5]
    refine aA _ _ _ _ _ _ _ rfl (fun h => by cases h) (fun _ => ?_)
    simp [c4, c4', c5]
    refine aA _ _ _ _ _ _ _ rfl (fun _ => ?_) (fun h => by cases h)
    simp [gQ, hno, hU, c1, c3, c5]
  ·have c2' : U < 56320 := by omega
   simp [c1, c1', c2, c2']
   refine aA _ _ _ _ _ _ _ rfl (fun h => by cases h) (fun _ => ?_)
   by_cases c4 : U < 55296
   ·have c4' : ¬ 55296 ≤ U := by omega
    simp [c4, c4']
    refine aA _ _ _ _ _ _ _ rfl (fun _ => ?_) (fun h => by cases h)
    simp [gQ, hno, hU, c1, c2, c4]
   ·have c4' : 55296 ≤ U := by omega
    have c5 : ¬ 57343 < U := by omega
    have c5' : U ≤ 57343 := by omega
    simp [c4, c4', c5, c5']
    refine aA _ _ _ _ _ _ _ rfl (fun h => by cases h) (fun _ => ?_)
    simp [g0, hs6 (u6 (by omega)), hd]
    generalize hW : cM (l.drop 6) = W at *
    by_cases d1 : W < 56320
    ·have d1' : ¬ 56320 ≤ W := by omega
     simp [d1, d1']
     refine aA _ _ _ _ _ _ _ rfl (fun _ => ?_) (fun h => by cases h)
     simp [gQ, hno, hU, c1, c2, c4, c5, hW, d1]
    ·have d1' : 56320 ≤ W := by omega
     by_cases d2 : 57343 < W
     ·have d2' : ¬ W ≤ 57343 := by omega
      simp [d1, d1', d2, d2']
      refine aA _ _ _ _ _ _ _ rfl (fun _ => ?_) (fun h => by cases h)
      simp [gQ, hno, hU, c1, c2, c4, c5, hW, d2]
     ·have d2' : W ≤ 57343 := by omega
      have m10 : min 10 IntKind.i32.bits = 10 := by decide
      have w1 : IntKind.i32.wrap (U - 55296) = U - 55296 := gA (by omega) (by omega)
      have w2 : IntKind.i32.wrap ((U - 55296) * 1024) = (U - 55296) * 1024 := by rw [gA (by omega) (by omega)]
      have w3 : IntKind.i32.wrap (65536 + (U - 55296) * 1024) = 65536 + (U - 55296) * 1024 := gA (by omega) (by omega)
      have w4 : IntKind.i32.wrap (65536 + (U - 55296) * 1024 + W) = 65536 + (U - 55296) * 1024 + W := gA (by omega) (by omega)
      have w5 : IntKind.i32.wrap (65536 + (U - 55296) * 1024 + W - 56320) = 65536 + (U - 55296) * 1024 + W - 56320 := gA (by omega) (by omega)
      simp [d1, d1', d2, d2']
      refine aA _ _ _ _ _ _ _ rfl (fun h => by cases h) (fun _ => ?_)
      simp [mZ, m10, w1, w2, w3, w4, w5, gQ, hno, hU, c1, c1', c2, c2', c4, c4', c5, c5', hW, d1, d1', d2, d2']
theorem Ek (l : List UInt8) (h : (gQ l).2 ≠ 0) : ∃ c : Nat, (gQ l).1 = c ∧ gX c ∧ (gQ l).2 ≤ l.length ∧ 2 ≤ (gQ l).2 := by
 obtain ⟨u0, u1, u6⟩ := sG l
 obtain ⟨v0, v1, v6⟩ := sG (l.drop 6)
 unfold gQ at h ⊢
 split
 ·rename_i hc
  have : ∀ x : UInt8, (fJ x).2 = true → ∃ c : Nat, (fJ x).1 = c ∧ gX c := by
   intro x hx
   have := x.toNat_lt
   unfold fJ gX at *
   (repeat' split) <;> first | exact ⟨_, rfl, by omega, by omega⟩ | skip
   ·exact ⟨8, rfl, by omega, by omega⟩
   ·exact ⟨12, rfl, by omega, by omega⟩
   ·exact ⟨10, rfl, by omega, by omega⟩
   ·exact ⟨13, rfl, by omega, by omega⟩
   ·exact ⟨9, rfl, by omega, by omega⟩
   ·simp_all
  obtain ⟨c, h1, h2⟩ := this _ hc.2
  exact ⟨c, h1, h2, by omega, by omega⟩
 ·rename_i hc
  rw [if_neg hc] at h
  split
  ·rename_i hd; rw [if_pos hd] at h; exact absurd rfl h
  ·rename_i hd
   rw [if_neg hd] at h
   split
   ·exact ⟨(cM l).toNat, by simp only; omega, ⟨by omega, by omega⟩, u6 (by omega), by simp⟩
   ·rename_i he
    rw [if_neg he] at h
    split
    ·rename_i hf; rw [if_pos hf] at h; exact absurd rfl h
    ·have := v6 (by omega)
     simp only [List.length_drop] at this
     exact ⟨(65536 + (cM l - 55296) * 1024 + cM (l.drop 6) - 56320).toNat, by simp only; omega, ⟨by omega, by omega⟩, by simp only; omega, by simp⟩
theorem AR (obs : List Qw) (bufs : List (Nat × Nat × TypeId)) (c : Nat) (h0 : 128 ≤ c) (h1 : c ≤ 1114111) (h2 : c < 55296 ∨ 57344 ≤ c) :
  call G 339 [.sl .nil [], .int .i32 c] ⟨obs, bufs⟩ =
   some (.sl (.buf bufs.length) (aU (bP c)), ⟨obs, bufs ++ [((bP c).length, 1, 5)]⟩) := by
 have hroom : iJ = 140737488355328 := by decide
 have w32 : IntKind.u32.wrap (c : Int) = c := uH (by omega) (by omega)
 have s6 : (c : Int).fdiv 64 = (c : Int) / 64 := Int.fdiv_eq_ediv_of_nonneg _ (by omega)
 have s12 : (c : Int).fdiv 4096 = (c : Int) / 4096 := Int.fdiv_eq_ediv_of_nonneg _ (by omega)
 have s18 : (c : Int).fdiv 262144 = (c : Int) / 262144 := Int.fdiv_eq_ediv_of_nonneg _ (by omega)
 have m6 : min 6 IntKind.i32.bits = 6 := by decide
 have m12 : min 12 IntKind.i32.bits = 12 := by decide
 have m18 : min 18 IntKind.i32.bits = 18 := by decide
 have lw0 : IntKind.u8.wrap (c : Int) = (c : Int) % 256 := jS (by omega)
 have lw6 : IntKind.u8.wrap ((c : Int) / 64) = (c : Int) / 64 % 256 := jS (by omega)
 have lw12 : IntKind.u8.wrap ((c : Int) / 4096) = (c : Int) / 4096 % 256 := jS (by omega)
 have lw18 : IntKind.u8.wrap ((c : Int) / 262144) = (c : Int) / 262144 % 256 := jS (by omega)
 have t0 : orB 128 (AP ((c : Int) % 256) 63) = 128 + (c : Int) % 64 := by rw [xK (by omega) (by omega), yL (by omega) (by omega)]; omega
 have t6 : orB 128 (AP ((c : Int) / 64 % 256) 63) = 128 + (c : Int) / 64 % 64 := by rw [xK (by omega) (by omega), yL (by omega) (by omega)]; omega
 have t12 : orB 128 (AP ((c : Int) / 4096 % 256) 63) = 128 + (c : Int) / 4096 % 64 := by rw [xK (by omega) (by omega), yL (by omega) (by omega)]; omega
 have hr : 4 ≤ 140737488355328 := by decide
 refine aC (F := af339) rfl rfl ?_
 simp [-bM, oP, af339, af339b, w32]
 refine aA _ _ _ _ _ _ _ rfl (fun h => ?_) (fun h => ?_)
 ·have hc : c ≤ 2047 := by simp at h; omega
  have o1 : orB 192 ((c : Int) / 64 % 256) = 192 + (c : Int) / 64 := by rw [Ka (by omega) (by omega)]; omega
  have ev : bP c = [UInt8.ofNat (192 + c / 64), UInt8.ofNat (128 + c % 64)] := by simp [bP, show ¬ c < 128 by omega, show c < 2048 by omega]
  have v1 := bL (n := 192 + c / 64) (by omega)
  have v2 := bL (n := 128 + c % 64) (by omega)
  have eb : aU (bP c) = [.int .u8 (192 + (c : Int) / 64), .int .u8 (128 + (c : Int) % 64)] := by
   rw [ev]
   simp only [aU, List.map_cons, List.map_nil, v1, v2]
   simp
  have hr' : 2 ≤ 140737488355328 := by omega
  rw [eb, ev]
  simp [-bM, tL, oO, mZ, m6, s6, lw0, lw6, o1, t0, aY, V.one, gU, fX, bJ, fI, hM, oM, hroom, hr']
 ·have hc : ¬ c ≤ 2047 := by simp at h; omega
  simp [-bM, Ai]
  refine aA _ _ _ _ _ _ _ rfl (fun h3 => ?_) (fun h3 => ?_)
  ·have hc3 : c < 55296 := by simp at h3; omega
   simp
   refine aA _ _ _ _ _ _ _ rfl (fun _ => ?_) (fun h4 => by simp at h4; omega)
   have o1 : orB 224 ((c : Int) / 4096 % 256) = 224 + (c : Int) / 4096 := by rw [EB (by omega) (by omega)]; omega
   have ev : bP c = [UInt8.ofNat (224 + c / 4096), UInt8.ofNat (128 + c / 64 % 64), UInt8.ofNat (128 + c % 64)] := by
    simp [bP, show ¬ c < 128 by omega, show ¬ c < 2048 by omega, show c < 65536 by omega]
   have v1 := bL (n := 224 + c / 4096) (by omega)
   have v2 := bL (n := 128 + c / 64 % 64) (by omega)
   have v3 := bL (n := 128 + c % 64) (by omega)
   have eb : aU (bP c) = [.int .u8 (224 + (c : Int) / 4096), .int .u8 (128 + (c : Int) / 64 % 64), .int .u8 (128 + (c : Int) % 64)] := by
    rw [ev]
    simp only [aU, List.map_cons, List.map_nil, v1, v2, v3]
    simp
   have hr' : 3 ≤ 140737488355328 := by omega
   rw [eb, ev]
   simp [-bM, tL, oO, mZ, m6, m12, s6, s12, lw0, lw6, lw12, o1, t0, t6, aY, V.one, gU, fX, bJ, fI, hM, oM, hroom, hr']
  ·have hc3 : ¬ c < 55296 := by simp at h3; omega
   simp [-bM, Ai, oP]
   refine aA _ _ _ _ _ _ _ rfl (fun h4 => ?_) (fun h4 => ?_)
   ·have hc4 : c ≤ 65535 := by simp at h4; omega
    have o1 : orB 224 ((c : Int) / 4096 % 256) = 224 + (c : Int) / 4096 := by rw [EB (by omega) (by omega)]; omega
    have ev : bP c = [UInt8.ofNat (224 + c / 4096), UInt8.ofNat (128 + c / 64 % 64), UInt8.ofNat (128 + c % 64)] := by
     simp [bP, show ¬ c < 128 by omega, show ¬ c < 2048 by omega, show c < 65536 by omega]
    have v1 := bL (n := 224 + c / 4096) (by omega)
    have v2 := bL (n := 128 + c / 64 % 64) (by omega)
    have v3 := bL (n := 128 + c % 64) (by omega)
    have eb : aU (bP c) = [.int .u8 (224 + (c : Int) / 4096), .int .u8 (128 + (c : Int) / 64 % 64), .int .u8 (128 + (c : Int) % 64)] := by
     rw [ev]
     simp only [aU, List.map_cons, List.map_nil, v1, v2, v3]
     simp
    have hr' : 3 ≤ 140737488355328 := by omega
    rw [eb, ev]
    simp [-bM, tL, oO, mZ, m6, m12, s6, s12, lw0, lw6, lw12, o1, t0, t6, aY, V.one, gU, fX, bJ, fI, hM, oM, hroom, hr']
   ·have hc4 : ¬ c ≤ 65535 := by simp at h4; omega
    simp [-bM, oP, Hf]
    refine aA _ _ _ _ _ _ _ rfl (fun _ => ?_) (fun h5 => by simp at h5; omega)
    have o1 : orB 240 ((c : Int) / 262144 % 256) = 240 + (c : Int) / 262144 := by rw [Kb (by omega) (by omega)]; omega
    have ev : bP c = [UInt8.ofNat (240 + c / 262144), UInt8.ofNat (128 + c / 4096 % 64), UInt8.ofNat (128 + c / 64 % 64), UInt8.ofNat (128 + c % 64)] := by
     simp [bP, show ¬ c < 128 by omega, show ¬ c < 2048 by omega, show ¬ c < 65536 by omega]
    have v1 := bL (n := 240 + c / 262144) (by omega)
    have v2 := bL (n := 128 + c / 4096 % 64) (by omega)
    have v3 := bL (n := 128 + c / 64 % 64) (by omega)
    have v4 := bL (n := 128 + c % 64) (by omega)
    have eb : aU (bP c) = [.int .u8 (240 + (c : Int) / 262144), .int .u8 (128 + (c : Int) / 4096 % 64), .int .u8 (128 + (c : Int) / 64 % 64), .int .u8 (128 + (c : Int) % 64)] := by
     rw [ev]
     simp only [aU, List.map_cons, List.map_nil, v1, v2, v3, v4]
     simp
    rw [eb, ev]
    simp [-bM, tL, oO, mZ, m6, m12, m18, s6, s12, s18, lw0, lw6, lw12, lw18, o1, t0, t6, t12, aY, V.one, gU, fX, bJ, fI, hM, oM, hroom, hr]
theorem AQ (obs : List Qw) (bufs : List (Nat × Nat × TypeId)) (c : Nat) (hc : gX c) :
  call G 313 [.sl .nil [], .int .i32 c] ⟨obs, bufs⟩ =
   some (.sl (.buf bufs.length) (aU (bP c)), ⟨obs, bufs ++ [((bP c).length, 1, 5)]⟩) := by
 obtain ⟨h1, h2⟩ := hc
 have w32 : IntKind.u32.wrap (c : Int) = c := uH (by omega) (by omega)
 have hr : 4 ≤ 140737488355328 := by decide
 refine aC (F := af313) rfl rfl ?_
 simp [-bM, oP, af313, af313b, w32]
 refine aA _ _ _ _ _ _ _ rfl (fun h => ?_) (fun h => ?_)
 ·have hc : c < 128 := by simp at h; omega
  have lw0 : IntKind.u8.wrap (c : Int) = c := by rw [jS (by omega)]; omega
  have v1 := bL (n := c) (by omega)
  have ev : bP c = [UInt8.ofNat c] := by simp [bP, hc]
  have eb : aU (bP c) = [.int .u8 c] := by
   rw [ev]
   simp only [aU, List.map_cons, List.map_nil, v1]
  rw [eb, ev]
  have hroom : iJ = 140737488355328 := by decide
  have hr1 : 1 ≤ 140737488355328 := by omega
  simp [lw0, aY, V.one, gU, fX, bJ, fI, hM, oM, hroom, hr1]
 ·have hc : 128 ≤ c := by simp at h; omega
  simp [AR obs bufs c hc h1 h2]
theorem FP (obs tl : List Qw) (bufs : List (Nat × Nat × TypeId)) (c : Nat) (hc : gX c) :
  call G 279 [.ptr obs.length 0, .int .i32 c] (AX obs tl bufs) = some (.tup [.int .i64 (bP c).length, .nilI], bst obs tl bufs (bP c)) := by
 have hl := mK c
 have hw : IntKind.i64.wrap (((bP c).length : Int) - 0) = (bP c).length := by rw [aD (by omega) (by omega)]; omega
 have h65 := fun o => AQ o bufs c hc
 refine aC (F := af279) rfl rfl ?_
 simp [af279, af279b, EY]
 simp [bst, Kq, Gz, bJ]
 simp at h65 hw
 simp [h65, aB, V.one, aK, bJ, hw]
def ust (o : List Qw) (bufs : List (Nat × Nat × TypeId)) (acc : List UInt8) : St := if acc = [] then AX o [] bufs else bst o [] bufs acc
theorem BQ (o : List Qw) (bufs : List (Nat × Nat × TypeId)) (acc : List UInt8) (c : Nat) (hc : gX c) (hr : acc.length ≤ 4000000000) :
  ∃ v, call G 279 [.ptr o.length 0, .int .i32 c] (ust o bufs acc) = some (v, ust o bufs (acc ++ bP c)) := by
 have hl := mK c
 have hne : acc ++ bP c ≠ [] := fun q => by
  have := congrArg List.length q
  simp at this
  rw [this.2] at hl
  simp at hl
 unfold ust
 rw [if_neg hne]
 by_cases h : acc = []
 ·subst h
  exact ⟨_, by simpa using FP o [] bufs c hc⟩
 ·rw [if_neg h]
  exact ⟨_, HK o [] bufs acc c hc (by omega)⟩
theorem DL (o : List Qw) (bufs : List (Nat × Nat × TypeId)) (acc : List UInt8) (hr : acc.length ≤ 4000000000) : call G 75 [.ptr o.length 0] (ust o bufs acc) = some (.str acc, ust o bufs acc) := by
 unfold ust
 by_cases h : acc = []
 ·subst h
  simp only [if_true]
  refine aC (F := af75) rfl rfl ?_
  simp [-fin, af75, af75b, AX]
  exact Bi _ _ rfl
 ·rw [if_neg h]
  exact DK o [] bufs acc h (by omega)
theorem Eo (o : List Qw) (bufs : List (Nat × Nat × TypeId)) (acc : List UInt8) (r : V) (h : r.plain.und o.length 0 = true) : fin false ⟨o, bufs⟩ (ust o bufs acc) r = (r.plain, ⟨o, bufs⟩) := by
 unfold ust
 split
 ·unfold fin
  rw [if_neg (by simp), if_pos]
  ·simp [AX]
  ·exact ⟨by simp [AX], h⟩
 ·exact IV o [] bufs acc r h
end Go.Proofs.YtboejpobmpfifaaGreatDoor.Eng
namespace Go.Proofs.YtboejpobmpfifaaGreatDoor.Eng
open Go
attribute [local simp] eT eN dR eV cY cW eU dQ dP eF eS dL cC dU cZ cN dM cA bX cV bW
attribute [local simp] hZ aZ put dB X.ev cF cO cP cS bU dO cR bV dN cQ eK iE fH iX dY dX fS fR eR gH kV bM fL gT fE gB V.plain aW V.und bY scK kill aF bQ aG dT dS cT mB bR fU V.real bH bK cU
def eJ : Nat → List UInt8 → List UInt8 → PR (List UInt8)
 | 0, l, _ => .err l 4
 | f + 1, l, acc =>
  if l = [] then .err [] 4
  else if (bS l 0).1 = 34 then .ok acc (l.drop 1)
  else if (bS l 0).1 < 32 then .err l 4
  else if (bS l 0).1 = 65533 ∧ (bS l 0).2 = 1 then .err l 2
  else if (bS l 0).1 = 92 then
   if (gQ l).2 = 0 then .err l 4 else eJ f (l.drop (gQ l).2) (acc ++ bP (gQ l).1.toNat)
  else eJ f (l.drop (bS l 0).2) (acc ++ bP (bS l 0).1)
def oW (l : List UInt8) : PR (List UInt8) := if eG l [34] = true then eJ l.length (l.drop 1) [] else .err l 4
def prT : PR (List UInt8) → List UInt8
 | .ok t _ => t
 | .err _ _ => []
def PR.rest {α : Type} : PR α → List UInt8
 | .ok _ l => l
 | .err l _ => l
def PR.e {α : Type} : PR α → Int
 | .ok _ _ => 0
 | .err _ e => e
theorem qB : ∀ (f : Nat) (l acc : List UInt8), (eJ f l acc).rest <:+ l
 | 0, l, acc => List.suffix_refl _
 | f + 1, l, acc => by
  unfold eJ
  split
  ·rename_i h; subst h; exact List.suffix_refl _
  ·split
   ·exact List.drop_suffix _ _
   ·split
    ·exact List.suffix_refl _
    ·split
     ·exact List.suffix_refl _
     ·split
      ·split
       ·exact List.suffix_refl _
       ·exact (qB f _ _).trans (List.drop_suffix _ _)
      ·exact (qB f _ _).trans (List.drop_suffix _ _)
theorem wA (l : List UInt8) : (oW l).rest <:+ l := by
 unfold oW
 split
 ·exact (qB _ _ _).trans (List.drop_suffix _ _)
 ·exact List.suffix_refl _
theorem JL {q : List UInt8} (hq : q.length ≤ 1000000000) (o : List Qw) (bufs : List (Nat × Nat × TypeId)) : ∀ (f : Nat) (l acc : List UInt8) (env : Env), l <:+ q → l.length < f → acc.length + 4 * l.length ≤ 4000000000 → env 0 = .str q → env 5 = .ptr o.length 0 →
  env 6 = .int .i64 ((q.length - l.length : Nat) : Int) →
  Out (evC G (.loop false af305l0) env (ust o bufs acc)) (fun e env' s' => (∃ acc', s' = ust o bufs acc') ∧
   ((e = .exit 0 ∧ env' 0 = .str q ∧ eJ f l acc = .err [] 4) ∨
    (e = .ret ∧ env' 2 = .str (prT (eJ f l acc)) ∧ env' 3 = .int .i64 ((q.length - (eJ f l acc).rest.length : Nat) : Int) ∧ env' 4 = .int .i64 (eJ f l acc).e))) := by
 intro f
 induction f with
 | zero => intro l acc env hl hf; omega
 | succ f ih =>
  intro l acc env hl hf hacc h0 h5 h6
  have hlen := aO hl
  refine aH G false _ _ af305l0.eq_1 _ _ _ ?_
  by_cases hn : l = []
  ·subst hn
   simp [h0, h6]
   refine aA _ _ _ _ _ _ _ rfl (fun h => by cases h) (fun _ => ?_)
   simp [h0, eJ]
   exact ⟨acc, rfl⟩
  have hpos : 0 < l.length := by
   rcases Nat.eq_zero_or_pos l.length with h | h
   ·exact absurd (List.length_eq_zero_iff.1 h) hn
   ·exact h
  have hlt : ((q.length - l.length : Nat) : Int) < (q.length : Int) := by omega
  have hlt' : q.length - l.length < q.length := by omega
  have hsl : bD (.str q) (some (.int .i64 ((q.length - l.length : Nat) : Int))) none = some (.str l) := by
   simp [bD, bnd, dE hl]
  have hdec : ∀ s, call G 240 [.str l] s = some (.tup [.int .i32 ((bS l 0).1 : Nat), .int .i64 ((bS l 0).2 : Nat)], s) := fun s => by
   have h1 := Bf l s
   have h2 := nG l 0 hpos
   rw [List.drop_zero] at h2
   rw [h2] at h1
   exact h1
  obtain ⟨d1, d2, d3⟩ := lH l 0 hpos
  have hrok := IQ l 0 hpos
  simp only [Nat.zero_add] at d2
  unfold eJ
  rw [if_neg hn]
  generalize hC : (bS l 0).1 = c at *
  generalize hN : (bS l 0).2 = n at *
  simp [h0, h6, hlt']
  refine aA _ _ _ _ _ _ _ rfl (fun _ => ?_) (fun h => by cases h)
  simp [h0, h6, hsl, hdec]
  by_cases c1 : c = 34
  ·have i1 : (c : Int) = 34 := by omega
   have hw : IntKind.i64.wrap (((q.length - l.length : Nat) : Int) + 1) = ((q.length - (l.drop 1).length : Nat) : Int) := by rw [BC hl hpos, aD (by omega) (by omega)]; omega
   simp [i1, c1]
   refine aA _ _ _ _ _ _ _ rfl (fun _ => ?_) (fun h => by cases h)
   simp at hw
   simp [h5, h6, DL o bufs acc (by omega), hw, prT, PR.rest, PR.e]
   exact ⟨acc, rfl⟩
  have i1 : ¬ (c : Int) = 34 := by omega
  rw [if_neg c1]
  simp [i1, c1]
  refine aA _ _ _ _ _ _ _ rfl (fun h => by cases h) (fun _ => ?_)
  by_cases c2 : c < 32
  ·have i2 : (c : Int) < 32 := by omega
   simp [i2, c2]
   refine aA _ _ _ _ _ _ _ rfl (fun _ => ?_) (fun h => by cases h)
   simp [h6, prT, PR.rest, PR.e]
   exact ⟨acc, rfl⟩
  have i2 : ¬ (c : Int) < 32 := by omega
  rw [if_neg c2]
  simp [i2]
  refine aA _ _ _ _ _ _ _ rfl (fun h => by first | cases h | (simp at h; omega)) (fun _ => ?_)
  have hn4 : ∀ c', (bP c').length ≤ 4 := fun c' => (mK c').2
  have hadd : ∀ m : Nat, 1 ≤ m → m ≤ l.length → IntKind.i64.wrap (((q.length - l.length : Nat) : Int) + (m : Int)) = ((q.length - (l.drop m).length : Nat) : Int) := fun m h1 h2 => by
   rw [BC hl h2, aD (by omega) (by omega)]; omega
  have next : ∀ (c' m : Nat) (env : Env), gX c' → 1 ≤ m → m ≤ l.length → env 0 = .str q → env 5 = .ptr o.length 0 → env 6 = .int .i64 ((q.length - (l.drop m).length : Nat) : Int) →
    Out (evC G (.loop false af305l0) env (ust o bufs (acc ++ bP c'))) (fun e env' s' => (∃ acc', s' = ust o bufs acc') ∧
     ((e = .exit 0 ∧ env' 0 = .str q ∧ eJ f (l.drop m) (acc ++ bP c') = .err [] 4) ∨
      (e = .ret ∧ env' 2 = .str (prT (eJ f (l.drop m) (acc ++ bP c'))) ∧ env' 3 = .int .i64 ((q.length - (eJ f (l.drop m) (acc ++ bP c')).rest.length : Nat) : Int) ∧ env' 4 = .int .i64 (eJ f (l.drop m) (acc ++ bP c')).e))) := by
   intro c' m env hr hm1 hm2 g0 g5 g6
   refine ih (l.drop m) (acc ++ bP c') env ((List.drop_suffix _ _).trans hl) ?_ ?_ g0 g5 g6
   ·simp only [List.length_drop]; omega
   ·have := hn4 c'
    simp only [List.length_drop, List.length_append]; omega
  by_cases c3 : c = 65533 ∧ n = 1
  ·have i3 : (c : Int) = 65533 := by omega
   have i4 : (n : Int) = 1 := by omega
   simp [i3, i4, c3]
   refine aA _ _ _ _ _ _ _ rfl (fun _ => ?_) (fun h => by cases h)
   simp [h6, prT, PR.rest, PR.e]
   exact ⟨acc, rfl⟩
  rw [if_neg c3]
  rw [eF]
  refine Out.mono (Q := fun e env' s' => e = .norm ∧ s' = ust o bufs acc ∧ env' 33 = .bool false ∧ env' 0 = .str q ∧ env' 5 = .ptr o.length 0 ∧ env' 6 = .int .i64 ((q.length - l.length : Nat) : Int) ∧ env' 7 = .int .i32 c ∧ env' 8 = .int .i64 n) ?_ ?_
  ·by_cases e3 : c = 65533
   ·have i3 : (c : Int) = 65533 := by omega
    have i4 : ¬ (n : Int) = 1 := fun h => c3 ⟨e3, by omega⟩
    simp [h0, h5, h6, i3, i4]
   ·have i3 : ¬ (c : Int) = 65533 := by omega
    simp [h0, h5, h6, i3]
  rintro e env1 s1 ⟨rfl, rfl, g33, g0, g5, g6, g7, g8⟩
  simp
  refine aA _ _ _ _ _ _ _ g33 (fun h => by cases h) (fun _ => ?_)
  by_cases c4 : c = 92
  ·have i4 : (c : Int) = 92 := by omega
   have he := Fb l (by omega)
   simp [g7, i4, c4]
   refine aA _ _ _ _ _ _ _ rfl (fun _ => ?_) (fun h => by cases h)
   by_cases hz : (gQ l).2 = 0
   ·simp [g0, g6, hsl, he, hz]
    refine aA _ _ _ _ _ _ _ rfl (fun _ => ?_) (fun h => by cases h)
    simp [g6, prT, PR.rest, PR.e]
    exact ⟨acc, rfl⟩
   ·obtain ⟨c', k1, k2, k3, k4⟩ := Ek l hz
    have hz' : ¬ (((gQ l).2 : Nat) : Int) = 0 := by omega
    obtain ⟨v, hv⟩ := BQ o bufs acc c' k2 (by omega)
    have hto : (gQ l).1.toNat = c' := by rw [k1]; rfl
    have ha := hadd (gQ l).2 (by omega) k3
    simp [g0, g6, hsl, he, hz, hz', k1]
    refine aA _ _ _ _ _ _ _ rfl (fun h => by cases h) (fun _ => ?_)
    simp at ha
    simp [g0, g5, g6, hv, ha]
    refine Out.mono (next c' (gQ l).2 _ k2 (by omega) k3 ?_ ?_ ?_) (fun e env' s' h => h)
    ·simp [g0]
    ·simp [g5]
    ·simp
  ·have i4 : ¬ (c : Int) = 92 := by omega
   obtain ⟨v, hv⟩ := BQ o bufs acc c hrok (by omega)
   have ha := hadd n d1 d2
   simp [g7, i4, c4]
   refine aA _ _ _ _ _ _ _ rfl (fun h => by cases h) (fun _ => ?_)
   simp at ha
   simp [g0, g5, g6, g7, g8, hv, ha]
   refine Out.mono (next c n _ hrok d1 d2 ?_ ?_ ?_) (fun e env' s' h => h)
   ·simp [g0]
   ·simp [g5]
   ·simp
theorem Iq {q : List UInt8} (hq : q.length ≤ 1000000000) (s : St) :
  call G 305 [.str q] s = some (.tup [.str (prT (oW q)), .int .i64 ((q.length - (oW q).rest.length : Nat) : Int), .int .i64 (oW q).e], s) := by
 have hh := Ah q [34] (by omega) s
 refine aC (F := af305) rfl rfl ?_
 unfold oW
 by_cases hb : eG q [34] = true
 ·have hq1 : 1 ≤ q.length := GB hb
  rw [if_pos hb]
  simp [af305, af305b, hh, hb]
  refine aA _ _ _ _ _ _ _ rfl (fun h => by cases h) (fun _ => ?_)
  simp
  have e0 : (⟨s.obs ++ [.cells 128 [.pnil, .sl .nil []]], s.bufs⟩ : St) = ust s.obs s.bufs [] := by simp [ust, AX]
  rw [e0]
  refine Out.mono (JL hq s.obs s.bufs q.length (q.drop 1) [] _ (List.drop_suffix _ _) ?_ ?_ ?_ ?_ ?_) ?_
  ·simp only [List.length_drop]; omega
  ·simp only [List.length_drop, List.length_nil]; omega
  ·simp
  ·simp
  ·simp only [List.length_drop]
   simp
   omega
  rintro e env' s' ⟨⟨acc', rfl⟩, ⟨rfl, h0, hU⟩ | ⟨rfl, h2, h3, h4⟩⟩
  ·rw [List.drop_one] at hU
   simp only [hU]
   simp [h0, prT, PR.rest, PR.e]
   exact Eo s.obs s.bufs acc' (.tup [.str _, .int _ _, .int _ _]) rfl
  ·rw [List.drop_one] at h2 h3 h4
   generalize eJ q.length q.tail [] = R at *
   simp [h2, h3, h4]
   exact Eo s.obs s.bufs acc' (.tup [.str _, .int _ _, .int _ _]) rfl
 ·rw [if_neg hb]
  simp [af305, af305b, hh, hb]
  refine aA _ _ _ _ _ _ _ rfl (fun _ => ?_) (fun h => by cases h)
  simp [prT, PR.rest, PR.e]
  exact aS s (v := .tup _) rfl
end Go.Proofs.YtboejpobmpfifaaGreatDoor.Eng
namespace Go.Proofs.YtboejpobmpfifaaGreatDoor.Eng
open Go
theorem ofN {n : Nat} (h : n < 256) : (UInt8.ofNat n).toNat = n := by rw [UInt8.toNat_ofNat']; omega
theorem FW (c : Nat) (y : List UInt8) (hc : gX c) : cI (bP c ++ y) 0 = ((bP c).length, c) := by
 unfold gX at hc
 unfold bP
 split
 ·rename_i h
  simp [cI, ofN (show c < 256 by omega), h]
 ·split
  ·rename_i h1 h2
   have e0 : (UInt8.ofNat (192 + c / 64)).toNat = 192 + c / 64 := ofN (by omega)
   have e1 : (UInt8.ofNat (128 + c % 64)).toNat = 128 + c % 64 := ofN (by omega)
   generalize UInt8.ofNat (192 + c / 64) = x0 at *
   generalize UInt8.ofNat (128 + c % 64) = x1 at *
   have g0 : ([x0, x1] ++ y).getD 0 0 = x0 := rfl
   have g1 : ([x0, x1] ++ y).getD (0 + 1) 0 = x1 := rfl
   have hl : ([x0, x1] ++ y).length = y.length + 2 := by simp
   simp only [cI, g0]
   rw [if_neg (by omega), if_pos (by omega), if_neg (by omega)]
   simp only [jA, g1, Nat.reduceSub]
   rw [if_neg (by omega)]
   simp only
   rw [if_neg (by omega)]
   simp
   omega
  ·split
   ·rename_i h1 h2 h3
    have e0 : (UInt8.ofNat (224 + c / 4096)).toNat = 224 + c / 4096 := ofN (by omega)
    have e1 : (UInt8.ofNat (128 + c / 64 % 64)).toNat = 128 + c / 64 % 64 := ofN (by omega)
    have e2 : (UInt8.ofNat (128 + c % 64)).toNat = 128 + c % 64 := ofN (by omega)
    generalize UInt8.ofNat (224 + c / 4096) = x0 at *
    generalize UInt8.ofNat (128 + c / 64 % 64) = x1 at *
    generalize UInt8.ofNat (128 + c % 64) = x2 at *
    have g0 : ([x0, x1, x2] ++ y).getD 0 0 = x0 := rfl
    have g1 : ([x0, x1, x2] ++ y).getD (0 + 1) 0 = x1 := rfl
    have g2 : ([x0, x1, x2] ++ y).getD (0 + (1 + 1)) 0 = x2 := rfl
    have hl : ([x0, x1, x2] ++ y).length = y.length + 3 := by simp
    simp only [cI, g0]
    rw [if_neg (by omega), if_neg (by omega), if_pos (by omega), if_neg (by omega)]
    simp only [jA, g1, g2, Nat.reduceSub]
    rw [if_neg (by omega), if_neg (by omega)]
    simp only
    rw [if_neg (by omega)]
    simp
    omega
   ·rename_i h1 h2 h3
    have e0 : (UInt8.ofNat (240 + c / 262144)).toNat = 240 + c / 262144 := ofN (by omega)
    have e1 : (UInt8.ofNat (128 + c / 4096 % 64)).toNat = 128 + c / 4096 % 64 := ofN (by omega)
    have e2 : (UInt8.ofNat (128 + c / 64 % 64)).toNat = 128 + c / 64 % 64 := ofN (by omega)
    have e3 : (UInt8.ofNat (128 + c % 64)).toNat = 128 + c % 64 := ofN (by omega)
    generalize UInt8.ofNat (240 + c / 262144) = x0 at *
    generalize UInt8.ofNat (128 + c / 4096 % 64) = x1 at *
    generalize UInt8.ofNat (128 + c / 64 % 64) = x2 at *
    generalize UInt8.ofNat (128 + c % 64) = x3 at *
    have g0 : ([x0, x1, x2, x3] ++ y).getD 0 0 = x0 := rfl
    have g1 : ([x0, x1, x2, x3] ++ y).getD (0 + 1) 0 = x1 := rfl
    have g2 : ([x0, x1, x2, x3] ++ y).getD (0 + (1 + 1)) 0 = x2 := rfl
    have g3 : ([x0, x1, x2, x3] ++ y).getD (0 + (1 + 1 + 1)) 0 = x3 := rfl
    have hl : ([x0, x1, x2, x3] ++ y).length = y.length + 4 := by simp
    simp only [cI, g0]
    rw [if_neg (by omega), if_neg (by omega), if_neg (by omega), if_pos (by omega), if_neg (by omega)]
    simp only [jA, g1, g2, g3, Nat.reduceSub]
    rw [if_neg (by omega), if_neg (by omega), if_neg (by omega)]
    simp only
    rw [if_neg (by omega)]
    simp
    omega
theorem GL (c : Nat) (y : List UInt8) (hc : gX c) : bS (bP c ++ y) 0 = (c, (bP c).length) := by
 have hpos : 0 < (bP c).length := by
  unfold bP
  (repeat' split) <;> simp
 have h := kT (bP c ++ y) 0 (by simp; omega)
 rw [FW c y hc] at h
 split at h
 ·simp only [Prod.mk.injEq] at h; omega
 ·simp only [Prod.mk.injEq] at h
  exact Prod.ext h.2.symm h.1.symm
end Go.Proofs.YtboejpobmpfifaaGreatDoor.Eng
namespace Go.Proofs.YtboejpobmpfifaaGreatDoor.Eng
open Go
attribute [local simp] eT eN dR eV cY cW eU dQ dP eF eS dL cC dU cZ cN dM cA bX cV bW
attribute [local simp] hZ aZ put dB X.ev cF cO cP cS bU dO cR bV dN cQ eK iE fH iX dY dX fS fR eR gH kV bM fL gT fE gB V.plain aW V.und bY scK kill aF bQ aG dT dS cT mB bR fU V.real bH bK cU
theorem eM {b l : List UInt8} {c : UInt8} (h : (c :: l) <:+ b) : b[((b.length - (l.length + 1) : Nat) : Int).toNat]? = some c := by
 rw [Int.toNat_natCast]
 have := JF h
 simpa using this
theorem Ig (a b : Nat) : ((a : Int)).tdiv (b : Int) = ((a / b : Nat) : Int) := by
 rw [Int.tdiv_eq_ediv_of_nonneg (by omega)]; rfl
theorem DP (a b : Nat) : ((a : Int)).tmod (b : Int) = ((a % b : Nat) : Int) := by
 rw [Int.tmod_eq_emod_of_nonneg (by omega)]; rfl
theorem eA (n : Nat) (h : n < 256) (vs : List V) (r : List UInt8) (hr : fY vs = some r) : fY (.int .u8 (n : Int) :: vs) = some (UInt8.ofNat n :: r) := by
 unfold fY
 rw [if_pos (by omega), hr]
 simp
theorem Av (c : Nat) (hc : gX c) (s : St) : call G 247 [.int .i32 (c : Int)] s = some (.str (bP c), s) := by
 unfold gX at hc
 refine aC (F := af247) rfl rfl ?_
 have hw : IntKind.i64.wrap (c : Int) = c := aD (by omega) (by omega)
 have n0 : ¬ (c : Int) < 0 := by omega
 have n1 : ¬ (1114111 : Int) < (c : Int) := by omega
 have n1' : ¬ 1114111 < c := by omega
 by_cases h1 : c < 128
 ·have h1' : (c : Int) < 128 := by omega
  have n2 : ¬ (55296 : Int) ≤ (c : Int) := by omega
  have n2' : ¬ 55296 ≤ c := by omega
  have hu : IntKind.u8.wrap (c : Int) = c := by rw [jS (by omega)]; omega
  have hb := eA c (by omega) [] [] rfl
  simp [af247, af247b, hw, n0, n1, n1', n2, n2']
  refine aA _ _ _ _ _ _ _ rfl (fun h => by simp at h) (fun _ => ?_)
  simp [h1, h1']
  refine aA _ _ _ _ _ _ _ rfl (fun _ => ?_) (fun h => by simp at h)
  simp [hu, aY, V.one, hb]
  rw [aS _ (v := .str _) rfl]
  simp [bP, h1]
 have h1' : ¬ (c : Int) < 128 := by omega
 have q64 : ((c : Int)).tdiv 64 = ((c / 64 : Nat) : Int) := Ig c 64
 have q4096 : ((c : Int)).tdiv 4096 = ((c / 4096 : Nat) : Int) := Ig c 4096
 have q26 : ((c : Int)).tdiv 262144 = ((c / 262144 : Nat) : Int) := Ig c 262144
 have r64 : ((c : Int)).tmod 64 = ((c % 64 : Nat) : Int) := DP c 64
 have r1 : ((c / 64 : Nat) : Int).tmod 64 = ((c / 64 % 64 : Nat) : Int) := DP _ 64
 have r2 : ((c / 4096 : Nat) : Int).tmod 64 = ((c / 4096 % 64 : Nat) : Int) := DP _ 64
 have wa : ∀ k n : Nat, k < 1000 → n ≤ 1114111 → IntKind.i64.wrap ((k : Int) + (n : Int)) = ((k + n : Nat) : Int) := fun k n _ _ => by rw [aD (by omega) (by omega)]; omega
 have wq : ∀ n : Nat, n ≤ 1114111 → IntKind.i64.wrap (n : Int) = (n : Int) := fun n _ => aD (by omega) (by omega)
 have wu : ∀ n : Nat, n < 256 → IntKind.u8.wrap (n : Int) = (n : Int) := fun n _ => by rw [jS (by omega)]; omega
 by_cases h2 : c < 2048
 ·have h2' : (c : Int) < 2048 := by omega
  have n2 : ¬ (55296 : Int) ≤ (c : Int) := by omega
  have n2' : ¬ 55296 ≤ c := by omega
  have e1 := wa 192 (c / 64) (by omega) (by omega)
  have e2 := wa 128 (c % 64) (by omega) (by omega)
  have f1 := wu (192 + c / 64) (by omega)
  have f2 := wu (128 + c % 64) (by omega)
  have g1 := wq (c / 64) (by omega)
  have hb := eA (192 + c / 64) (by omega) _ _ (eA (128 + c % 64) (by omega) [] [] rfl)
  have henc : bP c = [UInt8.ofNat (192 + c / 64), UInt8.ofNat (128 + c % 64)] := by unfold bP; rw [if_neg h1, if_pos h2]
  rw [henc]
  generalize c / 64 = x at q64 e1 f1 g1 hb henc r1 ⊢
  generalize c % 64 = y at r64 e2 f2 hb henc ⊢
  generalize 192 + x = u at e1 f1 hb henc ⊢
  generalize 128 + y = v at e2 f2 hb henc ⊢
  simp at e1 e2
  simp [af247, af247b, hw, n0, n1, n1', n2, n2']
  refine aA _ _ _ _ _ _ _ rfl (fun h => by simp at h) (fun _ => ?_)
  simp [h1, h1']
  refine aA _ _ _ _ _ _ _ rfl (fun h => by simp at h) (fun _ => ?_)
  simp [h2, h2']
  refine aA _ _ _ _ _ _ _ rfl (fun _ => ?_) (fun h => by simp at h)
  simp [q64, r64, g1, e1, e2, f1, f2, aY, V.one, hb]
  rw [aS _ (v := .str _) rfl]
  simp
 ·have pre : ∀ (G' : True), True := fun _ => trivial
  have n3 : ¬ c < 128 := h1
  have hs2 : ¬ (c : Int) < 2048 := by omega
  have e2 := wa 128 (c % 64) (by omega) (by omega)
  have f2 := wu (128 + c % 64) (by omega)
  simp [af247, af247b, hw, n0, n1, n1']
  refine Out.mono (Q := fun ex env' s' => ex = .norm ∧ env' 3 = .int .i64 (c : Int) ∧ s' = s) ?_ ?_
  ·rcases hc.2 with hs | hs
   ·have n2 : ¬ (55296 : Int) ≤ (c : Int) := by omega
    have n2' : ¬ 55296 ≤ c := by omega
    simp [n2, n2']
    refine aA _ _ _ _ _ _ _ rfl (fun h => by simp at h) (fun _ => ?_)
    simp
   ·have n2 : (55296 : Int) ≤ (c : Int) := by omega
    have n2' : 55296 ≤ c := by omega
    have m2 : ¬ (c : Int) < 57344 := by omega
    have m2' : ¬ c < 57344 := by omega
    simp [n2, n2', m2, m2']
    refine aA _ _ _ _ _ _ _ rfl (fun h => by simp at h) (fun _ => ?_)
    simp
  rintro ex env s' ⟨rfl, q3, rfl⟩
  simp [q3, h1, h1']
  refine aA _ _ _ _ _ _ _ rfl (fun h => by simp at h) (fun _ => ?_)
  simp [q3, h2, hs2]
  refine aA _ _ _ _ _ _ _ rfl (fun h => by simp at h) (fun _ => ?_)
  by_cases h3 : c < 65536
  ·have h3' : (c : Int) < 65536 := by omega
   have e1 := wa 224 (c / 4096) (by omega) (by omega)
   have e3 := wa 128 (c / 64 % 64) (by omega) (by omega)
   have f1 := wu (224 + c / 4096) (by omega)
   have f3 := wu (128 + c / 64 % 64) (by omega)
   have g1 := wq (c / 4096) (by omega)
   have g2 := wq (c / 64) (by omega)
   have hb := eA (224 + c / 4096) (by omega) _ _ (eA (128 + c / 64 % 64) (by omega) _ _ (eA (128 + c % 64) (by omega) [] [] rfl))
   have henc : bP c = [UInt8.ofNat (224 + c / 4096), UInt8.ofNat (128 + c / 64 % 64), UInt8.ofNat (128 + c % 64)] := by unfold bP; rw [if_neg h1, if_neg h2, if_pos h3]
   rw [henc]
   generalize 224 + c / 4096 = u at e1 f1 hb henc ⊢
   generalize 128 + c % 64 = v at e2 f2 hb henc ⊢
   generalize 128 + c / 64 % 64 = w at e3 f3 hb henc ⊢
   generalize c / 4096 = x at q4096 e1 g1 ⊢
   generalize c / 64 % 64 = z at r1 e3 ⊢
   generalize c / 64 = z0 at q64 g2 r1 ⊢
   generalize c % 64 = y at r64 e2 ⊢
   simp at e1 e2 e3
   simp [q3, h3, h3']
   refine aA _ _ _ _ _ _ _ rfl (fun _ => ?_) (fun h => by simp at h)
   simp [q3, q64, q4096, r64, r1, g1, g2, e1, e2, e3, f1, f2, f3, aY, V.one, hb]
   rw [aS _ (v := .str _) rfl]
   simp
  ·have h3' : ¬ (c : Int) < 65536 := by omega
   have e1 := wa 240 (c / 262144) (by omega) (by omega)
   have e4 := wa 128 (c / 4096 % 64) (by omega) (by omega)
   have e3 := wa 128 (c / 64 % 64) (by omega) (by omega)
   have f1 := wu (240 + c / 262144) (by omega)
   have f4 := wu (128 + c / 4096 % 64) (by omega)
   have f3 := wu (128 + c / 64 % 64) (by omega)
   have g1 := wq (c / 4096) (by omega)
   have g2 := wq (c / 64) (by omega)
   have g3 := wq (c / 262144) (by omega)
   have hb := eA (240 + c / 262144) (by omega) _ _ (eA (128 + c / 4096 % 64) (by omega) _ _ (eA (128 + c / 64 % 64) (by omega) _ _ (eA (128 + c % 64) (by omega) [] [] rfl)))
   have henc : bP c = [UInt8.ofNat (240 + c / 262144), UInt8.ofNat (128 + c / 4096 % 64), UInt8.ofNat (128 + c / 64 % 64), UInt8.ofNat (128 + c % 64)] := by unfold bP; rw [if_neg h1, if_neg h2, if_neg h3]
   rw [henc]
   generalize 240 + c / 262144 = u at e1 f1 hb henc ⊢
   generalize 128 + c % 64 = v at e2 f2 hb henc ⊢
   generalize 128 + c / 64 % 64 = w at e3 f3 hb henc ⊢
   generalize 128 + c / 4096 % 64 = w4 at e4 f4 hb henc ⊢
   generalize c / 262144 = x at q26 e1 g3 ⊢
   generalize c / 4096 % 64 = z4 at r2 e4 ⊢
   generalize c / 4096 = z5 at q4096 g1 r2 ⊢
   generalize c / 64 % 64 = z at r1 e3 ⊢
   generalize c / 64 = z0 at q64 g2 r1 ⊢
   generalize c % 64 = y at r64 e2 ⊢
   simp at e1 e2 e3 e4
   simp [q3, h3, h3']
   refine aA _ _ _ _ _ _ _ rfl (fun h => by simp at h) (fun _ => ?_)
   simp [q3, q64, q4096, q26, r64, r1, r2, g1, g2, g3, e1, e2, e3, e4, f1, f2, f3, f4, aY, V.one, hb]
   rw [aS _ (v := .str _) rfl]
   simp
def dd1 (c : UInt8) : Int := if 48 ≤ c.toNat ∧ c.toNat ≤ 57 then (c.toNat : Int) - 48 else -1
def dd2 (c : UInt8) : Int := if 97 ≤ c.toNat ∧ c.toNat ≤ 102 then (c.toNat : Int) - 87 else dd1 c
def dd3 (c : UInt8) : Int := if 65 ≤ c.toNat ∧ c.toNat ≤ 70 then (c.toNat : Int) - 55 else dd2 c
theorem IP (c : UInt8) : dd3 c = kO c := by
 unfold dd3 dd2 dd1 kO
 repeat' split
 all_goals omega
theorem BJ {b : List UInt8} (hb : b.length ≤ 1000000000) : ∀ (k : Nat) (v : List UInt8) (n : Int) (p : Int) (env : Env) (s : St), v <:+ b → k ≤ v.length → k ≤ 4 → 0 ≤ n → (n + 1) * 16 ^ k ≤ 65536 → env 0 = .str b → env 1 = .int .i64 p → -10 ≤ p → p ≤ 2000000000 →
   p + 4 = ((b.length - v.length : Nat) : Int) + k → env 5 = .int .i64 n → env 6 = .int .i64 ((b.length - v.length : Nat) : Int) →
  Out (evC G (.loop false af288l0) env s) (fun ex env' s' => s' = s ∧ ((lE n (v.take k) < 0 ∧ ex = .ret ∧ env' 4 = .int .i64 (-1)) ∨ (0 ≤ lE n (v.take k) ∧ ex = .exit 0 ∧ env' 5 = .int .i64 (lE n (v.take k))))) := by
 intro k
 induction k with
 | zero =>
  intro v n p env s hv hk hk4 hn hn2 h0 h1 hp0 hp1 hp h5 h6
  have hw : IntKind.i64.wrap (p + 4) = p + 4 := aD (by omega) (by omega)
  have hlt : ¬ ((b.length - v.length : Nat) : Int) < p + 4 := by omega
  refine aH G false _ _ af288l0.eq_1 _ _ _ ?_
  simp [h1, h6, hw, hlt]
  refine aA _ _ _ _ _ _ _ rfl (fun h => by simp at h) (fun _ => ?_)
  simp [h5, lE, hn]
 | succ k ih =>
  intro v n p env s hv hk hk4 hn hn2 h0 h1 hp0 hp1 hp h5 h6
  have hw : IntKind.i64.wrap (p + 4) = p + 4 := aD (by omega) (by omega)
  have hlt : ((b.length - v.length : Nat) : Int) < p + 4 := by omega
  cases v with
  | nil => simp at hk
  | cons c t =>
   have hlen := aO hv
   simp only [List.length_cons] at hlen hk h6 hlt hp
   have hgi := eM hv
   have hw6 : IntKind.i64.wrap (((b.length - (t.length + 1) : Nat) : Int) + 1) = ((b.length - t.length : Nat) : Int) := by rw [aD (by omega) (by omega)]; omega
   have hcl := eZ c
   have wc : IntKind.i64.wrap (c.toNat : Int) = (c.toNat : Int) := aD (by omega) (by omega)
   refine aH G false _ _ af288l0.eq_1 _ _ _ ?_
   simp [h1, h6, hw, hlt]
   refine aA _ _ _ _ _ _ _ rfl (fun _ => ?_) (fun h => by simp at h)
   simp [h0, h6, ↓hgi, wc]
   refine Out.mono (Q := fun ex env' s' => ex = .norm ∧ s' = s ∧ env' 0 = .str b ∧ env' 1 = .int .i64 p ∧ env' 5 = .int .i64 n ∧ env' 6 = .int .i64 ((b.length - (t.length + 1) : Nat) : Int) ∧ env' 7 = .int .i64 (c.toNat : Int) ∧ env' 8 = .int .i64 (dd1 c)) ?_ ?_
   ·by_cases a1 : 48 ≤ c.toNat ∧ c.toNat ≤ 57
    ·have a2 : (48 : Int) ≤ (c.toNat : Int) := by omega
     have a3 : (c.toNat : Int) ≤ 57 := by omega
     have w1 : IntKind.i64.wrap ((c.toNat : Int) - 48) = (c.toNat : Int) - 48 := aD (by omega) (by omega)
     have e : (dd1 c) = (c.toNat : Int) - 48 := by unfold dd1; rw [if_pos a1]
     rw [e]
     refine aA _ _ _ _ _ _ _ rfl (fun _ => ?_) (fun h => by simp [a2, a3] at h)
     simp [h0, h1, h5, h6, w1]
    ·have e : (dd1 c) = (-1) := by unfold dd1; rw [if_neg a1]
     rw [e]
     refine aA _ _ _ _ _ _ _ rfl (fun h => ?_) (fun _ => ?_)
     ·exfalso; simp at h; omega
     ·simp [h0, h1, h5, h6]
   rintro ex env1 s1 ⟨rfl, hs1, m0, m1, m5, m6, m7, m8⟩
   rw [hs1]
   simp [m7]
   refine Out.mono (Q := fun ex env' s' => ex = .norm ∧ s' = s ∧ env' 0 = .str b ∧ env' 1 = .int .i64 p ∧ env' 5 = .int .i64 n ∧ env' 6 = .int .i64 ((b.length - (t.length + 1) : Nat) : Int) ∧ env' 7 = .int .i64 (c.toNat : Int) ∧ env' 8 = .int .i64 (dd2 c)) ?_ ?_
   ·by_cases a1 : 97 ≤ c.toNat ∧ c.toNat ≤ 102
    ·have a2 : (97 : Int) ≤ (c.toNat : Int) := by omega
     have a3 : (c.toNat : Int) ≤ 102 := by omega
     have w1 : IntKind.i64.wrap ((c.toNat : Int) - 87) = (c.toNat : Int) - 87 := aD (by omega) (by omega)
     have e : (dd2 c) = (c.toNat : Int) - 87 := by unfold dd2; rw [if_pos a1]
     rw [e]
     refine aA _ _ _ _ _ _ _ rfl (fun _ => ?_) (fun h => by simp [a2, a3] at h)
     simp [m0, m1, m5, m6, m7, w1]
    ·have e : (dd2 c) = (dd1 c) := by unfold dd2; rw [if_neg a1]
     rw [e]
     refine aA _ _ _ _ _ _ _ rfl (fun h => ?_) (fun _ => ?_)
     ·exfalso; simp at h; omega
     ·simp [m0, m1, m5, m6, m7, m8]
   clear m0 m1 m5 m6 m7 m8
   rintro ex env2 s2 ⟨rfl, hs2, m0, m1, m5, m6, m7, m8⟩
   rw [hs2]
   simp [m7]
   refine Out.mono (Q := fun ex env' s' => ex = .norm ∧ s' = s ∧ env' 0 = .str b ∧ env' 1 = .int .i64 p ∧ env' 5 = .int .i64 n ∧ env' 6 = .int .i64 ((b.length - (t.length + 1) : Nat) : Int) ∧ env' 7 = .int .i64 (c.toNat : Int) ∧ env' 8 = .int .i64 (dd3 c)) ?_ ?_
   ·by_cases a1 : 65 ≤ c.toNat ∧ c.toNat ≤ 70
    ·have a2 : (65 : Int) ≤ (c.toNat : Int) := by omega
     have a3 : (c.toNat : Int) ≤ 70 := by omega
     have w1 : IntKind.i64.wrap ((c.toNat : Int) - 55) = (c.toNat : Int) - 55 := aD (by omega) (by omega)
     have e : (dd3 c) = (c.toNat : Int) - 55 := by unfold dd3; rw [if_pos a1]
     rw [e]
     refine aA _ _ _ _ _ _ _ rfl (fun _ => ?_) (fun h => by simp [a2, a3] at h)
     simp [m0, m1, m5, m6, m7, w1]
    ·have e : (dd3 c) = (dd2 c) := by unfold dd3; rw [if_neg a1]
     rw [e]
     refine aA _ _ _ _ _ _ _ rfl (fun h => ?_) (fun _ => ?_)
     ·exfalso; simp at h; omega
     ·simp [m0, m1, m5, m6, m7, m8]
   clear m0 m1 m5 m6 m7 m8
   rintro ex env3 s3 ⟨rfl, hs3, m0, m1, m5, m6, m7, m8⟩
   rw [hs3]
   have hd3 : dd3 c = kO c := IP c
   rw [hd3] at m8
   have hxr := Af c
   simp [m8]
   by_cases hneg : kO c < 0
   ·refine aA _ _ _ _ _ _ _ rfl (fun _ => ?_) (fun h => by simp at h; omega)
    simp [lE, hneg]
   ·have hn3 : n ≤ 65536 := by
     have h16 : (1 : Int) ≤ 16 ^ (k + 1) := Int.pow_pos (by decide)
     have := Int.mul_le_mul_of_nonneg_left h16 (show (0 : Int) ≤ n + 1 by omega)
     omega
    have w2 : IntKind.i64.wrap (n * 16) = n * 16 := aD (by omega) (by omega)
    have w3 : IntKind.i64.wrap (n * 16 + kO c) = n * 16 + kO c := aD (by omega) (by omega)
    have hk16 : (n * 16 + kO c + 1) * 16 ^ k ≤ 65536 := by
     have hp16 : (0 : Int) ≤ 16 ^ k := Int.le_of_lt (Int.pow_pos (by decide))
     have h1 := Int.mul_le_mul_of_nonneg_right (show n * 16 + kO c + 1 ≤ (n + 1) * 16 by omega) hp16
     have h2 : (n + 1) * 16 * 16 ^ k = (n + 1) * 16 ^ (k + 1) := by rw [Int.pow_succ, Int.mul_assoc, Int.mul_comm 16]
     omega
    refine aA _ _ _ _ _ _ _ rfl (fun h => by simp at h; omega) (fun _ => ?_)
    simp [m5, m6, m8, w2, w3, hw6]
    refine Out.mono (ih t (n * 16 + kO c) p _ s (cJ hv) (by omega) (by omega) (by omega) hk16 (by simp [m0]) (by simp [m1]) hp0 hp1 (by omega) (by simp) (by simp)) ?_
    rintro ex env' s' ⟨a, h⟩
    refine ⟨a, ?_⟩
    simpa [lE, hneg] using h
def lJ (u : List UInt8) : Int := if u.length < 4 then -1 else lE 0 (u.take 4)
theorem rU {b u : List UInt8} (hb : b.length ≤ 1000000000) (hu : u <:+ b) (s : St) : call G 288 [.str b, .int .i64 ((b.length - u.length : Nat) : Int)] s = some (.int .i64 (lJ u), s) := by
 have hlen := aO hu
 refine aC (F := af288) rfl rfl ?_
 have w3 : IntKind.i64.wrap ((b.length : Int) - 3) = (b.length : Int) - 3 := aD (by omega) (by omega)
 by_cases h4 : u.length < 4
 ·have hc : (b.length : Int) - 3 ≤ ((b.length - u.length : Nat) : Int) := by omega
  simp [af288, af288b, w3, hc]
  refine aA _ _ _ _ _ _ _ rfl (fun _ => ?_) (fun h => by simp at h)
  simp [lJ, h4]
  rw [aS _ (v := .int .i64 _) rfl]
  rfl
 ·have hc : ¬ (b.length : Int) - 3 ≤ ((b.length - u.length : Nat) : Int) := by omega
  simp [af288, af288b, w3, hc]
  refine aA _ _ _ _ _ _ _ rfl (fun h => by simp at h) (fun _ => ?_)
  simp
  refine Out.mono (BJ hb 4 u 0 ((b.length - u.length : Nat) : Int) _ s hu (by omega) (by omega) (by omega) (by decide) (by simp) (by simp) (by omega) (by omega) (by omega) (by simp) (by simp)) ?_
  rintro ex env' s' ⟨rfl, ⟨h1, rfl, h2⟩ | ⟨h1, rfl, h2⟩⟩
  ·have hm : lE 0 (u.take 4) = -1 := by
    have := tY (u.take 4) 0 (by omega)
    omega
   simp [h2, lJ, h4, hm]
   rw [aS _ (v := .int .i64 _) rfl]
   rfl
  ·simp [h2, lJ, h4]
   rw [aS _ (v := .int .i64 _) rfl]
   rfl
def sgn : List UInt8 := [34, 92, 47, 98, 102, 110, 114, 116]
def std : List UInt8 := [34, 92, 47, 8, 12, 10, 13, 9]
def rE : List (UInt8 × UInt8) → UInt8 → Option UInt8
 | [], _ => none
 | p :: ps, c => if p.1 = c then some p.2 else rE ps c
def tabS : List (UInt8 × UInt8) := sgn.zip std
theorem BK (c : UInt8) : ∀ (m i : Nat) (env : Env) (s : St), 8 - i = m → i ≤ 8 → env 9 = .int .i64 i → env 7 = .str sgn → env 8 = .str std → env 6 = .int .u8 c.toNat →
  Out (evC G (.loop false af246l0) env s) (fun ex env' s' => s' = s ∧ match rE (tabS.drop i) c with
   | some x => ex = .ret ∧ env' 4 = .int .i32 x.toNat ∧ env' 5 = .int .i64 2
   | none => ex = .exit 0 ∧ env' 0 = env 0 ∧ env' 1 = env 1 ∧ env' 6 = env 6) := by
 intro m
 induction m with
 | zero =>
  intro i env s hm hi h9 h7 h8 h6
  have : i = 8 := by omega
  subst this
  refine aH G false _ _ af246l0.eq_1 _ _ _ ?_
  simp [h9, h7, sgn]
  refine aA _ _ _ _ _ _ _ rfl (fun h => by simp at h) (fun _ => ?_)
  simp [tabS, sgn, std, rE]
 | succ m ih =>
  intro i env s hm hi h9 h7 h8 h6
  have hlt : i < 8 := by omega
  have hlt' : (i : Int) < 8 := by omega
  have hs : sgn.length = 8 := rfl
  have hd : std.length = 8 := rfl
  have hsi : i < sgn.length := by omega
  have hdi : i < std.length := by omega
  have hg : sgn[((i : Nat) : Int).toNat]? = some sgn[i] := by rw [Int.toNat_natCast]; exact List.getElem?_eq_getElem hsi
  have hg2 : std[((i : Nat) : Int).toNat]? = some std[i] := by rw [Int.toNat_natCast]; exact List.getElem?_eq_getElem hdi
  have hdrop : tabS.drop i = (sgn[i], std[i]) :: tabS.drop (i + 1) := by
   unfold tabS
   rw [List.drop_eq_getElem_cons (by simp [hs, hd]; exact hlt)]
   simp
   rfl
  have hw : IntKind.i64.wrap ((i : Int) + 1) = ((i + 1 : Nat) : Int) := by rw [aD (by omega) (by omega)]; omega
  have hx : ((sgn[i].toNat : Int) = (c.toNat : Int)) ↔ sgn[i] = c := by rw [← UInt8.toNat_inj]; omega
  have hw32 : IntKind.i32.wrap (std[i].toNat : Int) = (std[i].toNat : Int) := by
   have := eZ std[i]
   have e : (2 : Int) ^ IntKind.i32.bits = 4294967296 := by decide
   have e' : (2 : Int) ^ (IntKind.i32.bits - 1) = 2147483648 := by decide
   have e'' : IntKind.i32.signed = true := by decide
   unfold IntKind.wrap
   simp only [e, e', e'', Bool.true_and, decide_eq_true_eq, ge_iff_le]
   split <;> omega
  refine aH G false _ _ af246l0.eq_1 _ _ _ ?_
  generalize sgn[i] = a at hg hdrop hx
  generalize std[i] = d at hg2 hdrop hw32
  simp [h9, h7, hs, hlt, hlt']
  refine aA _ _ _ _ _ _ _ rfl (fun _ => ?_) (fun h => by simp at h)
  simp [h9, h7, h6, ↓hg, hx]
  rw [hdrop]
  by_cases ha : a = c
  ·refine aA _ _ _ _ _ _ _ rfl (fun _ => ?_) (fun h => by simp [ha] at h)
   simp [h8, h9, ↓hg2, hw32, rE, ha]
  ·refine aA _ _ _ _ _ _ _ rfl (fun h => by simp [ha] at h) (fun _ => ?_)
   simp [h9, hw]
   refine Out.mono (ih (i + 1) _ s (by omega) (by omega) (by simp) (by simp [h7]) (by simp [h8]) (by simp [h6])) ?_
   rintro ex env' s' ⟨rfl, h⟩
   refine ⟨rfl, ?_⟩
   simp only [rE]
   rw [if_neg ha]
   revert h
   cases rE (tabS.drop (i + 1)) c with
   | none => intro h; simpa [h6] using h
   | some x => intro h; simpa using h
theorem Bj (c : UInt8) : fJ c = match rE tabS c with | some x => ((x.toNat : Int), true) | none => (0, false) := by
 have key : ∀ k : Fin 256, fJ (UInt8.ofNat k.val) = match rE tabS (UInt8.ofNat k.val) with | some x => ((x.toNat : Int), true) | none => (0, false) := by decide +kernel
 have := key ⟨c.toNat, c.toNat_lt⟩
 simpa using this
theorem wX (l : List UInt8) : cM l = if l[0]? = some 92 ∧ l[1]? = some 117 then lJ (l.drop 2) else -1 := by
 rcases l with _ | ⟨a, _ | ⟨u, _ | ⟨d1, _ | ⟨d2, _ | ⟨d3, _ | ⟨d4, r⟩⟩⟩⟩⟩⟩ <;> simp [cM, lJ]
 rw [if_neg (show ¬ r.length + 1 + 1 + 1 + 1 < 4 by omega)]
theorem Bn (u : List UInt8) : -1 ≤ lJ u ∧ lJ u < 65536 ∧ (0 ≤ lJ u → 4 ≤ u.length) := by
 unfold lJ
 split
 ·exact ⟨by omega, by omega, fun h => by omega⟩
 ·refine ⟨tY _ _ (by omega), Ag _ _ (by omega) ?_, fun _ => by omega⟩
  have : (u.take 4).length = 4 := by simp; omega
  rw [this]; decide
set_option maxHeartbeats 400000 in
theorem Aw {b l : List UInt8} (hb : b.length ≤ 1000000000) (hl : l <:+ b) (h92 : l[0]? = some 92) (s : St) :
  call G 246 [.str b, .int .i64 ((b.length - l.length : Nat) : Int)] s = some (.tup [.int .i32 (gQ l).1, .int .i64 (gQ l).2], s) := by
 have hlen := aO hl
 have hU := wX l
 have hV := wX (l.drop 6)
 have hfu : l.drop 2 <:+ b := (List.drop_suffix 2 l).trans hl
 have hfv : l.drop 8 <:+ b := (List.drop_suffix 8 l).trans hl
 refine aC (F := af246) rfl rfl ?_
 have w1 : IntKind.i64.wrap ((b.length : Int) - 1) = (b.length : Int) - 1 := aD (by omega) (by omega)
 have hl0 : 0 < l.length := by
  cases l with
  | nil => simp at h92
  | cons x t => simp
 have wa : ∀ k : Nat, k ≤ 10 → IntKind.i64.wrap (((b.length - l.length : Nat) : Int) + (k : Int)) = ((b.length - l.length + k : Nat) : Int) := fun k hk => by rw [aD (by omega) (by omega)]; omega
 have w01 := wa 1 (by omega)
 have w02 := wa 2 (by omega)
 have w06 := wa 6 (by omega)
 have w07 := wa 7 (by omega)
 have w08 := wa 8 (by omega)
 clear wa
 by_cases h1 : l.length ≤ 1
 ·have hc : (b.length : Int) - 1 ≤ ((b.length - l.length : Nat) : Int) := by omega
  have hu1 : cM l = -1 := pI (by omega)
  have hn1 : ¬ 1 < l.length := by omega
  simp [af246, af246b, w1, hc]
  refine aA _ _ _ _ _ _ _ rfl (fun _ => ?_) (fun h => by simp at h)
  simp [gQ, hn1, hu1]
  rw [aS _ (v := .tup _) rfl]
  rfl
 have hn1 : 1 < l.length := by omega
 have hc : ¬ (b.length : Int) - 1 ≤ ((b.length - l.length : Nat) : Int) := by omega
 obtain ⟨c, hc1⟩ : ∃ c, l[1]? = some c := ⟨_, List.getElem?_eq_getElem hn1⟩
 have gx : ∀ k, k < l.length → b[b.length - l.length + k]? = l[k]? := fun k hk => by
  have h := dE hl
  rw [← List.getElem?_drop, h]
 have g1 : b[((b.length - l.length + 1 : Nat) : Int).toNat]? = some c := by rw [Int.toNat_natCast, gx 1 hn1]; exact hc1
 have lt1 : b.length - l.length + 1 < b.length := by omega
 rw [show ((b.length - l.length + 1 : Nat) : Int) = ((b.length - l.length : Nat) : Int) + 1 by omega] at g1 w01
 have lt1' : ((b.length - l.length : Nat) : Int) + 1 < (b.length : Int) := by omega
 have ge1' : (0 : Int) ≤ ((b.length - l.length : Nat) : Int) + 1 := by omega
 simp at w01
 simp [af246, af246b, w1, hc, w01, ↓g1]
 refine aA _ _ _ _ _ _ _ rfl (fun h => by simp at h) (fun _ => ?_)
 simp [w01, ↓g1, lt1', ge1']
 have hfs := Bj c
 have hge : (l[1]?).getD 0 = c := by rw [hc1]; rfl
 refine Out.mono (BK c 8 0 _ s rfl (by omega) rfl rfl rfl rfl) ?_
 rintro ex env' s' ⟨hss, h⟩
 rw [hss]
 rw [List.drop_zero] at h
 cases hf : rE tabS c with
 | some x =>
  rw [hf] at h hfs
  obtain ⟨rfl, h4, h5⟩ := h
  have he : gQ l = ((x.toNat : Int), 2) := by
   unfold gQ
   rw [hge, hfs, if_pos ⟨hn1, rfl⟩]
  rw [he]
  simp [h4, h5]
  rw [aS _ (v := .tup _) rfl]
  rfl
 | none =>
  rw [hf] at h hfs
  obtain ⟨rfl, h0, h1, h6⟩ := h
  simp at h0 h1 h6
  have hE : gQ l = if cM l < 0 ∨ (56320 ≤ cM l ∧ cM l ≤ 57343) then (0, 0)
    else if cM l < 55296 ∨ 57343 < cM l then (cM l, 6)
    else if cM (l.drop 6) < 56320 ∨ 57343 < cM (l.drop 6) then (0, 0)
    else (65536 + (cM l - 55296) * 1024 + cM (l.drop 6) - 56320, 12) := by
   rw [gQ, hge, hfs, if_neg (by simp)]
  rw [hE]
  have e117 : ((c.toNat : Int) = 117) ↔ c = 117 := gL c 117 (by decide)
  by_cases hu : c = 117
  ·subst hu
   have hun : cM l = lJ (l.drop 2) := by rw [hU, if_pos ⟨h92, hc1⟩]
   clear hU hE
   have hle2 : (l.drop 2).length = l.length - 2 := List.length_drop ..
   have q2 : b.length - (l.drop 2).length = b.length - l.length + 2 := by omega
   have hf4 := rU hb hfu s
   rw [q2, Int.natCast_add] at hf4
   simp only [Int.cast_ofNat_Int] at hf4
   have hr := Bn (l.drop 2)
   rw [hun]
   generalize lJ (l.drop 2) = n at hf4 hr ⊢
   have w02' : IntKind.i64.wrap (((b.length - l.length : Nat) : Int) + 2) = ((b.length - l.length : Nat) : Int) + 2 := w02
   simp only [cA, if_true, cC]
   simp [h6, h0, h1]
   refine aA _ _ _ _ _ _ _ rfl (fun h => by simp at h) (fun _ => ?_)
   refine iN (P := fun e => e 0 = .str b ∧ e 1 = .int .i64 ((b.length - l.length : Nat) : Int)) (by simp [h0, h1]) ?_
   clear h0 h1 h6
   rintro env' ⟨h0, h1⟩
   simp [h0, h1, w02', hf4]
   by_cases c1 : n < 0
   ·refine aA _ _ _ _ _ _ _ rfl (fun _ => ?_) (fun h => by simp [c1] at h)
    simp [c1]
    rw [aS _ (v := .tup _) rfl]
    rfl
   refine aA _ _ _ _ _ _ _ rfl (fun h => by simp [c1] at h) (fun _ => ?_)
   refine iN (P := fun e => e 0 = .str b ∧ e 1 = .int .i64 ((b.length - l.length : Nat) : Int) ∧ e 10 = .int .i64 n) (by simp [h0, h1]) ?_
   clear h0 h1
   rintro env' ⟨h0, h1, h10⟩
   have w32 : IntKind.i32.wrap n = n := gA (by omega) (by omega)
   by_cases c2 : n < 55296
   ·have c3 : ¬ 56320 ≤ n := by omega
    simp [h10, c1, c2, c3, w32]
    refine aA _ _ _ _ _ _ _ rfl (fun _ => ?_) (fun h => by simp at h)
    simp [h10, w32]
    rw [aS _ (v := .tup _) rfl]
    rfl
   by_cases c4 : 57343 < n
   ·have c3 : ¬ n ≤ 57343 := by omega
    simp [h10, c1, c2, c3, c4, w32]
    refine aA _ _ _ _ _ _ _ rfl (fun _ => ?_) (fun h => by simp at h)
    simp [h10, w32]
    rw [aS _ (v := .tup _) rfl]
    rfl
   have c4' : n ≤ 57343 := by omega
   simp [h10, c1, c2, c4, c4']
   refine aA _ _ _ _ _ _ _ rfl (fun h => by simp at h) (fun _ => ?_)
   refine iN (P := fun e => e 0 = .str b ∧ e 1 = .int .i64 ((b.length - l.length : Nat) : Int) ∧ e 10 = .int .i64 n) (by simp [h0, h1, h10]) ?_
   clear h0 h1 h10
   rintro env' ⟨h0, h1, h10⟩
   by_cases c5 : 56319 < n
   ·have c5' : 56320 ≤ n := by omega
    simp [h10, c5, c5']
    refine aA _ _ _ _ _ _ _ rfl (fun _ => ?_) (fun h => by simp at h)
    simp
    rw [aS _ (v := .tup _) rfl]
    rfl
   have c5' : ¬ 56320 ≤ n := by omega
   have w7 : IntKind.i64.wrap ((b.length : Int) - 7) = (b.length : Int) - 7 := aD (by omega) (by omega)
   have hfin : ∀ env : Env, env 4 = .int .i32 0 → True := fun _ _ => trivial
   have hdd : (l.drop 6)[0]? = l[6]? := by simp
   have hdd1 : (l.drop 6)[1]? = l[7]? := by simp
   rw [hdd, hdd1, List.drop_drop] at hV
   by_cases c6 : l.length ≤ 7
   ·have hc6 : (b.length : Int) - 7 ≤ ((b.length - l.length : Nat) : Int) := by omega
    have hv1 : cM (l.drop 6) = -1 := pI (by rw [List.length_drop]; omega)
    have hc6' : ¬ ((b.length - l.length : Nat) : Int) < (b.length : Int) - 7 := by omega
    simp [h10, c5, c5', h0, h1, w7, hc6, hc6', hv1]
    refine aA _ _ _ _ _ _ _ rfl (fun _ => ?_) (fun h => by simp at h)
    simp
    rw [aS _ (v := .tup _) rfl]
    rfl
   have hc6 : ¬ (b.length : Int) - 7 ≤ ((b.length - l.length : Nat) : Int) := by omega
   obtain ⟨x, hx⟩ : ∃ x, l[6]? = some x := ⟨_, List.getElem?_eq_getElem (by omega)⟩
   obtain ⟨y, hy⟩ : ∃ y, l[7]? = some y := ⟨_, List.getElem?_eq_getElem (by omega)⟩
   have g6 : b[b.length - l.length + 6]? = some x := by rw [gx 6 (by omega), hx]
   have g7 : b[b.length - l.length + 7]? = some y := by rw [gx 7 (by omega), hy]
   have ex92 : ((x.toNat : Int) = 92) ↔ x = 92 := gL x 92 (by decide)
   have ey117 : ((y.toNat : Int) = 117) ↔ y = 117 := gL y 117 (by decide)
   have w06' : IntKind.i64.wrap (((b.length - l.length : Nat) : Int) + 6) = ((b.length - l.length : Nat) : Int) + 6 := w06
   have w07' : IntKind.i64.wrap (((b.length - l.length : Nat) : Int) + 7) = ((b.length - l.length : Nat) : Int) + 7 := w07
   have w08' : IntKind.i64.wrap (((b.length - l.length : Nat) : Int) + 8) = ((b.length - l.length : Nat) : Int) + 8 := w08
   have t6 : (((b.length - l.length : Nat) : Int) + 6).toNat = b.length - l.length + 6 := by omega
   have t7 : (((b.length - l.length : Nat) : Int) + 7).toNat = b.length - l.length + 7 := by omega
   rw [← t6] at g6
   rw [← t7] at g7
   rw [hx, hy] at hV
   clear hfs hge h92 hc1 g1 lt1 lt1' ge1' w01 w02 w06 w07 w08
   have z6 : (0 : Int) ≤ ((b.length - l.length : Nat) : Int) + 6 := by omega
   have z7 : (0 : Int) ≤ ((b.length - l.length : Nat) : Int) + 7 := by omega
   have y6 : ((b.length - l.length : Nat) : Int) + 6 < (b.length : Int) := by omega
   have y7 : ((b.length - l.length : Nat) : Int) + 7 < (b.length : Int) := by omega
   have hc6' : ((b.length - l.length : Nat) : Int) < (b.length : Int) - 7 := by omega
   simp [h10, c5, c5', h0, h1, w7, hc6, hc6', w06', w07', ↓g6, ↓g7, z6, z7, y6, y7, ex92, ey117]
   by_cases c7 : x = 92 ∧ y = 117
   ·obtain ⟨rfl, rfl⟩ := c7
    have hvn : cM (l.drop 6) = lJ (l.drop 8) := by rw [hV, if_pos ⟨rfl, rfl⟩]
    clear hV
    have q8 : b.length - (l.drop 8).length = b.length - l.length + 8 := by rw [List.length_drop]; omega
    have hf8 := rU hb hfv s
    rw [q8, Int.natCast_add] at hf8
    simp only [Int.cast_ofNat_Int] at hf8
    have hr8 := Bn (l.drop 8)
    rw [hvn]
    generalize lJ (l.drop 8) = m at hf8 hr8 ⊢
    simp
    refine aA _ _ _ _ _ _ _ rfl (fun h => by simp at h) (fun _ => ?_)
    refine iN (P := fun e => e 0 = .str b ∧ e 1 = .int .i64 ((b.length - l.length : Nat) : Int) ∧ e 10 = .int .i64 n) (by simp [h0, h1, h10]) ?_
    clear h0 h1 h10
    rintro env' ⟨h0, h1, h10⟩
    simp [h0, h1, w08', hf8]
    by_cases d1 : m < 56320
    ·have d1' : ¬ 56320 ≤ m := by omega
     simp [d1, d1']
     refine aA _ _ _ _ _ _ _ rfl (fun _ => ?_) (fun h => by simp at h)
     simp
     rw [aS _ (v := .tup _) rfl]
     rfl
    have d1' : 56320 ≤ m := by omega
    by_cases d2 : 57343 < m
    ·have d2' : ¬ m ≤ 57343 := by omega
     simp [d1, d1', d2, d2']
     refine aA _ _ _ _ _ _ _ rfl (fun _ => ?_) (fun h => by simp at h)
     simp
     rw [aS _ (v := .tup _) rfl]
     rfl
    have v1 : IntKind.i64.wrap (n - 55296) = n - 55296 := aD (by omega) (by omega)
    have v2 : IntKind.i64.wrap ((n - 55296) * 1024) = (n - 55296) * 1024 := aD (by omega) (by omega)
    have v3 : IntKind.i64.wrap (65536 + (n - 55296) * 1024) = 65536 + (n - 55296) * 1024 := aD (by omega) (by omega)
    have v4 : IntKind.i64.wrap (65536 + (n - 55296) * 1024 + m) = 65536 + (n - 55296) * 1024 + m := aD (by omega) (by omega)
    have v5 : IntKind.i64.wrap (65536 + (n - 55296) * 1024 + m - 56320) = 65536 + (n - 55296) * 1024 + m - 56320 := aD (by omega) (by omega)
    have v6 : IntKind.i32.wrap (65536 + (n - 55296) * 1024 + m - 56320) = 65536 + (n - 55296) * 1024 + m - 56320 := gA (by omega) (by omega)
    have d2' : m ≤ 57343 := by omega
    simp [d1, d1', d2, d2']
    refine aA _ _ _ _ _ _ _ rfl (fun h => by simp at h) (fun _ => ?_)
    simp [h10, v1, v2, v3, v4, v5, v6]
    rw [aS _ (v := .tup _) rfl]
    rfl
   ·have hv1 : cM (l.drop 6) = -1 := by rw [hV, if_neg (by simpa using c7)]
    have c8 : x = 92 → ¬ y = 117 := fun h h2 => c7 ⟨h, h2⟩
    by_cases c9 : x = 92
    ·simp [hv1, c9, c8 c9]
     refine aA _ _ _ _ _ _ _ rfl (fun _ => ?_) (fun h => by simp at h)
     simp
     rw [aS _ (v := .tup _) rfl]
     rfl
    ·simp [hv1, c9]
     refine aA _ _ _ _ _ _ _ rfl (fun _ => ?_) (fun h => by simp at h)
     simp
     rw [aS _ (v := .tup _) rfl]
     rfl
  ·simp [h6, h0, h1, e117, hu]
   refine aA _ _ _ _ _ _ _ rfl (fun _ => ?_) (fun h => by simp at h)
   have hu1 : cM l = -1 := by rw [hU, if_neg (by rw [hc1]; simp [hu])]
   simp [hu1]
   rw [aS _ (v := .tup _) rfl]
   rfl
theorem nH {c : UInt8} {t : List UInt8} (h : c.toNat < 128) : bS (c :: t) 0 = (c.toNat, 1) := by
 have he : bP c.toNat = [c] := by rw [bP, if_pos h]; exact congrArg (· :: []) (gO rfl)
 have := GL c.toNat t ⟨by omega, by omega⟩
 rw [he] at this
 exact this
theorem tW {c : UInt8} {t : List UInt8} (h : 128 ≤ c.toNat) : 128 ≤ (bS (c :: t) 0).1 := by
 have h1 := kT (c :: t) 0 (by simp)
 have h2 := lH (c :: t) 0 (by simp)
 by_cases hd : bS (c :: t) 0 = (65533, 1)
 ·rw [hd]; decide
 ·rw [if_neg hd] at h1
  have h3 := qT (c :: t) 0 (by simp) (by rw [h1]; simp only; omega)
  rw [h1] at h3
  rcases h3.2 with ⟨_, _, h4⟩ | ⟨h4, _⟩
  ·simp at h4; omega
  ·exact h4
theorem EZ {l : List UInt8} (hne : l ≠ []) (hd : bS l 0 ≠ (65533, 1)) : bP (bS l 0).1 = l.take (bS l 0).2 := by
 have hp := List.length_pos_iff.2 hne
 have h1 := kT l 0 hp
 have h2 := lH l 0 hp
 rw [if_neg hd] at h1
 have h3 := qT l 0 hp (by rw [h1]; simp only; omega)
 rw [h1] at h3
 exact h3.1
theorem Be {b l : List UInt8} (hl : l <:+ b) (hne : l ≠ []) : bS b (b.length - l.length) = bS l 0 := by
 have hp := List.length_pos_iff.2 hne
 have hlen := aO hl
 have h1 := nG b (b.length - l.length) (by omega)
 have h2 := nG l 0 hp
 rw [dE hl] at h1
 rw [List.drop_zero] at h2
 rw [← h1, h2]
theorem FX {b l : List UInt8} (hl : l <:+ b) (hne : l ≠ []) : cI b (b.length - l.length) = if bS l 0 = (65533, 1) then (0, 0) else ((bS l 0).2, (bS l 0).1) := by
 have hp := List.length_pos_iff.2 hne
 have hlen := aO hl
 rw [kT b _ (by omega), Be hl hne]
theorem Dk {q : List UInt8} (hq : q.length ≤ 1000000000) : ∀ (f : Nat) (l acc : List UInt8) (env : Env) (s : St), l <:+ q → l.length < f → acc.length + 4 * l.length ≤ 4000000000 → env 0 = .str q → env 5 = .str acc →
  env 6 = .int .i64 ((q.length - l.length : Nat) : Int) →
  Out (evC G (.loop false af182l0) env s) (fun e env' s' => s' = s ∧
   ((e = .exit 0 ∧ env' 0 = .str q ∧ eJ f l acc = .err [] 4) ∨
    (e = .ret ∧ env' 2 = .str (prT (eJ f l acc)) ∧ env' 3 = .int .i64 ((q.length - (eJ f l acc).rest.length : Nat) : Int) ∧ env' 4 = .int .i64 (eJ f l acc).e))) := by
 intro f
 induction f with
 | zero => intro l acc env s hl hf; omega
 | succ f ih =>
  intro l acc env s hl hf hacc h0 h5 h6
  have hlen := aO hl
  refine aH G false _ _ af182l0.eq_1 _ _ _ ?_
  cases l with
  | nil =>
   simp [h0, h6]
   refine aA _ _ _ _ _ _ _ rfl (fun h => by cases h) (fun _ => ?_)
   simp [h0, eJ]
  | cons c t =>
   simp only [List.length_cons] at hlen hf hacc h6
   have hlt' : q.length - (t.length + 1) < q.length := by omega
   have hgi := eM hl
   have e34 : ((c.toNat : Int) = 34) ↔ c = 34 := gL c 34 (by decide)
   have e92 : ((c.toNat : Int) = 92) ↔ c = 92 := gL c 92 (by decide)
   have e32 : ((c.toNat : Int) < 32) ↔ c.toNat < 32 := by omega
   simp [h0, h6, hlt']
   refine aA _ _ _ _ _ _ _ rfl (fun _ => ?_) (fun h => by cases h)
   refine iN (P := fun e => e 0 = .str q ∧ e 5 = .str acc ∧ e 6 = .int .i64 ((q.length - (t.length + 1) : Nat) : Int)) (by simp [h0, h5, h6]) ?_
   clear h0 h5 h6
   rintro env ⟨h0, h5, h6⟩
   simp [h0, h6, ↓hgi, e34]
   by_cases c1 : c = 34
   ·subst c1
    have hw : IntKind.i64.wrap (((q.length - (t.length + 1) : Nat) : Int) + 1) = ((q.length - t.length : Nat) : Int) := by rw [aD (by omega) (by omega)]; omega
    have hd : bS (34 :: t) 0 = (34, 1) := nH (by decide)
    refine aA _ _ _ _ _ _ _ rfl (fun _ => ?_) (fun h => by simp at h)
    simp [h5, h6, hw, eJ, hd, prT, PR.rest, PR.e]
   refine aA _ _ _ _ _ _ _ rfl (fun h => by simp [c1] at h) (fun _ => ?_)
   refine iN (P := fun e => e 0 = .str q ∧ e 5 = .str acc ∧ e 6 = .int .i64 ((q.length - (t.length + 1) : Nat) : Int)) (by simp [h0, h5, h6]) ?_
   clear h0 h5 h6
   rintro env ⟨h0, h5, h6⟩
   simp [h0, h6, ↓hgi, e32]
   have hc0 : ¬ (bS (c :: t) 0).1 = 34 := by
    by_cases hlo : c.toNat < 128
    ·rw [nH hlo]
     intro hh
     exact c1 (UInt8.toNat_inj.1 hh)
    ·have := tW (t := t) (show 128 ≤ c.toNat by omega)
     omega
   have hne : c :: t ≠ [] := by simp
   by_cases c2 : c.toNat < 32
   ·have hd : bS (c :: t) 0 = (c.toNat, 1) := nH (by omega)
    refine aA _ _ _ _ _ _ _ rfl (fun _ => ?_) (fun h => by simp [c2] at h)
    rw [hd] at hc0
    simp at hc0
    simp [h5, h6, eJ, hd, hc0, c2, prT, PR.rest, PR.e]
   have hc32 : ¬ (bS (c :: t) 0).1 < 32 := by
    by_cases hlo : c.toNat < 128
    ·rw [nH hlo]; exact c2
    ·have := tW (t := t) (show 128 ≤ c.toNat by omega)
     omega
   refine aA _ _ _ _ _ _ _ rfl (fun h => by simp [c2] at h) (fun _ => ?_)
   refine iN (P := fun e => e 0 = .str q ∧ e 5 = .str acc ∧ e 6 = .int .i64 ((q.length - (t.length + 1) : Nat) : Int)) (by simp [h0, h5, h6]) ?_
   clear h0 h5 h6
   rintro env ⟨h0, h5, h6⟩
   simp [h0, h6, ↓hgi, e92]
   by_cases c3 : c = 92
   ·have hsg := Aw hq hl (by rw [c3]; rfl) s
    have hlo : c.toNat < 128 := by rw [c3]; decide
    have hd := nH (t := t) hlo
    have hu : eJ (f + 1) (c :: t) acc = if (gQ (c :: t)).2 = 0 then .err (c :: t) 4 else eJ f ((c :: t).drop (gQ (c :: t)).2) (acc ++ bP (gQ (c :: t)).1.toNat) := by
     rw [eJ, if_neg hne, if_neg hc0, if_neg hc32, hd, if_neg (by rw [c3]; decide), if_pos (by rw [c3]; decide)]
    rw [hu]
    have hok := Ek (c :: t)
    simp only [List.length_cons] at hsg hok
    refine aA _ _ _ _ _ _ _ rfl (fun _ => ?_) (fun h => by simp [c3] at h)
    refine iN (P := fun e => e 0 = .str q ∧ e 5 = .str acc ∧ e 6 = .int .i64 ((q.length - (t.length + 1) : Nat) : Int)) (by simp [h0, h5, h6]) ?_
    clear h0 h5 h6
    rintro env ⟨h0, h5, h6⟩
    generalize gQ (c :: t) = R at hsg hok ⊢
    obtain ⟨R1, R2⟩ := R
    simp only at hsg hok ⊢
    simp [h0, h6, hsg]
    by_cases r0 : R2 = 0
    ·subst r0
     refine aA _ _ _ _ _ _ _ rfl (fun _ => ?_) (fun h => by simp at h)
     simp [h6, prT, PR.rest, PR.e]
    ·obtain ⟨x, rfl, hx, hR2, hR3⟩ := hok r0
     clear hok
     have hrn := Av x hx s
     have hel := mK x
     have hw : IntKind.i64.wrap (((q.length - (t.length + 1) : Nat) : Int) + (R2 : Int)) = ((q.length - ((c :: t).drop R2).length : Nat) : Int) := by
      rw [List.length_drop, List.length_cons, aD (by omega) (by omega)]; omega
     have hal : ((acc.length + (bP x).length : Nat) : Int) ≤ gN := by have : gN = 9223372036854775807 := rfl; omega
     refine aA _ _ _ _ _ _ _ rfl (fun h => by simp [r0] at h) (fun _ => ?_)
     simp at hal
     simp [h5, h6, hrn, hal, hw, r0]
     refine Out.mono (ih ((c :: t).drop R2) (acc ++ bP x) _ s ((List.drop_suffix _ _).trans hl) ?_ ?_ ?_ ?_ ?_) ?_
     ·rw [List.length_drop, List.length_cons]; omega
     ·rw [List.length_drop, List.length_cons, List.length_append]; omega
     ·simp [h0]
     ·simp
     ·simp
     ·rintro e env' s' ⟨hs, h⟩
      exact ⟨hs, h⟩
   ·have hc92 : ¬ (bS (c :: t) 0).1 = 92 := by
     by_cases hlo : c.toNat < 128
     ·rw [nH hlo]
      intro hh
      exact c3 (UInt8.toNat_inj.1 hh)
     ·have := tW (t := t) (show 128 ≤ c.toNat by omega)
      omega
    have hu : eJ (f + 1) (c :: t) acc = if (bS (c :: t) 0).1 = 65533 ∧ (bS (c :: t) 0).2 = 1 then .err (c :: t) 2 else eJ f ((c :: t).drop (bS (c :: t) 0).2) (acc ++ bP (bS (c :: t) 0).1) := by
     rw [eJ, if_neg hne, if_neg hc0, if_neg hc32]
     split
     ·rfl
     ·first | rfl | rw [if_neg hc92]
    rw [hu]
    have hz := yR q (q.length - (c :: t).length) (by omega) (by rw [List.length_cons]; omega) s
    rw [FX hl hne] at hz
    simp only [List.length_cons] at hz
    have hdl := lH (c :: t) 0 (by simp)
    have htk := EZ (l := c :: t) hne
    have hel := mK (bS (c :: t) 0).1
    simp only [List.length_cons, Nat.zero_add] at hdl
    clear hc0 hc32 hc92 hu
    refine aA _ _ _ _ _ _ _ rfl (fun h => by simp [c3] at h) (fun _ => ?_)
    refine iN (P := fun e => e 0 = .str q ∧ e 5 = .str acc ∧ e 6 = .int .i64 ((q.length - (t.length + 1) : Nat) : Int)) (by simp [h0, h5, h6]) ?_
    clear h0 h5 h6
    rintro env ⟨h0, h5, h6⟩
    generalize bS (c :: t) 0 = D at hz hdl htk hel ⊢
    obtain ⟨D1, D2⟩ := D
    simp only at hz hdl htk hel ⊢
    by_cases r0 : (D1, D2) = (65533, 1)
    ·have r1 : D1 = 65533 ∧ D2 = 1 := by simpa using r0
     rw [if_pos r0] at hz
     simp at hz
     simp [h0, h6, hz]
     refine aA _ _ _ _ _ _ _ rfl (fun _ => ?_) (fun h => by simp at h)
     simp [h6, r1, prT, PR.rest, PR.e]
    ·have r1 : ¬ (D1 = 65533 ∧ D2 = 1) := by simpa using r0
     have hD2 : ¬ D2 = 0 := by omega
     have htk' := htk r0
     have hw : IntKind.i64.wrap (((q.length - (t.length + 1) : Nat) : Int) + (D2 : Int)) = ((q.length - (t.length + 1) : Nat) : Int) + (D2 : Int) := aD (by omega) (by omega)
     have hp : ((q.length - (t.length + 1) : Nat) : Int) + (D2 : Int) = ((q.length - ((c :: t).drop D2).length : Nat) : Int) := by
      rw [List.length_drop, List.length_cons]; omega
     have hsl : bD (.str q) (some (.int .i64 ((q.length - (t.length + 1) : Nat) : Int))) (some (.int .i64 (((q.length - (t.length + 1) : Nat) : Int) + (D2 : Int)))) = some (.str ((c :: t).take D2)) := by
      have e : (q.take (q.length - (t.length + 1) + D2)).drop (q.length - (t.length + 1)) = (c :: t).take D2 := by
       have h := dE hl
       simp only [List.length_cons] at h
       rw [List.drop_take, h]
       congr 1
       omega
      have e2 : ((q.length - (t.length + 1) : Nat) : Int) + (D2 : Int) = ((q.length - (t.length + 1) + D2 : Nat) : Int) := by omega
      rw [e2]
      simp only [bD, bnd, Int.toNat_natCast]
      rw [if_pos (by omega), if_pos (by omega)]
      simp only
      rw [if_pos (by omega)]
      rw [e]
     have hal : ((acc.length + ((c :: t).take D2).length : Nat) : Int) ≤ gN := by
      have : gN = 9223372036854775807 := rfl
      rw [← htk']
      omega
     rw [if_neg r0] at hz
     rw [if_neg r1]
     generalize hE : (c :: t).take D2 = E at *
     simp only at hz
     simp at hal
     simp [h0, h6, hz]
     refine aA _ _ _ _ _ _ _ rfl (fun h => by simp [hD2] at h) (fun _ => ?_)
     simp [h0, h5, h6, hw, hsl, hal]
     refine Out.mono (ih ((c :: t).drop D2) (acc ++ bP D1) _ s ((List.drop_suffix _ _).trans hl) ?_ ?_ ?_ ?_ ?_) ?_
     ·rw [List.length_drop, List.length_cons]; omega
     ·rw [List.length_drop, List.length_cons, List.length_append]; omega
     ·simp [h0]
     ·simp [htk']
     ·rw [← hp]; simp
     ·rintro e env' s' ⟨hs, h⟩
      exact ⟨hs, h⟩
theorem BL {q : List UInt8} (hq : q.length ≤ 1000000000) (s : St) :
  call G 182 [.str q] s = some (.tup [.str (prT (oW q)), .int .i64 ((q.length - (oW q).rest.length : Nat) : Int), .int .i64 (oW q).e], s) := by
 refine aC (F := af182) rfl rfl ?_
 unfold oW
 cases q with
 | nil =>
  simp [af182, af182b]
  refine aA _ _ _ _ _ _ _ rfl (fun _ => ?_) (fun h => by cases h)
  simp [eG, prT, PR.rest, PR.e]
  rw [aS _ (v := .tup _) rfl]
  rfl
 | cons c t =>
  have e34 : ((c.toNat : Int) = 34) ↔ c = 34 := gL c 34 (by decide)
  have hbg : eG (c :: t) [34] = decide (c = 34) := by simp [eG]
  rw [hbg]
  have hnl : ¬ ((t.length : Int) + 1 = 0) := by omega
  simp [af182, af182b, e34, hnl]
  by_cases c1 : c = 34
  ·subst c1
   refine aA _ _ _ _ _ _ _ rfl (fun h => by simp at h) (fun _ => ?_)
   simp
   refine Out.mono (Dk hq (t.length + 1) t [] _ s (List.suffix_cons _ _) (by omega) (by simp at hq ⊢; omega) (by simp) (by simp) (by simp)) ?_
   rintro e env' s' ⟨hs, ⟨rfl, h0, hU⟩ | ⟨rfl, h2, h3, h4⟩⟩
   ·rw [hs, hU]
    simp [h0, prT, PR.rest, PR.e]
    rw [aS _ (v := .tup _) rfl]
    rfl
   ·rw [hs]
    simp [h2, h3, h4]
    rw [aS _ (v := .tup _) rfl]
    rfl
  ·refine aA _ _ _ _ _ _ _ rfl (fun _ => ?_) (fun h => by simp [c1] at h)
   simp [c1, prT, PR.rest, PR.e]
   rw [aS _ (v := .tup _) rfl]
   rfl
