/-
 Tokens: what the functions do, one behind the other. No condition.
-/
import Derived.Test.YtboejpobmpfifaaGreatDoorTToks
set_option linter.unusedSimpArgs false
set_option linter.unusedVariables false
namespace Go.Proofs.YtboejpobmpfifaaGreatDoor.Eng
open Go
attribute [local simp] gS gR eT eN dR eV cY cW eU dQ dP eF eS dL cC dU cZ cN dM cA bX cV bW
attribute [local simp] hZ aZ put dB X.ev cF cO cP cS bU dO cR bV dN cQ eR gH kV bM fL gT fE gB V.plain aW V.und bY scK kill aF bQ aG dT dS cT mB bR fU V.real bH bK cU
theorem nT (c : UInt8) (s : St) : call G 198 [.int .u8 c.toNat] s = some (.bool (iR c), s) := by
 have e1 : ((97 : Int) ≤ (c.toNat : Int)) ↔ 97 ≤ c.toNat := by omega
 have e2 : ((c.toNat : Int) ≤ 122) ↔ c.toNat ≤ 122 := by omega
 have e3 : ((65 : Int) ≤ (c.toNat : Int)) ↔ 65 ≤ c.toNat := by omega
 have e4 : ((c.toNat : Int) ≤ 90) ↔ c.toNat ≤ 90 := by omega
 have e5 : ((c.toNat : Int) = 95) ↔ c.toNat = 95 := by omega
 refine aC (F := af198) rfl rfl ?_
 simp [af198, af198b, e1, e2, e3, e4, e5]
 rw [aS _ (v := .bool _) rfl]
 rfl
theorem lR (c : UInt8) (s : St) : call G 199 [.int .u8 c.toNat] s = some (.bool (cB c), s) := by
 have e1 : ((48 : Int) ≤ (c.toNat : Int)) ↔ 48 ≤ c.toNat := by omega
 have e2 : ((c.toNat : Int) ≤ 57) ↔ c.toNat ≤ 57 := by omega
 refine aC (F := af199) rfl rfl ?_
 simp [af199, af199b, e1, e2]
 rw [aS _ (v := .bool _) rfl]
 simp [cB, ← Nat.not_lt]
theorem HC (b : List UInt8) (hb : b.length ≤ 1000000000) : ∀ (f p : Nat) (env : Env) (s : St), p ≤ b.length → b.length < p + f → env 0 = .str b → env 3 = .int .i64 p →
  Out (evC G (.loop false af150l0) env s) (fun e env' s' => s' = s ∧ ((mH b f p = -1 ∧ e = .exit 0) ∨ (mH b f p ≠ -1 ∧ e = .ret ∧ env' 2 = .int .i64 (mH b f p)))) := by
 intro f
 induction f with
 | zero => intro p env s h1 h2; omega
 | succ f ih =>
  intro p env s hp hf h0 h3
  refine aH G false _ _ af150l0.eq_1 _ _ _ ?_
  by_cases hlt : p < b.length
  ·have hz := yR b p (by omega) hlt s
   have hle := HX b p hlt
   by_cases h1 : (cI b p).1 = 0
   ·have hv : mH b (f + 1) p = p := by simp [mH, hlt, h1]
    rw [h1] at hz
    simp [h0, h3, hlt, hz]
    rw [hv]
    exact ⟨by omega, rfl⟩
   ·have hv : mH b (f + 1) p = mH b f (p + (cI b p).1) := by simp [mH, hlt, h1]
    have hw : IntKind.i64.wrap ((p : Int) + ((cI b p).1 : Int)) = ((p + (cI b p).1 : Nat) : Int) := by rw [aD (by omega) (by omega)]; omega
    rw [hv]
    simp [h0, h3, hlt, hz, h1, hw]
    exact ih (p + (cI b p).1) _ s (by omega) (by omega) (by simp [h0]) (by simp)
  ·have hv : mH b (f + 1) p = -1 := by simp [mH, hlt]
   simp [h0, h3, hlt, hv]
theorem FF (b : List UInt8) (hb : b.length ≤ 1000000000) (s : St) : call G 150 [.str b] s = some (.int .i64 (mH b (b.length + 1) 0), s) := by
 refine aC (F := af150) rfl rfl ?_
 simp [af150, af150b]
 refine Out.mono (HC b hb (b.length + 1) 0 _ s (by omega) (by omega) (by simp) (by simp)) ?_
 rintro e env' s' ⟨rfl, ⟨h1, rfl⟩ | ⟨h1, rfl, h2⟩⟩
 ·simp [h1]
  rw [aS _ (v := .int _ _) rfl]
  rfl
 ·simp [h2]
  rw [aS _ (v := .int _ _) rfl]
  rfl
theorem IM {b : List UInt8} (hb : b.length ≤ 1000000000) : ∀ (l : List UInt8) (env : Env) (s : St), l <:+ b → env 0 = .str b → env 1 = .int .i64 ((b.length - l.length : Nat) : Int) →
  Out (evC G (.loop false af205l0) env s) (fun e env' s' => e = .exit 2 ∧ s' = s ∧ env' 0 = .str b ∧ env' 1 = .int .i64 ((b.length - (l.dropWhile bN).length : Nat) : Int)) := by
 intro l
 induction l with
 | nil =>
  intro env s hl h0 h1
  refine aH G false _ _ af205l0.eq_1 _ _ _ ?_
  simp [h0, h1]
 | cons c t ih =>
  intro env s hl h0 h1
  have hlen := aO hl
  simp only [List.length_cons] at hlen h1
  have hlt : b.length - (t.length + 1) < b.length := by omega
  have hgi := eM hl
  have e10 : ((c.toNat : Int) = 10) ↔ c = 10 := gL c 10 (by decide)
  have e13 : ((c.toNat : Int) = 13) ↔ c = 13 := gL c 13 (by decide)
  have hw : IntKind.i64.wrap (((b.length - (t.length + 1) : Nat) : Int) + 1) = ((b.length - t.length : Nat) : Int) := by rw [aD (by omega) (by omega)]; omega
  refine aH G false _ _ af205l0.eq_1 _ _ _ ?_
  by_cases h10 : c = 10
  ·have h10t : (c = 10) = True := eq_true h10
   have hd : (c :: t).dropWhile bN = c :: t := by rw [List.dropWhile_cons, if_neg (by simp [bN, h10])]
   rw [hd]
   simp [h0, h1, hlt, ↓hgi, e10, h10t]
  ·have h10t : (c = 10) = False := eq_false h10
   by_cases h13 : c = 13
   ·have h13t : (c = 13) = True := eq_true h13
    have hd : (c :: t).dropWhile bN = c :: t := by rw [List.dropWhile_cons, if_neg (by simp [bN, h13])]
    rw [hd]
    simp [h0, h1, hlt, ↓hgi, e10, h10t, e13, h13t]
   ·have h13t : (c = 13) = False := eq_false h13
    have hd : (c :: t).dropWhile bN = t.dropWhile bN := by rw [List.dropWhile_cons, if_pos (by simp [bN, h10, h13])]
    rw [hd]
    simp [h0, h1, hlt, ↓hgi, e10, h10t, e13, h13t, hw]
    exact Out.mono (ih _ s (cJ hl) (by simp [h0]) (by simp)) (fun e env' s' h => h)
theorem GD {b : List UInt8} (hb : b.length ≤ 1000000000) : ∀ (n : Nat) (l : List UInt8) (env : Env) (s : St), l.length < n → l <:+ b → env 0 = .str b → env 1 = .int .i64 ((b.length - l.length : Nat) : Int) →
  Out (evC G (.loop false af205l1) env s) (fun e env' s' => s' = s ∧ ((e = .exit 0 ∧ env' 1 = .int .i64 ((b.length - (eE false l).length : Nat) : Int)) ∨ (e = .ret ∧ env' 4 = .int .i64 ((b.length - (eE false l).length : Nat) : Int)))) := by
 intro n
 induction n with
 | zero => intro l env s h; omega
 | succ n ih =>
  intro l env s hn hl h0 h1
  have hlen := aO hl
  refine aH G false _ _ af205l1.eq_1 _ _ _ ?_
  cases l with
  | nil => simp [h0, h1, eE]
  | cons c t =>
   simp only [List.length_cons] at hlen hn h1
   have hlt : b.length - (t.length + 1) < b.length := by omega
   have hgi := eM hl
   have hw : IntKind.i64.wrap (((b.length - (t.length + 1) : Nat) : Int) + 1) = ((b.length - t.length : Nat) : Int) := by rw [aD (by omega) (by omega)]; omega
   have e32 : ((c.toNat : Int) = 32) ↔ c = 32 := gL c 32 (by decide)
   have e9 : ((c.toNat : Int) = 9) ↔ c = 9 := gL c 9 (by decide)
   have e10 : ((c.toNat : Int) = 10) ↔ c = 10 := gL c 10 (by decide)
   have e13 : ((c.toNat : Int) = 13) ↔ c = 13 := gL c 13 (by decide)
   have e44 : ((c.toNat : Int) = 44) ↔ c = 44 := gL c 44 (by decide)
   have e35 : ((c.toNat : Int) = 35) ↔ c = 35 := gL c 35 (by decide)
   by_cases hsep : lO c = true
   ·have hbt : eE false (c :: t) = eE false t := by rw [eE, if_pos hsep]
    rw [hbt]
    have hgo := fun env h0 h1 => ih t env s (by omega) (cJ hl) h0 h1
    simp only [lO, Bool.or_eq_true, decide_eq_true_eq] at hsep
    rcases hsep with (((rfl | rfl) | rfl) | rfl) | rfl
    all_goals
     simp [h0, h1, hlt, ↓hgi, hw]
     exact hgo _ (by simp [h0]) (by simp)
   ·have hs2 := hsep
    simp only [lO, Bool.or_eq_true, decide_eq_true_eq, not_or] at hs2
    obtain ⟨⟨⟨⟨s1, s2⟩, s3⟩, s4⟩, s5⟩ := hs2
    have s1' : (c = 32) = False := eq_false s1
    have s2' : (c = 9) = False := eq_false s2
    have s3' : (c = 10) = False := eq_false s3
    have s4' : (c = 13) = False := eq_false s4
    have s5' : (c = 44) = False := eq_false s5
    by_cases h35 : c = 35
    ·have h35t : (c = 35) = True := eq_true h35
     have hbt : eE false (c :: t) = eE false (t.dropWhile bN) := by rw [eE, if_neg hsep, if_pos h35, uR]
     have hdw : (c :: t).dropWhile bN = t.dropWhile bN := by rw [List.dropWhile_cons, if_pos (by rw [h35]; decide)]
     have hds := (List.dropWhile_suffix bN (l := t))
     have hdl := aO hds
     rw [hbt]
     simp [h0, h1, hlt, ↓hgi, e32, e9, e10, e13, e44, e35, s1', s2', s3', s4', s5', h35t]
     refine Out.mono (IM hb (c :: t) _ s hl (by simp [h0]) (by simp [h1])) ?_
     rintro e env' s' ⟨rfl, rfl, k0, k1⟩
     rw [hdw] at k1
     simp
     exact ih _ _ _ (by omega) (hds.trans (cJ hl)) (by simp [k0]) (by simp [k1])
    ·have h35t : (c = 35) = False := eq_false h35
     have hbt : eE false (c :: t) = c :: t := by rw [eE, if_neg hsep, if_neg h35]
     rw [hbt]
     simp [h0, h1, hlt, ↓hgi, e32, e9, e10, e13, e44, e35, s1', s2', s3', s4', s5', h35t]
theorem rA {b l : List UInt8} (hb : b.length ≤ 1000000000) (hl : l <:+ b) (s : St) :
  call G 205 [.str b, .int .i64 ((b.length - l.length : Nat) : Int)] s = some (.int .i64 ((b.length - (eE false l).length : Nat) : Int), s) := by
 refine aC (F := af205) rfl rfl ?_
 simp [af205, af205b]
 refine Out.mono (GD hb (l.length + 1) l _ s (by omega) hl (by simp) (by simp)) ?_
 rintro e env' s' ⟨rfl, ⟨rfl, h⟩ | ⟨rfl, h⟩⟩
 ·simp [h]
  rw [aS _ (v := .int _ _) rfl]
  rfl
 ·simp [h]
  rw [aS _ (v := .int _ _) rfl]
  rfl
theorem nQ {b l w : List UInt8} (hb : b.length ≤ 1000000000) (hw : w.length ≤ 1000) (hl : l <:+ b) (s : St) :
  call G 268 [.str b, .int .i64 ((b.length - l.length : Nat) : Int), .str w] s = some (.bool (eG l w), s) := by
 refine aC (F := af268) rfl rfl ?_
 have hlen := aO hl
 have h1 : IntKind.i64.wrap ((b.length : Int) - ((b.length - l.length : Nat) : Int)) = (l.length : Int) := by rw [aD (by omega) (by omega)]; omega
 have h2 : IntKind.i64.wrap (((b.length - l.length : Nat) : Int) + (w.length : Int)) = ((b.length - l.length + w.length : Nat) : Int) := by rw [aD (by omega) (by omega)]; omega
 by_cases h : w.length ≤ l.length
 ·have h' : ((w.length : Nat) : Int) ≤ (l.length : Int) := by omega
  have hsl : bD (.str b) (some (.int .i64 ((b.length - l.length : Nat) : Int))) (some (.int .i64 ((b.length - l.length + w.length : Nat) : Int))) = some (.str (l.take w.length)) := by
   have e : (b.take (b.length - l.length + w.length)).drop (b.length - l.length) = l.take w.length := by
    rw [List.drop_take, dE hl]
    congr 1
    omega
   simp only [bD, bnd, Int.toNat_natCast]
   rw [if_pos (by omega), if_pos (by omega)]
   simp only
   rw [if_pos (by omega), e]
  rw [show ((b.length - l.length + w.length : Nat) : Int) = ((b.length - l.length : Nat) : Int) + (w.length : Int) by omega] at hsl h2
  simp [af268, af268b, h1, h2, h, h', hsl]
  rw [aS _ (v := .bool _) rfl]
  simp [eG, h]
 ·have h' : ¬ ((w.length : Nat) : Int) ≤ (l.length : Int) := by omega
  simp [af268, af268b, h1, h2, h, h']
  rw [aS _ (v := .bool _) rfl]
  simp [eG, h]
abbrev Db (k : Int) (t : List UInt8) (a n e : Int) : V := .agg [.int .i64 k, .str t, .int .i64 a, .int .i64 n, .int .i64 e]
theorem nZ (at_ : Int) (s : St) : call G 271 [.int .i64 at_] s = some (Db 0 [] 0 at_ 3, s) := by
 refine aC (F := af271) rfl rfl ?_
 simp [af271, af271b, aI, aB, V.one, aK]
 rw [bZ _ _ _ (by rfl)]
 rfl
theorem Fd (l : List UInt8) (hl : l.length ≤ 1000000000) : ∀ (u : List UInt8) (env : Env) (s : St), u <:+ l → env 0 = .str l → env 3 = .int .i64 ((l.length - u.length : Nat) : Int) →
  Out (evC G (.loop false af332l0) env s) (fun e env' s' => s' = s ∧ ((u.dropWhile kP = [] ∧ e = .exit 0 ∧ env' 0 = .str l) ∨ (u.dropWhile kP ≠ [] ∧ e = .ret ∧ env' 2 = .int .i64 ((l.length - u.length + (u.takeWhile kP).length : Nat) : Int)))) := by
 intro u
 induction u with
 | nil =>
  intro env s hu h0 h3
  refine aH G false _ _ af332l0.eq_1 _ _ _ ?_
  simp [h0, h3]
 | cons c t ih =>
  intro env s hu h0 h3
  have hlen := aO hu
  simp only [List.length_cons] at hlen h3
  have hlt : l.length - (t.length + 1) < l.length := by omega
  have hgi := eM hu
  have hw : IntKind.i64.wrap (((l.length - (t.length + 1) : Nat) : Int) + 1) = ((l.length - t.length : Nat) : Int) := by rw [aD (by omega) (by omega)]; omega
  have e32 : ((c.toNat : Int) = 32) ↔ c = 32 := gL c 32 (by decide)
  have e9 : ((c.toNat : Int) = 9) ↔ c = 9 := gL c 9 (by decide)
  have hbk : kP c = true ↔ c = 32 ∨ c = 9 := by simp [kP]
  have step : kP c = true → Out (evC G (.loop false af332l0) env s) (fun e env' s' => s' = s ∧ (((c :: t).dropWhile kP = [] ∧ e = .exit 0 ∧ env' 0 = .str l) ∨ ((c :: t).dropWhile kP ≠ [] ∧ e = .ret ∧ env' 2 = .int .i64 ((l.length - (c :: t).length + ((c :: t).takeWhile kP).length : Nat) : Int)))) := by
   intro hb
   have hd : (c :: t).dropWhile kP = t.dropWhile kP := by rw [List.dropWhile_cons, if_pos hb]
   have ht : (c :: t).takeWhile kP = c :: t.takeWhile kP := by rw [List.takeWhile_cons, if_pos hb]
   have hp : l.length - (c :: t).length + ((c :: t).takeWhile kP).length = l.length - t.length + (t.takeWhile kP).length := by rw [ht]; simp only [List.length_cons]; omega
   rw [hd, hp]
   have hgo := fun env h0 h3 => ih env s (cJ hu) h0 h3
   refine aH G false _ _ af332l0.eq_1 _ _ _ ?_
   rcases hbk.1 hb with rfl | rfl
   ·simp [h0, h3, hlt, ↓hgi, hw]
    exact Out.mono (hgo _ (by simp [h0]) (by simp)) (fun e env' s' h => by simpa using h)
   ·simp [h0, h3, hlt, ↓hgi, hw]
    exact Out.mono (hgo _ (by simp [h0]) (by simp)) (fun e env' s' h => by simpa using h)
  by_cases hb : kP c = true
  ·exact step hb
  ·have hd : (c :: t).dropWhile kP = c :: t := by rw [List.dropWhile_cons, if_neg hb]
   have ht : (c :: t).takeWhile kP = [] := by rw [List.takeWhile_cons, if_neg hb]
   have hn := mt hbk.2 hb
   rw [not_or] at hn
   have n1 : (c = 32) = False := eq_false hn.1
   have n2 : (c = 9) = False := eq_false hn.2
   rw [hd, ht]
   refine aH G false _ _ af332l0.eq_1 _ _ _ ?_
   simp [h0, h3, hlt, ↓hgi, e32, e9, n1, n2]
theorem vD (l : List UInt8) (hl : l.length ≤ 1000000000) (s : St) : call G 332 [.str l] s = some (.int .i64 (gV l : Int), s) := by
 refine aC (F := af332) rfl rfl ?_
 simp [af332, af332b]
 refine Out.mono (Fd l hl l _ s (List.suffix_refl l) (by simp) (by simp)) ?_
 have hll := rJ l
 rintro e env' s' ⟨rfl, ⟨h1, rfl, h0⟩ | ⟨h1, rfl, h2⟩⟩
 ·rw [h1] at hll
  simp [h0]
  rw [aS _ (v := .int _ _) rfl, hll]
  simp
 ·rw [Nat.sub_self, Nat.zero_add] at h2
  simp [h2]
  rw [aS _ (v := .int _ _) rfl]
  rfl
theorem Il (l : List UInt8) (hl : l.length ≤ 100000000) : ∀ (n : Nat) (u acc : List UInt8) (env : Env) (s : St), u.length < n → u <:+ l → acc.length + u.length ≤ 200000000 → env 0 = .str l → env 1 = .str hid4 → env 2 = .str q3 → env 7 = .str acc → env 8 = .int .i64 ((l.length - u.length : Nat) : Int) →
  Out (evC G (.loop false af330l0) env s) (fun e env' s' => e = .exit 0 ∧ s' = s ∧ env' 7 = .str (acc ++ cH 0 u)) := by
 intro n
 induction n with
 | zero => intro u acc env s h; omega
 | succ n ih =>
  intro u acc env s hn hu hacc h0 h1 h2 h7 h8
  have hlen := aO hu
  refine aH G false _ _ af330l0.eq_1 _ _ _ ?_
  cases u with
  | nil => simp [h0, h7, h8, cH]
  | cons c t =>
   simp only [List.length_cons] at hlen hn hacc h8
   have hlt : l.length - (t.length + 1) < l.length := by omega
   have hlt' : ((l.length - (t.length + 1) : Nat) : Int) < (l.length : Int) := by omega
   have hw0 : IntKind.i64.wrap ((l.length : Int) - ((l.length - (t.length + 1) : Nat) : Int)) = (t.length : Int) + 1 := by rw [aD (by omega) (by omega)]; omega
   have hw4 : IntKind.i64.wrap (((l.length - (t.length + 1) : Nat) : Int) + 4) = ((l.length - (t.length + 1) : Nat) : Int) + 4 := aD (by omega) (by omega)
   have hw1 : IntKind.i64.wrap (((l.length - (t.length + 1) : Nat) : Int) + 1) = ((l.length - t.length : Nat) : Int) := by rw [aD (by omega) (by omega)]; omega
   have h4l : hid4.length = 4 := rfl
   have h3l : q3.length = 3 := rfl
   have i64m : gN = 9223372036854775807 := rfl
   have hdr := dE hu
   simp only [List.length_cons] at hdr
   have slk : ∀ k : Nat, k ≤ t.length + 1 → bD (.str l) (some (.int .i64 ((l.length - (t.length + 1) : Nat) : Int))) (some (.int .i64 (((l.length - (t.length + 1) : Nat) : Int) + (k : Int)))) = some (.str ((c :: t).take k)) := by
    intro k hk
    have e : (l.take (l.length - (t.length + 1) + k)).drop (l.length - (t.length + 1)) = (c :: t).take k := by
     rw [List.drop_take, hdr]
     congr 1
     omega
    have e2 : ((l.length - (t.length + 1) : Nat) : Int) + (k : Int) = ((l.length - (t.length + 1) + k : Nat) : Int) := by omega
    rw [e2]
    simp only [bD, bnd, Int.toNat_natCast]
    rw [if_pos (by omega), if_pos (by omega)]
    simp only
    rw [if_pos (by omega), e]
   have sl1 : bD (.str l) (some (.int .i64 ((l.length - (t.length + 1) : Nat) : Int))) (some (.int .i64 ((l.length - t.length : Nat) : Int))) = some (.str [c]) := by
    have := slk 1 (by omega)
    rw [show ((l.length - (t.length + 1) : Nat) : Int) + ((1 : Nat) : Int) = ((l.length - t.length : Nat) : Int) by omega] at this
    simpa using this
   have hm1 : (acc.length : Int) + 1 ≤ gN := by omega
   have hm3 : (acc.length : Int) + 3 ≤ gN := by omega
   have next : eG (c :: t) hid4 = false → cH 0 (c :: t) = c :: cH 0 t := fun h => by rw [cH, if_neg (by rw [h]; decide)]
   by_cases h4 : 4 ≤ t.length + 1
   ·have h4' : (4 : Int) ≤ (t.length : Int) + 1 := by omega
    have sl4 := slk 4 h4
    simp only [Int.cast_ofNat_Int] at sl4
    by_cases hbg : eG (c :: t) hid4 = true
    ·obtain ⟨r, hr⟩ := uQ hbg
     have htk : (c :: t).take 4 = hid4 := by rw [hr]; rfl
     have hrep : cH 0 (c :: t) = q3 ++ cH 0 r := by
      rw [cH, if_pos hbg]
      simp only [List.cons.injEq] at hr
      obtain ⟨_, rfl⟩ := hr
      rfl
     have hrl : t.length + 1 = r.length + 4 := by
      have := congrArg List.length hr
      simpa using this
     have hrs : r <:+ l := by
      have : r <:+ (c :: t) := ⟨[92, 34, 34, 34], by rw [hr]; rfl⟩
      exact this.trans hu
     rw [htk] at sl4
     rw [hrep]
     simp [h0, h1, h2, h7, h8, hlt, hlt', hw0, hw4, h4, h4', h4l, h3l, sl4, hm3]
     refine Out.mono (ih r (acc ++ q3) _ s (by omega) hrs (by simp [h3l]; omega) (by simp [h0]) (by simp [h1]) (by simp [h2]) (by simp) (by simp; omega)) ?_
     rintro e env' s' ⟨a, b, c⟩
     exact ⟨a, b, by simpa using c⟩
    ·have hne : (c :: t).take 4 ≠ hid4 := by
      intro h
      apply hbg
      unfold eG
      rw [h4l, h]
      simp
      omega
     have hnet : ((c :: t).take 4 = hid4) = False := eq_false hne
     rw [next (by simpa using hbg)]
     generalize (c :: t).take 4 = X at sl4 hnet
     simp [h0, h1, h2, h7, h8, hlt, hlt', hw0, hw4, hw1, h4, h4', h4l, sl4, hnet, sl1, hm1]
     refine Out.mono (ih t (acc ++ [c]) _ s (by omega) (cJ hu) (by simp; omega) (by simp [h0]) (by simp [h1]) (by simp [h2]) (by simp) (by simp)) ?_
     rintro e env' s' ⟨a, b, c⟩
     exact ⟨a, b, by simpa using c⟩
   ·have h4' : ¬ (4 : Int) ≤ (t.length : Int) + 1 := by omega
    have hbg : eG (c :: t) hid4 = false := by
     unfold eG
     rw [h4l]
     simp
     omega
    rw [next hbg]
    simp [h0, h1, h2, h7, h8, hlt, hlt', hw0, hw4, hw1, h4, h4', h4l, sl1, hm1]
    refine Out.mono (ih t (acc ++ [c]) _ s (by omega) (cJ hu) (by simp; omega) (by simp [h0]) (by simp [h1]) (by simp [h2]) (by simp) (by simp)) ?_
    rintro e env' s' ⟨a, b, c⟩
    exact ⟨a, b, by simpa using c⟩
theorem Cn (l : List UInt8) (hl : l.length ≤ 100000000) (s : St) : call G 330 [.str l, .str hid4, .str q3] s = some (.str (cH 0 l), s) := by
 refine aC (F := af330) rfl rfl ?_
 simp [af330, af330b]
 refine Out.mono (Il l hl (l.length + 1) l [] _ s (by omega) (List.suffix_refl l) (by simp; omega) (by simp) (by simp) (by simp) (by simp) (by simp)) ?_
 rintro e env' s' ⟨rfl, rfl, h⟩
 simp [h]
 rw [aS _ (v := .str _) rfl]
 rfl
theorem tN : ∀ (n m : Nat) (l : List UInt8), l.length ≤ n → l.length ≤ m → eH n l = eH m l
 | 0, m, l, h, _ => by
  have : l = [] := List.eq_nil_of_length_eq_zero (by omega)
  subst this
  cases m <;> rfl
 | n + 1, 0, l, _, h => by
  have : l = [] := List.eq_nil_of_length_eq_zero (by omega)
  subst this
  rfl
 | n + 1, m + 1, l, h1, h2 => by
  rw [eH, eH]
  cases hD : l.dropWhile bN with
  | nil => rfl
  | cons c t =>
   have hs : (c :: t) <:+ l := by rw [← hD]; exact List.dropWhile_suffix _
   have := aO hs
   simp only [List.length_cons] at this
   simp only
   rw [tN n m _ (by split <;> (try simp) <;> omega) (by split <;> (try simp) <;> omega)]
theorem GN {p : UInt8 → Bool} : ∀ {W : List UInt8}, (∀ x ∈ W, p x = true) → W.dropWhile p = []
 | [], _ => rfl
 | c :: t, h => by rw [List.dropWhile_cons, if_pos (h c (by simp))]; exact GN fun x hx => h x (by simp [hx])
theorem CS {W : List UInt8} (h : ∀ x ∈ W, bN x = true) : eC W = [W] := by
 have hd : W.dropWhile bN = [] := GN h
 unfold eC
 cases hl : W.length with
 | zero => rfl
 | succ n => rw [eH, hd]
theorem Bu {W : List UInt8} (h : ∀ x ∈ W, bN x = true) {c : UInt8} (hc : bN c = false) (t : List UInt8) : eC (W ++ c :: t) = W :: eC (if c = 13 ∧ hd0 t = 10 then t.drop 1 else t) := by
 have hd : (W ++ c :: t).dropWhile bN = c :: t := by
  rw [List.dropWhile_append_of_pos h, List.dropWhile_cons, if_neg (by simp [hc])]
 have ht : (W ++ c :: t).takeWhile bN = W := by
  rw [List.takeWhile_append_of_pos h, List.takeWhile_cons, if_neg (by simp [hc]), List.append_nil]
 have e : (W ++ c :: t).length = (W.length + t.length) + 1 := by simp; omega
 unfold eC
 rw [e, eH, hd, ht]
 simp only
 rw [tN (W.length + t.length) _ _ (by split <;> (try simp) <;> omega) (Nat.le_refl _)]
theorem GX (ls : List (List UInt8)) : fits 1 (ls.map V.str) = true := by cases ls <;> simp [fits]
theorem zJ (acc : List (List UInt8)) (x : List UInt8) (hr : acc.length ≤ 1000000000) (obs : List Qw) (B : List (Nat × Nat × TypeId)) :
  gU false 1 (16, 9) (.sl (bF B acc) (acc.map V.str)) (.sl .no [.str x]) ⟨obs, B ++ dH (16, 9) acc⟩ = some (.sl (bF B (acc ++ [x])) ((acc ++ [x]).map V.str), ⟨obs, B ++ dH (16, 9) (acc ++ [x])⟩) := by
 have hroom : iJ = 140737488355328 := by decide
 rw [nC (List.map V.str) rfl (fun a => by simp) 1 16 9 .no (.str x) GX rfl acc (by rw [hroom]; omega) obs B]
 simp [bF, dH]
theorem Dp (b : List UInt8) (hb : b.length ≤ 1000000000) (s : St) : ∀ (n : Nat) (v W : List UInt8) (acc : List (List UInt8)) (env : Env), v.length < n → (W ++ v) <:+ b → (∀ x ∈ W, bN x = true) → acc.length + (W ++ v).length ≤ 1000000000 → env 0 = .str b → env 3 = .sl (bF s.bufs acc) (acc.map V.str) →
  env 4 = .int .i64 ((b.length - (W ++ v).length : Nat) : Int) → env 5 = .int .i64 ((b.length - v.length : Nat) : Int) →
  Out (evC G (.loop false af329l0) env ⟨s.obs, s.bufs ++ dH (16, 9) acc⟩) (fun e env' s' => e = .exit 0 ∧ env' 0 = .str b ∧ ∃ acc' u, u <:+ b ∧ acc'.length ≤ 1000000000 ∧ acc' ++ [u] = acc ++ eC (W ++ v) ∧ env' 3 = .sl (bF s.bufs acc') (acc'.map V.str) ∧ env' 4 = .int .i64 ((b.length - u.length : Nat) : Int) ∧ s' = ⟨s.obs, s.bufs ++ dH (16, 9) acc'⟩) := by
 intro n
 induction n with
 | zero => intro v W acc env h; omega
 | succ n ih =>
  intro v W acc env hn hu hW hacc h0 h3 h4 h5
  have hulen := aO hu
  rw [List.length_append] at hulen hacc
  refine aH G false _ _ af329l0.eq_1 _ _ _ ?_
  cases v with
  | nil =>
   rw [List.append_nil] at hu h4 ⊢
   rw [CS hW]
   simp [h0, h5]
   exact ⟨acc, W, hu, by omega, ⟨rfl, rfl⟩, h3, h4, rfl⟩
  | cons c t =>
   have hv : (c :: t) <:+ b := (List.suffix_append W (c :: t)).trans hu
   simp only [List.length_cons] at hn hulen hacc h5
   have hlt : b.length - (t.length + 1) < b.length := by omega
   have hgi := eM hv
   have e10 : ((c.toNat : Int) = 10) ↔ c = 10 := gL c 10 (by decide)
   have e13 : ((c.toNat : Int) = 13) ↔ c = 13 := gL c 13 (by decide)
   have hw : IntKind.i64.wrap (((b.length - (t.length + 1) : Nat) : Int) + 1) = ((b.length - t.length : Nat) : Int) := by rw [aD (by omega) (by omega)]; omega
   by_cases hc : bN c = true
   ·have hc2 : c ≠ 10 ∧ c ≠ 13 := by simpa [bN] using hc
    have n1 : (c = 10) = False := eq_false hc2.1
    have n2 : (c = 13) = False := eq_false hc2.2
    have e : W ++ c :: t = (W ++ [c]) ++ t := by simp
    rw [e]
    rw [e] at hu h4
    simp [h0, h5, hlt, ↓hgi, e10, e13, n1, n2, hw]
    have := ih t (W ++ [c]) acc
    simp only [List.append_assoc, List.singleton_append] at this hu h4 ⊢
    exact this _ (by omega) hu (by
     intro x hx
     rcases List.mem_append.1 hx with hx | hx
     ·exact hW x hx
     ·simp at hx; rw [hx]; exact hc) (by simp; omega) (by simp [h0]) (by simp [h3]) (by simp [h4]) (by simp)
   ·have hc' : bN c = false := by simpa using hc
    have hc2 : c = 10 ∨ c = 13 := by
     simp only [bN, Bool.and_eq_false_iff, decide_eq_false_iff_not, Decidable.not_not] at hc'
     exact hc'
    have hsl : bD (.str b) (some (.int .i64 ((b.length - (W.length + (t.length + 1)) : Nat) : Int))) (some (.int .i64 ((b.length - (t.length + 1) : Nat) : Int))) = some (.str W) := by
     have e : (b.take (b.length - (t.length + 1))).drop (b.length - (W.length + (t.length + 1))) = W := by
      have h := dE hu
      rw [List.length_append, List.length_cons] at h
      rw [List.drop_take, h, show b.length - (t.length + 1) - (b.length - (W.length + (t.length + 1))) = W.length by omega, List.take_left]
     simp only [bD, bnd, Int.toNat_natCast]
     rw [if_pos (by omega), if_pos (by omega)]
     simp only
     rw [if_pos (by omega), e]
    rw [List.length_append, List.length_cons] at h4
    have hap := zJ acc W (by omega) s.obs s.bufs
    rw [Bu hW hc' t]
    have happ : ∀ X : List (List UInt8), acc ++ W :: X = (acc ++ [W]) ++ X := fun X => by simp
    have hwl : IntKind.i64.wrap ((b.length : Int) - 1) = (b.length : Int) - 1 := aD (by omega) (by omega)
    have ht := cJ hv
    by_cases hcr : c = 13 ∧ hd0 t = 10
    ·rw [if_pos hcr]
     obtain ⟨rfl, h10⟩ := hcr
     obtain ⟨d, t2, rfl⟩ : ∃ d t2, t = d :: t2 := by
      cases t with
      | nil => exact absurd h10 (by decide)
      | cons d t2 => exact ⟨d, t2, rfl⟩
     have hd10 : d = 10 := h10
     subst hd10
     simp only [List.length_cons] at *
     have hlt2 : ((b.length - (t2.length + 1 + 1) : Nat) : Int) < (b.length : Int) - 1 := by omega
     have hgi2 := eM ht
     have hw2 : IntKind.i64.wrap (((b.length - (t2.length + 1) : Nat) : Int) + 1) = ((b.length - t2.length : Nat) : Int) := by rw [aD (by omega) (by omega)]; omega
     have hlt3 : b.length - (t2.length + 1) < b.length := by omega
     have := ih t2 [] (acc ++ [W])
     simp only [List.nil_append] at this
     simp [h0, h3, h4, h5, hlt, ↓hgi, aY, V.one, hsl, hap, hwl, hlt2, hlt3, ↓hgi2, hw, hw2]
     refine Out.mono (this _ (by omega) (cJ ht) (by simp) (by simp; omega) (by simp [h0]) (by simp) (by simp) (by simp)) ?_
     rintro e env' s' ⟨a, b1, acc', u, c1, c2, c3, c4⟩
     exact ⟨a, b1, acc', u, c1, c2, by simpa using c3, c4⟩
    ·rw [if_neg hcr]
     have := ih t [] (acc ++ [W])
     simp only [List.nil_append] at this
     have hend : ∀ env, env 0 = .str b → env 3 = .sl (bF s.bufs (acc ++ [W])) ((acc ++ [W]).map V.str) → env 4 = .int .i64 ((b.length - t.length : Nat) : Int) → env 5 = .int .i64 ((b.length - t.length : Nat) : Int) →
       Out (evC G (.loop false af329l0) env ⟨s.obs, s.bufs ++ dH (16, 9) (acc ++ [W])⟩) (fun e env' s' => e = .exit 0 ∧ env' 0 = .str b ∧ ∃ acc' u, u <:+ b ∧ acc'.length ≤ 1000000000 ∧ acc' ++ [u] = acc ++ W :: eC t ∧ env' 3 = .sl (bF s.bufs acc') (acc'.map V.str) ∧ env' 4 = .int .i64 ((b.length - u.length : Nat) : Int) ∧ s' = ⟨s.obs, s.bufs ++ dH (16, 9) acc'⟩) := by
      intro env k0 k3 k4 k5
      refine Out.mono (this _ (by omega) ht (by simp) (by simp; omega) k0 k3 k4 k5) ?_
      rintro e env' s' ⟨a, b1, acc', u, c1, c2, c3, c4⟩
      exact ⟨a, b1, acc', u, c1, c2, by simpa using c3, c4⟩
     rcases hc2 with rfl | rfl
     ·simp [h0, h3, h4, h5, hlt, ↓hgi, aY, V.one, hsl, hap, hwl, hw]
      exact hend _ (by simp [h0]) (by simp) (by simp) (by simp)
     ·have h10 : hd0 t ≠ 10 := fun h => hcr ⟨rfl, h⟩
      cases t with
      | nil =>
       simp only [List.length_nil, Nat.zero_add] at *
       have hlt2 : ¬ ((b.length - 1 : Nat) : Int) < (b.length : Int) - 1 := by omega
       simp [h0, h3, h4, h5, hlt, ↓hgi, aY, V.one, hsl, hap, hwl, hlt2, hw]
       exact hend _ (by simp [h0]) (by simp) (by simp) (by simp)
      | cons d t2 =>
       have hd10 : (d = 10) = False := eq_false h10
       have e10d : ((d.toNat : Int) = 10) ↔ d = 10 := gL d 10 (by decide)
       simp only [List.length_cons] at *
       have hlt2 : ((b.length - (t2.length + 1 + 1) : Nat) : Int) < (b.length : Int) - 1 := by omega
       have hgi2 := eM ht
       have hlt3 : b.length - (t2.length + 1) < b.length := by omega
       simp [h0, h3, h4, h5, hlt, ↓hgi, aY, V.one, hsl, hap, hwl, hlt2, hlt3, ↓hgi2, e10d, hd10, hw]
       exact hend _ (by simp [h0]) (by simp) (by simp) (by simp)
theorem BO (b : List UInt8) (hb : b.length ≤ 500000000) (s : St) : call G 329 [.str b] s = some (.sl .no ((eC b).map V.str), s) := by
 refine aC (F := af329) rfl rfl ?_
 simp [af329, af329b]
 have e0 : s = ⟨s.obs, s.bufs ++ dH (16, 9) ([] : List (List UInt8))⟩ := by simp [dH]
 have hgo := Dp b (by omega) s (b.length + 1) b [] []
 rw [← e0] at hgo
 refine Out.mono (hgo _ (by omega) (List.suffix_refl b) (by simp) (by simp; omega) (by simp) (by simp [bF]) (by simp) (by simp)) ?_
 rintro ex env' s' ⟨rfl, h0, acc, u, hu, hal, he, h3, h4, rfl⟩
 simp only [List.nil_append] at he
 have hsl : bD (.str b) (some (.int .i64 ((b.length - u.length : Nat) : Int))) none = some (.str u) := by
  simp [bD, bnd, dE hu]
 have hap := zJ acc u hal s.obs s.bufs
 rw [he] at hap
 have hpl : ∀ X : List (List UInt8), aW (X.map V.str) = X.map V.str := by
  intro X
  induction X with
  | nil => rfl
  | cons x X ih => simp [aW, ih, V.plain]
 have hud : ∀ (X : List (List UInt8)) (n m : Nat), bY n m (X.map V.str) = true := by
  intro X n m
  induction X with
  | nil => rfl
  | cons x X ih => simp [bY, ih, V.und]
 simp [h0, h3, h4, aY, V.one, hsl, hap]
 rw [show (⟨s.obs, s.bufs ++ dH (16, 9) (eC b)⟩ : St) = ⟨s.obs ++ [], s.bufs ++ dH (16, 9) (eC b)⟩ by simp, vB _ _ _ _ (by simp [hpl, hud])]
 simp [hpl]
def nO (a : Option Nat) : Int := match a with | none => -1 | some m => (m : Int)
theorem AU (l : List UInt8) : (gV l < l.length) ↔ aV l = false := by
 have h := rJ l
 unfold aV
 rw [decide_eq_false_iff_not, ← List.length_eq_zero_iff]
 omega
theorem HE (ls : List (List UInt8)) (hls : ∀ l ∈ ls, l.length ≤ 1000000000) (hn : ls.length ≤ 1000000000) (s : St) :
  ∀ (m i : Nat) (a : Option Nat) (env : Env), ls.length - i = m → i ≤ ls.length → env 0 = .sl .no (ls.map V.str) → env 3 = .int .i64 (nO a) → env 4 = .int .i64 i →
  Out (evC G (.loop false af331l0) env s) (fun e env' s' => e = .exit 0 ∧ s' = s ∧ env' 3 = .int .i64 (nO (oE a (ls.drop i)))) := by
 intro m
 induction m with
 | zero =>
  intro i a env hm hi h0 h3 h4
  have : i = ls.length := by omega
  subst this
  refine aH G false _ _ af331l0.eq_1 _ _ _ ?_
  simp [h0, h3, h4, oE]
 | succ m ih =>
  intro i a env hm hi h0 h3 h4
  have hlt : i < ls.length := by omega
  have hdr := List.drop_eq_getElem_cons hlt
  have hw : IntKind.i64.wrap ((i : Int) + 1) = ((i + 1 : Nat) : Int) := by rw [aD (by omega) (by omega)]; omega
  have hld := vD ls[i] (hls _ (List.getElem_mem hlt))
  have hbl := AU ls[i]
  have hgm : (ls.map V.str)[((i : Nat) : Int).toNat]? = some (.str ls[i]) := by rw [Int.toNat_natCast, List.getElem?_map, List.getElem?_eq_getElem hlt]; rfl
  rw [hdr]
  generalize ls[i] = l at *
  have hgo := fun a env => ih (i + 1) a env (by omega) (by omega)
  refine aH G false _ _ af331l0.eq_1 _ _ _ ?_
  cases hb : aV l with
  | true =>
   have hnl : ¬ gV l < l.length := fun h => by rw [hbl.1 h] at hb; cases hb
   have hin : oE a (l :: ls.drop (i + 1)) = oE a (ls.drop (i + 1)) := by rw [mM, if_pos hb]
   rw [hin]
   simp [h0, h4, hlt, ↓hgm, hld, hnl, hw]
   exact hgo a _ (by simp [h0]) (by simp [h3]) (by simp)
  | false =>
   have hnl : gV l < l.length := hbl.2 hb
   have hin : oE a (l :: ls.drop (i + 1)) = oE (some (mnO a (gV l))) (ls.drop (i + 1)) := by rw [mM, if_neg (by simp [hb])]
   rw [hin]
   cases a with
   | none =>
    simp [h0, h3, h4, hlt, ↓hgm, hld, hnl, hw, nO, mnO]
    exact hgo (some (gV l)) _ (by simp [h0]) (by simp [nO]) (by simp)
   | some k =>
    by_cases hk : gV l < k
    ·have hk' : ¬ (k : Int) < 0 := by omega
     simp [h0, h3, h4, hlt, ↓hgm, hld, hnl, hw, hk, hk', nO, mnO]
     exact hgo (some (gV l)) _ (by simp [h0]) (by simp [nO]) (by simp)
    ·have hk' : ¬ (k : Int) < 0 := by omega
     simp [h0, h3, h4, hlt, ↓hgm, hld, hnl, hw, hk, hk', nO, mnO]
     exact hgo (some k) _ (by simp [h0]) (by simp [h3, nO]) (by simp)
theorem Ax (ls : List (List UInt8)) (hne : ls ≠ []) (hls : ∀ l ∈ ls, l.length ≤ 1000000000) (hn : ls.length ≤ 1000000000) (s : St) :
  call G 331 [.sl .no (ls.map V.str)] s = some (.int .i64 (Ak ls : Int), s) := by
 refine aC (F := af331) rfl rfl ?_
 have hpos := List.length_pos_iff.2 hne
 simp [af331, af331b]
 refine Out.mono (HE ls hls hn s (ls.length - 1) 1 none _ rfl (by omega) (by
  have hpl : ∀ X : List (List UInt8), aW (X.map V.str) = X.map V.str := by
   intro X
   induction X with
   | nil => rfl
   | cons x X ih => simp [aW, ih, V.plain]
  simp) (by simp [nO]) (by simp)) ?_
 rintro e env' s' ⟨rfl, rfl, h3⟩
 have hmx : ∀ a : Option Nat, (if (0 : Int) > nO a then 0 else nO a) = ((a.getD 0 : Nat) : Int) := by
  intro a
  cases a with
  | none => rfl
  | some k => simp [nO]; omega
 have h1 := hmx (oE none (ls.drop 1))
 simp [h3, kK]
 rw [aS _ (v := .int _ _) rfl]
 simp only [V.plain, Ak]
 rw [← h1]
 simp
def iY (X : List (List UInt8)) : Bool := X.all aV
def frm (tl : Nat) (X : List (List UInt8)) : Nat := if iY X = true then tl else (X.takeWhile aV).length
def tto (X : List (List UInt8)) : Nat := X.length - (X.reverse.takeWhile aV).length
theorem kA : ∀ X : List (List UInt8), dW X = X.drop (X.takeWhile aV).length
 | [] => rfl
 | l :: X => by
  rw [dW]
  by_cases h : aV l = true
  ·rw [if_pos h, List.takeWhile_cons, if_pos h, kA X]; rfl
  ·rw [if_neg h, List.takeWhile_cons, if_neg h]; rfl
theorem Cg (X : List (List UInt8)) : fQ X = X.take (tto X) := by
 unfold fQ tto
 rw [kA]
 have hle : (X.reverse.takeWhile aV).length ≤ X.length := by
  have := (List.takeWhile_prefix aV (l := X.reverse)).length_le
  rw [List.length_reverse] at this
  exact this
 rw [List.drop_reverse, List.reverse_reverse]
theorem pE {X : List (List UInt8)} (h : iY X = true) : X.takeWhile aV = X := by
 induction X with
 | nil => rfl
 | cons x X ih =>
  simp only [iY, List.all_cons, Bool.and_eq_true] at h
  rw [List.takeWhile_cons, if_pos h.1, ih h.2]
theorem uL (X : List (List UInt8)) : iY X.reverse = iY X := by simp [iY]
theorem nX {X : List (List UInt8)} (h : iY X = false) : (X.takeWhile aV).length < X.length := by
 induction X with
 | nil => simp [iY] at h
 | cons x X ih =>
  rw [List.takeWhile_cons]
  by_cases hx : aV x = true
  ·rw [if_pos hx]
   simp only [iY, List.all_cons, hx, Bool.true_and] at h
   have := ih h
   simp only [List.length_cons]; omega
  ·rw [if_neg hx]; simp
theorem DX {X Y : List (List UInt8)} (h : iY X = false) : (X ++ Y).takeWhile aV = X.takeWhile aV := by
 induction X with
 | nil => simp [iY] at h
 | cons x X ih =>
  rw [List.cons_append, List.takeWhile_cons, List.takeWhile_cons]
  by_cases hx : aV x = true
  ·rw [if_pos hx, if_pos hx]
   simp only [iY, List.all_cons, hx, Bool.true_and] at h
   rw [ih h]
  ·rw [if_neg hx, if_neg hx]
theorem DW {X Y : List (List UInt8)} (h : iY X = true) : (X ++ Y).takeWhile aV = X ++ Y.takeWhile aV := by
 induction X with
 | nil => rfl
 | cons x X ih =>
  simp only [iY, List.all_cons, Bool.and_eq_true] at h
  rw [List.cons_append, List.takeWhile_cons, if_pos h.1, ih h.2]
  rfl
theorem Ic (X : List (List UInt8)) : fQ (dW X) = (X.take (tto X)).drop (frm X.length X) := by
 by_cases h : iY X = true
 ·have h1 : dW X = [] := by rw [kA, pE h, List.drop_length]
  have h2 : tto X = 0 := by
   unfold tto
   rw [pE (by rw [uL]; exact h), List.length_reverse, Nat.sub_self]
  rw [h1, h2, List.take_zero, List.drop_nil]
  rfl
 ·have h' : iY X = false := by simpa using h
  unfold frm
  rw [if_neg h, Cg, kA]
  have hlt := nX h'
  have hsp : X = X.takeWhile aV ++ X.drop (X.takeWhile aV).length := by
   conv => lhs; rw [← List.takeWhile_append_dropWhile (p := aV) (l := X)]
   congr 1
   have := kA X
   rw [← this]
   clear this hlt h h'
   induction X with
   | nil => rfl
   | cons x X ih =>
    rw [dW, List.dropWhile_cons]
    split
    ·exact ih
    ·rfl
  generalize hW : X.drop (X.takeWhile aV).length = W at *
  have hWb : iY W = false := by
   have : iY X = (iY (X.takeWhile aV) && iY W) := by
    conv => lhs; rw [hsp]
    simp [iY]
   rw [h'] at this
   have ht : iY (X.takeWhile aV) = true := List.all_takeWhile
   rw [ht, Bool.true_and] at this
   exact this.symm
  have hrev : X.reverse.takeWhile aV = W.reverse.takeWhile aV := by
   conv => lhs; rw [hsp]
   rw [List.reverse_append, DX (by rw [uL]; exact hWb)]
  have hlen : X.length = (X.takeWhile aV).length + W.length := by
   conv => lhs; rw [hsp]
   rw [List.length_append]
  have hWl := nX (X := W.reverse) (by rw [uL]; exact hWb)
  rw [List.length_reverse] at hWl
  have ht : tto X = (X.takeWhile aV).length + tto W := by
   unfold tto
   rw [hrev]
   omega
  rw [ht, List.drop_take, Nat.add_sub_cancel_left, hW]
theorem Hd (tl : Nat) (X : List (List UInt8)) (x : List UInt8) (ht : X.length < tl) : frm tl (X ++ [x]) = if aV x = true then frm tl X else min (frm tl X) X.length := by
 unfold frm
 have ha : iY (X ++ [x]) = (iY X && aV x) := by simp [iY]
 rw [ha]
 by_cases hx : aV x = true
 ·rw [hx, Bool.and_true, if_pos rfl]
  by_cases h : iY X = true
  ·rw [if_pos h, if_pos h]
  ·rw [if_neg h, if_neg h, DX (by simpa using h)]
 ·have hx' : aV x = false := by simpa using hx
  rw [hx', Bool.and_false, if_neg (by decide), if_neg (by decide)]
  by_cases h : iY X = true
  ·rw [if_pos h, DW h, List.takeWhile_cons, if_neg hx, List.append_nil]
   omega
  ·rw [if_neg h, DX (by simpa using h)]
   have := nX (X := X) (by simpa using h)
   omega
theorem Ik (X : List (List UInt8)) (x : List UInt8) : tto (X ++ [x]) = if aV x = true then tto X else X.length + 1 := by
 unfold tto
 rw [List.reverse_append, List.reverse_singleton, List.singleton_append, List.takeWhile_cons, List.length_append]
 by_cases hx : aV x = true
 ·rw [if_pos hx, if_pos hx]
  have := (List.takeWhile_prefix aV (l := X.reverse)).length_le
  simp only [List.length_cons, List.length_nil]
  omega
 ·rw [if_neg hx, if_neg hx]
  simp
theorem Fh (X : List (List UInt8)) (x : List UInt8) : Lib.join (X ++ [x]) [10] = if X = [] then x else Lib.join X [10] ++ [10] ++ x := by
 cases X with
 | nil => rw [if_pos rfl, List.nil_append, Lib.join_one]
 | cons y X =>
  rw [if_neg (by simp), List.cons_append, Lib.join_cons, Lib.join_cons]
  have : Lib.joinTail [10] (X ++ [x]) = Lib.joinTail [10] X ++ ([10] ++ x) := by simp [Lib.joinTail]
  rw [this]
  simp
theorem uU (n : Nat) (X : List (List UInt8)) (l : List UInt8) : bT n (X ++ [l]) = bT n X ++ [if X = [] then l else l.drop n] := by
 by_cases h : X = []
 ·subst h; rfl
 ·rw [if_neg h, xQ n h]
theorem Hc (tl : Nat) (X : List (List UInt8)) (h : X.length ≤ tl) : frm tl X ≤ tl := by
 unfold frm
 split
 ·exact Nat.le_refl _
 ·have := (List.takeWhile_prefix aV (l := X)).length_le
  omega
theorem Ij (X : List (List UInt8)) : tto X ≤ X.length := by unfold tto; omega
theorem JO (ls : List (List UInt8)) (n : Nat) (hn : n ≤ 1000000000) (hls : ∀ l ∈ ls, l.length ≤ 1000000000) (hl : ls.length ≤ 1000000000) (s : St) :
  ∀ (todo X : List (List UInt8)) (env : Env), X ++ todo = ls → env 3 = .sl .no (ls.map V.str) → env 4 = .int .i64 n → env 5 = .int .i64 (frm ls.length (bT n X) : Nat) → env 6 = .int .i64 (tto (bT n X) : Nat) →
  env 7 = .sl (bF s.bufs (bT n X)) ((bT n X).map V.str) → env 8 = .int .i64 X.length →
  Out (evC G (.loop false af306l0) env ⟨s.obs, s.bufs ++ dH (16, 9) (bT n X)⟩) (fun e env' s' => e = .exit 0 ∧ s' = ⟨s.obs, s.bufs ++ dH (16, 9) (bT n ls)⟩ ∧ env' 5 = .int .i64 (frm ls.length (bT n ls) : Nat) ∧ env' 6 = .int .i64 (tto (bT n ls) : Nat) ∧ env' 7 = .sl (bF s.bufs (bT n ls)) ((bT n ls).map V.str)) := by
 intro todo
 induction todo with
 | nil =>
  intro X env hX h3 h4 h5 h6 h7 h8
  rw [List.append_nil] at hX
  subst hX
  refine aH G false _ _ af306l0.eq_1 _ _ _ ?_
  simp [h3, h5, h6, h7, h8]
 | cons l t ih =>
  intro X env hX h3 h4 h5 h6 h7 h8
  have hlen : ls.length = X.length + (t.length + 1) := by rw [← hX]; simp
  have hlt : X.length < ls.length := by omega
  have hw : IntKind.i64.wrap ((X.length : Int) + 1) = ((X.length + 1 : Nat) : Int) := by rw [aD (by omega) (by omega)]; omega
  have hll := hls l (by rw [← hX]; simp)
  have hgm : (ls.map V.str)[((X.length : Nat) : Int).toNat]? = some (.str l) := by
   rw [Int.toNat_natCast, List.getElem?_map, ← hX, List.getElem?_append_right (Nat.le_refl _), Nat.sub_self]; rfl
  have hnx : X ++ [l] ++ t = ls := by rw [← hX]; simp
  have hgo := ih (X ++ [l])
  have hcl := jW n X
  have hfr := Hd ls.length (bT n X) (if X = [] then l else l.drop n) (by omega)
  have htt := Ik (bT n X) (if X = [] then l else l.drop n)
  have hap := zJ (bT n X) (if X = [] then l else l.drop n) (by omega) s.obs s.bufs
  rw [← uU, hcl] at hfr htt
  rw [← uU] at hap
  have hxl : (if X = [] then l else l.drop n).length ≤ 1000000000 := by
   split
   ·exact hll
   ·rw [List.length_drop]; omega
  have hfs := vD (if X = [] then l else l.drop n) hxl
  have hbl := AU (if X = [] then l else l.drop n)
  have hgo' := fun env => hgo env hnx
  rw [show (X ++ [l]).length = X.length + 1 by simp] at hgo'
  clear hgo ih
  generalize bT n (X ++ [l]) = D at *
  refine aH G false _ _ af306l0.eq_1 _ _ _ ?_
  have hfrl := Hc ls.length (bT n X) (by omega)
  have htl := Ij (bT n X)
  generalize hFR : frm ls.length (bT n X) = FR at *
  generalize hTT : tto (bT n X) = TT at *
  generalize hDF : frm ls.length D = DF at *
  generalize hDT : tto D = DT at *
  have hsl : ∀ m : Nat, (l.length < n → m = l.length) → (n ≤ l.length → m = n) → bD (.str l) (some (.int .i64 (m : Int))) none = some (.str (l.drop n)) := by
   intro m h1 h2
   have hm : m ≤ l.length := by
    rcases Nat.lt_or_ge l.length n with h | h
    ·rw [h1 h]; omega
    ·rw [h2 h]; exact h
   have e : l.drop m = l.drop n := by
    rcases Nat.lt_or_ge l.length n with h | h
    ·rw [h1 h, List.drop_length, List.drop_eq_nil_of_le (by omega)]
    ·rw [h2 h]
   simp only [bD, bnd]
   rw [if_pos (by omega)]
   simp only [Int.toNat_natCast]
   rw [if_pos (by omega), List.take_length, e]
  obtain ⟨x, hx⟩ : ∃ x, x = if X = [] then l else l.drop n := ⟨_, rfl⟩
  rw [← hx] at hfr htt hap hxl hfs hbl
  by_cases hX0 : X = []
  ·rw [if_pos hX0] at hx
   subst hX0
   subst hx
   have h8' : env 8 = .int .i64 0 := h8
   have hw1 : IntKind.i64.wrap 1 = 1 := by decide
   have hpos : 0 < ls.length := by omega
   have hpos' : (0 : Int) < (ls.length : Int) := by omega
   have hgm0 : (ls.map V.str)[(0 : Int).toNat]? = some (.str x) := hgm
   clear hgm hlt hw
   cases hb : aV x with
   | true =>
    have hnl : ¬ gV x < x.length := fun h => by rw [hbl.1 h] at hb; cases hb
    rw [if_pos hb] at hfr htt
    simp [h3, h4, h5, h6, h7, h8', hpos, hpos', ↓hgm0, hfs, hnl, aY, V.one, hap, hw1]
    exact hgo' _ (by simp [h3]) (by simp [h4]) (by simp [h5, hfr]) (by simp [h6, htt]) (by simp) (by simp)
   | false =>
    have hnl : gV x < x.length := hbl.2 hb
    rw [if_neg (by simp [hb])] at hfr htt
    have hfr0 : DF = 0 := by rw [hfr]; simp
    have htt1 : DT = 1 := by rw [htt]; simp
    by_cases hmin : 0 < FR
    ·have hmin' : (0 : Int) < (FR : Int) := by omega
     simp [h3, h4, h5, h6, h7, h8', hpos, hpos', ↓hgm0, hfs, hnl, kK, hmin, hmin', aY, V.one, hap, hw1]
     exact hgo' _ (by simp [h3]) (by simp [h4]) (by simp [hfr0]) (by simp [htt1]) (by simp) (by simp)
    ·have hmin' : FR = 0 := by omega
     simp [h3, h4, h5, h6, h7, h8', hpos, hpos', ↓hgm0, hfs, hnl, kK, hmin', aY, V.one, hap, hw1]
     exact hgo' _ (by simp [h3]) (by simp [h4]) (by simp [hfr0]) (by simp [htt1]) (by simp) (by simp)
  ·rw [if_neg hX0] at hx
   have hXp := List.length_pos_iff.2 hX0
   have hXi : (0 : Int) < (X.length : Int) := by omega
   obtain ⟨m, hm1, hm2, hmx⟩ : ∃ m : Nat, kK false (.int .i64 n) (.int .i64 l.length) = some (.int .i64 (m : Int)) ∧ bD (.str l) (some (.int .i64 (m : Int))) none = some (.str x) ∧ True := by
    rcases Nat.lt_or_ge l.length n with h | h
    ·exact ⟨l.length, by simp [kK, h], by rw [hx]; exact hsl _ (fun _ => rfl) (fun h2 => by omega), trivial⟩
    ·exact ⟨n, by simp [kK]; omega, by rw [hx]; exact hsl _ (fun h2 => by omega) (fun _ => rfl), trivial⟩
   have hmm : kK false (.int .i64 FR) (.int .i64 X.length) = some (.int .i64 ((min FR X.length : Nat) : Int)) := by
    by_cases h : X.length < FR
    ·simp only [kK]; rw [if_pos trivial, if_neg (by decide), if_pos (by omega)]; congr 2; omega
    ·simp only [kK]; rw [if_pos trivial, if_neg (by decide), if_neg (by omega)]; congr 2; omega
   clear hsl
   cases hb : aV x with
   | true =>
    have hnl : ¬ gV x < x.length := fun h => by rw [hbl.1 h] at hb; cases hb
    rw [if_pos hb] at hfr htt
    simp [h3, h4, h5, h6, h7, h8, hlt, hXp, hXi, ↓hgm, hm1, hm2, hfs, hnl, aY, V.one, hap, hw]
    exact hgo' _ (by simp [h3]) (by simp [h4]) (by simp [h5, hfr]) (by simp [h6, htt]) (by simp) (by simp)
   | false =>
    have hnl : gV x < x.length := hbl.2 hb
    rw [if_neg (by simp [hb])] at hfr htt
    simp [h3, h4, h5, h6, h7, h8, hlt, hXp, hXi, ↓hgm, hm1, hm2, hfs, hnl, hmm, aY, V.one, hap, hw]
    exact hgo' _ (by simp [h3]) (by simp [h4]) (by simp [hfr]) (by simp [htt]) (by simp) (by simp)
theorem Jr (C : List (List UInt8)) (hC : tot C ≤ 1000000000) (f t : Nat) (ht : t ≤ C.length) (s : St) :
  ∀ (m i : Nat) (env : Env), t - i = m → (i ≤ t ∨ i = f) → f ≤ i → f ≤ C.length → env 5 = .int .i64 f → env 6 = .int .i64 t → env 7 = .sl (bF s.bufs C) (C.map V.str) → env 10 = .str (Lib.join ((C.take i).drop f) [10]) → env 11 = .int .i64 i → i ≤ C.length →
  Out (evC G (.loop false af306l1) env ⟨s.obs, s.bufs ++ dH (16, 9) C⟩) (fun e env' s' => e = .exit 2 ∧ s' = ⟨s.obs, s.bufs ++ dH (16, 9) C⟩ ∧ env' 10 = .str (Lib.join ((C.take (max i t)).drop f) [10])) := by
 intro m
 have hlen := uG C
 induction m with
 | zero =>
  intro i env hm hi hfi hf h5 h6 h7 h10 h11 hiC
  have : ¬ i < t := by omega
  have e : max i t = i := by omega
  rw [e]
  refine aH G false _ _ af306l1.eq_1 _ _ _ ?_
  simp [h6, h10, h11, this]
 | succ m ih =>
  intro i env hm hi hfi hf h5 h6 h7 h10 h11 hiC
  have hlt : i < t := by omega
  have hltC : i < C.length := by omega
  have hw : IntKind.i64.wrap ((i : Int) + 1) = ((i + 1 : Nat) : Int) := by rw [aD (by omega) (by omega)]; omega
  have e : max i t = max (i + 1) t := by omega
  have hgo := fun env => ih (i + 1) env (by omega) (by omega) (by omega) hf
  have hgm : (C.map V.str)[((i : Nat) : Int).toNat]? = some (.str C[i]) := by
   rw [Int.toNat_natCast, List.getElem?_map, List.getElem?_eq_getElem hltC]; rfl
  have htk : (C.take (i + 1)).drop f = (C.take i).drop f ++ [C[i]] := by
   rw [List.take_succ_eq_append_getElem hltC, List.drop_append_of_le_length (by rw [List.length_take]; omega)]
  have hj := Fh ((C.take i).drop f) C[i]
  rw [← htk] at hj
  rw [e]
  refine aH G false _ _ af306l1.eq_1 _ _ _ ?_
  have hb : (Lib.join ((C.take (i + 1)).drop f) [10]).length ≤ 1000000000 := by
   have h1 := Cm ((C.take (i + 1)).drop f) 10
   have h2 : tot ((C.take (i + 1)).drop f) ≤ tot C := by
    have a1 := wV (C.take (i + 1)) (C.drop (i + 1))
    rw [List.take_append_drop] at a1
    have a2 := wV ((C.take (i + 1)).take f) ((C.take (i + 1)).drop f)
    rw [List.take_append_drop] at a2
    omega
   omega
  by_cases hfi2 : f < i
  ·have hne : (C.take i).drop f ≠ [] := by
    intro h
    have := congrArg List.length h
    rw [List.length_drop, List.length_take] at this
    simp at this
    omega
   rw [if_neg hne] at hj
   rw [hj] at hb hgo
   clear hj htk ih hne e
   generalize Lib.join ((C.take i).drop f) [10] = J at *
   generalize Lib.join ((C.take (max (i + 1) t)).drop f) [10] = K at *
   generalize C[i] = x at *
   simp only [List.length_append, List.length_singleton] at hb
   have hx : gN = 9223372036854775807 := rfl
   have hq1 : (J.length : Int) + 1 ≤ gN := by rw [hx]; omega
   have hq2 : (J.length : Int) + 1 + (x.length : Int) ≤ gN := by rw [hx]; omega
   have hq3 : (J.length : Int) + ((x.length : Int) + 1) ≤ gN := by rw [hx]; omega
   simp [h5, h6, h7, h10, h11, hlt, hltC, hfi2, ↓hgm, hw, hq1, hq2, hq3]
   exact hgo _ (by simp [h5]) (by simp [h6]) (by simp [h7]) (by simp) (by simp) (by omega)
  ·have hne : (C.take i).drop f = [] := by
    apply List.eq_nil_of_length_eq_zero
    rw [List.length_drop, List.length_take]
    omega
   rw [if_pos hne] at hj
   rw [hj] at hb hgo
   have h10' : env 10 = .str [] := by rw [h10, hne]; rfl
   clear hj htk ih hne e h10
   generalize Lib.join ((C.take (max (i + 1) t)).drop f) [10] = K at *
   generalize C[i] = x at *
   have hx : gN = 9223372036854775807 := rfl
   have hq1 : (x.length : Int) ≤ gN := by rw [hx]; omega
   simp [h5, h6, h7, h10', h11, hq1, hlt, hltC, hfi2, ↓hgm, hw]
   exact hgo _ (by simp [h5]) (by simp [h6]) (by simp [h7]) (by simp) (by simp) (by omega)
theorem Fp (l : List UInt8) : eC l ≠ [] := by
 unfold eC
 cases l.length with
 | zero => simp [eH]
 | succ n =>
  rw [eH]
  split <;> simp
theorem BS (raw : List UInt8) (hr : raw.length ≤ 100000000) (s : St) : call G 306 [.str raw] s = some (.str (nE raw), s) := by
 have htn := Cn raw hr
 have h1 := mX raw 0
 have h2 := qU (cH 0 raw).length (cH 0 raw)
 have hln := BO (cH 0 raw) (by omega)
 have hne := Fp (cH 0 raw)
 have htl : tot (eC (cH 0 raw)) ≤ 100000001 := by unfold eC; omega
 have hbv : nE raw = Lib.join (fQ (dW (bT (Ak (eC (cH 0 raw))) (eC (cH 0 raw))))) [10] := rfl
 rw [hbv]
 clear h1 h2 hbv
 generalize eC (cH 0 raw) = ls at *
 have hlen := uG ls
 have hls : ∀ l ∈ ls, l.length ≤ 1000000000 := fun l h => by have := AG h; omega
 have hind := Ax ls hne hls (by omega)
 have hnl : Ak ls ≤ 1000000000 := Aj 1000000000 (ls.drop 1) none (fun l h => hls l (List.mem_of_mem_drop h)) (by simp)
 generalize Ak ls = n at *
 have hcl := jW n ls
 have htc := EI n ls
 have hpl : ∀ X : List (List UInt8), aW (X.map V.str) = X.map V.str := by
  intro X
  induction X with
  | nil => rfl
  | cons x X ih => simp [aW, ih, V.plain]
 have e0 : s = ⟨s.obs, s.bufs ++ dH (16, 9) (bT n [])⟩ := by simp [dH, bT]
 have hv := JO ls n hnl hls (by omega) s ls []
 rw [← e0] at hv
 refine aC (F := af306) rfl rfl ?_
 simp only [hid4, q3] at htn
 simp [af306, af306b, hid4, q3, htn, hln, hind, hpl]
 refine Out.mono (hv _ rfl (by simp) (by simp) (by simp [bT, frm, iY]) (by simp [bT, tto]) (by simp [bT, bF]) (by simp)) ?_
 rintro e env1 s1 ⟨rfl, rfl, k5, k6, k7⟩
 simp
 have hse := Ic (bT n ls)
 rw [hcl] at hse
 have hfl := Hc ls.length (bT n ls) (by omega)
 have htt := Ij (bT n ls)
 have hJ : ((bT n ls).take (frm ls.length (bT n ls))).drop (frm ls.length (bT n ls)) = [] := by
  apply List.eq_nil_of_length_eq_zero
  rw [List.length_drop, List.length_take]; omega
 have hK : ((bT n ls).take (max (frm ls.length (bT n ls)) (tto (bT n ls)))).drop (frm ls.length (bT n ls)) = fQ (dW (bT n ls)) := by
  rw [hse]
  rcases Nat.le_total (frm ls.length (bT n ls)) (tto (bT n ls)) with h | h
  ·rw [Nat.max_eq_right h]
  ·rw [Nat.max_eq_left h, hJ]
   symm
   apply List.eq_nil_of_length_eq_zero
   rw [List.length_drop, List.length_take]; omega
 have ho := Jr (bT n ls) (by omega) (frm ls.length (bT n ls)) (tto (bT n ls)) htt s (tto (bT n ls) - frm ls.length (bT n ls)) (frm ls.length (bT n ls))
 rw [hK, hJ] at ho
 refine Out.mono (ho _ rfl (.inr rfl) (Nat.le_refl _) (by omega) (by simp [k5]) (by simp [k6]) (by simp [k7]) (by simp [Lib.join]) (by simp [k5]) (by omega)) ?_
 rintro e env2 s2 ⟨rfl, rfl, k10⟩
 simp [k10]
 rw [show (⟨s.obs, s.bufs ++ dH (16, 9) (bT n ls)⟩ : St) = ⟨s.obs ++ [], s.bufs ++ dH (16, 9) (bT n ls)⟩ by simp, vB _ _ _ _ rfl]
 rfl
def oD (p : Nat × Bool) (d : UInt8) : Nat × Bool := if p.1 < 1000000000000000 then (p.1 * 10 + (d.toNat - 48), p.2) else (p.1, true)
def oA (p : Nat × Bool) (ds : List UInt8) : Nat × Bool := ds.foldl oD p
theorem xY : ∀ (ds : List UInt8) (p : Nat × Bool) (a : Nat), (∀ x ∈ ds, cB x = true) → (p.2 = false → p.1 = a) → (p.2 = true → 1000000000000000 ≤ p.1 ∧ 10000000000000000 ≤ a) →
  ((oA p ds).2 = false → (oA p ds).1 = ds.foldl (fun a x => 10 * a + (x.toNat - 48)) a) ∧ ((oA p ds).2 = true → 10000000000000000 ≤ ds.foldl (fun a x => 10 * a + (x.toNat - 48)) a)
 | [], p, a, _, h0, h1 => ⟨h0, fun h => (h1 h).2⟩
 | d :: ds, p, a, hd, h0, h1 => by
  have hdd := hd d (by simp)
  simp only [cB, Bool.and_eq_true, decide_eq_true_eq] at hdd
  have := xY ds (oD p d) (10 * a + (d.toNat - 48)) (fun x hx => hd x (by simp [hx])) ?_ ?_
  ·exact this
  ·intro h
   unfold oD at h ⊢
   split at h
   ·rename_i hlt
    rw [if_pos hlt]
    have := h0 h
    simp only
    omega
   ·cases h
  ·intro h
   unfold oD at h ⊢
   split at h
   ·rename_i hlt
    have := h1 h
    omega
   ·rename_i hlt
    rw [if_neg hlt]
    simp only
    cases hp : p.2 with
    | false => have := h0 hp; omega
    | true => have := h1 hp; omega
def dsF (F u : List UInt8) : List UInt8 := if hd0 F = 48 then u.take (u.length + 1 - F.length) else u.takeWhile cB
def rsF (F u : List UInt8) : List UInt8 := if hd0 F = 48 then u.drop (u.length + 1 - F.length) else u.dropWhile cB
theorem HG {b F : List UInt8} (hb : b.length ≤ 1000000000) (hF : F <:+ b) : ∀ (u : List UInt8) (p : Nat × Bool) (env : Env) (s : St), u <:+ F → (hd0 F = 48 → F.length ≤ u.length + 1) → p.1 < 100000000000000000 → env 0 = .str b → env 5 = .int .i64 ((b.length - F.length : Nat) : Int) → env 6 = .int .i64 ((b.length - u.length : Nat) : Int) →
   env 7 = .int .i64 (p.1 : Int) → env 8 = .bool p.2 →
  Out (evC G (.loop false af269l0) env s) (fun ex env' s' => ex = .exit 0 ∧ s' = s ∧ env' 0 = .str b ∧ env' 1 = env 1 ∧ env' 4 = env 4 ∧ env' 5 = env 5 ∧ env' 6 = .int .i64 ((b.length - (rsF F u).length : Nat) : Int) ∧
   env' 7 = .int .i64 ((oA p (dsF F u)).1 : Int) ∧ env' 8 = .bool (oA p (dsF F u)).2) := by
 intro u
 induction u with
 | nil =>
  intro p env s hu h48 hp h0 h5 h6 h7 h8
  have e1 : rsF F [] = [] := by unfold rsF; split <;> simp
  have e2 : dsF F [] = [] := by unfold dsF; split <;> simp
  rw [e1, e2]
  refine aH G false _ _ af269l0.eq_1 _ _ _ ?_
  simp at h6
  simp [h0, h6, h7, h8, oA]
 | cons c t ih =>
  intro p env s hu h48 hp h0 h5 h6 h7 h8
  have hl := hu.trans hF
  have hlen := aO hl
  have hFl := aO hF
  have huF := aO hu
  have hgi := eM hl
  have hdg := lR c
  simp only [List.length_cons] at hlen huF h6 h48
  have hlt : b.length - (t.length + 1) < b.length := by omega
  have hw : IntKind.i64.wrap (((b.length - (t.length + 1) : Nat) : Int) + 1) = ((b.length - t.length : Nat) : Int) := by rw [aD (by omega) (by omega)]; omega
  have hw5 : IntKind.i64.wrap (((b.length - F.length : Nat) : Int) + 1) = ((b.length - F.length : Nat) : Int) + 1 := aD (by omega) (by omega)
  have hF0 : b[((b.length - F.length : Nat) : Int).toNat]? = some (hd0 F) := by
   obtain ⟨d, f, hd⟩ := List.exists_cons_of_ne_nil (l := F) (by intro h; rw [h] at huF; simp at huF)
   clear hgi hlt hw hw5 hlen hFl huF hl hu h48 h5 ih
   subst hd
   exact eM hF
  have hF0' := hF0
  rw [Int.toNat_natCast] at hF0'
  have e48 : (((hd0 F).toNat : Int) = 48) ↔ hd0 F = 48 := gL _ 48 (by decide)
  refine aH G false _ _ af269l0.eq_1 _ _ _ ?_
  by_cases hc : cB c = true
  ·have hcc := hc
   simp only [cB, Bool.and_eq_true, decide_eq_true_eq] at hcc
   by_cases hst : hd0 F = 48 ∧ t.length + 1 + 1 = F.length
   ·obtain ⟨hz, hone⟩ := hst
    have hzt : (hd0 F = 48) = True := eq_true hz
    have hj : ((b.length - (t.length + 1) : Nat) : Int) = ((b.length - F.length : Nat) : Int) + 1 := by omega
    have hjt := eq_true hj
    have e1 : rsF F (c :: t) = c :: t := by unfold rsF; rw [if_pos hz, List.length_cons, hone, Nat.sub_self]; rfl
    have e2 : dsF F (c :: t) = [] := by unfold dsF; rw [if_pos hz, List.length_cons, hone, Nat.sub_self]; rfl
    rw [e1, e2]
    simp [h0, h5, h6, hlt, ↓hgi, hdg, hc, hw5, hjt, ↓hF0, ↓hF0', e48, hzt, h7, h8, oA]
   ·have he : rsF F (c :: t) = rsF F t ∧ dsF F (c :: t) = c :: dsF F t ∧ (hd0 F = 48 → F.length ≤ t.length + 1) ∧ (((((b.length - (t.length + 1) : Nat) : Int) = ((b.length - F.length : Nat) : Int) + 1) = False) ∨ (((((b.length - (t.length + 1) : Nat) : Int) = ((b.length - F.length : Nat) : Int) + 1) = True) ∧ (hd0 F = 48) = False)) := by
     by_cases hz : hd0 F = 48
     ·have hFe : F = c :: t := by
       have h1 := h48 hz
       have h2 : t.length + 1 = F.length := by
        have : ¬ t.length + 1 + 1 = F.length := fun h => hst ⟨hz, h⟩
        omega
       exact (hu.eq_of_length (by simpa using h2)).symm
      clear hst h48
      subst hFe
      have hj : ¬ ((b.length - (t.length + 1) : Nat) : Int) = ((b.length - (c :: t).length : Nat) : Int) + 1 := by rw [List.length_cons]; omega
      refine ⟨?_, ?_, fun _ => by simp, .inl (eq_false hj)⟩
      ·unfold rsF; rw [if_pos hz, if_pos hz]; simp
      ·unfold dsF; rw [if_pos hz, if_pos hz]; simp
     ·refine ⟨?_, ?_, fun h => absurd h hz, ?_⟩
      ·unfold rsF; rw [if_neg hz, if_neg hz, List.dropWhile_cons, if_pos hc]
      ·unfold dsF; rw [if_neg hz, if_neg hz, List.takeWhile_cons, if_pos hc]
      ·by_cases hj : ((b.length - (t.length + 1) : Nat) : Int) = ((b.length - F.length : Nat) : Int) + 1
       ·exact .inr ⟨eq_true hj, eq_false hz⟩
       ·exact .inl (eq_false hj)
    obtain ⟨e1, e2, h48', hjz⟩ := he
    rw [e1, e2]
    have hfo : oA p (c :: dsF F t) = oA (oD p c) (dsF F t) := rfl
    rw [hfo]
    have hgo := ih (oD p c)
    have hpl : (oD p c).1 < 100000000000000000 := by unfold oD; split <;> simp only <;> omega
    clear hst ih h48
    by_cases hlt2 : p.1 < 1000000000000000
    ·have hst : oD p c = (p.1 * 10 + (c.toNat - 48), p.2) := by unfold oD; rw [if_pos hlt2]
     have hlt2' : ((p.1 : Int)) < 1000000000000000 := by omega
     have w1 : IntKind.i64.wrap ((p.1 : Int) * 10) = (p.1 : Int) * 10 := aD (by omega) (by omega)
     have w0 : IntKind.i64.wrap (c.toNat : Int) = (c.toNat : Int) := aD (by omega) (by omega)
     have w2 : IntKind.i64.wrap ((p.1 : Int) * 10 + (c.toNat : Int)) = (p.1 : Int) * 10 + (c.toNat : Int) := aD (by omega) (by omega)
     have w3 : IntKind.i64.wrap ((p.1 : Int) * 10 + (c.toNat : Int) - 48) = ((p.1 * 10 + (c.toNat - 48) : Nat) : Int) := by rw [aD (by omega) (by omega)]; omega
     rw [hst] at hgo hpl ⊢
     rcases hjz with hj | ⟨hj, hz⟩
     ·simp [h0, h5, h6, hlt, ↓hgi, hdg, hc, hw5, hj, ↓hF0, ↓hF0', e48, h7, h8, hlt2, hlt2', w1, w0, w2, w3, hw]
      refine Out.mono (hgo _ s ((List.suffix_cons c t).trans hu) h48' hpl (by simp [h0]) (by simp [h5]) (by simp) (by simp) (by simp [h8])) ?_
      rintro ex env' s' ⟨a1, a2, a3, a4, a5, a6, a7, a8, a9⟩
      exact ⟨a1, a2, a3, by rw [a4]; simp, by rw [a5]; simp, by rw [a6]; simp [h5], a7, a8, a9⟩
     ·simp [h0, h5, h6, hlt, ↓hgi, hdg, hc, hw5, hj, ↓hF0, ↓hF0', e48, hz, h7, h8, hlt2, hlt2', w1, w0, w2, w3, hw]
      refine Out.mono (hgo _ s ((List.suffix_cons c t).trans hu) h48' hpl (by simp [h0]) (by simp [h5]) (by simp) (by simp) (by simp [h8])) ?_
      rintro ex env' s' ⟨a1, a2, a3, a4, a5, a6, a7, a8, a9⟩
      exact ⟨a1, a2, a3, by rw [a4]; simp, by rw [a5]; simp, by rw [a6]; simp [h5], a7, a8, a9⟩
    ·have hst : oD p c = (p.1, true) := by unfold oD; rw [if_neg hlt2]
     have hlt2' : ¬ ((p.1 : Int)) < 1000000000000000 := by omega
     rw [hst] at hgo hpl ⊢
     rcases hjz with hj | ⟨hj, hz⟩
     ·simp [h0, h5, h6, hlt, ↓hgi, hdg, hc, hw5, hj, ↓hF0, ↓hF0', e48, h7, h8, hlt2, hlt2', hw]
      refine Out.mono (hgo _ s ((List.suffix_cons c t).trans hu) h48' hpl (by simp [h0]) (by simp [h5]) (by simp) (by simp [h7]) (by simp)) ?_
      rintro ex env' s' ⟨a1, a2, a3, a4, a5, a6, a7, a8, a9⟩
      exact ⟨a1, a2, a3, by rw [a4]; simp, by rw [a5]; simp, by rw [a6]; simp [h5], a7, a8, a9⟩
     ·simp [h0, h5, h6, hlt, ↓hgi, hdg, hc, hw5, hj, ↓hF0, ↓hF0', e48, hz, h7, h8, hlt2, hlt2', hw]
      refine Out.mono (hgo _ s ((List.suffix_cons c t).trans hu) h48' hpl (by simp [h0]) (by simp [h5]) (by simp) (by simp [h7]) (by simp)) ?_
      rintro ex env' s' ⟨a1, a2, a3, a4, a5, a6, a7, a8, a9⟩
      exact ⟨a1, a2, a3, by rw [a4]; simp, by rw [a5]; simp, by rw [a6]; simp [h5], a7, a8, a9⟩
  ·have hcf : cB c = false := by simpa using hc
   have e1 : rsF F (c :: t) = c :: t := by
    unfold rsF
    split
    ·rename_i hz
     have : t.length + 1 + 1 - F.length = 0 := by
      have := h48 hz
      rcases Nat.lt_or_ge (t.length + 1) F.length with h | h
      ·omega
      ·exfalso
       have hFe : F = c :: t := (hu.eq_of_length (by simp; omega)).symm
       rw [hFe] at hz
       rw [show c = 48 from hz] at hcf
       revert hcf; decide
     rw [List.length_cons, this]; rfl
    ·rw [List.dropWhile_cons, if_neg hc]
   have e2 : dsF F (c :: t) = [] := by
    have h1 : dsF F (c :: t) ++ rsF F (c :: t) = c :: t := by
     unfold dsF rsF
     split
     ·exact List.take_append_drop _ _
     ·exact List.takeWhile_append_dropWhile
    rw [e1] at h1
    have h2 := congrArg List.length h1
    simp only [List.length_append, List.length_cons] at h2
    exact List.eq_nil_of_length_eq_zero (by omega)
   rw [e1, e2]
   simp [h0, h5, h6, hlt, ↓hgi, hdg, hcf, h7, h8, oA]
def rtV (b l : List UInt8) : PR (Int × List UInt8) → V
 | .ok kt l' => Db kt.1 kt.2 ((b.length - l.length : Nat) : Int) ((b.length - l'.length : Nat) : Int) 0
 | .err l' e => Db 0 [] 0 ((b.length - l'.length : Nat) : Int) e
theorem If {l : List UInt8} (hne : tdg l ≠ []) : kJ (tdg l) = 0 ↔ tdg l = [48] := by
 constructor
 ·intro h
  have hd := uF l
  unfold tdg at h hne hd ⊢
  by_cases h48 : hd0 (eX l) = 48
  ·rw [if_pos h48]
  ·rw [if_neg h48] at h hne hd
   exfalso
   obtain ⟨x, t, hx⟩ := List.exists_cons_of_ne_nil hne
   have hx0 : hd0 (eX l) = x := by
    cases hn : eX l with
    | nil => rw [hn] at hx; simp at hx
    | cons c r =>
     rw [hn, List.takeWhile_cons] at hx
     split at hx
     ·simp only [List.cons.injEq] at hx; exact hx.1
     ·cases hx
   rw [hx] at h hd
   rw [hx0] at h48
   have h1 := hd x (by simp)
   simp only [cB, Bool.and_eq_true, decide_eq_true_eq] at h1
   have h2 : x.toNat ≠ 48 := fun h => h48 (UInt8.toNat_inj.1 h)
   have h3 : kJ (x :: t) = t.foldl (fun a x => 10 * a + (x.toNat - 48)) (x.toNat - 48) := by simp [kJ]
   have h4 := AK t (x.toNat - 48)
   rw [← h3, h] at h4
   have h5 : 0 < 10 ^ t.length * (x.toNat - 48) := Nat.mul_pos (Nat.pow_pos (by decide : 0 < 10)) (by omega)
   omega
 ·intro h; rw [h]; decide
theorem FL {b l : List UInt8} (hb : b.length ≤ 1000000000) (hl : l <:+ b) (hne : l ≠ []) (s : St) :
  call G 269 [.str b, .int .i64 ((b.length - l.length : Nat) : Int)] s = some (rtV b l (iL l), s) := by
 have key : ∃ q, call G 269 [.str b, .int .i64 ((b.length - l.length : Nat) : Int)] s = some q ∧ (fun v S' => v = rtV b l (iL l) ∧ S' = s) q.1 q.2 := by
  refine kM (G := G) (f := 269) (F := af269) (T := fun v S' => v = rtV b l (iL l) ∧ S' = s) rfl rfl ?_
  have hlen := aO hl
  have hT := (vV l).trans hl
  have hTl := aO hT
  have hR := (AH l).trans hT
  have hRl := aO hR
  have hTe := sD l
  have hnl := congrArg List.length hTe
  rw [List.length_append] at hnl
  have hl0 := List.length_pos_iff.2 hne
  have hi : b[((b.length - l.length : Nat) : Int).toNat]? = some (hd0 l) := by
   obtain ⟨c, t, rfl⟩ := List.exists_cons_of_ne_nil hne
   exact eM hl
  have hlt : b.length - l.length < b.length := by omega
  have e45 : (((hd0 l).toNat : Int) = 45) ↔ hd0 l = 45 := gL _ 45 (by decide)
  have hnum : (eX l).length = if hd0 l = 45 then l.length - 1 else l.length := by
   obtain ⟨c, t, rfl⟩ := List.exists_cons_of_ne_nil hne
   by_cases h45 : c = 45 <;> simp [eX, hd0, h45]
  have hE : ∀ (X : List Qw) (x : V), x.plain = rtV b l (iL l) → fin false s ⟨s.obs ++ X, s.bufs⟩ x = (rtV b l (iL l), s) := by
   intro X x hx
   have hun : (rtV b l (iL l)).und s.obs.length 0 = true := by cases iL l <;> simp [rtV]
   rw [bZ _ _ _ (by rw [hx]; exact hun), hx]
  have hdl := uF l
  have hval := xY (tdg l) (0, false) 0 hdl (fun _ => rfl) (fun h => by cases h)
  have hvd : kJ (tdg l) = (tdg l).foldl (fun a x => 10 * a + (x.toNat - 48)) 0 := rfl
  rw [← hvd] at hval
  have hds : dsF (eX l) (eX l) = tdg l := by unfold dsF tdg; split <;> (try rfl); rename_i h; cases hn : eX l with | nil => rw [hn] at h; exact absurd h (by decide) | cons c t => rw [hn] at h; have hc : c = 48 := h; subst hc; simp
  have hrs : rsF (eX l) (eX l) = trs l := by unfold rsF trs; split <;> (try rfl); rw [Nat.add_sub_cancel_left]
  simp [af269, af269b, hlt, ↓hi, e45]
  refine Out.mono (Q := fun ex env' s' => ex = .norm ∧ env' 0 = .str b ∧ env' 1 = .int .i64 ((b.length - l.length : Nat) : Int) ∧ env' 4 = .ptr s.obs.length 0 ∧ env' 5 = .int .i64 ((b.length - (eX l).length : Nat) : Int) ∧
   s' = ⟨s.obs ++ [.cells 261 [.int .i64 0, .str [], .int .i64 0, .int .i64 0, .int .i64 0]], s.bufs⟩) ?_ ?_
  ·by_cases h45 : hd0 l = 45
   ·have hw : IntKind.i64.wrap (((b.length - l.length : Nat) : Int) + 1) = ((b.length - (eX l).length : Nat) : Int) := by rw [hnum, if_pos h45, aD (by omega) (by omega)]; omega
    have h45t : (hd0 l = 45) = True := eq_true h45
    simp [h45t, hw]
   ·have h45t : (hd0 l = 45) = False := eq_false h45
    simp [h45t, hnum]
  rintro ex env s1 ⟨rfl, k0, k1, k4, k5, rfl⟩
  simp [k5]
  refine Out.mono (HG hb hT (eX l) (0, false) _ _ (List.suffix_refl _) (fun _ => by omega) (by decide) (by simp [k0]) (by simp [k5]) (by simp) (by simp) (by simp)) ?_
  rintro ex env2 s2 ⟨rfl, rfl, a0, a1, a4, a5, a6, a7, a8⟩
  simp [k1, k4, k5] at a1 a4 a5
  rw [hrs] at a6
  rw [hds] at a7 a8
  obtain ⟨v1, v2⟩ := hval
  generalize hn : (oA (0, false) (tdg l)).1 = n at *
  generalize hg : (oA (0, false) (tdg l)).2 = g at *
  have e1 : (b.length - (trs l).length = b.length - (eX l).length) ↔ tdg l = [] := by
   rw [← List.length_eq_zero_iff]; omega
  have e1' : (((b.length - (trs l).length : Nat) : Int) = ((b.length - (eX l).length : Nat) : Int)) ↔ tdg l = [] := by
   rw [← List.length_eq_zero_iff]; omega
  have hng : iS l = decide (hd0 l = 45) := rfl
  have e3 : (b.length - l.length < b.length - (eX l).length) ↔ iS l = true := by
   rw [hng, decide_eq_true_eq, hnum]
   split <;> simp_all <;> omega
  have e3' : (((b.length - l.length : Nat) : Int) < ((b.length - (eX l).length : Nat) : Int)) ↔ iS l = true := by
   rw [← e3]; omega
  have hwr := nZ
  have hz : g = false → tdg l ≠ [] → (n = 0 ↔ tdg l = [48]) := by
   intro hgf hne2
   rw [v1 hgf]
   exact If hne2
  by_cases hbad : sA l
  ·have htn : iL l = .err l 3 := by unfold iL; rw [if_pos hbad]
   rw [htn] at hE ⊢
   by_cases h1 : tdg l = []
   ·simp [a1, a4, a5, a6, e1, e1', h1, hwr, aI, aK, aB, V.one]
    exact hE _ _ (by simp [rtV])
   cases g with
   | true =>
    simp [a1, a4, a5, a6, a8, e1, e1', h1, hwr, aI, aK, aB, V.one]
    exact hE _ _ (by simp [rtV])
   | false =>
    by_cases h2 : 9007199254740991 < n
    ·have h2' : (9007199254740991 : Int) < (n : Int) := by omega
     simp [a1, a4, a5, a6, a7, a8, e1, e1', h1, h2, h2', hwr, aI, aK, aB, V.one]
     exact hE _ _ (by simp [rtV])
    ·have h2' : ¬ (9007199254740991 : Int) < (n : Int) := by omega
     have h3 : iS l = true ∧ n = 0 := by
      rcases hbad with h | ⟨h, h'⟩ | h
      ·exact absurd h h1
      ·exact ⟨h, (hz rfl h1).2 h'⟩
      ·rw [← v1 rfl] at h; omega
     obtain ⟨h3, h4⟩ := h3
     simp [a1, a4, a5, a6, a7, a8, e1, e1', e3, e3', h1, h2, h2', h3, h4, hwr, aI, aK, aB, V.one]
     exact hE _ _ (by simp [rtV])
  ·have h1 : ¬ tdg l = [] := fun h => hbad (.inl h)
   have hgf : g = false := by
    cases g with
    | false => rfl
    | true => exact absurd (v2 rfl) (fun h => hbad (.inr (.inr (by omega))))
   subst hgf
   have hn2 : n = kJ (tdg l) := v1 rfl
   have h2 : ¬ 9007199254740991 < n := fun h => hbad (.inr (.inr (by omega)))
   have h2' : ¬ (9007199254740991 : Int) < (n : Int) := by omega
   have h3 : ¬ (iS l = true ∧ n = 0) := fun h => hbad (.inr (.inl ⟨h.1, (hz rfl h1).1 h.2⟩))
   have htn : iL l = if jL (trs l) = true then .err (trs l) 3 else .ok (3, ttx l) (trs l) := by unfold iL; rw [if_neg hbad]
   have hltx := DV l hne
   have hlx := congrArg List.length hltx
   rw [List.length_append] at hlx
   have hsl : bD (.str b) (some (.int .i64 ((b.length - l.length : Nat) : Int))) (some (.int .i64 ((b.length - (trs l).length : Nat) : Int))) = some (.str (ttx l)) := by
    have e : (b.take (b.length - (trs l).length)).drop (b.length - l.length) = ttx l := by
     have h := dE hl
     rw [List.drop_take, h, show b.length - (trs l).length - (b.length - l.length) = (ttx l).length by omega]
     have h3 : (ttx l ++ trs l).take (ttx l).length = ttx l := List.take_left
     rw [← hltx] at h3
     exact h3
    simp only [bD, bnd, Int.toNat_natCast]
    rw [if_pos (by omega), if_pos (by omega)]
    simp only
    rw [if_pos (by omega), e]
   simp only [cA, if_true, cC]
   rw [eF]
   refine Out.mono (Q := fun ex env' s' => ex = .norm ∧ env' 0 = .str b ∧ env' 1 = .int .i64 ((b.length - l.length : Nat) : Int) ∧ env' 4 = .ptr s.obs.length 0 ∧ env' 6 = .int .i64 ((b.length - (trs l).length : Nat) : Int) ∧
    s' = ⟨s.obs ++ [.cells 261 [.int .i64 0, .str [], .int .i64 0, .int .i64 0, .int .i64 0]], s.bufs⟩) ?_ ?_
   ·by_cases hg1 : iS l = true
    ·have hn0 : ¬ n = 0 := fun h => h3 ⟨hg1, h⟩
     simp [a0, a1, a4, a5, a6, a7, a8, e1, e1', e3, e3', h1, h2, h2', hg1, hn0]
    ·simp [a0, a1, a4, a5, a6, a7, a8, e1, e1', e3, e3', h1, h2, h2', hg1]
   clear a0 a1 a4 a5 a6 a7 a8
   rintro ex env3 s3 ⟨rfl, a0, a1, a4, a6, rfl⟩
   rw [htn] at hE ⊢
   generalize trs l = u at *
   cases u with
   | nil =>
    simp only [jL, Bool.false_eq_true, if_false, List.length_nil, Nat.sub_zero] at hE a6 hsl ⊢
    simp [a0, a1, a4, a6, hsl, aI, aK, aB, V.one]
    exact hE _ _ (by simp [rtV])
   | cons c t =>
    have hgi := eM hR
    simp only [List.length_cons] at hRl a6 hsl
    have hlt2 : b.length - (t.length + 1) < b.length := by omega
    have hlet := nT c
    have hdig := lR c
    have e46 : ((c.toNat : Int) = 46) ↔ c = 46 := gL c 46 (by decide)
    by_cases hL : iR c = true
    ·have hnb : jL (c :: t) = true := by simp [jL, dG, hL]
     rw [if_pos hnb] at hE ⊢
     simp [a0, a1, a4, a6, hlt2, ↓hgi, hlet, hL, hwr, aI, aK, aB, V.one]
     exact hE _ _ (by simp [rtV])
    by_cases hD : cB c = true
    ·have hnb : jL (c :: t) = true := by simp [jL, dG, hD]
     rw [if_pos hnb] at hE ⊢
     simp [a0, a1, a4, a6, hlt2, ↓hgi, hlet, hL, hdig, hD, hwr, aI, aK, aB, V.one]
     exact hE _ _ (by simp [rtV])
    by_cases h46 : c = 46
    ·have hnb : jL (c :: t) = true := by simp [jL, h46]
     have h46t : (c = 46) = True := eq_true h46
     rw [if_pos hnb] at hE ⊢
     simp [a0, a1, a4, a6, hlt2, ↓hgi, hlet, hL, hdig, hD, e46, h46t, hwr, aI, aK, aB, V.one]
     exact hE _ _ (by simp [rtV])
    ·have hnb : ¬ jL (c :: t) = true := by simp [jL, dG, hL, hD, h46]
     have h46t : (c = 46) = False := eq_false h46
     rw [if_neg hnb] at hE ⊢
     simp [a0, a1, a4, a6, hlt2, ↓hgi, hlet, hL, hdig, hD, e46, h46t, hsl, aI, aK, aB, V.one]
     exact hE _ _ (by simp [rtV])
 obtain ⟨⟨v, S'⟩, h1, h2, h3⟩ := key
 rw [h1]
 simp only at h2 h3
 rw [h2, h3]
abbrev RS (s : St) (k : Int) (t : List UInt8) (a n e : Int) : St := ⟨s.obs ++ [.cells 261 [.int .i64 k, .str t, .int .i64 a, .int .i64 n, .int .i64 e]], s.bufs⟩
theorem IN {b l' : List UInt8} (hb : b.length ≤ 1000000000) (a : Int) (s : St) : ∀ (Y : List UInt8) (env : Env), (Y ++ l') <:+ b → env 0 = .str b → env 1 = .int .i64 a → env 4 = .ptr s.obs.length 0 → env 6 = .int .i64 ((b.length - l'.length : Nat) : Int) → env 7 = .int .i64 ((b.length - (Y ++ l').length : Nat) : Int) →
  Out (evC G (.loop false af270l0) env (RS s 0 [] 0 0 0)) (fun ex env' s' => ((Y.any fun c => fD c.toNat) = true ∧ ex = .ret ∧ s' = RS s 0 [] 0 a 3 ∧ env' 4 = .ptr s.obs.length 0) ∨
   ((Y.any fun c => fD c.toNat) = false ∧ ex = .exit 2 ∧ s' = RS s 0 [] 0 0 0 ∧ env' 0 = .str b ∧ env' 1 = .int .i64 a ∧ env' 4 = .ptr s.obs.length 0 ∧ env' 5 = env 5 ∧ env' 6 = .int .i64 ((b.length - l'.length : Nat) : Int))) := by
 intro Y
 induction Y with
 | nil =>
  intro env hY h0 h1 h4 h6 h7
  refine aH G false _ _ af270l0.eq_1 _ _ _ ?_
  rw [List.nil_append] at h7
  simp [h0, h1, h4, h6, h7]
 | cons c Y ih =>
  intro env hY h0 h1 h4 h6 h7
  rw [List.cons_append] at hY h7
  have hlen := aO hY
  have hgi := eM hY
  have hgi2 := hgi
  rw [Int.toNat_natCast] at hgi2
  have hYl : (Y ++ l').length = Y.length + l'.length := List.length_append
  simp only [List.length_cons] at hlen h7
  have hlt : b.length - ((Y ++ l').length + 1) < b.length - l'.length := by omega
  have hlt' : ((b.length - ((Y ++ l').length + 1) : Nat) : Int) < ((b.length - l'.length : Nat) : Int) := by omega
  have hw : IntKind.i64.wrap (((b.length - ((Y ++ l').length + 1) : Nat) : Int) + 1) = ((b.length - (Y ++ l').length : Nat) : Int) := by rw [aD (by omega) (by omega)]; omega
  have hgo := fun env => ih env (cJ hY)
  have e32 : ((c.toNat : Int) < 32) ↔ c.toNat < 32 := by omega
  have e9 : ((c.toNat : Int) = 9) ↔ c.toNat = 9 := by omega
  have e10 : ((c.toNat : Int) = 10) ↔ c.toNat = 10 := by omega
  have e13 : ((c.toNat : Int) = 13) ↔ c.toNat = 13 := by omega
  have hwr := nZ
  clear ih
  generalize hV : Y ++ l' = v at *
  refine aH G false _ _ af270l0.eq_1 _ _ _ ?_
  by_cases hc : fD c.toNat = true
  ·have ha : ((c :: Y).any fun c => fD c.toNat) = true := by simp [hc]
   simp only [fD, Bool.and_eq_true, decide_eq_true_eq, Bool.not_eq_true', decide_eq_false_iff_not] at hc
   obtain ⟨⟨⟨c1, c2⟩, c3⟩, c4⟩ := hc
   rw [ha]
   simp [h0, h1, h4, h6, h7, hlt, hlt', ↓hgi, ↓hgi2, e32, e9, e10, e13, c1, c2, c3, c4, hwr, aI, aK, aB, V.one]
  ·have ha : ((c :: Y).any fun c => fD c.toNat) = (Y.any fun c => fD c.toNat) := by simp [hc]
   rw [ha]
   generalize (Y.any fun c => fD c.toNat) = B at *
   have hc2 : ¬ c.toNat < 32 ∨ c.toNat = 9 ∨ c.toNat = 10 ∨ c.toNat = 13 := by
    simp only [fD, Bool.and_eq_true, decide_eq_true_eq, Bool.not_eq_true', decide_eq_false_iff_not] at hc
    omega
   have hfin : ∀ env1 : Env, env1 0 = .str b → env1 1 = .int .i64 a → env1 4 = .ptr s.obs.length 0 → env1 5 = env 5 → env1 6 = .int .i64 ((b.length - l'.length : Nat) : Int) → env1 7 = .int .i64 ((b.length - v.length : Nat) : Int) → Out (evC G (.loop false af270l0) env1 (RS s 0 [] 0 0 0)) (fun ex env' s' => (B = true ∧ ex = .ret ∧ s' = RS s 0 [] 0 a 3 ∧ env' 4 = .ptr s.obs.length 0) ∨
   (B = false ∧ ex = .exit 2 ∧ s' = RS s 0 [] 0 0 0 ∧ env' 0 = .str b ∧ env' 1 = .int .i64 a ∧ env' 4 = .ptr s.obs.length 0 ∧ env' 5 = env 5 ∧ env' 6 = .int .i64 ((b.length - l'.length : Nat) : Int))) := by
    intro env1 k0 k1 k4 k5 k6 k7
    rw [← k5]
    exact hgo env1 k0 k1 k4 k6 k7
   by_cases c1 : c.toNat < 32
   ·rcases hc2 with c2 | c2 | c2 | c2
    ·exact absurd c1 c2
    all_goals
     simp [h0, h1, h4, h6, h7, hlt, hlt', ↓hgi, ↓hgi2, e32, e9, e10, e13, c2, hw]
     refine Out.mono (hfin _ (by simp [h0]) (by simp [h1]) (by simp [h4]) (by simp) (by simp [h6]) (by simp)) (fun _ _ _ h => by simpa using h)
   ·simp [h0, h1, h4, h6, h7, hlt, hlt', ↓hgi, ↓hgi2, e32, e9, e10, e13, c1, hw]
    refine Out.mono (hfin _ (by simp [h0]) (by simp [h1]) (by simp [h4]) (by simp) (by simp [h6]) (by simp)) (fun _ _ _ h => by simpa using h)
theorem HA {r u : List UInt8} (hu : u <:+ r) : jN r u ++ u = r := by
 unfold jN
 obtain ⟨p, rfl⟩ := hu
 rw [List.length_append, Nat.add_sub_cancel, List.take_left]
def rrT (b r : List UInt8) (s : St) (a : Int) (m : Option (List UInt8)) (ex : Qg) (env' : Env) (s' : St) : Prop :=
 match m with
 | none => ex = .exit 0 ∧ s' = RS s 0 [] 0 0 0 ∧ env' 1 = .int .i64 a ∧ env' 4 = .ptr s.obs.length 0
 | some l' => ex = .ret ∧ env' 4 = .ptr s.obs.length 0 ∧ s' = if ((jN r l').any fun c => fD c.toNat) = true then RS s 0 [] 0 a 3 else RS s 4 (nE (jN r l')) a ((b.length - (l'.drop 3).length : Nat) : Int) 0
theorem HJ {b r : List UInt8} (hb : b.length ≤ 100000000) (hr : r <:+ b) (a : Int) (s : St) : ∀ (n : Nat) (u : List UInt8) (p : UInt8) (env : Env), u.length < n → u <:+ r → (p :: u) <:+ b → env 0 = .str b → env 1 = .int .i64 a → env 4 = .ptr s.obs.length 0 → env 5 = .int .i64 ((b.length - r.length : Nat) : Int) → env 6 = .int .i64 ((b.length - u.length : Nat) : Int) →
  Out (evC G (.loop false af270l1) env (RS s 0 [] 0 0 0)) (rrT b r s a (iI 0 p u)) := by
 intro n
 induction n with
 | zero => intro u p env h; omega
 | succ n ih =>
  intro u p env hn hu hp h0 h1 h4 h5 h6
  have hub := cJ hp
  have hlen := aO hub
  have hplen := aO hp
  simp only [List.length_cons] at hplen
  have hbg := fun s => nQ (b := b) (l := u) (w := [34, 34, 34]) (by omega) (by decide) hub s
  refine aH G false _ _ af270l1.eq_1 _ _ _ ?_
  cases u with
  | nil =>
   simp only [List.length_nil, Nat.sub_zero] at h6
   simp [h0, h1, h4, h6, iI, rrT]
  | cons c t =>
   have hgp : b[((b.length - ((c :: t).length + 1) : Nat) : Int).toNat]? = some p := eM hp
   simp only [List.length_cons] at hlen hplen h6 hn hgp
   have hlt : b.length - (t.length + 1) < b.length := by omega
   have hw : IntKind.i64.wrap (((b.length - (t.length + 1) : Nat) : Int) + 1) = ((b.length - t.length : Nat) : Int) := by rw [aD (by omega) (by omega)]; omega
   have hwm : IntKind.i64.wrap (((b.length - (t.length + 1) : Nat) : Int) - 1) = ((b.length - (t.length + 1 + 1) : Nat) : Int) := by rw [aD (by omega) (by omega)]; omega
   have e92 : ((p.toNat : Int) = 92) ↔ p = 92 := gL p 92 (by decide)
   by_cases hb3 : eG (c :: t) q3 = true
   ·have hb3' : eG (c :: t) [34, 34, 34] = true := hb3
    by_cases h92 : p = 92
    ·have h92t : (p = 92) = True := eq_true h92
     obtain ⟨r2, hr2⟩ := pK hb3
     have hrs : iI 0 p (c :: t) = iI 0 34 r2 := by
      rw [iI, if_pos hb3, if_pos h92]
      simp only [q3, List.cons.injEq] at hr2
      obtain ⟨rfl, rfl⟩ := hr2
      rfl
     rw [hrs]
     have hsu : (34 :: r2) <:+ (c :: t) := by rw [hr2]; exact ⟨[34, 34], rfl⟩
     have htl : t.length = r2.length + 2 := by have := congrArg List.length hr2; simpa using this
     have hw2 : IntKind.i64.wrap (((b.length - (t.length + 1) : Nat) : Int) + 2) = ((b.length - (r2.length + 1) : Nat) : Int) := by rw [aD (by omega) (by omega)]; omega
     have hw3 : IntKind.i64.wrap (((b.length - (r2.length + 1) : Nat) : Int) + 1) = ((b.length - r2.length : Nat) : Int) := by rw [aD (by omega) (by omega)]; omega
     have hgo := fun env => ih r2 34 env (by omega) ((cJ hsu).trans hu) (hsu.trans hub)
     clear ih hr2 hrs
     simp only [List.length_cons] at hbg
     simp [h0, h1, h4, h5, h6, hlt, hbg, hb3', hwm, ↓hgp, e92, h92t, hw2, hw3]
     exact hgo _ (by simp [h0]) (by simp [h1]) (by simp [h4]) (by simp [h5]) (by simp)
    ·have h92t : (p = 92) = False := eq_false h92
     have hrs : iI 0 p (c :: t) = some (c :: t) := by rw [iI, if_pos hb3, if_neg h92]
     rw [hrs]
     have hX := HA hu
     have hcl := IN (b := b) (l' := c :: t) (by omega) a s (jN r (c :: t))
     rw [hX] at hcl
     have hxl : (jN r (c :: t)).length ≤ 100000000 := by
      have := congrArg List.length hX
      have := aO hr
      simp only [List.length_append] at *
      omega
     have hrl := aO hr
     have hXl := congrArg List.length hX
     rw [List.length_append] at hXl
     have hsl : bD (.str b) (some (.int .i64 ((b.length - r.length : Nat) : Int))) (some (.int .i64 ((b.length - (c :: t).length : Nat) : Int))) = some (.str (jN r (c :: t))) := by
      have e : (b.take (b.length - (c :: t).length)).drop (b.length - r.length) = jN r (c :: t) := by
       rw [List.drop_take, dE hr]
       unfold jN
       congr 1
       omega
      simp only [bD, bnd, Int.toNat_natCast]
      rw [if_pos (by omega), if_pos (by omega)]
      simp only
      rw [if_pos (by rw [List.length_cons] at *; omega), e]
     have hval := BS (jN r (c :: t)) hxl
     have h3l : (List.drop 3 (c :: t)).length = t.length + 1 - 3 := by simp
     have hb4 := pK hb3
     have htl : 3 ≤ t.length + 1 := by
      obtain ⟨r2, hr2⟩ := hb4
      have := congrArg List.length hr2
      simp only [List.length_cons] at this
      omega
     have hw3 : IntKind.i64.wrap (((b.length - (t.length + 1) : Nat) : Int) + 3) = ((b.length - (t.length + 1 - 3) : Nat) : Int) := by rw [aD (by omega) (by omega)]; omega
     clear ih hX hb4 hrs
     have hT1 : ((jN r (c :: t)).any fun c => fD c.toNat) = true → ∀ env' : Env, env' 4 = .ptr s.obs.length 0 → rrT b r s a (some (c :: t)) .ret env' (RS s 0 [] 0 a 3) := fun h env' h4 => ⟨rfl, h4, by rw [if_pos h]⟩
     have hT2 : ((jN r (c :: t)).any fun c => fD c.toNat) = false → ∀ env' : Env, env' 4 = .ptr s.obs.length 0 → rrT b r s a (some (c :: t)) .ret env' (RS s 4 (nE (jN r (c :: t))) a ((b.length - (t.length + 1 - 3) : Nat) : Int) 0) := fun h env' h4 => ⟨rfl, h4, by rw [if_neg (by simp [h]), h3l]⟩
     generalize jN r (c :: t) = X at *
     generalize rrT b r s a (some (c :: t)) = T at *
     simp only [List.length_cons] at hbg hcl hsl
     simp [h0, h1, h4, h5, h6, hlt, hbg, hb3', hwm, ↓hgp, e92, h92t]
     refine Out.mono (hcl _ hr (by simp [h0]) (by simp [h1]) (by simp [h4]) (by simp [h6]) (by simp [h5])) ?_
     rintro ex env1 s1 (⟨hB, rfl, rfl, k4⟩ | ⟨hB, rfl, rfl, k0, k1, k4, k5, k6⟩)
     ·simp
      exact hT1 hB _ k4
     ·simp [h5] at k5
      simp [k0, k1, k4, k5, k6, hsl, hval, hw3, aI, aK, aB, V.one]
      exact hT2 hB _ (by simp [k4])
   ·have hb3' : eG (c :: t) [34, 34, 34] = false := (Bool.not_eq_true _).mp hb3
    have hrs : iI 0 p (c :: t) = iI 0 c t := by rw [iI, if_neg hb3]
    rw [hrs]
    have hgo := fun env => ih t c env (by omega) ((List.suffix_cons c t).trans hu) hub
    clear ih hrs
    simp only [List.length_cons] at hbg
    simp [h0, h1, h4, h5, h6, hlt, hbg, hb3', hw]
    exact hgo _ (by simp [h0]) (by simp [h1]) (by simp [h4]) (by simp [h5]) (by simp)
theorem FO {b l r : List UInt8} (hb : b.length ≤ 100000000) (hl : l <:+ b) (hq : l = 34 :: 34 :: 34 :: r) (s : St) :
  call G 270 [.str b, .int .i64 ((b.length - l.length : Nat) : Int)] s = some (rtV b l (sF l), s) := by
 refine aC (F := af270) rfl rfl ?_
 have hlen := aO hl
 have hll : l.length = r.length + 3 := by rw [hq]; rfl
 have hr34 : (34 :: r) <:+ b := by
  have h1 : (34 :: r) <:+ l := ⟨[34, 34], by rw [hq]; rfl⟩
  exact h1.trans hl
 have hr := cJ hr34
 have hd3 : l.drop 3 = r := by rw [hq]; rfl
 have hw : IntKind.i64.wrap (((b.length - l.length : Nat) : Int) + 3) = ((b.length - r.length : Nat) : Int) := by rw [aD (by omega) (by omega)]; omega
 have hwr := nZ
 simp [af270, af270b, hw]
 refine Out.mono (HJ hb hr ((b.length - l.length : Nat) : Int) s (r.length + 1) r 34 _ (by omega) (List.suffix_refl r) hr34 (by simp) (by simp) (by simp) (by simp) (by simp)) ?_
 unfold sF
 rw [hd3]
 intro ex env1 s1 hT
 cases hR : iI 0 34 r with
 | none =>
  rw [hR] at hT
  obtain ⟨rfl, rfl, k1, k4⟩ := hT
  simp [k1, k4, hwr, aI, aK, aB, V.one, rtV]
  rw [bZ _ _ _ (by rfl)]
  rfl
 | some l' =>
  rw [hR] at hT
  obtain ⟨rfl, k4, rfl⟩ := hT
  simp only
  by_cases hc : ((jN r l').any fun c => fD c.toNat) = true
  ·rw [if_pos hc, if_pos hc]
   simp [k4, rtV]
   rw [bZ _ _ _ (by rfl)]
   rfl
  ·rw [if_neg hc, if_neg hc]
   simp [k4, rtV]
   rw [bZ _ _ _ (by rfl)]
   rfl
def wL (s : St) (c : UInt8) (a : Int) (v : List UInt8) (ex : Qg) (env env' : Env) (s' : St) : Prop :=
 if v.contains c = true then ex = .ret ∧ s' = RS s 1 [c] a (a + 1) 0 ∧ env' 4 = .ptr s.obs.length 0
 else ex = .exit 0 ∧ s' = RS s 0 [] 0 0 0 ∧ env' 0 = env 0 ∧ env' 1 = .int .i64 a ∧ env' 4 = .ptr s.obs.length 0 ∧ env' 5 = .int .u8 c.toNat
theorem HW (c : UInt8) (a : Int) (ha : 0 ≤ a) (ha2 : a ≤ 1000000000) (s : St) : ∀ (v : List UInt8) (env : Env), v <:+ signsT → env 1 = .int .i64 a → env 4 = .ptr s.obs.length 0 → env 5 = .int .u8 c.toNat → env 6 = .str signsT → env 7 = .int .i64 ((signsT.length - v.length : Nat) : Int) →
  Out (evC G (.loop false af206l0) env (RS s 0 [] 0 0 0)) (fun ex env' s' => wL s c a v ex env env' s') := by
 intro v
 induction v with
 | nil =>
  intro env hv h1 h4 h5 h6 h7
  refine aH G false _ _ af206l0.eq_1 _ _ _ ?_
  simp only [List.length_nil, Nat.sub_zero] at h7
  simp [h6, h7]
  exact ⟨rfl, rfl, by simp, by simp [h1], by simp [h4], by simp [h5]⟩
 | cons d t ih =>
  intro env hv h1 h4 h5 h6 h7
  have hlen := aO hv
  have hgi := eM hv
  have hsl : signsT.length = 13 := rfl
  simp only [List.length_cons] at hlen h7
  have hlt : signsT.length - (t.length + 1) < signsT.length := by omega
  have hw : IntKind.i64.wrap (((signsT.length - (t.length + 1) : Nat) : Int) + 1) = ((signsT.length - t.length : Nat) : Int) := by rw [aD (by omega) (by omega)]; omega
  have hwa : IntKind.i64.wrap (a + 1) = a + 1 := aD (by omega) (by omega)
  have hdc : ((d.toNat : Int) = (c.toNat : Int)) ↔ d = c := by rw [← UInt8.toNat_inj]; omega
  have hdc' : (d.toNat = c.toNat) ↔ d = c := UInt8.toNat_inj
  have hsc : bD (.str signsT) (some (.int .i64 ((signsT.length - (t.length + 1) : Nat) : Int))) (some (.int .i64 ((signsT.length - t.length : Nat) : Int))) = some (.str [d]) := by
   have e : (signsT.take (signsT.length - t.length)).drop (signsT.length - (t.length + 1)) = [d] := by
    have h := dE hv
    simp only [List.length_cons] at h
    rw [List.drop_take, h, show signsT.length - t.length - (signsT.length - (t.length + 1)) = 1 by omega]
    rfl
   simp only [bD, bnd, Int.toNat_natCast]
   rw [if_pos (by omega), if_pos (by omega)]
   simp only
   rw [if_pos (by omega), e]
  have hgo := fun env => ih env (cJ hv)
  clear ih hv
  generalize signsT = S at *
  refine aH G false _ _ af206l0.eq_1 _ _ _ ?_
  by_cases hc : d = c
  ·have hct : (d = c) = True := eq_true hc
   have hcon : (d :: t).contains c = true := by simp [hc]
   have hT : ∀ env env' : Env, env' 4 = .ptr s.obs.length 0 → wL s c a (d :: t) .ret env env' (RS s 1 [d] a (a + 1) 0) := fun env env' h => by
    unfold wL; rw [if_pos hcon]; exact ⟨rfl, by rw [hc], h⟩
   simp [h1, h4, h5, h6, h7, hlt, ↓hgi, hdc, hdc', hct, hw, hwa, hsc, aI, aK, aB, V.one]
   exact hT _ _ (by simp [h4])
  ·have hct : (d = c) = False := eq_false hc
   have hcon : (d :: t).contains c = t.contains c := by
    rw [List.contains_cons]
    have : (c == d) = false := by rw [beq_eq_false_iff_ne]; exact fun h => hc h.symm
    rw [this, Bool.false_or]
   have hT : ∀ ex env1 env' s', env1 0 = env 0 → wL s c a t ex env1 env' s' → wL s c a (d :: t) ex env env' s' := by
    intro ex env1 env' s' he h
    unfold wL at h ⊢
    rw [hcon]
    rw [he] at h
    exact h
   simp [h1, h4, h5, h6, h7, hlt, ↓hgi, hdc, hdc', hct, hw]
   exact Out.mono (hgo _ (by simp [h1]) (by simp [h4]) (by simp [h5]) (by simp [h6]) (by simp)) (fun ex env' s' h => hT _ _ _ _ (by simp) h)
theorem Ky {b : List UInt8} (hb : b.length ≤ 1000000000) : ∀ (u : List UInt8) (env : Env) (s : St), u <:+ b → env 0 = .str b → env 8 = .int .i64 ((b.length - u.length : Nat) : Int) →
  Out (evC G (.loop false af206l1) env s) (fun ex env' s' => ex = .exit 2 ∧ s' = s ∧ env' 0 = .str b ∧ env' 1 = env 1 ∧ env' 4 = env 4 ∧ env' 8 = .int .i64 ((b.length - (u.dropWhile dG).length : Nat) : Int)) := by
 intro u
 induction u with
 | nil =>
  intro env s hu h0 h8
  refine aH G false _ _ af206l1.eq_1 _ _ _ ?_
  simp only [List.length_nil, Nat.sub_zero] at h8
  simp [h0, h8]
 | cons c t ih =>
  intro env s hu h0 h8
  have hlen := aO hu
  have hgi := eM hu
  simp only [List.length_cons] at hlen h8
  have hlt : b.length - (t.length + 1) < b.length := by omega
  have hw : IntKind.i64.wrap (((b.length - (t.length + 1) : Nat) : Int) + 1) = ((b.length - t.length : Nat) : Int) := by rw [aD (by omega) (by omega)]; omega
  have hL := nT c
  have hD := lR c
  refine aH G false _ _ af206l1.eq_1 _ _ _ ?_
  by_cases h : dG c = true
  ·have hdw : (c :: t).dropWhile dG = t.dropWhile dG := by rw [List.dropWhile_cons, if_pos h]
   rw [hdw]
   by_cases h1 : iR c = true
   ·simp [h0, h8, hlt, ↓hgi, hL, h1, hw]
    refine Out.mono (ih _ s (cJ hu) (by simp [h0]) (by simp)) ?_
    rintro ex env' s' ⟨a1, a2, a3, a4, a5, a6⟩
    exact ⟨a1, a2, a3, by rw [a4]; simp, by rw [a5]; simp, a6⟩
   ·have h2 : cB c = true := by simpa [dG, h1] using h
    simp [h0, h8, hlt, ↓hgi, hL, h1, hD, h2, hw]
    refine Out.mono (ih _ s (cJ hu) (by simp [h0]) (by simp)) ?_
    rintro ex env' s' ⟨a1, a2, a3, a4, a5, a6⟩
    exact ⟨a1, a2, a3, by rw [a4]; simp, by rw [a5]; simp, a6⟩
  ·have hdw : (c :: t).dropWhile dG = c :: t := by rw [List.dropWhile_cons, if_neg h]
   rw [hdw]
   have h1 : iR c = false := by simp [dG] at h; exact h.1
   have h2 : cB c = false := by simp [dG] at h; exact h.2
   simp [h0, h8, hlt, ↓hgi, hL, h1, hD, h2]
theorem GC {l : List UInt8} (h : eG l q3 = true) : ∃ r, l = 34 :: 34 :: 34 :: r := by
 rw [iO] at h
 obtain ⟨r, hr⟩ := List.isPrefixOf_iff_prefix.1 h
 exact ⟨r, hr.symm⟩
theorem Dr {b l : List UInt8} (hb : b.length ≤ 100000000) (hl : l <:+ b) (hne : l ≠ []) (s : St) :
  call G 206 [.str b, .int .i64 ((b.length - l.length : Nat) : Int)] s = some (rtV b l (fM l), s) := by
 have key : ∃ q, call G 206 [.str b, .int .i64 ((b.length - l.length : Nat) : Int)] s = some q ∧ (fun v S' => v = rtV b l (fM l) ∧ S' = s) q.1 q.2 := by
  refine kM (G := G) (f := 206) (F := af206) (T := fun v S' => v = rtV b l (fM l) ∧ S' = s) rfl rfl ?_
  have hlen := aO hl
  have hl0 := List.length_pos_iff.2 hne
  have hi : b[((b.length - l.length : Nat) : Int).toNat]? = some (hd0 l) := by
   obtain ⟨c, t, rfl⟩ := List.exists_cons_of_ne_nil hne
   exact eM hl
  have hlt : b.length - l.length < b.length := by omega
  have hE : ∀ (X : List Qw) (x : V), x.plain = rtV b l (fM l) → fin false s ⟨s.obs ++ X, s.bufs⟩ x = (rtV b l (fM l), s) := by
   intro X x hx
   have hun : (rtV b l (fM l)).und s.obs.length 0 = true := by cases fM l <;> simp [rtV]
   rw [bZ _ _ _ (by rw [hx]; exact hun), hx]
  have hbd := fun s => nQ (b := b) (l := l) (w := [46, 46, 46]) (by omega) (by decide) hl s
  have hbq := fun s => nQ (b := b) (l := l) (w := [34, 34, 34]) (by omega) (by decide) hl s
  have hL := nT (hd0 l)
  have hD := lR (hd0 l)
  have hnum := FL (b := b) (l := l) (by omega) hl hne
  have hwr := nZ
  have e45 : (((hd0 l).toNat : Int) = 45) ↔ hd0 l = 45 := gL _ 45 (by decide)
  have e34 : (((hd0 l).toNat : Int) = 34) ↔ hd0 l = 34 := gL _ 34 (by decide)
  have hsl0 : bD (.str b) (some (.int .i64 ((b.length - l.length : Nat) : Int))) none = some (.str l) := by
   simp [bD, bnd, dE hl]
  have hsig := HW (hd0 l) ((b.length - l.length : Nat) : Int) (by omega) (by omega) s signsT
  have hdr : ∀ k, k ≤ l.length → b.length - (l.drop k).length = b.length - l.length + k := fun k hk => by rw [List.length_drop]; omega
  simp [af206, af206b, hlt, ↓hi]
  refine Out.mono (hsig _ (List.suffix_refl _) (by simp) (by simp) (by simp) (by simp [signsT]) (by simp)) ?_
  clear hsig
  intro ex env1 s1 hT
  unfold wL at hT
  have hsg : signsT.contains (hd0 l) = kG (hd0 l) := rfl
  rw [hsg] at hT
  by_cases c1 : kG (hd0 l) = true
  ·have htk : fM l = .ok (1, [hd0 l]) (l.drop 1) := by unfold fM; rw [if_pos c1]
   rw [if_pos c1] at hT
   obtain ⟨rfl, rfl, k4⟩ := hT
   have h1 := hdr 1 (by omega)
   rw [htk] at hE ⊢
   have hr : rtV b l (.ok (1, [hd0 l]) (l.drop 1)) = Db 1 [hd0 l] ((b.length - l.length : Nat) : Int) (((b.length - l.length : Nat) : Int) + 1) 0 := by
    show Db _ _ _ ((b.length - (l.drop 1).length : Nat) : Int) 0 = _
    rw [h1]
    rfl
   rw [hr] at hE ⊢
   simp [k4]
   exact hE _ _ (by simp)
  rw [if_neg c1] at hT
  obtain ⟨rfl, rfl, k0, k1, k4, k5⟩ := hT
  simp at k0
  by_cases c2 : eG l d3 = true
  ·have htk : fM l = .ok (1, d3) (l.drop 3) := by unfold fM; rw [if_neg c1, if_pos c2]
   have c2' : eG l [46, 46, 46] = true := c2
   have h3l : 3 ≤ l.length := by simp only [eG, Bool.and_eq_true, decide_eq_true_eq] at c2; exact c2.1
   have h1 := hdr 3 h3l
   have hw3 : IntKind.i64.wrap (((b.length - l.length : Nat) : Int) + 3) = ((b.length - l.length : Nat) : Int) + 3 := aD (by omega) (by omega)
   rw [htk] at hE ⊢
   simp [k0, k1, k4, k5, hbd, c2', hw3, aI, aK, aB, V.one]
   exact hE _ _ (by simp [rtV, -List.length_drop, h1, d3])
  have c2' : eG l [46, 46, 46] = false := (Bool.not_eq_true _).mp c2
  by_cases c3 : iR (hd0 l) = true
  ·have htk : fM l = .ok (2, l.takeWhile dG) (l.dropWhile dG) := by unfold fM; rw [if_neg c1, if_neg c2, if_pos c3]
   rw [htk] at hE ⊢
   simp [k0, k1, k4, k5, hbd, c2', hL, c3]
   refine Out.mono (Ky (by omega) l _ _ hl (by simp [k0]) (by simp [k1])) ?_
   rintro ex env2 s2 ⟨rfl, rfl, m0, m1, m4, m8⟩
   simp [k1, k4] at m1 m4
   have htd : l.takeWhile dG ++ l.dropWhile dG = l := List.takeWhile_append_dropWhile
   have htl := congrArg List.length htd
   rw [List.length_append] at htl
   have hsl : bD (.str b) (some (.int .i64 ((b.length - l.length : Nat) : Int))) (some (.int .i64 ((b.length - (l.dropWhile dG).length : Nat) : Int))) = some (.str (l.takeWhile dG)) := by
    have e : (b.take (b.length - (l.dropWhile dG).length)).drop (b.length - l.length) = l.takeWhile dG := by
     rw [List.drop_take, dE hl, show b.length - (l.dropWhile dG).length - (b.length - l.length) = (l.takeWhile dG).length by omega]
     have h3 : (l.takeWhile dG ++ l.dropWhile dG).take (l.takeWhile dG).length = l.takeWhile dG := List.take_left
     rw [htd] at h3
     exact h3
    simp only [bD, bnd, Int.toNat_natCast]
    rw [if_pos (by omega), if_pos (by omega)]
    simp only
    rw [if_pos (by omega), e]
   simp [m0, m1, m4, m8, hsl, aI, aK, aB, V.one]
   exact hE _ _ (by simp [rtV])
  have c3' : iR (hd0 l) = false := (Bool.not_eq_true _).mp c3
  by_cases c4 : (cB (hd0 l) || decide (hd0 l = 45)) = true
  ·have htk : fM l = iL l := by unfold fM; rw [if_neg c1, if_neg c2, if_neg c3, if_pos c4]
   rw [htk] at hE ⊢
   have hr : ∃ k t a n e, rtV b l (iL l) = Db k t a n e := by cases iL l <;> exact ⟨_, _, _, _, _, rfl⟩
   obtain ⟨k, t, a, n, e, hr⟩ := hr
   rw [hr] at hE hnum ⊢
   by_cases h45 : hd0 l = 45
   ·have h45t : (hd0 l = 45) = True := eq_true h45
    simp [k0, k1, k4, k5, hbd, c2', hL, c3', e45, h45t, hnum, aI, aK, aB, V.one]
    exact hE _ _ (by simp)
   ·have h45t : (hd0 l = 45) = False := eq_false h45
    have hdg : cB (hd0 l) = true := by simpa [h45] using c4
    simp [k0, k1, k4, k5, hbd, c2', hL, c3', e45, h45t, hD, hdg, hnum, aI, aK, aB, V.one]
    exact hE _ _ (by simp)
  have c4' : cB (hd0 l) = false ∧ ¬ hd0 l = 45 := by simpa using c4
  obtain ⟨hdg, h45⟩ := c4'
  have h45t : (hd0 l = 45) = False := eq_false h45
  by_cases c5 : eG l q3 = true
  ·have c5' : eG l [34, 34, 34] = true := c5
   have htk : fM l = sF l := by unfold fM; rw [if_neg c1, if_neg c2, if_neg c3, if_neg c4, if_pos c5]
   obtain ⟨r, hq⟩ := GC c5
   have hraw := FO hb hl hq
   rw [htk] at hE ⊢
   have hr : ∃ k t a n e, rtV b l (sF l) = Db k t a n e := by cases sF l <;> exact ⟨_, _, _, _, _, rfl⟩
   obtain ⟨k, t, a, n, e, hr⟩ := hr
   rw [hr] at hE hraw ⊢
   simp [k0, k1, k4, k5, hbd, c2', hL, c3', e45, h45t, hD, hdg, hbq, c5', hraw, aI, aK, aB, V.one]
   exact hE _ _ (by simp)
  have c5' : eG l [34, 34, 34] = false := (Bool.not_eq_true _).mp c5
  by_cases c6 : hd0 l = 34
  ·have c6t : (hd0 l = 34) = True := eq_true c6
   have htk : fM l = wW l := by unfold fM; rw [if_neg c1, if_neg c2, if_neg c3, if_neg c4, if_neg c5, if_pos c6]
   have hunq := BL (q := l) (by omega)
   have hps := wA l
   have hpe := fun l' e => Hw (l := l) (l' := l') (e := e)
   rw [htk] at hE ⊢
   unfold wW at hE ⊢
   cases hP : oW l with
   | err l' e =>
    rw [hP] at hunq hps hE
    simp only [prT, PR.rest, PR.e] at hunq hps
    have he := hpe _ _ hP
    have hl'l := aO hps
    have hw : IntKind.i64.wrap (((b.length - l.length : Nat) : Int) + ((l.length - l'.length : Nat) : Int)) = ((b.length - l'.length : Nat) : Int) := by rw [aD (by omega) (by omega)]; omega
    simp [k0, k1, k4, k5, hbd, c2', hL, c3', e45, h45t, hD, hdg, hbq, c5', e34, c6t, hsl0, hunq, he, hw, hwr, aI, aK, aB, V.one]
    exact hE _ _ (by simp [rtV])
   | ok t l' =>
    rw [hP] at hunq hps hE
    simp only [prT, PR.rest, PR.e] at hunq hps
    have hl'l := aO hps
    have hw : IntKind.i64.wrap (((b.length - l.length : Nat) : Int) + ((l.length - l'.length : Nat) : Int)) = ((b.length - l'.length : Nat) : Int) := by rw [aD (by omega) (by omega)]; omega
    simp [k0, k1, k4, k5, hbd, c2', hL, c3', e45, h45t, hD, hdg, hbq, c5', e34, c6t, hsl0, hunq, hw, aI, aK, aB, V.one]
    exact hE _ _ (by simp [rtV])
  ·have c6t : (hd0 l = 34) = False := eq_false c6
   have htk : fM l = .err l 3 := by unfold fM; rw [if_neg c1, if_neg c2, if_neg c3, if_neg c4, if_neg c5, if_neg c6]
   rw [htk] at hE ⊢
   simp [k0, k1, k4, k5, hbd, c2', hL, c3', e45, h45t, hD, hdg, hbq, c5', e34, c6t, hwr, aI, aK, aB, V.one]
   exact hE _ _ (by simp [rtV])
 obtain ⟨⟨v, S'⟩, h1, h2, h3⟩ := key
 rw [h1]
 simp only at h2 h3
 rw [h2, h3]
def rlT (b : List UInt8) (s : St) (p : PR (List Tok)) (ex : Qg) (env' : Env) (s' : St) : Prop :=
 match p with
 | .ok toks _ => ex = .exit 0 ∧ env' 3 = .ptr s.obs.length 0 ∧ env' 5 = .sl (bF s.bufs toks) (bO toks) ∧ s'.obs.take (s.obs.length + 1) = s.obs ++ [.cells 29 [.int .i64 0, .int .i64 0]] ∧ s'.bufs = s.bufs ++ dH (32, 195) toks
 | .err l' e => ex = .ret ∧ env' 2 = .sl .nil [] ∧ env' 3 = .ptr s.obs.length 0 ∧ s'.obs.take (s.obs.length + 1) = s.obs ++ [.cells 29 [.int .i64 e, .int .i64 ((b.length - l'.length : Nat) : Int)]] ∧ s'.bufs.take s.bufs.length = s.bufs
theorem HF {b : List UInt8} (hb : b.length ≤ 100000000) (s : St) : ∀ (n : Nat) (l : List UInt8) (toks : List Tok) (O : List Qw) (env : Env), l.length < n → l <:+ b → toks.length + l.length ≤ 1000000000 → O.take (s.obs.length + 1) = s.obs ++ [.cells 29 [.int .i64 0, .int .i64 0]] → env 0 = .str b → env 3 = .ptr s.obs.length 0 → env 5 = .sl (bF s.bufs toks) (bO toks) → env 6 = .int .i64 ((b.length - l.length : Nat) : Int) →
  Out (evC G (.loop false af127l0) env ⟨O, s.bufs ++ dH (32, 195) toks⟩) (rlT b s (mC b n l toks)) := by
 intro n
 induction n with
 | zero => intro l toks O env h; omega
 | succ n ih =>
  intro l toks O env hn hl ht hO h0 h3 h5 h6
  have hlen := aO hl
  have hOl : s.obs.length + 1 ≤ O.length := by
   have := congrArg List.length hO
   simp at this
   omega
  have hOg : O[s.obs.length]? = some (.cells 29 [.int .i64 0, .int .i64 0]) := by
   have : (O.take (s.obs.length + 1))[s.obs.length]? = some (.cells 29 [.int .i64 0, .int .i64 0]) := by rw [hO]; simp
   rw [List.getElem?_take] at this
   simpa using this
  have hOs : ∀ (X : List Qw) c, ((O ++ X).set s.obs.length c).take (s.obs.length + 1) = s.obs ++ [c] := by
   intro X c
   rw [List.take_set, List.take_append_of_le_length hOl, hO, List.set_append_right _ _ (Nat.le_refl _)]
   simp
  have hOX : ∀ (X : List Qw), (O ++ X)[s.obs.length]? = some (.cells 29 [.int .i64 0, .int .i64 0]) := by
   intro X
   rw [List.getElem?_append_left (by omega), hOg]
  have hOs0 : ∀ c, (O.set s.obs.length c).take (s.obs.length + 1) = s.obs ++ [c] := by
   intro c
   have := hOs [] c
   rwa [List.append_nil] at this
  have htl := dA toks
  refine aH G false _ _ af127l0.eq_1 _ _ _ ?_
  rw [mC]
  by_cases hne : l = []
  ·subst hne
   simp only [List.length_nil, Nat.sub_zero] at h6
   have hT : ∀ env : Env, env 3 = .ptr s.obs.length 0 → env 5 = .sl (bF s.bufs toks) (bO toks) → rlT b s (.ok toks []) (.exit 0) env ⟨O, s.bufs ++ dH (32, 195) toks⟩ := fun env k3 k5 => ⟨rfl, k3, k5, hO, rfl⟩
   simp [h0, h6]
   exact hT _ (by simp [h3]) (by simp [h5])
  ·rw [if_neg hne]
   have hp := List.length_pos_iff.2 hne
   have hlt : b.length - l.length < b.length := by omega
   have hnx := Dr hb hl hne
   by_cases h900 : toks.length = 900
   ·rw [if_pos h900]
    have h9 : ((toks.length : Nat) : Int) = 900 := by omega
    have hT : ∀ env : Env, env 2 = .sl .nil [] → env 3 = .ptr s.obs.length 0 → rlT b s (.err l 6) .ret env ⟨O.set s.obs.length (.cells 29 [.int .i64 6, .int .i64 ((b.length - l.length : Nat) : Int)]), s.bufs ++ dH (32, 195) toks⟩ := fun env k2 k3 => ⟨rfl, k2, k3, hOs0 _, by simp⟩
    generalize rlT b s (.err l 6) = T at *
    simp [h0, h3, h5, h6, hlt, htl, h900, h9, hOg, aI, aK, aB, V.one]
    exact hT _ (by simp) (by simp [h3])
   rw [if_neg h900]
   have h9 : ¬ ((toks.length : Nat) : Int) = 900 := by omega
   cases hT : fM l with
   | err l' e =>
    rw [hT] at hnx
    have he := Cl hT
    subst he
    have hT2 : ∀ (X : List Qw) (env : Env), env 2 = .sl .nil [] → env 3 = .ptr s.obs.length 0 → rlT b s (.err l' 3) .ret env ⟨(O ++ X).set s.obs.length (.cells 29 [.int .i64 3, .int .i64 ((b.length - l'.length : Nat) : Int)]), s.bufs ++ dH (32, 195) toks⟩ := fun X env k2 k3 => ⟨rfl, k2, k3, hOs X _, by simp⟩
    simp only
    generalize rlT b s (.err l' 3) = T at *
    simp only [rtV] at hnx
    simp [h0, h3, h5, h6, hlt, htl, h900, h9, hnx, aI, aK, aB, V.one, hOX]
    exact hT2 _ _ (by simp) (by simp [h3])
   | ok kt l' =>
    rw [hT] at hnx
    obtain ⟨hs1, hs2⟩ := wU hne hT
    obtain ⟨k, t⟩ := kt
    have hl' := hs1.trans hl
    have hbt := rA (b := b) (by omega) hl'
    have hbs := gY false l'
    have hbl := aO hbs
    have hroom : iJ = 140737488355328 := by decide
    have hap := fun O => nC bO rfl dA 3 32 195 .no (fN ⟨k, t, ((b.length - l.length : Nat) : Int)⟩) sN rfl toks (by rw [hroom]; omega) O s.bufs
    have hown : ∀ x, bF s.bufs (toks ++ [x]) = .buf s.bufs.length := fun x => by simp [bF]
    have hexo : ∀ x : Tok, dH (32, 195) (toks ++ [x]) = [(toks.length + 1, 32, 195)] := fun x => by simp [dH]
    have hgo := fun O env => ih (eE false l') (toks ++ [⟨k, t, ((b.length - l.length : Nat) : Int)⟩]) O env (by omega) (hbs.trans hl') (by simp; omega)
    rw [hown, hexo, yT] at hgo
    have hOt : ∀ X : List Qw, (O ++ X).take (s.obs.length + 1) = s.obs ++ [.cells 29 [.int .i64 0, .int .i64 0]] := fun X => by rw [List.take_append_of_le_length hOl, hO]
    clear ih hOs hOs0
    simp only
    generalize rlT b s (mC b n (eE false l') (toks ++ [⟨k, t, ((b.length - l.length : Nat) : Int)⟩])) = T at *
    simp only [rtV] at hnx
    simp only [fN] at hap hgo
    simp [h0, h3, h5, h6, hlt, htl, h900, h9, hnx, aI, aY, aK, aB, V.one, hOX, hap, hbt]
    exact hgo _ _ (hOt _) (by simp [h0]) (by simp [h3]) (by simp) (by simp)
theorem FJ (b : List UInt8) (hb : b.length ≤ 9223372036854775807) (s : St) :
  call G 127 [.str b] s = some (.tup [.sl .no (bO (dK b).1), .agg [.int .i64 (dK b).2.1, .int .i64 (dK b).2.2]], s) := by
 refine aC (F := af127) rfl rfl ?_
 by_cases h4 : 4000 < b.length
 ·have h4' : (4000 : Int) < (b.length : Int) := by omega
  simp [af127, af127b, h4, h4', aI, aB, V.one, aK]
  rw [bZ _ _ _ (by rfl)]
  simp [dK, h4, bO]
 have h4' : ¬ (4000 : Int) < (b.length : Int) := by omega
 have hbad := FF b (by omega)
 by_cases hbd : 0 ≤ mH b (b.length + 1) 0
 ·simp [af127, af127b, h4, h4', hbad, hbd, aI, aB, V.one, aK]
  rw [bZ _ _ _ (by rfl)]
  simp [dK, h4, hbd, bO]
 have hbt := rA (b := b) (l := b) (by omega) (List.suffix_refl b)
 rw [Nat.sub_self] at hbt
 have hbt' : ∀ s, call G 205 [.str b, .int .i64 0] s = some (.int .i64 ((b.length - (eE false b).length : Nat) : Int), s) := hbt
 have hbs := gY false b
 have hbl := aO hbs
 simp [af127, af127b, h4, h4', hbad, hbd, hbt', aI, aK, V.one]
 have e0 : (⟨s.obs ++ [.cells 29 [.int .i64 0, .int .i64 0]], s.bufs⟩ : St) = ⟨s.obs ++ [.cells 29 [.int .i64 0, .int .i64 0]], s.bufs ++ dH (32, 195) ([] : List Tok)⟩ := by simp [dH]
 rw [e0]
 refine Out.mono (HF (b := b) (by omega) s (b.length + 1) (eE false b) [] _ _ (by omega) hbs (by simp; omega) (by rw [List.take_of_length_le (by simp)]) (by simp) (by simp) (by simp [bF, bO]) (by simp)) ?_
 intro ex env' s' hT
 cases hL : mC b (b.length + 1) (eE false b) [] with
 | ok toks l' =>
  rw [hL] at hT
  obtain ⟨rfl, k3, k5, hO, hB⟩ := hT
  have hlp : dK b = (toks, 0, 0) := by unfold dK; rw [if_neg h4, if_neg hbd, hL]
  rw [hlp]
  have hOl : s.obs.length + 1 ≤ s'.obs.length := by
   have := congrArg List.length hO
   simp at this
   omega
  have hOg : s'.obs[s.obs.length]? = some (.cells 29 [.int .i64 0, .int .i64 0]) := by
   have : (s'.obs.take (s.obs.length + 1))[s.obs.length]? = some (.cells 29 [.int .i64 0, .int .i64 0]) := by rw [hO]; simp
   rw [List.getElem?_take] at this
   simpa using this
  have hOt : s'.obs.take s.obs.length = s.obs := by
   have := congrArg (List.take s.obs.length) hO
   rw [List.take_take, Nat.min_eq_left (by omega), List.take_left] at this
   exact this
  have hz : ∀ c, ((s'.obs.set s.obs.length c).take s.obs.length) = s.obs := fun c => by rw [List.take_set_of_le (Nat.le_refl _), hOt]
  obtain ⟨O, B⟩ := s'
  simp only at hB hO hOl hOg hOt hz
  subst hB
  simp [k3, k5, hOg, aI, aB, V.one, aK]
  have hlt : s.obs.length < O.length := by omega
  simp [hlt]
  rw [CK (hz _) (by simp) (by cases toks <;> simp [bF, aE, bE])]
  simp [aE]
 | err l' e =>
  rw [hL] at hT
  obtain ⟨rfl, k2, k3, hO, hB⟩ := hT
  have hlp : dK b = ([], e, ((b.length - l'.length : Nat) : Int)) := by unfold dK; rw [if_neg h4, if_neg hbd, hL]
  rw [hlp]
  have hOg : s'.obs[s.obs.length]? = some (.cells 29 [.int .i64 e, .int .i64 ((b.length - l'.length : Nat) : Int)]) := by
   have : (s'.obs.take (s.obs.length + 1))[s.obs.length]? = some (.cells 29 [.int .i64 e, .int .i64 ((b.length - l'.length : Nat) : Int)]) := by rw [hO]; simp
   rw [List.getElem?_take] at this
   simpa using this
  have hOt : s'.obs.take s.obs.length = s.obs := by
   have := congrArg (List.take s.obs.length) hO
   rw [List.take_take, Nat.min_eq_left (by omega), List.take_left] at this
   exact this
  simp [k2, k3, hOg]
  rw [CK hOt hB (by simp)]
  simp [bO]
