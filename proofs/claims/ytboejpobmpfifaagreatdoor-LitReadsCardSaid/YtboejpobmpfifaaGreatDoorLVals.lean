/-
 Literals, read by the program. No condition.
-/
import Derived.Test.YtboejpobmpfifaaGreatDoorLRds
set_option linter.unusedSimpArgs false
set_option linter.unusedVariables false
namespace Go.Proofs.YtboejpobmpfifaaGreatDoor.Eng
open Go
attribute [local simp] gS gR eT eN dR eV cY cW eU dQ dP eF eS dL cC dU cZ cN dM cA bX cV bW
attribute [local simp] hZ aZ put dB X.ev cF cO cP cS bU dO cR bV dN cQ eR gH kV bM fL gT fE gB V.plain aW V.und bY scK kill aF bQ aG dT dS cT mB bR fU V.real bH bK cU
attribute [local simp] eK iE fH iX dY dX fS fR
def iT (x : List UInt8) : JV := if x = yW then jNull else if x = yX then .mk 1 1 [] [] [] else if x = tE then .mk 1 0 [] [] [] else .mk 6 0 x [] []
def Bz (x : List UInt8) : Int := match Lib.parseIntB 64 x with
 | .ok v => v
 | Lib.NumEnd.syntax => 0
 | .range => Lib.intSat 64 x
def Qk.lst (f : Qk → Qk × JV) : Nat → Qk → List JV → Qk × List JV
 | 0, R, acc => (R, acc)
 | n + 1, R, acc => if R.is [93] = true then (R.tl, acc) else if R.e ≠ 0 then (R, acc) else Qk.lst f n (f R).1 (acc ++ [(f R).2])
def Qk.key (R : Qk) (acc : List (List UInt8 × JV)) : Qk × List UInt8 :=
 ((if acc.any (fun p => decide (p.1 = R.name.2)) = true then R.name.1.fail R.at_ 7 else R.name.1).must [58], R.name.2)
def Qk.obj (f : Qk → Qk × JV) : Nat → Qk → List (List UInt8 × JV) → Qk × List (List UInt8 × JV)
 | 0, R, acc => (R, acc)
 | n + 1, R, acc => if R.is [125] = true then (R.tl, acc) else if R.e ≠ 0 then (R, acc) else
  Qk.obj f n (f (R.key acc).1).1 (acc ++ [((R.key acc).2, (f (R.key acc).1).2)])
def Qk.val (c : Bool) : Nat → Qk → Qk × JV
 | 0, R => if R.over = true then (R.form, jNull) else (R.fail R.at_ 5, jNull)
 | d + 1, R =>
  if R.over = true then (R.form, jNull)
  else if R.kind = 2 then (R.tl, iT R.hd.s)
  else if R.kind = 3 then (R.tl, .mk 2 (Bz R.hd.s) [] [] [])
  else if R.kind = 4 then (R.tl, .mk 3 0 R.hd.s [] [])
  else if R.is [36] = true ∧ c = false then (R.tl.name.1, .mk 7 0 R.tl.name.2 [] [])
  else if R.is [91] = true then ((Qk.lst (Qk.val c d) (R.L.length + 2) R.tl []).1, .mk 4 0 [] (Qk.lst (Qk.val c d) (R.L.length + 2) R.tl []).2 [])
  else if R.is [123] = true then ((Qk.obj (Qk.val c d) (R.L.length + 2) R.tl []).1, .mk 5 0 [] [] (Qk.obj (Qk.val c d) (R.L.length + 2) R.tl []).2)
  else (R.form, jNull)
def Qk.mu (R : Qk) : Nat := if R.e = 0 then R.L.length + 1 else 0
theorem Ho {R R' : Qk} (h1 : R.e ≠ 0 → R'.e ≠ 0) (h2 : R'.L.length ≤ R.L.length) : R'.mu ≤ R.mu := by
 unfold Qk.mu
 by_cases h : R.e = 0
 ·rw [if_pos h]; split <;> omega
 ·rw [if_neg h, if_neg (h1 h)]; omega
theorem iC {R : Qk} {p e : Int} (he : e ≠ 0) : (R.fail p e).e ≠ 0 := by
 unfold Qk.fail
 by_cases h : R.e = 0
 ·rw [if_pos ⟨h, he⟩]; exact he
 ·rw [if_neg (fun q => h q.1)]; exact h
theorem sK (R : Qk) (p e : Int) : (R.fail p e).L = R.L := by
 unfold Qk.fail
 split <;> rfl
theorem AF (R : Qk) : R.tl.L <:+ R.L := List.drop_suffix 1 R.L
theorem Jk {R : Qk} (x : List UInt8) (h : R.e ≠ 0) : (R.must x).e ≠ 0 := by
 unfold Qk.must
 split
 ·exact h
 ·exact iC (by decide)
theorem KB (R : Qk) (x : List UInt8) : (R.must x).L <:+ R.L := by
 unfold Qk.must
 split
 ·exact AF R
 ·rw [Qk.form, sK]; exact List.suffix_refl _
theorem Jl {R : Qk} (h : R.e ≠ 0) : R.name.1.e ≠ 0 := by
 unfold Qk.name
 split
 ·exact h
 ·exact iC (by decide)
theorem CV (R : Qk) : R.name.1.L <:+ R.L := by
 unfold Qk.name
 split
 ·exact AF R
 ·rw [Qk.form, sK]; exact List.suffix_refl _
theorem Hj {R : Qk} (acc : List (List UInt8 × JV)) (h : R.e ≠ 0) : (R.key acc).1.e ≠ 0 := by
 unfold Qk.key
 refine Jk _ ?_
 split
 ·exact iC (by decide)
 ·exact Jl h
theorem Eu (R : Qk) (acc : List (List UInt8 × JV)) : (R.key acc).1.L <:+ R.L := by
 unfold Qk.key
 refine (KB _ _).trans ?_
 split
 ·rw [sK]; exact CV R
 ·exact CV R
theorem vW {R : Qk} (h : R.over = false) : R.e = 0 ∧ R.tl.L.length + 1 = R.L.length := by
 obtain ⟨L, n, e, a⟩ := R
 simp only [Qk.over, Bool.or_eq_false_iff, Bool.not_eq_false', decide_eq_true_eq, decide_eq_false_iff_not] at h
 refine ⟨h.1, ?_⟩
 cases L with
 | nil => exact absurd rfl h.2
 | cons t L => simp [Qk.tl]
def reads (f : Qk → Qk × JV) : Prop := ∀ R, (R.e ≠ 0 → (f R).1.e ≠ 0) ∧ (f R).1.L <:+ R.L ∧ (R.e = 0 → (f R).1.mu < R.mu)
theorem yH {f : Qk → Qk × JV} (hf : reads f) : ∀ (n : Nat) (R : Qk) (acc : List JV), (R.e ≠ 0 → (Qk.lst f n R acc).1.e ≠ 0) ∧ (Qk.lst f n R acc).1.L <:+ R.L
 | 0, R, acc => ⟨fun h => h, List.suffix_refl _⟩
 | n + 1, R, acc => by
  rw [Qk.lst]
  split
  ·exact ⟨fun h => h, AF R⟩
  split
  ·exact ⟨fun h => h, List.suffix_refl _⟩
  ·obtain ⟨h1, h2, _⟩ := hf R
   obtain ⟨i1, i2⟩ := yH hf n (f R).1 (acc ++ [(f R).2])
   exact ⟨fun h => i1 (h1 h), i2.trans h2⟩
theorem yK {f : Qk → Qk × JV} (hf : reads f) : ∀ (n : Nat) (R : Qk) (acc : List (List UInt8 × JV)), (R.e ≠ 0 → (Qk.obj f n R acc).1.e ≠ 0) ∧ (Qk.obj f n R acc).1.L <:+ R.L
 | 0, R, acc => ⟨fun h => h, List.suffix_refl _⟩
 | n + 1, R, acc => by
  rw [Qk.obj]
  split
  ·exact ⟨fun h => h, AF R⟩
  split
  ·exact ⟨fun h => h, List.suffix_refl _⟩
  ·obtain ⟨h1, h2, _⟩ := hf (R.key acc).1
   obtain ⟨i1, i2⟩ := yK hf n (f (R.key acc).1).1 (acc ++ [((R.key acc).2, (f (R.key acc).1).2)])
   exact ⟨fun h => i1 (h1 (Hj acc h)), i2.trans (h2.trans (Eu R acc))⟩
theorem jR (c : Bool) : ∀ d, reads (Qk.val c d)
 | 0 => by
  intro R
  rw [Qk.val]
  split
  ·refine ⟨fun _ => iC (by decide), by rw [Qk.form, sK]; exact List.suffix_refl _, fun h => ?_⟩
   have hq : R.form.e ≠ 0 := iC (by decide)
   simp only [Qk.mu]
   rw [if_pos h, if_neg hq]; omega
  ·refine ⟨fun _ => iC (by decide), by rw [sK]; exact List.suffix_refl _, fun h => ?_⟩
   have hq : (R.fail R.at_ 5).e ≠ 0 := iC (by decide)
   simp only [Qk.mu]
   rw [if_pos h, if_neg hq]; omega
 | d + 1 => by
  intro R
  have hfm : (R.e ≠ 0 → R.form.e ≠ 0) ∧ R.form.L <:+ R.L ∧ (R.e = 0 → R.form.mu < R.mu) := by
   refine ⟨fun _ => iC (by decide), by rw [Qk.form, sK]; exact List.suffix_refl _, fun h => ?_⟩
   unfold Qk.mu
   rw [if_pos h, if_neg (show R.form.e ≠ 0 from iC (by decide))]; omega
  rw [Qk.val]
  by_cases ho : R.over = true
  ·rw [if_pos ho]; exact hfm
  rw [if_neg ho]
  obtain ⟨he, hl⟩ := vW (by simpa using ho)
  have key : ∀ R' : Qk, R'.L <:+ R.tl.L → (R.e ≠ 0 → R'.e ≠ 0) ∧ R'.L <:+ R.L ∧ (R.e = 0 → R'.mu < R.mu) := by
   intro R' h
   have hle := h.length_le
   refine ⟨fun q => absurd he q, h.trans (AF R), fun _ => ?_⟩
   unfold Qk.mu
   rw [if_pos he]
   split <;> omega
  split
  ·exact key _ (List.suffix_refl _)
  split
  ·exact key _ (List.suffix_refl _)
  split
  ·exact key _ (List.suffix_refl _)
  split
  ·exact key _ (CV _)
  split
  ·exact key _ (yH (jR c d) _ _ _).2
  split
  ·exact key _ (yK (jR c d) _ _ _).2
  ·exact hfm
theorem Hp {R : Qk} (h : R.over = false) : R.tl.mu < R.L.length + 2 := by
 obtain ⟨he, hl⟩ := vW h
 unfold Qk.mu
 split <;> omega
theorem CW (x : List UInt8) (s : St) : call G 272 [.str x] s = some (toV (iT x), s) := by
 refine aC (F := af272) rfl rfl ?_
 by_cases h1 : x = yW
 ·subst h1
  simp [af272, af272b, yW, aI, aK, aB, V.one]
  rw [bZ _ _ _ (by rfl)]
  rfl
 by_cases h2 : x = yX
 ·subst h2
  simp [af272, af272b, yX, aI, aK, aB, V.one]
  rw [bZ _ _ _ (by rfl)]
  rfl
 by_cases h3 : x = tE
 ·subst h3
  simp [af272, af272b, tE, aI, aK, aB, V.one]
  rw [bZ _ _ _ (by rfl)]
  rfl
 ·have e1 : (x = [110, 117, 108, 108]) = False := eq_false h1
  have e2 : (x = [116, 114, 117, 101]) = False := eq_false h2
  have e3 : (x = [102, 97, 108, 115, 101]) = False := eq_false h3
  have hn : iT x = .mk 6 0 x [] [] := by unfold iT; rw [if_neg h1, if_neg h2, if_neg h3]
  rw [hn]
  simp [af272, af272b, e1, e2, e3, aI, aK, aB, V.one]
  rw [bZ _ _ _ (by rfl)]
  rfl
theorem FA (x : List UInt8) (hx : x.length ≤ 281474976710656) (s : St) : ∃ v, call G 273 [.str x, .int .i64 10, .int .i64 64] s = some (.tup [.int .i64 (Bz x), v], s) := by
 rw [jE G 273 _ s qN rfl]
 simp only [qN, if_pos hx]
 unfold Bz
 split <;> rename_i h <;> rw [h] <;> exact ⟨_, rfl⟩
end Go.Proofs.YtboejpobmpfifaaGreatDoor.Eng
namespace Go.Proofs.YtboejpobmpfifaaGreatDoor.Eng
open Go
attribute [local simp] eT dR eV cY cW eU dQ dP eF eS dL cC dU cZ cN dM cA bX cV bW
attribute [local simp] hZ aZ put dB X.ev cF cO cP cS bU dO cR bV dN cQ eK iE fH iX dY dX fS fR eR gH kV bM fL gT fE gB fin V.plain aW V.und bY scK kill aF bQ aG dT dS cT mB bR fU V.real bH bK cU
def sQ {α : Type} (g : α → Bool) : List α → Nat → Int
 | [], _ => -1
 | x :: xs, i => if g x then i else sQ g xs (i + 1)
abbrev pv (p : List UInt8 × JV) : V := .agg (.str p.1 :: vc p.2)
theorem Bo {α : Type} (g : α → Bool) : ∀ (L : List α) (i : Nat), -1 ≤ sQ g L i ∧ (0 ≤ sQ g L i ↔ L.any g = true)
 | [], i => by simp [sQ]
 | x :: xs, i => by
  unfold sQ
  have := Bo g xs (i + 1)
  split
  ·rename_i h
   simp [h]
   try omega
  ·rename_i h
   simp [h]
   simpa using this
theorem Ff (L : List (List UInt8 × JV)) (hL : L.length ≤ 9223372036854775807) (f : FuncId) (cap : List V) (hcap : aW cap = cap) (g : (List UInt8 × JV) → Bool) :
  ∀ (m i : Nat) (env : Env) (s : St), L.length - i = m → i ≤ L.length → env 0 = .sl .no (dF L) → env 1 = .fn (.func f) [] cap → env 7 = .int .i64 L.length → env 8 = .int .i64 i →
   (∀ x ∈ L, call G f (pv x :: cap) s = some (.bool (g x), s)) →
   Out (evC G (.loop false af234l0) env s) (fun e env' s' => s' = s ∧ ((sQ g (L.drop i) i = -1 ∧ e = .exit 0) ∨ (sQ g (L.drop i) i ≠ -1 ∧ e = .ret ∧ env' 4 = .int .i64 (sQ g (L.drop i) i)))) := by
 intro m
 induction m with
 | zero =>
  intro i env s hm hi h0 h1 h7 h8 hc
  have : i = L.length := by omega
  subst this
  refine aH G false _ _ af234l0.eq_1 _ _ _ ?_
  simp [h7, h8]
  refine aA _ _ _ _ _ _ _ rfl (fun h => by simp at h) (fun _ => ?_)
  simp [sQ]
 | succ m ihm =>
  intro i env s hm hi h0 h1 h7 h8 hc
  have hlt : i < L.length := by omega
  have hd := List.drop_eq_getElem_cons hlt
  refine aH G false _ _ af234l0.eq_1 _ _ _ ?_
  simp [h7, h8]
  refine aA _ _ _ _ _ _ _ rfl (fun _ => ?_) (fun h => by simp at h; omega)
  simp [h0, h1, h8, sE, List.getElem?_eq_getElem hlt, hc L[i] (List.getElem_mem hlt)]
  refine aA _ _ _ _ _ _ _ rfl (fun hg => ?_) (fun hg => ?_)
  ·rw [hd, sQ, if_pos hg]
   simp
  ·rw [hd, sQ, if_neg (by simp [hg])]
   have hw : IntKind.i64.wrap ((i : Int) + 1) = ((i + 1 : Nat) : Int) := by rw [aD (by omega) (by omega)]; omega
   simp [h8, hw]
   exact ihm (i + 1) _ s (by omega) (by omega) (by simp [h0]) (by simp [h1]) (by simp [h7]) (by simp) hc
theorem CE (L : List (List UInt8 × JV)) (hL : L.length ≤ 9223372036854775807) (f : FuncId) (cap : List V) (hcap : aW cap = cap) (g : (List UInt8 × JV) → Bool) (s : St)
  (hc : ∀ x ∈ L, call G f (pv x :: cap) s = some (.bool (g x), s)) : call G 164 [.sl .no (dF L), .fn (.func f) [] cap] s = some (.bool (L.any g), s) := by
 have h43 : call G 234 [.sl .no (dF L), .fn (.func f) [] cap] s = some (.int .i64 (sQ g L 0), s) := by
  refine aC (F := af234) rfl rfl ?_
  simp [af234, af234b, fF]
  refine (Ff L hL f cap hcap g L.length 0 _ s (by omega) (by omega) (by simp) (by simp) (by simp) (by simp) hc).mono ?_
  rintro e env s' ⟨rfl, ⟨h1, rfl⟩ | ⟨h1, rfl, h2⟩⟩
  ·rw [List.drop_zero] at h1
   simp [h1]
  ·rw [List.drop_zero] at h2
   simp [h2]
 refine aC (F := af164) rfl rfl ?_
 simp [af164, af164b, h43, hcap]
 have := Bo g L 0
 by_cases h : L.any g = true
 ·have h0 := this.2.2 h
  simp [h, h0]
 ·have h0 : ¬ 0 ≤ sQ g L 0 := fun q => h (this.2.1 q)
  have h' : L.any g = false := by simpa using h
  simp [h', h0]
end Go.Proofs.YtboejpobmpfifaaGreatDoor.Eng
namespace Go.Proofs.YtboejpobmpfifaaGreatDoor.Eng
open Go
attribute [local simp] eT eN dR eV cY cW eU dQ dP eF eS dL cC dU cZ cN dM cA bX cV bW
attribute [local simp] hZ aZ put dB X.ev cF cO cP cS bU dO cR bV dN cQ eK iE fH iX dY dX fS fR eR gH kV bM fL gT fE gB fin V.plain aW V.und bY scK kill aF bQ aG dT dS cT mB bR fU V.real bH bK aL cU
mutual
def jY : JV → JV → Bool
 | .mk k n s l f, .mk k' n' s' l' f' => decide (k = k') && decide (n = n') && decide (s = s') && decide (l.length = l'.length) && decide (f.length = f'.length) && lA l l' && mE f f'
def lA : List JV → List JV → Bool
 | v :: vs, w :: ws => jY v w && lA vs ws
 | _, _ => true
def mE : List (List UInt8 × JV) → List (List UInt8 × JV) → Bool
 | p :: ps, q :: qs => decide (p.1 = q.1) && jY p.2 q.2 && mE ps qs
 | _, _ => true
end
mutual
theorem sX : ∀ v w : JV, jY v w = true ↔ v = w
 | .mk k n s l f, .mk k' n' s' l' f' => by
  have h1 := wI l l'
  have h2 := wH f f'
  simp only [jY, Bool.and_eq_true, decide_eq_true_eq, JV.mk.injEq]
  constructor
  ·rintro ⟨⟨⟨⟨⟨⟨a, b⟩, c⟩, d⟩, e⟩, g⟩, h⟩
   exact ⟨a, b, c, (h1 d).1 g, (h2 e).1 h⟩
  ·rintro ⟨rfl, rfl, rfl, rfl, rfl⟩
   exact ⟨⟨⟨⟨⟨⟨rfl, rfl⟩, rfl⟩, rfl⟩, rfl⟩, (h1 rfl).2 rfl⟩, (h2 rfl).2 rfl⟩
theorem wI : ∀ l l' : List JV, l.length = l'.length → (lA l l' = true ↔ l = l')
 | [], [], _ => by simp [lA]
 | [], _ :: _, h => by simp at h
 | _ :: _, [], h => by simp at h
 | v :: vs, w :: ws, h => by
  have h1 := sX v w
  have h2 := wI vs ws (by simpa using h)
  simp only [lA, Bool.and_eq_true, List.cons.injEq, h1, h2]
theorem wH : ∀ l l' : List (List UInt8 × JV), l.length = l'.length → (mE l l' = true ↔ l = l')
 | [], [], _ => by simp [mE]
 | [], _ :: _, h => by simp at h
 | _ :: _, [], h => by simp at h
 | p :: ps, q :: qs, h => by
  have h1 := sX p.2 q.2
  have h2 := wH ps qs (by simpa using h)
  obtain ⟨a, b⟩ := p
  obtain ⟨a', b'⟩ := q
  simp only [mE, Bool.and_eq_true, decide_eq_true_eq, List.cons.injEq, Prod.mk.injEq, h1, h2]
end
theorem FS (k nn : Int) (b : List UInt8) (L : List JV) (f : List (List UInt8 × JV)) (k' nn' : Int) (b' : List UInt8) (L' : List JV) (f' : List (List UInt8 × JV)) (id id' : Nat) (hL : L.length ≤ 9223372036854775807) (hLL : L.length = L'.length) (s : St)
  (h1 : s.obs[id]? = some (.cells 46 [.int .i64 k, .int .i64 nn, .str b, .sl .no (dJ L), .sl .no (dF f)])) (h2 : s.obs[id']? = some (.cells 46 [.int .i64 k', .int .i64 nn', .str b', .sl .no (dJ L'), .sl .no (dF f')]))
  (ih : ∀ x ∈ L, ∀ (w : JV) (s : St), call G 26 [toV x, toV w] s = some (.bool (jY x w), s)) :
  ∀ (m i : Nat) (env : Env), L.length - i = m → i ≤ L.length → env 2 = .ptr id 0 → env 3 = .ptr id' 0 → env 5 = .int .i64 i →
   Out (evC G (.loop false af26l0) env s) (fun e env' s' => s' = s ∧ ((lA (L.drop i) (L'.drop i) = true ∧ e = .exit 0 ∧ env' 2 = .ptr id 0 ∧ env' 3 = .ptr id' 0) ∨ (lA (L.drop i) (L'.drop i) = false ∧ e = .ret ∧ env' 4 = .bool false))) := by
 intro m
 induction m with
 | zero =>
  intro i env hm hi g2 g3 g5
  have : i = L.length := by omega
  subst this
  refine aH G false _ _ af26l0.eq_1 _ _ _ ?_
  simp [g2, g3, g5, h1, kB]
  refine aA _ _ _ _ _ _ _ rfl (fun h => by simp at h) (fun _ => ?_)
  simp [g2, g3, lA]
 | succ m ihm =>
  intro i env hm hi g2 g3 g5
  have hlt : i < L.length := by omega
  have hlt' : i < L'.length := by omega
  have hdr := List.drop_eq_getElem_cons hlt
  have hdr' := List.drop_eq_getElem_cons hlt'
  have hwi : IntKind.i64.wrap ((i : Int) + 1) = ((i + 1 : Nat) : Int) := by rw [aD (by omega) (by omega)]; omega
  have hc := ih L[i] (List.getElem_mem hlt) L'[i] s
  refine aH G false _ _ af26l0.eq_1 _ _ _ ?_
  simp [g2, g3, g5, h1, kB]
  refine aA _ _ _ _ _ _ _ rfl (fun _ => ?_) (fun h => by simp at h; omega)
  simp [g2, g3, g5, h1, h2, Ih, List.getElem?_eq_getElem hlt, List.getElem?_eq_getElem hlt', hc]
  refine aA _ _ _ _ _ _ _ rfl (fun hr => ?_) (fun hr => ?_)
  ·have hr' : jY L[i] L'[i] = false := by simpa using hr
   rw [hdr, hdr', lA, hr']
   simp
  ·have hr' : jY L[i] L'[i] = true := by simpa using hr
   rw [hdr, hdr', lA, hr']
   simp [g5, hwi]
   exact ihm (i + 1) _ (by omega) (by omega) (by simp [g2]) (by simp [g3]) (by simp)
theorem FT (k nn : Int) (b : List UInt8) (l : List JV) (L : List (List UInt8 × JV)) (k' nn' : Int) (b' : List UInt8) (l' : List JV) (L' : List (List UInt8 × JV)) (id id' : Nat) (hL : L.length ≤ 9223372036854775807) (hLL : L.length = L'.length) (s : St)
  (h1 : s.obs[id]? = some (.cells 46 [.int .i64 k, .int .i64 nn, .str b, .sl .no (dJ l), .sl .no (dF L)])) (h2 : s.obs[id']? = some (.cells 46 [.int .i64 k', .int .i64 nn', .str b', .sl .no (dJ l'), .sl .no (dF L')]))
  (ih : ∀ x ∈ L, ∀ (w : JV) (s : St), call G 26 [toV x.2, toV w] s = some (.bool (jY x.2 w), s)) :
  ∀ (m i : Nat) (env : Env), L.length - i = m → i ≤ L.length → env 2 = .ptr id 0 → env 3 = .ptr id' 0 → env 6 = .int .i64 i →
   Out (evC G (.loop false af26l1) env s) (fun e env' s' => s' = s ∧ ((mE (L.drop i) (L'.drop i) = true ∧ e = .exit 2) ∨ (mE (L.drop i) (L'.drop i) = false ∧ e = .ret ∧ env' 4 = .bool false))) := by
 intro m
 induction m with
 | zero =>
  intro i env hm hi g2 g3 g5
  have : i = L.length := by omega
  subst this
  refine aH G false _ _ af26l1.eq_1 _ _ _ ?_
  simp [g2, g3, g5, h1, fF]
  refine aA _ _ _ _ _ _ _ rfl (fun h => by simp at h) (fun _ => ?_)
  simp [mE]
 | succ m ihm =>
  intro i env hm hi g2 g3 g5
  have hlt : i < L.length := by omega
  have hlt' : i < L'.length := by omega
  have hdr := List.drop_eq_getElem_cons hlt
  have hdr' := List.drop_eq_getElem_cons hlt'
  have hwi : IntKind.i64.wrap ((i : Int) + 1) = ((i + 1 : Nat) : Int) := by rw [aD (by omega) (by omega)]; omega
  have hc := ih L[i] (List.getElem_mem hlt) L'[i].2 s
  rw [hdr, hdr']
  generalize hp : L[i] = p at *
  generalize hp' : L'[i] = p' at *
  obtain ⟨ka, x⟩ := p
  obtain ⟨kb, y⟩ := p'
  simp only [mE] at hc ⊢
  refine aH G false _ _ af26l1.eq_1 _ _ _ ?_
  simp [g2, g3, g5, h1, fF]
  refine aA _ _ _ _ _ _ _ rfl (fun _ => ?_) (fun h => by simp at h; omega)
  by_cases hk : ka = kb
  ·simp [g2, g3, g5, h1, h2, sE, List.getElem?_eq_getElem hlt, List.getElem?_eq_getElem hlt', hp, hp', hc, hk]
   refine aA _ _ _ _ _ _ _ rfl (fun hr => ?_) (fun hr => ?_)
   ·have hr' : jY x y = false := by simpa using hr
    simp [hr']
   ·have hr' : jY x y = true := by simpa using hr
    simp [g5, hwi, hr']
    exact ihm (i + 1) _ (by omega) (by omega) (by simp [g2]) (by simp [g3]) (by simp)
  ·simp [g2, g3, g5, h1, h2, sE, List.getElem?_eq_getElem hlt, List.getElem?_eq_getElem hlt', hp, hp', hk]
   refine aA _ _ _ _ _ _ _ rfl (fun hr => ?_) (fun hr => by simp at hr)
   simp [hk]
mutual
def JV.lok : JV → Prop
 | .mk _ _ _ l f => l.length ≤ 9223372036854775807 ∧ f.length ≤ 9223372036854775807 ∧ rM l ∧ rL f
def rM : List JV → Prop
 | [] => True
 | v :: vs => v.lok ∧ rM vs
def rL : List (List UInt8 × JV) → Prop
 | [] => True
 | p :: ps => p.2.lok ∧ rL ps
end
theorem lokVs_iff {l : List JV} : rM l ↔ ∀ v ∈ l, v.lok := by
 induction l with
 | nil => simp [rM]
 | cons x l ih => simp [rM, ih]
theorem lokPs_iff {l : List (List UInt8 × JV)} : rL l ↔ ∀ p ∈ l, p.2.lok := by
 induction l with
 | nil => simp [rL]
 | cons x l ih => simp [rL, ih]
theorem sY : ∀ (v w : JV), v.lok → ∀ (s : St), call G 26 [toV v, toV w] s = some (.bool (jY v w), s)
 | .mk k nn b l f, .mk k' nn' b' l' f', hok, s => by
  obtain ⟨hl, hf, hokl, hokf⟩ := hok
  have ihl : ∀ x ∈ l, ∀ (w : JV) (s : St), call G 26 [toV x, toV w] s = some (.bool (jY x w), s) := fun x hx w s => sY x w (lokVs_iff.1 hokl x hx) s
  have ihf : ∀ x ∈ f, ∀ (w : JV) (s : St), call G 26 [toV x.2, toV w] s = some (.bool (jY x.2 w), s) := fun x hx w s => sY x.2 w (lokPs_iff.1 hokf x hx) s
  have ho1 : (s.obs ++ [Qw.cells 46 [.int .i64 k, .int .i64 nn, .str b, .sl .no (dJ l), .sl .no (dF f)], Qw.cells 46 [.int .i64 k', .int .i64 nn', .str b', .sl .no (dJ l'), .sl .no (dF f')]])[s.obs.length]? = some (.cells 46 [.int .i64 k, .int .i64 nn, .str b, .sl .no (dJ l), .sl .no (dF f)]) := by simp
  have ho2 : (s.obs ++ [Qw.cells 46 [.int .i64 k, .int .i64 nn, .str b, .sl .no (dJ l), .sl .no (dF f)], Qw.cells 46 [.int .i64 k', .int .i64 nn', .str b', .sl .no (dJ l'), .sl .no (dF f')]])[s.obs.length + 1]? = some (.cells 46 [.int .i64 k', .int .i64 nn', .str b', .sl .no (dJ l'), .sl .no (dF f')]) := by simp
  refine aC (F := af26) rfl rfl ?_
  simp [af26, af26b, vc, kB, fF]
  refine aA _ _ _ _ _ _ _ rfl (fun h => ?_) (fun h => ?_)
  ·have hf' : jY (.mk k nn b l f) (.mk k' nn' b' l' f') = false := by
    simp only [jY]
    simp at h
    grind
   simp [hf']
  ·have h' : k = k' ∧ nn = nn' ∧ b = b' ∧ l.length = l'.length ∧ f.length = f'.length := by
    simp at h
    grind
   obtain ⟨e1, e2, e3, e4, e5⟩ := h'
   have hs : jY (.mk k nn b l f) (.mk k' nn' b' l' f') = (lA l l' && mE f f') := by simp [jY, e1, e2, e3, e4, e5]
   rw [hs]
   simp
   refine Out.mono (FS k nn b l f k' nn' b' l' f' s.obs.length (s.obs.length + 1) hl e4 _ ho1 ho2 ihl l.length 0 _ (by omega) (by omega) (by simp) (by simp) (by simp)) ?_
   rintro e env s' ⟨rfl, ⟨g1, rfl, g2, g3⟩ | ⟨g1, rfl, g4⟩⟩
   ·simp only [List.drop_zero] at g1
    simp
    refine Out.mono (FT k nn b l f k' nn' b' l' f' s.obs.length (s.obs.length + 1) hf e5 _ ho1 ho2 ihf f.length 0 _ (by omega) (by omega) (by simp [g2]) (by simp [g3]) (by simp)) ?_
    rintro e env s' ⟨rfl, ⟨q1, rfl⟩ | ⟨q1, rfl, q4⟩⟩
    ·simp only [List.drop_zero] at q1
     simp [g1, q1]
    ·simp only [List.drop_zero] at q1
     simp [g1, q1, q4]
   ·simp only [List.drop_zero] at g1
    simp [g1, g4]
termination_by v => SizeOf.sizeOf v
decreasing_by
 ·have := List.sizeOf_lt_of_mem hx
  simp; omega
 ·have := List.sizeOf_lt_of_mem hx
  obtain ⟨a, b⟩ := x
  simp at this ⊢; omega
end Go.Proofs.YtboejpobmpfifaaGreatDoor.Eng
namespace Go.Proofs.YtboejpobmpfifaaGreatDoor.Eng
open Go
attribute [local simp] gS gR eT eN dR eV cY cW eU dQ dP eF eS dL cC dU cZ cN dM cA bX cV bW
attribute [local simp] hZ aZ put dB X.ev cF cO cP cS bU dO cR bV dN cQ eR gH kV bM fL gT fE gB V.plain aW V.und bY scK kill aF bQ aG dT dS cT mB bR fU V.real bH bK cU
attribute [local simp] eK iE fH iX dY dX fS fR
theorem CP (x : List UInt8 × JV) (key : List UInt8) (S : St) (n : Nat) (hk : S.obs[n]? = some (.cells 9 [.str key])) :
  call G 308 [pv x, .ptr n 0] S = some (.bool (decide (x.1 = key)), S) := by
 have hn := cK hk
 refine aC (F := af308) rfl rfl ?_
 have e1 : ∀ o : Qw, (S.obs ++ [o])[n]? = some (.cells 9 [.str key]) := fun o => by rw [List.getElem?_append_left hn]; exact hk
 have e2 : ∀ o : Qw, (S.obs ++ [o])[S.obs.length]? = some o := fun o => by simp
 simp [af308, af308b, pv, e1, e2]
 rw [bZ _ _ _ (by rfl)]
 rfl
abbrev zL : List V := [.int .i64 0, .int .i64 0, .str [], .sl .nil [], .sl .nil []]
def mkL (x : V) : List V := [.int .i64 4, .int .i64 0, .str [], x, .sl .nil []]
def mkP (x : V) : List V := [.int .i64 5, .int .i64 0, .str [], .sl .nil [], x]
theorem xW (l : List JV) : fits 5 (dJ l) = true := by cases l <;> simp [dJ, fits]
theorem xV (l : List (List UInt8 × JV)) : fits 6 (dF l) = true := by cases l <;> simp [dF, fits]
theorem Ck (l : List JV) (v : JV) : dJ (l ++ [v]) = dJ l ++ [toV v] := by induction l <;> simp [dJ, *]
theorem tU {base : List Qw} {r : Nat} {o : Qw} (hbas : ∀ o ∈ base, o.und (r + 1) 0 = true ∧ o.kind ≠ 4) (h : o.und 0 0 = true) (hk : o.kind ≠ 4) : ∀ x ∈ base.set r o, x.und (r + 1) 0 = true ∧ x.kind ≠ 4 := by
 intro x hx
 rcases List.mem_or_eq_of_mem_set hx with q | q
 ·exact hbas x q
 ·rw [q]; exact ⟨Qw.und_mono (Nat.zero_le _) (Nat.zero_le _) _ h, hk⟩
def Qk.tame (R : Qk) : Prop := R.L.length ≤ 100000 ∧ ∀ t ∈ R.L, t.k = 3 → t.s.length ≤ 1000000
theorem pG {R R' : Qk} (h : R.tame) (hs : R'.L <:+ R.L) : R'.tame := ⟨Nat.le_trans hs.length_le h.1, fun t ht => h.2 t (hs.subset ht)⟩
def VSp (c : Bool) (d : Nat) : Prop :=
 ∀ (R : Qk) (s : St) (r : Nat), R.tame → (∀ o ∈ s.obs.take (r + 1), o.und (r + 1) 0 = true ∧ o.kind ≠ 4) → s.obs[r]? = some (rdO R) →
  ∃ ex, call G 211 [.ptr r 0, .int .i64 d, .bool c] s = some (toV (Qk.val c d R).2, ⟨s.obs.set r (rdO (Qk.val c d R).1), s.bufs ++ ex⟩)
theorem JZ {c : Bool} {d : Nat} (hv : VSp c d) {R : Qk} (hR : R.tame) {s : St} {r : Nat} (hs : s.obs[r]? = some (rdO R)) (hb : ∀ o ∈ s.obs.take (r + 1), o.und (r + 1) 0 = true ∧ o.kind ≠ 4) :
  frK s [.ptr r 0, .int .i64 d, .bool c] (call G 211 [.ptr r 0, .int .i64 d, .bool c] (vF s [.ptr r 0, .int .i64 d, .bool c])) = some (toV (Qk.val c d R).2, upR s r (rdO (Qk.val c d R).1)) := by
 have hr := cK hs
 obtain ⟨ex, h1⟩ := hv R ⟨s.obs.take (r + 1), []⟩ r hR (by simpa [List.take_take] using hb) (by simp only; rw [List.getElem?_take, if_pos (by omega)]; exact hs)
 exact CL hs (by simp [eD, V.top]) (by simp) hb h1 (by simp) (fZ _ _ _) rfl
section
variable {c : Bool} {d r : Nat} {base : List Qw} {bufs : List (Nat × Nat × TypeId)}
def KL (base : List Qw) (bufs : List (Nat × Nat × TypeId)) (r : Nat) (R : Qk) (acc : List JV) : St :=
 ⟨base.set r (rdO R) ++ [.cells 46 zL, .cells 46 (mkL (.sl (bF bufs acc) (dJ acc)))], bufs ++ dH (80, 46) acc⟩
theorem KL_r (hr : r < base.length) (R : Qk) (acc : List JV) : (KL base bufs r R acc).obs[r]? = some (rdO R) := by
 simp only [KL]
 rw [List.getElem?_append_left (by simp; omega), List.getElem?_set_self (by omega)]
theorem JU (hr : r < base.length) (R R' : Qk) (acc : List JV) : upR (KL base bufs r R acc) r (rdO R') = KL base bufs r R' acc := by
 simp only [KL, upR]
 rw [List.set_append_left _ _ (by simp; omega), List.set_set]
theorem Cs (R : Qk) (acc : List JV) : (KL base bufs r R acc).obs[base.length + 1]? = some (.cells 46 (mkL (.sl (bF bufs acc) (dJ acc)))) := by
 simp only [KL]
 rw [List.getElem?_append_right (by simp)]
 simp
theorem KL_z (R : Qk) (acc : List JV) : (KL base bufs r R acc).obs[base.length]? = some (.cells 46 zL) := by
 simp only [KL]
 rw [List.getElem?_append_right (by simp)]
 simp
theorem Kf (R : Qk) (acc : List JV) (o : Qw) : (KL base bufs r R acc).obs.set base.length o = base.set r (rdO R) ++ [o, .cells 46 (mkL (.sl (bF bufs acc) (dJ acc)))] := by
 simp only [KL]
 rw [List.set_append_right _ _ (by simp)]
 simp
theorem Iy (hr : r < base.length) (R : Qk) (acc : List JV) : (KL base bufs r R acc).obs.take (r + 1) = (base.take (r + 1)).set r (rdO R) := by
 simp only [KL]
 rw [List.take_append_of_le_length (by simp; omega), List.take_set]
theorem Hl (hv : VSp c d) (hd : d ≤ 1000) (hr : r < base.length) (hbas : ∀ o ∈ base.take (r + 1), o.und (r + 1) 0 = true ∧ o.kind ≠ 4) : ∀ (n : Nat) (R : Qk) (acc : List JV) (env : Env), R.mu < n → R.tame → acc.length + R.mu ≤ 200000 →
  env 0 = .ptr r 0 → env 1 = .int .i64 ((d : Int) + 1) → env 2 = .bool c → env 9 = .ptr (base.length + 1) 0 →
  Out (evC G (.loop false af211l0) env (KL base bufs r R acc)) (fun ex env' s' => ex = .exit 3 ∧ env' 6 = env 6 ∧ env' 9 = env 9 ∧ s' = KL base bufs r (Qk.lst (Qk.val c d) n R acc).1 (Qk.lst (Qk.val c d) n R acc).2) := by
 intro n
 induction n with
 | zero => intro R acc env h; omega
 | succ n ih =>
  intro R acc env hn ht hal h0 h1 h2 h9
  have hg := KL_r (bufs := bufs) hr R acc
  have htk := kZ (s := KL base bufs r R acc) hg [93]
  rw [JU hr] at htk
  refine aH G false _ _ af211l0.eq_1 _ _ _ ?_
  rw [Qk.lst]
  by_cases hi : R.is [93] = true
  ·have htr : R.take [93] = R.tl := by simp [Qk.take, hi]
   rw [htr] at htk
   rw [if_pos hi]
   simp [h0, htk, hi]
  ·have hi' : R.is [93] = false := by simpa using hi
   have htr : R.take [93] = R := by simp [Qk.take, hi']
   rw [htr] at htk
   rw [if_neg hi]
   by_cases he : R.e = 0
   ·rw [if_neg (by simp [he])]
    obtain ⟨v1, v2, v3⟩ := jR c d R
    have hfr := JZ hv ht hg (by rw [Iy hr]; exact tU hbas (fZ _ _ _) (by rw [oY]; decide))
    rw [JU hr] at hfr
    have hout := Cs (base := base) (r := r) (bufs := bufs) R acc
    have hout2 := Cs (base := base) (r := r) (bufs := bufs) (Qk.val c d R).1 acc
    have hmu := v3 he
    have hvl := v2.length_le
    have htm := pG ht v2
    have hnx := fun env => ih (Qk.val c d R).1 (acc ++ [(Qk.val c d R).2]) env (by omega) htm (by rw [List.length_append]; simp only [List.length_cons, List.length_nil]; omega)
    have hw : IntKind.i64.wrap (d : Int) = (d : Int) := aD (by omega) (by omega)
    generalize Qk.val c d R = Q at *
    obtain ⟨R1, v⟩ := Q
    simp only at hfr hout2 hnx
    have hge : (KL base bufs r R acc).obs[r]? = some (.cells 185 [.sl .no (bO R.L), .int .i64 R.n, .int .i64 0, .int .i64 R.a]) := by rw [hg]; simp [rdO, he]
    have hroom : iJ = 140737488355328 := by decide
    have hap : ∀ o, gU false 5 (80, 46) (.sl (bF bufs acc) (dJ acc)) (.sl o [toV v]) (KL base bufs r R1 acc) = some (.sl (.buf bufs.length) (dJ acc ++ [toV v]), ⟨(KL base bufs r R1 acc).obs, bufs ++ [(acc.length + 1, 80, 46)]⟩) := fun o =>
     nC dJ rfl kB 5 80 46 o (toV v) xW (by simp) acc (by rw [hroom]; omega) (KL base bufs r R1 acc).obs bufs
    have hst : aB 1 (.ptr (base.length + 1) 3) (.sl (.buf bufs.length) (dJ acc ++ [toV v])) ⟨(KL base bufs r R1 acc).obs, bufs ++ [(acc.length + 1, 80, 46)]⟩ = some (.tup [], KL base bufs r R1 (acc ++ [v])) := by
     have hne : acc ++ [v] ≠ [] := by simp
     simp only [aB, hout2, mkL]
     have hs2 : (base.set r (rdO R1) ++ [Qw.cells 46 zL, Qw.cells 46 (mkL (.sl (bF bufs acc) (dJ acc)))]).set (base.length + 1) (.cells 46 [.int .i64 4, .int .i64 0, .str [], .sl (.buf bufs.length) (dJ acc ++ [toV v]), .sl .nil []]) = base.set r (rdO R1) ++ [Qw.cells 46 zL, Qw.cells 46 [.int .i64 4, .int .i64 0, .str [], .sl (.buf bufs.length) (dJ acc ++ [toV v]), .sl .nil []]] := by
      rw [List.set_append_right _ _ (by simp)]; simp
     simp [aK, V.one, KL, bF, dH, hne, Ck, mkL, hs2]
    obtain ⟨k2, n2, s2, ll, ff⟩ := v
    simp only [toV, vc] at hfr hap hst hnx
    have hle : r ≤ base.length := by omega
    simp [h0, h1, h2, h9, htk, hi', ↓hge, ↓hout, hw, mkL, aR, aN, eY, aM, aQ, aT, kC, V.top, hle, hfr, aI, aY, aK, V.one, hap, hst]
    refine Out.mono (hnx _ (by simp [h0]) (by simp [h1]) (by simp [h2]) (by simp [h9])) ?_
    rintro ex env' s' ⟨q1, q2, q3, q4⟩
    exact ⟨q1, by simpa using q2, by simpa [h9] using q3, q4⟩
   ·rw [if_pos he]
    have hge : (KL base bufs r R acc).obs[r]? = some (.cells 185 [.sl .no (bO R.L), .int .i64 R.n, .int .i64 R.e, .int .i64 R.a]) := hg
    simp [h0, htk, hi', ↓hge, he]
end
theorem Cj (l : List (List UInt8 × JV)) (v : List UInt8 × JV) : dF (l ++ [v]) = dF l ++ [pv v] := by
 induction l with
 | nil => obtain ⟨k, v⟩ := v; rfl
 | cons x l ih => obtain ⟨k, w⟩ := x; simp [dF, ih]
section
variable {c : Bool} {d r : Nat} {base : List Qw} {bufs : List (Nat × Nat × TypeId)}
def KO (base : List Qw) (bufs : List (Nat × Nat × TypeId)) (r : Nat) (R : Qk) (acc : List (List UInt8 × JV)) (J : List Qw) : St :=
 ⟨base.set r (rdO R) ++ (.cells 46 zL :: .cells 46 (mkP (.sl (bF bufs acc) (dF acc))) :: J), bufs ++ dH (96, 63) acc⟩
theorem IA (hr : r < base.length) (R : Qk) (acc : List (List UInt8 × JV)) (J : List Qw) : (KO base bufs r R acc J).obs[r]? = some (rdO R) := by
 simp only [KO]
 rw [List.getElem?_append_left (by simp; omega), List.getElem?_set_self (by omega)]
theorem AN (hr : r < base.length) (R R' : Qk) (acc : List (List UInt8 × JV)) (J : List Qw) : upR (KO base bufs r R acc J) r (rdO R') = KO base bufs r R' acc J := by
 simp only [KO, upR]
 rw [List.set_append_left _ _ (by simp; omega), List.set_set]
theorem Gm (R : Qk) (acc : List (List UInt8 × JV)) (J : List Qw) : (KO base bufs r R acc J).obs[base.length + 1]? = some (.cells 46 (mkP (.sl (bF bufs acc) (dF acc)))) := by
 simp only [KO]
 rw [List.getElem?_append_right (by simp)]
 simp
theorem KO_z (R : Qk) (acc : List (List UInt8 × JV)) (J : List Qw) : (KO base bufs r R acc J).obs[base.length]? = some (.cells 46 zL) := by
 simp only [KO]
 rw [List.getElem?_append_right (by simp)]
 simp
theorem Kh (R : Qk) (acc : List (List UInt8 × JV)) (J : List Qw) (o : Qw) : (KO base bufs r R acc J).obs.set base.length o = base.set r (rdO R) ++ (o :: .cells 46 (mkP (.sl (bF bufs acc) (dF acc))) :: J) := by
 simp only [KO]
 rw [List.set_append_right _ _ (by simp)]
 simp
theorem IB (hr : r < base.length) (R : Qk) (acc : List (List UInt8 × JV)) (J : List Qw) : (KO base bufs r R acc J).obs.take (r + 1) = (base.take (r + 1)).set r (rdO R) := by
 simp only [KO]
 rw [List.take_append_of_le_length (by simp; omega), List.take_set]
theorem Iz (R : Qk) (acc : List (List UInt8 × JV)) (J : List Qw) (o : Qw) : (⟨(KO base bufs r R acc J).obs ++ [o], (KO base bufs r R acc J).bufs⟩ : St) = KO base bufs r R acc (J ++ [o]) := by
 simp only [KO, List.append_assoc, List.cons_append]
theorem Kg (R : Qk) (acc : List (List UInt8 × JV)) (J : List Qw) : (KO base bufs r R acc J).obs.length = base.length + 2 + J.length := by
 simp only [KO, List.length_append, List.length_set, List.length_cons]
 omega
theorem Eb (R : Qk) (acc : List (List UInt8 × JV)) (J : List Qw) (o : Qw) {n : Nat} (hn : n = base.length + 2 + J.length) : (KO base bufs r R acc (J ++ [o])).obs[n]? = some o := by
 subst hn
 simp only [KO]
 rw [List.getElem?_append_right (by simp; omega)]
 simp [show base.length + 2 + J.length - base.length = J.length + 1 + 1 by omega]
theorem Ct (R : Qk) (acc : List (List UInt8 × JV)) (J : List Qw) (o o' : Qw) {n : Nat} (hn : n = base.length + 2 + J.length) : (⟨(KO base bufs r R acc (J ++ [o])).obs.set n o', (KO base bufs r R acc (J ++ [o])).bufs⟩ : St) = KO base bufs r R acc (J ++ [o']) := by
 subst hn
 simp only [KO]
 rw [List.set_append_right _ _ (by simp; omega)]
 simp [show base.length + 2 + J.length - base.length = J.length + 1 + 1 by omega]
set_option maxHeartbeats 2000000 in
theorem Jo (hv : VSp c d) (hd : d ≤ 1000) (hr : r < base.length) (hbas : ∀ o ∈ base.take (r + 1), o.und (r + 1) 0 = true ∧ o.kind ≠ 4) : ∀ (n : Nat) (R : Qk) (acc : List (List UInt8 × JV)) (J : List Qw) (env : Env), R.mu < n → R.tame → acc.length + R.mu ≤ 200000 →
  env 0 = .ptr r 0 → env 1 = .int .i64 d → env 2 = .bool c → env 7 = .ptr (base.length + 1) 0 →
  Out (evC G (.loop false af274l0) env (KO base bufs r R acc J)) (fun ex env' s' => ex = .exit 0 ∧ env' 6 = env 6 ∧ env' 7 = env 7 ∧ ∃ J', s' = KO base bufs r (Qk.obj (Qk.val c d) n R acc).1 (Qk.obj (Qk.val c d) n R acc).2 J') := by
 intro n
 induction n with
 | zero => intro R acc J env h; omega
 | succ n ih =>
  intro R acc J env hn ht hal h0 h1 h2 h7
  have hg := IA (bufs := bufs) hr R acc J
  have htk := kZ (s := KO base bufs r R acc J) hg [125]
  rw [AN hr] at htk
  refine aH G false _ _ af274l0.eq_1 _ _ _ ?_
  rw [Qk.obj]
  by_cases hi : R.is [125] = true
  ·have htr : R.take [125] = R.tl := by simp [Qk.take, hi]
   rw [htr] at htk
   rw [if_pos hi]
   simp [h0, htk, hi]
   exact ⟨_, rfl⟩
  ·have hi' : R.is [125] = false := by simpa using hi
   have htr : R.take [125] = R := by simp [Qk.take, hi']
   rw [htr] at htk
   rw [if_neg hi]
   by_cases he : R.e = 0
   ·rw [if_neg (by simp [he])]
    have hge : (KO base bufs r R acc J).obs[r]? = some (.cells 185 [.sl .no (bO R.L), .int .i64 R.n, .int .i64 0, .int .i64 R.a]) := by rw [hg]; simp [rdO, he]
    have hat := oX hg
    have hnm := qR hg
    rw [AN hr] at hnm
    have hN : (KO base bufs r R.name.1 acc J).obs.length = base.length + 2 + J.length := Kg _ _ _
    have hK : (R.key acc) = ((if acc.any (fun p => decide (p.1 = R.name.2)) = true then R.name.1.fail R.at_ 7 else R.name.1).must [58], R.name.2) := rfl
    have hKe := @Hj R acc
    have hKL := Eu R acc
    obtain ⟨v1, v2, v3⟩ := jR c d (R.key acc).1
    have hmu : (Qk.val c d (R.key acc).1).1.mu < R.mu := by
     have hm0 : (R.key acc).1.mu ≤ R.mu := Ho (fun h => absurd he h) hKL.length_le
     have hm1 : 1 ≤ R.mu := by unfold Qk.mu; rw [if_pos he]; omega
     by_cases hk : (R.key acc).1.e = 0
     ·have := v3 hk; omega
     ·have : (Qk.val c d (R.key acc).1).1.mu = 0 := by unfold Qk.mu; rw [if_neg (v1 hk)]
      omega
    have htm := pG ht (v2.trans hKL)
    have htmK := pG ht hKL
    have hnx := fun J env => ih (Qk.val c d (R.key acc).1).1 (acc ++ [((R.key acc).2, (Qk.val c d (R.key acc).1).2)]) J env (by omega) htm (by rw [List.length_append]; simp only [List.length_cons, List.length_nil]; omega)
    generalize hR1 : R.name.1 = R1 at *
    generalize hky : R.name.2 = key at *
    have hpush := Iz (base := base) (bufs := bufs) (r := r) R1 acc J
    have hl0 := Eb (base := base) (bufs := bufs) (r := r) R1 acc J (.cells 9 [.str []]) (n := base.length + 2 + J.length) rfl
    have hls := Ct (base := base) (bufs := bufs) (r := r) R1 acc J (.cells 9 [.str []]) (.cells 9 [.str key]) (n := base.length + 2 + J.length) rfl
    have hlast : ∀ R', (KO base bufs r R' acc (J ++ [.cells 9 [.str key]])).obs[base.length + 2 + J.length]? = some (.cells 9 [.str key]) := fun R' => Eb _ _ _ _ rfl
    have hout : ∀ R' J', (KO base bufs r R' acc J').obs[base.length + 1]? = some (.cells 46 [.int .i64 5, .int .i64 0, .str [], .sl .nil [], .sl (bF bufs acc) (dF acc)]) := fun R' J' => Gm _ _ _
    have hct : call G 164 [.sl .no (dF acc), .fn (.func 308) [] [.ptr (base.length + 2 + J.length) 0]] (KO base bufs r R1 acc (J ++ [.cells 9 [.str key]])) = some (.bool (acc.any fun p => decide (p.1 = key)), KO base bufs r R1 acc (J ++ [.cells 9 [.str key]])) :=
     CE acc (by omega) 308 [.ptr (base.length + 2 + J.length) 0] (by simp) (fun p => decide (p.1 = key)) _ (fun x _ => CP x key _ _ (hlast R1))
    have hw : IntKind.i64.wrap (d : Int) = (d : Int) := aD (by omega) (by omega)
    have hroom : iJ = 140737488355328 := by decide
    have hle : r ≤ base.length := by omega
    have hle2 : r + 1 ≤ base.length + 2 + J.length := by omega
    have hle3 : r < base.length + 2 + J.length := by omega
    have hmst : ∀ R', call G 130 [.ptr r 0, .str [58]] (KO base bufs r R' acc (J ++ [.cells 9 [.str key]])) = some (.tup [], KO base bufs r (R'.must [58]) acc (J ++ [.cells 9 [.str key]])) := fun R' => by
     rw [wF (IA hr _ _ _), AN hr]
    have hfl : call G 135 [.ptr r 0, .int .i64 R.at_, .int .i64 7] (KO base bufs r R1 acc (J ++ [.cells 9 [.str key]])) = some (.tup [], KO base bufs r (R1.fail R.at_ 7) acc (J ++ [.cells 9 [.str key]])) := by
     rw [qP (IA hr _ _ _), AN hr]
    have hfr := JZ hv htmK (s := KO base bufs r (R.key acc).1 acc (J ++ [.cells 9 [.str key]])) (IA hr _ _ _) (by rw [IB hr]; exact tU hbas (fZ _ _ _) (by rw [oY]; decide))
    rw [AN hr] at hfr
    have hK1 : (R.key acc).1 = (if acc.any (fun p => decide (p.1 = key)) = true then R1.fail R.at_ 7 else R1).must [58] := by rw [hK]
    have hK2 : (R.key acc).2 = key := by rw [hK]
    rw [hK2] at hnx ⊢
    generalize (R.key acc).1 = K at *
    generalize Qk.val c d K = Q at *
    obtain ⟨R2, v⟩ := Q
    simp only at hfr hnx
    have hap : ∀ o, gU false 6 (96, 63) (.sl (bF bufs acc) (dF acc)) (.sl o [pv (key, v)]) (KO base bufs r R2 acc (J ++ [.cells 9 [.str key]])) = some (.sl (.buf bufs.length) (dF acc ++ [pv (key, v)]), ⟨(KO base bufs r R2 acc (J ++ [.cells 9 [.str key]])).obs, bufs ++ [(acc.length + 1, 96, 63)]⟩) := fun o =>
     nC dF rfl fF 6 96 63 o (pv (key, v)) xV (by simp [pv]) acc (by rw [hroom]; omega) (KO base bufs r R2 acc (J ++ [.cells 9 [.str key]])).obs bufs
    have hst : (⟨(KO base bufs r R2 acc (J ++ [.cells 9 [.str key]])).obs.set (base.length + 1) (.cells 46 [.int .i64 5, .int .i64 0, .str [], .sl .nil [], .sl (.buf bufs.length) (dF acc ++ [pv (key, v)])]), bufs ++ [(acc.length + 1, 96, 63)]⟩ : St) = KO base bufs r R2 (acc ++ [(key, v)]) (J ++ [.cells 9 [.str key]]) := by
     have hne : acc ++ [(key, v)] ≠ [] := by simp
     simp only [KO, bF, dH, hne, if_false, Cj, mkP]
     rw [List.set_append_right _ _ (by simp)]
     simp
    have hnx := hnx (J ++ [.cells 9 [.str key]])
    obtain ⟨k2, n2, s2, ll, ff⟩ := v
    simp only [toV, vc, pv] at hfr hap hst hnx
    by_cases hany : acc.any (fun p => decide (p.1 = key)) = true
    ·rw [if_pos hany] at hK1
     simp [h0, h1, h2, h7, htk, hi', ↓hge, hw, hat, hnm, aI, aY, aK, V.one, aB, hpush, hN, ↓hl0, hls, ↓hout, hct, hany, hfl, hmst, ← hK1, ↓hlast, aR, aN, eY, aM, aQ, aT, kC, V.top, hle, hle2, hle3, hfr, hap, hst]
     refine Out.mono (hnx _ (by simp [h0]) (by simp [h1]) (by simp [h2]) (by simp [h7])) ?_
     rintro ex env' s' ⟨q1, q2, q3, q4⟩
     exact ⟨q1, by simpa using q2, by simpa [h7] using q3, q4⟩
    ·rw [if_neg hany] at hK1
     have hany' : (acc.any fun p => decide (p.1 = key)) = false := Bool.eq_false_iff.2 hany
     simp [h0, h1, h2, h7, htk, hi', ↓hge, hw, hat, hnm, aI, aY, aK, V.one, aB, hpush, hN, ↓hl0, hls, ↓hout, hct, hany', hfl, hmst, ← hK1, ↓hlast, aR, aN, eY, aM, aQ, aT, kC, V.top, hle, hle2, hle3, hfr, hap, hst]
     refine Out.mono (hnx _ (by simp [h0]) (by simp [h1]) (by simp [h2]) (by simp [h7])) ?_
     rintro ex env' s' ⟨q1, q2, q3, q4⟩
     exact ⟨q1, by simpa using q2, by simpa [h7] using q3, q4⟩
   ·rw [if_pos he]
    have hge : (KO base bufs r R acc J).obs[r]? = some (.cells 185 [.sl .no (bO R.L), .int .i64 R.n, .int .i64 R.e, .int .i64 R.a]) := hg
    simp [h0, htk, hi', ↓hge, he]
    exact ⟨_, rfl⟩
set_option maxHeartbeats 1000000 in
theorem Ht (hv : VSp c d) (hd : d ≤ 1000) {R : Qk} {n : Nat} {s : St} (hn : R.mu < n) (ht : R.tame) (hs : s.obs[r]? = some (rdO R)) (hbas : ∀ o ∈ s.obs.take (r + 1), o.und (r + 1) 0 = true ∧ o.kind ≠ 4) :
  ∃ ex, call G 274 [.ptr r 0, .int .i64 d, .bool c] s = some (toV (.mk 5 0 [] [] (Qk.obj (Qk.val c d) n R []).2), ⟨s.obs.set r (rdO (Qk.obj (Qk.val c d) n R []).1), s.bufs ++ ex⟩) := by
 have hr := cK hs
 have hup := gJ hs
 have hmu : R.mu ≤ 100001 := by
  have := ht.1
  unfold Qk.mu; split <;> omega
 have key : ∃ q, call G 274 [.ptr r 0, .int .i64 d, .bool c] s = some q ∧ (q.1 = toV (.mk 5 0 [] [] (Qk.obj (Qk.val c d) n R []).2) ∧ ∃ ex, q.2 = (⟨s.obs.set r (rdO (Qk.obj (Qk.val c d) n R []).1), s.bufs ++ ex⟩ : St)) := by
  refine kM (G := G) (f := 274) (F := af274) (T := fun v s' => v = toV (.mk 5 0 [] [] (Qk.obj (Qk.val c d) n R []).2) ∧ ∃ ex, s' = (⟨s.obs.set r (rdO (Qk.obj (Qk.val c d) n R []).1), s.bufs ++ ex⟩ : St)) rfl rfl ?_
  have hlp := fun env => Jo (bufs := s.bufs) hv hd hr hbas n R [] [] env hn ht (by simp; omega)
  generalize Qk.obj (Qk.val c d) n R [] = Q at *
  obtain ⟨R', acc'⟩ := Q
  simp only at hlp ⊢
  have hK : (⟨s.obs ++ [.cells 46 zL, .cells 46 (mkP (.sl .nil []))], s.bufs⟩ : St) = KO s.obs s.bufs r R [] [] := by
   simp only [upR] at hup
   have : s.obs.set r (rdO R) = s.obs := congrArg St.obs hup
   simp [KO, bF, dH, dF, this]
  simp only [mkP] at hK
  simp [af274, af274b, aI, aY, aK, V.one, aB, hK]
  refine Out.mono (hlp _ (by simp) (by simp) (by simp) (by simp)) ?_
  rintro ex env' s' ⟨rfl, q6, q7, J', rfl⟩
  have hout := Gm (base := s.obs) (bufs := s.bufs) (r := r) R' acc' J'
  have hz := KO_z (base := s.obs) (bufs := s.bufs) (r := r) R' acc' J'
  have hset := Kh (base := s.obs) (bufs := s.bufs) (r := r) R' acc' J'
  have hget : ∀ o X, (s.obs.set r (rdO R') ++ o :: X)[s.obs.length]? = some o := fun o X => by rw [List.getElem?_append_right (by simp)]; simp
  simp only [mkP] at hout
  simp at q6 q7
  obtain ⟨ex', hfin, _⟩ := sM s hr (o := rdO R') (fZ _ _ _) (.cells 46 [.int .i64 5, .int .i64 0, .str [], .sl .nil [], .sl (bF s.bufs acc') (dF acc')] :: .cells 46 (mkP (.sl (bF s.bufs acc') (dF acc'))) :: J') (dH (96, 63) acc') (v := .agg [.int .i64 5, .int .i64 0, .str [], .sl .nil [], .sl (bF s.bufs acc') (dF acc')]) (by simp)
  have hbf : (KO s.obs s.bufs r R' acc' J').bufs = s.bufs ++ dH (96, 63) acc' := rfl
  simp [q6, q7, ↓hout, ↓hz, hset, hget, aK, V.one, aB, hbf]
  exact ⟨_, _, hfin, by simp [vc, dJ], ex', rfl⟩
 obtain ⟨⟨v, s'⟩, hc, h1, ex, h2⟩ := key
 simp only at h1 h2
 subst h1 h2
 exact ⟨ex, hc⟩
end
theorem Kw {R : Qk} (ho : R.over = false) : R.hd ∈ R.L := by
 obtain ⟨L, n, e, a⟩ := R
 cases L with
 | nil => rw [mT] at ho; cases ho
 | cons t L => simp [Qk.hd]
theorem IY {R : Qk} (ho : R.over = false) : R.kind = R.hd.k := by
 obtain ⟨L, n, e, a⟩ := R
 cases L with
 | nil => rw [mT] at ho; cases ho
 | cons t L => simp [Qk.kind, Qk.hd, ho]
theorem uC {R : Qk} (ho : R.over = false) : R.next = (R.tl, R.hd) := by unfold Qk.next; rw [if_neg (by simp [ho])]
section
variable {c : Bool} {r : Nat} {R : Qk} {s : St} {z : Int}
theorem xA (hs : s.obs[r]? = some (rdO R)) (ho : R.over = true) : call G 211 [.ptr r 0, .int .i64 z, .bool c] s = some (toV jNull, upR s r (rdO R.form)) := by
 have hr := cK hs
 have hup := gJ hs
 rw [← hup]
 simp only [upR, List.set_set]
 refine aC (F := af211) rfl rfl ?_
 have h1 := mA (s := s) hr
 have h2 := Aa (s := s) hr
 have hfin := fun R' X k n x => jD (s := s) hr R R' X (v := .agg [.int .i64 k, .int .i64 n, .str x, .sl .nil [], .sl .nil []]) rfl
 simp [af211, af211b, h1, h2, ho, aI, aK, aB, V.one, fV, gD, hfin]
 rfl
theorem Cq (hs : s.obs[r]? = some (rdO R)) (ho : R.over = false) (hz : z < 1) : call G 211 [.ptr r 0, .int .i64 z, .bool c] s = some (toV jNull, upR s r (rdO (R.fail R.at_ 5))) := by
 have hr := cK hs
 have hup := gJ hs
 rw [← hup]
 simp only [upR, List.set_set]
 refine aC (F := af211) rfl rfl ?_
 have h1 := mA (s := s) hr
 have h2 := JX (s := s) hr
 have h3 := zW (s := s) hr
 have hfin := fun R' X k n x => jD (s := s) hr R R' X (v := .agg [.int .i64 k, .int .i64 n, .str x, .sl .nil [], .sl .nil []]) rfl
 simp [af211, af211b, h1, h2, h3, ho, hz, aI, aK, aB, V.one, fV, gD, hfin]
 rfl
theorem Iu (hs : s.obs[r]? = some (rdO R)) (ho : R.over = false) (hz : ¬ z < 1) (hk : R.kind = 2) : call G 211 [.ptr r 0, .int .i64 z, .bool c] s = some (toV (iT R.hd.s), upR s r (rdO R.tl)) := by
 have hr := cK hs
 have hup := gJ hs
 rw [← hup]
 simp only [upR, List.set_set]
 refine aC (F := af211) rfl rfl ?_
 have h1 := mA (s := s) hr
 have h2 := nM (s := s) hr
 have h3 := uB (s := s) hr R
 rw [uC ho] at h3
 simp only [fN] at h3
 have hnm := fun s => CW R.hd.s s
 generalize iT R.hd.s = v at *
 have hfin := fun R' X => jD (s := s) hr R R' X (v := toV v) (by simp)
 obtain ⟨k, n, x, l, f⟩ := v
 simp only [toV, vc] at hnm hfin ⊢
 simp [af211, af211b, h1, h2, h3, ho, hz, hk, hnm, aI, aK, aB, V.one, fV, gD]
 simp at hfin
 simp [hfin]
theorem JP (ht : R.tame) (hs : s.obs[r]? = some (rdO R)) (ho : R.over = false) (hz : ¬ z < 1) (hk : R.kind = 3) : call G 211 [.ptr r 0, .int .i64 z, .bool c] s = some (toV (.mk 2 (Bz R.hd.s) [] [] []), upR s r (rdO R.tl)) := by
 have hr := cK hs
 have hup := gJ hs
 rw [← hup]
 simp only [upR, List.set_set]
 refine aC (F := af211) rfl rfl ?_
 have h1 := mA (s := s) hr
 have h2 := nM (s := s) hr
 have h3 := uB (s := s) hr R
 rw [uC ho] at h3
 simp only [fN] at h3
 have hln := ht.2 _ (Kw ho) (by rw [← IY ho]; exact hk)
 obtain ⟨ev, hpi⟩ := FA R.hd.s (by omega) ⟨s.obs.set r (rdO R.tl) ++ [.cells 46 zL], s.bufs⟩
 have hfin := fun R' X k n x => jD (s := s) hr R R' X (v := .agg [.int .i64 k, .int .i64 n, .str x, .sl .nil [], .sl .nil []]) rfl
 simp [af211, af211b, h1, h2, h3, ho, hz, hk, hpi, aI, aY, aK, aB, V.one, fV, gD, hfin]
 rfl
theorem JS (hs : s.obs[r]? = some (rdO R)) (ho : R.over = false) (hz : ¬ z < 1) (hk : R.kind = 4) : call G 211 [.ptr r 0, .int .i64 z, .bool c] s = some (toV (.mk 3 0 R.hd.s [] []), upR s r (rdO R.tl)) := by
 have hr := cK hs
 have hup := gJ hs
 rw [← hup]
 simp only [upR, List.set_set]
 refine aC (F := af211) rfl rfl ?_
 have h1 := mA (s := s) hr
 have h2 := nM (s := s) hr
 have h3 := uB (s := s) hr R
 rw [uC ho] at h3
 simp only [fN] at h3
 have hfin := fun R' X k n x => jD (s := s) hr R R' X (v := .agg [.int .i64 k, .int .i64 n, .str x, .sl .nil [], .sl .nil []]) rfl
 simp [af211, af211b, h1, h2, h3, ho, hz, hk, aI, aY, aK, aB, V.one, fV, gD, hfin]
 rfl
theorem JR (hs : s.obs[r]? = some (rdO R)) (hz : ¬ z < 1) (k2 : (R.kind = 2) = False) (k3 : (R.kind = 3) = False) (k4 : (R.kind = 4) = False) (hi : R.is [36] = true) :
  call G 211 [.ptr r 0, .int .i64 z, .bool false] s = some (toV (.mk 7 0 R.tl.name.2 [] []), upR s r (rdO R.tl.name.1)) := by
 have hr := cK hs
 have hup := gJ hs
 rw [← hup]
 simp only [upR, List.set_set]
 refine aC (F := af211) rfl rfl ?_
 have ho : R.over = false := by
  cases h1 : R.over with
  | false => rfl
  | true => rw [nL h1] at hi; cases hi
 have h1 := mA (s := s) hr
 have h2 := nM (s := s) hr
 have h3 := uB (s := s) hr R
 rw [uC ho] at h3
 simp only [fN] at h3
 have h4 := vM (s := s) hr
 have h5 := Am (s := s) hr R.tl
 have hfin := fun R' X k n x => jD (s := s) hr R R' X (v := .agg [.int .i64 k, .int .i64 n, .str x, .sl .nil [], .sl .nil []]) rfl
 simp [af211, af211b, h1, h2, h3, h4, h5, ho, hz, hi, k2, k3, k4, aI, aY, aK, aB, V.one, fV, gD, hfin]
 rfl
theorem Is (hs : s.obs[r]? = some (rdO R)) (ho : R.over = false) (hz : ¬ z < 1) (k2 : (R.kind = 2) = False) (k3 : (R.kind = 3) = False) (k4 : (R.kind = 4) = False) (hi : (R.is [36] && !c) = false) (h91 : R.is [91] = false) (h123 : R.is [123] = false) :
  call G 211 [.ptr r 0, .int .i64 z, .bool c] s = some (toV jNull, upR s r (rdO R.form)) := by
 have hr := cK hs
 have hup := gJ hs
 rw [← hup]
 simp only [upR, List.set_set]
 refine aC (F := af211) rfl rfl ?_
 have h1 := mA (s := s) hr
 have h2 := nM (s := s) hr
 have h4 := vM (s := s) hr
 have h5 := rZ (s := s) hr
 have h6 := Aa (s := s) hr
 have t1 : R.take [91] = R := by simp [Qk.take, h91]
 have t2 : R.take [123] = R := by simp [Qk.take, h123]
 have hfin := fun R' X k n x => jD (s := s) hr R R' X (v := .agg [.int .i64 k, .int .i64 n, .str x, .sl .nil [], .sl .nil []]) rfl
 by_cases h36 : R.is [36] = true
 ·have hc : c = true := by cases c <;> simp_all
  subst hc
  simp [af211, af211b, h1, h2, h4, h5, h6, t1, t2, ho, hz, h36, h91, h123, k2, k3, k4, aI, aY, aK, aB, V.one, fV, gD, hfin]
  rfl
 ·have h36' : R.is [36] = false := by simpa using h36
  simp [af211, af211b, h1, h2, h4, h5, h6, t1, t2, ho, hz, h36', h91, h123, k2, k3, k4, aI, aY, aK, aB, V.one, fV, gD, hfin]
  rfl
end
section
variable {c : Bool} {d r : Nat} {R : Qk} {s : St}
theorem JQ (hv : VSp c d) (hd : d ≤ 1000) (ht : R.tame) (hbas : ∀ o ∈ s.obs.take (r + 1), o.und (r + 1) 0 = true ∧ o.kind ≠ 4) (hs : s.obs[r]? = some (rdO R)) (ho : R.over = false)
  (k2 : (R.kind = 2) = False) (k3 : (R.kind = 3) = False) (k4 : (R.kind = 4) = False) (hi : (R.is [36] && !c) = false) (h91 : R.is [91] = false) (h123 : R.is [123] = true) :
  ∃ ex, call G 211 [.ptr r 0, .int .i64 ((d : Int) + 1), .bool c] s = some (toV (.mk 5 0 [] [] (Qk.obj (Qk.val c d) (R.L.length + 2) R.tl []).2), ⟨s.obs.set r (rdO (Qk.obj (Qk.val c d) (R.L.length + 2) R.tl []).1), s.bufs ++ ex⟩) := by
 have hr := cK hs
 have hup := gJ hs
 have hob := Ht hv hd (R := R.tl) (n := R.L.length + 2) (s := ⟨s.obs.set r (rdO R.tl) ++ [.cells 46 zL], s.bufs⟩) (r := r) (Hp ho) (pG ht (AF R)) (iQ hr _ _) (by
  intro o hm
  simp only at hm
  rw [List.take_append_of_le_length (by simp; omega), List.take_set] at hm
  exact tU hbas (fZ _ _ _) (by rw [oY]; decide) o hm)
 obtain ⟨ex, hob⟩ := hob
 rw [HR hr] at hob
 generalize Qk.obj (Qk.val c d) (R.L.length + 2) R.tl [] = Q at *
 obtain ⟨R', acc'⟩ := Q
 simp only at hob ⊢
 have e0 : ∃ ex', call G 211 [.ptr r 0, .int .i64 ((d : Int) + 1), .bool c] ⟨s.obs.set r (rdO R), s.bufs⟩ = some (toV (.mk 5 0 [] [] acc'), ⟨s.obs.set r (rdO R'), s.bufs ++ ex'⟩) := by
  obtain ⟨ex', hfin, _⟩ := sM (⟨s.obs.set r (rdO R), s.bufs⟩ : St) (r := r) (by simpa using hr) (o := rdO R') (fZ _ _ _) [.cells 46 (vc (.mk 5 0 [] [] acc'))] ex (v := toV (.mk 5 0 [] [] acc')) (by simp)
  refine ⟨ex', aC (F := af211) rfl rfl ?_⟩
  simp only [List.set_set] at hfin
  have h1 := mA (s := s) hr
  have h2 := nM (s := s) hr
  have h4 := vM (s := s) hr
  have h5 := rZ (s := s) hr
  have t1 : R.take [91] = R := by simp [Qk.take, h91]
  have t2 : R.take [123] = R.tl := by simp [Qk.take, h123]
  have hlt : ¬ (d : Int) + 1 < 1 := by omega
  have hw : IntKind.i64.wrap (d : Int) = (d : Int) := aD (by omega) (by omega)
  have hg0 : ∀ o X, (s.obs.set r (rdO R') ++ o :: X)[s.obs.length]? = some o := fun o X => fV _ _ _
  have hs0 : ∀ o o' X, (s.obs.set r (rdO R') ++ o :: X).set s.obs.length o' = s.obs.set r (rdO R') ++ o' :: X := fun o o' X => gD _ _ _ _
  simp only [vc, toV, dJ] at hob hfin ⊢
  have h36 : (R.is [36] = true ∧ c = true) ∨ R.is [36] = false := by
   cases hx : R.is [36] <;> cases hc : c <;> simp_all
  rcases h36 with ⟨h36, rfl⟩ | h36
  ·simp [af211, af211b, h1, h2, h4, h5, t1, t2, ho, hlt, hw, h36, h91, h123, k2, k3, k4, hob, aI, aY, aK, aB, V.one, hg0, hs0]
   simp at hfin
   rw [hfin]
  ·simp [af211, af211b, h1, h2, h4, h5, t1, t2, ho, hlt, hw, h36, h91, h123, k2, k3, k4, hob, aI, aY, aK, aB, V.one, hg0, hs0]
   simp at hfin
   rw [hfin]
 obtain ⟨ex', he⟩ := e0
 simp only [upR] at hup
 rw [hup] at he
 exact ⟨ex', he⟩
theorem It (hv : VSp c d) (hd : d ≤ 1000) (ht : R.tame) (hbas : ∀ o ∈ s.obs.take (r + 1), o.und (r + 1) 0 = true ∧ o.kind ≠ 4) (hs : s.obs[r]? = some (rdO R)) (ho : R.over = false)
  (k2 : (R.kind = 2) = False) (k3 : (R.kind = 3) = False) (k4 : (R.kind = 4) = False) (hi : (R.is [36] && !c) = false) (h91 : R.is [91] = true) :
  ∃ ex, call G 211 [.ptr r 0, .int .i64 ((d : Int) + 1), .bool c] s = some (toV (.mk 4 0 [] (Qk.lst (Qk.val c d) (R.L.length + 2) R.tl []).2 []), ⟨s.obs.set r (rdO (Qk.lst (Qk.val c d) (R.L.length + 2) R.tl []).1), s.bufs ++ ex⟩) := by
 have hr := cK hs
 have hup := gJ hs
 have hll := ht.1
 have hmt := Hp ho
 have hlp := fun env => Hl (base := s.obs) (bufs := s.bufs) hv hd hr hbas (R.L.length + 2) R.tl [] env hmt (pG ht (AF R)) (by simp; omega)
 generalize Qk.lst (Qk.val c d) (R.L.length + 2) R.tl [] = Q at *
 obtain ⟨R', acc'⟩ := Q
 simp only at hlp ⊢
 have e0 : ∃ ex', call G 211 [.ptr r 0, .int .i64 ((d : Int) + 1), .bool c] ⟨s.obs.set r (rdO R), s.bufs⟩ = some (toV (.mk 4 0 [] acc' []), ⟨s.obs.set r (rdO R'), s.bufs ++ ex'⟩) := by
  obtain ⟨ex', hfin, _⟩ := sM (⟨s.obs.set r (rdO R), s.bufs⟩ : St) (r := r) (by simpa using hr) (o := rdO R') (fZ _ _ _) [.cells 46 [.int .i64 4, .int .i64 0, .str [], .sl (bF s.bufs acc') (dJ acc'), .sl .nil []], .cells 46 (mkL (.sl (bF s.bufs acc') (dJ acc')))] (dH (80, 46) acc') (v := .agg [.int .i64 4, .int .i64 0, .str [], .sl (bF s.bufs acc') (dJ acc'), .sl .nil []]) (by simp)
  refine ⟨ex', aC (F := af211) rfl rfl ?_⟩
  simp only [List.set_set] at hfin
  have h1 := mA (s := s) hr
  have h2 := nM (s := s) hr
  have h4 := vM (s := s) hr
  have h5 := rZ (s := s) hr
  have t1 : R.take [91] = R.tl := by simp [Qk.take, h91]
  have hlt : ¬ (d : Int) + 1 < 1 := by omega
  have hKL : (⟨s.obs.set r (rdO R.tl) ++ [.cells 46 zL, .cells 46 [.int .i64 4, .int .i64 0, .str [], .sl .nil [], .sl .nil []]], s.bufs⟩ : St) = KL s.obs s.bufs r R.tl [] := by
   simp [KL, bF, dH, dJ, mkL]
  have h36 : (R.is [36] = true ∧ c = true) ∨ R.is [36] = false := by
   cases hx : R.is [36] <;> cases hc : c <;> simp_all
  have hkl := Cs (base := s.obs) (bufs := s.bufs) (r := r) R' acc'
  have hkz := KL_z (base := s.obs) (bufs := s.bufs) (r := r) R' acc'
  have hks := Kf (base := s.obs) (bufs := s.bufs) (r := r) R' acc'
  simp only [mkL] at hkl hkz hks hfin
  have hg0 : ∀ o X, (s.obs.set r (rdO R') ++ o :: X)[s.obs.length]? = some o := fun o X => fV _ _ _
  have hbf : (KL s.obs s.bufs r R' acc').bufs = s.bufs ++ dH (80, 46) acc' := rfl
  rcases h36 with ⟨h36, rfl⟩ | h36
  ·simp [af211, af211b, h1, h2, h4, h5, t1, ho, hlt, h36, h91, k2, k3, k4, aI, aY, aK, aB, V.one, fV, lM, gD, lV, hKL]
   refine Out.mono (hlp _ (by simp) (by simp) (by simp) (by simp)) ?_
   rintro ex env' s' ⟨rfl, q6, q9, rfl⟩
   simp at q6 q9
   simp [q6, q9, ↓hkl, ↓hkz, hks, aK, aB, V.one, hg0, hbf]
   simp at hfin
   rw [hfin]
   rfl
  ·simp [af211, af211b, h1, h2, h4, h5, t1, ho, hlt, h36, h91, k2, k3, k4, aI, aY, aK, aB, V.one, fV, lM, gD, lV, hKL]
   refine Out.mono (hlp _ (by simp) (by simp) (by simp) (by simp)) ?_
   rintro ex env' s' ⟨rfl, q6, q9, rfl⟩
   simp at q6 q9
   simp [q6, q9, ↓hkl, ↓hkz, hks, aK, aB, V.one, hg0, hbf]
   simp at hfin
   rw [hfin]
   rfl
 obtain ⟨ex', he⟩ := e0
 simp only [upR] at hup
 rw [hup] at he
 exact ⟨ex', he⟩
end
theorem EM (c : Bool) : ∀ d, d ≤ 1000 → VSp c d
 | 0, _ => by
  intro R s r ht hbas hs
  rw [Qk.val]
  refine ⟨[], ?_⟩
  rw [List.append_nil]
  by_cases ho : R.over = true
  ·rw [if_pos ho]; exact xA hs ho
  ·rw [if_neg ho]; exact Cq hs (by simpa using ho) (by decide)
 | d + 1, hd => by
  intro R s r ht hbas hs
  have hv := EM c d (by omega)
  rw [Qk.val]
  have hz : ¬ ((d : Int) + 1) < 1 := by omega
  push_cast
  by_cases ho : R.over = true
  ·rw [if_pos ho]; exact ⟨[], by rw [List.append_nil]; exact xA hs ho⟩
  have ho' : R.over = false := by simpa using ho
  rw [if_neg ho]
  by_cases k2 : R.kind = 2
  ·rw [if_pos k2]; exact ⟨[], by rw [List.append_nil]; exact Iu hs ho' hz k2⟩
  rw [if_neg k2]
  by_cases k3 : R.kind = 3
  ·rw [if_pos k3]; exact ⟨[], by rw [List.append_nil]; exact JP ht hs ho' hz k3⟩
  rw [if_neg k3]
  by_cases k4 : R.kind = 4
  ·rw [if_pos k4]; exact ⟨[], by rw [List.append_nil]; exact JS hs ho' hz k4⟩
  rw [if_neg k4]
  by_cases hi : R.is [36] = true ∧ c = false
  ·rw [if_pos hi]
   obtain ⟨hi, rfl⟩ := hi
   exact ⟨[], by rw [List.append_nil]; exact JR hs hz (eq_false k2) (eq_false k3) (eq_false k4) hi⟩
  rw [if_neg hi]
  have hi' : (R.is [36] && !c) = false := by
   cases hx : R.is [36] <;> cases hc : c <;> simp_all
  by_cases h91 : R.is [91] = true
  ·rw [if_pos h91]
   exact It hv (by omega) ht hbas hs ho' (eq_false k2) (eq_false k3) (eq_false k4) hi' h91
  rw [if_neg h91]
  have h91' : R.is [91] = false := by simpa using h91
  by_cases h123 : R.is [123] = true
  ·rw [if_pos h123]
   exact JQ hv (by omega) ht hbas hs ho' (eq_false k2) (eq_false k3) (eq_false k4) hi' h91' h123
  rw [if_neg h123]
  exact ⟨[], by rw [List.append_nil]; exact Is hs ho' hz (eq_false k2) (eq_false k3) (eq_false k4) hi' h91' (by simpa using h123)⟩
