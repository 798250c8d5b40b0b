/-
  Payloads: what the functions do, one behind the other. No condition.
-/
import Derived.Test.YtboejpobmpfifaaGreatDoorCAs
import Derived.Test.YtboejpobmpfifaaGreatDoorEngX
/-
  The program's record (1). No condition.
-/
namespace Go.Proofs.YtboejpobmpfifaaGreatDoor.Eng
open Go
set_option linter.unusedSimpArgs false
set_option linter.unusedVariables false

attribute [local simp] evC_reg evC_regD evR_cons evR_nil runR_some regK_some evC_ret evC_skip evC_exit Out_seq Out_blk Out_some seqQ_norm seqQ_ret seqQ_exit blkQ_norm blkQ_ret blkQ_exit loopQ_norm loopQ_ret loopQ_exit
attribute [local simp] stepR evOp put upd_apply X.ev initEnv cells_agg cells_int cells_str cells_bool cells_sl cells_ptr cells_pnil cells_fn cells_map vc_length vc_take vc_plain vc_und toVs_plain toPs_plain toVs_und toPs_und takeN evBin isSh intBin strBin callK resOf packR fin V.plain plainL V.und undL scK kill dstsO dstsL dstsR ite_some ite_pair ite_vbool evUn evLoad evLen V.real finLoop_false quietK_false quietK_same kill_none
attribute [local simp] pSs_plain pSs_und erVs_plain erVs_und pnVs_plain pnVs_und
theorem aparts_nil (env : Env) : aparts [] env = true := rfl
theorem aparts_lt (r : List (Nat × Nat)) (env : Env) (p q : Nat) (h : q < 1000000) : aparts ((p, q) :: r) env = (apart (env p) (env q) && aparts r env) := by
  simp only [aparts, List.all_cons, apart2]
  rw [if_pos h]
theorem aparts_un (r : List (Nat × Nat)) (env : Env) (p q : Nat) (h0 : ¬ q < 1000000) (h : q < 2000000) : aparts ((p, q) :: r) env = (under (env (q - 1000000)) (env p) && aparts r env) := by
  simp only [aparts, List.all_cons, apart2]
  rw [if_neg h0, if_pos h]
theorem aparts_tell (r : List (Nat × Nat)) (env : Env) (p q : Nat) (h : ¬ q < 2000000) : aparts ((p, q) :: r) env = aparts r env := by
  simp only [aparts, List.all_cons, apart2]
  rw [if_neg (by omega), if_neg h, Bool.true_and]
theorem tells_nil (env : Env) (s : St) : tells [] env s = (env, s) := rfl
theorem tells_skip (r : List (Nat × Nat)) (env : Env) (s : St) (p q : Nat) (h : q < 2000000) : tells ((p, q) :: r) env s = tells r env s := by
  simp only [tells]
  rw [if_pos h]
theorem tells_at (r : List (Nat × Nat)) (env : Env) (s : St) (p q : Nat) (h0 : ¬ q < 2000000) (h : q < 3000000) : tells ((p, q) :: r) env s = tells r env (toldAt (env p) (env (q - 2000000)) s) := by
  simp only [tells]
  rw [if_neg h0, if_pos h]

/-- A payload. -/
structure Pay where
  first : Bool
  data : JV
  errs : List PErr
  pend : List PPen
  rcd : Bool
  id : Int
  stream : Bool
  order : List (List UInt8)
  ended : Bool
  failed : Bool
  more : Bool
def sgVs (l : List (List UInt8)) : List V := l.map V.str
theorem sgVs_length (l : List (List UInt8)) : (sgVs l).length = l.length := by simp [sgVs]
theorem sgVs_get (l : List (List UInt8)) (i : Nat) : (sgVs l)[i]? = (l[i]?).map V.str := by simp [sgVs]
theorem sgVs_plain : ∀ l : List (List UInt8), plainL (sgVs l) = sgVs l
  | [] => rfl
  | x :: l => by rw [show sgVs (x :: l) = .str x :: sgVs l from rfl, plainL, sgVs_plain l]; rfl
theorem sgVs_und (n b : Nat) : ∀ l : List (List UInt8), undL n b (sgVs l) = true
  | [] => rfl
  | x :: l => by rw [show sgVs (x :: l) = .str x :: sgVs l from rfl, undL, sgVs_und n b l]; rfl
theorem sgVs_app (l : List (List UInt8)) (x : List UInt8) : sgVs (l ++ [x]) = sgVs l ++ [.str x] := by simp [sgVs]
theorem fitsGs (l : List (List UInt8)) : fits 1 (sgVs l) = true := by cases l <;> simp [sgVs, fits]
attribute [local simp] sgVs_plain sgVs_und

def payC (p : Pay) : List V := .bool p.first :: (vc p.data ++ [.sl .no (erVs p.errs), .sl .no (pnVs p.pend), .bool p.rcd, .int .i64 p.id, .bool p.stream, .sl .no (sgVs p.order), .bool p.ended, .bool p.failed, .bool p.more])
abbrev payV (p : Pay) : V := .agg (payC p)
def kItems : List UInt8 := [105, 116, 101, 109, 115]
def kData : List UInt8 := [100, 97, 116, 97]
def kOrder : List UInt8 := [111, 114, 100, 101, 114]
def kErrors : List UInt8 := [101, 114, 114, 111, 114, 115]
def kPending : List UInt8 := [112, 101, 110, 100, 105, 110, 103]
def kInc : List UInt8 := [105, 110, 99, 114, 101, 109, 101, 110, 116, 97, 108]
def kComp : List UInt8 := [99, 111, 109, 112, 108, 101, 116, 101, 100]
def kNext : List UInt8 := [104, 97, 115, 78, 101, 120, 116]
structure Pay.lim (p : Pay) : Prop where
  errs : p.errs.length ≤ 1000000000 ∧ ∀ e ∈ p.errs, e.lim
  pend : p.pend.length ≤ 1000000000 ∧ ∀ e ∈ p.pend, e.lim
  order : p.order.length ≤ 1000000000 ∧ ∀ x ∈ p.order, x.length ≤ 9223372036854775807
  data : p.data.ok ∧ p.data.lim
  id : -9223372036854775808 ≤ p.id ∧ p.id ≤ 9223372036854775807

def lstJ (l : List JV) : JV := .mk 4 0 [] l []
def errsJ (l : List PErr) : JV := lstJ (l.map errJ)
def recJ (p : Pay) : JV := .mk 5 0 [] [] (objOf [⟨kId, idJ p.id, true⟩, ⟨kItems, lstJ [p.data], p.stream⟩, ⟨kData, p.data, !p.stream⟩, ⟨kOrder, lstJ (p.order.map strJ), !p.stream⟩, ⟨kErrors, errsJ p.errs, decide (0 < p.errs.length)⟩])
def endJ (p : Pay) : JV := .mk 5 0 [] [] (objOf [⟨kId, idJ p.id, true⟩, ⟨kErrors, errsJ p.errs, p.failed⟩])
def flagJ (b : Bool) : JV := .mk 1 (if b = true then 1 else 0) [] [] []
def payJ (p : Pay) : JV :=
  if p.first = true then .mk 5 0 [] [] (objOf [⟨kData, p.data, true⟩, ⟨kErrors, errsJ p.errs, decide (0 < p.errs.length)⟩, ⟨kPending, lstJ (p.pend.map penJ), decide (0 < p.pend.length)⟩, ⟨kNext, flagJ p.more, true⟩])
  else .mk 5 0 [] [] (objOf [⟨kPending, lstJ (p.pend.map penJ), decide (0 < p.pend.length)⟩, ⟨kInc, lstJ [recJ p], p.rcd⟩, ⟨kComp, lstJ [endJ p], p.ended⟩, ⟨kNext, flagJ p.more, true⟩])

theorem ordLoop (A : List AObj) (B : List (Nat × Nat × TypeId)) (L : List (List UInt8)) (hL : L.length ≤ 1000000000) :
    ∀ (m i : Nat) (env : Env) (J : List AObj), L.length - i = m → i ≤ L.length → env 3 = .ptr A.length 0 → env 8 = .sl .no (sgVs L) → env 9 = .int .i64 L.length → env 10 = .int .i64 i →
      Out (evC G (.loop false af158l0) env (CL A J B 4 0 [] ((L.take i).map strJ))) (fun e env' s' => e = .exit 0 ∧ env' 1 = env 1 ∧ env' 2 = env 2 ∧ env' 3 = env 3 ∧ ∃ J', s' = CL A J' B 4 0 [] (L.map strJ)) := by
  intro m
  induction m with
  | zero =>
    intro i env J hm hi g3 g8 g9 g10
    have : i = L.length := by omega
    subst this
    refine Out_loop G false _ _ af158l0.eq_1 _ _ _ ?_
    simp [g9, g10]
    refine Out_cond _ _ _ _ _ _ _ rfl (fun h => by simp at h) (fun _ => ?_)
    simp
    exact ⟨J, rfl⟩
  | succ m ihm =>
    intro i env J hm hi g3 g8 g9 g10
    have hlt : i < L.length := by omega
    have hwi : IntKind.i64.wrap ((i : Int) + 1) = ((i + 1 : Nat) : Int) := by rw [wrap_in (by omega) (by omega)]; omega
    have htk : (L.take (i + 1)).map strJ = (L.take i).map strJ ++ [strJ L[i]] := by rw [List.take_succ_eq_append_getElem hlt, List.map_append]; rfl
    have hle : ((L.take i).map strJ).length ≤ 1000000000 := by rw [List.length_map, List.length_take]; omega
    have hout := fun X => CL_out A J X B 4 0 [] ((L.take i).map strJ)
    have hout0 := hout []
    rw [List.append_nil] at hout0
    have happ := fun X o => CL_app A J X B 4 0 [] ((L.take i).map strJ) (strJ L[i]) hle o
    have happ0 := happ []
    simp only [List.append_nil] at happ0
    have hset := fun X => CL_set A J X B 4 0 [] ((L.take i).map strJ) (strJ L[i])
    have hset0 := hset []
    simp only [List.append_nil] at hset0
    have hnx := fun env J => ihm (i + 1) env J (by omega) (by omega)
    rw [htk] at hnx
    have hget : (sgVs L)[i]? = some (.str L[i]) := by rw [sgVs_get, List.getElem?_eq_getElem hlt]; rfl
    have hst := fun s => str_spec L[i] s
    generalize (L.take i).map strJ = acc at *
    generalize L[i] = p at *
    simp only [strJ, toV, vc, toVs, toPs] at hst happ0 hset0
    refine Out_loop G false _ _ af158l0.eq_1 _ _ _ ?_
    simp [g9, g10]
    refine Out_cond _ _ _ _ _ _ _ rfl (fun _ => ?_) (fun h => by simp at h; omega)
    simp [g3, g8, g10, hget, hst, evStore, fillL, putL, V.one, ↓hout0, fillS, happ0, hwi]
    rw [hset0]
    refine Out.mono (hnx _ _ (by simp [g3]) (by simp [g8]) (by simp [g9]) (by simp)) ?_
    rintro e env' s' ⟨rfl, q0, q1, q2, J', rfl⟩
    exact ⟨rfl, by simpa using q0, by simpa using q1, by simpa [g3] using q2, J', rfl⟩

end Go.Proofs.YtboejpobmpfifaaGreatDoor.Eng

namespace Go.Proofs.YtboejpobmpfifaaGreatDoor.Eng
open Go
set_option linter.unusedSimpArgs false
set_option linter.unusedVariables false

attribute [local simp] evC_reg evC_regD evR_cons evR_nil runR_some regK_some evC_ret evC_skip evC_exit Out_seq Out_blk Out_some seqQ_norm seqQ_ret seqQ_exit blkQ_norm blkQ_ret blkQ_exit loopQ_norm loopQ_ret loopQ_exit
attribute [local simp] stepR evOp put upd_apply X.ev initEnv cells_agg cells_int cells_str cells_bool cells_sl cells_ptr cells_pnil cells_fn cells_map vc_length vc_take vc_plain vc_und toVs_plain toPs_plain toVs_und toPs_und takeN evBin isSh intBin strBin callK resOf packR fin V.plain plainL V.und undL scK kill dstsO dstsL dstsR ite_some ite_pair ite_vbool evUn evLoad evLen V.real finLoop_false quietK_false quietK_same kill_none
attribute [local simp] pSs_plain pSs_und erVs_plain erVs_und pnVs_plain pnVs_und
attribute [local simp] sgVs_plain sgVs_und
theorem errs_spec' (L : List PErr) (hL : L.length ≤ 1000000000 ∧ ∀ e ∈ L, e.lim) (s : St) : call G 155 [.sl .no (erVs L)] s = some (.agg [.int .i64 4, .int .i64 0, .str [], .sl .no (toVs (L.map errJ)), .sl .no []], s) := by
  rw [errs_spec L hL.1 hL.2 s]; simp [vc, toPs]
theorem pending_spec' (L : List PPen) (hL : L.length ≤ 1000000000 ∧ ∀ e ∈ L, e.lim) (s : St) : call G 153 [.sl .no (pnVs L)] s = some (.agg [.int .i64 4, .int .i64 0, .str [], .sl .no (toVs (L.map penJ)), .sl .no []], s) := by
  rw [pending_spec L hL.1 hL.2 s]; simp [vc, toPs]

theorem record_spec (p : Pay) (hp : p.lim) (s : St) : call G 158 [payV p] s = some (toV (recJ p), s) := by
  obtain ⟨fi, ⟨k, nn, b, l, f⟩, er, pe, rc, id, st, od, en, fa, mo⟩ := p
  obtain ⟨h1, _, ⟨h3, _⟩, _, h4⟩ := hp
  simp only at h1 h3 h4
  have hli := fun o xs s => list_spec o xs s
  have her := fun s => errs_spec' er h1 s
  have hid := fun s => id_spec' id h4.1 h4.2 s
  have hob := fun s => object_spec [⟨kId, idJ id, true⟩, ⟨kItems, lstJ [.mk k nn b l f], st⟩, ⟨kData, .mk k nn b l f, !st⟩, ⟨kOrder, lstJ (od.map strJ), !st⟩, ⟨kErrors, errsJ er, decide (0 < er.length)⟩] (by simp) s
  have hR : recJ ⟨fi, .mk k nn b l f, er, pe, rc, id, st, od, en, fa, mo⟩ = .mk 5 0 [] [] (objOf [⟨kId, idJ id, true⟩, ⟨kItems, lstJ [.mk k nn b l f], st⟩, ⟨kData, .mk k nn b l f, !st⟩, ⟨kOrder, lstJ (od.map strJ), !st⟩, ⟨kErrors, errsJ er, decide (0 < er.length)⟩]) := rfl
  have hgt : (decide ((0 : Int) < (er.length : Int))) = decide (0 < er.length) := by simp
  rw [hR]
  generalize JV.mk 5 0 [] [] (objOf [⟨kId, idJ id, true⟩, ⟨kItems, lstJ [.mk k nn b l f], st⟩, ⟨kData, .mk k nn b l f, !st⟩, ⟨kOrder, lstJ (od.map strJ), !st⟩, ⟨kErrors, errsJ er, decide (0 < er.length)⟩]) = R at *
  simp only [errsJ, lstJ, idJ, kvVs, kvV, List.map_cons, List.map_nil, toV, vc, toVs, toPs, List.cons_append, List.nil_append, kId, kItems, kData, kOrder, kErrors] at hob hid
  refine call_out (F := af158) rfl rfl ?_
  simp [af158, af158b, payC, vc, hli, sgVs_length, fillL, evStore, putL, V.one, List.getElem?_append, List.set_append]
  obtain ⟨A, hA⟩ : ∃ A, s.obs ++ [.cells 51 (payC ⟨fi, .mk k nn b l f, er, pe, rc, id, st, od, en, fa, mo⟩), .cells 46 [.int .i64 0, .int .i64 0, .str [], .sl .nil [], .sl .nil []]] = A := ⟨_, rfl⟩
  simp only [payC, vc, List.cons_append, List.nil_append] at hA
  have hAl : A.length = s.obs.length + 2 := by rw [← hA]; simp
  have e0 : (⟨s.obs ++ [.cells 51 [.bool fi, .int .i64 k, .int .i64 nn, .str b, .sl .no (toVs l), .sl .no (toPs f), .sl .no (erVs er), .sl .no (pnVs pe), .bool rc, .int .i64 id, .bool st, .sl .no (sgVs od), .bool en, .bool fa, .bool mo], .cells 46 [.int .i64 0, .int .i64 0, .str [], .sl .nil [], .sl .nil []], .cells 46 [.int .i64 4, .int .i64 0, .str [], .sl .nil [], .sl .nil []]], s.bufs⟩ : St) = CL A [] s.bufs 4 0 [] ((od.take 0).map strJ) := by
    rw [← hA]; simp [CL, ownOf, exOf, toVs]
  rw [e0]
  refine Out.mono (ordLoop A s.bufs od h3 od.length 0 _ [] (by omega) (by omega) (by simp [hAl]) (by simp) (by simp) (by simp)) ?_
  rintro e env s' ⟨rfl, q0, q1, q2, J, rfl⟩
  simp at q0 q1 q2
  have c3 : (CL A J s.bufs 4 0 [] (od.map strJ)).obs[s.obs.length + 2]? = some (.cells 46 [.int .i64 4, .int .i64 0, .str [], .sl (ownOf s.bufs (od.map strJ)) (toVs (od.map strJ)), .sl .nil []]) := by
    rw [← hAl]; simp [CL]
  have c2 : (CL A J s.bufs 4 0 [] (od.map strJ)).obs[s.obs.length + 1]? = some (.cells 46 [.int .i64 0, .int .i64 0, .str [], .sl .nil [], .sl .nil []]) := by
    rw [← hA]; simp [CL]
  have c1 : (CL A J s.bufs 4 0 [] (od.map strJ)).obs[s.obs.length]? = some (.cells 51 [.bool fi, .int .i64 k, .int .i64 nn, .str b, .sl .no (toVs l), .sl .no (toPs f), .sl .no (erVs er), .sl .no (pnVs pe), .bool rc, .int .i64 id, .bool st, .sl .no (sgVs od), .bool en, .bool fa, .bool mo]) := by
    rw [← hA]; simp [CL]
  have c4 : ∀ X, ((CL A J s.bufs 4 0 [] (od.map strJ)).obs.set (s.obs.length + 1) X)[s.obs.length + 1]? = some X := by
    intro X; rw [← hA]; simp [CL]
  have c5 : ∀ X, ((CL A J s.bufs 4 0 [] (od.map strJ)).obs.set (s.obs.length + 1) X).take s.obs.length = s.obs := by
    intro X; rw [← hA]; simp [CL, List.set_append]
  have c6 : (CL A J s.bufs 4 0 [] (od.map strJ)).bufs.take s.bufs.length = s.bufs := by simp [CL]
  obtain ⟨k2, n2, b2, l2, f2⟩ := R
  simp only [toV, vc] at hob
  simp [q0, q1, q2, c1, c3, c2, c4, c5, c6, hid, hli, her, hob, hgt, erVs_length, evStore, fillL, fillS, putL, V.one, vc]

end Go.Proofs.YtboejpobmpfifaaGreatDoor.Eng

namespace Go.Proofs.YtboejpobmpfifaaGreatDoor.Eng
open Go
set_option linter.unusedSimpArgs false
set_option linter.unusedVariables false

attribute [local simp] evC_condT evC_condF evC_reg evC_regD evR_cons evR_nil runR_some regK_some evC_ret evC_skip evC_exit Out_seq Out_blk Out_some seqQ_norm seqQ_ret seqQ_exit blkQ_norm blkQ_ret blkQ_exit loopQ_norm loopQ_ret loopQ_exit
attribute [local simp] stepR evOp put upd_apply X.ev initEnv cells_agg cells_int cells_str cells_bool cells_sl cells_ptr cells_pnil cells_fn cells_map vc_length vc_take vc_plain vc_und toVs_plain toPs_plain toVs_und toPs_und takeN evBin isSh intBin strBin callK resOf packR fin V.plain plainL V.und undL scK kill dstsO dstsL dstsR ite_some ite_pair ite_vbool evUn evLoad evLen V.real finLoop_false quietK_false quietK_same kill_none
attribute [local simp] pSs_plain pSs_und erVs_plain erVs_und pnVs_plain pnVs_und
attribute [local simp] sgVs_plain sgVs_und
theorem value_spec (p : Pay) (hp : p.lim) (s : St) : call G 90 [payV p] s = some (toV (payJ p), s) := by
  have hrec := fun s => record_spec p hp s
  obtain ⟨fi, ⟨k, nn, b, l, f⟩, er, pe, rc, id, st, od, en, fa, mo⟩ := p
  obtain ⟨h1, h2, _, _, h4⟩ := hp
  simp only at h1 h2 h4
  have hli := fun o xs s => list_spec o xs s
  have her := fun s => errs_spec' er h1 s
  have hpe := fun s => pending_spec' pe h2 s
  have hid := fun s => id_spec' id h4.1 h4.2 s
  have hfl := fun s => flag_spec mo s
  have hoe := fun s => object_spec [⟨kId, idJ id, true⟩, ⟨kErrors, errsJ er, fa⟩] (by simp) s
  have hE : endJ ⟨fi, .mk k nn b l f, er, pe, rc, id, st, od, en, fa, mo⟩ = .mk 5 0 [] [] (objOf [⟨kId, idJ id, true⟩, ⟨kErrors, errsJ er, fa⟩]) := rfl
  rw [← hE] at hoe
  have hg1 : (decide ((0 : Int) < (er.length : Int))) = decide (0 < er.length) := by simp
  have hg2 : (decide ((0 : Int) < (pe.length : Int))) = decide (0 < pe.length) := by simp
  cases fi with
  | true =>
    have hob := fun s => object_spec [⟨kData, .mk k nn b l f, true⟩, ⟨kErrors, errsJ er, decide (0 < er.length)⟩, ⟨kPending, lstJ (pe.map penJ), decide (0 < pe.length)⟩, ⟨kNext, flagJ mo, true⟩] (by simp) s
    have hR : payJ ⟨true, .mk k nn b l f, er, pe, rc, id, st, od, en, fa, mo⟩ = .mk 5 0 [] [] (objOf [⟨kData, .mk k nn b l f, true⟩, ⟨kErrors, errsJ er, decide (0 < er.length)⟩, ⟨kPending, lstJ (pe.map penJ), decide (0 < pe.length)⟩, ⟨kNext, flagJ mo, true⟩]) := rfl
    rw [← hR] at hob
    generalize payJ ⟨true, .mk k nn b l f, er, pe, rc, id, st, od, en, fa, mo⟩ = R at *
    simp only [errsJ, lstJ, idJ, flagJ, kvVs, kvV, List.map_cons, List.map_nil, toV, vc, toVs, toPs, List.cons_append, List.nil_append, kData, kErrors, kPending, kNext] at hob hfl
    obtain ⟨k2, n2, b2, l2, f2⟩ := R
    refine call_out (F := af90) rfl rfl ?_
    simp only [toV, vc] at hob
    simp [af90, af90b, payC, vc, hfl, hpe, pnVs_length, hg2, her, erVs_length, hg1, hob, fillL, fillS, evStore, putL, V.one, List.getElem?_append, List.set_append]
  | false =>
    have hob := fun s => object_spec [⟨kPending, lstJ (pe.map penJ), decide (0 < pe.length)⟩, ⟨kInc, lstJ [recJ ⟨false, .mk k nn b l f, er, pe, rc, id, st, od, en, fa, mo⟩], rc⟩, ⟨kComp, lstJ [endJ ⟨false, .mk k nn b l f, er, pe, rc, id, st, od, en, fa, mo⟩], en⟩, ⟨kNext, flagJ mo, true⟩] (by simp) s
    have hR : payJ ⟨false, .mk k nn b l f, er, pe, rc, id, st, od, en, fa, mo⟩ = .mk 5 0 [] [] (objOf [⟨kPending, lstJ (pe.map penJ), decide (0 < pe.length)⟩, ⟨kInc, lstJ [recJ ⟨false, .mk k nn b l f, er, pe, rc, id, st, od, en, fa, mo⟩], rc⟩, ⟨kComp, lstJ [endJ ⟨false, .mk k nn b l f, er, pe, rc, id, st, od, en, fa, mo⟩], en⟩, ⟨kNext, flagJ mo, true⟩]) := rfl
    rw [← hR] at hob
    clear hE hR
    generalize payJ ⟨false, .mk k nn b l f, er, pe, rc, id, st, od, en, fa, mo⟩ = R at *
    generalize recJ ⟨false, .mk k nn b l f, er, pe, rc, id, st, od, en, fa, mo⟩ = R1 at *
    generalize endJ ⟨false, .mk k nn b l f, er, pe, rc, id, st, od, en, fa, mo⟩ = R2 at *
    obtain ⟨k2, n2, b2, l2, f2⟩ := R
    obtain ⟨k3, n3, b3, l3, f3⟩ := R1
    obtain ⟨k4, n4, b4, l4, f4⟩ := R2
    simp only [payV, payC, errsJ, lstJ, idJ, flagJ, kvVs, kvV, List.map_cons, List.map_nil, toV, vc, toVs, toPs, List.cons_append, List.nil_append, kData, kErrors, kPending, kNext, kId, kInc, kComp] at hob hfl hrec hoe hid
    refine call_out (F := af90) rfl rfl ?_
    simp [af90, af90b, payC, vc, hfl, hpe, pnVs_length, hg2, her, erVs_length, hid, hoe, hrec, hli, hob, fillL, fillS, evStore, putL, V.one, List.getElem?_append, List.set_append]

end Go.Proofs.YtboejpobmpfifaaGreatDoor.Eng

namespace Go.Proofs.YtboejpobmpfifaaGreatDoor.Eng
open Go
set_option linter.unusedSimpArgs false
set_option linter.unusedVariables false

attribute [local simp] evC_reg evC_regD evR_cons evR_nil runR_some regK_some evC_ret evC_skip evC_exit Out_seq Out_blk Out_some seqQ_norm seqQ_ret seqQ_exit blkQ_norm blkQ_ret blkQ_exit loopQ_norm loopQ_ret loopQ_exit
attribute [local simp] stepR evOp put upd_apply X.ev initEnv cells_agg cells_int cells_str cells_bool cells_sl cells_ptr cells_pnil cells_fn cells_map vc_length vc_take vc_plain vc_und toVs_plain toPs_plain toVs_und toPs_und takeN evBin isSh intBin strBin callK resOf packR fin V.plain plainL V.und undL scK kill dstsO dstsL dstsR ite_some ite_pair ite_vbool evUn evLoad evLen V.real finLoop_false quietK_false quietK_same kill_none
attribute [local simp] pSs_plain pSs_und erVs_plain erVs_und pnVs_plain pnVs_und
attribute [local simp] sgVs_plain sgVs_und
theorem idxLoopE (L : List PErr) (hL : L.length ≤ 9223372036854775807) (f : FuncId) (cap : List V) (hcap : plainL cap = cap) (g : PErr → Bool) :
    ∀ (m i : Nat) (env : Env) (s : St), L.length - i = m → i ≤ L.length → env 0 = .sl .no (erVs L) → env 1 = .fn (.func f) [] cap → env 7 = .int .i64 L.length → env 8 = .int .i64 i →
      (∀ x ∈ L, call G f (erV x :: cap) s = some (.bool (g x), s)) →
      Out (evC G (.loop false af235l0) env s) (fun e env' s' => s' = s ∧ ((idxV g (L.drop i) i = -1 ∧ e = .exit 0) ∨ (idxV g (L.drop i) i ≠ -1 ∧ e = .ret ∧ env' 4 = .int .i64 (idxV g (L.drop i) i)))) := by
  intro m
  induction m with
  | zero =>
    intro i env s hm hi h0 h1 h7 h8 hc
    have : i = L.length := by omega
    subst this
    refine Out_loop G false _ _ af235l0.eq_1 _ _ _ ?_
    simp [h7, h8]
    refine Out_cond _ _ _ _ _ _ _ rfl (fun h => by simp at h) (fun _ => ?_)
    simp [idxV]
  | succ m ihm =>
    intro i env s hm hi h0 h1 h7 h8 hc
    have hlt : i < L.length := by omega
    have hd := List.drop_eq_getElem_cons hlt
    refine Out_loop G false _ _ af235l0.eq_1 _ _ _ ?_
    simp [h7, h8]
    refine Out_cond _ _ _ _ _ _ _ rfl (fun _ => ?_) (fun h => by simp at h; omega)
    simp [h0, h1, h8, erVs_get, List.getElem?_eq_getElem hlt, hc L[i] (List.getElem_mem hlt)]
    refine Out_cond _ _ _ _ _ _ _ rfl (fun hg => ?_) (fun hg => ?_)
    · rw [hd, idxV, if_pos hg]
      simp
    · rw [hd, idxV, if_neg (by simp [hg])]
      have hw : IntKind.i64.wrap ((i : Int) + 1) = ((i + 1 : Nat) : Int) := by rw [wrap_in (by omega) (by omega)]; omega
      simp [h8, hw]
      exact ihm (i + 1) _ s (by omega) (by omega) (by simp [h0]) (by simp [h1]) (by simp [h7]) (by simp) hc

theorem containsE (L : List PErr) (hL : L.length ≤ 9223372036854775807) (f : FuncId) (cap : List V) (hcap : plainL cap = cap) (g : PErr → Bool) (s : St)
    (hc : ∀ x ∈ L, call G f (erV x :: cap) s = some (.bool (g x), s)) : call G 166 [.sl .no (erVs L), .fn (.func f) [] cap] s = some (.bool (L.any g), s) := by
  have h43 : call G 235 [.sl .no (erVs L), .fn (.func f) [] cap] s = some (.int .i64 (idxV g L 0), s) := by
    refine call_out (F := af235) rfl rfl ?_
    simp [af235, af235b, erVs_length]
    refine (idxLoopE L hL f cap hcap g L.length 0 _ s (by omega) (by omega) (by simp) (by simp) (by simp) (by simp) hc).mono ?_
    rintro e env s' ⟨rfl, ⟨h1, rfl⟩ | ⟨h1, rfl, h2⟩⟩
    · rw [List.drop_zero] at h1
      simp [h1]
    · rw [List.drop_zero] at h2
      simp [h2]
  refine call_out (F := af166) rfl rfl ?_
  simp [af166, af166b, h43, hcap]
  have := idxV_neg g L 0
  by_cases h : L.any g = true
  · have h0 := this.2.2 h
    simp [h, h0]
  · have h0 : ¬ 0 ≤ idxV g L 0 := fun q => h (this.2.1 q)
    have h' : L.any g = false := by simpa using h
    simp [h', h0]


theorem idxLoopN (L : List PPen) (hL : L.length ≤ 9223372036854775807) (f : FuncId) (cap : List V) (hcap : plainL cap = cap) (g : PPen → Bool) :
    ∀ (m i : Nat) (env : Env) (s : St), L.length - i = m → i ≤ L.length → env 0 = .sl .no (pnVs L) → env 1 = .fn (.func f) [] cap → env 7 = .int .i64 L.length → env 8 = .int .i64 i →
      (∀ x ∈ L, call G f (pnV x :: cap) s = some (.bool (g x), s)) →
      Out (evC G (.loop false af239l0) env s) (fun e env' s' => s' = s ∧ ((idxV g (L.drop i) i = -1 ∧ e = .exit 0) ∨ (idxV g (L.drop i) i ≠ -1 ∧ e = .ret ∧ env' 4 = .int .i64 (idxV g (L.drop i) i)))) := by
  intro m
  induction m with
  | zero =>
    intro i env s hm hi h0 h1 h7 h8 hc
    have : i = L.length := by omega
    subst this
    refine Out_loop G false _ _ af239l0.eq_1 _ _ _ ?_
    simp [h7, h8]
    refine Out_cond _ _ _ _ _ _ _ rfl (fun h => by simp at h) (fun _ => ?_)
    simp [idxV]
  | succ m ihm =>
    intro i env s hm hi h0 h1 h7 h8 hc
    have hlt : i < L.length := by omega
    have hd := List.drop_eq_getElem_cons hlt
    refine Out_loop G false _ _ af239l0.eq_1 _ _ _ ?_
    simp [h7, h8]
    refine Out_cond _ _ _ _ _ _ _ rfl (fun _ => ?_) (fun h => by simp at h; omega)
    simp [h0, h1, h8, pnVs_get, List.getElem?_eq_getElem hlt, hc L[i] (List.getElem_mem hlt)]
    refine Out_cond _ _ _ _ _ _ _ rfl (fun hg => ?_) (fun hg => ?_)
    · rw [hd, idxV, if_pos hg]
      simp
    · rw [hd, idxV, if_neg (by simp [hg])]
      have hw : IntKind.i64.wrap ((i : Int) + 1) = ((i + 1 : Nat) : Int) := by rw [wrap_in (by omega) (by omega)]; omega
      simp [h8, hw]
      exact ihm (i + 1) _ s (by omega) (by omega) (by simp [h0]) (by simp [h1]) (by simp [h7]) (by simp) hc

theorem containsN (L : List PPen) (hL : L.length ≤ 9223372036854775807) (f : FuncId) (cap : List V) (hcap : plainL cap = cap) (g : PPen → Bool) (s : St)
    (hc : ∀ x ∈ L, call G f (pnV x :: cap) s = some (.bool (g x), s)) : call G 169 [.sl .no (pnVs L), .fn (.func f) [] cap] s = some (.bool (L.any g), s) := by
  have h43 : call G 239 [.sl .no (pnVs L), .fn (.func f) [] cap] s = some (.int .i64 (idxV g L 0), s) := by
    refine call_out (F := af239) rfl rfl ?_
    simp [af239, af239b, pnVs_length]
    refine (idxLoopN L hL f cap hcap g L.length 0 _ s (by omega) (by omega) (by simp) (by simp) (by simp) (by simp) hc).mono ?_
    rintro e env s' ⟨rfl, ⟨h1, rfl⟩ | ⟨h1, rfl, h2⟩⟩
    · rw [List.drop_zero] at h1
      simp [h1]
    · rw [List.drop_zero] at h2
      simp [h2]
  refine call_out (F := af169) rfl rfl ?_
  simp [af169, af169b, h43, hcap]
  have := idxV_neg g L 0
  by_cases h : L.any g = true
  · have h0 := this.2.2 h
    simp [h, h0]
  · have h0 : ¬ 0 ≤ idxV g L 0 := fun q => h (this.2.1 q)
    have h' : L.any g = false := by simpa using h
    simp [h', h0]


theorem idxLoopG (L : List (List UInt8)) (hL : L.length ≤ 9223372036854775807) (f : FuncId) (cap : List V) (hcap : plainL cap = cap) (g : (List UInt8) → Bool) :
    ∀ (m i : Nat) (env : Env) (s : St), L.length - i = m → i ≤ L.length → env 0 = .sl .no (sgVs L) → env 1 = .fn (.func f) [] cap → env 7 = .int .i64 L.length → env 8 = .int .i64 i →
      (∀ x ∈ L, call G f (V.str x :: cap) s = some (.bool (g x), s)) →
      Out (evC G (.loop false af171l0) env s) (fun e env' s' => s' = s ∧ ((idxV g (L.drop i) i = -1 ∧ e = .exit 0) ∨ (idxV g (L.drop i) i ≠ -1 ∧ e = .ret ∧ env' 4 = .int .i64 (idxV g (L.drop i) i)))) := by
  intro m
  induction m with
  | zero =>
    intro i env s hm hi h0 h1 h7 h8 hc
    have : i = L.length := by omega
    subst this
    refine Out_loop G false _ _ af171l0.eq_1 _ _ _ ?_
    simp [h7, h8]
    refine Out_cond _ _ _ _ _ _ _ rfl (fun h => by simp at h) (fun _ => ?_)
    simp [idxV]
  | succ m ihm =>
    intro i env s hm hi h0 h1 h7 h8 hc
    have hlt : i < L.length := by omega
    have hd := List.drop_eq_getElem_cons hlt
    refine Out_loop G false _ _ af171l0.eq_1 _ _ _ ?_
    simp [h7, h8]
    refine Out_cond _ _ _ _ _ _ _ rfl (fun _ => ?_) (fun h => by simp at h; omega)
    simp [h0, h1, h8, sgVs_get, List.getElem?_eq_getElem hlt, hc L[i] (List.getElem_mem hlt)]
    refine Out_cond _ _ _ _ _ _ _ rfl (fun hg => ?_) (fun hg => ?_)
    · rw [hd, idxV, if_pos hg]
      simp
    · rw [hd, idxV, if_neg (by simp [hg])]
      have hw : IntKind.i64.wrap ((i : Int) + 1) = ((i + 1 : Nat) : Int) := by rw [wrap_in (by omega) (by omega)]; omega
      simp [h8, hw]
      exact ihm (i + 1) _ s (by omega) (by omega) (by simp [h0]) (by simp [h1]) (by simp [h7]) (by simp) hc

theorem containsG (L : List (List UInt8)) (hL : L.length ≤ 9223372036854775807) (f : FuncId) (cap : List V) (hcap : plainL cap = cap) (g : (List UInt8) → Bool) (s : St)
    (hc : ∀ x ∈ L, call G f (V.str x :: cap) s = some (.bool (g x), s)) : call G 95 [.sl .no (sgVs L), .fn (.func f) [] cap] s = some (.bool (L.any g), s) := by
  have h43 : call G 171 [.sl .no (sgVs L), .fn (.func f) [] cap] s = some (.int .i64 (idxV g L 0), s) := by
    refine call_out (F := af171) rfl rfl ?_
    simp [af171, af171b, sgVs_length]
    refine (idxLoopG L hL f cap hcap g L.length 0 _ s (by omega) (by omega) (by simp) (by simp) (by simp) (by simp) hc).mono ?_
    rintro e env s' ⟨rfl, ⟨h1, rfl⟩ | ⟨h1, rfl, h2⟩⟩
    · rw [List.drop_zero] at h1
      simp [h1]
    · rw [List.drop_zero] at h2
      simp [h2]
  refine call_out (F := af95) rfl rfl ?_
  simp [af95, af95b, h43, hcap]
  have := idxV_neg g L 0
  by_cases h : L.any g = true
  · have h0 := this.2.2 h
    simp [h, h0]
  · have h0 : ¬ 0 ≤ idxV g L 0 := fun q => h (this.2.1 q)
    have h' : L.any g = false := by simpa using h
    simp [h', h0]



end Go.Proofs.YtboejpobmpfifaaGreatDoor.Eng

namespace Go.Proofs.YtboejpobmpfifaaGreatDoor.Eng
open Go
set_option linter.unusedSimpArgs false
set_option linter.unusedVariables false

attribute [local simp] evC_condT evC_condF evC_reg evC_regD evR_cons evR_nil runR_some regK_some evC_ret evC_skip evC_exit Out_seq Out_blk Out_some seqQ_norm seqQ_ret seqQ_exit blkQ_norm blkQ_ret blkQ_exit loopQ_norm loopQ_ret loopQ_exit
attribute [local simp] stepR evOp put upd_apply X.ev initEnv cells_agg cells_int cells_str cells_bool cells_sl cells_ptr cells_pnil cells_fn cells_map vc_length vc_take vc_plain vc_und toVs_plain toPs_plain toVs_und toPs_und takeN evBin isSh intBin strBin callK resOf packR fin V.plain plainL V.und undL scK kill dstsO dstsL dstsR ite_some ite_pair ite_vbool evUn evLoad evLen V.real finLoop_false quietK_false quietK_same kill_none
attribute [local simp] pSs_plain pSs_und erVs_plain erVs_und pnVs_plain pnVs_und
attribute [local simp] sgVs_plain sgVs_und
def PErr.okB (e : PErr) : Bool := decide (1 ≤ e.e) && decide (e.e ≤ 65535) && pathR e.path
def PPen.okB (x : PPen) : Bool := decide (0 ≤ x.id ∧ x.id ≤ 9007199254740991) && pathR x.path && rightV x.label && (decide (x.label = []) || x.named)

theorem part1_spec (x : PErr) (hx : x.lim) (s : St) : call G 167 [erV x] s = some (.bool (!x.okB), s) := by
  have hp := fun s => pathRight_spec x.path hx.1 hx.2 s
  obtain ⟨pa, e⟩ := x
  simp only at hp
  refine call_out (F := af167) rfl rfl ?_
  by_cases e1 : e < 1
  · have e1' : ¬ 1 ≤ e := by omega
    simp [af167, af167b, erV, PErr.okB, e1, e1']
  · have e1' : 1 ≤ e := by omega
    by_cases e2 : 65535 < e
    · have e2' : ¬ e ≤ 65535 := by omega
      simp [af167, af167b, erV, PErr.okB, e1, e1', e2, e2']
    · have e2' : e ≤ 65535 := by omega
      simp [af167, af167b, erV, PErr.okB, e1, e1', e2, e2', hp]

theorem part2_spec (x : PPen) (hx : x.lim) (s : St) : call G 170 [pnV x] s = some (.bool (!x.okB), s) := by
  have hp := fun s => pathRight_spec x.path hx.2.1 hx.2.2.1 s
  have ht := fun s => textRight_spec' x.label hx.2.2.2 s
  have hn := fun s => number_spec' x.id s
  obtain ⟨i, pa, la, na⟩ := x
  simp only at hp ht hn
  refine call_out (F := af170) rfl rfl ?_
  unfold PPen.okB
  simp only
  generalize decide (0 ≤ i ∧ i ≤ 9007199254740991) = b1 at *
  generalize pathR pa = b2 at *
  generalize rightV la = b3 at *
  by_cases e : la = []
  · subst e
    cases b1 <;> cases b2 <;> cases b3 <;> simp [af170, af170b, pnV, hp, ht, hn]
  · cases b1 <;> cases b2 <;> cases b3 <;> cases na <;> simp [af170, af170b, pnV, hp, ht, hn, e]

theorem ordr_spec (x : List UInt8) (hx : x.length ≤ 9223372036854775807) (s : St) : call G 96 [V.str x] s = some (.bool (!rightV x), s) := by
  have ht := fun s => textRight_spec' x hx s
  refine call_out (F := af96) rfl rfl ?_
  simp [af96, af96b, ht]

def partsB (p : Pay) : Bool := p.errs.all PErr.okB && p.pend.all PPen.okB
theorem parts_spec (p : Pay) (hp : p.lim) (s : St) : call G 93 [payV p] s = some (.bool (partsB p), s) := by
  obtain ⟨fi, ⟨k, nn, b, l, f⟩, er, pe, rc, id, st, od, en, fa, mo⟩ := p
  obtain ⟨h1, h2, _, _, _⟩ := hp
  simp only at h1 h2
  have hE := fun s => containsE er (by omega) 167 [] rfl (fun x => !x.okB) s (fun x h => part1_spec x (h1.2 x h) s)
  have hN := fun s => containsN pe (by omega) 170 [] rfl (fun x => !x.okB) s (fun x h => part2_spec x (h2.2 x h) s)
  have e1 : (er.any fun x => !x.okB) = !er.all PErr.okB := by rw [List.all_eq_not_any_not, Bool.not_not]
  have e2 : (pe.any fun x => !x.okB) = !pe.all PPen.okB := by rw [List.all_eq_not_any_not, Bool.not_not]
  rw [e1] at hE
  rw [e2] at hN
  refine call_out (F := af93) rfl rfl ?_
  simp only [partsB]
  generalize er.all PErr.okB = b1 at *
  generalize pe.all PPen.okB = b2 at *
  cases b1 <;> cases b2 <;> simp [af93, af93b, payC, vc, hE, hN]

/-- Does what a payload has go together? -/
def shapeB (p : Pay) : Bool :=
  if p.first = true then decide (p.id = 0) && !p.rcd && !p.stream && decide (p.order = []) && !p.ended && !p.failed
  else if p.rcd = true then !p.failed && (p.stream && decide (p.order = []) || !p.stream && decide (p.data.kind = 5))
  else p.ended && p.failed && !p.stream && decide (p.order = []) && decide (p.pend = []) && (decide (p.data.kind = 0) && treeV p.data 12)
theorem shape_first (d : JV) (hd : d.ok) (er : List PErr) (pe : List PPen) (rc : Bool) (id : Int) (st : Bool) (od : List (List UInt8)) (en fa mo : Bool) (s : St) : call G 94 [payV ⟨true, d, er, pe, rc, id, st, od, en, fa, mo⟩] s = some (.bool (shapeB ⟨true, d, er, pe, rc, id, st, od, en, fa, mo⟩), s) := by
  have htr := fun s => treeRight_spec d hd s
  obtain ⟨k, nn, b, l, f⟩ := d
  simp only [toV, vc] at htr
  refine call_out (F := af94) rfl rfl ?_
  unfold shapeB
  simp only [JV.kind]
  by_cases hk : k = 0
  · subst hk
    generalize treeV (.mk 0 nn b l f) 12 = b0 at *
    by_cases e1 : id = 0
    · cases rc with
      | true =>
        simp [af94, af94b, payC, vc, sgVs_length, pnVs_length, shapeB, JV.kind, htr, e1]
      | false =>
        cases st with
        | true =>
          simp [af94, af94b, payC, vc, sgVs_length, pnVs_length, shapeB, JV.kind, htr, e1]
        | false =>
          by_cases e2 : od = []
          · cases en with
            | true =>
              simp [af94, af94b, payC, vc, sgVs_length, pnVs_length, shapeB, JV.kind, htr, e1, e2]
            | false =>
              cases fa with
              | true =>
                simp [af94, af94b, payC, vc, sgVs_length, pnVs_length, shapeB, JV.kind, htr, e1, e2]
              | false =>
                simp [af94, af94b, payC, vc, sgVs_length, pnVs_length, shapeB, JV.kind, htr, e1, e2]
          · simp [af94, af94b, payC, vc, sgVs_length, pnVs_length, shapeB, JV.kind, htr, e1, e2]
    · simp [af94, af94b, payC, vc, sgVs_length, pnVs_length, shapeB, JV.kind, htr, e1]
  · by_cases e1 : id = 0
    · cases rc with
      | true =>
        simp [af94, af94b, payC, vc, sgVs_length, pnVs_length, shapeB, JV.kind, hk, e1]
      | false =>
        cases st with
        | true =>
          simp [af94, af94b, payC, vc, sgVs_length, pnVs_length, shapeB, JV.kind, hk, e1]
        | false =>
          by_cases e2 : od = []
          · cases en with
            | true =>
              simp [af94, af94b, payC, vc, sgVs_length, pnVs_length, shapeB, JV.kind, hk, e1, e2]
            | false =>
              cases fa with
              | true =>
                simp [af94, af94b, payC, vc, sgVs_length, pnVs_length, shapeB, JV.kind, hk, e1, e2]
              | false =>
                simp [af94, af94b, payC, vc, sgVs_length, pnVs_length, shapeB, JV.kind, hk, e1, e2]
          · simp [af94, af94b, payC, vc, sgVs_length, pnVs_length, shapeB, JV.kind, hk, e1, e2]
    · simp [af94, af94b, payC, vc, sgVs_length, pnVs_length, shapeB, JV.kind, hk, e1]

theorem shape_rec (d : JV) (hd : d.ok) (er : List PErr) (pe : List PPen) (_ : Bool) (id : Int) (st : Bool) (od : List (List UInt8)) (en fa mo : Bool) (s : St) : call G 94 [payV ⟨false, d, er, pe, true, id, st, od, en, fa, mo⟩] s = some (.bool (shapeB ⟨false, d, er, pe, true, id, st, od, en, fa, mo⟩), s) := by
  have htr := fun s => treeRight_spec d hd s
  obtain ⟨k, nn, b, l, f⟩ := d
  simp only [toV, vc] at htr
  refine call_out (F := af94) rfl rfl ?_
  unfold shapeB
  simp only [JV.kind]
  by_cases hk : k = 0
  · subst hk
    generalize treeV (.mk 0 nn b l f) 12 = b0 at *
    cases fa with
    | true => simp [af94, af94b, payC, vc, sgVs_length, pnVs_length, shapeB, JV.kind, htr]
    | false =>
      cases st with
      | true => by_cases e2 : od = [] <;> simp [af94, af94b, payC, vc, sgVs_length, pnVs_length, shapeB, JV.kind, htr, e2]
      | false => simp [af94, af94b, payC, vc, sgVs_length, pnVs_length, shapeB, JV.kind, htr]
  · cases fa with
    | true => simp [af94, af94b, payC, vc, sgVs_length, pnVs_length, shapeB, JV.kind, hk]
    | false =>
      cases st with
      | true => by_cases e2 : od = [] <;> simp [af94, af94b, payC, vc, sgVs_length, pnVs_length, shapeB, JV.kind, hk, e2]
      | false => by_cases e5 : k = 5 <;> simp [af94, af94b, payC, vc, sgVs_length, pnVs_length, shapeB, JV.kind, hk, e5]

theorem shape_end (d : JV) (hd : d.ok) (er : List PErr) (pe : List PPen) (_ : Bool) (id : Int) (st : Bool) (od : List (List UInt8)) (en fa mo : Bool) (s : St) : call G 94 [payV ⟨false, d, er, pe, false, id, st, od, en, fa, mo⟩] s = some (.bool (shapeB ⟨false, d, er, pe, false, id, st, od, en, fa, mo⟩), s) := by
  have htr := fun s => treeRight_spec d hd s
  obtain ⟨k, nn, b, l, f⟩ := d
  simp only [toV, vc] at htr
  refine call_out (F := af94) rfl rfl ?_
  unfold shapeB
  simp only [JV.kind]
  by_cases hk : k = 0
  · subst hk
    generalize treeV (.mk 0 nn b l f) 12 = b0 at *
    cases en with
    | true =>
      cases fa with
      | true =>
        cases st with
        | true =>
          simp [af94, af94b, payC, vc, sgVs_length, pnVs_length, shapeB, JV.kind, htr]
        | false =>
          by_cases e2 : od = []
          · by_cases e1 : pe = []
            · simp [af94, af94b, payC, vc, sgVs_length, pnVs_length, shapeB, JV.kind, htr, e2, e1]
            · simp [af94, af94b, payC, vc, sgVs_length, pnVs_length, shapeB, JV.kind, htr, e2, e1]
          · simp [af94, af94b, payC, vc, sgVs_length, pnVs_length, shapeB, JV.kind, htr, e2]
      | false =>
        simp [af94, af94b, payC, vc, sgVs_length, pnVs_length, shapeB, JV.kind, htr]
    | false =>
      simp [af94, af94b, payC, vc, sgVs_length, pnVs_length, shapeB, JV.kind, htr]
  · cases en with
    | true =>
      cases fa with
      | true =>
        cases st with
        | true =>
          simp [af94, af94b, payC, vc, sgVs_length, pnVs_length, shapeB, JV.kind, hk]
        | false =>
          by_cases e2 : od = []
          · by_cases e1 : pe = []
            · simp [af94, af94b, payC, vc, sgVs_length, pnVs_length, shapeB, JV.kind, hk, e2, e1]
            · simp [af94, af94b, payC, vc, sgVs_length, pnVs_length, shapeB, JV.kind, hk, e2, e1]
          · simp [af94, af94b, payC, vc, sgVs_length, pnVs_length, shapeB, JV.kind, hk, e2]
      | false =>
        simp [af94, af94b, payC, vc, sgVs_length, pnVs_length, shapeB, JV.kind, hk]
    | false =>
      simp [af94, af94b, payC, vc, sgVs_length, pnVs_length, shapeB, JV.kind, hk]

theorem shape_spec (p : Pay) (hp : p.lim) (s : St) : call G 94 [payV p] s = some (.bool (shapeB p), s) := by
  have hd := hp.data.1
  obtain ⟨fi, d, er, pe, rc, id, st, od, en, fa, mo⟩ := p
  cases fi with
  | true => exact shape_first d hd er pe rc id st od en fa mo s
  | false => cases rc with
    | true => exact shape_rec d hd er pe true id st od en fa mo s
    | false => exact shape_end d hd er pe false id st od en fa mo s

theorem dig0_len : ∀ (m u : Nat), u < 10 ^ m → (dig0 u).length ≤ m := by
  intro m
  induction m with
  | zero =>
    intro u hu
    have : u = 0 := by omega
    subst this
    simp [dig0]
  | succ m ih =>
    intro u hu
    by_cases hu0 : u = 0
    · subst hu0; simp [dig0]
    · rw [dig0_step hu0, List.length_append]
      have := ih (u / 10) (by rw [Nat.pow_succ] at hu; omega)
      simp; omega
theorem itoa_len (n : Int) (h0 : -9223372036854775808 ≤ n) (h1 : n ≤ 9223372036854775807) : (Lib.itoa n).length ≤ 21 := by
  by_cases hz : n = 0
  · subst hz
    have : Lib.itoa 0 = [48] := by unfold Lib.itoa; rw [if_neg (by omega), Lib.decDigits]; rfl
    rw [this]; simp
  · have := dig0_len 20 n.natAbs (by omega)
    rw [itoa_dig n hz]
    split
    · simp; omega
    · omega

/-! ### Numbers and lengths of what is told -/
def JV.fine (v : JV) : Prop := v.ok ∧ v.lim
theorem okVs_of : ∀ {l : List JV}, (∀ v ∈ l, v.fine) → okVs l ∧ limVs l
  | [], _ => ⟨trivial, trivial⟩
  | v :: l, h => ⟨⟨(h v (by simp)).1, (okVs_of fun w hw => h w (by simp [hw])).1⟩, ⟨(h v (by simp)).2, (okVs_of fun w hw => h w (by simp [hw])).2⟩⟩
theorem objOf_of : ∀ {L : List KV}, (∀ x ∈ L, x.key.length ≤ 100 ∧ x.v.fine) → okPs (objOf L) ∧ limPs (objOf L) ∧ (objOf L).length ≤ L.length
  | [], _ => ⟨trivial, trivial, Nat.le_refl _⟩
  | x :: L, h => by
    obtain ⟨i1, i2, i3⟩ := objOf_of (L := L) fun y hy => h y (by simp [hy])
    obtain ⟨h1, h2⟩ := h x (by simp)
    unfold objOf
    split
    · exact ⟨⟨by simp only; omega, h2.1, i1⟩, ⟨h2.2, i2⟩, by simp; omega⟩
    · exact ⟨i1, i2, by simp; omega⟩
theorem fine_obj {L : List KV} (hl : L.length ≤ 100) (h : ∀ x ∈ L, x.key.length ≤ 100 ∧ x.v.fine) : (JV.mk 5 0 [] [] (objOf L)).fine := by
  obtain ⟨i1, i2, i3⟩ := objOf_of h
  exact ⟨⟨⟨by omega, by omega⟩, ⟨by omega, by omega⟩, by simp, by simp, by omega, trivial, i1⟩, ⟨by simp, by omega, trivial, i2⟩⟩
theorem fine_lst {l : List JV} (hl : l.length ≤ 1000000000) (h : ∀ v ∈ l, v.fine) : (lstJ l).fine := by
  obtain ⟨i1, i2⟩ := okVs_of h
  exact ⟨⟨⟨by omega, by omega⟩, ⟨by omega, by omega⟩, by simp, by omega, by simp, i1, trivial⟩, ⟨hl, by simp, i2, trivial⟩⟩
theorem fine_str {b : List UInt8} (hb : b.length ≤ 9223372036854775807) : (strJ b).fine :=
  ⟨⟨⟨by omega, by omega⟩, ⟨by omega, by omega⟩, hb, by simp, by simp, trivial, trivial⟩, ⟨by simp, by simp, trivial, trivial⟩⟩
theorem fine_num {n : Int} (h0 : -9223372036854775808 ≤ n) (h1 : n ≤ 9223372036854775807) : (JV.mk 2 n [] [] []).fine :=
  ⟨⟨⟨by omega, by omega⟩, ⟨h0, h1⟩, by simp, by simp, by simp, trivial, trivial⟩, ⟨by simp, by simp, trivial, trivial⟩⟩
theorem fine_flag (b : Bool) : (flagJ b).fine := by
  cases b
  · exact ⟨⟨⟨by omega, by omega⟩, ⟨by simp, by simp⟩, by simp, by simp, by simp, trivial, trivial⟩, ⟨by simp, by simp, trivial, trivial⟩⟩
  · exact ⟨⟨⟨by omega, by omega⟩, ⟨by simp, by simp⟩, by simp, by simp, by simp, trivial, trivial⟩, ⟨by simp, by simp, trivial, trivial⟩⟩
theorem fine_null : jNull.fine := ⟨jNull_ok, jNull_lim⟩
theorem fine_id {n : Int} (h0 : -9223372036854775808 ≤ n) (h1 : n ≤ 9223372036854775807) : (idJ n).fine := fine_str (by have := itoa_len n h0 h1; omega)
theorem fine_step {x : PStep} (h : x.lim) : (stepJ x).fine := by
  unfold stepJ
  split
  · exact fine_num h.2.1 h.2.2
  · exact fine_str h.1
theorem fine_path {p : List PStep} (hp : p.length ≤ 1000000000) (h : ∀ x ∈ p, x.lim) : (pathJ p).fine :=
  fine_lst (by simpa using hp) (fun v hv => by
    obtain ⟨x, hx, rfl⟩ := List.mem_map.1 hv
    exact fine_step (h x hx))
theorem fine_pathW {p : List PStep} (hp : p.length ≤ 1000000000) (h : ∀ x ∈ p, x.lim) : (pathW p).fine := by
  unfold pathW
  split
  · exact fine_path hp h
  · exact fine_null
/-- What an error has besides. -/
def PErr.num (e : PErr) : Prop := -9223372036854775808 ≤ e.e ∧ e.e ≤ 9223372036854775807
theorem fine_err {e : PErr} (h : e.lim) (hn : e.num) : (errJ e).fine :=
  fine_obj (L := [⟨kCode, .mk 2 e.e [] [] [], true⟩, ⟨kPath, pathW e.path, true⟩]) (by simp) (fun x hx => by
    simp only [List.mem_cons, List.not_mem_nil, or_false] at hx
    rcases hx with rfl | rfl
    · exact ⟨by simp [kCode], fine_num hn.1 hn.2⟩
    · exact ⟨by simp [kPath], fine_pathW h.1 h.2⟩)
theorem fine_pen {e : PPen} (h : e.lim) : (penJ e).fine := by
  have hE : penJ e = .mk 5 0 [] [] (objOf [⟨kId, idJ e.id, true⟩, ⟨kPath, pathW e.path, true⟩, ⟨kLabel, strJ e.label, e.named⟩]) := by
    cases h : e.named <;> simp [penJ, objOf, h]
  rw [hE]
  refine fine_obj (by simp) (fun x hx => ?_)
  simp only [List.mem_cons, List.not_mem_nil, or_false] at hx
  rcases hx with rfl | rfl | rfl
  · exact ⟨by simp [kId], fine_id h.1.1 h.1.2⟩
  · exact ⟨by simp [kPath], fine_pathW h.2.1 h.2.2.1⟩
  · exact ⟨by simp [kLabel], fine_str h.2.2.2⟩
theorem fine_errs {l : List PErr} (hl : l.length ≤ 1000000000 ∧ ∀ e ∈ l, e.lim) (hn : ∀ e ∈ l, e.num) : (errsJ l).fine :=
  fine_lst (by simpa using hl.1) (fun v hv => by
    obtain ⟨x, hx, rfl⟩ := List.mem_map.1 hv
    exact fine_err (hl.2 x hx) (hn x hx))
theorem fine_pay {p : Pay} (h : p.lim) (hn : ∀ e ∈ p.errs, e.num) : (payJ p).fine := by
  have hE := fine_errs h.errs hn
  have hP : (lstJ (p.pend.map penJ)).fine := fine_lst (by simpa using h.pend.1) (fun v hv => by
    obtain ⟨x, hx, rfl⟩ := List.mem_map.1 hv
    exact fine_pen (h.pend.2 x hx))
  have hO : (lstJ (p.order.map strJ)).fine := fine_lst (by simpa using h.order.1) (fun v hv => by
    obtain ⟨x, hx, rfl⟩ := List.mem_map.1 hv
    exact fine_str (h.order.2 x hx))
  have hI := fine_id h.id.1 h.id.2
  have hD : p.data.fine := ⟨h.data.1, h.data.2⟩
  have one : ∀ v : JV, v.fine → (lstJ [v]).fine := fun v hv => fine_lst (by simp) (fun w hw => by simp at hw; subst hw; exact hv)
  have hR : (recJ p).fine := fine_obj (by simp) (fun x hx => by
    simp only [List.mem_cons, List.not_mem_nil, or_false] at hx
    rcases hx with rfl | rfl | rfl | rfl | rfl
    · exact ⟨by simp [kId], hI⟩
    · exact ⟨by simp [kItems], one _ hD⟩
    · exact ⟨by simp [kData], hD⟩
    · exact ⟨by simp [kOrder], hO⟩
    · exact ⟨by simp [kErrors], hE⟩)
  have hZ : (endJ p).fine := fine_obj (by simp) (fun x hx => by
    simp only [List.mem_cons, List.not_mem_nil, or_false] at hx
    rcases hx with rfl | rfl
    · exact ⟨by simp [kId], hI⟩
    · exact ⟨by simp [kErrors], hE⟩)
  unfold payJ
  split
  · exact fine_obj (by simp) (fun x hx => by
      simp only [List.mem_cons, List.not_mem_nil, or_false] at hx
      rcases hx with rfl | rfl | rfl | rfl
      · exact ⟨by simp [kData], hD⟩
      · exact ⟨by simp [kErrors], hE⟩
      · exact ⟨by simp [kPending], hP⟩
      · exact ⟨by simp [kNext], fine_flag _⟩)
  · exact fine_obj (by simp) (fun x hx => by
      simp only [List.mem_cons, List.not_mem_nil, or_false] at hx
      rcases hx with rfl | rfl | rfl | rfl
      · exact ⟨by simp [kPending], hP⟩
      · exact ⟨by simp [kInc], one _ hR⟩
      · exact ⟨by simp [kComp], one _ hZ⟩
      · exact ⟨by simp [kNext], fine_flag _⟩)

def rightB (p : Pay) : Bool := decide (0 ≤ p.id ∧ p.id ≤ 9007199254740991) && treeV p.data 12 && partsB p && shapeB p && p.order.all rightV && treeV (payJ p) 12
theorem right_pay (p : Pay) (hp : p.lim) (hn : ∀ e ∈ p.errs, e.num) (s : St) : call G 25 [payV p] s = some (.bool (rightB p), s) := by
  have hfine := fine_pay hp hn
  have h1 := fun s => number_spec' p.id s
  have h2 := fun s => treeRight_spec p.data hp.data.1 s
  have h3 := fun s => parts_spec p hp s
  have h4 := fun s => shape_spec p hp s
  have h5 := fun s => containsG p.order (by have := hp.order.1; omega) 96 [] rfl (fun x => !rightV x) s (fun x h => ordr_spec x (hp.order.2 x h) s)
  have e1 : (p.order.any fun x => !rightV x) = !p.order.all rightV := by rw [List.all_eq_not_any_not, Bool.not_not]
  rw [e1] at h5
  have h6 := fun s => value_spec p hp s
  have h7 := fun s => treeRight_spec (payJ p) hfine.1 s
  unfold rightB
  refine call_out (F := af25) rfl rfl ?_
  generalize decide (0 ≤ p.id ∧ p.id ≤ 9007199254740991) = b1 at *
  generalize treeV p.data 12 = b2 at *
  generalize partsB p = b3 at *
  generalize shapeB p = b4 at *
  generalize p.order.all rightV = b5 at *
  generalize treeV (payJ p) 12 = b6 at *
  generalize payJ p = R at *
  clear hfine hn e1 hp
  obtain ⟨fi, ⟨k, nn, b, l, f⟩, er, pe, rc, id, st, od, en, fa, mo⟩ := p
  obtain ⟨k2, n2, b2', l2, f2⟩ := R
  simp only [payV, payC, toV, vc, List.cons_append, List.nil_append] at h1 h2 h3 h4 h5 h6 h7
  cases b1 with
  | false => simp [af25, af25b, payC, vc, h1]
  | true => cases b2 with
    | false => simp [af25, af25b, payC, vc, h1, h2]
    | true => cases b3 with
      | false => simp [af25, af25b, payC, vc, h1, h2, h3]
      | true => cases b4 with
        | false => simp [af25, af25b, payC, vc, h1, h2, h3, h4]
        | true => cases b5 with
          | false => simp [af25, af25b, payC, vc, h1, h2, h3, h4, h5]
          | true => simp [af25, af25b, payC, vc, h1, h2, h3, h4, h5, h6, h7]

theorem value_pay (p : Pay) (hp : p.lim) (hn : ∀ e ∈ p.errs, e.num) (s : St) : call G 24 [payV p] s = some (.tup [toV (if rightB p = true then payJ p else jNull), .int .i64 (if rightB p = true then 0 else 1)], s) := by
  have hfine := fine_pay hp hn
  have h1 := fun s => right_pay p hp hn s
  have h2 := fun s => value_spec p hp s
  have h3 := fun s => tClone_spec (payJ p) hfine.1 hfine.2 s
  refine call_out (F := af24) rfl rfl ?_
  cases hb : rightB p with
  | false =>
    rw [hb] at h1
    clear h2 h3 hfine hn hp hb
    obtain ⟨fi, ⟨k, nn, b, l, f⟩, er, pe, rc, id, st, od, en, fa, mo⟩ := p
    simp only [payV, payC, toV, vc, List.cons_append, List.nil_append] at h1
    simp [af24, af24b, payC, jNull, vc, toVs, toPs, h1, fillL, evStore, putL, V.one, List.getElem?_append, List.set_append]
  | true =>
    have ht : treeV (payJ p) 12 = true := by
      unfold rightB at hb
      simp only [Bool.and_eq_true] at hb
      exact hb.2
    rw [ht] at h3
    rw [hb] at h1
    simp only [if_true] at h3
    generalize payJ p = R at *
    clear hfine hn hp hb ht
    obtain ⟨fi, ⟨k, nn, b, l, f⟩, er, pe, rc, id, st, od, en, fa, mo⟩ := p
    obtain ⟨k2, n2, b2', l2, f2⟩ := R
    simp only [payV, payC, toV, vc, List.cons_append, List.nil_append] at h1 h2 h3
    simp [af24, af24b, payC, vc, h1, h2, h3, fillL, evStore, putL, V.one, List.getElem?_append, List.set_append]

/-! ### Texts of a length that is read as a number -/
mutual
def JV.sh : JV → Prop
  | .mk _ _ s l f => s.length ≤ 281474976710656 ∧ shVs l ∧ shPs f
def shVs : List JV → Prop
  | [] => True
  | v :: vs => v.sh ∧ shVs vs
def shPs : List (List UInt8 × JV) → Prop
  | [] => True
  | p :: ps => p.2.sh ∧ shPs ps
end
theorem shVs_mem {l : List JV} (h : shVs l) : ∀ v ∈ l, v.sh := by
  induction l with
  | nil => simp
  | cons x l ih => intro v hv; exact (List.mem_cons.1 hv).elim (fun e => e ▸ h.1) (fun hv => ih h.2 v hv)
theorem shPs_mem {l : List (List UInt8 × JV)} (h : shPs l) : ∀ p ∈ l, p.2.sh := by
  induction l with
  | nil => simp
  | cons x l ih => intro v hv; exact (List.mem_cons.1 hv).elim (fun e => e ▸ h.1) (fun hv => ih h.2 v hv)
theorem jNull_sh : jNull.sh := ⟨by simp, trivial, trivial⟩
theorem sh_s {v : JV} (h : v.sh) : v.s.length ≤ 281474976710656 := by obtain ⟨_, _, _, _, _⟩ := v; exact h.1
theorem sh_l {v : JV} (h : v.sh) : ∀ x ∈ v.l, x.sh := by obtain ⟨_, _, _, _, _⟩ := v; exact shVs_mem h.2.1
theorem atK_sh {v : JV} (h : v.sh) (k : List UInt8) : (atK v k).sh := by
  unfold atK
  cases e : getK v.f k with
  | none => exact jNull_sh
  | some x =>
    obtain ⟨p, hp, rfl⟩ := getK_mem e
    obtain ⟨_, _, _, _, f⟩ := v
    exact shPs_mem h.2.2 p hp
theorem oneJ_mem (v : JV) : oneJ v = jNull ∨ oneJ v ∈ v.l := by
  unfold oneJ
  cases h : v.l with
  | nil => exact .inl rfl
  | cons x l => exact .inr (by simp)
theorem oneJ_ok {v : JV} (h : v.ok) : (oneJ v).ok := by
  rcases oneJ_mem v with e | e
  · rw [e]; exact jNull_ok
  · obtain ⟨_, _, _, _, _⟩ := v
    exact okVs_mem h.2.2.2.2.2.1 _ e
theorem oneJ_lim {v : JV} (h : v.lim) : (oneJ v).lim := by
  rcases oneJ_mem v with e | e
  · rw [e]; exact jNull_lim
  · obtain ⟨_, _, _, _, _⟩ := v
    exact limVs_mem h.2.2.1 _ e
theorem oneJ_sh {v : JV} (h : v.sh) : (oneJ v).sh := by
  rcases oneJ_mem v with e | e
  · rw [e]; exact jNull_sh
  · exact sh_l h _ e

/-- A payload as its order grows, B the buffers ahead. -/
def RO (O J : List AObj) (B : List (Nat × Nat × TypeId)) (pc : V → List V) (acc : List (List UInt8)) : St := ⟨O ++ .cells 51 (pc (.sl (ownOf B acc) (sgVs acc))) :: J, B ++ exOf (16, 9) acc⟩
theorem RO_out (O J X : List AObj) (B : List (Nat × Nat × TypeId)) (pc : V → List V) (acc : List (List UInt8)) :
    ((RO O J B pc acc).obs ++ X)[O.length]? = some (.cells 51 (pc (.sl (ownOf B acc) (sgVs acc)))) := by simp [RO]
theorem RO_app (O J X : List AObj) (B : List (Nat × Nat × TypeId)) (pc : V → List V) (acc : List (List UInt8)) (v : List UInt8) (hr : acc.length ≤ 1000000000) (o : Own) :
    evApp false 1 (16, 9) (.sl (ownOf B acc) (sgVs acc)) (.sl o [.str v]) ⟨(RO O J B pc acc).obs ++ X, (RO O J B pc acc).bufs⟩ = some (.sl (.buf B.length) (sgVs acc ++ [.str v]), ⟨(RO O J B pc acc).obs ++ X, B ++ [(acc.length + 1, 16, 9)]⟩) := by
  have hroom : room = 140737488355328 := by decide
  exact app_own sgVs rfl sgVs_length 1 16 9 o (.str v) fitsGs (by simp) acc (by rw [hroom]; omega) _ B
theorem RO_set (O J X : List AObj) (B : List (Nat × Nat × TypeId)) (pc : V → List V) (acc : List (List UInt8)) (v : List UInt8) :
    (⟨((RO O J B pc acc).obs ++ X).set O.length (.cells 51 (pc (.sl (.buf B.length) (sgVs acc ++ [.str v])))), B ++ [(acc.length + 1, 16, 9)]⟩ : St) = RO O (J ++ X) B pc (acc ++ [v]) := by
  simp [RO, ownOf, exOf, sgVs_app]

theorem rdOrdLoop (O : List AObj) (B : List (Nat × Nat × TypeId)) (pc : V → List V) (hg : ∀ x, (pc x)[11]? = some x) (hs : ∀ x y, (pc x).set 11 y = pc y) (hl : ∀ x, (pc x).length = 15) (L : List JV) (hL : L.length ≤ 1000000000) :
    ∀ (m i : Nat) (env : Env) (J : List AObj) (acc : List (List UInt8)), L.length - i = m → i ≤ L.length → acc.length = i → env 3 = .ptr O.length 0 → env 98 = .sl .no (toVs L) → env 99 = .int .i64 L.length → env 100 = .int .i64 i →
      Out (evC G (.loop false af98l0) env (RO O J B pc acc)) (fun e env' s' => e = .exit 0 ∧ env' 2 = env 2 ∧ env' 3 = env 3 ∧ ∃ J', s' = RO O J' B pc (acc ++ (L.drop i).map JV.s)) := by
  intro m
  induction m with
  | zero =>
    intro i env J acc hm hi ha g3 g98 g99 g100
    have : i = L.length := by omega
    subst this
    refine Out_loop G false _ _ af98l0.eq_1 _ _ _ ?_
    simp [g99, g100]
    exact ⟨J, rfl⟩
  | succ m ihm =>
    intro i env J acc hm hi ha g3 g98 g99 g100
    have hlt : i < L.length := by omega
    have hdr := List.drop_eq_getElem_cons hlt
    have hwi : IntKind.i64.wrap ((i : Int) + 1) = ((i + 1 : Nat) : Int) := by rw [wrap_in (by omega) (by omega)]; omega
    have hget : (toVs L)[i]? = some (toV L[i]) := by rw [toVs_get, List.getElem?_eq_getElem hlt]; rfl
    have hout := fun X => RO_out O J X B pc acc
    have happ := fun X o => RO_app O J X B pc acc L[i].s (by omega) o
    have hset := fun X => RO_set O J X B pc acc L[i].s
    have hnx := fun env J => ihm (i + 1) env J (acc ++ [L[i].s]) (by omega) (by omega) (by simp [ha])
    rw [hdr, List.map_cons]
    have hge : ∀ x (h : 11 < (pc x).length), (pc x)[11] = x := fun x h => by
      have := hg x
      rw [List.getElem?_eq_getElem h] at this
      exact Option.some.inj this
    generalize L[i] = p at *
    obtain ⟨k, nn, b, l, f⟩ := p
    simp only [toV, vc, JV.s] at hget happ hset
    have hlt' : (i : Int) < L.length := by omega
    refine Out_loop G false _ _ af98l0.eq_1 _ _ _ ?_
    simp [g3, g98, g99, g100, hlt, hget, evStore, fillL, fillS, putL, V.one, List.getElem?_append_right, List.set_append_right, ↓hout, hg, hge, hs, hl, happ, hwi]
    rw [hset]
    refine Out.mono (hnx _ _ (by simp [g3]) (by simp [g98]) (by simp [g99]) (by simp)) ?_
    rintro e env' s' ⟨rfl, q1, q2, J', rfl⟩
    exact ⟨rfl, by simpa using q1, by simpa [g3] using q2, J', by simp [JV.s]⟩

theorem rdOrdLoop2 (O : List AObj) (c0 c1 : AObj) (J : List AObj) (B : List (Nat × Nat × TypeId)) (pc : V → List V) (hg : ∀ x, (pc x)[11]? = some x) (hs : ∀ x y, (pc x).set 11 y = pc y) (hl : ∀ x, (pc x).length = 15) (L : List JV) (hL : L.length ≤ 1000000000)
    (env : Env) (g3 : env 3 = .ptr (O.length + 2) 0) (g98 : env 98 = .sl .no (toVs L)) (g99 : env 99 = .int .i64 L.length) (g100 : env 100 = .int .i64 0) :
    Out (evC G (.loop false af98l0) env ⟨O ++ c0 :: c1 :: .cells 51 (pc (.sl .nil [])) :: J, B⟩) (fun e env' s' => e = .exit 0 ∧ env' 2 = env 2 ∧ env' 3 = env 3 ∧ ∃ J', s' = RO (O ++ [c0, c1]) J' B pc (L.map JV.s)) := by
  have e0 : (⟨O ++ c0 :: c1 :: .cells 51 (pc (.sl .nil [])) :: J, B⟩ : St) = RO (O ++ [c0, c1]) J B pc [] := by simp [RO, ownOf, exOf, sgVs]
  rw [e0]
  refine Out.mono (rdOrdLoop (O ++ [c0, c1]) B pc hg hs hl L hL L.length 0 env J [] (by omega) (by omega) rfl (by simp [g3]) g98 g99 g100) ?_
  rintro e env' s' ⟨rfl, q1, q2, J', rfl⟩
  exact ⟨rfl, q1, q2, J', by simp⟩
theorem RO2_get (O : List AObj) (c0 c1 : AObj) (J : List AObj) (B : List (Nat × Nat × TypeId)) (pc : V → List V) (acc : List (List UInt8)) :
    (RO (O ++ [c0, c1]) J B pc acc).obs[O.length + 2]? = some (.cells 51 (pc (.sl (ownOf B acc) (sgVs acc)))) := by simp [RO]
theorem RO2_res (O : List AObj) (c0 c1 : AObj) (J : List AObj) (B : List (Nat × Nat × TypeId)) (pc : V → List V) (acc : List (List UInt8)) :
    (RO (O ++ [c0, c1]) J B pc acc).obs[O.length + 1]? = some c1 := by simp [RO]
theorem RO2_set (O : List AObj) (c0 c1 : AObj) (J : List AObj) (B : List (Nat × Nat × TypeId)) (pc : V → List V) (acc : List (List UInt8)) (X : AObj) :
    ((RO (O ++ [c0, c1]) J B pc acc).obs.set (O.length + 1) X)[O.length + 1]? = some X := by simp [RO]
theorem RO2_take (O : List AObj) (c0 c1 : AObj) (J : List AObj) (B : List (Nat × Nat × TypeId)) (pc : V → List V) (acc : List (List UInt8)) (X : AObj) :
    ((RO (O ++ [c0, c1]) J B pc acc).obs.set (O.length + 1) X).take O.length = O := by simp [RO, List.set_append]
theorem RO2_bufs (O : List AObj) (J : List AObj) (B : List (Nat × Nat × TypeId)) (pc : V → List V) (acc : List (List UInt8)) :
    (RO O J B pc acc).bufs.take B.length = B := by simp [RO]

/-- The payload of a value, as far as it is one's. -/
def readP (v : JV) : Pay :=
  if (getK v.f kData).isSome = true then ⟨true, atK v kData, (atK v kErrors).l.map rdErr, (atK v kPending).l.map rdPen, false, 0, false, [], false, false, decide ((atK v kNext).n = 1)⟩
  else
    ⟨false, if (getK v.f kInc).isSome = true then (if (getK (oneJ (atK v kInc)).f kItems).isSome = true then oneJ (atK (oneJ (atK v kInc)) kItems) else atK (oneJ (atK v kInc)) kData) else jNull,
      if (getK v.f kInc).isSome = true then (atK (oneJ (atK v kInc)) kErrors).l.map rdErr else if (getK v.f kComp).isSome = true then (atK (oneJ (atK v kComp)) kErrors).l.map rdErr else [],
      (atK v kPending).l.map rdPen, (getK v.f kInc).isSome,
      if (getK v.f kInc).isSome = true then idOf (atK (oneJ (atK v kInc)) kId) else if (getK v.f kComp).isSome = true then idOf (atK (oneJ (atK v kComp)) kId) else 0,
      (getK v.f kInc).isSome && (getK (oneJ (atK v kInc)).f kItems).isSome,
      if (getK v.f kInc).isSome = true then (atK (oneJ (atK v kInc)) kOrder).l.map JV.s else [],
      (getK v.f kComp).isSome, (getK v.f kComp).isSome && (getK (oneJ (atK v kComp)).f kErrors).isSome, decide ((atK v kNext).n = 1)⟩

theorem sgVs_nil : sgVs [] = [] := rfl
theorem erVs_nil : erVs [] = [] := rfl
theorem pnVs_nil : pnVs [] = [] := rfl
theorem read_1 (v : JV) (hok : v.ok) (hlim : v.lim) (hsh : v.sh) (hT1 : (getK v.f kData).isSome = true) (s : St) : call G 98 [toV v] s = some (payV (readP v), s) := by
  have a1 := fun s => at_spec v hlim kPending s
  have a2 := fun s => readPending_spec (atK v kPending) (atK_ok hok _) (atK_lim hlim _) (fun x hx => sh_s (atK_sh (sh_l (atK_sh hsh kPending) x hx) kId)) s
  have a3 := fun s => at_spec v hlim kNext s
  have a4 := fun s => get_spec v hlim kData s
  have a5 := fun s => at_spec v hlim kErrors s
  have a6 := fun s => readErrs_spec (atK v kErrors) (atK_ok hok _) (atK_lim hlim _) s
  have a7 := fun s => get_spec v hlim kInc s
  have a8 := fun s => get_spec v hlim kComp s
  have okI := atK_ok hok kInc
  have liI := atK_lim hlim kInc
  have shI := atK_sh hsh kInc
  have okC := atK_ok hok kComp
  have liC := atK_lim hlim kComp
  have shC := atK_sh hsh kComp
  rw [show (getK v.f kData).getD jNull = atK v kData from rfl] at a4
  rw [show (getK v.f kInc).getD jNull = atK v kInc from rfl] at a7
  rw [show (getK v.f kComp).getD jNull = atK v kComp from rfl] at a8
  have y0 := fun s => one_spec (atK v kComp) liC s
  have x0 := fun s => one_spec (atK v kInc) liI s
  have okX := oneJ_ok okI
  have liX := oneJ_lim liI
  have shX := oneJ_sh shI
  have okY := oneJ_ok okC
  have liY := oneJ_lim liC
  have shY := oneJ_sh shC
  unfold readP
  generalize atK v kPending = wP at *
  generalize atK v kNext = wN at *
  generalize atK v kData = wD at *
  generalize atK v kErrors = wE at *
  generalize oneJ (atK v kInc) = x at *
  generalize oneJ (atK v kComp) = y at *
  generalize atK v kInc = wI at *
  generalize atK v kComp = wC at *
  generalize (getK v.f kData).isSome = T1 at *
  generalize (getK v.f kInc).isSome = T2 at *
  generalize (getK v.f kComp).isSome = T3 at *
  have y1 := fun s => get_spec y liY kErrors s
  rw [show (getK y.f kErrors).getD jNull = atK y kErrors from rfl] at y1
  have y2 := fun s => at_spec y liY kId s
  have y3 := fun s => readId_spec (atK y kId) (sh_s (atK_sh shY kId)) s
  have y4 := fun s => readErrs_spec (atK y kErrors) (atK_ok okY _) (atK_lim liY _) s
  have x1 := fun s => get_spec x liX kItems s
  rw [show (getK x.f kItems).getD jNull = atK x kItems from rfl] at x1
  have x2 := fun s => at_spec x liX kId s
  have x3 := fun s => readId_spec (atK x kId) (sh_s (atK_sh shX kId)) s
  have x4 := fun s => at_spec x liX kData s
  have x5 := fun s => at_spec x liX kErrors s
  have x6 := fun s => readErrs_spec (atK x kErrors) (atK_ok okX _) (atK_lim liX _) s
  have x7 := fun s => one_spec (atK x kItems) (atK_lim liX _) s
  have x8 := fun s => at_spec x liX kOrder s
  have hol : (atK x kOrder).l.length ≤ 1000000000 := by
    have := atK_lim liX kOrder
    generalize atK x kOrder = q at *
    obtain ⟨_, _, _, l, _⟩ := q
    exact this.1
  generalize idOf (atK y kId) = yi at *
  generalize idOf (atK x kId) = xi at *
  generalize atK y kErrors = yE at *
  generalize atK y kId = yI at *
  generalize (getK y.f kErrors).isSome = T4 at *
  generalize (getK x.f kItems).isSome = T5 at *
  generalize oneJ (atK x kItems) = xT1 at *
  generalize atK x kItems = xT at *
  generalize atK x kId = xI at *
  generalize atK x kData = xD at *
  generalize atK x kErrors = xE at *
  generalize atK x kOrder = xO at *
  clear hok hlim hsh okI liI shI okC liC shC okX liX shX okY liY shY
  obtain ⟨kv, nv, bv, lv, fv⟩ := v
  obtain ⟨kP, nP, bP, lP, fP⟩ := wP
  obtain ⟨kN, nN, bN, lN, fN⟩ := wN
  obtain ⟨kD, nD, bD, lD, fD⟩ := wD
  obtain ⟨kE, nE, bE, lE, fE⟩ := wE
  obtain ⟨kI, nI, bI, lI, fI⟩ := wI
  obtain ⟨kC, nC, bC, lC, fC⟩ := wC
  obtain ⟨kx, nx, bx, lx, fx⟩ := x
  obtain ⟨ky, ny, by_, ly, fy⟩ := y
  obtain ⟨kyE, nyE, byE, lyE, fyE⟩ := yE
  obtain ⟨kyI, nyI, byI, lyI, fyI⟩ := yI
  obtain ⟨kxT1, nxT1, bxT1, lxT1, fxT1⟩ := xT1
  obtain ⟨kxT, nxT, bxT, lxT, fxT⟩ := xT
  obtain ⟨kxI, nxI, bxI, lxI, fxI⟩ := xI
  obtain ⟨kxD, nxD, bxD, lxD, fxD⟩ := xD
  obtain ⟨kxE, nxE, bxE, lxE, fxE⟩ := xE
  obtain ⟨kxO, nxO, bxO, lxO, fxO⟩ := xO
  simp only [toV, vc, JV.l, JV.n, kPending, kNext, kData, kErrors, kInc, kComp, kId, kItems, kOrder] at a1 a2 a3 a4 a5 a6 a7 a8 y0 y1 y2 y3 y4 x0 x1 x2 x3 x4 x5 x6 x7 x8 hol ⊢
  refine call_out (F := af98) rfl rfl ?_
  subst hT1
  simp [af98, af98b, payC, vc, a1, a2, a3, a4, a5, a6, toVs, toPs, sgVs_nil, fillL, evStore, putL, V.one, List.getElem?_append, List.set_append, evC_regDA, regKA_some, aparts_nil, aparts_lt, tells_nil, tells_skip, apart] <;> rfl

theorem read_2 (v : JV) (hok : v.ok) (hlim : v.lim) (hsh : v.sh) (hT1 : (getK v.f kData).isSome = false) (hT2 : (getK v.f kInc).isSome = false) (hT3 : (getK v.f kComp).isSome = false) (s : St) : call G 98 [toV v] s = some (payV (readP v), s) := by
  have a1 := fun s => at_spec v hlim kPending s
  have a2 := fun s => readPending_spec (atK v kPending) (atK_ok hok _) (atK_lim hlim _) (fun x hx => sh_s (atK_sh (sh_l (atK_sh hsh kPending) x hx) kId)) s
  have a3 := fun s => at_spec v hlim kNext s
  have a4 := fun s => get_spec v hlim kData s
  have a5 := fun s => at_spec v hlim kErrors s
  have a6 := fun s => readErrs_spec (atK v kErrors) (atK_ok hok _) (atK_lim hlim _) s
  have a7 := fun s => get_spec v hlim kInc s
  have a8 := fun s => get_spec v hlim kComp s
  have okI := atK_ok hok kInc
  have liI := atK_lim hlim kInc
  have shI := atK_sh hsh kInc
  have okC := atK_ok hok kComp
  have liC := atK_lim hlim kComp
  have shC := atK_sh hsh kComp
  rw [show (getK v.f kData).getD jNull = atK v kData from rfl] at a4
  rw [show (getK v.f kInc).getD jNull = atK v kInc from rfl] at a7
  rw [show (getK v.f kComp).getD jNull = atK v kComp from rfl] at a8
  have y0 := fun s => one_spec (atK v kComp) liC s
  have x0 := fun s => one_spec (atK v kInc) liI s
  have okX := oneJ_ok okI
  have liX := oneJ_lim liI
  have shX := oneJ_sh shI
  have okY := oneJ_ok okC
  have liY := oneJ_lim liC
  have shY := oneJ_sh shC
  unfold readP
  generalize atK v kPending = wP at *
  generalize atK v kNext = wN at *
  generalize atK v kData = wD at *
  generalize atK v kErrors = wE at *
  generalize oneJ (atK v kInc) = x at *
  generalize oneJ (atK v kComp) = y at *
  generalize atK v kInc = wI at *
  generalize atK v kComp = wC at *
  generalize (getK v.f kData).isSome = T1 at *
  generalize (getK v.f kInc).isSome = T2 at *
  generalize (getK v.f kComp).isSome = T3 at *
  have y1 := fun s => get_spec y liY kErrors s
  rw [show (getK y.f kErrors).getD jNull = atK y kErrors from rfl] at y1
  have y2 := fun s => at_spec y liY kId s
  have y3 := fun s => readId_spec (atK y kId) (sh_s (atK_sh shY kId)) s
  have y4 := fun s => readErrs_spec (atK y kErrors) (atK_ok okY _) (atK_lim liY _) s
  have x1 := fun s => get_spec x liX kItems s
  rw [show (getK x.f kItems).getD jNull = atK x kItems from rfl] at x1
  have x2 := fun s => at_spec x liX kId s
  have x3 := fun s => readId_spec (atK x kId) (sh_s (atK_sh shX kId)) s
  have x4 := fun s => at_spec x liX kData s
  have x5 := fun s => at_spec x liX kErrors s
  have x6 := fun s => readErrs_spec (atK x kErrors) (atK_ok okX _) (atK_lim liX _) s
  have x7 := fun s => one_spec (atK x kItems) (atK_lim liX _) s
  have x8 := fun s => at_spec x liX kOrder s
  have hol : (atK x kOrder).l.length ≤ 1000000000 := by
    have := atK_lim liX kOrder
    generalize atK x kOrder = q at *
    obtain ⟨_, _, _, l, _⟩ := q
    exact this.1
  generalize idOf (atK y kId) = yi at *
  generalize idOf (atK x kId) = xi at *
  generalize atK y kErrors = yE at *
  generalize atK y kId = yI at *
  generalize (getK y.f kErrors).isSome = T4 at *
  generalize (getK x.f kItems).isSome = T5 at *
  generalize oneJ (atK x kItems) = xT1 at *
  generalize atK x kItems = xT at *
  generalize atK x kId = xI at *
  generalize atK x kData = xD at *
  generalize atK x kErrors = xE at *
  generalize atK x kOrder = xO at *
  clear hok hlim hsh okI liI shI okC liC shC okX liX shX okY liY shY
  obtain ⟨kv, nv, bv, lv, fv⟩ := v
  obtain ⟨kP, nP, bP, lP, fP⟩ := wP
  obtain ⟨kN, nN, bN, lN, fN⟩ := wN
  obtain ⟨kD, nD, bD, lD, fD⟩ := wD
  obtain ⟨kE, nE, bE, lE, fE⟩ := wE
  obtain ⟨kI, nI, bI, lI, fI⟩ := wI
  obtain ⟨kC, nC, bC, lC, fC⟩ := wC
  obtain ⟨kx, nx, bx, lx, fx⟩ := x
  obtain ⟨ky, ny, by_, ly, fy⟩ := y
  obtain ⟨kyE, nyE, byE, lyE, fyE⟩ := yE
  obtain ⟨kyI, nyI, byI, lyI, fyI⟩ := yI
  obtain ⟨kxT1, nxT1, bxT1, lxT1, fxT1⟩ := xT1
  obtain ⟨kxT, nxT, bxT, lxT, fxT⟩ := xT
  obtain ⟨kxI, nxI, bxI, lxI, fxI⟩ := xI
  obtain ⟨kxD, nxD, bxD, lxD, fxD⟩ := xD
  obtain ⟨kxE, nxE, bxE, lxE, fxE⟩ := xE
  obtain ⟨kxO, nxO, bxO, lxO, fxO⟩ := xO
  simp only [toV, vc, JV.l, JV.n, kPending, kNext, kData, kErrors, kInc, kComp, kId, kItems, kOrder] at a1 a2 a3 a4 a5 a6 a7 a8 y0 y1 y2 y3 y4 x0 x1 x2 x3 x4 x5 x6 x7 x8 hol ⊢
  refine call_out (F := af98) rfl rfl ?_
  subst hT1 hT2 hT3
  simp [af98, af98b, payC, vc, jNull, toVs, toPs, sgVs_nil, erVs_nil, fillL, evStore, putL, V.one, List.getElem?_append, List.set_append, a1, a2, a3, a4, a7, a8] <;> rfl

theorem read_3 (v : JV) (hok : v.ok) (hlim : v.lim) (hsh : v.sh) (hT1 : (getK v.f kData).isSome = false) (hT2 : (getK v.f kInc).isSome = false) (hT3 : (getK v.f kComp).isSome = true) (s : St) : call G 98 [toV v] s = some (payV (readP v), s) := by
  have a1 := fun s => at_spec v hlim kPending s
  have a2 := fun s => readPending_spec (atK v kPending) (atK_ok hok _) (atK_lim hlim _) (fun x hx => sh_s (atK_sh (sh_l (atK_sh hsh kPending) x hx) kId)) s
  have a3 := fun s => at_spec v hlim kNext s
  have a4 := fun s => get_spec v hlim kData s
  have a5 := fun s => at_spec v hlim kErrors s
  have a6 := fun s => readErrs_spec (atK v kErrors) (atK_ok hok _) (atK_lim hlim _) s
  have a7 := fun s => get_spec v hlim kInc s
  have a8 := fun s => get_spec v hlim kComp s
  have okI := atK_ok hok kInc
  have liI := atK_lim hlim kInc
  have shI := atK_sh hsh kInc
  have okC := atK_ok hok kComp
  have liC := atK_lim hlim kComp
  have shC := atK_sh hsh kComp
  rw [show (getK v.f kData).getD jNull = atK v kData from rfl] at a4
  rw [show (getK v.f kInc).getD jNull = atK v kInc from rfl] at a7
  rw [show (getK v.f kComp).getD jNull = atK v kComp from rfl] at a8
  have y0 := fun s => one_spec (atK v kComp) liC s
  have x0 := fun s => one_spec (atK v kInc) liI s
  have okX := oneJ_ok okI
  have liX := oneJ_lim liI
  have shX := oneJ_sh shI
  have okY := oneJ_ok okC
  have liY := oneJ_lim liC
  have shY := oneJ_sh shC
  unfold readP
  generalize atK v kPending = wP at *
  generalize atK v kNext = wN at *
  generalize atK v kData = wD at *
  generalize atK v kErrors = wE at *
  generalize oneJ (atK v kInc) = x at *
  generalize oneJ (atK v kComp) = y at *
  generalize atK v kInc = wI at *
  generalize atK v kComp = wC at *
  generalize (getK v.f kData).isSome = T1 at *
  generalize (getK v.f kInc).isSome = T2 at *
  generalize (getK v.f kComp).isSome = T3 at *
  have y1 := fun s => get_spec y liY kErrors s
  rw [show (getK y.f kErrors).getD jNull = atK y kErrors from rfl] at y1
  have y2 := fun s => at_spec y liY kId s
  have y3 := fun s => readId_spec (atK y kId) (sh_s (atK_sh shY kId)) s
  have y4 := fun s => readErrs_spec (atK y kErrors) (atK_ok okY _) (atK_lim liY _) s
  have x1 := fun s => get_spec x liX kItems s
  rw [show (getK x.f kItems).getD jNull = atK x kItems from rfl] at x1
  have x2 := fun s => at_spec x liX kId s
  have x3 := fun s => readId_spec (atK x kId) (sh_s (atK_sh shX kId)) s
  have x4 := fun s => at_spec x liX kData s
  have x5 := fun s => at_spec x liX kErrors s
  have x6 := fun s => readErrs_spec (atK x kErrors) (atK_ok okX _) (atK_lim liX _) s
  have x7 := fun s => one_spec (atK x kItems) (atK_lim liX _) s
  have x8 := fun s => at_spec x liX kOrder s
  have hol : (atK x kOrder).l.length ≤ 1000000000 := by
    have := atK_lim liX kOrder
    generalize atK x kOrder = q at *
    obtain ⟨_, _, _, l, _⟩ := q
    exact this.1
  generalize idOf (atK y kId) = yi at *
  generalize idOf (atK x kId) = xi at *
  generalize atK y kErrors = yE at *
  generalize atK y kId = yI at *
  generalize (getK y.f kErrors).isSome = T4 at *
  generalize (getK x.f kItems).isSome = T5 at *
  generalize oneJ (atK x kItems) = xT1 at *
  generalize atK x kItems = xT at *
  generalize atK x kId = xI at *
  generalize atK x kData = xD at *
  generalize atK x kErrors = xE at *
  generalize atK x kOrder = xO at *
  clear hok hlim hsh okI liI shI okC liC shC okX liX shX okY liY shY
  obtain ⟨kv, nv, bv, lv, fv⟩ := v
  obtain ⟨kP, nP, bP, lP, fP⟩ := wP
  obtain ⟨kN, nN, bN, lN, fN⟩ := wN
  obtain ⟨kD, nD, bD, lD, fD⟩ := wD
  obtain ⟨kE, nE, bE, lE, fE⟩ := wE
  obtain ⟨kI, nI, bI, lI, fI⟩ := wI
  obtain ⟨kC, nC, bC, lC, fC⟩ := wC
  obtain ⟨kx, nx, bx, lx, fx⟩ := x
  obtain ⟨ky, ny, by_, ly, fy⟩ := y
  obtain ⟨kyE, nyE, byE, lyE, fyE⟩ := yE
  obtain ⟨kyI, nyI, byI, lyI, fyI⟩ := yI
  obtain ⟨kxT1, nxT1, bxT1, lxT1, fxT1⟩ := xT1
  obtain ⟨kxT, nxT, bxT, lxT, fxT⟩ := xT
  obtain ⟨kxI, nxI, bxI, lxI, fxI⟩ := xI
  obtain ⟨kxD, nxD, bxD, lxD, fxD⟩ := xD
  obtain ⟨kxE, nxE, bxE, lxE, fxE⟩ := xE
  obtain ⟨kxO, nxO, bxO, lxO, fxO⟩ := xO
  simp only [toV, vc, JV.l, JV.n, kPending, kNext, kData, kErrors, kInc, kComp, kId, kItems, kOrder] at a1 a2 a3 a4 a5 a6 a7 a8 y0 y1 y2 y3 y4 x0 x1 x2 x3 x4 x5 x6 x7 x8 hol ⊢
  refine call_out (F := af98) rfl rfl ?_
  subst hT1 hT2 hT3
  simp [af98, af98b, payC, vc, jNull, toVs, toPs, sgVs_nil, erVs_nil, fillL, evStore, putL, V.one, List.getElem?_append, List.set_append, a1, a2, a3, a4, a7, a8, y0, y1, y2, y3, y4] <;> rfl

theorem read_4 (v : JV) (hok : v.ok) (hlim : v.lim) (hsh : v.sh) (hT1 : (getK v.f kData).isSome = false) (hT2 : (getK v.f kInc).isSome = true) (hT3 : (getK v.f kComp).isSome = false) (s : St) : call G 98 [toV v] s = some (payV (readP v), s) := by
  have a1 := fun s => at_spec v hlim kPending s
  have a2 := fun s => readPending_spec (atK v kPending) (atK_ok hok _) (atK_lim hlim _) (fun x hx => sh_s (atK_sh (sh_l (atK_sh hsh kPending) x hx) kId)) s
  have a3 := fun s => at_spec v hlim kNext s
  have a4 := fun s => get_spec v hlim kData s
  have a5 := fun s => at_spec v hlim kErrors s
  have a6 := fun s => readErrs_spec (atK v kErrors) (atK_ok hok _) (atK_lim hlim _) s
  have a7 := fun s => get_spec v hlim kInc s
  have a8 := fun s => get_spec v hlim kComp s
  have okI := atK_ok hok kInc
  have liI := atK_lim hlim kInc
  have shI := atK_sh hsh kInc
  have okC := atK_ok hok kComp
  have liC := atK_lim hlim kComp
  have shC := atK_sh hsh kComp
  rw [show (getK v.f kData).getD jNull = atK v kData from rfl] at a4
  rw [show (getK v.f kInc).getD jNull = atK v kInc from rfl] at a7
  rw [show (getK v.f kComp).getD jNull = atK v kComp from rfl] at a8
  have y0 := fun s => one_spec (atK v kComp) liC s
  have x0 := fun s => one_spec (atK v kInc) liI s
  have okX := oneJ_ok okI
  have liX := oneJ_lim liI
  have shX := oneJ_sh shI
  have okY := oneJ_ok okC
  have liY := oneJ_lim liC
  have shY := oneJ_sh shC
  unfold readP
  generalize atK v kPending = wP at *
  generalize atK v kNext = wN at *
  generalize atK v kData = wD at *
  generalize atK v kErrors = wE at *
  generalize oneJ (atK v kInc) = x at *
  generalize oneJ (atK v kComp) = y at *
  generalize atK v kInc = wI at *
  generalize atK v kComp = wC at *
  generalize (getK v.f kData).isSome = T1 at *
  generalize (getK v.f kInc).isSome = T2 at *
  generalize (getK v.f kComp).isSome = T3 at *
  have y1 := fun s => get_spec y liY kErrors s
  rw [show (getK y.f kErrors).getD jNull = atK y kErrors from rfl] at y1
  have y2 := fun s => at_spec y liY kId s
  have y3 := fun s => readId_spec (atK y kId) (sh_s (atK_sh shY kId)) s
  have y4 := fun s => readErrs_spec (atK y kErrors) (atK_ok okY _) (atK_lim liY _) s
  have x1 := fun s => get_spec x liX kItems s
  rw [show (getK x.f kItems).getD jNull = atK x kItems from rfl] at x1
  have x2 := fun s => at_spec x liX kId s
  have x3 := fun s => readId_spec (atK x kId) (sh_s (atK_sh shX kId)) s
  have x4 := fun s => at_spec x liX kData s
  have x5 := fun s => at_spec x liX kErrors s
  have x6 := fun s => readErrs_spec (atK x kErrors) (atK_ok okX _) (atK_lim liX _) s
  have x7 := fun s => one_spec (atK x kItems) (atK_lim liX _) s
  have x8 := fun s => at_spec x liX kOrder s
  have hol : (atK x kOrder).l.length ≤ 1000000000 := by
    have := atK_lim liX kOrder
    generalize atK x kOrder = q at *
    obtain ⟨_, _, _, l, _⟩ := q
    exact this.1
  generalize idOf (atK y kId) = yi at *
  generalize idOf (atK x kId) = xi at *
  generalize atK y kErrors = yE at *
  generalize atK y kId = yI at *
  generalize (getK y.f kErrors).isSome = T4 at *
  generalize (getK x.f kItems).isSome = T5 at *
  generalize oneJ (atK x kItems) = xT1 at *
  generalize atK x kItems = xT at *
  generalize atK x kId = xI at *
  generalize atK x kData = xD at *
  generalize atK x kErrors = xE at *
  generalize atK x kOrder = xO at *
  clear hok hlim hsh okI liI shI okC liC shC okX liX shX okY liY shY
  obtain ⟨kv, nv, bv, lv, fv⟩ := v
  obtain ⟨kP, nP, bP, lP, fP⟩ := wP
  obtain ⟨kN, nN, bN, lN, fN⟩ := wN
  obtain ⟨kD, nD, bD, lD, fD⟩ := wD
  obtain ⟨kE, nE, bE, lE, fE⟩ := wE
  obtain ⟨kI, nI, bI, lI, fI⟩ := wI
  obtain ⟨kC, nC, bC, lC, fC⟩ := wC
  obtain ⟨kx, nx, bx, lx, fx⟩ := x
  obtain ⟨ky, ny, by_, ly, fy⟩ := y
  obtain ⟨kyE, nyE, byE, lyE, fyE⟩ := yE
  obtain ⟨kyI, nyI, byI, lyI, fyI⟩ := yI
  obtain ⟨kxT1, nxT1, bxT1, lxT1, fxT1⟩ := xT1
  obtain ⟨kxT, nxT, bxT, lxT, fxT⟩ := xT
  obtain ⟨kxI, nxI, bxI, lxI, fxI⟩ := xI
  obtain ⟨kxD, nxD, bxD, lxD, fxD⟩ := xD
  obtain ⟨kxE, nxE, bxE, lxE, fxE⟩ := xE
  obtain ⟨kxO, nxO, bxO, lxO, fxO⟩ := xO
  simp only [toV, vc, JV.l, JV.n, kPending, kNext, kData, kErrors, kInc, kComp, kId, kItems, kOrder] at a1 a2 a3 a4 a5 a6 a7 a8 y0 y1 y2 y3 y4 x0 x1 x2 x3 x4 x5 x6 x7 x8 hol ⊢
  refine call_out (F := af98) rfl rfl ?_
  subst hT1 hT2 hT3
  cases T5 with
  | false =>
    simp [af98, af98b, payC, vc, jNull, toVs_length, a1, a2, a3, a4, a7, a8, y0, y1, y2, y3, y4, x0, x1, x2, x3, x4, x5, x6, x7, x8, fillL, evStore, putL, V.one, List.getElem?_append, List.set_append]
    refine Out.mono (rdOrdLoop2 s.obs _ _ _ s.bufs (fun x => [.bool false, .int .i64 kxD, .int .i64 nxD, .str bxD, .sl .no (toVs lxD), .sl .no (toPs fxD), .sl .no (erVs (lxE.map rdErr)), .sl .no (pnVs (lP.map rdPen)), .bool true, .int .i64 xi, .bool false, x, .bool false, .bool false, .bool (decide (nN = 1))]) (by simp) (by simp) (by simp) lxO hol _ (by simp) (by simp) (by simp [toVs_length]) (by simp)) ?_
    rintro e env s' ⟨rfl, q1, q2, J, rfl⟩
    simp at q1 q2
    simp [q1, q2, RO2_get, RO2_res, RO2_set, RO2_take, RO2_bufs, payC, vc, evStore, putL, V.one] <;> rfl
  | true =>
    simp [af98, af98b, payC, vc, jNull, toVs_length, a1, a2, a3, a4, a7, a8, y0, y1, y2, y3, y4, x0, x1, x2, x3, x4, x5, x6, x7, x8, fillL, evStore, putL, V.one, List.getElem?_append, List.set_append]
    refine Out.mono (rdOrdLoop2 s.obs _ _ _ s.bufs (fun x => [.bool false, .int .i64 kxT1, .int .i64 nxT1, .str bxT1, .sl .no (toVs lxT1), .sl .no (toPs fxT1), .sl .no (erVs (lxE.map rdErr)), .sl .no (pnVs (lP.map rdPen)), .bool true, .int .i64 xi, .bool true, x, .bool false, .bool false, .bool (decide (nN = 1))]) (by simp) (by simp) (by simp) lxO hol _ (by simp) (by simp) (by simp [toVs_length]) (by simp)) ?_
    rintro e env s' ⟨rfl, q1, q2, J, rfl⟩
    simp at q1 q2
    simp [q1, q2, RO2_get, RO2_res, RO2_set, RO2_take, RO2_bufs, payC, vc, evStore, putL, V.one] <;> rfl

theorem read_5 (v : JV) (hok : v.ok) (hlim : v.lim) (hsh : v.sh) (hT1 : (getK v.f kData).isSome = false) (hT2 : (getK v.f kInc).isSome = true) (hT3 : (getK v.f kComp).isSome = true) (s : St) : call G 98 [toV v] s = some (payV (readP v), s) := by
  have a1 := fun s => at_spec v hlim kPending s
  have a2 := fun s => readPending_spec (atK v kPending) (atK_ok hok _) (atK_lim hlim _) (fun x hx => sh_s (atK_sh (sh_l (atK_sh hsh kPending) x hx) kId)) s
  have a3 := fun s => at_spec v hlim kNext s
  have a4 := fun s => get_spec v hlim kData s
  have a5 := fun s => at_spec v hlim kErrors s
  have a6 := fun s => readErrs_spec (atK v kErrors) (atK_ok hok _) (atK_lim hlim _) s
  have a7 := fun s => get_spec v hlim kInc s
  have a8 := fun s => get_spec v hlim kComp s
  have okI := atK_ok hok kInc
  have liI := atK_lim hlim kInc
  have shI := atK_sh hsh kInc
  have okC := atK_ok hok kComp
  have liC := atK_lim hlim kComp
  have shC := atK_sh hsh kComp
  rw [show (getK v.f kData).getD jNull = atK v kData from rfl] at a4
  rw [show (getK v.f kInc).getD jNull = atK v kInc from rfl] at a7
  rw [show (getK v.f kComp).getD jNull = atK v kComp from rfl] at a8
  have y0 := fun s => one_spec (atK v kComp) liC s
  have x0 := fun s => one_spec (atK v kInc) liI s
  have okX := oneJ_ok okI
  have liX := oneJ_lim liI
  have shX := oneJ_sh shI
  have okY := oneJ_ok okC
  have liY := oneJ_lim liC
  have shY := oneJ_sh shC
  unfold readP
  generalize atK v kPending = wP at *
  generalize atK v kNext = wN at *
  generalize atK v kData = wD at *
  generalize atK v kErrors = wE at *
  generalize oneJ (atK v kInc) = x at *
  generalize oneJ (atK v kComp) = y at *
  generalize atK v kInc = wI at *
  generalize atK v kComp = wC at *
  generalize (getK v.f kData).isSome = T1 at *
  generalize (getK v.f kInc).isSome = T2 at *
  generalize (getK v.f kComp).isSome = T3 at *
  have y1 := fun s => get_spec y liY kErrors s
  rw [show (getK y.f kErrors).getD jNull = atK y kErrors from rfl] at y1
  have y2 := fun s => at_spec y liY kId s
  have y3 := fun s => readId_spec (atK y kId) (sh_s (atK_sh shY kId)) s
  have y4 := fun s => readErrs_spec (atK y kErrors) (atK_ok okY _) (atK_lim liY _) s
  have x1 := fun s => get_spec x liX kItems s
  rw [show (getK x.f kItems).getD jNull = atK x kItems from rfl] at x1
  have x2 := fun s => at_spec x liX kId s
  have x3 := fun s => readId_spec (atK x kId) (sh_s (atK_sh shX kId)) s
  have x4 := fun s => at_spec x liX kData s
  have x5 := fun s => at_spec x liX kErrors s
  have x6 := fun s => readErrs_spec (atK x kErrors) (atK_ok okX _) (atK_lim liX _) s
  have x7 := fun s => one_spec (atK x kItems) (atK_lim liX _) s
  have x8 := fun s => at_spec x liX kOrder s
  have hol : (atK x kOrder).l.length ≤ 1000000000 := by
    have := atK_lim liX kOrder
    generalize atK x kOrder = q at *
    obtain ⟨_, _, _, l, _⟩ := q
    exact this.1
  generalize idOf (atK y kId) = yi at *
  generalize idOf (atK x kId) = xi at *
  generalize atK y kErrors = yE at *
  generalize atK y kId = yI at *
  generalize (getK y.f kErrors).isSome = T4 at *
  generalize (getK x.f kItems).isSome = T5 at *
  generalize oneJ (atK x kItems) = xT1 at *
  generalize atK x kItems = xT at *
  generalize atK x kId = xI at *
  generalize atK x kData = xD at *
  generalize atK x kErrors = xE at *
  generalize atK x kOrder = xO at *
  clear hok hlim hsh okI liI shI okC liC shC okX liX shX okY liY shY
  obtain ⟨kv, nv, bv, lv, fv⟩ := v
  obtain ⟨kP, nP, bP, lP, fP⟩ := wP
  obtain ⟨kN, nN, bN, lN, fN⟩ := wN
  obtain ⟨kD, nD, bD, lD, fD⟩ := wD
  obtain ⟨kE, nE, bE, lE, fE⟩ := wE
  obtain ⟨kI, nI, bI, lI, fI⟩ := wI
  obtain ⟨kC, nC, bC, lC, fC⟩ := wC
  obtain ⟨kx, nx, bx, lx, fx⟩ := x
  obtain ⟨ky, ny, by_, ly, fy⟩ := y
  obtain ⟨kyE, nyE, byE, lyE, fyE⟩ := yE
  obtain ⟨kyI, nyI, byI, lyI, fyI⟩ := yI
  obtain ⟨kxT1, nxT1, bxT1, lxT1, fxT1⟩ := xT1
  obtain ⟨kxT, nxT, bxT, lxT, fxT⟩ := xT
  obtain ⟨kxI, nxI, bxI, lxI, fxI⟩ := xI
  obtain ⟨kxD, nxD, bxD, lxD, fxD⟩ := xD
  obtain ⟨kxE, nxE, bxE, lxE, fxE⟩ := xE
  obtain ⟨kxO, nxO, bxO, lxO, fxO⟩ := xO
  simp only [toV, vc, JV.l, JV.n, kPending, kNext, kData, kErrors, kInc, kComp, kId, kItems, kOrder] at a1 a2 a3 a4 a5 a6 a7 a8 y0 y1 y2 y3 y4 x0 x1 x2 x3 x4 x5 x6 x7 x8 hol ⊢
  refine call_out (F := af98) rfl rfl ?_
  subst hT1 hT2 hT3
  cases T5 with
  | false =>
    simp [af98, af98b, payC, vc, jNull, toVs_length, a1, a2, a3, a4, a7, a8, y0, y1, y2, y3, y4, x0, x1, x2, x3, x4, x5, x6, x7, x8, fillL, evStore, putL, V.one, List.getElem?_append, List.set_append]
    refine Out.mono (rdOrdLoop2 s.obs _ _ _ s.bufs (fun x => [.bool false, .int .i64 kxD, .int .i64 nxD, .str bxD, .sl .no (toVs lxD), .sl .no (toPs fxD), .sl .no (erVs (lxE.map rdErr)), .sl .no (pnVs (lP.map rdPen)), .bool true, .int .i64 xi, .bool false, x, .bool true, .bool T4, .bool (decide (nN = 1))]) (by simp) (by simp) (by simp) lxO hol _ (by simp) (by simp) (by simp [toVs_length]) (by simp)) ?_
    rintro e env s' ⟨rfl, q1, q2, J, rfl⟩
    simp at q1 q2
    simp [q1, q2, RO2_get, RO2_res, RO2_set, RO2_take, RO2_bufs, payC, vc, evStore, putL, V.one] <;> rfl
  | true =>
    simp [af98, af98b, payC, vc, jNull, toVs_length, a1, a2, a3, a4, a7, a8, y0, y1, y2, y3, y4, x0, x1, x2, x3, x4, x5, x6, x7, x8, fillL, evStore, putL, V.one, List.getElem?_append, List.set_append]
    refine Out.mono (rdOrdLoop2 s.obs _ _ _ s.bufs (fun x => [.bool false, .int .i64 kxT1, .int .i64 nxT1, .str bxT1, .sl .no (toVs lxT1), .sl .no (toPs fxT1), .sl .no (erVs (lxE.map rdErr)), .sl .no (pnVs (lP.map rdPen)), .bool true, .int .i64 xi, .bool true, x, .bool true, .bool T4, .bool (decide (nN = 1))]) (by simp) (by simp) (by simp) lxO hol _ (by simp) (by simp) (by simp [toVs_length]) (by simp)) ?_
    rintro e env s' ⟨rfl, q1, q2, J, rfl⟩
    simp at q1 q2
    simp [q1, q2, RO2_get, RO2_res, RO2_set, RO2_take, RO2_bufs, payC, vc, evStore, putL, V.one] <;> rfl


theorem read_spec (v : JV) (hok : v.ok) (hlim : v.lim) (hsh : v.sh) (s : St) : call G 98 [toV v] s = some (payV (readP v), s) := by
  cases h1 : (getK v.f kData).isSome with
  | true => exact read_1 v hok hlim hsh h1 s
  | false => cases h2 : (getK v.f kInc).isSome with
    | false => cases h3 : (getK v.f kComp).isSome with
      | false => exact read_2 v hok hlim hsh h1 h2 h3 s
      | true => exact read_3 v hok hlim hsh h1 h2 h3 s
    | true => cases h3 : (getK v.f kComp).isSome with
      | false => exact read_4 v hok hlim hsh h1 h2 h3 s
      | true => exact read_5 v hok hlim hsh h1 h2 h3 s

/-- What is read of a value is of such sizes. -/
theorem stepsOf_len : ∀ {l : List JV} {p : List PStep}, stepsOf l = some p → p.length = l.length
  | [], p, h => by simp only [stepsOf, Option.some.injEq] at h; subst h; rfl
  | x :: l, p, h => by
    simp only [stepsOf] at h
    cases e : stepOf x with
    | none => rw [e] at h; simp at h
    | some a =>
      rw [e] at h
      simp only [Option.bind_some] at h
      cases e2 : stepsOf l with
      | none => rw [e2] at h; simp at h
      | some b =>
        rw [e2] at h
        simp only [Option.map_some, Option.some.injEq] at h
        subst h
        simp [stepsOf_len e2]
theorem pathOf_lim {v : JV} (hok : v.ok) (hlim : v.lim) : (pathOf v).1.length ≤ 1000000000 ∧ ∀ x ∈ (pathOf v).1, x.lim := by
  unfold pathOf
  split
  · cases e : stepsOf v.l with
    | none => simp
    | some p =>
      simp only
      split
      · obtain ⟨_, _, _, l, _⟩ := v
        obtain ⟨h1, h2⟩ := stepsOf_lim l p hok.2.2.2.2.2.1 e
        have := hlim.1
        exact ⟨by simp only; omega, h2⟩
      · simp
  · simp
theorem atoi_in (v : JV) : -9223372036854775808 ≤ idOf v ∧ idOf v ≤ 9223372036854775807 := by
  unfold idOf
  split
  · rename_i n h
    exact Lib.atoiAll_bounds h
  · omega
theorem errs_lim {v : JV} (hok : v.ok) (hlim : v.lim) : ((v.l.map rdErr).length ≤ 1000000000 ∧ ∀ e ∈ v.l.map rdErr, e.lim) ∧ ∀ e ∈ v.l.map rdErr, e.num := by
  obtain ⟨_, _, _, l, _⟩ := v
  refine ⟨⟨by simp only [List.length_map]; exact hlim.1, ?_⟩, ?_⟩
  · intro e he
    obtain ⟨x, hx, rfl⟩ := List.mem_map.1 he
    exact pathOf_lim (atK_ok (okVs_mem hok.2.2.2.2.2.1 x hx) _) (atK_lim (limVs_mem hlim.2.2.1 x hx) _)
  · intro e he
    obtain ⟨x, hx, rfl⟩ := List.mem_map.1 he
    have := atK_ok (okVs_mem hok.2.2.2.2.2.1 x hx) kCode
    simp only [rdErr, PErr.num]
    generalize atK x kCode = q at *
    obtain ⟨_, _, _, _, _⟩ := q
    exact this.2.1
theorem pend_lim {v : JV} (hok : v.ok) (hlim : v.lim) : (v.l.map rdPen).length ≤ 1000000000 ∧ ∀ e ∈ v.l.map rdPen, e.lim := by
  obtain ⟨_, _, _, l, _⟩ := v
  refine ⟨by simp only [List.length_map]; exact hlim.1, ?_⟩
  intro e he
  obtain ⟨x, hx, rfl⟩ := List.mem_map.1 he
  have hp := pathOf_lim (atK_ok (okVs_mem hok.2.2.2.2.2.1 x hx) kPath) (atK_lim (limVs_mem hlim.2.2.1 x hx) kPath)
  refine ⟨atoi_in _, hp.1, hp.2, ?_⟩
  have := atK_ok (okVs_mem hok.2.2.2.2.2.1 x hx) kLabel
  simp only [rdPen]
  generalize atK x kLabel = q at *
  obtain ⟨_, _, _, _, _⟩ := q
  exact this.2.2.1
theorem jn_errs : (([] : List PErr).length ≤ 1000000000 ∧ ∀ e ∈ ([] : List PErr), e.lim) ∧ ∀ e ∈ ([] : List PErr), e.num := by simp
theorem readP_lim {v : JV} (hok : v.ok) (hlim : v.lim) : (readP v).lim ∧ ∀ e ∈ (readP v).errs, e.num := by
  have okX := oneJ_ok (atK_ok hok kInc)
  have liX := oneJ_lim (atK_lim hlim kInc)
  have okY := oneJ_ok (atK_ok hok kComp)
  have liY := oneJ_lim (atK_lim hlim kComp)
  have hP := pend_lim (atK_ok hok kPending) (atK_lim hlim kPending)
  have hO : ((atK (oneJ (atK v kInc)) kOrder).l.map JV.s).length ≤ 1000000000 ∧ ∀ x ∈ (atK (oneJ (atK v kInc)) kOrder).l.map JV.s, x.length ≤ 9223372036854775807 := by
    have h1 := atK_ok okX kOrder
    have h2 := atK_lim liX kOrder
    generalize atK (oneJ (atK v kInc)) kOrder = q at *
    obtain ⟨_, _, _, l, _⟩ := q
    refine ⟨by simp only [List.length_map]; exact h2.1, fun x hx => ?_⟩
    obtain ⟨y, hy, rfl⟩ := List.mem_map.1 hx
    have := okVs_mem h1.2.2.2.2.2.1 y hy
    obtain ⟨_, _, _, _, _⟩ := y
    exact this.2.2.1
  have nO : ([] : List (List UInt8)).length ≤ 1000000000 ∧ ∀ x ∈ ([] : List (List UInt8)), x.length ≤ 9223372036854775807 := by simp
  have i0 : -9223372036854775808 ≤ (0 : Int) ∧ (0 : Int) ≤ 9223372036854775807 := by omega
  unfold readP
  split
  · exact ⟨⟨(errs_lim (atK_ok hok _) (atK_lim hlim _)).1, hP, nO, ⟨atK_ok hok _, atK_lim hlim _⟩, i0⟩, (errs_lim (atK_ok hok _) (atK_lim hlim _)).2⟩
  · have hE : (∀ b c : Bool, (let l := if b = true then (atK (oneJ (atK v kInc)) kErrors).l.map rdErr else if c = true then (atK (oneJ (atK v kComp)) kErrors).l.map rdErr else []; (l.length ≤ 1000000000 ∧ ∀ e ∈ l, e.lim) ∧ ∀ e ∈ l, e.num)) := by
      intro b c
      cases b
      · cases c
        · exact jn_errs
        · exact errs_lim (atK_ok okY _) (atK_lim liY _)
      · exact errs_lim (atK_ok okX _) (atK_lim liX _)
    refine ⟨⟨(hE _ _).1, hP, ?_, ?_, ?_⟩, (hE _ _).2⟩
    · simp only
      split
      · exact hO
      · exact nO
    · simp only
      split
      · split
        · exact ⟨oneJ_ok (atK_ok okX _), oneJ_lim (atK_lim liX _)⟩
        · exact ⟨atK_ok okX _, atK_lim liX _⟩
      · exact ⟨jNull_ok, jNull_lim⟩
    · simp only
      split
      · exact atoi_in _
      · split
        · exact atoi_in _
        · exact i0

/-- The payload of a value; none's. -/
def zeroP : Pay := ⟨false, jNull, [], [], false, 0, false, [], false, false, false⟩
def ofB (v : JV) : Bool := treeV v 12 && rightB (readP v) && sameV v (payJ (readP v))
theorem of_spec (v : JV) (hok : v.ok) (hlim : v.lim) (hsh : v.sh) (s : St) : call G 27 [toV v] s = some (.tup [payV (if ofB v = true then readP v else zeroP), .int .i64 (if ofB v = true then 0 else 4)], s) := by
  obtain ⟨hl, hn⟩ := readP_lim hok hlim
  have h1 := fun s => treeRight_spec v hok s
  have h2 := fun s => read_spec v hok hlim hsh s
  have h3 := fun s => value_pay (readP v) hl hn s
  have hfine := fine_pay hl hn
  have h5 := fun s => tClone_spec (readP v).data hl.data.1 hl.data.2 s
  unfold ofB
  refine call_out (F := af27) rfl rfl ?_
  cases t1 : treeV v 12 with
  | false =>
    rw [t1] at h1
    clear h2 h3 h5 hl hn hfine
    obtain ⟨k, nn, b, l, f⟩ := v
    simp only [toV, vc] at h1
    simp [af27, af27b, zeroP, payC, jNull, vc, toVs, toPs, erVs_nil, pnVs_nil, sgVs_nil, h1, fillL, evStore, putL, V.one, List.getElem?_append, List.set_append]
  | true =>
    rw [t1] at h1
    cases t2 : rightB (readP v) with
    | false =>
      rw [t2] at h3
      clear hl hn hfine h5 t2 hok hlim hsh
      generalize readP v = p at *
      obtain ⟨k, nn, b, l, f⟩ := v
      obtain ⟨fi, ⟨k1, nn1, b1, l1, f1⟩, er, pe, rc, id, st, od, en, fa, mo⟩ := p
      simp only [payV, payC, toV, vc, jNull, Bool.false_eq_true, if_false, List.cons_append, List.nil_append] at h1 h2 h3
      simp [af27, af27b, zeroP, payC, jNull, vc, toVs, toPs, erVs_nil, pnVs_nil, sgVs_nil, h1, h2, h3, fillL, evStore, putL, V.one, List.getElem?_append, List.set_append]
    | true =>
      rw [t2] at h3
      simp only [if_true] at h3
      have h4 := fun s => tSame_spec v (payJ (readP v)) hok hfine.1 s
      have t3 : treeV (payJ (readP v)) 12 = true := by
        unfold rightB at t2
        simp only [Bool.and_eq_true] at t2
        exact t2.2
      have t4 : treeV (readP v).data 12 = true := by
        unfold rightB at t2
        simp only [Bool.and_eq_true] at t2
        exact t2.1.1.1.1.2
      rw [t1, t3, Bool.true_and, Bool.true_and] at h4
      rw [t4] at h5
      simp only [if_true] at h5
      clear hl hn hfine hok hlim hsh t2 t3 t4
      generalize sameV v (payJ (readP v)) = b0 at *
      generalize payJ (readP v) = R at *
      generalize readP v = p at *
      obtain ⟨k, nn, b, l, f⟩ := v
      obtain ⟨k2, nn2, b2, l2, f2⟩ := R
      obtain ⟨fi, ⟨k1, nn1, b1, l1, f1⟩, er, pe, rc, id, st, od, en, fa, mo⟩ := p
      simp only [payV, payC, toV, vc, List.cons_append, List.nil_append] at h1 h2 h3 h4 h5
      cases b0 with
      | false => simp [af27, af27b, zeroP, payC, jNull, vc, toVs, toPs, erVs_nil, pnVs_nil, sgVs_nil, h1, h2, h3, h4, fillL, evStore, putL, V.one, List.getElem?_append, List.set_append]
      | true => simp [af27, af27b, payC, vc, h1, h2, h3, h4, h5, fillL, evStore, putL, V.one, List.getElem?_append, List.set_append]

end Go.Proofs.YtboejpobmpfifaaGreatDoor.Eng
