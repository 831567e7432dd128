import PyProof.Rows.All
import Wide.All
import OpenK.AllK
import Wide.FinOn
import KE.KStateDown
import HandS.Base
import HandS.Call
import HandS.List
import HandS.Comp
import HandS.Ends
import HandS.Dict
import HandS.Iter
import HandS.Text
import HandS.More
import HandS.Exc
import HandS.TryOnly
import HandS.ExcOwn
import HandS.Words
import HandS.WordsList
import HandS.WordsExc
import HandS.Defaults
import HandS.IsInst
import HandS.Style
import HandS.Evl
import HandS.Head0
import HandS.Head1
import HandS.Head2
import HandS.HeadEnd
import HandS.HeadHook1
import HandS.HeadHook2
import PySem.Challenge.RW_rrdesk_k01_aged_and_told
set_option Elab.async false
set_option linter.all false
set_option maxRecDepth 100000
set_option maxHeartbeats 4000000
namespace Rr
open PySem PySem.Spec PyProof.Rows L2 Evl
def top (i : Nat) : Stmt := PySem.Challenge.pw_rrdesk_k01_aged_and_told.main.body.getD i (.Pass ⟨0, 0, 0, 0⟩)
abbrev s_aged : Stmt := top 2
abbrev s_limit : Stmt := top 3
abbrev s_L_whole : Stmt := top 5
abbrev s_L_cell_at : Stmt := top 6
abbrev s_law : Stmt := top 7
def dd_aged : He.DefD := ⟨("aged", none), "aged", "aged", defArgs s_aged, defBody s_aged, defScope s_aged, [], []⟩
def dd_limit : He.DefD := ⟨("limit", none), "limit", "limit", defArgs s_limit, defBody s_limit, defScope s_limit, [], []⟩
def dd_L_whole : He.DefD := ⟨("_law_whole", none), "_law_whole", "_law_whole", defArgs s_L_whole, defBody s_L_whole, defScope s_L_whole, [], []⟩
def dd_L_cell_at : He.DefD := ⟨("_law_cell_at", none), "_law_cell_at", "_law_cell_at", defArgs s_L_cell_at, defBody s_L_cell_at, defScope s_L_cell_at, [], []⟩
def dd_law : He.DefD := ⟨("law", none), "law", "law", defArgs s_law, defBody s_law, defScope s_law, [], []⟩
def fn : List He.DefD := [dd_aged, dd_limit, dd_L_whole, dd_L_cell_at, dd_law]
def fa0 : List He.Fa := [.glo "aged", .glo "limit", .glo "_law_whole", .glo "_law_cell_at", .glo "law", .int "TOP" 99, .free "len", .free "range", .free "int", .free "isinstance", .free "sum", .free "max", .free "bool"]
def fa : List He.Fa := fa0
structure Txt (K : PySem.W.Frag) (mg : Str → Option Value) : Prop where
  says : He.SaysD fa fn K
  inn : ∃ h : Heap, K.In h ∧ h.Ns mainGlobals mg
section
variable {K : PySem.W.Frag} {mg : Str → Option Value} (T : Txt K mg)
include T
theorem g_aged : mg "aged" = some (.ref (He.ga K "aged")) := (let ⟨_, X, G⟩ := T.inn; He.glo_ok X G (T.says.fact 0 (f := .glo "aged") rfl))
theorem g_limit : mg "limit" = some (.ref (He.ga K "limit")) := (let ⟨_, X, G⟩ := T.inn; He.glo_ok X G (T.says.fact 1 (f := .glo "limit") rfl))
theorem g_L_whole : mg "_law_whole" = some (.ref (He.ga K "_law_whole")) := (let ⟨_, X, G⟩ := T.inn; He.glo_ok X G (T.says.fact 2 (f := .glo "_law_whole") rfl))
theorem g_L_cell_at : mg "_law_cell_at" = some (.ref (He.ga K "_law_cell_at")) := (let ⟨_, X, G⟩ := T.inn; He.glo_ok X G (T.says.fact 3 (f := .glo "_law_cell_at") rfl))
theorem g_law : mg "law" = some (.ref (He.ga K "law")) := (let ⟨_, X, G⟩ := T.inn; He.glo_ok X G (T.says.fact 4 (f := .glo "law") rfl))
theorem k_TOP : ∃ t, mg "TOP" = some (.int 99 t) := let ⟨_, X, G⟩ := T.inn; He.int_ok X G (T.says.fact 5 (f := .int "TOP" 99) rfl)
theorem b_len : mg "len" = none := let ⟨_, X, G⟩ := T.inn; He.free_ok X G (T.says.fact 6 (f := .free "len") rfl)
theorem b_range : mg "range" = none := let ⟨_, X, G⟩ := T.inn; He.free_ok X G (T.says.fact 7 (f := .free "range") rfl)
theorem b_int : mg "int" = none := let ⟨_, X, G⟩ := T.inn; He.free_ok X G (T.says.fact 8 (f := .free "int") rfl)
theorem b_isinstance : mg "isinstance" = none := let ⟨_, X, G⟩ := T.inn; He.free_ok X G (T.says.fact 9 (f := .free "isinstance") rfl)
theorem b_sum : mg "sum" = none := let ⟨_, X, G⟩ := T.inn; He.free_ok X G (T.says.fact 10 (f := .free "sum") rfl)
theorem b_max : mg "max" = none := let ⟨_, X, G⟩ := T.inn; He.free_ok X G (T.says.fact 11 (f := .free "max") rfl)
theorem b_bool : mg "bool" = none := let ⟨_, X, G⟩ := T.inn; He.free_ok X G (T.says.fact 12 (f := .free "bool") rfl)
theorem f_aged : ∃ fd, FunD K "aged" "aged" (defArgs s_aged) (defBody s_aged) (defScope s_aged) [] [] (He.ga K "aged") fd := T.says.def_ 0 (d := dd_aged) rfl
theorem kp_aged : PySem.W.keepIn K (.ref (He.ga K "aged")) = true := let ⟨_, F⟩ := f_aged T; F.kp
theorem f_limit : ∃ fd, FunD K "limit" "limit" (defArgs s_limit) (defBody s_limit) (defScope s_limit) [] [] (He.ga K "limit") fd := T.says.def_ 1 (d := dd_limit) rfl
theorem kp_limit : PySem.W.keepIn K (.ref (He.ga K "limit")) = true := let ⟨_, F⟩ := f_limit T; F.kp
theorem f_L_whole : ∃ fd, FunD K "_law_whole" "_law_whole" (defArgs s_L_whole) (defBody s_L_whole) (defScope s_L_whole) [] [] (He.ga K "_law_whole") fd := T.says.def_ 2 (d := dd_L_whole) rfl
theorem kp_L_whole : PySem.W.keepIn K (.ref (He.ga K "_law_whole")) = true := let ⟨_, F⟩ := f_L_whole T; F.kp
theorem f_L_cell_at : ∃ fd, FunD K "_law_cell_at" "_law_cell_at" (defArgs s_L_cell_at) (defBody s_L_cell_at) (defScope s_L_cell_at) [] [] (He.ga K "_law_cell_at") fd := T.says.def_ 3 (d := dd_L_cell_at) rfl
theorem kp_L_cell_at : PySem.W.keepIn K (.ref (He.ga K "_law_cell_at")) = true := let ⟨_, F⟩ := f_L_cell_at T; F.kp
theorem f_law : ∃ fd, FunD K "law" "law" (defArgs s_law) (defBody s_law) (defScope s_law) [] [] (He.ga K "law") fd := T.says.def_ 4 (d := dd_law) rfl
theorem kp_law : PySem.W.keepIn K (.ref (He.ga K "law")) = true := let ⟨_, F⟩ := f_law T; F.kp
end
/-! ### words of this text, over Evl: what every def's proof uses -/
section
variable {P : Program} {w : World} {K : PySem.W.Frag} {mg : Str → Option Value} {base : Heap} {x qual : Str} {params : Arguments} {body : List Stmt} {scope : Scope} {f : Addr} {fd : FuncData}
theorem ok0 {N ps : List Str} {k : Nat} {sp : Sp} (F : FunD K x qual params body scope [] [] f fd) (S : FnScope N ps scope) (len : ∀ vs H Q E, sp vs H Q E → vs.length = ps.length)
    (hbody : ∀ (cdv : Value) (A : Around) (outer : List Env) (s : Shared) (H : Hp) (vs : List V) (Q : VK) (E : XK), Room k (A.deeper (envOfC qual scope s.heap.objs.size f cdv)) → sp vs H Q E →
      ∃ t, PSs (cxOf CX0 P w K mg base N qual scope f cdv A outer s H E).nox body t ∧ t { nx := fun _ H' => Q .non H', rt := Q } (start N vs) H) : FnOk P w K mg base CX0 (k + 1) f fd ps sp :=
  F.ok S len fun cdv A outer s H vs Q E hr h => let ⟨t, a, b⟩ := hbody cdv A outer s H vs Q E hr h; ⟨t, PSs.nox a, b⟩
theorem okX {N ps : List Str} {k : Nat} {sp : Sp} (F : FunD K x qual params body scope [] [] f fd) (S : FnScope N ps scope) (len : ∀ vs H Q E, sp vs H Q E → vs.length = ps.length)
    (hbody : ∀ (cdv : Value) (A : Around) (outer : List Env) (s : Shared) (H : Hp) (vs : List V) (Q : VK) (E : XK), Room k (A.deeper (envOfC qual scope s.heap.objs.size f cdv)) → sp vs H Q E →
      ∃ t, PSs (cxOf (L2.CX P w) P w K mg base N qual scope f cdv A outer s H E) body t ∧ t { nx := fun _ H' => Q .non H', rt := Q } (start N vs) H) : FnOk P w K mg base (L2.CX P w) (k + 1) f fd ps sp :=
  F.ok S len hbody
end
theorem funD_same {K : PySem.W.Frag} {x qual : Str} {params : Arguments} {body : List Stmt} {scope : Scope} {f : Addr} {fd fd' : FuncData} (F : FunD K x qual params body scope [] [] f fd) (F' : FunD K x qual params body scope [] [] f fd') : fd' = fd := by
  obtain ⟨_, _, _, _, _, _, _, _, _, _, _, h, _⟩ := F.ex
  obtain ⟨_, _, _, _, _, _, _, _, _, _, _, h', _⟩ := F'.ex
  rw [h] at h'
  injection h' with h'
  injection h' with _ _ h'
  injection h' with h'
  exact h'.symm
/-! ### evaluation -/
section
variable {K : PySem.W.Frag} {σ : L2.St} {H H' : Hp} {ta tb te tx : TE} {t u : TT} {x y z v : V} {D : Ends}
theorem rc_len_str {z : Str} (h : z.length ≤ sizeLine) : RC (fun xs H Q => ∃ z, xs = [.str z] ∧ z.length ≤ sizeLine ∧ Q (.int z.length) H) [.str z] H (.int z.length) := fun H1 _ Q q => ⟨z, rfl, h, q H1 (Ex.refl H1)⟩
theorem rc_max2 {i j : Int} : RC (fun xs H Q => ∃ i j, xs = [.int i, .int j] ∧ Q (.int (if j > i then j else i)) H) [.int i, .int j] H (.int (if j > i then j else i)) := fun H1 _ Q q => ⟨i, j, rfl, q H1 (Ex.refl H1)⟩
theorem rc_min2 {i j : Int} : RC (fun xs H Q => ∃ i j, xs = [.int i, .int j] ∧ Q (.int (if j < i then j else i)) H) [.int i, .int j] H (.int (if j < i then j else i)) := fun H1 _ Q q => ⟨i, j, rfl, q H1 (Ex.refl H1)⟩
theorem rc_len {p : Addr} {xs : List V} (h : SqL K H p xs) : RC (fun vs H Q => ∃ p ys, vs = [.ref p] ∧ (SqL K H p ys ∨ SqT K H p ys) ∧ Q (.int ys.length) H) [.ref p] H (.int (xs.length : Int)) := fun H1 e Q q => ⟨p, xs, rfl, .inl (ex_l e h), q H1 (Ex.refl H1)⟩
theorem rc_isi {c t' : V} {ty u : Value} {b : Bool} (hc : ClsV c u) (ht : ∀ H1, Ex H H1 → TyX K H1 x ty) (hk : PySem.W.kitOne K ty u = some b) : RC (rIsi K) [x, c] H (.bl b) := fun H1 e Q q => ⟨x, c, ty, u, b, rfl, hc, ht H1 e, hk, q H1 (Ex.refl H1)⟩
theorem rc_isi_int {i : Int} : RC (rIsi K) [.int i, .ty "int"] H (.bl true) := rc_isi (t' := .non) (.ty _) (fun _ _ => .base (.int i)) (kit_ty (by decide +kernel))
theorem rc_isi_int_bool {i : Int} : RC (rIsi K) [.int i, .ty "bool"] H (.bl false) := rc_isi (t' := .non) (.ty _) (fun _ _ => .base (.int i)) (kit_ty (by decide +kernel))
theorem rc_sum {a : Addr} {ns : List Int} (h : SqL K H a (ns.map V.int)) : RC (rSum K) [.ref a] H (.int ns.sum) := fun H1 e Q q => ⟨a, ns, rfl, ex_l e h, q H1 (Ex.refl H1)⟩
theorem ev_cbL {r : List V → Hp → VK → Prop} {xs : List V} (h : EvL ta σ H xs) (hr : ∀ p H1, H1 p = some (.lst xs) → RC r [.ref p] H1 z) : Ev (tCB r (tCons ta tNil)) σ H z := fun H1 e Q q =>
  h H1 e _ fun p H2 _ e2 hp => hr p H2 hp H2 (Ex.refl H2) Q fun H3 e3 => q H3 (e2.trans e3)
theorem el_lcR2 {ta : TA} {j : Nat} {vs : List Nat} {lo n : Int} (f : Nat → Bool) (v : Nat → V) (h : EvA ta σ H [.int lo, .int n]) (hn : -40000 ≤ lo ∧ lo ≤ 40000 ∧ n ≤ lo + 40000 ∧ -40000 ≤ n) (hw : ∀ x, wipe ((wipe σ vs).set j (some x)) vs = wipe σ vs)
    (ht : ∀ (i : Nat) H1, Ex H H1 → lo + (i : Int) < n → EvT t ((wipe σ vs).set j (some (.int (lo + (i : Int))))) H1 (f i)) (he : ∀ (i : Nat) H1, Ex H H1 → lo + (i : Int) < n → f i = true → Ev te ((wipe σ vs).set j (some (.int (lo + (i : Int))))) H1 (v i)) :
    EvL (tLc (iRng2 ta) (gName j) t te vs) σ H (given (n - lo).toNat f v) := fun H0 e Q q => h H0 e _ fun H1 e1 => ⟨lo, n, rfl, by omega, fun Dl hD =>
  lc_range (lo := lo) (n := (n - lo).toNat) (Cw H1 f v Dl) ⟨hD, Ex.new hD, upd_same⟩ (fun i H' hi p => ⟨hw _, cw_turn p (by omega) (ht i H1 (e.trans e1) (by omega)) (fun hf => he i H1 (e.trans e1) (by omega) hf)⟩) (fun H' p => q Dl H' (fresh_back e1 p.1) (e1.trans p.2.1) p.2.2)⟩
theorem et_yes : EvT tYes σ H true := fun H1 _ _ q => q H1 (Ex.refl H1)
theorem spv_call {sp : Sp} {vs : List V} (h : ∀ H1, Ex H H1 → ∀ Q E, RetV z H1 Q → sp vs H1 Q E) : SpV sp (vs ++ []) H z := fun H1 e Q q E => by
  rw [List.append_nil]
  exact h H1 e Q E q
theorem cmul_r {i j : Int} (h1 : -(2 ^ 64) < j) (h2 : j < 2 ^ 64) : CMul i j := .inr ⟨h1, h2⟩
theorem cmul_l {i j : Int} (h1 : -(2 ^ 64) < i) (h2 : i < 2 ^ 64) : CMul i j := .inl ⟨h1, h2⟩
end
section
variable {K : PySem.W.Frag} {σ : L2.St} {H H' : Hp} {ta tb te tx : TE} {t u : TT} {x y z v : V} {D : Ends}
theorem rv_isN : RV (fun x y H Q => y = .non ∧ Q (.bl (decide (x = .non))) H) x .non H (.bl (decide (x = .non))) := fun H1 _ Q q => ⟨rfl, q H1 (Ex.refl H1)⟩
theorem rv_notN : RV (fun x y H Q => y = .non ∧ Q (.bl (!decide (x = .non))) H) x .non H (.bl (!decide (x = .non))) := fun H1 _ Q q => ⟨rfl, q H1 (Ex.refl H1)⟩
theorem rv_addS {i j : Str} (h : i.length + j.length ≤ sizeLine) : RV (fun x y H Q => ∃ i j, x = .str i ∧ y = .str j ∧ i.length + j.length ≤ sizeLine ∧ Q (.str (i ++ j)) H) (.str i) (.str j) H (.str (i ++ j)) := fun H1 _ Q q => ⟨i, j, rfl, rfl, h, q H1 (Ex.refl H1)⟩
theorem rc_int_int {i : Int} : RC (fun xs H Q => (∃ i, xs = [.int i] ∧ Q (.int i) H) ∨ ∃ k, xs = [.bl k] ∧ Q (.int (if k then 1 else 0)) H) [.int i] H (.int i) := fun H1 _ Q q => .inl ⟨i, rfl, q H1 (Ex.refl H1)⟩
theorem rc_int_bl {k : Bool} : RC (fun xs H Q => (∃ i, xs = [.int i] ∧ Q (.int i) H) ∨ ∃ k, xs = [.bl k] ∧ Q (.int (if k then 1 else 0)) H) [.bl k] H (.int (if k then 1 else 0)) := fun H1 _ Q q => .inr ⟨k, rfl, q H1 (Ex.refl H1)⟩
theorem ev_fld {a C dx : Addr} {fs : List (Str × V)} {f : Str} (h : Ev ta σ H (.ref a)) (ho : H a = some (.ins C dx fs)) (hc : Cls K C) (hn : NoAttr K C f) (hl : fs.lookup f = some v) : Ev (tFld K ta f) σ H v := fun H1 e Q q =>
  h H1 e _ fun H2 e2 => ⟨a, C, dx, fs, v, rfl, e2 a _ (e a _ ho), hc, hn, hl, q H2 e2⟩
theorem ev_meth {a C dx : Addr} {fs : List (Str × V)} {m : Str} {sp : Sp} {E : XK} {tr : TA} {vs : List V} (h : Ev ta σ H (.ref a)) (ho : H a = some (.ins C dx fs)) (hl : fs.lookup m = none) (ha : EvA tr σ H vs) (hs : SpV sp (.ref a :: (vs ++ [])) H z) : Ev (tMeth C m sp [] E ta tr) σ H z := fun H1 e Q q =>
  h H1 e _ fun H2 e2 => ⟨a, dx, fs, rfl, e2 a _ (e a _ ho), hl, ha H2 (e.trans e2) _ fun H3 e3 => hs H3 ((e.trans e2).trans e3) Q (fun H4 e4 => q H4 ((e2.trans e3).trans e4)) E⟩
end
local macro_rules | `(tactic| tm_at "rr.side") => `(tactic| (first | assumption | rfl | decide | (unfold CMul; omega) | (unfold CDiv; omega) | (unfold CPow; omega) | omega | (dsimp only; omega) | (dsimp only; decide)))
local macro_rules | `(tactic| tm_at "rr.step") => `(tactic| (first | exact ev_c | exact ev_var rfl | exact ea_nil | refine' ea_cons ?_ ?_ | refine' ev_op ?_ ?_ rv_I0 | refine' ev_op ?_ ?_ (rv_I ?_) | refine' ev_op ?_ ?_ (rv_eq ?_) | refine' ev_op ?_ ?_ (rv_ne ?_) | refine' ev_call ?_ ?_ | tm_at "rr.cv" | refine' et_test ?_ | refine' et_B ?_ | refine' et_and ?_ (fun _ => ?_) | refine' et_or ?_ (fun _ => ?_) | refine' et_not ?_ | refine' ev_andV ?_ (fun _ => ?_) | refine' ev_orV ?_ (fun _ => ?_) | refine' ev_notV ?_ | exact et_yes | refine' ev_cb ?_ rc_max2 | refine' ev_cb ?_ rc_min2 | refine' ev_cb ?_ rc_int_bl | refine' ev_cb ?_ (rc_len ?_) | refine' ev_un ?_ ru_neg | refine' ev_op ?_ ?_ rv_isN | refine' ev_op ?_ ?_ rv_notN | refine' ev_op ?_ ?_ (rv_addS ?_)))
local macro_rules | `(tactic| tm_at "rr.ev") => `(tactic| ((repeat' tm_at "rr.step"); all_goals (try tm_at "rr.side")))

/-! ### L_cell_at -/
theorem sc_L_cell_at : FnScope ["_law_script", "_law_k"] ["_law_script", "_law_k"] (defScope s_L_cell_at) := ⟨rfl, rfl, rfl, by decide +kernel, rfl, by decide +kernel, by decide +kernel⟩
def cellAt (ns : List Int) (k : Int) : Int := if k < (ns.length : Int) then ns.getD k.toNat 0 else 0
def sp_L_cell_at (K : PySem.W.Frag) : Sp := fun vs H Q _ => ∃ (a : Addr) (ns : List Int) (i : Int), vs = [.ref a, .int i] ∧ SqL K H a (ns.map V.int) ∧ 0 ≤ i ∧ RetV (.int (cellAt ns i)) H Q
theorem cv_L_cell_at {K : PySem.W.Frag} {H : Hp} {a : Addr} {ns : List Int} {i : Int} (h : SqL K H a (ns.map V.int)) (h0 : 0 ≤ i) : SpV (sp_L_cell_at K) ([.ref a, .int i] ++ []) H (.int (cellAt ns i)) :=
  spv_call fun _ e _ _ k => ⟨a, ns, i, rfl, ex_l e h, h0, k⟩
local macro_rules | `(tactic| tm_at "rr.cv") => `(tactic| refine' cv_L_cell_at (by assumption) ?_)
theorem ok_L_cell_at {P : Program} {w : World} {K : PySem.W.Frag} {mg : Str → Option Value} {base : Heap} (T : Txt K mg) : ∃ fd, FnOk P w K mg base (CX0) 1 (He.ga K "_law_cell_at") fd ["_law_script", "_law_k"] (sp_L_cell_at K) ∧ Binds K fd ["_law_script", "_law_k"] [] ∧ FunD K "_law_cell_at" "_law_cell_at" (defArgs s_L_cell_at) (defBody s_L_cell_at) (defScope s_L_cell_at) [] [] (He.ga K "_law_cell_at") fd := by
  obtain ⟨fd, F⟩ := f_L_cell_at T
  refine ⟨fd, ok0 F sc_L_cell_at (fun vs H Q E h => ?_) (fun cdv A outer s H vs Q E hr h => ?_), FunD.bindsN F fun _ _ _ _ _ _ us hl => match us, hl with | [_, _], _ => rfl, F⟩
  · (repeat (obtain ⟨_, h⟩ := h)); subst_vars; rfl
  · obtain ⟨a, ns, i, rfl, hS, h0, k⟩ := h
    refine ⟨_, (pss_cons (ps_if (pt_cmpR op_lt (pv 1) (pe_callB call_len_seq rfl (b_len T) (by decide +kernel) (pa_cons (pv 0) pa_nil)) (nomark _)) (pss_one (ps_ret (pe_ix ix_list (pv 0) (pv 1) (fun _ _ => rfl))))
        pss_nil)
        (pss_one (ps_ret pe_int))), ?_⟩
    refine q_when (et_test (ev_op (ev_var rfl) (ev_cb (ea_cons (ev_var rfl) ea_nil) (rc_len hS)) rv_I0)) (fun hb H1 e1 => ?_) (fun hb H1 e1 => ?_)
    · have hlt : i < ((ns.map V.int).length : Int) := of_decide_eq_true hb
      rw [List.length_map] at hlt
      have ev : cellAt ns i = ns.getD i.toNat 0 := if_pos hlt
      have hv : atI (ns.map V.int) i = some (.int (cellAt ns i)) := by
        rw [ev]
        refine at_of (j := i.toNat) (by omega) ?_
        rw [List.getElem?_map, List.getD_eq_getElem?_getD]
        have : i.toNat < ns.length := by omega
        rw [List.getElem?_eq_getElem this] <;> rfl
      exact s_ret (ev_op (ev_var rfl) (ev_var rfl) (rv_ixL (ex_l e1 hS) hv)) fun H2 e2 => k H2 (e1.trans e2)
    · have hlt : ¬ i < ((ns.map V.int).length : Int) := of_decide_eq_false hb
      rw [List.length_map] at hlt
      have ev : cellAt ns i = 0 := if_neg hlt
      rw [ev] at k
      exact s_ret ev_c fun H2 e2 => k H2 (e1.trans e2)
/-! ### aged -/
theorem sc_aged : FnScope ["rank", "waited", "pace"] ["rank", "waited", "pace"] (defScope s_aged) := ⟨rfl, rfl, rfl, by decide +kernel, rfl, by decide +kernel, by decide +kernel⟩
def sp_aged (_ : PySem.W.Frag) : Sp := fun vs H Q _ => ∃ (r wt p : Int), vs = [.int r, .int wt, .int p] ∧ 0 < p ∧ p < 1073741824 ∧ RetV (.int (r + wt / p)) H Q
theorem cv_aged {K : PySem.W.Frag} {H : Hp} {r wt p : Int} (h1 : 0 < p) (h2 : p < 1073741824) : SpV (sp_aged K) ([.int r, .int wt, .int p] ++ []) H (.int (r + wt / p)) := spv_call fun _ _ _ _ k => ⟨r, wt, p, rfl, h1, h2, k⟩
local macro_rules | `(tactic| tm_at "rr.cv") => `(tactic| refine' cv_aged ?_ ?_)
theorem ok_aged {P : Program} {w : World} {K : PySem.W.Frag} {mg : Str → Option Value} {base : Heap} (T : Txt K mg) : ∃ fd, FnOk P w K mg base (CX0) 1 (He.ga K "aged") fd ["rank", "waited", "pace"] (sp_aged K) ∧ Binds K fd ["rank", "waited", "pace"] [] ∧ FunD K "aged" "aged" (defArgs s_aged) (defBody s_aged) (defScope s_aged) [] [] (He.ga K "aged") fd := by
  obtain ⟨fd, F⟩ := f_aged T
  refine ⟨fd, ok0 F sc_aged (fun vs H Q E h => ?_) (fun cdv A outer s H vs Q E hr h => ?_), FunD.bindsN F fun _ _ _ _ _ _ us hl => match us, hl with | [_, _, _], _ => rfl, F⟩
  · (repeat (obtain ⟨_, h⟩ := h)); subst_vars; rfl
  · obtain ⟨r, wt, p, rfl, h1, h2, k⟩ := h
    refine ⟨_, (pss_one (ps_ret (pe_op op_add (pv 0) (pe_op op_fdiv (pv 1) (pv 2))))), ?_⟩
    exact s_ret (ev_op (ev_var rfl) (ev_op (ev_var rfl) (ev_var rfl) (rv_I ⟨h1, h2⟩)) rv_I0) k
/-! ### limit -/
theorem sc_limit : FnScope ["rank", "pace", "room"] ["rank", "pace", "room"] (defScope s_limit) := ⟨rfl, rfl, rfl, by decide +kernel, rfl, by decide +kernel, by decide +kernel⟩
def sp_limit (_ : PySem.W.Frag) : Sp := fun vs H Q _ => ∃ (r p m : Int), vs = [.int r, .int p, .int m] ∧ 0 < p ∧ p ≤ 1000 ∧ RetV (.int (p * (99 - r) + m)) H Q
theorem cv_limit {K : PySem.W.Frag} {H : Hp} {r p m : Int} (h1 : 0 < p) (h2 : p ≤ 1000) : SpV (sp_limit K) ([.int r, .int p, .int m] ++ []) H (.int (p * (99 - r) + m)) := spv_call fun _ _ _ _ k => ⟨r, p, m, rfl, h1, h2, k⟩
local macro_rules | `(tactic| tm_at "rr.cv") => `(tactic| refine' cv_limit ?_ ?_)
theorem ok_limit {P : Program} {w : World} {K : PySem.W.Frag} {mg : Str → Option Value} {base : Heap} (T : Txt K mg) : ∃ fd, FnOk P w K mg base (CX0) 1 (He.ga K "limit") fd ["rank", "pace", "room"] (sp_limit K) ∧ Binds K fd ["rank", "pace", "room"] [] ∧ FunD K "limit" "limit" (defArgs s_limit) (defBody s_limit) (defScope s_limit) [] [] (He.ga K "limit") fd := by
  obtain ⟨fd, F⟩ := f_limit T
  obtain ⟨t_TOP, hk_TOP⟩ := k_TOP T
  refine ⟨fd, ok0 F sc_limit (fun vs H Q E h => ?_) (fun cdv A outer s H vs Q E hr h => ?_), FunD.bindsN F fun _ _ _ _ _ _ us hl => match us, hl with | [_, _, _], _ => rfl, F⟩
  · (repeat (obtain ⟨_, h⟩ := h)); subst_vars; rfl
  · obtain ⟨r, p, m, rfl, h1, h2, k⟩ := h
    refine ⟨_, (pss_one (ps_ret (pe_op op_add (pe_op op_mul (pv 1) (pe_op op_sub (pe_glob (v := .int 99) rfl hk_TOP ⟨_, rfl⟩) (pv 0))) (pv 2)))), ?_⟩
    exact s_ret (ev_op (ev_op (ev_var rfl) (ev_op ev_c (ev_var rfl) rv_I0) (rv_I (cmul_l (by omega) (by omega)))) (ev_var rfl) rv_I0) k
/-! ### L_whole -/
theorem sc_L_whole : FnScope ["_law_found"] ["_law_found"] (defScope s_L_whole) := ⟨rfl, rfl, rfl, by decide +kernel, rfl, by decide +kernel, by decide +kernel⟩
def sp_L_whole (_ : PySem.W.Frag) : Sp := fun vs H Q _ => ∃ (i : Int), vs = [.int i] ∧ RetV (.bl true) H Q
theorem cv_L_whole {K : PySem.W.Frag} {H : Hp} {i : Int} : SpV (sp_L_whole K) ([.int i] ++ []) H (.bl true) := spv_call fun _ _ _ _ k => ⟨i, rfl, k⟩
local macro_rules | `(tactic| tm_at "rr.cv") => `(tactic| exact cv_L_whole)
theorem ok_L_whole {P : Program} {w : World} {K : PySem.W.Frag} {mg : Str → Option Value} {base : Heap} (T : Txt K mg) : ∃ fd, FnOk P w K mg base (CX0) 1 (He.ga K "_law_whole") fd ["_law_found"] (sp_L_whole K) ∧ Binds K fd ["_law_found"] [] ∧ FunD K "_law_whole" "_law_whole" (defArgs s_L_whole) (defBody s_L_whole) (defScope s_L_whole) [] [] (He.ga K "_law_whole") fd := by
  obtain ⟨fd, F⟩ := f_L_whole T
  refine ⟨fd, ok0 F sc_L_whole (fun vs H Q E h => ?_) (fun cdv A outer s H vs Q E hr h => ?_), FunD.bindsN F fun _ _ _ _ _ _ us hl => match us, hl with | [_], _ => rfl, F⟩
  · (repeat (obtain ⟨_, h⟩ := h)); subst_vars; rfl
  · obtain ⟨i, rfl, k⟩ := h
    refine ⟨_, (pss_one (ps_ret (pe_and (pe_callB call_isi rfl (b_isinstance T) (by decide +kernel) (pa_cons (pv 0) (pa_cons (pe_bltn (v := .ty "int") rfl (b_int T) (by decide +kernel) rfl) pa_nil))) (pe_one (pe_not (pe_callB call_isi rfl (b_isinstance T) (by decide +kernel) (pa_cons (pv 0) (pa_cons (pe_bltn (v := .ty "bool") rfl (b_bool T) (by decide +kernel) rfl) pa_nil)))))))), ?_⟩
    exact s_ret (ev_andV (ev_cb (ea_cons (ev_var rfl) (ea_cons ev_c ea_nil)) rc_isi_int) fun _ => ev_notV (ev_cb (ea_cons (ev_var rfl) (ea_cons ev_c ea_nil)) rc_isi_int_bool)) k
/-! ### law -/
theorem sc_law : FnScope ["_law_script", "_law_rank", "_law_pace", "_law_room", "_law_waited", "_law_found", "_law_told", "_law_full", "_law_higher"] ["_law_script"] (defScope s_law) := ⟨rfl, rfl, rfl, by decide +kernel, rfl, by decide +kernel, by decide +kernel⟩
def sp_law (K : PySem.W.Frag) : Sp := fun vs H Q _ => ∃ (a : Addr) (ns : List Int), vs = [.ref a] ∧ SqL K H a (ns.map V.int) ∧ ns.length ≤ 63 ∧ ∀ H', Q (.bl true) H'
theorem given_const (n : Nat) (c : Int) : given n (fun _ => true) (fun _ => V.int c) = (List.replicate n c).map V.int := by
  unfold given
  rw [List.filter_eq_self.mpr (fun _ _ => rfl)]
  apply List.ext_getElem
  · simp
  · intro i h1 h2
    simp
theorem sum_rep (n : Nat) (c : Int) : (List.replicate n c).sum = n * c := by
  induction n with
  | zero => simp
  | succ n ih => rw [List.replicate_succ, List.sum_cons, ih]; rw [Int.natCast_succ, Int.add_mul, Int.one_mul, Int.add_comm]
theorem ok_law {P : Program} {w : World} {K : PySem.W.Frag} {mg : Str → Option Value} {base : Heap} (T : Txt K mg) : ∃ fd, FnOk P w K mg base (CX0) 2 (He.ga K "law") fd ["_law_script"] (sp_law K) ∧ Binds K fd ["_law_script"] [] ∧ FunD K "law" "law" (defArgs s_law) (defBody s_law) (defScope s_law) [] [] (He.ga K "law") fd := by
  obtain ⟨fd, F⟩ := f_law T
  obtain ⟨d_L_cell_at, G_L_cell_at, b_L_cell_at, _⟩ := ok_L_cell_at (P := P) (w := w) (base := base) T
  obtain ⟨d_aged, G_aged, b_aged, _⟩ := ok_aged (P := P) (w := w) (base := base) T
  obtain ⟨d_limit, G_limit, b_limit, _⟩ := ok_limit (P := P) (w := w) (base := base) T
  obtain ⟨d_L_whole, G_L_whole, b_L_whole, _⟩ := ok_L_whole (P := P) (w := w) (base := base) T
  obtain ⟨t_TOP, hk_TOP⟩ := k_TOP T
  refine ⟨fd, ok0 F sc_law (fun vs H Q E h => ?_) (fun cdv A outer s H vs Q E hr h => ?_), FunD.bindsN F fun _ _ _ _ _ _ us hl => match us, hl with | [_], _ => rfl, F⟩
  · (repeat (obtain ⟨_, h⟩ := h)); subst_vars; rfl
  · obtain ⟨a, ns, rfl, hS, _, k⟩ := h
    refine ⟨_, (pss_cons (ps_set (i := 1) sc_law.nd rfl (Or.inl rfl) (pe_op op_mod (pe_call G_L_cell_at (hr.mono (by decide)) rfl (g_L_cell_at T) (kp_L_cell_at T) b_L_cell_at .nil pass0 (pa_cons (pv 0) (pa_cons pe_int pa_nil))) pe_int))
        (pss_cons (ps_set (i := 2) sc_law.nd rfl (Or.inr rfl) (pe_op op_add pe_int (pe_op op_mod (pe_call G_L_cell_at (hr.mono (by decide)) rfl (g_L_cell_at T) (kp_L_cell_at T) b_L_cell_at .nil pass0 (pa_cons (pv 0) (pa_cons pe_int pa_nil))) pe_int)))
        (pss_cons (ps_set (i := 3) sc_law.nd rfl (Or.inl rfl) (pe_op op_add pe_int (pe_op op_mod (pe_call G_L_cell_at (hr.mono (by decide)) rfl (g_L_cell_at T) (kp_L_cell_at T) b_L_cell_at .nil pass0 (pa_cons (pv 0) (pa_cons pe_int pa_nil))) pe_int)))
        (pss_cons (ps_set (i := 4) sc_law.nd rfl (Or.inl rfl) (pe_op op_mod (pe_call G_L_cell_at (hr.mono (by decide)) rfl (g_L_cell_at T) (kp_L_cell_at T) b_L_cell_at .nil pass0 (pa_cons (pv 0) (pa_cons pe_int pa_nil))) (pe_op op_pow pe_int pe_int)))
        (pss_cons (ps_if (pt_cmpR op_gt (pe_op op_mod (pe_call G_L_cell_at (hr.mono (by decide)) rfl (g_L_cell_at T) (kp_L_cell_at T) b_L_cell_at .nil pass0 (pa_cons (pv 0) (pa_cons pe_int pa_nil))) pe_int) pe_int (nomark _)) (pss_one (ps_set (i := 4) sc_law.nd rfl (Or.inl rfl) (pe_callB (call_max2 rfl) rfl (b_max T) (by decide +kernel) (pa_cons pe_int (pa_cons (pe_op op_add (pe_op op_sub (pe_op op_mul (pv 2) (pe_op op_mod (pe_call G_L_cell_at (hr.mono (by decide)) rfl (g_L_cell_at T) (kp_L_cell_at T) b_L_cell_at .nil pass0 (pa_cons (pv 0) (pa_cons pe_int pa_nil))) pe_int)) (pe_op op_mod (pe_call G_L_cell_at (hr.mono (by decide)) rfl (g_L_cell_at T) (kp_L_cell_at T) b_L_cell_at .nil pass0 (pa_cons (pv 0) (pa_cons pe_int pa_nil))) pe_int)) pe_int) pa_nil)))))
        pss_nil)
        (pss_cons (ps_set (i := 5) sc_law.nd rfl (Or.inl rfl) (pe_call G_aged (hr.mono (by decide)) rfl (g_aged T) (kp_aged T) b_aged .nil pass0 (pa_cons (pv 1) (pa_cons (pv 4) (pa_cons (pv 2) pa_nil)))))
        (pss_cons (ps_set (i := 6) sc_law.nd rfl (Or.inl rfl) (pe_call G_limit (hr.mono (by decide)) rfl (g_limit T) (kp_limit T) b_limit .nil pass0 (pa_cons (pv 1) (pa_cons (pv 2) (pa_cons (pv 3) pa_nil)))))
        (pss_cons (ps_if (PW.pt (pw_or (pt_not (pt_val (pe_call G_L_whole (hr.mono (by decide)) rfl (g_L_whole T) (kp_L_whole T) b_L_whole .nil pass0 (pa_cons (pv 5) pa_nil)))) (pw_or (pt_not (pt_val (pe_call G_L_whole (hr.mono (by decide)) rfl (g_L_whole T) (kp_L_whole T) b_L_whole .nil pass0 (pa_cons (pv 6) pa_nil)))) (pw_or (pt_not (pt_val (pe_call G_L_whole (hr.mono (by decide)) rfl (g_L_whole T) (kp_L_whole T) b_L_whole .nil pass0 (pa_cons (pe_glob (v := .int 99) rfl hk_TOP ⟨_, rfl⟩) pa_nil)))) (pw_or1 (pt_cmpR op_ne (pe_glob (v := .int 99) rfl hk_TOP ⟨_, rfl⟩) pe_int (nomark _))))))) (pss_one (ps_ret pe_bl))
        pss_nil)
        (pss_cons (ps_set (i := 7) sc_law.nd rfl (Or.inl rfl) (pe_op op_sub (pv 5) (pv 1)))
        (pss_cons (ps_if (PW.pt (pw_or (pt_cmpR op_gt (pe_op op_mul (pv 7) (pv 2)) (pv 4) (nomark _)) (pw_or1 (pt_cmpR op_ge (pv 4) (pe_op op_mul (pe_op op_add (pv 7) pe_int) (pv 2)) (nomark _))))) (pss_one (ps_ret pe_bl))
        pss_nil)
        (pss_one (ps_ret (pe_cmpR op_eq (pv 6) (pe_op op_add (pe_callB (cr_sum rfl) rfl (b_sum T) (by decide +kernel) (pa_cons (pe_lc (own := [("_law_higher", 8)]) (g := gName 8) (tt := tYes) rfl sc_law.nd (pi_range2 rfl (b_range T) (pa_cons (pv 1) (pa_cons pe_int pa_nil))) (blkOk_by (own := [("_law_higher", 8)]) (N := ["_law_script", "_law_rank", "_law_pace", "_law_room", "_law_waited", "_law_found", "_law_told", "_law_full", "_law_higher"]) (sc := defScope s_law) (by decide +kernel)) (fun _ _ _ _ _ => (pg_name (i := 8) sc_law.nd rfl (Or.inl rfl))) (fun _ _ _ _ _ => pts_nil) (fun _ _ _ _ _ => (pv 2))) pa_nil)) (pv 3)) (nomark _)))))))))))))), ?_⟩
    refine' q_asg ?h fun H1 e1 => ?_
    case h => tm_at "rr.ev"
    have hS := ex_l e1 hS
    refine' q_asg ?h fun H2 e2 => ?_
    case h => tm_at "rr.ev"
    have hS := ex_l e2 hS
    refine' q_asg ?h fun H3 e3 => ?_
    case h => tm_at "rr.ev"
    have hS := ex_l e3 hS
    refine' q_asg ?h fun H4 e4 => ?_
    case h => tm_at "rr.ev"
    have hS := ex_l e4 hS
    dsimp only
    have hr0 := Int.emod_nonneg (cellAt ns 0) (by decide : (100 : Int) ≠ 0)
    have hr1 := Int.emod_lt_of_pos (cellAt ns 0) (by decide : (0 : Int) < 100)
    have hp0 := Int.emod_nonneg (cellAt ns 1) (by decide : (1000 : Int) ≠ 0)
    have hp1 := Int.emod_lt_of_pos (cellAt ns 1) (by decide : (0 : Int) < 1000)
    have hm0 := Int.emod_nonneg (cellAt ns 4) (by decide : (60 : Int) ≠ 0)
    generalize cellAt ns 0 % 100 = r at hr0 hr1 ⊢
    obtain ⟨p, ep⟩ : ∃ p, p = 1 + cellAt ns 1 % 1000 := ⟨_, rfl⟩
    rw [← ep]
    generalize 1 + cellAt ns 4 % 60 = m
    have hp2 : 0 < p := by omega
    have hp3 : p ≤ 1000 := by omega
    have hw : 0 ≤ cellAt ns 2 % 10 ^ (Int.toNat 12) := Int.emod_nonneg _ (by decide)
    generalize cellAt ns 2 % 10 ^ (Int.toNat 12) = w0 at hw ⊢
    obtain ⟨w1, ew1, hw1⟩ : ∃ w1 : Int, w1 = (if p * (cellAt ns 2 % 201) - cellAt ns 3 % 3 + 1 > 0 then p * (cellAt ns 2 % 201) - cellAt ns 3 % 3 + 1 else 0) ∧ 0 ≤ w1 := ⟨_, rfl, by split <;> omega⟩
    refine q_ifAsg (b := decide (0 < cellAt ns 3 % 3)) (v := .int (if decide (0 < cellAt ns 3 % 3) = true then w1 else w0)) ?c (fun hb => ?h1) (fun hb => ?h2) (fun H5 e5 => ?_)
    case c => tm_at "rr.ev"
    case h1 => rw [if_pos hb, ew1]; tm_at "rr.ev"
    case h2 => rw [if_neg (by rw [hb]; decide)]; rfl
    have hS := ex_l e5 hS
    have hwt : 0 ≤ (if decide (0 < cellAt ns 3 % 3) = true then w1 else w0) := by split <;> assumption
    generalize (if decide (0 < cellAt ns 3 % 3) = true then w1 else w0) = wt at hwt ⊢
    refine' q_asg ?h fun H6 e6 => ?_
    case h => tm_at "rr.ev"
    refine' q_asg ?h fun H7 e7 => ?_
    case h => tm_at "rr.ev"
    refine' q_when ?h (fun hb _ _ => ?_) (fun hb H8 e8 => ?_)
    case h => tm_at "rr.ev"
    · exact absurd hb (by decide)
    refine' q_asg ?h fun H9 e9 => ?_
    case h => tm_at "rr.ev"
    refine' q_when ?h (fun hb _ _ => ?_) (fun hb H10 e10 => ?_)
    case h => tm_at "rr.ev"
    · exfalso
      have e9 : r + wt / p - r = wt / p := by omega
      rw [e9] at hb
      have h1 := Int.mul_ediv_self_le (x := wt) (k := p) (by omega)
      have h2 := Int.lt_mul_ediv_self_add (x := wt) (k := p) hp2
      rw [Int.mul_comm] at h1
      rw [decide_eq_false (by omega), decide_eq_false (by rw [Int.add_mul, Int.mul_comm (wt / p) p]; omega)] at hb
      exact absurd hb (by decide)
    have hsum : (List.replicate (99 - r).toNat p).sum = p * (99 - r) := by
      rw [sum_rep, Int.mul_comm]
      congr 1
      omega
    refine' s_ret ?h fun H11 e11 => ?_
    case h =>
      refine' ev_op (ev_var rfl) (ev_op (ev_cbL (xs := (List.replicate (99 - r).toNat p).map V.int) ?l (fun q H' h' => rc_sum (sq_of h'))) (ev_var rfl) rv_I0) (rv_eq rfl)
      case l =>
        rw [← given_const]
        exact el_lcR2 (lo := r) (n := 99) _ _ (ea_cons (ev_var rfl) (ea_cons ev_c ea_nil)) (by omega) (fun _ => rfl) (fun _ _ _ _ => et_yes) (fun _ _ _ _ _ => ev_var rfl)
    rw [hsum, decide_eq_true rfl]
    exact k _
end Rr
namespace Rr
open PySem PySem.Spec PyProof.Rows L2
def loose0 : List PySem.Str := ["TOP", "aged", "limit", "_law_whole", "_law_cell_at"]
def loose : List PySem.Str := loose0
abbrev R : PySem.W.OpenRow := PySem.W.OpenLaw.row PySem.Challenge.rw_rrdesk_k01_aged_and_told
abbrev hk : PySem.W.Hook := He.hookD 6 fa fn
def ob (s : PySem.W.SharedT) : He.AlD := He.obsDG 6 fa fn (HandSHeadRun.getT s)
theorem ob_eq (s : PySem.W.SharedT) : ob s = hk.obs s.abs := He.obsDG_eq (HandSHeadRun.getT_eq s)
theorem run (w : World) : HandSHeadRun.RunEq R (PySem.W.view R.prog [7]) hk ob 6000 loose w := by
  intro os
  kernel_rfl
theorem facts {P : Program} {w : World} {K : PySem.W.Frag} {h : Heap} {mg : Str → Option Value} {f : Addr} (X : K.In h) (G : h.Ns mainGlobals mg) (hfa : mg ("law" : Str) = some (.ref f)) (c : He.SaysD fa fn K) :
    ∃ fd : FuncData, (∀ (s : Shared) (v : Value), BindsTo s fd ⟨[v], []⟩ [("_law_script", v)]) ∧ ∀ base : Heap, K.In base → base.Ns mainGlobals mg → FnOk P w K mg base CX0 2 f fd ["_law_script"] (sp_law K) := by
  have T : Txt K mg := ⟨c, h, X, G⟩
  have e := hfa.symm.trans (g_law T)
  cases e
  obtain ⟨fd, F⟩ := f_law T
  have b := FunD.bindsA (ps := ["_law_script"]) F fun _ _ _ _ _ _ us hl => match us, hl with | [_], _ => rfl
  refine ⟨fd, fun s v => b s [v] rfl, fun base _ _ => ?_⟩
  obtain ⟨fd', G', _, F'⟩ := ok_law (P := P) (w := w) (base := base) T
  exact (funD_same F F') ▸ G'
end Rr
open PySem PySem.W PySem.Calls PyProof.Rows
set_option maxRecDepth 100000 in
set_option maxHeartbeats 0 in
theorem PySem.Challenge.cw_rrdesk_k01_aged_and_told_holds : PySem.Challenge.rw_rrdesk_k01_aged_and_told.Holds := by
  w_on; o_law
  refine HandSHeadRun.head_any (r := OpenLaw.row PySem.Challenge.rw_rrdesk_k01_aged_and_told) (q := view (OpenLaw.row PySem.Challenge.rw_rrdesk_k01_aged_and_told).prog [7]) (H := Rr.hk) (ob := Rr.ob) (M := 6000) (loose := Rr.loose) (d := HandSHeadRun.topDef (OpenLaw.row PySem.Challenge.rw_rrdesk_k01_aged_and_told).prog 7) (kwd := []) Rr.ob_eq
    (by kernel_rfl) (fun s => by kernel_rfl) Rr.run (by kernel_rfl) (by kernel_rfl) (by kernel_rfl) (by rfl) (by first | assumption | decide +kernel) (by decide +kernel) ⟨rfl, rfl, rfl, rfl, rfl, by decide +kernel⟩ ?hw ?hc
  case hw => w_witness2
  case hc =>
    refine L2.walk_ofE (l := PySem.Challenge.rw_rrdesk_k01_aged_and_told) (n := 63) (k := 2) (x := "_law_script") (CX := L2.CX0) rfl (by decide) (by kernel_rfl) ⟨rfl, by decide, by decide⟩ ?F (fun _ _ _ _ z => z)
    intro w mg fa h Y G hmg0
    obtain ⟨K, KX, c⟩ := Y
    have hmg : mg ("law" : PySem.Str) = some (.ref fa) := by
      have e : (HandSHeadRun.topDef (OpenLaw.row PySem.Challenge.rw_rrdesk_k01_aged_and_told).prog 7).name = ("law" : PySem.Str) := by kernel_rfl
      rw [← e]
      exact hmg0
    obtain ⟨fd, hb, hF⟩ := Rr.facts (P := (PySem.Challenge.rw_rrdesk_k01_aged_and_told).prog) (w := w) KX G hmg c
    exact ⟨K, fd, Rr.sp_law K, KX, hb, fun H a ns hl _ hS => ⟨a, ns, rfl, hS, hl, fun _ => rfl⟩, hF⟩

#print axioms PySem.Challenge.cw_rrdesk_k01_aged_and_told_holds

