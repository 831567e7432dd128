import PyProof.Rows.All
import Wide.All
import OpenK.AllK
import Wide.FinOn
import KE.KStateDown
import HandS.Base
import HandS.Call
import HandS.List
import HandS.Comp
import HandS.Ends
import HandS.Dict
import HandS.Iter
import HandS.Text
import HandS.More
import HandS.Exc
import HandS.TryOnly
import HandS.ExcOwn
import HandS.Words
import HandS.WordsList
import HandS.WordsExc
import HandS.Defaults
import HandS.IsInst
import HandS.Style
import HandS.Evl
import HandS.Head0
import HandS.Head1
import HandS.Head2
import HandS.HeadEnd
import HandS.HeadHook1
import HandS.HeadHook2
import PySem.Challenge.RW_rrdesk_k02_first_chosen
set_option Elab.async false
set_option linter.all false
set_option maxRecDepth 100000
set_option maxHeartbeats 4000000
namespace Rr
open PySem PySem.Spec PyProof.Rows L2 Evl
def top (i : Nat) : Stmt := PySem.Challenge.pw_rrdesk_k02_first_chosen.main.body.getD i (.Pass ⟨0, 0, 0, 0⟩)
abbrev s_aged : Stmt := top 1
abbrev s_first : Stmt := top 2
abbrev s_L_whole : Stmt := top 4
abbrev s_L_cell_at : Stmt := top 5
abbrev s_L_mix : Stmt := top 6
abbrev s_L_pace_by : Stmt := top 7
abbrev s_L_rows : Stmt := top 8
abbrev s_law : Stmt := top 9
def dd_aged : He.DefD := ⟨("aged", none), "aged", "aged", defArgs s_aged, defBody s_aged, defScope s_aged, [], []⟩
def dd_first : He.DefD := ⟨("first", none), "first", "first", defArgs s_first, defBody s_first, defScope s_first, [], []⟩
def dd_L_whole : He.DefD := ⟨("_law_whole", none), "_law_whole", "_law_whole", defArgs s_L_whole, defBody s_L_whole, defScope s_L_whole, [], []⟩
def dd_L_cell_at : He.DefD := ⟨("_law_cell_at", none), "_law_cell_at", "_law_cell_at", defArgs s_L_cell_at, defBody s_L_cell_at, defScope s_L_cell_at, [], []⟩
def dd_L_mix : He.DefD := ⟨("_law_mix", none), "_law_mix", "_law_mix", defArgs s_L_mix, defBody s_L_mix, defScope s_L_mix, [], []⟩
def dd_L_pace_by : He.DefD := ⟨("_law_pace_by", none), "_law_pace_by", "_law_pace_by", defArgs s_L_pace_by, defBody s_L_pace_by, defScope s_L_pace_by, [], []⟩
def dd_L_rows : He.DefD := ⟨("_law_rows", none), "_law_rows", "_law_rows", defArgs s_L_rows, defBody s_L_rows, defScope s_L_rows, [], []⟩
def dd_law : He.DefD := ⟨("law", none), "law", "law", defArgs s_law, defBody s_law, defScope s_law, [], []⟩
def fn : List He.DefD := [dd_aged, dd_first, dd_L_whole, dd_L_cell_at, dd_L_mix, dd_L_pace_by, dd_L_rows, dd_law]
def fa0 : List He.Fa := [.glo "aged", .glo "first", .glo "_law_whole", .glo "_law_cell_at", .glo "_law_mix", .glo "_law_pace_by", .glo "_law_rows", .glo "law", .free "len", .free "range", .free "int", .free "isinstance", .free "max", .free "list", .free "bool"]
def fa : List He.Fa := fa0
structure Txt (K : PySem.W.Frag) (mg : Str → Option Value) : Prop where
  says : He.SaysD fa fn K
  inn : ∃ h : Heap, K.In h ∧ h.Ns mainGlobals mg
section
variable {K : PySem.W.Frag} {mg : Str → Option Value} (T : Txt K mg)
include T
theorem g_aged : mg "aged" = some (.ref (He.ga K "aged")) := (let ⟨_, X, G⟩ := T.inn; He.glo_ok X G (T.says.fact 0 (f := .glo "aged") rfl))
theorem g_first : mg "first" = some (.ref (He.ga K "first")) := (let ⟨_, X, G⟩ := T.inn; He.glo_ok X G (T.says.fact 1 (f := .glo "first") rfl))
theorem g_L_whole : mg "_law_whole" = some (.ref (He.ga K "_law_whole")) := (let ⟨_, X, G⟩ := T.inn; He.glo_ok X G (T.says.fact 2 (f := .glo "_law_whole") rfl))
theorem g_L_cell_at : mg "_law_cell_at" = some (.ref (He.ga K "_law_cell_at")) := (let ⟨_, X, G⟩ := T.inn; He.glo_ok X G (T.says.fact 3 (f := .glo "_law_cell_at") rfl))
theorem g_L_mix : mg "_law_mix" = some (.ref (He.ga K "_law_mix")) := (let ⟨_, X, G⟩ := T.inn; He.glo_ok X G (T.says.fact 4 (f := .glo "_law_mix") rfl))
theorem g_L_pace_by : mg "_law_pace_by" = some (.ref (He.ga K "_law_pace_by")) := (let ⟨_, X, G⟩ := T.inn; He.glo_ok X G (T.says.fact 5 (f := .glo "_law_pace_by") rfl))
theorem g_L_rows : mg "_law_rows" = some (.ref (He.ga K "_law_rows")) := (let ⟨_, X, G⟩ := T.inn; He.glo_ok X G (T.says.fact 6 (f := .glo "_law_rows") rfl))
theorem g_law : mg "law" = some (.ref (He.ga K "law")) := (let ⟨_, X, G⟩ := T.inn; He.glo_ok X G (T.says.fact 7 (f := .glo "law") rfl))
theorem b_len : mg "len" = none := let ⟨_, X, G⟩ := T.inn; He.free_ok X G (T.says.fact 8 (f := .free "len") rfl)
theorem b_range : mg "range" = none := let ⟨_, X, G⟩ := T.inn; He.free_ok X G (T.says.fact 9 (f := .free "range") rfl)
theorem b_int : mg "int" = none := let ⟨_, X, G⟩ := T.inn; He.free_ok X G (T.says.fact 10 (f := .free "int") rfl)
theorem b_isinstance : mg "isinstance" = none := let ⟨_, X, G⟩ := T.inn; He.free_ok X G (T.says.fact 11 (f := .free "isinstance") rfl)
theorem b_max : mg "max" = none := let ⟨_, X, G⟩ := T.inn; He.free_ok X G (T.says.fact 12 (f := .free "max") rfl)
theorem b_list : mg "list" = none := let ⟨_, X, G⟩ := T.inn; He.free_ok X G (T.says.fact 13 (f := .free "list") rfl)
theorem b_bool : mg "bool" = none := let ⟨_, X, G⟩ := T.inn; He.free_ok X G (T.says.fact 14 (f := .free "bool") rfl)
theorem f_aged : ∃ fd, FunD K "aged" "aged" (defArgs s_aged) (defBody s_aged) (defScope s_aged) [] [] (He.ga K "aged") fd := T.says.def_ 0 (d := dd_aged) rfl
theorem kp_aged : PySem.W.keepIn K (.ref (He.ga K "aged")) = true := let ⟨_, F⟩ := f_aged T; F.kp
theorem f_first : ∃ fd, FunD K "first" "first" (defArgs s_first) (defBody s_first) (defScope s_first) [] [] (He.ga K "first") fd := T.says.def_ 1 (d := dd_first) rfl
theorem kp_first : PySem.W.keepIn K (.ref (He.ga K "first")) = true := let ⟨_, F⟩ := f_first T; F.kp
theorem f_L_whole : ∃ fd, FunD K "_law_whole" "_law_whole" (defArgs s_L_whole) (defBody s_L_whole) (defScope s_L_whole) [] [] (He.ga K "_law_whole") fd := T.says.def_ 2 (d := dd_L_whole) rfl
theorem kp_L_whole : PySem.W.keepIn K (.ref (He.ga K "_law_whole")) = true := let ⟨_, F⟩ := f_L_whole T; F.kp
theorem f_L_cell_at : ∃ fd, FunD K "_law_cell_at" "_law_cell_at" (defArgs s_L_cell_at) (defBody s_L_cell_at) (defScope s_L_cell_at) [] [] (He.ga K "_law_cell_at") fd := T.says.def_ 3 (d := dd_L_cell_at) rfl
theorem kp_L_cell_at : PySem.W.keepIn K (.ref (He.ga K "_law_cell_at")) = true := let ⟨_, F⟩ := f_L_cell_at T; F.kp
theorem f_L_mix : ∃ fd, FunD K "_law_mix" "_law_mix" (defArgs s_L_mix) (defBody s_L_mix) (defScope s_L_mix) [] [] (He.ga K "_law_mix") fd := T.says.def_ 4 (d := dd_L_mix) rfl
theorem kp_L_mix : PySem.W.keepIn K (.ref (He.ga K "_law_mix")) = true := let ⟨_, F⟩ := f_L_mix T; F.kp
theorem f_L_pace_by : ∃ fd, FunD K "_law_pace_by" "_law_pace_by" (defArgs s_L_pace_by) (defBody s_L_pace_by) (defScope s_L_pace_by) [] [] (He.ga K "_law_pace_by") fd := T.says.def_ 5 (d := dd_L_pace_by) rfl
theorem kp_L_pace_by : PySem.W.keepIn K (.ref (He.ga K "_law_pace_by")) = true := let ⟨_, F⟩ := f_L_pace_by T; F.kp
theorem f_L_rows : ∃ fd, FunD K "_law_rows" "_law_rows" (defArgs s_L_rows) (defBody s_L_rows) (defScope s_L_rows) [] [] (He.ga K "_law_rows") fd := T.says.def_ 6 (d := dd_L_rows) rfl
theorem kp_L_rows : PySem.W.keepIn K (.ref (He.ga K "_law_rows")) = true := let ⟨_, F⟩ := f_L_rows T; F.kp
theorem f_law : ∃ fd, FunD K "law" "law" (defArgs s_law) (defBody s_law) (defScope s_law) [] [] (He.ga K "law") fd := T.says.def_ 7 (d := dd_law) rfl
theorem kp_law : PySem.W.keepIn K (.ref (He.ga K "law")) = true := let ⟨_, F⟩ := f_law T; F.kp
end
/-! ### words of this text, over Evl: what every def's proof uses -/
section
variable {P : Program} {w : World} {K : PySem.W.Frag} {mg : Str → Option Value} {base : Heap} {x qual : Str} {params : Arguments} {body : List Stmt} {scope : Scope} {f : Addr} {fd : FuncData}
theorem ok0 {N ps : List Str} {k : Nat} {sp : Sp} (F : FunD K x qual params body scope [] [] f fd) (S : FnScope N ps scope) (len : ∀ vs H Q E, sp vs H Q E → vs.length = ps.length)
    (hbody : ∀ (cdv : Value) (A : Around) (outer : List Env) (s : Shared) (H : Hp) (vs : List V) (Q : VK) (E : XK), Room k (A.deeper (envOfC qual scope s.heap.objs.size f cdv)) → sp vs H Q E →
      ∃ t, PSs (cxOf CX0 P w K mg base N qual scope f cdv A outer s H E).nox body t ∧ t { nx := fun _ H' => Q .non H', rt := Q } (start N vs) H) : FnOk P w K mg base CX0 (k + 1) f fd ps sp :=
  F.ok S len fun cdv A outer s H vs Q E hr h => let ⟨t, a, b⟩ := hbody cdv A outer s H vs Q E hr h; ⟨t, PSs.nox a, b⟩
theorem okX {N ps : List Str} {k : Nat} {sp : Sp} (F : FunD K x qual params body scope [] [] f fd) (S : FnScope N ps scope) (len : ∀ vs H Q E, sp vs H Q E → vs.length = ps.length)
    (hbody : ∀ (cdv : Value) (A : Around) (outer : List Env) (s : Shared) (H : Hp) (vs : List V) (Q : VK) (E : XK), Room k (A.deeper (envOfC qual scope s.heap.objs.size f cdv)) → sp vs H Q E →
      ∃ t, PSs (cxOf (L2.CX P w) P w K mg base N qual scope f cdv A outer s H E) body t ∧ t { nx := fun _ H' => Q .non H', rt := Q } (start N vs) H) : FnOk P w K mg base (L2.CX P w) (k + 1) f fd ps sp :=
  F.ok S len hbody
end
theorem funD_same {K : PySem.W.Frag} {x qual : Str} {params : Arguments} {body : List Stmt} {scope : Scope} {f : Addr} {fd fd' : FuncData} (F : FunD K x qual params body scope [] [] f fd) (F' : FunD K x qual params body scope [] [] f fd') : fd' = fd := by
  obtain ⟨_, _, _, _, _, _, _, _, _, _, _, h, _⟩ := F.ex
  obtain ⟨_, _, _, _, _, _, _, _, _, _, _, h', _⟩ := F'.ex
  rw [h] at h'
  injection h' with h'
  injection h' with _ _ h'
  injection h' with h'
  exact h'.symm
/-! ### evaluation -/
section
variable {K : PySem.W.Frag} {σ : L2.St} {H H' : Hp} {ta tb te tx : TE} {t u : TT} {x y z v : V} {D : Ends}
theorem rc_len_str {z : Str} (h : z.length ≤ sizeLine) : RC (fun xs H Q => ∃ z, xs = [.str z] ∧ z.length ≤ sizeLine ∧ Q (.int z.length) H) [.str z] H (.int z.length) := fun H1 _ Q q => ⟨z, rfl, h, q H1 (Ex.refl H1)⟩
theorem rc_max2 {i j : Int} : RC (fun xs H Q => ∃ i j, xs = [.int i, .int j] ∧ Q (.int (if j > i then j else i)) H) [.int i, .int j] H (.int (if j > i then j else i)) := fun H1 _ Q q => ⟨i, j, rfl, q H1 (Ex.refl H1)⟩
theorem rc_min2 {i j : Int} : RC (fun xs H Q => ∃ i j, xs = [.int i, .int j] ∧ Q (.int (if j < i then j else i)) H) [.int i, .int j] H (.int (if j < i then j else i)) := fun H1 _ Q q => ⟨i, j, rfl, q H1 (Ex.refl H1)⟩
theorem rc_len {p : Addr} {xs : List V} (h : SqL K H p xs) : RC (fun vs H Q => ∃ p ys, vs = [.ref p] ∧ (SqL K H p ys ∨ SqT K H p ys) ∧ Q (.int ys.length) H) [.ref p] H (.int (xs.length : Int)) := fun H1 e Q q => ⟨p, xs, rfl, .inl (ex_l e h), q H1 (Ex.refl H1)⟩
theorem rc_isi {c t' : V} {ty u : Value} {b : Bool} (hc : ClsV c u) (ht : ∀ H1, Ex H H1 → TyX K H1 x ty) (hk : PySem.W.kitOne K ty u = some b) : RC (rIsi K) [x, c] H (.bl b) := fun H1 e Q q => ⟨x, c, ty, u, b, rfl, hc, ht H1 e, hk, q H1 (Ex.refl H1)⟩
theorem rc_isi_int {i : Int} : RC (rIsi K) [.int i, .ty "int"] H (.bl true) := rc_isi (t' := .non) (.ty _) (fun _ _ => .base (.int i)) (kit_ty (by decide +kernel))
theorem rc_isi_int_bool {i : Int} : RC (rIsi K) [.int i, .ty "bool"] H (.bl false) := rc_isi (t' := .non) (.ty _) (fun _ _ => .base (.int i)) (kit_ty (by decide +kernel))
theorem rc_sum {a : Addr} {ns : List Int} (h : SqL K H a (ns.map V.int)) : RC (rSum K) [.ref a] H (.int ns.sum) := fun H1 e Q q => ⟨a, ns, rfl, ex_l e h, q H1 (Ex.refl H1)⟩
theorem ev_cbL {r : List V → Hp → VK → Prop} {xs : List V} (h : EvL ta σ H xs) (hr : ∀ p H1, H1 p = some (.lst xs) → RC r [.ref p] H1 z) : Ev (tCB r (tCons ta tNil)) σ H z := fun H1 e Q q =>
  h H1 e _ fun p H2 _ e2 hp => hr p H2 hp H2 (Ex.refl H2) Q fun H3 e3 => q H3 (e2.trans e3)
theorem el_lcR2 {ta : TA} {j : Nat} {vs : List Nat} {lo n : Int} (f : Nat → Bool) (v : Nat → V) (h : EvA ta σ H [.int lo, .int n]) (hn : -40000 ≤ lo ∧ lo ≤ 40000 ∧ n ≤ lo + 40000 ∧ -40000 ≤ n) (hw : ∀ x, wipe ((wipe σ vs).set j (some x)) vs = wipe σ vs)
    (ht : ∀ (i : Nat) H1, Ex H H1 → lo + (i : Int) < n → EvT t ((wipe σ vs).set j (some (.int (lo + (i : Int))))) H1 (f i)) (he : ∀ (i : Nat) H1, Ex H H1 → lo + (i : Int) < n → f i = true → Ev te ((wipe σ vs).set j (some (.int (lo + (i : Int))))) H1 (v i)) :
    EvL (tLc (iRng2 ta) (gName j) t te vs) σ H (given (n - lo).toNat f v) := fun H0 e Q q => h H0 e _ fun H1 e1 => ⟨lo, n, rfl, by omega, fun Dl hD =>
  lc_range (lo := lo) (n := (n - lo).toNat) (Cw H1 f v Dl) ⟨hD, Ex.new hD, upd_same⟩ (fun i H' hi p => ⟨hw _, cw_turn p (by omega) (ht i H1 (e.trans e1) (by omega)) (fun hf => he i H1 (e.trans e1) (by omega) hf)⟩) (fun H' p => q Dl H' (fresh_back e1 p.1) (e1.trans p.2.1) p.2.2)⟩
theorem et_yes : EvT tYes σ H true := fun H1 _ _ q => q H1 (Ex.refl H1)
theorem spv_call {sp : Sp} {vs : List V} (h : ∀ H1, Ex H H1 → ∀ Q E, RetV z H1 Q → sp vs H1 Q E) : SpV sp (vs ++ []) H z := fun H1 e Q q E => by
  rw [List.append_nil]
  exact h H1 e Q E q
theorem cmul_r {i j : Int} (h1 : -(2 ^ 64) < j) (h2 : j < 2 ^ 64) : CMul i j := .inr ⟨h1, h2⟩
theorem cmul_l {i j : Int} (h1 : -(2 ^ 64) < i) (h2 : i < 2 ^ 64) : CMul i j := .inl ⟨h1, h2⟩
end
section
variable {K : PySem.W.Frag} {σ : L2.St} {H H' : Hp} {ta tb te tx : TE} {t u : TT} {x y z v : V} {D : Ends}
theorem rv_isN : RV (fun x y H Q => y = .non ∧ Q (.bl (decide (x = .non))) H) x .non H (.bl (decide (x = .non))) := fun H1 _ Q q => ⟨rfl, q H1 (Ex.refl H1)⟩
theorem rv_notN : RV (fun x y H Q => y = .non ∧ Q (.bl (!decide (x = .non))) H) x .non H (.bl (!decide (x = .non))) := fun H1 _ Q q => ⟨rfl, q H1 (Ex.refl H1)⟩
theorem rv_addS {i j : Str} (h : i.length + j.length ≤ sizeLine) : RV (fun x y H Q => ∃ i j, x = .str i ∧ y = .str j ∧ i.length + j.length ≤ sizeLine ∧ Q (.str (i ++ j)) H) (.str i) (.str j) H (.str (i ++ j)) := fun H1 _ Q q => ⟨i, j, rfl, rfl, h, q H1 (Ex.refl H1)⟩
theorem rc_int_int {i : Int} : RC (fun xs H Q => (∃ i, xs = [.int i] ∧ Q (.int i) H) ∨ ∃ k, xs = [.bl k] ∧ Q (.int (if k then 1 else 0)) H) [.int i] H (.int i) := fun H1 _ Q q => .inl ⟨i, rfl, q H1 (Ex.refl H1)⟩
theorem rc_int_bl {k : Bool} : RC (fun xs H Q => (∃ i, xs = [.int i] ∧ Q (.int i) H) ∨ ∃ k, xs = [.bl k] ∧ Q (.int (if k then 1 else 0)) H) [.bl k] H (.int (if k then 1 else 0)) := fun H1 _ Q q => .inr ⟨k, rfl, q H1 (Ex.refl H1)⟩
theorem ev_fld {a C dx : Addr} {fs : List (Str × V)} {f : Str} (h : Ev ta σ H (.ref a)) (ho : H a = some (.ins C dx fs)) (hc : Cls K C) (hn : NoAttr K C f) (hl : fs.lookup f = some v) : Ev (tFld K ta f) σ H v := fun H1 e Q q =>
  h H1 e _ fun H2 e2 => ⟨a, C, dx, fs, v, rfl, e2 a _ (e a _ ho), hc, hn, hl, q H2 e2⟩
theorem ev_meth {a C dx : Addr} {fs : List (Str × V)} {m : Str} {sp : Sp} {E : XK} {tr : TA} {vs : List V} (h : Ev ta σ H (.ref a)) (ho : H a = some (.ins C dx fs)) (hl : fs.lookup m = none) (ha : EvA tr σ H vs) (hs : SpV sp (.ref a :: (vs ++ [])) H z) : Ev (tMeth C m sp [] E ta tr) σ H z := fun H1 e Q q =>
  h H1 e _ fun H2 e2 => ⟨a, dx, fs, rfl, e2 a _ (e a _ ho), hl, ha H2 (e.trans e2) _ fun H3 e3 => hs H3 ((e.trans e2).trans e3) Q (fun H4 e4 => q H4 ((e2.trans e3).trans e4)) E⟩
end
local macro_rules | `(tactic| tm_at "rr.side") => `(tactic| (first | assumption | rfl | decide | (unfold CMul; omega) | (unfold CDiv; omega) | (unfold CPow; omega) | omega | (dsimp only; omega) | (dsimp only; decide)))
local macro_rules | `(tactic| tm_at "rr.step") => `(tactic| (first | exact ev_c | exact ev_var rfl | exact ea_nil | refine' ea_cons ?_ ?_ | refine' ev_op ?_ ?_ rv_I0 | refine' ev_op ?_ ?_ (rv_I ?_) | refine' ev_op ?_ ?_ (rv_eq ?_) | refine' ev_op ?_ ?_ (rv_ne ?_) | refine' ev_call ?_ ?_ | tm_at "rr.cv" | refine' et_test ?_ | refine' et_B ?_ | refine' et_and ?_ (fun _ => ?_) | refine' et_or ?_ (fun _ => ?_) | refine' et_not ?_ | refine' ev_andV ?_ (fun _ => ?_) | refine' ev_orV ?_ (fun _ => ?_) | refine' ev_notV ?_ | exact et_yes | refine' ev_cb ?_ rc_max2 | refine' ev_cb ?_ rc_min2 | refine' ev_cb ?_ rc_int_bl | refine' ev_cb ?_ (rc_len ?_) | refine' ev_un ?_ ru_neg | refine' ev_op ?_ ?_ rv_isN | refine' ev_op ?_ ?_ rv_notN | refine' ev_op ?_ ?_ (rv_addS ?_)))
local macro_rules | `(tactic| tm_at "rr.ev") => `(tactic| ((repeat' tm_at "rr.step"); all_goals (try tm_at "rr.side")))
section
variable {K : PySem.W.Frag} {σ : L2.St} {H H' : Hp} {ta tb te tx : TE} {t u : TT} {x y z v : V} {D : Ends} {tz tu : TS} {sp : Sp} {E : XK} {tr : TA} {vs : List V}
/-- name = f(..), whatever the promise hands back -/
theorem q_call {i : Nat} (h : EvA tr σ H vs) (k : ∀ H1, Ex H H1 → sp (vs ++ []) H1 (fun x H2 => tz D (σ.set i (some x)) H2) E) : tSeq (tAsg (tCall sp [] E tr) (gName i)) tz D σ H := h H (Ex.refl H) _ fun H1 e1 => k H1 e1
theorem s_call {i : Nat} (h : EvA tr σ H vs) (k : ∀ H1, Ex H H1 → sp (vs ++ []) H1 (fun x H2 => D.nx (σ.set i (some x)) H2) E) : tAsg (tCall sp [] E tr) (gName i) D σ H := h H (Ex.refl H) _ fun H1 e1 => k H1 e1
theorem s_retC (h : EvA tr σ H vs) (k : ∀ H1, Ex H H1 → sp (vs ++ []) H1 D.rt E) : tRet (tCall sp [] E tr) D σ H := h H (Ex.refl H) _ fun H1 e1 => k H1 e1
/-- .. a method of the instance at a -/
theorem q_meth {i : Nat} {a C dx : Addr} {fs : List (Str × V)} {m : Str} (h : Ev ta σ H (.ref a)) (ho : H a = some (.ins C dx fs)) (hl : fs.lookup m = none) (ha : EvA tr σ H vs) (k : ∀ H1, Ex H H1 → sp (.ref a :: (vs ++ [])) H1 (fun x H2 => tz D (σ.set i (some x)) H2) E) :
    tSeq (tAsg (tMeth C m sp [] E ta tr) (gName i)) tz D σ H := h H (Ex.refl H) _ fun H1 e1 => ⟨a, dx, fs, rfl, e1 a _ ho, hl, ha H1 e1 _ fun H2 e2 => k H2 (e1.trans e2)⟩
theorem s_methA {i : Nat} {a C dx : Addr} {fs : List (Str × V)} {m : Str} (h : Ev ta σ H (.ref a)) (ho : H a = some (.ins C dx fs)) (hl : fs.lookup m = none) (ha : EvA tr σ H vs) (k : ∀ H1, Ex H H1 → sp (.ref a :: (vs ++ [])) H1 (fun x H2 => D.nx (σ.set i (some x)) H2) E) :
    tAsg (tMeth C m sp [] E ta tr) (gName i) D σ H := h H (Ex.refl H) _ fun H1 e1 => ⟨a, dx, fs, rfl, e1 a _ ho, hl, ha H1 e1 _ fun H2 e2 => k H2 (e1.trans e2)⟩
theorem q_dmeth {a C dx : Addr} {fs : List (Str × V)} {m : Str} (h : Ev ta σ H (.ref a)) (ho : H a = some (.ins C dx fs)) (hl : fs.lookup m = none) (ha : EvA tr σ H vs) (k : ∀ H1, Ex H H1 → sp (.ref a :: (vs ++ [])) H1 (fun _ H2 => tz D σ H2) E) :
    tSeq (tDrop (tMeth C m sp [] E ta tr)) tz D σ H := h H (Ex.refl H) _ fun H1 e1 => ⟨a, dx, fs, rfl, e1 a _ ho, hl, ha H1 e1 _ fun H2 e2 => k H2 (e1.trans e2)⟩
theorem s_dmeth {a C dx : Addr} {fs : List (Str × V)} {m : Str} (h : Ev ta σ H (.ref a)) (ho : H a = some (.ins C dx fs)) (hl : fs.lookup m = none) (ha : EvA tr σ H vs) (k : ∀ H1, Ex H H1 → sp (.ref a :: (vs ++ [])) H1 (fun _ H2 => D.nx σ H2) E) :
    tDrop (tMeth C m sp [] E ta tr) D σ H := h H (Ex.refl H) _ fun H1 e1 => ⟨a, dx, fs, rfl, e1 a _ ho, hl, ha H1 e1 _ fun H2 e2 => k H2 (e1.trans e2)⟩
theorem s_retM {a C dx : Addr} {fs : List (Str × V)} {m : Str} (h : Ev ta σ H (.ref a)) (ho : H a = some (.ins C dx fs)) (hl : fs.lookup m = none) (ha : EvA tr σ H vs) (k : ∀ H1, Ex H H1 → sp (.ref a :: (vs ++ [])) H1 D.rt E) :
    tRet (tMeth C m sp [] E ta tr) D σ H := h H (Ex.refl H) _ fun H1 e1 => ⟨a, dx, fs, rfl, e1 a _ ho, hl, ha H1 e1 _ fun H2 e2 => k H2 (e1.trans e2)⟩
theorem rd_upd {a l : Addr} {u o o' : HO} (h : Rd H a u) (hl : H l = some o) (hd : o ≠ u) (hf : ∀ ob, o ≠ .frz ob u) : Rd (upd H l o') a u := by
  rcases h with h | ⟨ob, h⟩
  · exact .inl (by rw [upd_ne (fun e => by rw [e, hl] at h; exact hd (Option.some.inj h))]; exact h)
  · exact .inr ⟨ob, by rw [upd_ne (fun e => by rw [e, hl] at h; exact hf ob (Option.some.inj h))]; exact h⟩
theorem sqT_upd {a l : Addr} {xs ys : List V} {o : HO} (h : SqT K H a xs) (hl : H l = some (.lst ys)) : SqT K (upd H l o) a xs := by
  rcases h with h | h
  · exact .inl (rd_upd h hl (by intro q; cases q) (by intro _ q; cases q))
  · exact .inr h
end

/-! ### L_mix -/
theorem sc_L_mix : FnScope ["_law_cell", "_law_prime", "_law_many"] ["_law_cell", "_law_prime", "_law_many"] (defScope s_L_mix) := ⟨rfl, rfl, rfl, by decide +kernel, rfl, by decide +kernel, by decide +kernel⟩
def mix (c p m : Int) : Int := c * 48271 % p % m
theorem mix_nonneg {c p m : Int} (h : 0 < m) : 0 ≤ mix c p m := Int.emod_nonneg _ (by omega)
theorem mix_lt {c p m : Int} (h : 0 < m) : mix c p m < m := Int.emod_lt_of_pos _ h
def sp_L_mix (_ : PySem.W.Frag) : Sp := fun vs H Q _ => ∃ (c p m : Int), vs = [.int c, .int p, .int m] ∧ 0 < p ∧ 0 < m ∧ RetV (.int (mix c p m)) H Q
theorem cv_L_mix {K : PySem.W.Frag} {H : Hp} {c p m : Int} (h1 : 0 < p) (h2 : 0 < m) : SpV (sp_L_mix K) ([.int c, .int p, .int m] ++ []) H (.int (mix c p m)) := spv_call fun _ _ _ _ k => ⟨c, p, m, rfl, h1, h2, k⟩
local macro_rules | `(tactic| tm_at "rr.cv") => `(tactic| refine' cv_L_mix ?_ ?_)
theorem ok_L_mix {P : Program} {w : World} {K : PySem.W.Frag} {mg : Str → Option Value} {base : Heap} (T : Txt K mg) : ∃ fd, FnOk P w K mg base (CX0) 1 (He.ga K "_law_mix") fd ["_law_cell", "_law_prime", "_law_many"] (sp_L_mix K) ∧ Binds K fd ["_law_cell", "_law_prime", "_law_many"] [] ∧ FunD K "_law_mix" "_law_mix" (defArgs s_L_mix) (defBody s_L_mix) (defScope s_L_mix) [] [] (He.ga K "_law_mix") fd := by
  obtain ⟨fd, F⟩ := f_L_mix T
  refine ⟨fd, ok0 F sc_L_mix (fun vs H Q E h => ?_) (fun cdv A outer s H vs Q E hr h => ?_), FunD.bindsN F fun _ _ _ _ _ _ us hl => match us, hl with | [_, _, _], _ => rfl, F⟩
  · (repeat (obtain ⟨_, h⟩ := h)); subst_vars; rfl
  · obtain ⟨c, p, m, rfl, h1, h2, k⟩ := h
    refine ⟨_, (pss_one (ps_ret (pe_op op_mod (pe_op op_mod (pe_op op_mul (pv 0) pe_int) (pv 1)) (pv 2)))), ?_⟩
    refine' s_ret ?h k
    case h => tm_at "rr.ev"
/-! ### L_pace_by -/
theorem sc_L_pace_by : FnScope ["_law_cell"] ["_law_cell"] (defScope s_L_pace_by) := ⟨rfl, rfl, rfl, by decide +kernel, rfl, by decide +kernel, by decide +kernel⟩
def paceBy (c : Int) : Int := match (mix c 10069 4).toNat with | 0 => 1 | 1 => 2 | 2 => 3 | _ => 1 + mix c 10067 1000
theorem paceBy_ok (c : Int) : 1 ≤ paceBy c ∧ paceBy c ≤ 1000 := by
  have h1 := mix_nonneg (c := c) (p := 10067) (m := 1000) (by decide)
  have h2 := mix_lt (c := c) (p := 10067) (m := 1000) (by decide)
  unfold paceBy
  split <;> omega
def sp_L_pace_by (_ : PySem.W.Frag) : Sp := fun vs H Q _ => ∃ (c : Int), vs = [.int c] ∧ RetV (.int (paceBy c)) H Q
theorem cv_L_pace_by {K : PySem.W.Frag} {H : Hp} {c : Int} : SpV (sp_L_pace_by K) ([.int c] ++ []) H (.int (paceBy c)) := spv_call fun _ _ _ _ k => ⟨c, rfl, k⟩
local macro_rules | `(tactic| tm_at "rr.cv") => `(tactic| exact cv_L_pace_by)
theorem pick4 {a b c d : V} {i : Int} (h0 : 0 ≤ i) (h4 : i < 4) : atI [a, b, c, d] i = some (match i.toNat with | 0 => a | 1 => b | 2 => c | _ => d) := by
  have : i = 0 ∨ i = 1 ∨ i = 2 ∨ i = 3 := by omega
  rcases this with rfl | rfl | rfl | rfl <;> rfl
theorem ok_L_pace_by {P : Program} {w : World} {K : PySem.W.Frag} {mg : Str → Option Value} {base : Heap} (T : Txt K mg) : ∃ fd, FnOk P w K mg base (CX0) 2 (He.ga K "_law_pace_by") fd ["_law_cell"] (sp_L_pace_by K) ∧ Binds K fd ["_law_cell"] [] ∧ FunD K "_law_pace_by" "_law_pace_by" (defArgs s_L_pace_by) (defBody s_L_pace_by) (defScope s_L_pace_by) [] [] (He.ga K "_law_pace_by") fd := by
  obtain ⟨fd, F⟩ := f_L_pace_by T
  obtain ⟨d_L_mix, G_L_mix, b_L_mix, _⟩ := ok_L_mix (P := P) (w := w) (base := base) T
  refine ⟨fd, ok0 F sc_L_pace_by (fun vs H Q E h => ?_) (fun cdv A outer s H vs Q E hr h => ?_), FunD.bindsN F fun _ _ _ _ _ _ us hl => match us, hl with | [_], _ => rfl, F⟩
  · (repeat (obtain ⟨_, h⟩ := h)); subst_vars; rfl
  · obtain ⟨c, rfl, k⟩ := h
    refine ⟨_, (pss_one (ps_ret (pe_ix ix_list (pe_lst (pa_cons pe_int (pa_cons pe_int (pa_cons pe_int (pa_cons (pe_op op_add pe_int (pe_call G_L_mix (hr.mono (by decide)) rfl (g_L_mix T) (kp_L_mix T) b_L_mix .nil pass0 (pa_cons (pv 0) (pa_cons pe_int (pa_cons pe_int pa_nil))))) pa_nil))))) (pe_call G_L_mix (hr.mono (by decide)) rfl (g_L_mix T) (kp_L_mix T) b_L_mix .nil pass0 (pa_cons (pv 0) (pa_cons pe_int (pa_cons pe_int pa_nil)))) (fun _ _ => rfl)))), ?_⟩
    have h0 := mix_nonneg (c := c) (p := 10069) (m := 4) (by decide)
    have h4 := mix_lt (c := c) (p := 10069) (m := 4) (by decide)
    refine s_ret (v := .int (paceBy c)) ?h k
    refine' ev_opL1 (el_lst ?a ?z) (fun H1 e1 => ?i) (fun p H1 h e => rv_ixL (sq_of h) ?x)
    case a => tm_at "rr.ev"
    case z => show 4 ≤ 100000; decide
    case i => tm_at "rr.ev"
    case x =>
      rw [pick4 h0 h4]
      unfold paceBy
      split <;> rfl
/-! ### L_cell_at -/
theorem sc_L_cell_at : FnScope ["_law_script", "_law_k"] ["_law_script", "_law_k"] (defScope s_L_cell_at) := ⟨rfl, rfl, rfl, by decide +kernel, rfl, by decide +kernel, by decide +kernel⟩
def cellAt (ns : List Int) (k : Int) : Int := if k < (ns.length : Int) then ns.getD k.toNat 0 else 0
def sp_L_cell_at (K : PySem.W.Frag) : Sp := fun vs H Q _ => ∃ (a : Addr) (ns : List Int) (i : Int), vs = [.ref a, .int i] ∧ SqL K H a (ns.map V.int) ∧ 0 ≤ i ∧ RetV (.int (cellAt ns i)) H Q
theorem cv_L_cell_at {K : PySem.W.Frag} {H : Hp} {a : Addr} {ns : List Int} {i : Int} (h : SqL K H a (ns.map V.int)) (h0 : 0 ≤ i) : SpV (sp_L_cell_at K) ([.ref a, .int i] ++ []) H (.int (cellAt ns i)) :=
  spv_call fun _ e _ _ k => ⟨a, ns, i, rfl, ex_l e h, h0, k⟩
local macro_rules | `(tactic| tm_at "rr.cv") => `(tactic| refine' cv_L_cell_at (by assumption) ?_)
theorem ok_L_cell_at {P : Program} {w : World} {K : PySem.W.Frag} {mg : Str → Option Value} {base : Heap} (T : Txt K mg) : ∃ fd, FnOk P w K mg base (CX0) 1 (He.ga K "_law_cell_at") fd ["_law_script", "_law_k"] (sp_L_cell_at K) ∧ Binds K fd ["_law_script", "_law_k"] [] ∧ FunD K "_law_cell_at" "_law_cell_at" (defArgs s_L_cell_at) (defBody s_L_cell_at) (defScope s_L_cell_at) [] [] (He.ga K "_law_cell_at") fd := by
  obtain ⟨fd, F⟩ := f_L_cell_at T
  refine ⟨fd, ok0 F sc_L_cell_at (fun vs H Q E h => ?_) (fun cdv A outer s H vs Q E hr h => ?_), FunD.bindsN F fun _ _ _ _ _ _ us hl => match us, hl with | [_, _], _ => rfl, F⟩
  · (repeat (obtain ⟨_, h⟩ := h)); subst_vars; rfl
  · obtain ⟨a, ns, i, rfl, hS, h0, k⟩ := h
    refine ⟨_, (pss_cons (ps_if (pt_cmpR op_lt (pv 1) (pe_callB call_len_seq rfl (b_len T) (by decide +kernel) (pa_cons (pv 0) pa_nil)) (nomark _)) (pss_one (ps_ret (pe_ix ix_list (pv 0) (pv 1) (fun _ _ => rfl))))
        pss_nil)
        (pss_one (ps_ret pe_int))), ?_⟩
    refine q_when (et_test (ev_op (ev_var rfl) (ev_cb (ea_cons (ev_var rfl) ea_nil) (rc_len hS)) rv_I0)) (fun hb H1 e1 => ?_) (fun hb H1 e1 => ?_)
    · have hlt : i < ((ns.map V.int).length : Int) := of_decide_eq_true hb
      rw [List.length_map] at hlt
      have ev : cellAt ns i = ns.getD i.toNat 0 := if_pos hlt
      have hv : atI (ns.map V.int) i = some (.int (cellAt ns i)) := by
        rw [ev]
        refine at_of (j := i.toNat) (by omega) ?_
        rw [List.getElem?_map, List.getD_eq_getElem?_getD]
        have : i.toNat < ns.length := by omega
        rw [List.getElem?_eq_getElem this] <;> rfl
      exact s_ret (ev_op (ev_var rfl) (ev_var rfl) (rv_ixL (ex_l e1 hS) hv)) fun H2 e2 => k H2 (e1.trans e2)
    · have hlt : ¬ i < ((ns.map V.int).length : Int) := of_decide_eq_false hb
      rw [List.length_map] at hlt
      have ev : cellAt ns i = 0 := if_neg hlt
      rw [ev] at k
      exact s_ret ev_c fun H2 e2 => k H2 (e1.trans e2)
def ag (p : Int) (q : Int × Int) : Int := q.1 + q.2 / p
def fstep (p : Int) (qs : List (Int × Int)) (s : Option Nat × Int) (k : Nat) : Option Nat × Int := if s.1 = none ∨ s.2 < ag p (qs.getD k (0, 0)) then (some k, ag p (qs.getD k (0, 0))) else s
def fstate (p : Int) (qs : List (Int × Int)) (n : Nat) : Option Nat × Int := (List.range n).foldl (fstep p qs) (none, 0)
def firstIdx (p : Int) (qs : List (Int × Int)) : Option Nat := (fstate p qs qs.length).1
theorem fstate_succ (p : Int) (qs : List (Int × Int)) (n : Nat) : fstate p qs (n + 1) = fstep p qs (fstate p qs n) n := by
  unfold fstate
  rw [List.range_succ, List.foldl_append]
  rfl
/-- the place that is chosen: a greatest one, greater than all ahead -/
def IsFirst (p : Int) (qs : List (Int × Int)) : Option Nat → Prop
  | none => qs = []
  | some j => j < qs.length ∧ ∀ i, i < qs.length → ag p (qs.getD i (0, 0)) ≤ ag p (qs.getD j (0, 0)) ∧ (i < j → ag p (qs.getD i (0, 0)) < ag p (qs.getD j (0, 0)))
theorem fstate_is (p : Int) (qs : List (Int × Int)) (n : Nat) : match (fstate p qs n).1 with
    | none => n = 0
    | some j => j < n ∧ (fstate p qs n).2 = ag p (qs.getD j (0, 0)) ∧ ∀ i, i < n → ag p (qs.getD i (0, 0)) ≤ ag p (qs.getD j (0, 0)) ∧ (i < j → ag p (qs.getD i (0, 0)) < ag p (qs.getD j (0, 0))) := by
  induction n with
  | zero => rfl
  | succ n ih =>
    rw [fstate_succ]
    unfold fstep
    by_cases c : (fstate p qs n).1 = none ∨ (fstate p qs n).2 < ag p (qs.getD n (0, 0))
    · rw [if_pos c]
      refine ⟨Nat.lt_succ_self n, rfl, fun i hi => ?_⟩
      by_cases e : i = n
      · subst e
        exact ⟨Int.le_refl _, fun h => absurd h (Nat.lt_irrefl _)⟩
      · have hin : i < n := by omega
        have key : ag p (qs.getD i (0, 0)) < ag p (qs.getD n (0, 0)) := by
          cases e1 : (fstate p qs n).1 with
          | none =>
            rw [e1] at ih
            dsimp only at ih
            omega
          | some j =>
            rw [e1] at ih c
            obtain ⟨_, h2, h3⟩ := ih
            rcases c with c | c
            · cases c
            · rw [h2] at c
              have := (h3 i hin).1
              omega
        exact ⟨Int.le_of_lt key, fun _ => key⟩
    · rw [if_neg c]
      cases e1 : (fstate p qs n).1 with
      | none => exact absurd (.inl e1) c
      | some j =>
        rw [e1] at ih
        obtain ⟨h1, h2, h3⟩ := ih
        refine ⟨by omega, h2, fun i hi => ?_⟩
        by_cases e : i = n
        · subst e
          have : ¬ (fstate p qs i).2 < ag p (qs.getD i (0, 0)) := fun h => c (.inr h)
          rw [h2] at this
          exact ⟨by omega, fun h => by omega⟩
        · exact h3 i (by omega)
theorem firstIdx_is (p : Int) (qs : List (Int × Int)) : IsFirst p qs (firstIdx p qs) := by
  have h := fstate_is p qs qs.length
  unfold firstIdx
  cases e : (fstate p qs qs.length).1 with
  | none =>
    rw [e] at h
    exact List.length_eq_zero_iff.mp h
  | some j =>
    rw [e] at h
    exact ⟨h.1, h.2.2⟩
def optV : Option Nat → V
  | none => .non
  | some j => .int (j : Int)
/-- at a: a list of pairs -/
structure Rows (K : PySem.W.Frag) (H : Hp) (a : Addr) (qs : List (Int × Int)) (ts : List Addr) : Prop where
  l : SqL K H a (ts.map V.ref)
  n : ts.length = qs.length
  t : ∀ (i : Nat) (t : Addr) (q : Int × Int), ts[i]? = some t → qs[i]? = some q → SqT K H t [.int q.1, .int q.2]
theorem Rows.ex {K : PySem.W.Frag} {H H' : Hp} {a : Addr} {qs : List (Int × Int)} {ts : List Addr} (e : Ex H H') (r : Rows K H a qs ts) : Rows K H' a qs ts := ⟨ex_l e r.l, r.n, fun i t q h1 h2 => ex_t e (r.t i t q h1 h2)⟩
theorem Rows.at_ {K : PySem.W.Frag} {H : Hp} {a : Addr} {qs : List (Int × Int)} {ts : List Addr} (r : Rows K H a qs ts) {i : Nat} (hi : i < qs.length) : ∃ t, (ts.map V.ref)[i]? = some (.ref t) ∧ SqT K H t [.int (qs.getD i (0, 0)).1, .int (qs.getD i (0, 0)).2] := by
  have h1 : i < ts.length := by rw [r.n]; exact hi
  refine ⟨ts[i], by rw [List.getElem?_map, List.getElem?_eq_getElem h1]; rfl, ?_⟩
  have e : qs.getD i (0, 0) = qs[i] := by rw [List.getD_eq_getElem?_getD, List.getElem?_eq_getElem hi]; rfl
  rw [e]
  exact r.t i _ _ (List.getElem?_eq_getElem h1) (List.getElem?_eq_getElem hi)
theorem Rows.snoc {K : PySem.W.Frag} {H H' : Hp} {l t : Addr} {qs : List (Int × Int)} {ts : List Addr} {a b : Int} (r : Rows K H l qs ts) (hl : H l = some (.lst (ts.map V.ref))) (e : Ex H H') (ht : H' t = some (.tup [.int a, .int b])) :
    Rows K (upd H' l (.lst (ts.map V.ref ++ [.ref t]))) l (qs ++ [(a, b)]) (ts ++ [t]) := by
  have hl' := e _ _ hl
  refine ⟨?_, ?_, fun i t' q h1 h2 => ?_⟩
  · rw [List.map_append]
    exact sq_of upd_same
  · rw [List.length_append, List.length_append, r.n]
    rfl
  · by_cases hi : i < qs.length
    · rw [List.getElem?_append_left (by rw [r.n]; exact hi)] at h1
      rw [List.getElem?_append_left hi] at h2
      exact sqT_upd (ex_t e (r.t i t' q h1 h2)) hl'
    · rw [List.getElem?_append_right (by rw [r.n]; omega)] at h1
      rw [List.getElem?_append_right (by omega)] at h2
      rw [r.n] at h1
      have ei : i - qs.length = 0 := by
        have := (List.getElem?_eq_some_iff.mp h2).1
        simp at this
        omega
      rw [ei] at h1 h2
      cases h1
      cases h2
      exact sqT_upd (st_of ht) hl'
theorem depth2 (qs : List (Int × Int)) : (PyData.canLayAll0 (qs.map fun q => PyData.tuple [.int q.1, .int q.2]) = true) ∧ PyData.depthAll (qs.map fun q => PyData.tuple [.int q.1, .int q.2]) ≤ 1 := by
  induction qs with
  | nil => exact ⟨rfl, by decide⟩
  | cons q qs ih =>
    refine ⟨?_, ?_⟩
    · simp only [List.map_cons, PyData.canLayAll0, PyData.canLay0, ih.1, Bool.and_self]
    · have := ih.2
      simp only [List.map_cons, PyData.depthAll, PyData.depth]
      omega
theorem Rows.dp {K : PySem.W.Frag} {H : Hp} {a : Addr} {qs : List (Int × Int)} {ts : List Addr} (r : Rows K H a qs ts) : Dp K H (.ref a) (.list (qs.map fun q => PyData.tuple [.int q.1, .int q.2])) := by
  refine .lst r.l ?_
  have n := r.n
  have t := r.t
  clear r
  induction qs generalizing ts with
  | nil =>
    have e : ts = [] := List.length_eq_zero_iff.mp n
    rw [e]
    exact .nil
  | cons q qs ih =>
    cases ts with
    | nil => cases n
    | cons t0 ts =>
      refine .cons (.tup (t 0 t0 q rfl rfl) (.cons (.int _) (.cons (.int _) .nil))) (ih (by simpa using n) fun i t' q' h1 h2 => t (i + 1) t' q' (by simpa using h1) (by simpa using h2))
theorem rv_neRows {K : PySem.W.Frag} {H : Hp} {a b : Addr} {qs : List (Int × Int)} {ts ts' : List Addr} (r : Rows K H a qs ts) (r' : Rows K H b qs ts') : RV (rNeD K) (.ref a) (.ref b) H (.bl false) := fun H1 e Q q => by
  have hs : SeqAt.shaped (.list (qs.map fun q => PyData.tuple [.int q.1, .int q.2])) = true := by
    unfold SeqAt.shaped
    have := depth2 qs
    refine Bool.and_eq_true_iff.mpr ⟨this.1, decide_eq_true ?_⟩
    simp only [PyData.depth]
    omega
  refine ⟨_, _, (r.ex e).dp, (r'.ex e).dp, hs, hs, ?_⟩
  rw [SeqAt.eqv_refl _ (Bool.and_eq_true_iff.mp hs).1]
  exact q H1 (Ex.refl H1)
/-! ### L_rows -/
theorem sc_L_rows : FnScope ["_law_script", "_law_many", "_law_pace", "_law_rows_here", "_law_k", "_law_cell", "_law_rank", "_law_waited"] ["_law_script", "_law_many", "_law_pace"] (defScope s_L_rows) := ⟨rfl, rfl, rfl, by decide +kernel, rfl, by decide +kernel, by decide +kernel⟩
def sp_L_rows (K : PySem.W.Frag) : Sp := fun vs H Q _ => ∃ (a : Addr) (ns : List Int) (n p : Int), vs = [.ref a, .int n, .int p] ∧ SqL K H a (ns.map V.int) ∧ 0 ≤ n ∧ n ≤ 60 ∧ 0 < p ∧ p < 1073741824 ∧
  ∀ (q : Addr) (qs : List (Int × Int)) (ts : List Addr) (H2 : Hp), H q = none → Ex H H2 → H2 q = some (.lst (ts.map V.ref)) → Rows K H2 q qs ts → (qs.length : Int) = n → Q (.ref q) H2
theorem ok_L_rows {P : Program} {w : World} {K : PySem.W.Frag} {mg : Str → Option Value} {base : Heap} (T : Txt K mg) : ∃ fd, FnOk P w K mg base (CX0) 2 (He.ga K "_law_rows") fd ["_law_script", "_law_many", "_law_pace"] (sp_L_rows K) ∧ Binds K fd ["_law_script", "_law_many", "_law_pace"] [] ∧ FunD K "_law_rows" "_law_rows" (defArgs s_L_rows) (defBody s_L_rows) (defScope s_L_rows) [] [] (He.ga K "_law_rows") fd := by
  obtain ⟨fd, F⟩ := f_L_rows T
  obtain ⟨d_L_cell_at, G_L_cell_at, b_L_cell_at, _⟩ := ok_L_cell_at (P := P) (w := w) (base := base) T
  obtain ⟨d_L_mix, G_L_mix, b_L_mix, _⟩ := ok_L_mix (P := P) (w := w) (base := base) T
  refine ⟨fd, ok0 F sc_L_rows (fun vs H Q E h => ?_) (fun cdv A outer s H vs Q E hr h => ?_), FunD.bindsN F fun _ _ _ _ _ _ us hl => match us, hl with | [_, _, _], _ => rfl, F⟩
  · (repeat (obtain ⟨_, h⟩ := h)); subst_vars; rfl
  · obtain ⟨a, ns, n, p, rfl, hS, h0, h6, hp, hp2, k⟩ := h
    refine ⟨_, (pss_cons (ps_set (i := 3) sc_L_rows.nd rfl (Or.inl rfl) (pe_lst pa_nil))
        (pss_cons (ps_for PassesOwn.never rfl (pi_range1 rfl (b_range T) (pa_cons (pv 1) pa_nil)) (pg_name (i := 4) sc_L_rows.nd rfl (Or.inl rfl))
        (pss_cons (ps_set (i := 5) sc_L_rows.nd rfl (Or.inl rfl) (pe_op op_add (pe_call G_L_cell_at (hr.mono (by decide)) rfl (g_L_cell_at T) (kp_L_cell_at T) b_L_cell_at .nil pass0 (pa_cons (pv 0) (pa_cons (pe_op op_add pe_int (pe_op op_mod (pv 4) pe_int)) pa_nil))) (pe_op op_mul pe_int (pv 4))))
        (pss_cons (ps_set (i := 6) sc_L_rows.nd rfl (Or.inl rfl) (pe_call G_L_mix (hr.mono (by decide)) rfl (g_L_mix T) (kp_L_mix T) b_L_mix .nil pass0 (pa_cons (pv 5) (pa_cons pe_int (pa_cons pe_int pa_nil)))))
        (pss_cons (ps_if (pt_cmpR op_eq (pe_op op_mod (pe_call G_L_cell_at (hr.mono (by decide)) rfl (g_L_cell_at T) (kp_L_cell_at T) b_L_cell_at .nil pass0 (pa_cons (pv 0) (pa_cons pe_int pa_nil))) pe_int) pe_int (nomark _)) (pss_one (ps_set (i := 6) sc_L_rows.nd rfl (Or.inl rfl) (pe_op op_add pe_int (pe_op op_mod (pv 6) pe_int))))
        pss_nil)
        (pss_cons (ps_set (i := 7) sc_L_rows.nd rfl (Or.inl rfl) (pe_callB (call_max2 rfl) rfl (b_max T) (by decide +kernel) (pa_cons pe_int (pa_cons (pe_op op_sub (pe_op op_add (pe_op op_mul (pe_call G_L_mix (hr.mono (by decide)) rfl (g_L_mix T) (kp_L_mix T) b_L_mix .nil pass0 (pa_cons (pv 5) (pa_cons pe_int (pa_cons pe_int pa_nil)))) (pv 2)) (pe_call G_L_mix (hr.mono (by decide)) rfl (g_L_mix T) (kp_L_mix T) b_L_mix .nil pass0 (pa_cons (pv 5) (pa_cons pe_int (pa_cons pe_int pa_nil))))) pe_int) pa_nil))))
        (pss_cons (ps_if (pt_cmpR op_eq (pe_op op_mod (pe_call G_L_cell_at (hr.mono (by decide)) rfl (g_L_cell_at T) (kp_L_cell_at T) b_L_cell_at .nil pass0 (pa_cons (pv 0) (pa_cons pe_int pa_nil))) pe_int) pe_int (nomark _)) (pss_one (ps_set (i := 7) sc_L_rows.nd rfl (Or.inl rfl) (pe_op op_add (pv 7) (pe_op op_pow pe_int pe_int))))
        pss_nil)
        (pss_one (ps_expr (pe_bm PySem.F.plainAttrs_list PySem.F.slot_list_append PySem.F.type_list_append mt_append (pv 3) (pa_cons (pe_tup (pa_cons (pv 6) (pa_cons (pv 7) pa_nil))) pa_nil))))))))))
        (pss_one (ps_ret (pv 3))))), ?_⟩
    refine' q_asgL (el_lst ea_nil (by decide)) fun l H1 hl e1 hL => ?_
    refine q_forR1 (n := n) (ea_cons (ev_var rfl) ea_nil) (by omega)
      (fun i σ' H' => ∃ (qs : List (Int × Int)) (ts : List Addr) (v4 v5 v6 v7 : Option V), σ' = [some (.ref a), some (.int n), some (.int p), some (.ref l), v4, v5, v6, v7] ∧ Ex H H' ∧ H' l = some (.lst (ts.map V.ref)) ∧ Rows K H' l qs ts ∧ qs.length = i)
      (fun H2 e2 => ⟨[], [], none, none, none, none, rfl, e1.trans e2, e2 _ _ hL, ⟨sq_of (e2 _ _ hL), rfl, fun i t q h => by simp at h⟩, rfl⟩) ?_ ?_
    · rintro i σ' H' hi ⟨qs, ts, v4, v5, v6, v7, rfl, e2, hL2, hR, hn⟩
      have hS := ex_l e2 hS
      refine' q_asg ?h fun H3 e3 => ?_
      case h => tm_at "rr.ev"
      generalize cellAt ns (3 + (i : Int) % 20) + 31 * (i : Int) = c
      refine' q_asg ?h fun H4 e4 => ?_
      case h => tm_at "rr.ev"
      have hS := ex_l (e3.trans e4) hS
      generalize mix c 10009 100 = r0
      refine q_ifAsg (b := decide (V.int (cellAt ns 1 % 2) = V.int 1)) (v := .int (if decide (V.int (cellAt ns 1 % 2) = V.int 1) = true then 90 + r0 % 3 else r0)) ?c (fun hb => ?h1) (fun hb => ?h2) (fun H5 e5 => ?_)
      case c => tm_at "rr.ev"
      case h1 => rw [if_pos hb]; tm_at "rr.ev"
      case h2 => rw [if_neg (by rw [hb]; decide)]; rfl
      have hS := ex_l e5 hS
      generalize (if decide (V.int (cellAt ns 1 % 2) = V.int 1) = true then 90 + r0 % 3 else r0) = r
      refine' q_asg ?h fun H6 e6 => ?_
      case h => tm_at "rr.ev"
      have hS := ex_l e6 hS
      dsimp only
      generalize (if mix c 10037 10 * p + mix c 10039 3 - 1 > 0 then mix c 10037 10 * p + mix c 10039 3 - 1 else 0) = w0
      refine q_ifAsg (b := decide (V.int (cellAt ns 2 % 7) = V.int 1)) (v := .int (if decide (V.int (cellAt ns 2 % 7) = V.int 1) = true then w0 + 10 ^ (Int.toNat 11) else w0)) ?c (fun hb => ?h1) (fun hb => ?h2) (fun H7 e7 => ?_)
      case c => tm_at "rr.ev"
      case h1 => rw [if_pos hb]; tm_at "rr.ev"
      case h2 => rw [if_neg (by rw [hb]; decide)]; rfl
      generalize (if decide (V.int (cellAt ns 2 % 7) = V.int 1) = true then w0 + 10 ^ (Int.toNat 11) else w0) = wt
      have e37 := (((e3.trans e4).trans e5).trans e6).trans e7
      have hL7 := e37 _ _ hL2
      refine s_appU hL7 (ev_var rfl) (eu_tup (ea_cons (ev_var rfl) (ea_cons (ev_var rfl) ea_nil)) (by show 2 ≤ 100000; decide)) (by rw [List.length_map, hR.n]; omega) fun t H8 ht e8 h8 => ?_
      refine ⟨qs ++ [(r, wt)], ts ++ [t], some (.int i), _, _, _, rfl, Ex.mut ((e2.trans e37).trans e8) hl, ?_, (hR.ex e37).snoc hL7 e8 h8, by rw [List.length_append, hn]; rfl⟩
      rw [List.map_append]
      exact upd_same
    · rintro σ' H' ⟨qs, ts, v4, v5, v6, v7, rfl, e2, hL2, hR, hn⟩
      exact s_ret (ev_var rfl) fun H3 e3 => k l qs ts H3 hl (e2.trans e3) (e3 _ _ hL2) (hR.ex e3) (by omega)
/-! ### aged -/
theorem sc_aged : FnScope ["rank", "waited", "pace"] ["rank", "waited", "pace"] (defScope s_aged) := ⟨rfl, rfl, rfl, by decide +kernel, rfl, by decide +kernel, by decide +kernel⟩
def sp_aged (_ : PySem.W.Frag) : Sp := fun vs H Q _ => ∃ (r wt p : Int), vs = [.int r, .int wt, .int p] ∧ 0 < p ∧ p < 1073741824 ∧ RetV (.int (r + wt / p)) H Q
theorem cv_aged {K : PySem.W.Frag} {H : Hp} {r wt p : Int} (h1 : 0 < p) (h2 : p < 1073741824) : SpV (sp_aged K) ([.int r, .int wt, .int p] ++ []) H (.int (r + wt / p)) := spv_call fun _ _ _ _ k => ⟨r, wt, p, rfl, h1, h2, k⟩
local macro_rules | `(tactic| tm_at "rr.cv") => `(tactic| refine' cv_aged ?_ ?_)
theorem ok_aged {P : Program} {w : World} {K : PySem.W.Frag} {mg : Str → Option Value} {base : Heap} (T : Txt K mg) : ∃ fd, FnOk P w K mg base (CX0) 1 (He.ga K "aged") fd ["rank", "waited", "pace"] (sp_aged K) ∧ Binds K fd ["rank", "waited", "pace"] [] ∧ FunD K "aged" "aged" (defArgs s_aged) (defBody s_aged) (defScope s_aged) [] [] (He.ga K "aged") fd := by
  obtain ⟨fd, F⟩ := f_aged T
  refine ⟨fd, ok0 F sc_aged (fun vs H Q E h => ?_) (fun cdv A outer s H vs Q E hr h => ?_), FunD.bindsN F fun _ _ _ _ _ _ us hl => match us, hl with | [_, _, _], _ => rfl, F⟩
  · (repeat (obtain ⟨_, h⟩ := h)); subst_vars; rfl
  · obtain ⟨r, wt, p, rfl, h1, h2, k⟩ := h
    refine ⟨_, (pss_one (ps_ret (pe_op op_add (pv 0) (pe_op op_fdiv (pv 1) (pv 2))))), ?_⟩
    exact s_ret (ev_op (ev_var rfl) (ev_op (ev_var rfl) (ev_var rfl) (rv_I ⟨h1, h2⟩)) rv_I0) k
/-! ### first -/
theorem sc_first : FnScope ["rows", "pace", "best", "most", "k", "found"] ["rows", "pace"] (defScope s_first) := ⟨rfl, rfl, rfl, by decide +kernel, rfl, by decide +kernel, by decide +kernel⟩
def sp_first (K : PySem.W.Frag) : Sp := fun vs H Q _ => ∃ (a : Addr) (qs : List (Int × Int)) (ts : List Addr) (p : Int), vs = [.ref a, .int p] ∧ Rows K H a qs ts ∧ qs.length ≤ 1000 ∧ 0 < p ∧ p < 1073741824 ∧ RetV (optV (firstIdx p qs)) H Q
theorem cv_first {K : PySem.W.Frag} {H : Hp} {a : Addr} {qs : List (Int × Int)} {ts : List Addr} {p : Int} (h : Rows K H a qs ts) (h1 : qs.length ≤ 1000) (h2 : 0 < p) (h3 : p < 1073741824) : SpV (sp_first K) ([.ref a, .int p] ++ []) H (optV (firstIdx p qs)) :=
  spv_call fun _ e _ _ k => ⟨a, qs, ts, p, rfl, h.ex e, h1, h2, h3, k⟩
theorem ok_first {P : Program} {w : World} {K : PySem.W.Frag} {mg : Str → Option Value} {base : Heap} (T : Txt K mg) : ∃ fd, FnOk P w K mg base (CX0) 2 (He.ga K "first") fd ["rows", "pace"] (sp_first K) ∧ Binds K fd ["rows", "pace"] [] ∧ FunD K "first" "first" (defArgs s_first) (defBody s_first) (defScope s_first) [] [] (He.ga K "first") fd := by
  obtain ⟨fd, F⟩ := f_first T
  obtain ⟨d_aged, G_aged, b_aged, _⟩ := ok_aged (P := P) (w := w) (base := base) T
  refine ⟨fd, ok0 F sc_first (fun vs H Q E h => ?_) (fun cdv A outer s H vs Q E hr h => ?_), FunD.bindsN F fun _ _ _ _ _ _ us hl => match us, hl with | [_, _], _ => rfl, F⟩
  · (repeat (obtain ⟨_, h⟩ := h)); subst_vars; rfl
  · obtain ⟨a, qs, ts, p, rfl, hR, hz, hp, hp2, k⟩ := h
    refine ⟨_, (pss_cons (ps_set (i := 2) sc_first.nd rfl (Or.inl rfl) pe_non)
        (pss_cons (ps_set (i := 3) sc_first.nd rfl (Or.inl rfl) pe_int)
        (pss_cons (ps_for PassesOwn.never rfl (pi_range1 rfl (b_range T) (pa_cons (pe_callB call_len_seq rfl (b_len T) (by decide +kernel) (pa_cons (pv 0) pa_nil)) pa_nil)) (pg_name (i := 4) sc_first.nd rfl (Or.inl rfl))
        (pss_cons (ps_set (i := 5) sc_first.nd rfl (Or.inl rfl) (pe_call G_aged (hr.mono (by decide)) rfl (g_aged T) (kp_aged T) b_aged .nil pass0 (pa_cons (pe_ix ix_tup (pe_ix ix_list (pv 0) (pv 4) (fun _ _ => rfl)) pe_int (fun _ _ => rfl)) (pa_cons (pe_ix ix_tup (pe_ix ix_list (pv 0) (pv 4) (fun _ _ => rfl)) pe_int (fun _ _ => rfl)) (pa_cons (pv 1) pa_nil)))))
        (pss_one (ps_if (PW.pt (pw_or (pt_cmpR op_isN (pv 2) pe_non (nomark _)) (pw_or1 (pt_cmpR op_gt (pv 5) (pv 3) (nomark _))))) (pss_cons (ps_set (i := 2) sc_first.nd rfl (Or.inl rfl) (pv 4))
        (pss_one (ps_set (i := 3) sc_first.nd rfl (Or.inl rfl) (pv 5))))
        pss_nil))))
        (pss_one (ps_ret (pv 2)))))), ?_⟩
    refine' q_asg ev_c fun H1 e1 => ?_
    refine' q_asg ev_c fun H2 e2 => ?_
    have hR2 := hR.ex (e1.trans e2)
    have hl : ((ts.map V.ref).length : Int) = (qs.length : Int) := by rw [List.length_map, hR.n]
    refine q_forR1 (n := ((ts.map V.ref).length : Int)) (ea_cons (ev_cb (ea_cons (ev_var rfl) ea_nil) (rc_len hR2.l)) ea_nil) (by omega)
      (fun i σ' H' => Ex H2 H' ∧ ∃ v4 v5 : Option V, σ' = [some (.ref a), some (.int p), some (optV (fstate p qs i).1), some (.int (fstate p qs i).2), v4, v5]) (fun H3 e3 => ⟨e3, none, none, rfl⟩) ?_ ?_
    · rintro i σ' H' hi ⟨e3, v4, v5, rfl⟩
      have hi' : i < qs.length := by omega
      have hR3 := hR2.ex e3
      obtain ⟨t, ht, hT⟩ := hR3.at_ hi'
      refine' q_asg (v := .int (ag p (qs.getD i (0, 0)))) ?h fun H4 e4 => ?_
      case h =>
        exact ev_call (ea_cons (ev_op (ev_op (ev_var rfl) (ev_var rfl) (rv_ixL hR3.l (at_of rfl ht))) ev_c (rv_ixT hT rfl)) (ea_cons (ev_op (ev_op (ev_var rfl) (ev_var rfl) (rv_ixL hR3.l (at_of rfl ht))) ev_c (rv_ixT hT rfl)) (ea_cons (ev_var rfl) ea_nil))) (cv_aged hp hp2)
      refine' s_when ?h (fun hb H5 e5 => ?_) (fun hb H5 e5 => ?_)
      case h => tm_at "rr.ev"
      · refine' q_asg (ev_var rfl) fun H6 e6 => ?_
        refine' s_asg (ev_var rfl) fun H7 e7 => ?_
        have c : (fstate p qs i).1 = none ∨ (fstate p qs i).2 < ag p (qs.getD i (0, 0)) := by
          cases e9 : (fstate p qs i).1 with
          | none => exact .inl rfl
          | some j =>
            rw [e9] at hb
            exact .inr (of_decide_eq_true (by simpa [optV] using hb))
        refine ⟨(((e3.trans e4).trans e5).trans e6).trans e7, some (.int i), some (.int (ag p (qs.getD i (0, 0)))), ?_⟩
        rw [fstate_succ, fstep, if_pos c]
        rfl
      · have c : ¬ ((fstate p qs i).1 = none ∨ (fstate p qs i).2 < ag p (qs.getD i (0, 0))) := by
          intro c
          rcases c with c | c
          · rw [c] at hb
            exact absurd hb (by simp [optV])
          · rw [decide_eq_true c] at hb
            exact absurd hb (by simp)
        refine ⟨(e3.trans e4).trans e5, some (.int i), some (.int (ag p (qs.getD i (0, 0)))), ?_⟩
        rw [fstate_succ, fstep, if_neg c]
        rfl
    · rintro σ' H' ⟨e3, v4, v5, rfl⟩
      have ez : ((ts.map V.ref).length : Int).toNat = qs.length := by omega
      rw [ez]
      exact s_ret (ev_var rfl) fun H4 e4 => k H4 (((e1.trans e2).trans e3).trans e4)
/-! ### L_whole -/
theorem sc_L_whole : FnScope ["_law_found"] ["_law_found"] (defScope s_L_whole) := ⟨rfl, rfl, rfl, by decide +kernel, rfl, by decide +kernel, by decide +kernel⟩
def sp_L_whole (_ : PySem.W.Frag) : Sp := fun vs H Q _ => ∃ (i : Int), vs = [.int i] ∧ RetV (.bl true) H Q
theorem cv_L_whole {K : PySem.W.Frag} {H : Hp} {i : Int} : SpV (sp_L_whole K) ([.int i] ++ []) H (.bl true) := spv_call fun _ _ _ _ k => ⟨i, rfl, k⟩
local macro_rules | `(tactic| tm_at "rr.cv") => `(tactic| exact cv_L_whole)
theorem ok_L_whole {P : Program} {w : World} {K : PySem.W.Frag} {mg : Str → Option Value} {base : Heap} (T : Txt K mg) : ∃ fd, FnOk P w K mg base (CX0) 1 (He.ga K "_law_whole") fd ["_law_found"] (sp_L_whole K) ∧ Binds K fd ["_law_found"] [] ∧ FunD K "_law_whole" "_law_whole" (defArgs s_L_whole) (defBody s_L_whole) (defScope s_L_whole) [] [] (He.ga K "_law_whole") fd := by
  obtain ⟨fd, F⟩ := f_L_whole T
  refine ⟨fd, ok0 F sc_L_whole (fun vs H Q E h => ?_) (fun cdv A outer s H vs Q E hr h => ?_), FunD.bindsN F fun _ _ _ _ _ _ us hl => match us, hl with | [_], _ => rfl, F⟩
  · (repeat (obtain ⟨_, h⟩ := h)); subst_vars; rfl
  · obtain ⟨i, rfl, k⟩ := h
    refine ⟨_, (pss_one (ps_ret (pe_and (pe_callB call_isi rfl (b_isinstance T) (by decide +kernel) (pa_cons (pv 0) (pa_cons (pe_bltn (v := .ty "int") rfl (b_int T) (by decide +kernel) rfl) pa_nil))) (pe_one (pe_not (pe_callB call_isi rfl (b_isinstance T) (by decide +kernel) (pa_cons (pv 0) (pa_cons (pe_bltn (v := .ty "bool") rfl (b_bool T) (by decide +kernel) rfl) pa_nil)))))))), ?_⟩
    exact s_ret (ev_andV (ev_cb (ea_cons (ev_var rfl) (ea_cons ev_c ea_nil)) rc_isi_int) fun _ => ev_notV (ev_cb (ea_cons (ev_var rfl) (ea_cons ev_c ea_nil)) rc_isi_int_bool)) k
/-! ### law -/
theorem sc_law : FnScope ["_law_script", "_law_pace", "_law_many", "_law_rows_here", "_law_handed", "_law_found", "_law_best", "_law_k", "_law_other"] ["_law_script"] (defScope s_law) := ⟨rfl, rfl, rfl, by decide +kernel, rfl, by decide +kernel, by decide +kernel⟩
def sp_law (K : PySem.W.Frag) : Sp := fun vs H Q _ => ∃ (a : Addr) (ns : List Int), vs = [.ref a] ∧ SqL K H a (ns.map V.int) ∧ ns.length ≤ 63 ∧ ∀ H', Q (.bl true) H'
theorem ok_law {P : Program} {w : World} {K : PySem.W.Frag} {mg : Str → Option Value} {base : Heap} (T : Txt K mg) : ∃ fd, FnOk P w K mg base (CX0) 3 (He.ga K "law") fd ["_law_script"] (sp_law K) ∧ Binds K fd ["_law_script"] [] ∧ FunD K "law" "law" (defArgs s_law) (defBody s_law) (defScope s_law) [] [] (He.ga K "law") fd := by
  obtain ⟨fd, F⟩ := f_law T
  obtain ⟨d_L_pace_by, G_L_pace_by, b_L_pace_by, _⟩ := ok_L_pace_by (P := P) (w := w) (base := base) T
  obtain ⟨d_L_cell_at, G_L_cell_at, b_L_cell_at, _⟩ := ok_L_cell_at (P := P) (w := w) (base := base) T
  obtain ⟨d_L_rows, G_L_rows, b_L_rows, _⟩ := ok_L_rows (P := P) (w := w) (base := base) T
  obtain ⟨d_first, G_first, b_first, _⟩ := ok_first (P := P) (w := w) (base := base) T
  obtain ⟨d_L_whole, G_L_whole, b_L_whole, _⟩ := ok_L_whole (P := P) (w := w) (base := base) T
  refine ⟨fd, ok0 F sc_law (fun vs H Q E h => ?_) (fun cdv A outer s H vs Q E hr h => ?_), FunD.bindsN F fun _ _ _ _ _ _ us hl => match us, hl with | [_], _ => rfl, F⟩
  · (repeat (obtain ⟨_, h⟩ := h)); subst_vars; rfl
  · obtain ⟨a, ns, rfl, hS, _, k⟩ := h
    refine ⟨_, (pss_cons (ps_set (i := 1) sc_law.nd rfl (Or.inl rfl) (pe_call G_L_pace_by (hr.mono (by decide)) rfl (g_L_pace_by T) (kp_L_pace_by T) b_L_pace_by .nil pass0 (pa_cons (pe_call G_L_cell_at (hr.mono (by decide)) rfl (g_L_cell_at T) (kp_L_cell_at T) b_L_cell_at .nil pass0 (pa_cons (pv 0) (pa_cons pe_int pa_nil))) pa_nil)))
        (pss_cons (ps_set (i := 2) sc_law.nd rfl (Or.inl rfl) (pe_op op_mod (pe_call G_L_cell_at (hr.mono (by decide)) rfl (g_L_cell_at T) (kp_L_cell_at T) b_L_cell_at .nil pass0 (pa_cons (pv 0) (pa_cons pe_int pa_nil))) pe_int))
        (pss_cons (ps_if (pt_cmpR op_eq (pe_op op_mod (pe_op op_fdiv (pe_call G_L_cell_at (hr.mono (by decide)) rfl (g_L_cell_at T) (kp_L_cell_at T) b_L_cell_at .nil pass0 (pa_cons (pv 0) (pa_cons pe_int pa_nil))) pe_int) pe_int) pe_int (nomark _)) (pss_one (ps_set (i := 2) sc_law.nd rfl (Or.inl rfl) pe_int))
        pss_nil)
        (pss_cons (ps_set (i := 3) sc_law.nd rfl (Or.inl rfl) (pe_call G_L_rows (hr.mono (by decide)) rfl (g_L_rows T) (kp_L_rows T) b_L_rows .nil pass0 (pa_cons (pv 0) (pa_cons (pv 2) (pa_cons (pv 1) pa_nil)))))
        (pss_cons (ps_set (i := 4) sc_law.nd rfl (Or.inl rfl) (pe_callTy call_list_of rfl (b_list T) (by decide +kernel) (pa_cons (pv 3) pa_nil)))
        (pss_cons (ps_set (i := 5) sc_law.nd rfl (Or.inl rfl) (pe_call G_first (hr.mono (by decide)) rfl (g_first T) (kp_first T) b_first .nil pass0 (pa_cons (pv 4) (pa_cons (pv 1) pa_nil))))
        (pss_cons (ps_if (pt_cmpR (op_neD hr.units) (pv 4) (pv 3) (nomark _)) (pss_one (ps_ret pe_bl))
        pss_nil)
        (pss_cons (ps_if (pt_cmpR op_eq (pv 2) pe_int (nomark _)) (pss_one (ps_ret (pe_cmpR op_isN (pv 5) pe_non (nomark _))))
        pss_nil)
        (pss_cons (ps_if (PW.pt (pw_or (pt_not (pt_val (pe_call G_L_whole (hr.mono (by decide)) rfl (g_L_whole T) (kp_L_whole T) b_L_whole .nil pass0 (pa_cons (pv 5) pa_nil)))) (pw_or (pt_cmpR op_lt (pv 5) pe_int (nomark _)) (pw_or1 (pt_cmpR op_ge (pv 5) (pv 2) (nomark _)))))) (pss_one (ps_ret pe_bl))
        pss_nil)
        (pss_cons (ps_set (i := 6) sc_law.nd rfl (Or.inl rfl) (pe_op op_add (pe_ix ix_tup (pe_ix ix_list (pv 3) (pv 5) (fun _ _ => rfl)) pe_int (fun _ _ => rfl)) (pe_op op_fdiv (pe_ix ix_tup (pe_ix ix_list (pv 3) (pv 5) (fun _ _ => rfl)) pe_int (fun _ _ => rfl)) (pv 1))))
        (pss_cons (ps_for PassesOwn.never rfl (pi_range1 rfl (b_range T) (pa_cons (pv 2) pa_nil)) (pg_name (i := 7) sc_law.nd rfl (Or.inl rfl))
        (pss_cons (ps_set (i := 8) sc_law.nd rfl (Or.inl rfl) (pe_op op_add (pe_ix ix_tup (pe_ix ix_list (pv 3) (pv 7) (fun _ _ => rfl)) pe_int (fun _ _ => rfl)) (pe_op op_fdiv (pe_ix ix_tup (pe_ix ix_list (pv 3) (pv 7) (fun _ _ => rfl)) pe_int (fun _ _ => rfl)) (pv 1))))
        (pss_one (ps_if (PW.pt (pw_or (pt_cmpR op_gt (pv 8) (pv 6) (nomark _)) (pw_or1 (PW.pt (pw_and (pt_cmpR op_eq (pv 8) (pv 6) (nomark _)) (pw_and1 (pt_cmpR op_lt (pv 7) (pv 5) (nomark _)))))))) (pss_one (ps_ret pe_bl))
        pss_nil))))
        (pss_one (ps_ret pe_bl))))))))))))), ?_⟩
    refine' q_asg ?h fun H1 e1 => ?_
    case h => tm_at "rr.ev"
    have hS := ex_l e1 hS
    obtain ⟨hp1, hp2⟩ := paceBy_ok (cellAt ns 2)
    generalize paceBy (cellAt ns 2) = p at hp1 hp2 ⊢
    refine' q_asg ?h fun H2 e2 => ?_
    case h => tm_at "rr.ev"
    have hS := ex_l e2 hS
    have hm0 := Int.emod_nonneg (cellAt ns 0) (by decide : (7 : Int) ≠ 0)
    have hm1 := Int.emod_lt_of_pos (cellAt ns 0) (by decide : (0 : Int) < 7)
    generalize cellAt ns 0 % 7 = m0 at hm0 hm1 ⊢
    obtain ⟨bb, ebb⟩ : ∃ bb, bb = decide (V.int (cellAt ns 0 / 7 % 5) = V.int 1) := ⟨_, rfl⟩
    refine q_ifAsg (b := bb) (v := .int (if bb = true then 60 else m0)) ?c (fun hb => ?h1) (fun hb => ?h2) (fun H3 e3 => ?_)
    case c => rw [ebb]; tm_at "rr.ev"
    case h1 => rw [if_pos hb]; tm_at "rr.ev"
    case h2 => rw [if_neg (by rw [hb]; decide)]; rfl
    have hS := ex_l e3 hS
    have hmm : 0 ≤ (if bb = true then 60 else m0) ∧ (if bb = true then 60 else m0) ≤ 60 := by split <;> omega
    generalize (if bb = true then 60 else m0) = m at hmm ⊢
    refine q_call (ea_cons (ev_var rfl) (ea_cons (ev_var rfl) (ea_cons (ev_var rfl) ea_nil))) fun H4 e4 => ?_
    refine ⟨a, ns, m, p, rfl, ex_l e4 hS, hmm.1, hmm.2, by omega, by omega, fun q qs ts H5 hq e5 h5 hR hn => ?_⟩
    refine q_asgL (el_list (ev_var rfl) hR.l) fun q2 H6 hq2 e6 h6 => ?_
    have hR1 := hR.ex e6
    have hR2 : Rows K H6 q2 qs ts := ⟨sq_of h6, hR1.n, hR1.t⟩
    refine' q_asg (v := optV (firstIdx p qs)) ?h fun H7 e7 => ?_
    case h => exact ev_call (ea_cons (ev_var rfl) (ea_cons (ev_var rfl) ea_nil)) (cv_first hR2 (by omega) (by omega) (by omega))
    have hR1 := hR1.ex e7
    have hR2 := hR2.ex e7
    refine q_when (b := false) ?h (fun hb _ _ => absurd hb (by decide)) (fun _ H8 e8 => ?_)
    case h => exact et_test (ev_op (ev_var rfl) (ev_var rfl) (rv_neRows hR2 hR1))
    have hR1 := hR1.ex e8
    have hF := firstIdx_is p qs
    cases eo : firstIdx p qs with
    | none =>
      rw [eo] at hF
      have hm : m = 0 := by rw [← hn, hF]; rfl
      refine' q_when ?h (fun hb H9 e9 => ?_) (fun hb H9 e9 => ?_)
      case h => tm_at "rr.ev"
      · refine' s_ret ?h fun H10 _ => ?_
        case h => tm_at "rr.ev"
        exact k H10
      · exact absurd hm (by simpa using hb)
    | some j =>
      rw [eo] at hF
      obtain ⟨hj, hF⟩ := hF
      refine' q_when ?h (fun hb H9 e9 => ?_) (fun hb H9 e9 => ?_)
      case h => tm_at "rr.ev"
      · have : m = 0 := by simpa using hb
        omega
      have hR1 := hR1.ex e9
      refine q_when (b := false) ?h (fun hb _ _ => absurd hb (by decide)) (fun _ H10 e10 => ?_)
      case h =>
        refine et_is (a := (!true || (decide ((j : Int) < 0) || decide (m ≤ (j : Int))))) ?_ ?_
        · refine et_or (et_not (et_B (ev_call (ea_cons (ev_var rfl) ea_nil) cv_L_whole))) (fun _ => ?_)
          tm_at "rr.ev"
        · rw [decide_eq_false (by omega), decide_eq_false (by omega)]
          rfl
      have hR1 := hR1.ex e10
      obtain ⟨tj, htj, hTj⟩ := hR1.at_ hj
      refine q_asg (v := .int (ag p (qs.getD j (0, 0)))) ?h fun H11 e11 => ?_
      case h =>
        exact ev_op (ev_op (ev_op (ev_var rfl) (ev_var rfl) (rv_ixL hR1.l (at_of rfl htj))) ev_c (rv_ixT hTj rfl)) (ev_op (ev_op (ev_op (ev_var rfl) (ev_var rfl) (rv_ixL hR1.l (at_of rfl htj))) ev_c (rv_ixT hTj rfl)) (ev_var rfl) (rv_I ⟨by omega, by omega⟩)) rv_I0
      have hR1 := hR1.ex e11
      refine q_forR1 (n := m) (ea_cons (ev_var rfl) ea_nil) (by omega)
        (fun i σ' H' => Ex H11 H' ∧ ∃ v7 v8 : Option V, σ' = [some (.ref a), some (.int p), some (.int m), some (.ref q), some (.ref q2), some (.int j), some (.int (ag p (qs.getD j (0, 0)))), v7, v8]) (fun H12 e12 => ⟨e12, none, none, rfl⟩) ?_ ?_
      · rintro i σ' H' hi ⟨e12, v7, v8, rfl⟩
        have hR1 := hR1.ex e12
        have hi' : i < qs.length := by omega
        obtain ⟨ti, hti, hTi⟩ := hR1.at_ hi'
        refine q_asg (v := .int (ag p (qs.getD i (0, 0)))) ?h fun H13 e13 => ?_
        case h =>
          exact ev_op (ev_op (ev_op (ev_var rfl) (ev_var rfl) (rv_ixL hR1.l (at_of rfl hti))) ev_c (rv_ixT hTi rfl)) (ev_op (ev_op (ev_op (ev_var rfl) (ev_var rfl) (rv_ixL hR1.l (at_of rfl hti))) ev_c (rv_ixT hTi rfl)) (ev_var rfl) (rv_I ⟨by omega, by omega⟩)) rv_I0
        obtain ⟨g1, g2⟩ := hF i hi'
        refine s_when (b := false) ?h (fun hb _ _ => absurd hb (by decide)) (fun _ H14 e14 => ?_)
        case h =>
          refine et_is (a := (decide (ag p (qs.getD j (0, 0)) < ag p (qs.getD i (0, 0))) || (decide (V.int (ag p (qs.getD i (0, 0))) = V.int (ag p (qs.getD j (0, 0)))) && decide ((i : Int) < (j : Int))))) ?_ ?_
          · tm_at "rr.ev"
          · rw [decide_eq_false (by omega), Bool.false_or]
            by_cases hij : i < j
            · have := g2 hij
              rw [decide_eq_false (fun q => by have := V.int.inj q; omega)]
              rfl
            · rw [decide_eq_false (p := (i : Int) < (j : Int)) (by omega), Bool.and_false]
        exact ⟨(e12.trans e13).trans e14, some (.int i), _, rfl⟩
      · rintro σ' H' ⟨_, v7, v8, rfl⟩
        exact s_ret ev_c fun H15 _ => k H15
end Rr
namespace Rr
open PySem PySem.Spec PyProof.Rows L2
def loose0 : List PySem.Str := ["aged", "first", "_law_whole", "_law_cell_at", "_law_mix", "_law_pace_by", "_law_rows"]
def loose : List PySem.Str := loose0
abbrev R : PySem.W.OpenRow := PySem.W.OpenLaw.row PySem.Challenge.rw_rrdesk_k02_first_chosen
abbrev hk : PySem.W.Hook := He.hookD 6 fa fn
def ob (s : PySem.W.SharedT) : He.AlD := He.obsDG 6 fa fn (HandSHeadRun.getT s)
theorem ob_eq (s : PySem.W.SharedT) : ob s = hk.obs s.abs := He.obsDG_eq (HandSHeadRun.getT_eq s)
theorem run (w : World) : HandSHeadRun.RunEq R (PySem.W.view R.prog [9]) hk ob 6000 loose w := by
  intro os
  kernel_rfl
theorem facts {P : Program} {w : World} {K : PySem.W.Frag} {h : Heap} {mg : Str → Option Value} {f : Addr} (X : K.In h) (G : h.Ns mainGlobals mg) (hfa : mg ("law" : Str) = some (.ref f)) (c : He.SaysD fa fn K) :
    ∃ fd : FuncData, (∀ (s : Shared) (v : Value), BindsTo s fd ⟨[v], []⟩ [("_law_script", v)]) ∧ ∀ base : Heap, K.In base → base.Ns mainGlobals mg → FnOk P w K mg base CX0 3 f fd ["_law_script"] (sp_law K) := by
  have T : Txt K mg := ⟨c, h, X, G⟩
  have e := hfa.symm.trans (g_law T)
  cases e
  obtain ⟨fd, F⟩ := f_law T
  have b := FunD.bindsA (ps := ["_law_script"]) F fun _ _ _ _ _ _ us hl => match us, hl with | [_], _ => rfl
  refine ⟨fd, fun s v => b s [v] rfl, fun base _ _ => ?_⟩
  obtain ⟨fd', G', _, F'⟩ := ok_law (P := P) (w := w) (base := base) T
  exact (funD_same F F') ▸ G'
end Rr
open PySem PySem.W PySem.Calls PyProof.Rows
set_option maxRecDepth 100000 in
set_option maxHeartbeats 0 in
theorem PySem.Challenge.cw_rrdesk_k02_first_chosen_holds : PySem.Challenge.rw_rrdesk_k02_first_chosen.Holds := by
  w_on; o_law
  refine HandSHeadRun.head_any (r := OpenLaw.row PySem.Challenge.rw_rrdesk_k02_first_chosen) (q := view (OpenLaw.row PySem.Challenge.rw_rrdesk_k02_first_chosen).prog [9]) (H := Rr.hk) (ob := Rr.ob) (M := 6000) (loose := Rr.loose) (d := HandSHeadRun.topDef (OpenLaw.row PySem.Challenge.rw_rrdesk_k02_first_chosen).prog 9) (kwd := []) Rr.ob_eq
    (by kernel_rfl) (fun s => by kernel_rfl) Rr.run (by kernel_rfl) (by kernel_rfl) (by kernel_rfl) (by rfl) (by first | assumption | decide +kernel) (by decide +kernel) ⟨rfl, rfl, rfl, rfl, rfl, by decide +kernel⟩ ?hw ?hc
  case hw => w_witness2
  case hc =>
    refine L2.walk_ofE (l := PySem.Challenge.rw_rrdesk_k02_first_chosen) (n := 63) (k := 3) (x := "_law_script") (CX := L2.CX0) rfl (by decide) (by kernel_rfl) ⟨rfl, by decide, by decide⟩ ?F (fun _ _ _ _ z => z)
    intro w mg fa h Y G hmg0
    obtain ⟨K, KX, c⟩ := Y
    have hmg : mg ("law" : PySem.Str) = some (.ref fa) := by
      have e : (HandSHeadRun.topDef (OpenLaw.row PySem.Challenge.rw_rrdesk_k02_first_chosen).prog 9).name = ("law" : PySem.Str) := by kernel_rfl
      rw [← e]
      exact hmg0
    obtain ⟨fd, hb, hF⟩ := Rr.facts (P := (PySem.Challenge.rw_rrdesk_k02_first_chosen).prog) (w := w) KX G hmg c
    exact ⟨K, fd, Rr.sp_law K, KX, hb, fun H a ns hl _ hS => ⟨a, ns, rfl, hS, hl, fun _ => rfl⟩, hF⟩

#print axioms PySem.Challenge.cw_rrdesk_k02_first_chosen_holds

