import PyProof.Rows.All
import PyProof.Rows.StrRev
import Wide.All
import OpenK.AllK
import Wide.FinOn
import KE.KStateDown
import HandS.Base
import HandS.Call
import HandS.List
import HandS.Comp
import HandS.Ends
import HandS.Dict
import HandS.Iter
import HandS.Text
import HandS.More
import HandS.Codes
import HandS.Conv
import HandS.Exc
import HandS.TryOnly
import HandS.ExcOwn
import HandS.Words
import HandS.WordsList
import HandS.WordsExc
import HandS.Defaults
import HandS.IsInst
import HandS.Style
import HandS.Evl
import HandS.Head0
import HandS.Head1
import HandS.Head2
import HandS.HeadEnd
import HandS.HeadHook1
import HandS.HeadHook2
import PySem.Challenge.RW_rrdesk_k03_names
set_option Elab.async false
set_option linter.all false
set_option maxRecDepth 100000
set_option maxHeartbeats 4000000
namespace Rr
open PySem PySem.Spec PyProof.Rows L2 Evl
def top (i : Nat) : Stmt := PySem.Challenge.pw_rrdesk_k03_names.main.body.getD i (.Pass ⟨0, 0, 0, 0⟩)
abbrev s_is_name : Stmt := top 4
abbrev s_caller_init : Stmt := inClass (top 6) 0
abbrev s_desk_init : Stmt := inClass (top 22) 0
abbrev s_desk_enter : Stmt := inClass (top 22) 4
abbrev s_desk_names : Stmt := inClass (top 22) 16
abbrev s_L_cell_at : Stmt := top 24
abbrev s_L_sign_by : Stmt := top 25
abbrev s_L_text : Stmt := top 26
abbrev s_law : Stmt := top 27
def dd_is_name : He.DefD := ⟨("is_name", none), "is_name", "is_name", defArgs s_is_name, defBody s_is_name, defScope s_is_name, [], []⟩
def dd_caller_init : He.DefD := ⟨("Caller", some "__init__"), "__init__", "Caller.__init__", defArgs s_caller_init, defBody s_caller_init, defScope s_caller_init, [], []⟩
def dd_desk_init : He.DefD := ⟨("Desk", some "__init__"), "__init__", "Desk.__init__", defArgs s_desk_init, defBody s_desk_init, defScope s_desk_init, [], []⟩
def dd_desk_enter : He.DefD := ⟨("Desk", some "enter"), "enter", "Desk.enter", defArgs s_desk_enter, defBody s_desk_enter, defScope s_desk_enter, [], []⟩
def dd_desk_names : He.DefD := ⟨("Desk", some "names"), "names", "Desk.names", defArgs s_desk_names, defBody s_desk_names, defScope s_desk_names, [], []⟩
def dd_L_cell_at : He.DefD := ⟨("_law_cell_at", none), "_law_cell_at", "_law_cell_at", defArgs s_L_cell_at, defBody s_L_cell_at, defScope s_L_cell_at, [], []⟩
def dd_L_sign_by : He.DefD := ⟨("_law_sign_by", none), "_law_sign_by", "_law_sign_by", defArgs s_L_sign_by, defBody s_L_sign_by, defScope s_L_sign_by, [], []⟩
def dd_L_text : He.DefD := ⟨("_law_text", none), "_law_text", "_law_text", defArgs s_L_text, defBody s_L_text, defScope s_L_text, [], []⟩
def dd_law : He.DefD := ⟨("law", none), "law", "law", defArgs s_law, defBody s_law, defScope s_law, [], []⟩
def fn : List He.DefD := [dd_is_name, dd_caller_init, dd_desk_init, dd_desk_enter, dd_desk_names, dd_L_cell_at, dd_L_sign_by, dd_L_text, dd_law]
def fa0 : List He.Fa := [.glo "is_name", .meth "Desk" "enter", .meth "Desk" "names", .glo "_law_cell_at", .glo "_law_sign_by", .glo "_law_text", .glo "law", .glo "Caller", .cls "Caller", .mkr "Caller", .noat "Caller" "label", .noat "Caller" "grade", .noat "Caller" "stand", .noat "Caller" "mark", .glo "Desk", .cls "Desk", .mkr "Desk", .noat "Desk" "pace", .noat "Desk" "room", .noat "Desk" "now", .noat "Desk" "line", .glo "NoName", .exc "NoName", .glo "NoRank", .exc "NoRank", .glo "NoDesk", .exc "NoDesk", .glo "Known", .exc "Known", .glo "Full"]
def fa1 : List He.Fa := [.exc "Full", .exm "Full" "NoName" false, .exm "Known" "NoName" false, .exm "NoDesk" "NoName" false, .exm "NoName" "NoName" true, .exm "NoRank" "NoName" false, .str "SIGNS" "abcdefghijklmnopqrstuvwxyz0123456789", .int "MOST" 12, .int "TOP" 99, .int "MOST_PACE" 1000, .int "MOST_ROOM" 60, .free "len", .free "range", .free "isinstance", .free "bool"]
def fa : List He.Fa := fa0 ++ fa1
structure Txt (K : PySem.W.Frag) (mg : Str → Option Value) : Prop where
  says : He.SaysD fa fn K
  inn : ∃ h : Heap, K.In h ∧ h.Ns mainGlobals mg
section
variable {K : PySem.W.Frag} {mg : Str → Option Value} (T : Txt K mg)
include T
theorem g_is_name : mg "is_name" = some (.ref (He.ga K "is_name")) := (let ⟨_, X, G⟩ := T.inn; He.glo_ok X G (T.says.fact 0 (f := .glo "is_name") rfl))
theorem m_desk_enter : Meth K (He.ga K "Desk") "enter" (He.ma K (He.ga K "Desk") "enter") := He.meth_ok (T.says.fact 1 (f := .meth "Desk" "enter") rfl)
theorem m_desk_names : Meth K (He.ga K "Desk") "names" (He.ma K (He.ga K "Desk") "names") := He.meth_ok (T.says.fact 2 (f := .meth "Desk" "names") rfl)
theorem g_L_cell_at : mg "_law_cell_at" = some (.ref (He.ga K "_law_cell_at")) := (let ⟨_, X, G⟩ := T.inn; He.glo_ok X G (T.says.fact 3 (f := .glo "_law_cell_at") rfl))
theorem g_L_sign_by : mg "_law_sign_by" = some (.ref (He.ga K "_law_sign_by")) := (let ⟨_, X, G⟩ := T.inn; He.glo_ok X G (T.says.fact 4 (f := .glo "_law_sign_by") rfl))
theorem g_L_text : mg "_law_text" = some (.ref (He.ga K "_law_text")) := (let ⟨_, X, G⟩ := T.inn; He.glo_ok X G (T.says.fact 5 (f := .glo "_law_text") rfl))
theorem g_law : mg "law" = some (.ref (He.ga K "law")) := (let ⟨_, X, G⟩ := T.inn; He.glo_ok X G (T.says.fact 6 (f := .glo "law") rfl))
theorem g_Caller : mg "Caller" = some (.ref (He.ga K "Caller")) := (let ⟨_, X, G⟩ := T.inn; He.glo_ok X G (T.says.fact 7 (f := .glo "Caller") rfl))
theorem c_Caller : Cls K (He.ga K "Caller") := He.cls_ok (T.says.fact 8 (f := .cls "Caller") rfl)
theorem mk_Caller : Mk K (He.ga K "Caller") (He.ma K (He.ga K "Caller") "__init__") := He.mkr_ok (T.says.fact 9 (f := .mkr "Caller") rfl)
theorem n_Caller_label : NoAttr K (He.ga K "Caller") "label" := He.noat_ok (T.says.fact 10 (f := .noat "Caller" "label") rfl)
theorem n_Caller_grade : NoAttr K (He.ga K "Caller") "grade" := He.noat_ok (T.says.fact 11 (f := .noat "Caller" "grade") rfl)
theorem n_Caller_stand : NoAttr K (He.ga K "Caller") "stand" := He.noat_ok (T.says.fact 12 (f := .noat "Caller" "stand") rfl)
theorem n_Caller_mark : NoAttr K (He.ga K "Caller") "mark" := He.noat_ok (T.says.fact 13 (f := .noat "Caller" "mark") rfl)
theorem g_Desk : mg "Desk" = some (.ref (He.ga K "Desk")) := (let ⟨_, X, G⟩ := T.inn; He.glo_ok X G (T.says.fact 14 (f := .glo "Desk") rfl))
theorem c_Desk : Cls K (He.ga K "Desk") := He.cls_ok (T.says.fact 15 (f := .cls "Desk") rfl)
theorem mk_Desk : Mk K (He.ga K "Desk") (He.ma K (He.ga K "Desk") "__init__") := He.mkr_ok (T.says.fact 16 (f := .mkr "Desk") rfl)
theorem n_Desk_pace : NoAttr K (He.ga K "Desk") "pace" := He.noat_ok (T.says.fact 17 (f := .noat "Desk" "pace") rfl)
theorem n_Desk_room : NoAttr K (He.ga K "Desk") "room" := He.noat_ok (T.says.fact 18 (f := .noat "Desk" "room") rfl)
theorem n_Desk_now : NoAttr K (He.ga K "Desk") "now" := He.noat_ok (T.says.fact 19 (f := .noat "Desk" "now") rfl)
theorem n_Desk_line : NoAttr K (He.ga K "Desk") "line" := He.noat_ok (T.says.fact 20 (f := .noat "Desk" "line") rfl)
theorem g_NoName : mg "NoName" = some (.ref (He.ga K "NoName")) := (let ⟨_, X, G⟩ := T.inn; He.glo_ok X G (T.says.fact 21 (f := .glo "NoName") rfl))
theorem x_NoName : PySem.W.excIn K (He.ga K "NoName") He.veBase "ValueError.__new__" = true ∧ PySem.W.keepIn K (.ref (He.ga K "NoName")) = true ∧ PySem.W.subIn K (.ref (He.ga K "NoName")) (.type "BaseException") = some true ∧ PySem.W.typeIn K (.ref (He.ga K "NoName")) = some (.type "type") := He.exc_ok (T.says.fact 22 (f := .exc "NoName") rfl)
theorem g_NoRank : mg "NoRank" = some (.ref (He.ga K "NoRank")) := (let ⟨_, X, G⟩ := T.inn; He.glo_ok X G (T.says.fact 23 (f := .glo "NoRank") rfl))
theorem x_NoRank : PySem.W.excIn K (He.ga K "NoRank") He.veBase "ValueError.__new__" = true ∧ PySem.W.keepIn K (.ref (He.ga K "NoRank")) = true ∧ PySem.W.subIn K (.ref (He.ga K "NoRank")) (.type "BaseException") = some true ∧ PySem.W.typeIn K (.ref (He.ga K "NoRank")) = some (.type "type") := He.exc_ok (T.says.fact 24 (f := .exc "NoRank") rfl)
theorem g_NoDesk : mg "NoDesk" = some (.ref (He.ga K "NoDesk")) := (let ⟨_, X, G⟩ := T.inn; He.glo_ok X G (T.says.fact 25 (f := .glo "NoDesk") rfl))
theorem x_NoDesk : PySem.W.excIn K (He.ga K "NoDesk") He.veBase "ValueError.__new__" = true ∧ PySem.W.keepIn K (.ref (He.ga K "NoDesk")) = true ∧ PySem.W.subIn K (.ref (He.ga K "NoDesk")) (.type "BaseException") = some true ∧ PySem.W.typeIn K (.ref (He.ga K "NoDesk")) = some (.type "type") := He.exc_ok (T.says.fact 26 (f := .exc "NoDesk") rfl)
theorem g_Known : mg "Known" = some (.ref (He.ga K "Known")) := (let ⟨_, X, G⟩ := T.inn; He.glo_ok X G (T.says.fact 27 (f := .glo "Known") rfl))
theorem x_Known : PySem.W.excIn K (He.ga K "Known") He.veBase "ValueError.__new__" = true ∧ PySem.W.keepIn K (.ref (He.ga K "Known")) = true ∧ PySem.W.subIn K (.ref (He.ga K "Known")) (.type "BaseException") = some true ∧ PySem.W.typeIn K (.ref (He.ga K "Known")) = some (.type "type") := He.exc_ok (T.says.fact 28 (f := .exc "Known") rfl)
theorem g_Full : mg "Full" = some (.ref (He.ga K "Full")) := (let ⟨_, X, G⟩ := T.inn; He.glo_ok X G (T.says.fact 29 (f := .glo "Full") rfl))
theorem x_Full : PySem.W.excIn K (He.ga K "Full") He.veBase "ValueError.__new__" = true ∧ PySem.W.keepIn K (.ref (He.ga K "Full")) = true ∧ PySem.W.subIn K (.ref (He.ga K "Full")) (.type "BaseException") = some true ∧ PySem.W.typeIn K (.ref (He.ga K "Full")) = some (.type "type") := He.exc_ok (T.says.fact 30 (f := .exc "Full") rfl)
theorem e_Full_NoName : PySem.W.exmOne K (.ref (He.ga K "Full")) (.ref (He.ga K "NoName")) = some false := He.exm_ok (T.says.fact 31 (f := .exm "Full" "NoName" false) rfl)
theorem e_Known_NoName : PySem.W.exmOne K (.ref (He.ga K "Known")) (.ref (He.ga K "NoName")) = some false := He.exm_ok (T.says.fact 32 (f := .exm "Known" "NoName" false) rfl)
theorem e_NoDesk_NoName : PySem.W.exmOne K (.ref (He.ga K "NoDesk")) (.ref (He.ga K "NoName")) = some false := He.exm_ok (T.says.fact 33 (f := .exm "NoDesk" "NoName" false) rfl)
theorem e_NoName_NoName : PySem.W.exmOne K (.ref (He.ga K "NoName")) (.ref (He.ga K "NoName")) = some true := He.exm_ok (T.says.fact 34 (f := .exm "NoName" "NoName" true) rfl)
theorem e_NoRank_NoName : PySem.W.exmOne K (.ref (He.ga K "NoRank")) (.ref (He.ga K "NoName")) = some false := He.exm_ok (T.says.fact 35 (f := .exm "NoRank" "NoName" false) rfl)
theorem k_SIGNS : ∃ t, mg "SIGNS" = some (.str "abcdefghijklmnopqrstuvwxyz0123456789" t) := let ⟨_, X, G⟩ := T.inn; He.str_ok X G (T.says.fact 36 (f := .str "SIGNS" "abcdefghijklmnopqrstuvwxyz0123456789") rfl)
theorem k_MOST : ∃ t, mg "MOST" = some (.int 12 t) := let ⟨_, X, G⟩ := T.inn; He.int_ok X G (T.says.fact 37 (f := .int "MOST" 12) rfl)
theorem k_TOP : ∃ t, mg "TOP" = some (.int 99 t) := let ⟨_, X, G⟩ := T.inn; He.int_ok X G (T.says.fact 38 (f := .int "TOP" 99) rfl)
theorem k_MOST_PACE : ∃ t, mg "MOST_PACE" = some (.int 1000 t) := let ⟨_, X, G⟩ := T.inn; He.int_ok X G (T.says.fact 39 (f := .int "MOST_PACE" 1000) rfl)
theorem k_MOST_ROOM : ∃ t, mg "MOST_ROOM" = some (.int 60 t) := let ⟨_, X, G⟩ := T.inn; He.int_ok X G (T.says.fact 40 (f := .int "MOST_ROOM" 60) rfl)
theorem b_len : mg "len" = none := let ⟨_, X, G⟩ := T.inn; He.free_ok X G (T.says.fact 41 (f := .free "len") rfl)
theorem b_range : mg "range" = none := let ⟨_, X, G⟩ := T.inn; He.free_ok X G (T.says.fact 42 (f := .free "range") rfl)
theorem b_isinstance : mg "isinstance" = none := let ⟨_, X, G⟩ := T.inn; He.free_ok X G (T.says.fact 43 (f := .free "isinstance") rfl)
theorem b_bool : mg "bool" = none := let ⟨_, X, G⟩ := T.inn; He.free_ok X G (T.says.fact 44 (f := .free "bool") rfl)
theorem f_is_name : ∃ fd, FunD K "is_name" "is_name" (defArgs s_is_name) (defBody s_is_name) (defScope s_is_name) [] [] (He.ga K "is_name") fd := T.says.def_ 0 (d := dd_is_name) rfl
theorem kp_is_name : PySem.W.keepIn K (.ref (He.ga K "is_name")) = true := let ⟨_, F⟩ := f_is_name T; F.kp
theorem f_caller_init : ∃ fd, FunD K "__init__" "Caller.__init__" (defArgs s_caller_init) (defBody s_caller_init) (defScope s_caller_init) [] [] (He.ma K (He.ga K "Caller") "__init__") fd := T.says.def_ 1 (d := dd_caller_init) rfl
theorem f_desk_init : ∃ fd, FunD K "__init__" "Desk.__init__" (defArgs s_desk_init) (defBody s_desk_init) (defScope s_desk_init) [] [] (He.ma K (He.ga K "Desk") "__init__") fd := T.says.def_ 2 (d := dd_desk_init) rfl
theorem f_desk_enter : ∃ fd, FunD K "enter" "Desk.enter" (defArgs s_desk_enter) (defBody s_desk_enter) (defScope s_desk_enter) [] [] (He.ma K (He.ga K "Desk") "enter") fd := T.says.def_ 3 (d := dd_desk_enter) rfl
theorem f_desk_names : ∃ fd, FunD K "names" "Desk.names" (defArgs s_desk_names) (defBody s_desk_names) (defScope s_desk_names) [] [] (He.ma K (He.ga K "Desk") "names") fd := T.says.def_ 4 (d := dd_desk_names) rfl
theorem f_L_cell_at : ∃ fd, FunD K "_law_cell_at" "_law_cell_at" (defArgs s_L_cell_at) (defBody s_L_cell_at) (defScope s_L_cell_at) [] [] (He.ga K "_law_cell_at") fd := T.says.def_ 5 (d := dd_L_cell_at) rfl
theorem kp_L_cell_at : PySem.W.keepIn K (.ref (He.ga K "_law_cell_at")) = true := let ⟨_, F⟩ := f_L_cell_at T; F.kp
theorem f_L_sign_by : ∃ fd, FunD K "_law_sign_by" "_law_sign_by" (defArgs s_L_sign_by) (defBody s_L_sign_by) (defScope s_L_sign_by) [] [] (He.ga K "_law_sign_by") fd := T.says.def_ 6 (d := dd_L_sign_by) rfl
theorem kp_L_sign_by : PySem.W.keepIn K (.ref (He.ga K "_law_sign_by")) = true := let ⟨_, F⟩ := f_L_sign_by T; F.kp
theorem f_L_text : ∃ fd, FunD K "_law_text" "_law_text" (defArgs s_L_text) (defBody s_L_text) (defScope s_L_text) [] [] (He.ga K "_law_text") fd := T.says.def_ 7 (d := dd_L_text) rfl
theorem kp_L_text : PySem.W.keepIn K (.ref (He.ga K "_law_text")) = true := let ⟨_, F⟩ := f_L_text T; F.kp
theorem f_law : ∃ fd, FunD K "law" "law" (defArgs s_law) (defBody s_law) (defScope s_law) [] [] (He.ga K "law") fd := T.says.def_ 8 (d := dd_law) rfl
theorem kp_law : PySem.W.keepIn K (.ref (He.ga K "law")) = true := let ⟨_, F⟩ := f_law T; F.kp
end
/-! ### words of this text, over Evl: what every def's proof uses -/
section
variable {P : Program} {w : World} {K : PySem.W.Frag} {mg : Str → Option Value} {base : Heap} {x qual : Str} {params : Arguments} {body : List Stmt} {scope : Scope} {f : Addr} {fd : FuncData}
theorem ok0 {N ps : List Str} {k : Nat} {sp : Sp} (F : FunD K x qual params body scope [] [] f fd) (S : FnScope N ps scope) (len : ∀ vs H Q E, sp vs H Q E → vs.length = ps.length)
    (hbody : ∀ (cdv : Value) (A : Around) (outer : List Env) (s : Shared) (H : Hp) (vs : List V) (Q : VK) (E : XK), Room k (A.deeper (envOfC qual scope s.heap.objs.size f cdv)) → sp vs H Q E →
      ∃ t, PSs (cxOf CX0 P w K mg base N qual scope f cdv A outer s H E).nox body t ∧ t { nx := fun _ H' => Q .non H', rt := Q } (start N vs) H) : FnOk P w K mg base CX0 (k + 1) f fd ps sp :=
  F.ok S len fun cdv A outer s H vs Q E hr h => let ⟨t, a, b⟩ := hbody cdv A outer s H vs Q E hr h; ⟨t, PSs.nox a, b⟩
theorem okX {N ps : List Str} {k : Nat} {sp : Sp} (F : FunD K x qual params body scope [] [] f fd) (S : FnScope N ps scope) (len : ∀ vs H Q E, sp vs H Q E → vs.length = ps.length)
    (hbody : ∀ (cdv : Value) (A : Around) (outer : List Env) (s : Shared) (H : Hp) (vs : List V) (Q : VK) (E : XK), Room k (A.deeper (envOfC qual scope s.heap.objs.size f cdv)) → sp vs H Q E →
      ∃ t, PSs (cxOf (L2.CX P w) P w K mg base N qual scope f cdv A outer s H E) body t ∧ t { nx := fun _ H' => Q .non H', rt := Q } (start N vs) H) : FnOk P w K mg base (L2.CX P w) (k + 1) f fd ps sp :=
  F.ok S len hbody
end
theorem funD_same {K : PySem.W.Frag} {x qual : Str} {params : Arguments} {body : List Stmt} {scope : Scope} {f : Addr} {fd fd' : FuncData} (F : FunD K x qual params body scope [] [] f fd) (F' : FunD K x qual params body scope [] [] f fd') : fd' = fd := by
  obtain ⟨_, _, _, _, _, _, _, _, _, _, _, h, _⟩ := F.ex
  obtain ⟨_, _, _, _, _, _, _, _, _, _, _, h', _⟩ := F'.ex
  rw [h] at h'
  injection h' with h'
  injection h' with _ _ h'
  injection h' with h'
  exact h'.symm
/-! ### evaluation -/
section
variable {K : PySem.W.Frag} {σ : L2.St} {H H' : Hp} {ta tb te tx : TE} {t u : TT} {x y z v : V} {D : Ends}
theorem rc_len_str {z : Str} (h : z.length ≤ sizeLine) : RC (fun xs H Q => ∃ z, xs = [.str z] ∧ z.length ≤ sizeLine ∧ Q (.int z.length) H) [.str z] H (.int z.length) := fun H1 _ Q q => ⟨z, rfl, h, q H1 (Ex.refl H1)⟩
theorem rc_max2 {i j : Int} : RC (fun xs H Q => ∃ i j, xs = [.int i, .int j] ∧ Q (.int (if j > i then j else i)) H) [.int i, .int j] H (.int (if j > i then j else i)) := fun H1 _ Q q => ⟨i, j, rfl, q H1 (Ex.refl H1)⟩
theorem rc_min2 {i j : Int} : RC (fun xs H Q => ∃ i j, xs = [.int i, .int j] ∧ Q (.int (if j < i then j else i)) H) [.int i, .int j] H (.int (if j < i then j else i)) := fun H1 _ Q q => ⟨i, j, rfl, q H1 (Ex.refl H1)⟩
theorem rc_len {p : Addr} {xs : List V} (h : SqL K H p xs) : RC (fun vs H Q => ∃ p ys, vs = [.ref p] ∧ (SqL K H p ys ∨ SqT K H p ys) ∧ Q (.int ys.length) H) [.ref p] H (.int (xs.length : Int)) := fun H1 e Q q => ⟨p, xs, rfl, .inl (ex_l e h), q H1 (Ex.refl H1)⟩
theorem rc_isi {c t' : V} {ty u : Value} {b : Bool} (hc : ClsV c u) (ht : ∀ H1, Ex H H1 → TyX K H1 x ty) (hk : PySem.W.kitOne K ty u = some b) : RC (rIsi K) [x, c] H (.bl b) := fun H1 e Q q => ⟨x, c, ty, u, b, rfl, hc, ht H1 e, hk, q H1 (Ex.refl H1)⟩
theorem rc_isi_int {i : Int} : RC (rIsi K) [.int i, .ty "int"] H (.bl true) := rc_isi (t' := .non) (.ty _) (fun _ _ => .base (.int i)) (kit_ty (by decide +kernel))
theorem rc_isi_int_bool {i : Int} : RC (rIsi K) [.int i, .ty "bool"] H (.bl false) := rc_isi (t' := .non) (.ty _) (fun _ _ => .base (.int i)) (kit_ty (by decide +kernel))
theorem rc_sum {a : Addr} {ns : List Int} (h : SqL K H a (ns.map V.int)) : RC (rSum K) [.ref a] H (.int ns.sum) := fun H1 e Q q => ⟨a, ns, rfl, ex_l e h, q H1 (Ex.refl H1)⟩
theorem ev_cbL {r : List V → Hp → VK → Prop} {xs : List V} (h : EvL ta σ H xs) (hr : ∀ p H1, H1 p = some (.lst xs) → RC r [.ref p] H1 z) : Ev (tCB r (tCons ta tNil)) σ H z := fun H1 e Q q =>
  h H1 e _ fun p H2 _ e2 hp => hr p H2 hp H2 (Ex.refl H2) Q fun H3 e3 => q H3 (e2.trans e3)
theorem el_lcR2 {ta : TA} {j : Nat} {vs : List Nat} {lo n : Int} (f : Nat → Bool) (v : Nat → V) (h : EvA ta σ H [.int lo, .int n]) (hn : -40000 ≤ lo ∧ lo ≤ 40000 ∧ n ≤ lo + 40000 ∧ -40000 ≤ n) (hw : ∀ x, wipe ((wipe σ vs).set j (some x)) vs = wipe σ vs)
    (ht : ∀ (i : Nat) H1, Ex H H1 → lo + (i : Int) < n → EvT t ((wipe σ vs).set j (some (.int (lo + (i : Int))))) H1 (f i)) (he : ∀ (i : Nat) H1, Ex H H1 → lo + (i : Int) < n → f i = true → Ev te ((wipe σ vs).set j (some (.int (lo + (i : Int))))) H1 (v i)) :
    EvL (tLc (iRng2 ta) (gName j) t te vs) σ H (given (n - lo).toNat f v) := fun H0 e Q q => h H0 e _ fun H1 e1 => ⟨lo, n, rfl, by omega, fun Dl hD =>
  lc_range (lo := lo) (n := (n - lo).toNat) (Cw H1 f v Dl) ⟨hD, Ex.new hD, upd_same⟩ (fun i H' hi p => ⟨hw _, cw_turn p (by omega) (ht i H1 (e.trans e1) (by omega)) (fun hf => he i H1 (e.trans e1) (by omega) hf)⟩) (fun H' p => q Dl H' (fresh_back e1 p.1) (e1.trans p.2.1) p.2.2)⟩
theorem et_yes : EvT tYes σ H true := fun H1 _ _ q => q H1 (Ex.refl H1)
theorem spv_call {sp : Sp} {vs : List V} (h : ∀ H1, Ex H H1 → ∀ Q E, RetV z H1 Q → sp vs H1 Q E) : SpV sp (vs ++ []) H z := fun H1 e Q q E => by
  rw [List.append_nil]
  exact h H1 e Q E q
theorem cmul_r {i j : Int} (h1 : -(2 ^ 64) < j) (h2 : j < 2 ^ 64) : CMul i j := .inr ⟨h1, h2⟩
theorem cmul_l {i j : Int} (h1 : -(2 ^ 64) < i) (h2 : i < 2 ^ 64) : CMul i j := .inl ⟨h1, h2⟩
end
section
variable {K : PySem.W.Frag} {σ : L2.St} {H H' : Hp} {ta tb te tx : TE} {t u : TT} {x y z v : V} {D : Ends}
theorem rv_isN : RV (fun x y H Q => y = .non ∧ Q (.bl (decide (x = .non))) H) x .non H (.bl (decide (x = .non))) := fun H1 _ Q q => ⟨rfl, q H1 (Ex.refl H1)⟩
theorem rv_notN : RV (fun x y H Q => y = .non ∧ Q (.bl (!decide (x = .non))) H) x .non H (.bl (!decide (x = .non))) := fun H1 _ Q q => ⟨rfl, q H1 (Ex.refl H1)⟩
theorem rv_addS {i j : Str} (h : i.length + j.length ≤ sizeLine) : RV (fun x y H Q => ∃ i j, x = .str i ∧ y = .str j ∧ i.length + j.length ≤ sizeLine ∧ Q (.str (i ++ j)) H) (.str i) (.str j) H (.str (i ++ j)) := fun H1 _ Q q => ⟨i, j, rfl, rfl, h, q H1 (Ex.refl H1)⟩
theorem rc_int_int {i : Int} : RC (fun xs H Q => (∃ i, xs = [.int i] ∧ Q (.int i) H) ∨ ∃ k, xs = [.bl k] ∧ Q (.int (if k then 1 else 0)) H) [.int i] H (.int i) := fun H1 _ Q q => .inl ⟨i, rfl, q H1 (Ex.refl H1)⟩
theorem rc_int_bl {k : Bool} : RC (fun xs H Q => (∃ i, xs = [.int i] ∧ Q (.int i) H) ∨ ∃ k, xs = [.bl k] ∧ Q (.int (if k then 1 else 0)) H) [.bl k] H (.int (if k then 1 else 0)) := fun H1 _ Q q => .inr ⟨k, rfl, q H1 (Ex.refl H1)⟩
theorem ev_fld {a C dx : Addr} {fs : List (Str × V)} {f : Str} (h : Ev ta σ H (.ref a)) (ho : H a = some (.ins C dx fs)) (hc : Cls K C) (hn : NoAttr K C f) (hl : fs.lookup f = some v) : Ev (tFld K ta f) σ H v := fun H1 e Q q =>
  h H1 e _ fun H2 e2 => ⟨a, C, dx, fs, v, rfl, e2 a _ (e a _ ho), hc, hn, hl, q H2 e2⟩
theorem ev_meth {a C dx : Addr} {fs : List (Str × V)} {m : Str} {sp : Sp} {E : XK} {tr : TA} {vs : List V} (h : Ev ta σ H (.ref a)) (ho : H a = some (.ins C dx fs)) (hl : fs.lookup m = none) (ha : EvA tr σ H vs) (hs : SpV sp (.ref a :: (vs ++ [])) H z) : Ev (tMeth C m sp [] E ta tr) σ H z := fun H1 e Q q =>
  h H1 e _ fun H2 e2 => ⟨a, dx, fs, rfl, e2 a _ (e a _ ho), hl, ha H2 (e.trans e2) _ fun H3 e3 => hs H3 ((e.trans e2).trans e3) Q (fun H4 e4 => q H4 ((e2.trans e3).trans e4)) E⟩
end
section
variable {K : PySem.W.Frag} {σ : L2.St} {H H' : Hp} {ta tb te tx : TE} {t u : TT} {x y z v : V} {D : Ends} {tz tu : TS} {sp : Sp} {E : XK} {tr : TA} {vs : List V}
/-- name = f(..), whatever the promise hands back -/
theorem q_call {i : Nat} (h : EvA tr σ H vs) (k : ∀ H1, Ex H H1 → sp (vs ++ []) H1 (fun x H2 => tz D (σ.set i (some x)) H2) E) : tSeq (tAsg (tCall sp [] E tr) (gName i)) tz D σ H := h H (Ex.refl H) _ fun H1 e1 => k H1 e1
theorem s_call {i : Nat} (h : EvA tr σ H vs) (k : ∀ H1, Ex H H1 → sp (vs ++ []) H1 (fun x H2 => D.nx (σ.set i (some x)) H2) E) : tAsg (tCall sp [] E tr) (gName i) D σ H := h H (Ex.refl H) _ fun H1 e1 => k H1 e1
theorem s_retC (h : EvA tr σ H vs) (k : ∀ H1, Ex H H1 → sp (vs ++ []) H1 D.rt E) : tRet (tCall sp [] E tr) D σ H := h H (Ex.refl H) _ fun H1 e1 => k H1 e1
/-- .. a method of the instance at a -/
theorem q_meth {i : Nat} {a C dx : Addr} {fs : List (Str × V)} {m : Str} (h : Ev ta σ H (.ref a)) (ho : H a = some (.ins C dx fs)) (hl : fs.lookup m = none) (ha : EvA tr σ H vs) (k : ∀ H1, Ex H H1 → sp (.ref a :: (vs ++ [])) H1 (fun x H2 => tz D (σ.set i (some x)) H2) E) :
    tSeq (tAsg (tMeth C m sp [] E ta tr) (gName i)) tz D σ H := h H (Ex.refl H) _ fun H1 e1 => ⟨a, dx, fs, rfl, e1 a _ ho, hl, ha H1 e1 _ fun H2 e2 => k H2 (e1.trans e2)⟩
theorem s_methA {i : Nat} {a C dx : Addr} {fs : List (Str × V)} {m : Str} (h : Ev ta σ H (.ref a)) (ho : H a = some (.ins C dx fs)) (hl : fs.lookup m = none) (ha : EvA tr σ H vs) (k : ∀ H1, Ex H H1 → sp (.ref a :: (vs ++ [])) H1 (fun x H2 => D.nx (σ.set i (some x)) H2) E) :
    tAsg (tMeth C m sp [] E ta tr) (gName i) D σ H := h H (Ex.refl H) _ fun H1 e1 => ⟨a, dx, fs, rfl, e1 a _ ho, hl, ha H1 e1 _ fun H2 e2 => k H2 (e1.trans e2)⟩
theorem q_dmeth {a C dx : Addr} {fs : List (Str × V)} {m : Str} (h : Ev ta σ H (.ref a)) (ho : H a = some (.ins C dx fs)) (hl : fs.lookup m = none) (ha : EvA tr σ H vs) (k : ∀ H1, Ex H H1 → sp (.ref a :: (vs ++ [])) H1 (fun _ H2 => tz D σ H2) E) :
    tSeq (tDrop (tMeth C m sp [] E ta tr)) tz D σ H := h H (Ex.refl H) _ fun H1 e1 => ⟨a, dx, fs, rfl, e1 a _ ho, hl, ha H1 e1 _ fun H2 e2 => k H2 (e1.trans e2)⟩
theorem s_dmeth {a C dx : Addr} {fs : List (Str × V)} {m : Str} (h : Ev ta σ H (.ref a)) (ho : H a = some (.ins C dx fs)) (hl : fs.lookup m = none) (ha : EvA tr σ H vs) (k : ∀ H1, Ex H H1 → sp (.ref a :: (vs ++ [])) H1 (fun _ H2 => D.nx σ H2) E) :
    tDrop (tMeth C m sp [] E ta tr) D σ H := h H (Ex.refl H) _ fun H1 e1 => ⟨a, dx, fs, rfl, e1 a _ ho, hl, ha H1 e1 _ fun H2 e2 => k H2 (e1.trans e2)⟩
theorem s_retM {a C dx : Addr} {fs : List (Str × V)} {m : Str} (h : Ev ta σ H (.ref a)) (ho : H a = some (.ins C dx fs)) (hl : fs.lookup m = none) (ha : EvA tr σ H vs) (k : ∀ H1, Ex H H1 → sp (.ref a :: (vs ++ [])) H1 D.rt E) :
    tRet (tMeth C m sp [] E ta tr) D σ H := h H (Ex.refl H) _ fun H1 e1 => ⟨a, dx, fs, rfl, e1 a _ ho, hl, ha H1 e1 _ fun H2 e2 => k H2 (e1.trans e2)⟩
theorem rd_upd {a l : Addr} {u o o' : HO} (h : Rd H a u) (hl : H l = some o) (hd : o ≠ u) (hf : ∀ ob, o ≠ .frz ob u) : Rd (upd H l o') a u := by
  rcases h with h | ⟨ob, h⟩
  · exact .inl (by rw [upd_ne (fun e => by rw [e, hl] at h; exact hd (Option.some.inj h))]; exact h)
  · exact .inr ⟨ob, by rw [upd_ne (fun e => by rw [e, hl] at h; exact hf ob (Option.some.inj h))]; exact h⟩
theorem sqT_upd {a l : Addr} {xs ys : List V} {o : HO} (h : SqT K H a xs) (hl : H l = some (.lst ys)) : SqT K (upd H l o) a xs := by
  rcases h with h | h
  · exact .inl (rd_upd h hl (by intro q; cases q) (by intro _ q; cases q))
  · exact .inr h
end
section
variable {K : PySem.W.Frag} {σ : L2.St} {H H' : Hp} {ta tb te tx tv tl : TE} {t u : TT} {x y z v : V} {D : Ends} {tz tu : TS} {sp : Sp} {E : XK} {tr : TA} {vs : List V}
theorem ev_fldx {a C : Addr} {fs : List (Str × V)} {f : Str} (h : Ev ta σ H (.ref a)) (ho : ∃ dx, H a = some (.ins C dx fs)) (hc : Cls K C) (hn : NoAttr K C f) (hl : fs.lookup f = some v) : Ev (tFld K ta f) σ H v := let ⟨_, ho⟩ := ho; ev_fld h ho hc hn hl
theorem s_fld {a C dx : Addr} {fs : List (Str × V)} {f : Str} (h : Ev tv σ H y) (ha : Ev ta σ H (.ref a)) (ho : H a = some (.ins C dx fs)) (hc : Cls K C) (hn : NoAttr K C f) (hl : fs.length < 1000) (k : ∀ H1, Ex H H1 → D.nx σ (upd H1 a (.ins C dx (putF f y fs)))) : sFld K ta tv f D σ H :=
  h H (Ex.refl H) _ fun H1 e1 => ha H1 e1 _ fun H2 e2 => ⟨a, C, dx, fs, rfl, e2 a _ (e1 a _ ho), hc, hn, hl, k H2 (e1.trans e2)⟩
theorem q_fld {a C dx : Addr} {fs : List (Str × V)} {f : Str} (h : Ev tv σ H y) (ha : Ev ta σ H (.ref a)) (ho : H a = some (.ins C dx fs)) (hc : Cls K C) (hn : NoAttr K C f) (hl : fs.length < 1000) (k : ∀ H1, Ex H H1 → tz D σ (upd H1 a (.ins C dx (putF f y fs)))) : tSeq (sFld K ta tv f) tz D σ H :=
  s_fld (D := { D with nx := tz D }) h ha ho hc hn hl k
theorem s_fldL {a C dx : Addr} {fs : List (Str × V)} {f : Str} {xs : List V} (h : EvL tv σ H xs) (ha : Ev ta σ H (.ref a)) (ho : H a = some (.ins C dx fs)) (hc : Cls K C) (hn : NoAttr K C f) (hl : fs.length < 1000) (k : ∀ q H1, H q = none → Ex H H1 → H1 q = some (.lst xs) → D.nx σ (upd H1 a (.ins C dx (putF f (.ref q) fs)))) : sFld K ta tv f D σ H :=
  h H (Ex.refl H) _ fun q H1 hq e1 h1 => ha H1 e1 _ fun H2 e2 => ⟨a, C, dx, fs, rfl, e2 a _ (e1 a _ ho), hc, hn, hl, k q H2 hq (e1.trans e2) (e2 q _ h1)⟩
theorem el_cat {xs ys : List V} (ha : EvL ta σ H xs) (hb : EvL tb σ H ys) (hz : xs.length + ys.length ≤ 100000) : EvL (tOp rCat ta tb) σ H (xs ++ ys) := fun H1 e Q q =>
  ha H1 e _ fun p H2 hp e2 h2 => hb H2 (e.trans e2) _ fun r H3 hr e3 h3 => ⟨p, r, xs, ys, rfl, rfl, e3 p _ h2, h3, sz_of hz, fun s hs => q s _ (fresh_back (e2.trans e3) hs) ((e2.trans e3).trans (Ex.new hs)) upd_same⟩
theorem el_meth {a C dx : Addr} {fs : List (Str × V)} {m : Str} {xs : List V} (h : Ev ta σ H (.ref a)) (ho : H a = some (.ins C dx fs)) (hl : fs.lookup m = none) (ha : EvA tr σ H vs) (hs : SpL sp (.ref a :: (vs ++ [])) H xs) : EvL (tMeth C m sp [] E ta tr) σ H xs := fun H1 e Q q =>
  h H1 e _ fun H2 e2 => ⟨a, dx, fs, rfl, e2 a _ (e a _ ho), hl, ha H2 (e.trans e2) _ fun H3 e3 => hs H3 ((e.trans e2).trans e3) Q (fun p H4 hp e4 h4 => q p H4 (fresh_back (e2.trans e3) hp) ((e2.trans e3).trans e4) h4) E⟩
theorem given_take {α : Type} (ps : List α) (g : α → Bool) (w : α → V) (n : Nat) (hn : n ≤ ps.length) : given n (fun i => (ps[i]?.map g).getD false) (fun i => (ps[i]?.map w).getD .non) = ((ps.take n).filter g).map w := by
  induction n with
  | zero => rfl
  | succ n ih =>
    have hlt : n < ps.length := hn
    have e1 : ps[n]? = some ps[n] := List.getElem?_eq_getElem hlt
    have e2 : ps.take (n + 1) = ps.take n ++ [ps[n]] := by rw [List.take_succ, e1]; rfl
    rw [e2, List.filter_append, List.map_append, ← ih (by omega)]
    cases hg : g ps[n] with
    | true =>
      rw [given_yes (by rw [e1]; exact hg), e1, List.filter_cons, if_pos hg]
      rfl
    | false =>
      rw [given_no (by rw [e1]; exact hg), List.filter_cons, if_neg (by rw [hg]; decide)]
      simp
theorem given_list {α : Type} (ps : List α) (g : α → Bool) (w : α → V) : given ps.length (fun i => (ps[i]?.map g).getD false) (fun i => (ps[i]?.map w).getD .non) = (ps.filter g).map w := by
  rw [given_take ps g w ps.length (Nat.le_refl _), List.take_length]
/-- a comprehension over a list of things told by u, kept by g, made by w -/
theorem el_lcM {α : Type} {ps : List α} {uu : α → V} {a : Addr} {j : Nat} {ws : List Nat} (g : α → Bool) (w : α → V) (h : Ev tl σ H (.ref a)) (hx : SqL K H a (ps.map uu)) (hz : ps.length ≤ 40000) (hw : ∀ x, wipe ((wipe σ ws).set j (some x)) ws = wipe σ ws)
    (ht : ∀ q ∈ ps, ∀ H1, Ex H H1 → EvT t ((wipe σ ws).set j (some (uu q))) H1 (g q)) (he : ∀ q ∈ ps, ∀ H1, Ex H H1 → g q = true → Ev te ((wipe σ ws).set j (some (uu q))) H1 (w q)) : EvL (tLc (iList K tl) (gName j) t te ws) σ H ((ps.filter g).map w) := by
  have key := el_lcL (K := K) (t := t) (te := te) (fun i => (ps[i]?.map g).getD false) (fun i => (ps[i]?.map w).getD .non) h hx (by rw [List.length_map]; exact hz) hw
    (fun i x H1 e1 hi => by
      rw [List.getElem?_map] at hi
      cases hq : ps[i]? with
      | none => rw [hq] at hi; cases hi
      | some q =>
        rw [hq] at hi
        cases hi
        exact ht q (List.mem_of_getElem? hq) H1 e1)
    (fun i x H1 e1 hi hf => by
      rw [List.getElem?_map] at hi
      cases hq : ps[i]? with
      | none => rw [hq] at hi; cases hi
      | some q =>
        rw [hq] at hi hf
        cases hi
        exact he q (List.mem_of_getElem? hq) H1 e1 hf)
  rw [List.length_map, given_list] at key
  exact key
theorem el_lcNM {α : Type} {ps : List α} {uu : α → V} {j : Nat} {ws : List Nat} (g : α → Bool) (w : α → V) (h : EvL tl σ H (ps.map uu)) (hz : ps.length ≤ 40000) (hw : ∀ x, wipe ((wipe σ ws).set j (some x)) ws = wipe σ ws)
    (ht : ∀ q ∈ ps, ∀ H1, Ex H H1 → EvT t ((wipe σ ws).set j (some (uu q))) H1 (g q)) (he : ∀ q ∈ ps, ∀ H1, Ex H H1 → g q = true → Ev te ((wipe σ ws).set j (some (uu q))) H1 (w q)) : EvL (tLc (iList K tl) (gName j) t te ws) σ H ((ps.filter g).map w) := by
  have key := el_lcNL (K := K) (t := t) (te := te) (fun i => (ps[i]?.map g).getD false) (fun i => (ps[i]?.map w).getD .non) h (by rw [List.length_map]; exact hz) hw
    (fun i x H1 e1 hi => by
      rw [List.getElem?_map] at hi
      cases hq : ps[i]? with
      | none => rw [hq] at hi; cases hi
      | some q =>
        rw [hq] at hi
        cases hi
        exact ht q (List.mem_of_getElem? hq) H1 e1)
    (fun i x H1 e1 hi hf => by
      rw [List.getElem?_map] at hi
      cases hq : ps[i]? with
      | none => rw [hq] at hi; cases hi
      | some q =>
        rw [hq] at hi hf
        cases hi
        exact he q (List.mem_of_getElem? hq) H1 e1 hf)
  rw [List.length_map, given_list] at key
  exact key
theorem filter_true {α : Type} (l : List α) : l.filter (fun _ => true) = l := List.filter_eq_self.mpr fun _ _ => rfl
theorem spl_call {xs : List V} (h : ∀ H1, Ex H H1 → ∀ Q E, RetL xs H1 Q → sp vs H1 Q E) : SpL sp vs H xs := fun H1 e Q q E => h H1 e Q E q
theorem spv_meth (h : ∀ H1, Ex H H1 → ∀ Q E, RetV z H1 Q → sp vs H1 Q E) : SpV sp vs H z := fun H1 e Q q E => h H1 e Q E q
end
/-! the rules that speak of the written part, said of K itself (within a comprehension the context is another one, K is not) -/
section
variable {X : Cx} {K : PySem.W.Frag} {e o : Expr} {te ta : TE} {pos : Pos} {f : Str}
theorem pe_fldK (h : X.K = K) (he : PE X e ta) (hb : attributeBase e f X.env (eval e X.env) = eval e X.env) : PE X (.Attribute e f pos) (tFld K ta f) := h ▸ pe_fld he hb
theorem ix_listK (h : X.K = K) : IxR X (rIxL K) := h ▸ ix_list
theorem ix_tupK (h : X.K = K) : IxR X (rIxT K) := h ▸ ix_tup
theorem call_lenK (h : X.K = K) : CallR X (.builtin "len") (rLenS K) := h ▸ call_len_seq
theorem call_listK (h : X.K = K) : CallR X (.type "list") (rListS K) := h ▸ call_list_of
theorem op_inK (h : X.K = K) : OpR X (compareOp .In) (rIn K false) := h ▸ op_in_seq
theorem op_notInK (h : X.K = K) : OpR X (compareOp .NotIn) (rIn K true) := h ▸ op_notIn_seq
theorem op_eqK (h : X.K = K) (hu : X.A.units + 64 < cLine) : OpR X (compareOp .Eq) (rEqD K) := h ▸ op_eqD hu
theorem op_neK (h : X.K = K) (hu : X.A.units + 64 < cLine) : OpR X (compareOp .NotEq) (rNeD K) := h ▸ op_neD hu
theorem call_isiK' (h : X.K = K) : CallR X (.builtin "isinstance") (rIsi K) := h ▸ call_isi
theorem sl_listK (h : X.K = K) : SlR X (rSlL K) := h ▸ sl_list
theorem sl_tupK (h : X.K = K) : SlR X (rSlT K) := h ▸ sl_tup
theorem cr_sumK (h : X.K = K) (hc : X.calm = true) : CallR X (.builtin "sum") (rSum K) := h ▸ cr_sum hc
theorem pi_listK {tg : Expr} (h : X.K = K) (he : PE X e te) : PI X tg e (iList K te) := h ▸ pi_list he
theorem pi_tupK {tg : Expr} (h : X.K = K) (he : PE X e te) : PI X tg e (iTup K te) := h ▸ pi_tup he
theorem mt_indexK (h : X.K = K) : MtR X "list.index" (rIndex K) := h ▸ mt_index
end
section
variable {K : PySem.W.Frag} {H : Hp}
theorem rc_lenS {p : Addr} {xs : List V} (h : SqL K H p xs) : RC (rLenS K) [.ref p] H (.int (xs.length : Int)) := fun H1 e Q q => ⟨p, xs, rfl, .inl (ex_l e h), q H1 (Ex.refl H1)⟩
end
local macro_rules | `(tactic| tm_at "rr.side") => `(tactic| (first | assumption | rfl | decide | (unfold CMul; omega) | (unfold CDiv; omega) | (unfold CPow; omega) | omega | (dsimp only; omega) | (dsimp only; decide)))
local macro_rules | `(tactic| tm_at "rr.step") => `(tactic| (first | exact ev_c | exact ev_var rfl | exact ea_nil | refine' ea_cons ?_ ?_ | refine' ev_op ?_ ?_ rv_I0 | refine' ev_op ?_ ?_ (rv_I ?_) | refine' ev_op ?_ ?_ (rv_eq ?_) | refine' ev_op ?_ ?_ (rv_ne ?_) | refine' ev_call ?_ ?_ | tm_at "rr.cv" | refine' et_test ?_ | refine' et_B ?_ | refine' et_and ?_ (fun _ => ?_) | refine' et_or ?_ (fun _ => ?_) | refine' et_not ?_ | refine' ev_andV ?_ (fun _ => ?_) | refine' ev_orV ?_ (fun _ => ?_) | refine' ev_notV ?_ | exact et_yes | refine' ev_cb ?_ rc_max2 | refine' ev_cb ?_ rc_min2 | refine' ev_cb ?_ rc_int_bl | refine' ev_cb ?_ (rc_lenS ?_) | refine' ev_un ?_ ru_neg | refine' ev_op ?_ ?_ rv_isN | refine' ev_op ?_ ?_ rv_notN | refine' ev_op ?_ ?_ (rv_addS ?_)))
local macro_rules | `(tactic| tm_at "rr.ev") => `(tactic| ((repeat' tm_at "rr.step"); all_goals (try tm_at "rr.side")))
/-! ### lists of tuples -/
/-- at a: a list of tuples -/
structure Tups (K : PySem.W.Frag) (H : Hp) (a : Addr) (vss : List (List V)) (ts : List Addr) : Prop where
  l : SqL K H a (ts.map V.ref)
  n : ts.length = vss.length
  t : ∀ (i : Nat) (t : Addr) (vs : List V), ts[i]? = some t → vss[i]? = some vs → SqT K H t vs
section
variable {K : PySem.W.Frag} {σ : L2.St} {H H' : Hp} {tl : TE} {l t a : Addr} {vss : List (List V)} {ts : List Addr} {vs : List V} {ta : TA}
theorem Tups.ex (r : Tups K H a vss ts) (e : Ex H H') : Tups K H' a vss ts := ⟨ex_l e r.l, r.n, fun i t vs h1 h2 => ex_t e (r.t i t vs h1 h2)⟩
theorem Tups.at_ (r : Tups K H a vss ts) {i : Nat} (h : vss[i]? = some vs) : ∃ t, (ts.map V.ref)[i]? = some (.ref t) ∧ SqT K H t vs := by
  have hi := (List.getElem?_eq_some_iff.mp h).1
  have h1 : i < ts.length := by rw [r.n]; exact hi
  exact ⟨ts[i], by rw [List.getElem?_map, List.getElem?_eq_getElem h1]; rfl, r.t i _ _ (List.getElem?_eq_getElem h1) h⟩
theorem Tups.snoc (r : Tups K H l vss ts) (hl : H l = some (.lst (ts.map V.ref))) (e : Ex H H') (ht : H' t = some (.tup vs)) : Tups K (upd H' l (.lst (ts.map V.ref ++ [.ref t]))) l (vss ++ [vs]) (ts ++ [t]) := by
  have hl' := e _ _ hl
  refine ⟨?_, ?_, fun i t' q h1 h2 => ?_⟩
  · rw [List.map_append]
    exact sq_of upd_same
  · rw [List.length_append, List.length_append, r.n]
    rfl
  · by_cases hi : i < vss.length
    · rw [List.getElem?_append_left (by rw [r.n]; exact hi)] at h1
      rw [List.getElem?_append_left hi] at h2
      exact sqT_upd (ex_t e (r.t i t' q h1 h2)) hl'
    · rw [List.getElem?_append_right (by rw [r.n]; omega)] at h1
      rw [List.getElem?_append_right (by omega)] at h2
      rw [r.n] at h1
      have ei : i - vss.length = 0 := by
        have := (List.getElem?_eq_some_iff.mp h2).1
        simp at this
        omega
      rw [ei] at h1 h2
      cases h1
      cases h2
      exact sqT_upd (st_of ht) hl'
/-- a new list of tuples comes -/
def EvR (K : PySem.W.Frag) (te : TE) (σ : L2.St) (H : Hp) (vss : List (List V)) : Prop := ∀ H1, Ex H H1 → ∀ Q : VK, (∀ p H2 ts, H1 p = none → Ex H1 H2 → H2 p = some (.lst (ts.map V.ref)) → Tups K H2 p vss ts → Q (.ref p) H2) → te σ H1 Q
theorem er_lc {α : Type} {ps : List α} {uu : α → V} {j : Nat} {ws : List Nat} (w : α → List V) (h : Ev tl σ H (.ref a)) (hx : SqL K H a (ps.map uu)) (hz : ps.length ≤ 40000) (hw : ∀ x, wipe ((wipe σ ws).set j (some x)) ws = wipe σ ws)
    (hl : ∀ q ∈ ps, (w q).length ≤ 1000) (he : ∀ q ∈ ps, ∀ H1, Ex H H1 → EvA ta ((wipe σ ws).set j (some (uu q))) H1 (w q)) : EvR K (tLc (iList K tl) (gName j) tYes (tTup ta) ws) σ H (ps.map w) := fun H0 e Q q => h H0 e _ fun H1 e1 => ⟨a, rfl, ⟨_, ex_l (e.trans e1) hx⟩, fun Dl hD =>
  lc_list (xs := ps.map uu) (fun i H' => Ex H1 H' ∧ ∃ ts : List Addr, H' Dl = some (.lst (ts.map V.ref)) ∧ Tups K H' Dl ((ps.take i).map w) ts) ⟨Ex.new hD, [], upd_same, sq_of upd_same, rfl, fun i t vs h _ => by simp at h⟩ (fun i H' _ p => ex_l ((e.trans e1).trans p.1) hx)
    (fun i x H' hi ⟨p1, ts, p2, p3⟩ => ⟨hw x, by
      refine iteT (B := Ex H1 H' ∧ ∃ ts : List Addr, H' Dl = some (.lst (ts.map V.ref)) ∧ Tups K H' Dl ((ps.take (i + 1)).map w) ts) ?_
      rw [List.getElem?_map] at hi
      cases hq : ps[i]? with
      | none => rw [hq] at hi; cases hi
      | some r =>
        rw [hq] at hi
        cases hi
        have hm := List.mem_of_getElem? hq
        refine he r hm H1 (e.trans e1) H' p1 _ fun H3 e3 => ⟨sz_of (by have := hl r hm; omega), fun t ht => ?_⟩
        have hlt := (List.getElem?_eq_some_iff.mp hq).1
        have p4 : (upd H3 t (.tup (w r))) Dl = some (.lst (ts.map V.ref)) := by rw [upd_ne (ne_of_none (e3 _ _ p2) ht)]; exact e3 _ _ p2
        refine ⟨_, p4, sz_lt (by rw [List.length_map, p3.n, List.length_map]; have := List.length_take_le i ps; omega), Ex.mut ((p1.trans e3).trans (Ex.new ht)) hD, ts ++ [t], by rw [List.map_append]; exact upd_same, ?_⟩
        have e9 : (ps.take (i + 1)).map w = (ps.take i).map w ++ [w r] := by rw [List.take_succ, hq, List.map_append]; rfl
        rw [e9]
        exact p3.snoc p2 (e3.trans (Ex.new ht)) upd_same⟩)
    (fun H' ⟨p1, ts, p2, p3⟩ => q Dl H' ts (fresh_back e1 hD) (e1.trans p1) p2 (by rw [List.length_map, List.take_length] at p3; exact p3))⟩
end

/-! ### L_cell_at -/
theorem sc_L_cell_at : FnScope ["_law_script", "_law_k"] ["_law_script", "_law_k"] (defScope s_L_cell_at) := ⟨rfl, rfl, rfl, by decide +kernel, rfl, by decide +kernel, by decide +kernel⟩
def cellAt (ns : List Int) (k : Int) : Int := if k < (ns.length : Int) then ns.getD k.toNat 0 else 0
def sp_L_cell_at (K : PySem.W.Frag) : Sp := fun vs H Q _ => ∃ (a : Addr) (ns : List Int) (i : Int), vs = [.ref a, .int i] ∧ SqL K H a (ns.map V.int) ∧ 0 ≤ i ∧ RetV (.int (cellAt ns i)) H Q
theorem cv_L_cell_at {K : PySem.W.Frag} {H : Hp} {a : Addr} {ns : List Int} {i : Int} (h : SqL K H a (ns.map V.int)) (h0 : 0 ≤ i) : SpV (sp_L_cell_at K) ([.ref a, .int i] ++ []) H (.int (cellAt ns i)) :=
  spv_call fun _ e _ _ k => ⟨a, ns, i, rfl, ex_l e h, h0, k⟩
local macro_rules | `(tactic| tm_at "rr.cv") => `(tactic| refine' cv_L_cell_at (by assumption) ?_)
theorem ok_L_cell_at {P : Program} {w : World} {K : PySem.W.Frag} {mg : Str → Option Value} {base : Heap} (T : Txt K mg) : ∃ fd, FnOk P w K mg base (CX0) 1 (He.ga K "_law_cell_at") fd ["_law_script", "_law_k"] (sp_L_cell_at K) ∧ Binds K fd ["_law_script", "_law_k"] [] ∧ FunD K "_law_cell_at" "_law_cell_at" (defArgs s_L_cell_at) (defBody s_L_cell_at) (defScope s_L_cell_at) [] [] (He.ga K "_law_cell_at") fd := by
  obtain ⟨fd, F⟩ := f_L_cell_at T
  refine ⟨fd, ok0 F sc_L_cell_at (fun vs H Q E h => ?_) (fun cdv A outer s H vs Q E hr h => ?_), FunD.bindsN F fun _ _ _ _ _ _ us hl => match us, hl with | [_, _], _ => rfl, F⟩
  · (repeat (obtain ⟨_, h⟩ := h)); subst_vars; rfl
  · obtain ⟨a, ns, i, rfl, hS, h0, k⟩ := h
    refine ⟨_, (pss_cons (ps_if (pt_cmpR op_lt (pv 1) (pe_callB (call_lenK (K := K) rfl) rfl (b_len T) (by decide +kernel) (pa_cons (pv 0) pa_nil)) (nomark _)) (pss_one (ps_ret (pe_ix (ix_listK (K := K) rfl) (pv 0) (pv 1) (fun _ _ => rfl))))
        pss_nil)
        (pss_one (ps_ret pe_int))), ?_⟩
    refine q_when (et_test (ev_op (ev_var rfl) (ev_cb (ea_cons (ev_var rfl) ea_nil) (rc_lenS hS)) rv_I0)) (fun hb H1 e1 => ?_) (fun hb H1 e1 => ?_)
    · have hlt : i < ((ns.map V.int).length : Int) := of_decide_eq_true hb
      rw [List.length_map] at hlt
      have ev : cellAt ns i = ns.getD i.toNat 0 := if_pos hlt
      have hv : atI (ns.map V.int) i = some (.int (cellAt ns i)) := by
        rw [ev]
        refine at_of (j := i.toNat) (by omega) ?_
        rw [List.getElem?_map, List.getD_eq_getElem?_getD]
        have : i.toNat < ns.length := by omega
        rw [List.getElem?_eq_getElem this] <;> rfl
      exact s_ret (ev_op (ev_var rfl) (ev_var rfl) (rv_ixL (ex_l e1 hS) hv)) fun H2 e2 => k H2 (e1.trans e2)
    · have hlt : ¬ i < ((ns.map V.int).length : Int) := of_decide_eq_false hb
      rw [List.length_map] at hlt
      have ev : cellAt ns i = 0 := if_neg hlt
      rw [ev] at k
      exact s_ret ev_c fun H2 e2 => k H2 (e1.trans e2)
abbrev signsS : Str := "abcdefghijklmnopqrstuvwxyz0123456789"
def isSign (c : Nat) : Bool := decide (c ∈ signsS.cps.toList)
def isName (s : Str) : Bool := decide (1 ≤ s.length) && decide (s.length ≤ 12) && s.cps.toList.all isSign
theorem isName_len {s : Str} (h : isName s = true) : 1 ≤ s.length ∧ s.length ≤ 12 := by
  unfold isName at h
  rw [Bool.and_eq_true, Bool.and_eq_true] at h
  exact ⟨of_decide_eq_true h.1.1, of_decide_eq_true h.1.2⟩
/-- a loop over a text's signs -/
theorem q_forS {K : PySem.W.Frag} {σ : L2.St} {H : Hp} {te : TE} {tu tz : TS} {D : Ends} {j : Nat} {x : Str} (h : Ev te σ H (.str x)) (Pv : Nat → L2.St → Hp → Prop) (h0 : ∀ H1, Ex H H1 → Pv 0 σ H1)
    (hs : ∀ i c σ' H', x.cps.toList[i]? = some c → Pv i σ' H' → tu { D with nx := Pv (i + 1), ct := Pv (i + 1), bk := tz D } (σ'.set j (some (.str ⟨#[c]⟩))) H') (hd : ∀ σ' H', Pv x.length σ' H' → tz D σ' H') : tSeq (tFor (iStr te) (gName j) tu) tz D σ H :=
  h H (Ex.refl H) _ fun H1 e => ⟨x, rfl, fun i m σ' H' => m = x.length - i ∧ i ≤ x.length ∧ Pv i σ' H', ⟨_, rfl, Nat.zero_le _, h0 H1 e⟩, by
    rintro i m σ' H' ⟨rfl, hi, p⟩
    by_cases hlt : i < x.length
    · refine .inr ⟨hlt, Pv (i + 1), fun σ2 H2 p2 => ⟨_, by omega, rfl, hlt, p2⟩, fun v H2 y => ?_⟩
      obtain ⟨e2, c, hc, ev⟩ := y
      subst e2 ev
      exact hs i c σ' _ (by rw [Array.getElem?_toList]; exact hc) p
    · have e2 : i = x.length := by omega
      subst e2
      exact .inl ⟨Nat.le_refl _, hd _ _ p⟩⟩
theorem rv_notInS {c : Nat} {z : Str} {H : Hp} : RV (fun x y H Q => ∃ (c : Nat) (z : Str), x = .str ⟨#[c]⟩ ∧ y = .str z ∧ Q (.bl (!decide (c ∈ z.cps.toList))) H) (.str ⟨#[c]⟩) (.str z) H (.bl (!decide (c ∈ z.cps.toList))) := fun H1 _ Q q => ⟨c, z, rfl, rfl, q H1 (Ex.refl H1)⟩
/-! ### the desk: plain data, and how the heap bears it -/
inductive Md where
  | rdy (s : Int) | slp (t : Int) | wtg (b : Str)
  deriving DecidableEq
structure Cl where
  nm : Str
  rk : Int
  md : Md
  deriving DecidableEq
structure Dk where
  pace : Int
  room : Int
  now : Int
  line : List Cl
def Md.st : Md → Str
  | .rdy _ => "ready"
  | .slp _ => "asleep"
  | .wtg _ => "waiting"
def Md.mark : Md → V
  | .rdy s => .int s
  | .slp t => .int t
  | .wtg b => .str b
def Md.isR : Md → Bool
  | .rdy _ => true
  | _ => false
def Md.isS : Md → Bool
  | .slp _ => true
  | _ => false
def Md.isW : Md → Bool
  | .wtg _ => true
  | _ => false
theorem st_ready : ∀ m : Md, decide (m.st = "ready") = m.isR
  | .rdy _ => (by decide +kernel : decide (("ready" : Str) = "ready") = true)
  | .slp _ => (by decide +kernel : decide (("asleep" : Str) = "ready") = false)
  | .wtg _ => (by decide +kernel : decide (("waiting" : Str) = "ready") = false)
theorem st_asleep : ∀ m : Md, decide (m.st = "asleep") = m.isS
  | .rdy _ => (by decide +kernel : decide (("ready" : Str) = "asleep") = false)
  | .slp _ => (by decide +kernel : decide (("asleep" : Str) = "asleep") = true)
  | .wtg _ => (by decide +kernel : decide (("waiting" : Str) = "asleep") = false)
theorem st_waiting : ∀ m : Md, decide (m.st = "waiting") = m.isW
  | .rdy _ => (by decide +kernel : decide (("ready" : Str) = "waiting") = false)
  | .slp _ => (by decide +kernel : decide (("asleep" : Str) = "waiting") = false)
  | .wtg _ => (by decide +kernel : decide (("waiting" : Str) = "waiting") = true)
def rfs (l g s m : V) : List (Str × V) := [("label", l), ("grade", g), ("stand", s), ("mark", m)]
def cfs (c : Cl) : List (Str × V) := rfs (.str c.nm) (.int c.rk) (.str c.md.st) c.md.mark
def dfs (d : Dk) (l : Addr) : List (Str × V) := [("pace", .int d.pace), ("room", .int d.room), ("now", .int d.now), ("line", .ref l)]
abbrev aC (K : PySem.W.Frag) : Addr := He.ga K "Caller"
abbrev aD (K : PySem.W.Frag) : Addr := He.ga K "Desk"
theorem ins_ne {C C' dx dx' l : Addr} {d : Dk} {a g s m : V} : HO.ins C dx (dfs d l) ≠ HO.ins C' dx' (rfs a g s m) := by
  intro q
  have h : dfs d l = rfs a g s m := by injection q
  have h2 : (("pace" : Str), V.int d.pace) = (("label" : Str), a) := (List.cons.inj h).1
  have h3 : ("pace" : Str) = "label" := congrArg (·.1) h2
  exact absurd h3 (by decide +kernel)
def CAt (K : PySem.W.Frag) (H : Hp) (a : Addr) (c : Cl) : Prop := ∃ dx, H a = some (.ins (aC K) dx (cfs c))
abbrev Pr : Type := Addr × Cl
/-- a desk at p, its line at l, its callers with their addresses -/
structure DkAt (K : PySem.W.Frag) (H : Hp) (p : Addr) (d : Dk) (l : Addr) (ps : List Pr) : Prop where
  ob : ∃ dx, H p = some (.ins (aD K) dx (dfs d l))
  ln : H l = some (.lst (ps.map fun q => V.ref q.1))
  eq : d.line = ps.map (·.2)
  at_ : ∀ q ∈ ps, CAt K H q.1 q.2
/-- what stands beside the desk, all kept -/
structure Fr (F H : Hp) (p l : Addr) (ps : List Pr) : Prop where
  ex : Ex F H
  p0 : F p = none
  l0 : F l = none
  c0 : ∀ q ∈ ps, F q.1 = none
def DeskAt (K : PySem.W.Frag) (F H : Hp) (p : Addr) (d : Dk) : Prop := ∃ l ps, DkAt K H p d l ps ∧ Fr F H p l ps
def MdOk (now : Int) : Md → Prop
  | .rdy s => 0 ≤ s ∧ s ≤ now
  | .slp t => now < t ∧ t ≤ now + 1000
  | .wtg b => isName b = true
def ClOk (now : Int) (c : Cl) : Prop := isName c.nm = true ∧ 0 ≤ c.rk ∧ c.rk ≤ 99 ∧ MdOk now c.md
structure Dk.Ok (d : Dk) : Prop where
  p1 : 1 ≤ d.pace
  p2 : d.pace ≤ 1000
  r1 : 1 ≤ d.room
  r2 : d.room ≤ 60
  n0 : 0 ≤ d.now
  len : (d.line.length : Int) ≤ d.room
  nd : (d.line.map (·.nm)).Nodup
  cl : ∀ c ∈ d.line, ClOk d.now c
theorem Dk.Ok.len60 {d : Dk} (h : d.Ok) : d.line.length ≤ 60 := by have := h.len; have := h.r2; omega
section
variable {K : PySem.W.Frag} {F H H' H1 : Hp} {p l a q : Addr} {d : Dk} {ps : List Pr} {c : Cl}
theorem CAt.ex (h : CAt K H a c) (e : Ex H H') : CAt K H' a c := let ⟨dx, h⟩ := h; ⟨dx, e _ _ h⟩
theorem DkAt.ex (h : DkAt K H p d l ps) (e : Ex H H') : DkAt K H' p d l ps := ⟨let ⟨dx, h⟩ := h.ob; ⟨dx, e _ _ h⟩, e _ _ h.ln, h.eq, fun q hq => (h.at_ q hq).ex e⟩
theorem Fr.mono (h : Fr F H p l ps) (e : Ex H H') : Fr F H' p l ps := ⟨h.ex.trans e, h.p0, h.l0, h.c0⟩
theorem DeskAt.ex (h : DeskAt K F H p d) (e : Ex H H') : DeskAt K F H' p d := let ⟨l, ps, a, b⟩ := h; ⟨l, ps, a.ex e, b.mono e⟩
theorem DeskAt.fr (h : DeskAt K F H p d) : Ex F H := let ⟨_, _, _, b⟩ := h; b.ex
theorem DkAt.len (h : DkAt K H p d l ps) : ps.length = d.line.length := by rw [h.eq, List.length_map]
/-- a new object joins what stands beside -/
theorem Fr.new {o : HO} (f : Fr F H p l ps) (h : DkAt K H p d l ps) (hq : H q = none) (e : Ex H H1) (h1 : H1 q = some o) : Fr (upd F q o) H1 p l ps := by
  have ne : ∀ b u, H b = some u → b ≠ q := fun b u hb => ne_of_none hb hq
  obtain ⟨dx, hp⟩ := h.ob
  refine ⟨fun b u hb => ?_, by rw [upd_ne (ne _ _ hp)]; exact f.p0, by rw [upd_ne (ne _ _ h.ln)]; exact f.l0, fun r hr => ?_⟩
  · by_cases hbq : b = q
    · rw [hbq, upd_same] at hb
      rw [hbq, h1, hb]
    · rw [upd_ne hbq] at hb
      exact e _ _ (f.ex _ _ hb)
  · obtain ⟨dc, hc⟩ := h.at_ r hr
    rw [upd_ne (ne _ _ hc)]
    exact f.c0 r hr
theorem DeskAt.new {o : HO} (h : DeskAt K F H p d) (hq : H q = none) (e : Ex H H1) (h1 : H1 q = some o) : DeskAt K (upd F q o) H1 p d := let ⟨l, ps, a, b⟩ := h; ⟨l, ps, a.ex e, b.new a hq e h1⟩
/-- an object beside the desk is written -/
theorem Fr.set {o u : HO} (f : Fr F H p l ps) (h : DkAt K H p d l ps) (hq : F q = some o) : Fr (upd F q u) (upd H q u) p l ps ∧ DkAt K (upd H q u) p d l ps := by
  have np : p ≠ q := fun e => by have := f.p0; rw [e, hq] at this; cases this
  have nl : l ≠ q := fun e => by have := f.l0; rw [e, hq] at this; cases this
  have nc : ∀ r ∈ ps, r.1 ≠ q := fun r hr e => by have := f.c0 r hr; rw [e, hq] at this; cases this
  refine ⟨⟨fun b v hb => ?_, by rw [upd_ne np]; exact f.p0, by rw [upd_ne nl]; exact f.l0, fun r hr => by rw [upd_ne (nc r hr)]; exact f.c0 r hr⟩, ⟨?_, by rw [upd_ne nl]; exact h.ln, h.eq, fun r hr => ?_⟩⟩
  · by_cases hbq : b = q
    · rw [hbq, upd_same] at hb ⊢
      exact hb
    · rw [upd_ne hbq] at hb ⊢
      exact f.ex _ _ hb
  · obtain ⟨dx, hp⟩ := h.ob
    exact ⟨dx, by rw [upd_ne np]; exact hp⟩
  · obtain ⟨dc, hc⟩ := h.at_ r hr
    exact ⟨dc, by rw [upd_ne (nc r hr)]; exact hc⟩
theorem DeskAt.set {o u : HO} (h : DeskAt K F H p d) (hq : F q = some o) : DeskAt K (upd F q u) (upd H q u) p d := let ⟨l, ps, a, b⟩ := h; ⟨l, ps, (b.set a hq).2, (b.set a hq).1⟩
theorem DkAt.mem_nm (h : DkAt K H p d l ps) {r r' : Pr} (h1 : r ∈ ps) (h2 : r' ∈ ps) (e : r.1 = r'.1) : r.2.nm = r'.2.nm := by
  obtain ⟨d1, e1⟩ := h.at_ r h1
  obtain ⟨d2, e2⟩ := h.at_ r' h2
  rw [e, e2] at e1
  have q := Option.some.inj e1
  have h : cfs r'.2 = cfs r.2 := by injection q
  have h2 : (("label" : Str), V.str r'.2.nm) = (("label" : Str), V.str r.2.nm) := (List.cons.inj h).1
  exact (V.str.inj (congrArg (·.2) h2)).symm
theorem nodup_pr {ps : List Pr} (h : (ps.map fun q => q.2.nm).Nodup) {r r' : Pr} (h1 : r ∈ ps) (h2 : r' ∈ ps) (e : r.2.nm = r'.2.nm) : r = r' := by
  induction ps with
  | nil => cases h1
  | cons q ps ih =>
    rw [List.map_cons, List.nodup_cons] at h
    rcases List.mem_cons.mp h1 with rfl | h1'
    · rcases List.mem_cons.mp h2 with rfl | h2'
      · rfl
      · exact absurd (e ▸ List.mem_map.mpr ⟨r', h2', rfl⟩) h.1
    · rcases List.mem_cons.mp h2 with rfl | h2'
      · exact absurd (e ▸ List.mem_map.mpr ⟨r, h1', rfl⟩) h.1
      · exact ih h.2 h1' h2'
theorem DkAt.nd (h : DkAt K H p d l ps) (o : (d.line.map (·.nm)).Nodup) : (ps.map fun q => q.2.nm).Nodup := by
  rw [h.eq, List.map_map] at o
  exact o
end
def putC (L : List Cl) (c : Cl) : List Cl := L.filter (fun o => !decide (o.nm = c.nm)) ++ [c]
def putP (ps : List Pr) (q : Pr) : List Pr := ps.filter (fun o => !decide (o.2.nm = q.2.nm)) ++ [q]
theorem putP_mem {ps : List Pr} {q r : Pr} (h : r ∈ ps) (n : r.2.nm ≠ q.2.nm) : r ∈ putP ps q := List.mem_append_left _ (List.mem_filter.mpr ⟨h, by simp [n]⟩)
theorem putP_self {ps : List Pr} {q : Pr} : q ∈ putP ps q := List.mem_append_right _ (List.mem_singleton.mpr rfl)
theorem putP_line (ps : List Pr) (q : Pr) : (putP ps q).map (·.2) = putC (ps.map (·.2)) q.2 := by
  unfold putP putC
  rw [List.map_append, List.filter_map]
  rfl
def Dk.put (d : Dk) (c : Cl) : Dk := { d with line := putC d.line c }
structure Dk.Wf (d : Dk) : Prop where
  p1 : 1 ≤ d.pace
  p2 : d.pace ≤ 1000
  len : d.line.length ≤ 60
  nd : (d.line.map (·.nm)).Nodup
theorem Dk.Ok.wf {d : Dk} (h : d.Ok) : d.Wf := ⟨h.p1, h.p2, h.len60, h.nd⟩
theorem putC_mem {L : List Cl} {c x : Cl} : x ∈ putC L c ↔ (x ∈ L ∧ x.nm ≠ c.nm) ∨ x = c := by
  unfold putC
  rw [List.mem_append, List.mem_filter, List.mem_singleton]
  simp
theorem putC_len {L : List Cl} {c c0 : Cl} (nd : (L.map (·.nm)).Nodup) (h0 : c0 ∈ L) (e : c0.nm = c.nm) : (putC L c).length = L.length := by
  unfold putC
  rw [List.length_append, List.length_singleton]
  induction L with
  | nil => cases h0
  | cons x L ih =>
    rw [List.map_cons, List.nodup_cons] at nd
    by_cases hx : x.nm = c.nm
    · rw [List.filter_cons, if_neg (by simp [hx])]
      have : L.filter (fun o => !decide (o.nm = c.nm)) = L := List.filter_eq_self.mpr fun o ho => by
        have : o.nm ≠ c.nm := fun q => nd.1 (by rw [hx, ← q]; exact List.mem_map.mpr ⟨o, ho, rfl⟩)
        simp [this]
      rw [this, List.length_cons]
    · rw [List.filter_cons, if_pos (by simp [hx]), List.length_cons, List.length_cons]
      rcases List.mem_cons.mp h0 with rfl | h0
      · exact absurd e hx
      · have := ih nd.2 h0
        omega
theorem filter_nodup {L : List Cl} {g : Cl → Bool} (nd : (L.map (·.nm)).Nodup) : ((L.filter g).map (·.nm)).Nodup := (List.filter_sublist.map _).nodup nd
theorem putC_nd {L : List Cl} {c : Cl} (nd : (L.map (·.nm)).Nodup) : ((putC L c).map (·.nm)).Nodup := by
  unfold putC
  rw [List.map_append, List.nodup_append]
  refine ⟨filter_nodup nd, by simp, fun a ha b hb => ?_⟩
  obtain ⟨x, hx, rfl⟩ := List.mem_map.mp ha
  have hx := (List.mem_filter.mp hx).2
  simp at hb hx
  rw [hb]
  exact hx
theorem Dk.Wf.put {d : Dk} (h : d.Wf) {c c0 : Cl} (h0 : c0 ∈ d.line) (e : c0.nm = c.nm) : (d.put c).Wf := ⟨h.p1, h.p2, by show (putC d.line c).length ≤ 60; rw [putC_len h.nd h0 e]; exact h.len, putC_nd h.nd⟩
/-- the caller of a name -/
def Dk.get (d : Dk) (nm : Str) : Option Cl := d.line.find? fun c => decide (c.nm = nm)
def enterErr (d : Dk) (nm : Str) (rk : Int) : Option Str :=
  if isName nm = false then some "NoName" else if rk < 0 ∨ 99 < rk then some "NoRank" else if nm ∈ d.line.map (·.nm) then some "Known" else if d.room ≤ (d.line.length : Int) then some "Full" else none
def Dk.enter (d : Dk) (nm : Str) (rk : Int) : Dk := { d with line := d.line ++ [⟨nm, rk, .rdy d.now⟩] }
def Dk.leave (d : Dk) (nm : Str) : Dk := { d with line := d.line.filter fun o => !decide (o.nm = nm) }
def sleepErr (d : Dk) (nm : Str) (m : Int) : Option Str := match d.get nm with
  | none => some "Unknown"
  | some c => if m < 1 ∨ 1000 < m then some "NoSpan" else if c.md.isR = true then none else some "NotReady"
def waitErr (d : Dk) (nm b : Str) : Option Str := match d.get nm with
  | none => some "Unknown"
  | some c => if isName b = false then some "NoName" else if c.md.isR = true then none else some "NotReady"
def wakeErr (d : Dk) (nm : Str) : Option Str := match d.get nm with
  | none => some "Unknown"
  | some c => if c.md.isR = true then some "IsReady" else none
def rerankErr (d : Dk) (nm : Str) (rk : Int) : Option Str := match d.get nm with
  | none => some "Unknown"
  | some c => if rk < 0 ∨ 99 < rk then some "NoRank" else if c.md.isR = true then some "IsReady" else none
def Dk.setRk (d : Dk) (nm : Str) (rk : Int) : Dk := { d with line := d.line.map fun c => if c.nm = nm then ⟨c.nm, rk, c.md⟩ else c }
theorem Dk.get_some {d : Dk} {nm : Str} {c : Cl} (h : d.get nm = some c) : c ∈ d.line ∧ c.nm = nm := ⟨List.mem_of_find?_eq_some h, by simpa using List.find?_some h⟩
theorem Dk.get_none {d : Dk} {nm : Str} (h : d.get nm = none) : ∀ c ∈ d.line, c.nm ≠ nm := fun c hc => by
  have := List.find?_eq_none.mp h c hc
  simpa using this
theorem Dk.get_of {d : Dk} (nd : (d.line.map (·.nm)).Nodup) {c : Cl} (hc : c ∈ d.line) : d.get c.nm = some c := by
  cases h : d.get c.nm with
  | none => exact absurd rfl (Dk.get_none h c hc)
  | some c' =>
    obtain ⟨h1, h2⟩ := Dk.get_some h
    congr 1
    generalize d.line = L at *
    induction L with
    | nil => cases hc
    | cons x L ih =>
      rw [List.map_cons, List.nodup_cons] at nd
      rcases List.mem_cons.mp h1 with rfl | k1
      · rcases List.mem_cons.mp hc with rfl | k2
        · rfl
        · exact absurd (List.mem_map.mpr ⟨c, k2, h2.symm⟩) nd.1
      · rcases List.mem_cons.mp hc with rfl | k2
        · exact absurd (List.mem_map.mpr ⟨c', k1, h2⟩) nd.1
        · exact ih nd.2 k2 k1
theorem DkAt.get {K : PySem.W.Frag} {H : Hp} {p l : Addr} {d : Dk} {ps : List Pr} (D : DkAt K H p d l ps) {nm : Str} {c : Cl} (h : d.get nm = some c) : ∃ q ∈ ps, q.2 = c ∧ c.nm = nm := by
  obtain ⟨h1, h2⟩ := Dk.get_some h
  rw [D.eq] at h1
  obtain ⟨q, hq, e⟩ := List.mem_map.mp h1
  exact ⟨q, hq, e, h2⟩
theorem DkAt.get_of {K : PySem.W.Frag} {H : Hp} {p l : Addr} {d : Dk} {ps : List Pr} (D : DkAt K H p d l ps) (W : d.Wf) {q : Pr} (hq : q ∈ ps) : d.get q.2.nm = some q.2 := Dk.get_of W.nd (by rw [D.eq]; exact List.mem_map.mpr ⟨q, hq, rfl⟩)
theorem DkAt.get_none {K : PySem.W.Frag} {H : Hp} {p l : Addr} {d : Dk} {ps : List Pr} (D : DkAt K H p d l ps) {nm : Str} (h : ∀ q ∈ ps, q.2.nm ≠ nm) : d.get nm = none := by
  cases e : d.get nm with
  | none => rfl
  | some c =>
    obtain ⟨q, hq, h1, h2⟩ := D.get e
    exact absurd (by rw [h1, h2]) (h q hq)
theorem Fr.sub {F G H : Hp} {p l : Addr} {ps : List Pr} (f : Fr F H p l ps) (h : ∀ a o, G a = some o → F a = some o) : Fr G H p l ps := by
  have no : ∀ a, F a = none → G a = none := fun a ha => by
    cases e : G a with
    | none => rfl
    | some o => rw [h a o e] at ha; cases ha
  exact ⟨fun a o e => f.ex a o (h a o e), no _ f.p0, no _ f.l0, fun q hq => no _ (f.c0 q hq)⟩
theorem DeskAt.sub {K : PySem.W.Frag} {F G H : Hp} {p : Addr} {d : Dk} (D : DeskAt K F H p d) (h : ∀ a o, G a = some o → F a = some o) : DeskAt K G H p d := let ⟨l, ps, a, b⟩ := D; ⟨l, ps, a, b.sub h⟩
theorem upd_sub {F : Hp} {a : Addr} {x : HO} (h : F a = none) : ∀ b o, F b = some o → upd F a x b = some o := fun b o e => by rw [upd_ne (ne_of_none e h)]; exact e
theorem upd_mono {F G : Hp} {a : Addr} {x : HO} (h : ∀ b o, F b = some o → G b = some o) : ∀ b o, upd F a x b = some o → upd G a x b = some o := fun b o e => by
  by_cases c : b = a
  · rw [c, upd_same] at e ⊢
    exact e
  · rw [upd_ne c] at e ⊢
    exact h b o e
theorem ex_none {F H : Hp} {a : Addr} (e : Ex F H) (h : H a = none) : F a = none := by
  cases q : F a with
  | none => rfl
  | some o => rw [e _ _ q] at h; cases h
theorem decV (a b : Str) : decide (V.str a = V.str b) = decide (a = b) := decide_eq_decide.mpr ⟨V.str.inj, congrArg _⟩
section
variable {K : PySem.W.Frag} {mg : Str → Option Value} {σ : L2.St} {F H H' H1 : Hp} {p l a q : Addr} {d : Dk} {ps : List Pr} {c : Cl} {ta : TE}
theorem ev_pace (T : Txt K mg) (h : Ev ta σ H (.ref p)) (D : DkAt K H p d l ps) : Ev (tFld K ta "pace") σ H (.int d.pace) := ev_fldx h D.ob (c_Desk T) (n_Desk_pace T) rfl
theorem ev_room (T : Txt K mg) (h : Ev ta σ H (.ref p)) (D : DkAt K H p d l ps) : Ev (tFld K ta "room") σ H (.int d.room) := ev_fldx h D.ob (c_Desk T) (n_Desk_room T) rfl
theorem ev_now (T : Txt K mg) (h : Ev ta σ H (.ref p)) (D : DkAt K H p d l ps) : Ev (tFld K ta "now") σ H (.int d.now) := ev_fldx h D.ob (c_Desk T) (n_Desk_now T) rfl
theorem ev_line (T : Txt K mg) (h : Ev ta σ H (.ref p)) (D : DkAt K H p d l ps) : Ev (tFld K ta "line") σ H (.ref l) := ev_fldx h D.ob (c_Desk T) (n_Desk_line T) rfl
theorem ev_label (T : Txt K mg) (h : Ev ta σ H (.ref a)) (C : CAt K H a c) : Ev (tFld K ta "label") σ H (.str c.nm) := ev_fldx h C (c_Caller T) (n_Caller_label T) rfl
theorem ev_grade (T : Txt K mg) (h : Ev ta σ H (.ref a)) (C : CAt K H a c) : Ev (tFld K ta "grade") σ H (.int c.rk) := ev_fldx h C (c_Caller T) (n_Caller_grade T) rfl
theorem ev_stand (T : Txt K mg) (h : Ev ta σ H (.ref a)) (C : CAt K H a c) : Ev (tFld K ta "stand") σ H (.str c.md.st) := ev_fldx h C (c_Caller T) (n_Caller_stand T) rfl
theorem ev_mark (T : Txt K mg) (h : Ev ta σ H (.ref a)) (C : CAt K H a c) : Ev (tFld K ta "mark") σ H c.md.mark := ev_fldx h C (c_Caller T) (n_Caller_mark T) rfl
end
theorem inV_names (nm : Str) (L : List Cl) : inV (.str nm) (L.map fun c => V.str c.nm) = decide (nm ∈ L.map (·.nm)) := by
  unfold inV
  rw [List.any_map]
  induction L with
  | nil => rfl
  | cons c L ih =>
    rw [List.any_cons, ih, List.map_cons]
    by_cases h : nm = c.nm
    · subst h
      simp [Function.comp, eqV]
    · have h' : ¬ c.nm = nm := fun e => h e.symm
      simp [Function.comp, eqV, h, h']
theorem flat_names (L : List Cl) : (L.map fun c => V.str c.nm).all flatV = true := by
  rw [List.all_map]
  exact List.all_eq_true.mpr fun _ _ => rfl
theorem ev_join {K : PySem.W.Frag} {σ : L2.St} {H : Hp} {to te : TE} {a : Str} {ys : List Str} (h : Ev to σ H (.str a)) (h2 : Ev te σ H (.ref p)) (hp : SqL K H p (ys.map V.str)) (hz : (ys.map (·.length)).sum + ys.length * a.length ≤ 16777216) :
    Ev (tM1 (fun x xs H Q => ∃ a p, ∃ ys : List Str, x = .str a ∧ xs = [.ref p] ∧ (SqL K H p (ys.map V.str) ∨ SqT K H p (ys.map V.str)) ∧ (ys.map (·.length)).sum + ys.length * a.length ≤ 16777216 ∧ Q (.str (Txt.join a ys)) H) to te) σ H (.str (Txt.join a ys)) := fun H1 e Q q =>
  h H1 e _ fun H2 e2 => ⟨⟨a, rfl⟩, h2 H2 (e.trans e2) _ fun H3 e3 => ⟨a, p, ys, rfl, rfl, .inl (ex_l ((e.trans e2).trans e3) hp), hz, q H3 (e2.trans e3)⟩⟩
theorem at_getD {L : List Nat} {i : Int} (h0 : 0 ≤ i) (h1 : i < (L.length : Int)) : atI L i = some (L.getD i.toNat 0) := by
  unfold atI ixN
  rw [if_pos h0, if_pos h1]
  have : i.toNat < L.length := by omega
  show L[i.toNat]? = _
  rw [List.getD_eq_getElem?_getD, List.getElem?_eq_getElem this]
  rfl
theorem joinL_nil : ∀ ps : List (List Nat), TL.joinL [] ps = ps.flatten
  | [] => rfl
  | [p] => by simp [TL.joinL]
  | p :: q :: r => by
    show p ++ ([] ++ TL.joinL [] (q :: r)) = _
    rw [joinL_nil (q :: r)]
    rfl
theorem join_signs (cs : List Nat) : Txt.join "" (cs.map fun c => SX.S [c]) = SX.S cs := by
  refine TL.ext_tl ?_
  rw [TL.join_eq, TL.tl_join, show TL.tl ("" : Str) = [] from by decide +kernel, joinL_nil, List.map_map]
  show _ = cs
  induction cs with
  | nil => rfl
  | cons x R ih =>
    rw [List.map_cons, List.flatten_cons, ih]
    rfl
theorem et_mix0 {σ : L2.St} {H : Hp} {te : TE} {x : Int} {a : Int} (h : Ev te σ H (.int x)) : EvT (tTest (tOp rEq te (tC (.int a)))) σ H (decide (x = a)) := et_is (et_test (ev_op h ev_c (rv_eq rfl))) (decide_eq_decide.mpr ⟨fun h => by injection h, fun h => by rw [h]⟩)
/-! a method that may raise, called within a try: what is wished of the exception knows the names -/
def tMethS (C : Addr) (m : Str) (sp : Sp) (E : L2.St → XK) (ta : TE) (t : TA) : TE := fun σ H Q => ta σ H fun x H1 => ∃ a dx fs, x = .ref a ∧ H1 a = some (.ins C dx fs) ∧ fs.lookup m = none ∧ t σ H1 fun vs H2 => sp (.ref a :: vs) H2 Q (E σ)
theorem pe_methS {X : Cx} {CX : CXT} {k : Nat} {f C : Addr} {fd : FuncData} {ps : List Str} {sp : Sp} {E : L2.St → XK} {m : Str} {pos apos : Pos} {e o : Expr} {es : List Expr} {ta : TE} {t : TA} {pl : Sem Bool} (he : PE X o ta) (c : Cls X.K C) (hm : Meth X.K C m f) (F : FnOk X.prog X.w X.K X.mg X.base CX k f fd ps sp) (hr : Room k X.A) (hb : L2.Binds X.K fd ps []) (hx : ∀ σ, PassesAt CX X σ (E σ)) (ha : PA X (e :: es) t)
    (hst : starEach (e :: es) X.env = (false, eval e X.env) :: starEach es X.env := by rfl) (hpl : (backTo pos (starEach es X.env)).any (·.1) = false := by rfl)
    (ht : eval (.Call (.Attribute o m apos) (e :: es) [] pos) X.env = (do
      let ov ← eval o X.env
      standAt apos.atName
      let (f, first) ← holding [ov] (getMethod ov m pl)
      callWith pos f first (backTo pos (starEach (e :: es) X.env)) (backToKw pos (keywordEach [] X.env))) := by rfl) :
    PE X (.Call (.Attribute o m apos) (e :: es) [] pos) (tMethS C m sp E ta t) := by
  refine ⟨fun pins s σ H Q I h => ?_⟩
  refine PySem.W.methodCall_KW (pl := pl) (thn (he.run pins s σ H _ I h) fun u s1 ⟨x, H1, I1, rx, a, dx, fs, ex, ea, l, q⟩ => ?_) ht
  subst ex
  obtain rfl : u = Value.ref a := rx
  refine getmeth_ok I1 ea c hm l ?_
  refine PySem.W.callWith_K (first := [.ref a]) (h₀ := X.base) I.ok.mod.kin hm.kp (thn (ha.run pos pins s1 σ H1 _ I1 q) fun us s2 ⟨vs, H2, I2, r, q2⟩ => ⟨I2.kIn, ?_⟩) hst hpl
  exact run_fnS (us := .ref a :: us) (vs := .ref a :: vs) F hr hb (hx σ) I2 (.cons rfl r) q2
/-! ### L_sign_by -/
theorem sc_L_sign_by : FnScope ["_law_cell", "_law_some"] ["_law_cell"] (defScope s_L_sign_by) := ⟨rfl, rfl, rfl, by decide +kernel, rfl, by decide +kernel, by decide +kernel⟩
def sp_L_sign_by (_ : PySem.W.Frag) : Sp := fun vs H Q _ => ∃ (c : Int), vs = [.int c] ∧ ∀ (x : Nat) H', Ex H H' → Q (.str ⟨#[x]⟩) H'
theorem some_len : (" !\"#$&'()*+,-./0123456789:;<=>?@ABCDEFGHIJKLMNOPQRSTUVWXYZ[\\]^_`" ++ "abcdefghijklmnopqrstuvwxyz{|}~\n\t" : Str).cps.toList.length = 96 := by decide +kernel
theorem ok_L_sign_by {P : Program} {w : World} {K : PySem.W.Frag} {mg : Str → Option Value} {base : Heap} (T : Txt K mg) : ∃ fd, FnOk P w K mg base (CX0) 1 (He.ga K "_law_sign_by") fd ["_law_cell"] (sp_L_sign_by K) ∧ Binds K fd ["_law_cell"] [] ∧ FunD K "_law_sign_by" "_law_sign_by" (defArgs s_L_sign_by) (defBody s_L_sign_by) (defScope s_L_sign_by) [] [] (He.ga K "_law_sign_by") fd := by
  obtain ⟨fd, F⟩ := f_L_sign_by T
  refine ⟨fd, ok0 F sc_L_sign_by (fun vs H Q E h => ?_) (fun cdv A outer s H vs Q E hr h => ?_), FunD.bindsN F fun _ _ _ _ _ _ us hl => match us, hl with | [_], _ => rfl, F⟩
  · (repeat (obtain ⟨_, h⟩ := h)); subst_vars; rfl
  · obtain ⟨c, rfl, k⟩ := h
    refine ⟨_, (pss_cons (ps_set (i := 1) sc_L_sign_by.nd rfl (Or.inl rfl) pe_str)
        (pss_cons (ps_set (i := 1) sc_L_sign_by.nd rfl (Or.inl rfl) (pe_op op_add_str (pv 1) pe_str))
        (pss_one (ps_ret (pe_ix ix_str (pv 1) (pe_op op_mod (pv 0) pe_int) (fun _ _ => rfl)))))), ?_⟩
    refine q_asg ev_c fun H1 e1 => ?_
    refine q_asg (v := .str (" !\"#$&'()*+,-./0123456789:;<=>?@ABCDEFGHIJKLMNOPQRSTUVWXYZ[\\]^_`" ++ "abcdefghijklmnopqrstuvwxyz{|}~\n\t" : Str)) (ev_op (ev_var rfl) ev_c (rv_addS (by decide +kernel))) fun H2 e2 => ?_
    have hl := some_len
    generalize (" !\"#$&'()*+,-./0123456789:;<=>?@ABCDEFGHIJKLMNOPQRSTUVWXYZ[\\]^_`" ++ "abcdefghijklmnopqrstuvwxyz{|}~\n\t" : Str) = S at *
    have h0 := Int.emod_nonneg c (b := 96) (by decide)
    have h1 := Int.emod_lt_of_pos c (b := 96) (by decide)
    have hz : S.length ≤ 100000 := by
      have : S.length = 96 := by rw [← hl]; exact (Array.length_toList).symm
      omega
    exact s_ret (ev_op (ev_var rfl) (ev_op (ev_var rfl) ev_c (rv_I (by decide))) (rv_ixS hz (at_getD h0 (by rw [hl]; exact h1)))) fun H3 e3 => k _ H3 ((e1.trans e2).trans e3)
/-! ### L_text -/
theorem sc_L_text : FnScope ["_law_script", "_law_good", "_law_size", "_law_signs", "_law_k"] ["_law_script"] (defScope s_L_text) := ⟨rfl, rfl, rfl, by decide +kernel, rfl, by decide +kernel, by decide +kernel⟩
theorem s_setLC {σ : L2.St} {H : Hp} {D : Ends} {sp : Sp} {E : XK} {tr : TA} {ta tb : TE} {vs : List V} (h : EvA tr σ H vs) (k : ∀ H1, Ex H H1 → sp (vs ++ []) H1 (fun y H2 => gSub ta tb rSetL y σ H2 D.nx) E) : tAsg (tCall sp [] E tr) (gSub ta tb rSetL) D σ H := h H (Ex.refl H) _ fun H1 e1 => k H1 e1
def sp_L_text (K : PySem.W.Frag) : Sp := fun vs H Q _ => ∃ (a : Addr) (ns : List Int), vs = [.ref a] ∧ SqL K H a (ns.map V.int) ∧ ∀ (s : Str) H', s.length ≤ 14 → Ex H H' → Q (.str s) H'
theorem signs36 : signsS.cps.toList.length = 36 := by decide +kernel
theorem ok_L_text {P : Program} {w : World} {K : PySem.W.Frag} {mg : Str → Option Value} {base : Heap} (T : Txt K mg) : ∃ fd, FnOk P w K mg base (CX0) 2 (He.ga K "_law_text") fd ["_law_script"] (sp_L_text K) ∧ Binds K fd ["_law_script"] [] ∧ FunD K "_law_text" "_law_text" (defArgs s_L_text) (defBody s_L_text) (defScope s_L_text) [] [] (He.ga K "_law_text") fd := by
  obtain ⟨fd, F⟩ := f_L_text T
  obtain ⟨d_L_cell_at, G_L_cell_at, b_L_cell_at, _⟩ := ok_L_cell_at (P := P) (w := w) (base := base) T
  obtain ⟨d_L_sign_by, G_L_sign_by, b_L_sign_by, _⟩ := ok_L_sign_by (P := P) (w := w) (base := base) T
  refine ⟨fd, ok0 F sc_L_text (fun vs H Q E h => ?_) (fun cdv A outer s H vs Q E hr h => ?_), FunD.bindsN F fun _ _ _ _ _ _ us hl => match us, hl with | [_], _ => rfl, F⟩
  · (repeat (obtain ⟨_, h⟩ := h)); subst_vars; rfl
  · obtain ⟨a, ns, rfl, hS, k⟩ := h
    refine ⟨_, (pss_cons (ps_set (i := 1) sc_L_text.nd rfl (Or.inr rfl) pe_str)
        (pss_cons (ps_set (i := 2) sc_L_text.nd rfl (Or.inl rfl) (pe_op op_mod (pe_call G_L_cell_at (hr.mono (by decide)) rfl (g_L_cell_at T) (kp_L_cell_at T) b_L_cell_at .nil pass0 (pa_cons (pv 0) (pa_cons pe_int pa_nil))) pe_int))
        (pss_cons (ps_setLc (i := 3) (own := [("_law_k", 4)]) (g := gName 4) (tt := tYes) rfl sc_L_text.nd rfl rfl (sw_true rfl rfl rfl (by decide +kernel)) (pi_range1 rfl (b_range T) (pa_cons (pv 2) pa_nil)) (blkOk_by (own := [("_law_k", 4)]) (N := ["_law_script", "_law_good", "_law_size", "_law_signs", "_law_k"]) (sc := defScope s_L_text) (by decide +kernel)) (fun _ _ _ _ _ => (pg_name (i := 4) sc_L_text.nd rfl (Or.inl rfl))) (fun _ _ _ _ _ => pts_nil) (fun _ _ _ _ _ => (pe_ix ix_str (pv 1) (pe_op op_mod (pe_op op_add (pe_call G_L_cell_at (hr.mono (by decide)) rfl (g_L_cell_at T) (kp_L_cell_at T) b_L_cell_at .nil pass0 (pa_cons (pv 0) (pa_cons pe_int pa_nil))) (pe_call G_L_cell_at (hr.mono (by decide)) rfl (g_L_cell_at T) (kp_L_cell_at T) b_L_cell_at .nil pass0 (pa_cons (pv 0) (pa_cons (pe_op op_add pe_int (pv 4)) pa_nil)))) pe_int) (fun _ _ => rfl))))
        (pss_cons (ps_if (PW.pt (pw_and (pt_cmpR op_gt (pv 2) pe_int (nomark _)) (pw_and1 (pt_cmpR op_eq (pe_op op_mod (pe_call G_L_cell_at (hr.mono (by decide)) rfl (g_L_cell_at T) (kp_L_cell_at T) b_L_cell_at .nil pass0 (pa_cons (pv 0) (pa_cons pe_int pa_nil))) pe_int) pe_int (nomark _))))) (pss_one (ps_asg (pe_call G_L_sign_by (hr.mono (by decide)) rfl (g_L_sign_by T) (kp_L_sign_by T) b_L_sign_by .nil pass0 (pa_cons (pe_call G_L_cell_at (hr.mono (by decide)) rfl (g_L_cell_at T) (kp_L_cell_at T) b_L_cell_at .nil pass0 (pa_cons (pv 0) (pa_cons pe_int pa_nil))) pa_nil)) (pg_sub (pv 3) (pe_op op_mod (pe_op op_fdiv (pe_call G_L_cell_at (hr.mono (by decide)) rfl (g_L_cell_at T) (kp_L_cell_at T) b_L_cell_at .nil pass0 (pa_cons (pv 0) (pa_cons pe_int pa_nil))) pe_int) (pv 2)) set_list)))
        pss_nil)
        (pss_one (ps_ret (pe_join pe_str (pv 3)))))))), ?_⟩
    refine q_asg (v := .str signsS) ev_c fun H1 e1 => ?_
    have hS1 := ex_l e1 hS
    have z0 := Int.emod_nonneg (cellAt ns 0) (b := 15) (by decide)
    have z1 := Int.emod_lt_of_pos (cellAt ns 0) (b := 15) (by decide)
    refine q_asg (v := .int (cellAt ns 0 % 15)) (ev_op (ev_call (ea_cons (ev_var rfl) (ea_cons ev_c ea_nil)) (cv_L_cell_at hS1 (by decide))) ev_c (rv_I (by decide))) fun H2 e2 => ?_
    generalize cellAt ns 0 % 15 = n at *
    have hS2 := ex_l e2 hS1
    obtain ⟨f, hf⟩ : ∃ f : Nat → Nat, ∀ i : Nat, f i = signsS.cps.toList.getD ((cellAt ns 1 + cellAt ns (4 + (i : Int))) % 36).toNat 0 := ⟨_, fun _ => rfl⟩
    have hg : given n.toNat (fun _ => true) (fun i => V.str (SX.S [f i])) = ((List.range n.toNat).map fun i => SX.S [f i]).map V.str := by
      unfold given
      rw [filter_true, List.map_map]
      rfl
    refine q_asgL (xs := ((List.range n.toNat).map fun i => SX.S [f i]).map V.str) ?h1 fun p H3 np e3 hp => ?_
    case h1 =>
      rw [← hg]
      refine el_lcR1 (n := n) (fun _ => true) (fun i => V.str (SX.S [f i])) (ea_cons (ev_var rfl) ea_nil) (by omega) (fun _ => rfl) (fun i H9 e9 hi => et_yes) (fun i H9 e9 hi _ => ?_)
      rw [hf]
      have hS9 := ex_l e9 hS2
      refine ev_op (ev_var rfl) (ev_op (ev_op (ev_call (ea_cons (ev_var rfl) (ea_cons ev_c ea_nil)) (cv_L_cell_at hS9 (by decide))) (ev_call (ea_cons (ev_var rfl) (ea_cons (ev_op ev_c (ev_var rfl) rv_I0) ea_nil)) (cv_L_cell_at hS9 (by omega))) rv_I0) ev_c (rv_I (by decide))) (rv_ixS (by decide +kernel) (at_getD (Int.emod_nonneg _ (by decide)) ?_))
      rw [signs36]
      exact Int.emod_lt_of_pos _ (by decide)
    have hcs : ((List.range n.toNat).map fun i => SX.S [f i]).map V.str = (((List.range n.toNat).map f).map fun c => SX.S [c]).map V.str := by
      rw [List.map_map, List.map_map, List.map_map]
      rfl
    rw [hcs] at hp
    have hcl : ((List.range n.toNat).map f).length = n.toNat := by rw [List.length_map, List.length_range]
    generalize (List.range n.toNat).map f = cs at *
    have fin : ∀ {H4 : Hp} {cs' : List Nat}, Ex H H4 → cs'.length = n.toNat → H4 p = some (.lst ((cs'.map fun c => SX.S [c]).map V.str)) → ∀ {σ : L2.St} {D : Ends}, D.rt = Q → σ[3]? = some (some (.ref p)) → tRet (tM1 (fun x xs H Q => ∃ a p, ∃ ys : List Str, x = .str a ∧ xs = [.ref p] ∧ (SqL K H p (ys.map V.str) ∨ SqT K H p (ys.map V.str)) ∧ (ys.map (·.length)).sum + ys.length * a.length ≤ 16777216 ∧ Q (.str (Txt.join a ys)) H) (tC (.str "")) (tVar 3)) D σ H4 := fun {H4 cs'} e4 hl hp4 {σ D} hD hσ => by
      refine s_ret (ev_join (p := p) ev_c (ev_var hσ) (sq_of hp4) ?_) fun H5 e5 => ?_
      · rw [List.map_map, List.length_map, show ("" : Str).length = 0 from by decide +kernel]
        have : cs'.map ((fun x : Str => x.length) ∘ fun c => SX.S [c]) = cs'.map fun _ => 1 := List.map_congr_left fun j _ => SX.S_len _
        rw [this, List.map_const', List.sum_replicate_nat, hl]
        omega
      · rw [join_signs, hD]
        exact k _ H5 (by rw [SX.S_len, hl]; omega) (e4.trans e5)
    have e13 := (e1.trans e2).trans e3
    have hS3 := ex_l e3 hS2
    refine q_when (b := decide (n > 0) && decide (cellAt ns 2 % 2 = 1)) ?h2 (fun hb H4 e4 => ?_) (fun hb H4 e4 => fin (e13.trans e4) hcl (e4 _ _ hp) rfl rfl)
    case h2 => exact et_and (et_test (ev_op (ev_var rfl) ev_c rv_I0)) fun _ => et_mix0 (ev_op (ev_call (ea_cons (ev_var rfl) (ea_cons ev_c ea_nil)) (cv_L_cell_at hS3 (by decide))) ev_c (rv_I (by decide)))
    rw [Bool.and_eq_true] at hb
    have hn := of_decide_eq_true hb.1
    have hS4 := ex_l e4 hS3
    have j0 := Int.emod_nonneg (cellAt ns 2 / 2) (b := n) (by omega)
    have j1 := Int.emod_lt_of_pos (cellAt ns 2 / 2) (b := n) (by omega)
    refine s_setLC (vs := [.int (cellAt ns 3)]) (ea_cons (ev_call (ea_cons (ev_var rfl) (ea_cons ev_c ea_nil)) (cv_L_cell_at hS4 (by decide))) ea_nil) fun H5 e5 => ⟨cellAt ns 3, rfl, fun x H6 e6 => ?_⟩
    refine ⟨_, rfl, ?_⟩
    have hS6 := ex_l (e5.trans e6) hS4
    have e36 := e4.trans (e5.trans e6)
    refine (ev_op (ev_op (ev_call (ea_cons (ev_var rfl) (ea_cons ev_c ea_nil)) (cv_L_cell_at hS6 (by decide))) ev_c (rv_I ⟨by decide, by decide⟩)) (ev_var rfl) (rv_I (C := fun _ j => 0 < j) hn)) H6 (Ex.refl H6) _ fun H7 e7 => ⟨p, _, _, (cellAt ns 2 / 2 % n).toNat, rfl, rfl, (e36.trans e7) _ _ hp, ?_, ?_⟩
    · have e9 : cellAt ns 2 / 2 % n = (((cellAt ns 2 / 2 % n).toNat : Nat) : Int) := by omega
      rw [e9]
      exact ixN_nat (by rw [List.length_map, List.length_map, hcl]; omega)
    · have hset : (((cs.map fun c => SX.S [c]).map V.str).set (cellAt ns 2 / 2 % n).toNat (.str ⟨#[x]⟩)) = (((cs.set (cellAt ns 2 / 2 % n).toNat x).map fun c => SX.S [c]).map V.str) := by
        rw [List.map_set, List.map_set]
      rw [hset]
      have hpn : H p = none := fresh_back (e1.trans e2) np
      exact fin (Ex.mut (e13.trans (e36.trans e7)) hpn) (by rw [List.length_set]; exact hcl) upd_same rfl rfl
/-! ### is_name -/
theorem sc_is_name : FnScope ["text", "sign"] ["text"] (defScope s_is_name) := ⟨rfl, rfl, rfl, by decide +kernel, rfl, by decide +kernel, by decide +kernel⟩
def sp_is_name (_ : PySem.W.Frag) : Sp := fun vs H Q _ => ∃ (s : Str), vs = [.str s] ∧ s.length ≤ 100000 ∧ RetV (.bl (isName s)) H Q
theorem cv_is_name {K : PySem.W.Frag} {H : Hp} {s : Str} (h : s.length ≤ 100000) : SpV (sp_is_name K) ([.str s] ++ []) H (.bl (isName s)) := spv_call fun _ _ _ _ k => ⟨s, rfl, h, k⟩
local macro_rules | `(tactic| tm_at "rr.cv") => `(tactic| refine' cv_is_name ?_)
theorem ok_is_name {P : Program} {w : World} {K : PySem.W.Frag} {mg : Str → Option Value} {base : Heap} (T : Txt K mg) : ∃ fd, FnOk P w K mg base (CX0) 1 (He.ga K "is_name") fd ["text"] (sp_is_name K) ∧ Binds K fd ["text"] [] ∧ FunD K "is_name" "is_name" (defArgs s_is_name) (defBody s_is_name) (defScope s_is_name) [] [] (He.ga K "is_name") fd := by
  obtain ⟨fd, F⟩ := f_is_name T
  obtain ⟨t_SIGNS, hk_SIGNS⟩ := k_SIGNS T
  obtain ⟨t_MOST, hk_MOST⟩ := k_MOST T
  refine ⟨fd, ok0 F sc_is_name (fun vs H Q E h => ?_) (fun cdv A outer s H vs Q E hr h => ?_), FunD.bindsN F fun _ _ _ _ _ _ us hl => match us, hl with | [_], _ => rfl, F⟩
  · (repeat (obtain ⟨_, h⟩ := h)); subst_vars; rfl
  · obtain ⟨s, rfl, hz, k⟩ := h
    refine ⟨_, (pss_cons (ps_if (PW.pt (pw_or (pt_cmpR op_lt (pe_callB call_len_str rfl (b_len T) (by decide +kernel) (pa_cons (pv 0) pa_nil)) pe_int (nomark _)) (pw_or1 (pt_cmpR op_gt (pe_callB call_len_str rfl (b_len T) (by decide +kernel) (pa_cons (pv 0) pa_nil)) (pe_glob (v := .int 12) rfl hk_MOST ⟨_, rfl⟩) (nomark _))))) (pss_one (ps_ret pe_bl))
        pss_nil)
        (pss_cons (ps_for PassesOwn.never rfl (pi_str (pv 0)) (pg_name (i := 1) sc_is_name.nd rfl (Or.inl rfl))
        (pss_one (ps_if (pt_cmpR op_notIn_sign (pv 1) (pe_glob (v := .str "abcdefghijklmnopqrstuvwxyz0123456789") rfl hk_SIGNS ⟨_, rfl⟩) (by with_unfolding_all rfl)) (pss_one (ps_ret pe_bl))
        pss_nil)))
        (pss_one (ps_ret pe_bl)))), ?_⟩
    refine q_when (b := decide ((s.length : Int) < 1) || decide (12 < (s.length : Int))) ?h (fun hb H1 e1 => ?_) (fun hb H1 e1 => ?_)
    case h => exact et_or (et_test (ev_op (ev_cb (ea_cons (ev_var rfl) ea_nil) (rc_len_str (sz_of hz))) ev_c rv_I0)) fun _ => et_test (ev_op (ev_cb (ea_cons (ev_var rfl) ea_nil) (rc_len_str (sz_of hz))) ev_c rv_I0)
    · have e : isName s = false := by
        unfold isName
        rw [Bool.or_eq_true] at hb
        rcases hb with hb | hb
        · rw [decide_eq_false (by have := of_decide_eq_true hb; omega)]
          rfl
        · rw [decide_eq_false (p := s.length ≤ 12) (by have := of_decide_eq_true hb; omega), Bool.and_false]
          rfl
      rw [e] at k
      exact s_ret ev_c fun H2 e2 => k H2 (e1.trans e2)
    · rw [Bool.or_eq_false_iff] at hb
      have l1 := of_decide_eq_false hb.1
      have l2 := of_decide_eq_false hb.2
      have e : isName s = s.cps.toList.all isSign := by
        unfold isName
        rw [decide_eq_true (by omega), decide_eq_true (by omega)]
        rfl
      rw [e] at k
      refine q_forS (K := K) (x := s) (ev_var rfl) (fun i σ' H' => Ex H1 H' ∧ (∃ v, σ' = [some (.str s), v]) ∧ (s.cps.toList.take i).all isSign = true) (fun H2 e2 => ⟨e2, ⟨none, rfl⟩, rfl⟩) ?_ ?_
      · rintro i c σ' H' hc ⟨e2, ⟨v, rfl⟩, hall⟩
        refine s_when (b := !isSign c) ?h (fun hb H3 e3 => ?_) (fun hb H3 e3 => ?_)
        case h => exact et_test (ev_op (ev_var rfl) ev_c rv_notInS)
        · have e9 : s.cps.toList.all isSign = false := by
            rw [List.all_eq_false]
            exact ⟨c, List.mem_of_getElem? hc, by simpa using hb⟩
          rw [e9] at k
          exact s_ret ev_c fun H4 e4 => k H4 (((e1.trans e2).trans e3).trans e4)
        · refine ⟨e2.trans e3, ⟨_, rfl⟩, ?_⟩
          rw [List.take_succ, hc, List.all_append, hall]
          simpa using hb
      · rintro σ' H' ⟨e2, ⟨v, rfl⟩, hall⟩
        have e9 : s.cps.toList.take s.length = s.cps.toList := List.take_of_length_le (by rw [Array.length_toList]; exact Nat.le_refl _)
        rw [e9] at hall
        rw [hall] at k
        exact s_ret ev_c fun H4 e4 => k H4 ((e1.trans e2).trans e4)
/-! ### desk_init -/
theorem sc_desk_init : FnScope ["self", "pace", "room"] ["self", "pace", "room"] (defScope s_desk_init) := ⟨rfl, rfl, rfl, by decide +kernel, rfl, by decide +kernel, by decide +kernel⟩
def sp_desk_init (K : PySem.W.Frag) : Sp := fun vs H Q E => ∃ (x dx : Addr) (pa ro : Int), vs = [.ref x, .int pa, .int ro] ∧ H x = some (.ins (aD K) dx []) ∧
  ((1 ≤ pa ∧ pa ≤ 1000 ∧ 1 ≤ ro ∧ ro ≤ 60) → ∀ (H' : Hp) (l : Addr), DkAt K H' x ⟨pa, ro, 0, []⟩ l [] → H l = none → (∀ b o, H b = some o → b ≠ x → H' b = some o) → Q .non H') ∧
  (¬ (1 ≤ pa ∧ pa ≤ 1000 ∧ 1 ≤ ro ∧ ro ≤ 60) → ∀ H', Ex H H' → E (.ref (He.ga K "NoDesk")) none H')
theorem ok_desk_init {P : Program} {w : World} {K : PySem.W.Frag} {mg : Str → Option Value} {base : Heap} (T : Txt K mg) : ∃ fd, FnOk P w K mg base (L2.CX P w) 1 (He.ma K (He.ga K "Desk") "__init__") fd ["self", "pace", "room"] (sp_desk_init K) ∧ Binds K fd ["self", "pace", "room"] [] ∧ FunD K "__init__" "Desk.__init__" (defArgs s_desk_init) (defBody s_desk_init) (defScope s_desk_init) [] [] (He.ma K (He.ga K "Desk") "__init__") fd := by
  obtain ⟨fd, F⟩ := f_desk_init T
  obtain ⟨t_MOST_PACE, hk_MOST_PACE⟩ := k_MOST_PACE T
  obtain ⟨t_MOST_ROOM, hk_MOST_ROOM⟩ := k_MOST_ROOM T
  refine ⟨fd, okX F sc_desk_init (fun vs H Q E h => ?_) (fun cdv A outer s H vs Q E hr h => ?_), FunD.bindsN F fun _ _ _ _ _ _ us hl => match us, hl with | [_, _, _], _ => rfl, F⟩
  · (repeat (obtain ⟨_, h⟩ := h)); subst_vars; rfl
  · obtain ⟨x, dx, pa, ro, rfl, hx, k, kE⟩ := h
    refine ⟨_, (pss_cons (ps_if (PW.pt (pw_or (pt_cmpR op_lt (pv 1) pe_int (nomark _)) (pw_or (pt_cmpR op_gt (pv 1) (pe_glob (v := .int 1000) rfl hk_MOST_PACE ⟨_, rfl⟩) (nomark _)) (pw_or (pt_cmpR op_lt (pv 2) pe_int (nomark _)) (pw_or1 (pt_cmpR op_gt (pv 2) (pe_glob (v := .int 60) rfl hk_MOST_ROOM ⟨_, rfl⟩) (nomark _))))))) (pss_one (ps_raise rfl (takes_of rfl rfl rfl rfl) (pmk_own PySem.F.excBase_ValueError (x_NoDesk T).1 (g_NoDesk T) (x_NoDesk T).2.1 (raises_own (x_NoDesk T).2.2.1 (x_NoDesk T).2.2.2) rfl)))
        pss_nil)
        (pss_cons (ps_fld (pv 0) (pv 1) rfl)
        (pss_cons (ps_fld (pv 0) (pv 2) rfl)
        (pss_cons (ps_fld (pv 0) pe_int rfl)
        (pss_one (ps_fld (pv 0) (pe_lst pa_nil) rfl)))))), ?_⟩
    refine' q_when ?h (fun hb H1 e1 => ?_) (fun hb H1 e1 => ?_)
    case h => tm_at "rr.ev"
    · refine kE (fun ⟨h1, h2, h3, h4⟩ => ?_) H1 e1
      rw [decide_eq_false (by omega), decide_eq_false (by omega), decide_eq_false (by omega), decide_eq_false (by omega)] at hb
      exact absurd hb (by decide)
    · rw [Bool.or_eq_false_iff, Bool.or_eq_false_iff, Bool.or_eq_false_iff] at hb
      obtain ⟨h1, h2, h3, h4⟩ := hb
      have h1 := of_decide_eq_false h1
      have h2 := of_decide_eq_false h2
      have h3 := of_decide_eq_false h3
      have h4 := of_decide_eq_false h4
      have hx1 := e1 _ _ hx
      refine ⟨_, rfl, _, rfl, x, aD K, dx, _, rfl, hx1, c_Desk T, n_Desk_pace T, (by show 0 < 1000; decide), ?_⟩
      refine ⟨_, rfl, _, rfl, x, aD K, dx, _, rfl, upd_same, c_Desk T, n_Desk_room T, (by show 1 < 1000; decide), ?_⟩
      refine ⟨_, rfl, x, aD K, dx, _, rfl, upd_same, c_Desk T, n_Desk_now T, (by show 2 < 1000; decide), ?_⟩
      refine ⟨(by decide), fun l hl => ?_⟩
      rw [upd_upd, upd_upd] at hl ⊢
      have nlx : l ≠ x := fun e => by rw [e, upd_same] at hl; cases hl
      rw [upd_ne nlx] at hl
      refine ⟨_, rfl, x, aD K, dx, _, rfl, (by rw [upd_ne nlx.symm]; exact upd_same), c_Desk T, n_Desk_line T, (by show 3 < 1000; decide), ?_⟩
      refine k (by omega) _ l ⟨⟨dx, upd_same⟩, by rw [upd_ne nlx]; exact upd_same, rfl, fun q hq => by cases hq⟩ ?_ fun b o e hb => ?_
      · cases q : H l with
        | none => rfl
        | some o => rw [e1 _ _ q] at hl; cases hl
      · have e2 := e1 _ _ e
        rw [upd_ne hb, upd_ne (ne_of_none e2 hl), upd_ne hb]
        exact e2
/-! ### desk_names -/
theorem sc_desk_names : FnScope ["self", "caller"] ["self"] (defScope s_desk_names) := ⟨rfl, rfl, rfl, by decide +kernel, rfl, by decide +kernel, by decide +kernel⟩
def sp_desk_names (K : PySem.W.Frag) : Sp := fun vs H Q _ => ∃ (p : Addr) (d : Dk) (l : Addr) (ps : List Pr), vs = [.ref p] ∧ DkAt K H p d l ps ∧ d.line.length ≤ 1000 ∧ RetL (d.line.map fun c => V.str c.nm) H Q
theorem cv_names {K : PySem.W.Frag} {H : Hp} {p l : Addr} {d : Dk} {ps : List Pr} (h : DkAt K H p d l ps) (hz : d.line.length ≤ 1000) : SpL (sp_desk_names K) (.ref p :: ([] ++ [])) H (d.line.map fun c => V.str c.nm) := spl_call fun _ e _ _ k => ⟨p, d, l, ps, rfl, h.ex e, hz, k⟩
theorem ok_desk_names {P : Program} {w : World} {K : PySem.W.Frag} {mg : Str → Option Value} {base : Heap} (T : Txt K mg) : ∃ fd, FnOk P w K mg base (CX0) 1 (He.ma K (He.ga K "Desk") "names") fd ["self"] (sp_desk_names K) ∧ Binds K fd ["self"] [] ∧ FunD K "names" "Desk.names" (defArgs s_desk_names) (defBody s_desk_names) (defScope s_desk_names) [] [] (He.ma K (He.ga K "Desk") "names") fd := by
  obtain ⟨fd, F⟩ := f_desk_names T
  refine ⟨fd, ok0 F sc_desk_names (fun vs H Q E h => ?_) (fun cdv A outer s H vs Q E hr h => ?_), FunD.bindsN F fun _ _ _ _ _ _ us hl => match us, hl with | [_], _ => rfl, F⟩
  · (repeat (obtain ⟨_, h⟩ := h)); subst_vars; rfl
  · obtain ⟨p, d, l, ps, rfl, D, hz, k⟩ := h
    refine ⟨_, (pss_one (ps_ret (pe_lc (own := [("caller", 1)]) (g := gName 1) (tt := tYes) rfl sc_desk_names.nd (pi_listK (K := K) rfl (pe_fldK (K := K) rfl (pv 0) rfl)) (blkOk_by (own := [("caller", 1)]) (N := ["self", "caller"]) (sc := defScope s_desk_names) (by decide +kernel)) (fun _ _ _ _ _ => (pg_name (i := 1) sc_desk_names.nd rfl (Or.inl rfl))) (fun _ _ _ _ _ => pts_nil) (fun _ _ _ _ _ => (pe_fldK (K := K) rfl (pv 1) rfl))))), ?_⟩
    have e1 : (ps.filter fun _ => true).map (fun q => V.str q.2.nm) = d.line.map fun c => V.str c.nm := by
      rw [filter_true, D.eq, List.map_map]
      rfl
    rw [← e1] at k
    exact s_retL (el_lcM (K := K) (ps := ps) (uu := fun q => V.ref q.1) (fun _ => true) (fun q => V.str q.2.nm) (ev_line T (ev_var rfl) D) (sq_of D.ln) (by rw [D.len]; omega) (fun _ => rfl) (fun _ _ _ _ => et_yes) fun q hq H1 e1 _ => ev_label T (ev_var rfl) ((D.at_ q hq).ex e1)) k
/-! ### caller_init -/
theorem sc_caller_init : FnScope ["self", "label", "grade", "stand", "mark"] ["self", "label", "grade", "stand", "mark"] (defScope s_caller_init) := ⟨rfl, rfl, rfl, by decide +kernel, rfl, by decide +kernel, by decide +kernel⟩
def sp_caller_init (K : PySem.W.Frag) : Sp := fun vs H Q _ => ∃ (x dx : Addr) (a g s m : V), vs = [.ref x, a, g, s, m] ∧ H x = some (.ins (aC K) dx []) ∧ ∀ H' : Hp, H' x = some (.ins (aC K) dx (rfs a g s m)) → (∀ b o, H b = some o → b ≠ x → H' b = some o) → Q .non H'
theorem ok_caller_init {P : Program} {w : World} {K : PySem.W.Frag} {mg : Str → Option Value} {base : Heap} (T : Txt K mg) : ∃ fd, FnOk P w K mg base (CX0) 1 (He.ma K (He.ga K "Caller") "__init__") fd ["self", "label", "grade", "stand", "mark"] (sp_caller_init K) ∧ Binds K fd ["self", "label", "grade", "stand", "mark"] [] ∧ FunD K "__init__" "Caller.__init__" (defArgs s_caller_init) (defBody s_caller_init) (defScope s_caller_init) [] [] (He.ma K (He.ga K "Caller") "__init__") fd := by
  obtain ⟨fd, F⟩ := f_caller_init T
  refine ⟨fd, ok0 F sc_caller_init (fun vs H Q E h => ?_) (fun cdv A outer s H vs Q E hr h => ?_), FunD.bindsN F fun _ _ _ _ _ _ us hl => match us, hl with | [_, _, _, _, _], _ => rfl, F⟩
  · (repeat (obtain ⟨_, h⟩ := h)); subst_vars; rfl
  · obtain ⟨x, dx, a, g, s, m, rfl, hx, k⟩ := h
    refine ⟨_, (pss_cons (ps_fld (pv 0) (pv 1) rfl)
        (pss_cons (ps_fld (pv 0) (pv 2) rfl)
        (pss_cons (ps_fld (pv 0) (pv 3) rfl)
        (pss_one (ps_fld (pv 0) (pv 4) rfl))))), ?_⟩
    refine ⟨_, rfl, _, rfl, x, aC K, dx, _, rfl, hx, c_Caller T, n_Caller_label T, (by show 0 < 1000; decide), ?_⟩
    refine ⟨_, rfl, _, rfl, x, aC K, dx, _, rfl, upd_same, c_Caller T, n_Caller_grade T, (by show 1 < 1000; decide), ?_⟩
    refine ⟨_, rfl, _, rfl, x, aC K, dx, _, rfl, upd_same, c_Caller T, n_Caller_stand T, (by show 2 < 1000; decide), ?_⟩
    refine ⟨_, rfl, _, rfl, x, aC K, dx, _, rfl, upd_same, c_Caller T, n_Caller_mark T, (by show 3 < 1000; decide), ?_⟩
    rw [upd_upd, upd_upd, upd_upd]
    exact k _ upd_same fun b o e hb => by rw [upd_ne hb]; exact e
/-! ### desk_enter -/
theorem sc_desk_enter : FnScope ["self", "name", "rank"] ["self", "name", "rank"] (defScope s_desk_enter) := ⟨rfl, rfl, rfl, by decide +kernel, rfl, by decide +kernel, by decide +kernel⟩
def sp_desk_enter (K : PySem.W.Frag) : Sp := fun vs H Q E => ∃ (F : Hp) (p : Addr) (d : Dk) (nm : Str) (rk : Int), vs = [.ref p, .str nm, .int rk] ∧ DeskAt K F H p d ∧ d.Wf ∧ nm.length ≤ 100000 ∧
  (∀ e, enterErr d nm rk = some e → ∀ H', Ex H H' → E (.ref (He.ga K e)) none H') ∧ (enterErr d nm rk = none → ∀ H', DeskAt K F H' p (d.enter nm rk) → Q .non H')
theorem ok_desk_enter {P : Program} {w : World} {K : PySem.W.Frag} {mg : Str → Option Value} {base : Heap} (T : Txt K mg) : ∃ fd, FnOk P w K mg base (L2.CX P w) 3 (He.ma K (He.ga K "Desk") "enter") fd ["self", "name", "rank"] (sp_desk_enter K) ∧ Binds K fd ["self", "name", "rank"] [] ∧ FunD K "enter" "Desk.enter" (defArgs s_desk_enter) (defBody s_desk_enter) (defScope s_desk_enter) [] [] (He.ma K (He.ga K "Desk") "enter") fd := by
  obtain ⟨fd, F⟩ := f_desk_enter T
  obtain ⟨d_is_name, G_is_name, b_is_name, _⟩ := ok_is_name (P := P) (w := w) (base := base) T
  obtain ⟨d_desk_names, G_desk_names, b_desk_names, _⟩ := ok_desk_names (P := P) (w := w) (base := base) T
  obtain ⟨d_caller_init, G_caller_init, b_caller_init, _⟩ := ok_caller_init (P := P) (w := w) (base := base) T
  obtain ⟨t_TOP, hk_TOP⟩ := k_TOP T
  refine ⟨fd, okX F sc_desk_enter (fun vs H Q E h => ?_) (fun cdv A outer s H vs Q E hr h => ?_), FunD.bindsN F fun _ _ _ _ _ _ us hl => match us, hl with | [_, _, _], _ => rfl, F⟩
  · (repeat (obtain ⟨_, h⟩ := h)); subst_vars; rfl
  · obtain ⟨F, p, d, nm, rk, rfl, ⟨l, ps, D, f⟩, W, hz, kE, k⟩ := h
    refine ⟨_, (pss_cons (ps_if (pt_not (pt_val (pe_call G_is_name (hr.mono (by decide)) rfl (g_is_name T) (kp_is_name T) b_is_name .nil pass0 (pa_cons (pv 1) pa_nil)))) (pss_one (ps_raise rfl (takes_of rfl rfl rfl rfl) (pmk_own PySem.F.excBase_ValueError (x_NoName T).1 (g_NoName T) (x_NoName T).2.1 (raises_own (x_NoName T).2.2.1 (x_NoName T).2.2.2) rfl)))
        pss_nil)
        (pss_cons (ps_if (PW.pt (pw_or (pt_cmpR op_lt (pv 2) pe_int (nomark _)) (pw_or1 (pt_cmpR op_gt (pv 2) (pe_glob (v := .int 99) rfl hk_TOP ⟨_, rfl⟩) (nomark _))))) (pss_one (ps_raise rfl (takes_of rfl rfl rfl rfl) (pmk_own PySem.F.excBase_ValueError (x_NoRank T).1 (g_NoRank T) (x_NoRank T).2.1 (raises_own (x_NoRank T).2.2.1 (x_NoRank T).2.2.2) rfl)))
        pss_nil)
        (pss_cons (ps_if (pt_cmpR (op_inK (K := K) rfl) (pv 1) (pe_meth0 (pv 0) (c_Desk T) (m_desk_names T) G_desk_names (hr.mono (by decide)) b_desk_names .nil pass0) (by with_unfolding_all rfl)) (pss_one (ps_raise rfl (takes_of rfl rfl rfl rfl) (pmk_own PySem.F.excBase_ValueError (x_Known T).1 (g_Known T) (x_Known T).2.1 (raises_own (x_Known T).2.2.1 (x_Known T).2.2.2) rfl)))
        pss_nil)
        (pss_cons (ps_if (pt_cmpR op_ge (pe_callB (call_lenK (K := K) rfl) rfl (b_len T) (by decide +kernel) (pa_cons (pe_fldK (K := K) rfl (pv 0) rfl) pa_nil)) (pe_fldK (K := K) rfl (pv 0) rfl) (nomark _)) (pss_one (ps_raise rfl (takes_of rfl rfl rfl rfl) (pmk_own PySem.F.excBase_ValueError (x_Full T).1 (g_Full T) (x_Full T).2.1 (raises_own (x_Full T).2.2.1 (x_Full T).2.2.2) rfl)))
        pss_nil)
        (pss_one (ps_expr (pe_bm PySem.F.plainAttrs_list PySem.F.slot_list_append PySem.F.type_list_append mt_append (pe_fldK (K := K) rfl (pv 0) rfl) (pa_cons (pe_make (mk_Caller T) G_caller_init (hr.mono (by decide)) rfl (g_Caller T) b_caller_init .nil pass0 (pa_cons (pv 1) (pa_cons (pv 2) (pa_cons pe_str (pa_cons (pe_fldK (K := K) rfl (pv 0) rfl) pa_nil))))) pa_nil)))))))), ?_⟩
    unfold enterErr at kE k
    refine q_when (b := !isName nm) ?h (fun hb H1 e1 => ?_) (fun hb H1 e1 => ?_)
    case h => exact et_not (et_B (ev_call (ea_cons (ev_var rfl) ea_nil) (cv_is_name hz)))
    · exact kE _ (if_pos (by simpa using hb)) H1 e1
    have n1 : ¬ isName nm = false := by simpa using hb
    rw [if_neg n1] at k
    refine' q_when ?h (fun hb H2 e2 => ?_) (fun hb H2 e2 => ?_)
    case h => tm_at "rr.ev"
    · exact kE _ (by rw [if_neg n1, if_pos (by simpa using hb)]) H2 (e1.trans e2)
    have n2 : ¬ (rk < 0 ∨ 99 < rk) := by simpa using hb
    rw [if_neg n2] at k
    have hlen := W.len
    have D2 := D.ex (e1.trans e2)
    refine q_when (b := decide (nm ∈ d.line.map (·.nm))) ?h (fun hb H3 e3 => ?_) (fun hb H3 e3 => ?_)
    case h =>
      rw [← inV_names]
      obtain ⟨dx, hp⟩ := D2.ob
      exact et_test (ev_opL (ev_var rfl) (el_meth (ev_var rfl) hp rfl ea_nil (cv_names D2 (by omega))) fun r H1 h e => rv_isL (sq_of h) rfl (flat_names _))
    · exact kE _ (by rw [if_neg n1, if_neg n2, if_pos (of_decide_eq_true hb)]) H3 ((e1.trans e2).trans e3)
    have n3 := of_decide_eq_false hb
    rw [if_neg n3] at k
    have D3 := D2.ex e3
    have hln := D.len
    have hll : ((ps.map fun q => V.ref q.1).length : Int) = (d.line.length : Int) := by rw [List.length_map]; omega
    refine q_when (b := decide (d.room ≤ (d.line.length : Int))) ?h (fun hb H4 e4 => ?_) (fun hb H4 e4 => ?_)
    case h =>
      rw [← hll]
      exact et_test (ev_op (ev_cb (ea_cons (ev_line T (ev_var rfl) D3) ea_nil) (rc_lenS (sq_of D3.ln))) (ev_room T (ev_var rfl) D3) rv_I0)
    · exact kE _ (by rw [if_neg n1, if_neg n2, if_neg n3, if_pos (of_decide_eq_true hb)]) H4 (((e1.trans e2).trans e3).trans e4)
    have n4 := of_decide_eq_false hb
    rw [if_neg n4] at k
    have D4 := D3.ex e4
    have f4 := f.mono (((e1.trans e2).trans e3).trans e4)
    obtain ⟨dx, hp⟩ := D4.ob
    have hl := D4.ln
    refine ⟨_, rfl, p, aD K, dx, _, _, rfl, hp, c_Desk T, n_Desk_line T, rfl, .inl ⟨rfl, _, SqL.of hl⟩, ?_⟩
    refine ⟨_, rfl, _, rfl, _, rfl, p, aD K, dx, _, _, rfl, hp, c_Desk T, n_Desk_now T, rfl, fun x dc nx ndx nex => ?_⟩
    refine ⟨x, dc, _, _, _, _, rfl, upd_same, fun H5 h5 k5 => ⟨rfl, ?_⟩⟩
    have e5 : Ex H4 H5 := fun b o hb => k5 b o (by rw [upd_ne (ne_of_none hb nx), upd_ne (ne_of_none hb ndx)]; exact hb) (ne_of_none hb nx)
    refine ⟨l, _, .ref x, rfl, rfl, e5 _ _ hl, sz_lt (by rw [List.length_map]; omega), ?_⟩
    have nlx : l ≠ x := ne_of_none hl nx
    have D5 := D4.ex e5
    have f5 := f4.mono e5
    have ca : ∀ {b o}, b ≠ l → H5 b = some o → upd H5 l (.lst ((ps.map fun q => V.ref q.1) ++ [.ref x])) b = some o := fun hb ho => by rw [upd_ne hb]; exact ho
    obtain ⟨dx5, hp5⟩ := D5.ob
    have Fx : F x = none := by
      cases hF : F x with
      | none => rfl
      | some o => have := f4.ex _ _ hF; rw [nx] at this; cases this
    refine k rfl _ ⟨l, ps ++ [(x, ⟨nm, rk, .rdy d.now⟩)], ⟨⟨dx5, ca (ne_of hp5 D5.ln (by intro z; cases z)) hp5⟩, ?_, ?_, ?_⟩, ⟨fun b o hb => ca (fun e => by have := f.l0; rw [← e, hb] at this; cases this) (f5.ex _ _ hb), f.p0, f.l0, ?_⟩⟩
    · rw [upd_same, List.map_append]
      rfl
    · show d.line ++ _ = _
      rw [List.map_append, D.eq]
      rfl
    · intro q hq
      rcases List.mem_append.mp hq with hq | hq
      · obtain ⟨dq, h⟩ := D5.at_ q hq
        exact ⟨dq, ca (ne_of h D5.ln (by intro z; cases z)) h⟩
      · rw [List.mem_singleton] at hq
        rw [hq]
        exact ⟨dc, ca nlx.symm h5⟩
    · intro q hq
      rcases List.mem_append.mp hq with hq | hq
      · exact f.c0 q hq
      · rw [List.mem_singleton] at hq
        rw [hq]
        exact Fx
/-! ### law -/
theorem sc_law : FnScope ["_law_script", "_law_text_here", "_law_due", "_law_sign", "_law_found", "_law_desk", "_law_refused"] ["_law_script"] (defScope s_law) := ⟨rfl, rfl, rfl, by decide +kernel, rfl, by decide +kernel, by decide +kernel⟩
theorem DeskAt.made {K : PySem.W.Frag} {H10 H11 : Hp} {x dx l : Addr} {d : Dk} {o1 o2 : HO} (nx : H10 x = none) (ndx : H10 dx = none) (D : DkAt K H11 x d l []) (nl : upd (upd H10 dx o1) x o2 l = none) (k11 : ∀ b o, upd (upd H10 dx o1) x o2 b = some o → b ≠ x → H11 b = some o) : DeskAt K H10 H11 x d := by
  have u10 : ∀ b o, H10 b = some o → upd (upd H10 dx o1) x o2 b = some o := fun b o hb => by rw [upd_ne (ne_of_none hb nx), upd_ne (ne_of_none hb ndx)]; exact hb
  exact ⟨l, [], D, ⟨fun b o hb => k11 b o (u10 b o hb) (ne_of_none hb nx), nx, ex_none (fun b o hb => u10 b o hb) nl, fun q hq => by cases hq⟩⟩
theorem q_makeA {σ : L2.St} {H : Hp} {tz : TS} {D : Ends} {i : Nat} {C : Addr} {sp : Sp} {E : XK} {tr : TA} (h : tr σ H fun vs H1 => ∀ x dx, H1 x = none → H1 dx = none → dx ≠ x → sp (.ref x :: (vs ++ [])) (upd (upd H1 dx (.own x)) x (.ins C dx [])) (fun v H2 => v = .non ∧ tz D (σ.set i (some (.ref x))) H2) E) :
    tSeq (tAsg (tMake C sp [] E tr) (gName i)) tz D σ H := h
theorem rc_isi_bool {K : PySem.W.Frag} {H : Hp} {b : Bool} : RC (rIsi K) [.bl b, .ty "bool"] H (.bl true) := rc_isi (t' := .non) (.ty _) (fun H1 e => .base (.bl b)) (kit_ty (by decide +kernel))
theorem sign_lt {c : Nat} (h : isSign c = true) : c < 128 := by
  have := of_decide_eq_true h
  have e : ∀ x ∈ signsS.cps.toList, x < 128 := by decide +kernel
  exact e c this
theorem name_strOk {s : Str} (h : isName s = true) : PyData.strOk s = true := by
  unfold isName at h
  rw [Bool.and_eq_true] at h
  unfold PyData.strOk
  rw [← Array.all_toList]
  exact List.all_eq_true.mpr fun c hc => decide_eq_true (by have := sign_lt (List.all_eq_true.mp h.2 c hc); omega)
/-- names() == a written list -/
theorem ev_eqLL {K : PySem.W.Frag} {σ : L2.St} {H : Hp} {ta tb : TE} {xs : List Str} (ha : EvL ta σ H (xs.map V.str)) (hb : EvL tb σ H (xs.map V.str)) (ok : ∀ x ∈ xs, PyData.strOk x = true) (hz : xs.length ≤ 1) : Ev (tOp (rEqD K) ta tb) σ H (.bl true) := ev_opLL ha hb fun p q H1 hp hq e => rv_val fun H2 e2 Q k => by
  match xs, hz with
  | [], _ => exact ⟨.list [], .list [], .lst (sq_of (e2 _ _ hp)) .nil, .lst (sq_of (e2 _ _ hq)) .nil, by decide +kernel, by decide +kernel, k⟩
  | [x], _ =>
    have hs : SeqAt.shaped (.list [.str x]) = true := by
      unfold SeqAt.shaped
      have := ok x (List.mem_singleton.mpr rfl)
      simp only [PyData.canLay0, PyData.canLayAll0, PyData.depth, PyData.depthAll, this]
      rfl
    refine ⟨.list [.str x], .list [.str x], .lst (sq_of (e2 _ _ hp)) (.cons (.str x) .nil), .lst (sq_of (e2 _ _ hq)) (.cons (.str x) .nil), hs, hs, ?_⟩
    rw [SeqAt.eqv_refl _ (Bool.and_eq_true_iff.mp hs).1]
    exact k
def sp_law (K : PySem.W.Frag) : Sp := fun vs H Q _ => ∃ (a : Addr) (ns : List Int), vs = [.ref a] ∧ SqL K H a (ns.map V.int) ∧ ns.length ≤ 63 ∧ ∀ H', Q (.bl true) H'
theorem ok_law {P : Program} {w : World} {K : PySem.W.Frag} {mg : Str → Option Value} {base : Heap} (T : Txt K mg) : ∃ fd, FnOk P w K mg base (CX0) 4 (He.ga K "law") fd ["_law_script"] (sp_law K) ∧ Binds K fd ["_law_script"] [] ∧ FunD K "law" "law" (defArgs s_law) (defBody s_law) (defScope s_law) [] [] (He.ga K "law") fd := by
  obtain ⟨fd, F⟩ := f_law T
  obtain ⟨d_L_text, G_L_text, b_L_text, _⟩ := ok_L_text (P := P) (w := w) (base := base) T
  obtain ⟨d_is_name, G_is_name, b_is_name, _⟩ := ok_is_name (P := P) (w := w) (base := base) T
  obtain ⟨d_desk_init, G_desk_init, b_desk_init, _⟩ := ok_desk_init (P := P) (w := w) (base := base) T
  obtain ⟨d_desk_enter, G_desk_enter, b_desk_enter, _⟩ := ok_desk_enter (P := P) (w := w) (base := base) T
  obtain ⟨d_desk_names, G_desk_names, b_desk_names, _⟩ := ok_desk_names (P := P) (w := w) (base := base) T
  refine ⟨fd, ok0 F sc_law (fun vs H Q E h => ?_) (fun cdv A outer s H vs Q E hr h => ?_), FunD.bindsN F fun _ _ _ _ _ _ us hl => match us, hl with | [_], _ => rfl, F⟩
  · (repeat (obtain ⟨_, h⟩ := h)); subst_vars; rfl
  · obtain ⟨a, ns, rfl, hS, hns, k⟩ := h
    refine ⟨_, (pss_cons (ps_set (i := 1) sc_law.nd rfl (Or.inl rfl) (pe_call G_L_text (hr.mono (by decide)) rfl (g_L_text T) (kp_L_text T) b_L_text .nil pass0 (pa_cons (pv 0) pa_nil)))
        (pss_cons (ps_set (i := 2) sc_law.nd rfl (Or.inl rfl) (pe_and (pe_cmpR op_le pe_int (pe_callB call_len_str rfl (b_len T) (by decide +kernel) (pa_cons (pv 1) pa_nil)) (nomark _)) (pe_one (pe_cmpR op_le (pe_callB call_len_str rfl (b_len T) (by decide +kernel) (pa_cons (pv 1) pa_nil)) pe_int (nomark _)))))
        (pss_cons (ps_for PassesOwn.never rfl (pi_str (pv 1)) (pg_name (i := 3) sc_law.nd rfl (Or.inl rfl))
        (pss_one (ps_if (pt_cmpR op_notIn_sign (pv 3) pe_str (by with_unfolding_all rfl)) (pss_one (ps_set (i := 2) sc_law.nd rfl (Or.inl rfl) pe_bl))
        pss_nil)))
        (pss_cons (ps_set (i := 4) sc_law.nd rfl (Or.inl rfl) (pe_call G_is_name (hr.mono (by decide)) rfl (g_is_name T) (kp_is_name T) b_is_name .nil pass0 (pa_cons (pv 1) pa_nil)))
        (pss_cons (ps_if (PW.pt (pw_or (pt_not (pt_val (pe_callB (call_isiK' (K := K) rfl) rfl (b_isinstance T) (by decide +kernel) (pa_cons (pv 4) (pa_cons (pe_bltn (v := .ty "bool") rfl (b_bool T) (by decide +kernel) rfl) pa_nil))))) (pw_or1 (pt_cmpR op_ne (pv 4) (pv 2) (nomark _))))) (pss_one (ps_ret pe_bl))
        pss_nil)
        (pss_cons (ps_set (i := 5) sc_law.nd rfl (Or.inl rfl) (pe_make (mk_Desk T) G_desk_init (hr.mono (by decide)) rfl (g_Desk T) b_desk_init .nil passL (pa_cons pe_int (pa_cons pe_int pa_nil))))
        (pss_cons (ps_set (i := 6) sc_law.nd rfl (Or.inl rfl) pe_bl)
        (pss_cut (ps_try_only rfl rfl ⟨rfl, by decide, .inl (g_NoName T)⟩ takes0 (fun W pn xe tk _ => (pss_one (ps_expr (pe_methS (pv 5) (c_Desk T) (m_desk_enter T) G_desk_enter (hr.mono (by decide)) b_desk_enter (fun σ => passAt tk σ) (pa_cons (pv 1) (pa_cons pe_int pa_nil))))))
        (fun a oe cls d pn _ _ => (pss_one (ps_set (i := 6) sc_law.nd rfl (Or.inl rfl) pe_bl))))
        (pss_cons (ps_if (pt_val (pv 6)) (pss_one (ps_ret (pe_and (pe_not (pv 2)) (pe_one (pe_cmpR (op_eqK (K := K) rfl hr.units) (pe_meth0 (pv 5) (c_Desk T) (m_desk_names T) G_desk_names (hr.mono (by decide)) b_desk_names .nil pass0) (pe_lst pa_nil) (nomark _))))))
        pss_nil)
        (pss_one (ps_ret (pe_and (pv 2) (pe_one (pe_cmpR (op_eqK (K := K) rfl hr.units) (pe_meth0 (pv 5) (c_Desk T) (m_desk_names T) G_desk_names (hr.mono (by decide)) b_desk_names .nil pass0) (pe_lst (pa_cons (pv 1) pa_nil)) (nomark _))))))))))))))), ?_⟩
    refine q_call (vs := [.ref a]) (ea_cons (ev_var rfl) ea_nil) fun H1 e1 => ⟨a, ns, rfl, ex_l e1 hS, fun s H2 hs e2 => ?_⟩
    have hz : s.length ≤ 100000 := by omega
    refine q_asg (v := .bl (decide ((1 : Int) ≤ (s.length : Int)) && decide ((s.length : Int) ≤ 12))) (ev_andV (ev_op ev_c (ev_cb (ea_cons (ev_var rfl) ea_nil) (rc_len_str (sz_of hz))) rv_I0) fun _ => ev_op (ev_cb (ea_cons (ev_var rfl) ea_nil) (rc_len_str (sz_of hz))) ev_c rv_I0) fun H3 e3 => ?_
    refine q_forS (K := K) (x := s) (ev_var rfl) (fun i σ' H' => ∃ v, σ' = [some (.ref a), some (.str s), some (.bl ((decide ((1 : Int) ≤ (s.length : Int)) && decide ((s.length : Int) ≤ 12)) && (s.cps.toList.take i).all isSign)), v, none, none, none]) (fun H4 e4 => ⟨none, by rw [List.take_zero, List.all_nil, Bool.and_true]; rfl⟩) ?_ ?_
    · rintro i c σ' H' hc ⟨v, rfl⟩
      have hst : (s.cps.toList.take (i + 1)).all isSign = ((s.cps.toList.take i).all isSign && isSign c) := by
        rw [List.take_succ, hc, List.all_append]
        simp
      refine s_when (b := !isSign c) ?h (fun hb H3 e3 => ?_) (fun hb H3 e3 => ⟨some (.str ⟨#[c]⟩), ?_⟩)
      case h => exact et_test (ev_op (ev_var rfl) ev_c rv_notInS)
      · have hb : isSign c = false := by simpa using hb
        refine s_asg ev_c fun H4 e4 => ⟨some (.str ⟨#[c]⟩), ?_⟩
        rw [hst, hb, Bool.and_false, Bool.and_false]
        rfl
      · have hb : isSign c = true := by simpa using hb
        rw [hst, hb, Bool.and_true]
        rfl
    rintro σ' H4 ⟨v, rfl⟩
    have hdue : ((decide ((1 : Int) ≤ (s.length : Int)) && decide ((s.length : Int) ≤ 12)) && (s.cps.toList.take s.length).all isSign) = isName s := by
      have e9 : s.cps.toList.take s.length = s.cps.toList := List.take_of_length_le (by rw [Array.length_toList]; exact Nat.le_refl _)
      rw [e9]
      unfold isName
      congr 2
      · exact decide_eq_decide.mpr (by omega)
      · exact decide_eq_decide.mpr (by omega)
    rw [hdue]
    refine q_asg (v := .bl (isName s)) (ev_call (ea_cons (ev_var rfl) ea_nil) (cv_is_name hz)) fun H5 e5 => ?_
    refine q_when (b := false) ?h6 (fun hb => by cases hb) (fun _ H6 e6 => ?_)
    case h6 => exact et_is (et_or (a := false) (b := false) (et_is (et_not (et_B (ev_cb (ea_cons (ev_var rfl) (ea_cons ev_c ea_nil)) rc_isi_bool))) rfl) fun _ => et_is (et_test (ev_op (ev_var rfl) (ev_var rfl) (rv_ne rfl))) (by simp)) rfl
    refine q_makeA ((ea_cons ev_c (ea_cons ev_c ea_nil)) H6 (Ex.refl H6) _ fun H7 e7 => fun x dx nx ndx nex => ⟨x, dx, 1, 1, rfl, upd_same, fun _ H8 l D nl k8 => ⟨rfl, ?_⟩, fun h => absurd (by decide) h⟩)
    have D8 := DeskAt.made nx ndx D nl k8
    refine q_asg ev_c fun H9 e9 => ?_
    have D9 := D8.ex e9
    have W9 : (⟨1, 1, 0, []⟩ : Dk).Wf := ⟨by decide, by decide, by decide, List.nodup_nil⟩
    refine q_cut (M := fun σ' H' => ∃ d F, σ' = [some (.ref a), some (.str s), some (.bl (isName s)), v, some (.bl (isName s)), some (.ref x), some (.bl (!isName s))] ∧ DeskAt K F H' x d ∧ d.line.length ≤ 1 ∧ d.line.map (·.nm) = if isName s = true then [s] else []) ?_ ?_
    · obtain ⟨l9, ps9, DD, ff⟩ := id D9
      obtain ⟨dx9, hp9⟩ := DD.ob
      refine ⟨_, rfl, x, dx9, _, rfl, hp9, rfl, ?_⟩
      refine ⟨_, rfl, ?_⟩
      refine ⟨H7, x, ⟨1, 1, 0, []⟩, s, 0, rfl, D9, W9, hz, fun e he H10 e10 => ?_, fun he H10 D10 => ?_⟩
      · cases hn : isName s with
        | false =>
          unfold enterErr at he
          rw [if_pos hn] at he
          cases he
          exact ⟨true, e_NoName_NoName T, fun _ a ha => ⟨_, H7, rfl, D9.ex e10, Nat.zero_le _, rfl⟩, fun h => by cases h⟩
        | true =>
          unfold enterErr at he
          rw [if_neg (by rw [hn]; decide), if_neg (by omega), if_neg (by simp), if_neg (by decide)] at he
          cases he
      · have hn : isName s = true := by
          unfold enterErr at he
          cases hn : isName s with
          | false => rw [if_pos hn] at he; cases he
          | true => rfl
        exact ⟨_, H7, by rw [hn]; rfl, D10, by show 1 ≤ 1; decide, by rw [hn]; rfl⟩
    · rintro σ' H10 ⟨d, F, rfl, D10, hdl, hnm⟩
      obtain ⟨l, ps, DD, ff⟩ := id D10
      obtain ⟨dx, hp⟩ := DD.ob
      cases hn : isName s with
      | false =>
        rw [hn, if_neg (by decide)] at hnm
        refine q_when (b := true) (et_B (ev_var rfl)) (fun _ H11 e11 => ?_) (fun h => by cases h)
        refine s_ret (v := .bl true) ?h1 fun H12 e12 => k H12
        have hv : (d.line.map fun c => V.str c.nm) = ([] : List Str).map V.str := by
          rw [← hnm, List.map_map]
          rfl
        refine ev_is (ev_andV (a := true) (b := true) (ev_is (ev_notV (ev_var rfl)) rfl) fun _ => ev_eqLL (xs := []) (hv ▸ el_meth (ev_var rfl) (e11 _ _ hp) rfl ea_nil (cv_names (DD.ex e11) (by omega))) (el_lst ea_nil (by decide)) (fun x h => by cases h) (by decide)) rfl
      | true =>
        rw [hn, if_pos rfl] at hnm
        refine q_when (b := false) (et_B (ev_var rfl)) (fun h => by cases h) (fun _ H11 e11 => ?_)
        refine s_ret (v := .bl true) ?h2 fun H12 e12 => k H12
        have hv : (d.line.map fun c => V.str c.nm) = ([s] : List Str).map V.str := by
          rw [← hnm, List.map_map]
          rfl
        refine ev_is (ev_andV (a := true) (b := true) (ev_var rfl) fun _ => ev_eqLL (xs := [s]) (hv ▸ el_meth (ev_var rfl) (e11 _ _ hp) rfl ea_nil (cv_names (DD.ex e11) (by omega))) (el_lst (ea_cons (ev_var rfl) ea_nil) (by show 1 ≤ 100000; decide)) (fun x h => by rw [List.mem_singleton] at h; rw [h]; exact name_strOk hn) (Nat.le_refl 1)) rfl
end Rr
namespace Rr
open PySem PySem.Spec PyProof.Rows L2
def loose0 : List PySem.Str := ["_wall", "SIGNS", "MOST", "is_name", "Caller", "DeskError", "NoName", "NoRank", "NoDesk", "Known", "Unknown", "Full", "NotReady", "TOP", "aged", "MOST_PACE", "MOST_ROOM", "Desk", "_law_cell_at", "_law_sign_by", "_law_text"]
def loose : List PySem.Str := loose0
abbrev R : PySem.W.OpenRow := PySem.W.OpenLaw.row PySem.Challenge.rw_rrdesk_k03_names
abbrev hk : PySem.W.Hook := He.hookD 6 fa fn
def ob (s : PySem.W.SharedT) : He.AlD := He.obsDG 6 fa fn (HandSHeadRun.getT s)
theorem ob_eq (s : PySem.W.SharedT) : ob s = hk.obs s.abs := He.obsDG_eq (HandSHeadRun.getT_eq s)
theorem run (w : World) : HandSHeadRun.RunEq R (PySem.W.view R.prog [27]) hk ob 6000 loose w := by
  intro os
  kernel_rfl
theorem facts {P : Program} {w : World} {K : PySem.W.Frag} {h : Heap} {mg : Str → Option Value} {f : Addr} (X : K.In h) (G : h.Ns mainGlobals mg) (hfa : mg ("law" : Str) = some (.ref f)) (c : He.SaysD fa fn K) :
    ∃ fd : FuncData, (∀ (s : Shared) (v : Value), BindsTo s fd ⟨[v], []⟩ [("_law_script", v)]) ∧ ∀ base : Heap, K.In base → base.Ns mainGlobals mg → FnOk P w K mg base CX0 4 f fd ["_law_script"] (sp_law K) := by
  have T : Txt K mg := ⟨c, h, X, G⟩
  have e := hfa.symm.trans (g_law T)
  cases e
  obtain ⟨fd, F⟩ := f_law T
  have b := FunD.bindsA (ps := ["_law_script"]) F fun _ _ _ _ _ _ us hl => match us, hl with | [_], _ => rfl
  refine ⟨fd, fun s v => b s [v] rfl, fun base _ _ => ?_⟩
  obtain ⟨fd', G', _, F'⟩ := ok_law (P := P) (w := w) (base := base) T
  exact (funD_same F F') ▸ G'
end Rr
open PySem PySem.W PySem.Calls PyProof.Rows
set_option maxRecDepth 100000 in
set_option maxHeartbeats 0 in
theorem PySem.Challenge.cw_rrdesk_k03_names_holds : PySem.Challenge.rw_rrdesk_k03_names.Holds := by
  w_on; o_law
  refine HandSHeadRun.head_any (r := OpenLaw.row PySem.Challenge.rw_rrdesk_k03_names) (q := view (OpenLaw.row PySem.Challenge.rw_rrdesk_k03_names).prog [27]) (H := Rr.hk) (ob := Rr.ob) (M := 6000) (loose := Rr.loose) (d := HandSHeadRun.topDef (OpenLaw.row PySem.Challenge.rw_rrdesk_k03_names).prog 27) (kwd := []) Rr.ob_eq
    (by kernel_rfl) (fun s => by kernel_rfl) Rr.run (by kernel_rfl) (by kernel_rfl) (by kernel_rfl) (by rfl) (by first | assumption | decide +kernel) (by decide +kernel) ⟨rfl, rfl, rfl, rfl, rfl, by decide +kernel⟩ ?hw ?hc
  case hw => w_witness2
  case hc =>
    refine L2.walk_ofE (l := PySem.Challenge.rw_rrdesk_k03_names) (n := 63) (k := 4) (x := "_law_script") (CX := L2.CX0) rfl (by decide) (by kernel_rfl) ⟨rfl, by decide, by decide⟩ ?F (fun _ _ _ _ z => z)
    intro w mg fa h Y G hmg0
    obtain ⟨K, KX, c⟩ := Y
    have hmg : mg ("law" : PySem.Str) = some (.ref fa) := by
      have e : (HandSHeadRun.topDef (OpenLaw.row PySem.Challenge.rw_rrdesk_k03_names).prog 27).name = ("law" : PySem.Str) := by kernel_rfl
      rw [← e]
      exact hmg0
    obtain ⟨fd, hb, hF⟩ := Rr.facts (P := (PySem.Challenge.rw_rrdesk_k03_names).prog) (w := w) KX G hmg c
    exact ⟨K, fd, Rr.sp_law K, KX, hb, fun H a ns hl _ hS => ⟨a, ns, rfl, hS, hl, fun _ => rfl⟩, hF⟩

#print axioms PySem.Challenge.cw_rrdesk_k03_names_holds

