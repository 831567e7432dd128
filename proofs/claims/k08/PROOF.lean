import PyProof.Rows.All
import PyProof.Rows.StrRev
import Wide.All
import OpenK.AllK
import Wide.FinOn
import KE.KStateDown
import HandS.Base
import HandS.Call
import HandS.List
import HandS.Comp
import HandS.Ends
import HandS.Dict
import HandS.Iter
import HandS.Text
import HandS.More
import HandS.Codes
import HandS.Conv
import HandS.Exc
import HandS.TryOnly
import HandS.ExcOwn
import HandS.Words
import HandS.WordsList
import HandS.WordsExc
import HandS.Defaults
import HandS.IsInst
import HandS.Style
import HandS.SortKw
import HandS.ExcValue
import KE.SortKeyHeap
import HandS.Evl
import HandS.Head0
import HandS.Head1
import HandS.Head2
import HandS.HeadEnd
import HandS.HeadHook1
import HandS.HeadHook2
import PySem.Challenge.RW_rrdesk_k08_the_line_by_who_ran
set_option Elab.async false
set_option linter.all false
set_option maxRecDepth 100000
set_option maxHeartbeats 4000000
namespace Rr
open PySem PySem.Spec PyProof.Rows L2 Evl
def top (i : Nat) : Stmt := PySem.Challenge.pw_rrdesk_k08_the_line_by_who_ran.main.body.getD i (.Pass ⟨0, 0, 0, 0⟩)
abbrev s_caller_init : Stmt := inClass (top 2) 0
abbrev s_is_name : Stmt := top 17
abbrev s_aged : Stmt := top 20
abbrev s_first : Stmt := top 21
abbrev s_desk_init : Stmt := inClass (top 26) 0
abbrev s_desk_one : Stmt := inClass (top 26) 1
abbrev s_desk_become : Stmt := inClass (top 26) 2
abbrev s_desk_those : Stmt := inClass (top 26) 3
abbrev s_desk_enter : Stmt := inClass (top 26) 4
abbrev s_desk_leave : Stmt := inClass (top 26) 5
abbrev s_desk_sleep : Stmt := inClass (top 26) 6
abbrev s_desk_wait : Stmt := inClass (top 26) 7
abbrev s_desk_wake : Stmt := inClass (top 26) 8
abbrev s_desk_ring : Stmt := inClass (top 26) 9
abbrev s_desk_rerank : Stmt := inClass (top 26) 10
abbrev s_desk_need_ready : Stmt := inClass (top 26) 11
abbrev s_desk_turn : Stmt := inClass (top 26) 12
abbrev s_desk_run : Stmt := inClass (top 26) 13
abbrev s_desk_names : Stmt := inClass (top 26) 16
abbrev s_desk_state : Stmt := inClass (top 26) 19
abbrev s_desk_rank : Stmt := inClass (top 26) 20
abbrev s_desk_waited : Stmt := inClass (top 26) 21
abbrev s_desk_left : Stmt := inClass (top 26) 23
abbrev s_desk_bell : Stmt := inClass (top 26) 24
abbrev s_number_of : Stmt := top 30
abbrev s_need : Stmt := top 31
abbrev s_caller_of : Stmt := top 32
abbrev s_read : Stmt := top 33
abbrev s_L_whole : Stmt := top 35
abbrev s_L_cell_at : Stmt := top 36
abbrev s_L_mix : Stmt := top 37
abbrev s_L_name_by : Stmt := top 38
abbrev s_L_texts : Stmt := top 39
abbrev s_L_put : Stmt := top 40
abbrev s_L_after : Stmt := top 41
abbrev s_L_rank_by : Stmt := top 42
abbrev s_L_pace_by : Stmt := top 43
abbrev s_L_opened : Stmt := top 44
abbrev s_L_crowd : Stmt := top 45
abbrev s_L_bell_by : Stmt := top 46
abbrev s_L_rung : Stmt := top 47
abbrev s_L_slept : Stmt := top 48
abbrev s_L_woken : Stmt := top 49
abbrev s_L_done : Stmt := top 50
abbrev s_L_told : Stmt := top 51
abbrev s_L_run : Stmt := top 52
abbrev s_L_few : Stmt := top 53
abbrev s_L_many : Stmt := top 54
abbrev s_L_room_by : Stmt := top 55
abbrev s_L_one : Stmt := top 56
abbrev s_L_stands : Stmt := top 57
abbrev s_law : Stmt := top 58
def dd_caller_init : He.DefD := ⟨("Caller", some "__init__"), "__init__", "Caller.__init__", defArgs s_caller_init, defBody s_caller_init, defScope s_caller_init, [], []⟩
def dd_is_name : He.DefD := ⟨("is_name", none), "is_name", "is_name", defArgs s_is_name, defBody s_is_name, defScope s_is_name, [], []⟩
def dd_aged : He.DefD := ⟨("aged", none), "aged", "aged", defArgs s_aged, defBody s_aged, defScope s_aged, [], []⟩
def dd_first : He.DefD := ⟨("first", none), "first", "first", defArgs s_first, defBody s_first, defScope s_first, [], []⟩
def dd_desk_init : He.DefD := ⟨("Desk", some "__init__"), "__init__", "Desk.__init__", defArgs s_desk_init, defBody s_desk_init, defScope s_desk_init, [], []⟩
def dd_desk_one : He.DefD := ⟨("Desk", some "one"), "one", "Desk.one", defArgs s_desk_one, defBody s_desk_one, defScope s_desk_one, [], []⟩
def dd_desk_become : He.DefD := ⟨("Desk", some "become"), "become", "Desk.become", defArgs s_desk_become, defBody s_desk_become, defScope s_desk_become, [], []⟩
def dd_desk_those : He.DefD := ⟨("Desk", some "those"), "those", "Desk.those", defArgs s_desk_those, defBody s_desk_those, defScope s_desk_those, [], []⟩
def dd_desk_enter : He.DefD := ⟨("Desk", some "enter"), "enter", "Desk.enter", defArgs s_desk_enter, defBody s_desk_enter, defScope s_desk_enter, [], []⟩
def dd_desk_leave : He.DefD := ⟨("Desk", some "leave"), "leave", "Desk.leave", defArgs s_desk_leave, defBody s_desk_leave, defScope s_desk_leave, [], []⟩
def dd_desk_sleep : He.DefD := ⟨("Desk", some "sleep"), "sleep", "Desk.sleep", defArgs s_desk_sleep, defBody s_desk_sleep, defScope s_desk_sleep, [], []⟩
def dd_desk_wait : He.DefD := ⟨("Desk", some "wait"), "wait", "Desk.wait", defArgs s_desk_wait, defBody s_desk_wait, defScope s_desk_wait, [], []⟩
def dd_desk_wake : He.DefD := ⟨("Desk", some "wake"), "wake", "Desk.wake", defArgs s_desk_wake, defBody s_desk_wake, defScope s_desk_wake, [], []⟩
def dd_desk_ring : He.DefD := ⟨("Desk", some "ring"), "ring", "Desk.ring", defArgs s_desk_ring, defBody s_desk_ring, defScope s_desk_ring, [], []⟩
def dd_desk_rerank : He.DefD := ⟨("Desk", some "rerank"), "rerank", "Desk.rerank", defArgs s_desk_rerank, defBody s_desk_rerank, defScope s_desk_rerank, [], []⟩
def dd_desk_need_ready : He.DefD := ⟨("Desk", some "need_ready"), "need_ready", "Desk.need_ready", defArgs s_desk_need_ready, defBody s_desk_need_ready, defScope s_desk_need_ready, [], []⟩
def dd_desk_turn : He.DefD := ⟨("Desk", some "turn"), "turn", "Desk.turn", defArgs s_desk_turn, defBody s_desk_turn, defScope s_desk_turn, [], []⟩
def dd_desk_run : He.DefD := ⟨("Desk", some "run"), "run", "Desk.run", defArgs s_desk_run, defBody s_desk_run, defScope s_desk_run, [], []⟩
def dd_desk_names : He.DefD := ⟨("Desk", some "names"), "names", "Desk.names", defArgs s_desk_names, defBody s_desk_names, defScope s_desk_names, [], []⟩
def dd_desk_state : He.DefD := ⟨("Desk", some "state"), "state", "Desk.state", defArgs s_desk_state, defBody s_desk_state, defScope s_desk_state, [], []⟩
def dd_desk_rank : He.DefD := ⟨("Desk", some "rank"), "rank", "Desk.rank", defArgs s_desk_rank, defBody s_desk_rank, defScope s_desk_rank, [], []⟩
def dd_desk_waited : He.DefD := ⟨("Desk", some "waited"), "waited", "Desk.waited", defArgs s_desk_waited, defBody s_desk_waited, defScope s_desk_waited, [], []⟩
def dd_desk_left : He.DefD := ⟨("Desk", some "left"), "left", "Desk.left", defArgs s_desk_left, defBody s_desk_left, defScope s_desk_left, [], []⟩
def dd_desk_bell : He.DefD := ⟨("Desk", some "bell"), "bell", "Desk.bell", defArgs s_desk_bell, defBody s_desk_bell, defScope s_desk_bell, [], []⟩
def dd_number_of : He.DefD := ⟨("number_of", none), "number_of", "number_of", defArgs s_number_of, defBody s_number_of, defScope s_number_of, [], []⟩
def dd_need : He.DefD := ⟨("need", none), "need", "need", defArgs s_need, defBody s_need, defScope s_need, [], []⟩
def dd_caller_of : He.DefD := ⟨("caller_of", none), "caller_of", "caller_of", defArgs s_caller_of, defBody s_caller_of, defScope s_caller_of, [], []⟩
def dd_read : He.DefD := ⟨("read", none), "read", "read", defArgs s_read, defBody s_read, defScope s_read, [], []⟩
def dd_L_whole : He.DefD := ⟨("_law_whole", none), "_law_whole", "_law_whole", defArgs s_L_whole, defBody s_L_whole, defScope s_L_whole, [], []⟩
def dd_L_cell_at : He.DefD := ⟨("_law_cell_at", none), "_law_cell_at", "_law_cell_at", defArgs s_L_cell_at, defBody s_L_cell_at, defScope s_L_cell_at, [], []⟩
def dd_L_mix : He.DefD := ⟨("_law_mix", none), "_law_mix", "_law_mix", defArgs s_L_mix, defBody s_L_mix, defScope s_L_mix, [], []⟩
def dd_L_name_by : He.DefD := ⟨("_law_name_by", none), "_law_name_by", "_law_name_by", defArgs s_L_name_by, defBody s_L_name_by, defScope s_L_name_by, [], []⟩
def dd_L_texts : He.DefD := ⟨("_law_texts", none), "_law_texts", "_law_texts", defArgs s_L_texts, defBody s_L_texts, defScope s_L_texts, [], []⟩
def dd_L_put : He.DefD := ⟨("_law_put", none), "_law_put", "_law_put", defArgs s_L_put, defBody s_L_put, defScope s_L_put, [], []⟩
def dd_L_after : He.DefD := ⟨("_law_after", none), "_law_after", "_law_after", defArgs s_L_after, defBody s_L_after, defScope s_L_after, [], []⟩
def dd_L_rank_by : He.DefD := ⟨("_law_rank_by", none), "_law_rank_by", "_law_rank_by", defArgs s_L_rank_by, defBody s_L_rank_by, defScope s_L_rank_by, [], []⟩
def dd_L_pace_by : He.DefD := ⟨("_law_pace_by", none), "_law_pace_by", "_law_pace_by", defArgs s_L_pace_by, defBody s_L_pace_by, defScope s_L_pace_by, [], []⟩
def dd_L_opened : He.DefD := ⟨("_law_opened", none), "_law_opened", "_law_opened", defArgs s_L_opened, defBody s_L_opened, defScope s_L_opened, [], []⟩
def dd_L_crowd : He.DefD := ⟨("_law_crowd", none), "_law_crowd", "_law_crowd", defArgs s_L_crowd, defBody s_L_crowd, defScope s_L_crowd, [], []⟩
def dd_L_bell_by : He.DefD := ⟨("_law_bell_by", none), "_law_bell_by", "_law_bell_by", defArgs s_L_bell_by, defBody s_L_bell_by, defScope s_L_bell_by, [], []⟩
def dd_L_rung : He.DefD := ⟨("_law_rung", none), "_law_rung", "_law_rung", defArgs s_L_rung, defBody s_L_rung, defScope s_L_rung, [], []⟩
def dd_L_slept : He.DefD := ⟨("_law_slept", none), "_law_slept", "_law_slept", defArgs s_L_slept, defBody s_L_slept, defScope s_L_slept, [], []⟩
def dd_L_woken : He.DefD := ⟨("_law_woken", none), "_law_woken", "_law_woken", defArgs s_L_woken, defBody s_L_woken, defScope s_L_woken, [], []⟩
def dd_L_done : He.DefD := ⟨("_law_done", none), "_law_done", "_law_done", defArgs s_L_done, defBody s_L_done, defScope s_L_done, [], []⟩
def dd_L_told : He.DefD := ⟨("_law_told", none), "_law_told", "_law_told", defArgs s_L_told, defBody s_L_told, defScope s_L_told, [], []⟩
def dd_L_run : He.DefD := ⟨("_law_run", none), "_law_run", "_law_run", defArgs s_L_run, defBody s_L_run, defScope s_L_run, [], []⟩
def dd_L_few : He.DefD := ⟨("_law_few", none), "_law_few", "_law_few", defArgs s_L_few, defBody s_L_few, defScope s_L_few, [], []⟩
def dd_L_many : He.DefD := ⟨("_law_many", none), "_law_many", "_law_many", defArgs s_L_many, defBody s_L_many, defScope s_L_many, [], []⟩
def dd_L_room_by : He.DefD := ⟨("_law_room_by", none), "_law_room_by", "_law_room_by", defArgs s_L_room_by, defBody s_L_room_by, defScope s_L_room_by, [], []⟩
def dd_L_one : He.DefD := ⟨("_law_one", none), "_law_one", "_law_one", defArgs s_L_one, defBody s_L_one, defScope s_L_one, [], []⟩
def dd_L_stands : He.DefD := ⟨("_law_stands", none), "_law_stands", "_law_stands", defArgs s_L_stands, defBody s_L_stands, defScope s_L_stands, [], []⟩
def dd_law : He.DefD := ⟨("law", none), "law", "law", defArgs s_law, defBody s_law, defScope s_law, [], []⟩
def fn : List He.DefD := [dd_caller_init, dd_is_name, dd_aged, dd_first, dd_desk_init, dd_desk_one, dd_desk_become, dd_desk_those, dd_desk_enter, dd_desk_leave, dd_desk_sleep, dd_desk_wait, dd_desk_wake, dd_desk_ring, dd_desk_rerank, dd_desk_need_ready, dd_desk_turn, dd_desk_run, dd_desk_names, dd_desk_state, dd_desk_rank, dd_desk_waited, dd_desk_left, dd_desk_bell, dd_number_of, dd_need, dd_caller_of, dd_read, dd_L_whole, dd_L_cell_at, dd_L_mix, dd_L_name_by, dd_L_texts, dd_L_put, dd_L_after, dd_L_rank_by, dd_L_pace_by, dd_L_opened, dd_L_crowd, dd_L_bell_by, dd_L_rung, dd_L_slept, dd_L_woken, dd_L_done, dd_L_told, dd_L_run, dd_L_few, dd_L_many, dd_L_room_by, dd_L_one, dd_L_stands, dd_law]
def fa0 : List He.Fa := [.glo "is_name", .glo "aged", .glo "first", .meth "Desk" "one", .meth "Desk" "become", .meth "Desk" "those", .meth "Desk" "enter", .meth "Desk" "leave", .meth "Desk" "sleep", .meth "Desk" "wait", .meth "Desk" "wake", .meth "Desk" "ring", .meth "Desk" "rerank", .meth "Desk" "need_ready", .meth "Desk" "turn", .meth "Desk" "run", .meth "Desk" "names", .meth "Desk" "state", .meth "Desk" "rank", .meth "Desk" "waited", .meth "Desk" "left", .meth "Desk" "bell", .glo "number_of", .glo "need", .glo "caller_of", .glo "read", .glo "_law_whole", .glo "_law_cell_at", .glo "_law_mix", .glo "_law_name_by"]
def fa1 : List He.Fa := [.glo "_law_texts", .glo "_law_put", .glo "_law_after", .glo "_law_rank_by", .glo "_law_pace_by", .glo "_law_opened", .glo "_law_crowd", .glo "_law_bell_by", .glo "_law_rung", .glo "_law_slept", .glo "_law_woken", .glo "_law_done", .glo "_law_told", .glo "_law_run", .glo "_law_few", .glo "_law_many", .glo "_law_room_by", .glo "_law_one", .glo "_law_stands", .glo "law", .glo "Caller", .cls "Caller", .mkr "Caller", .noat "Caller" "label", .noat "Caller" "grade", .noat "Caller" "stand", .noat "Caller" "mark", .glo "Desk", .cls "Desk", .mkr "Desk"]
def fa2 : List He.Fa := [.noat "Desk" "pace", .noat "Desk" "room", .noat "Desk" "now", .noat "Desk" "line", .glo "NoName", .exc "NoName", .glo "NoRank", .exc "NoRank", .glo "NoSpan", .exc "NoSpan", .glo "NoDesk", .exc "NoDesk", .glo "Known", .exc "Known", .glo "Unknown", .exc "Unknown", .glo "Full", .exc "Full", .glo "NotReady", .exc "NotReady", .glo "IsReady", .exc "IsReady", .str "SIGNS" "abcdefghijklmnopqrstuvwxyz0123456789", .int "MOST" 12, .int "TOP" 99, .int "MOST_PACE" 1000, .int "MOST_ROOM" 60, .int "MOST_TURNS" 1000, .str "FIGURES" "0123456789", .int "MOST_FIGURES" 12]
def fa3 : List He.Fa := [.free "len", .free "range", .free "str", .free "int", .free "isinstance", .free "min", .free "list", .free "bool"]
def fa : List He.Fa := fa0 ++ fa1 ++ fa2 ++ fa3
structure Txt (K : PySem.W.Frag) (mg : Str → Option Value) : Prop where
  says : He.SaysD fa fn K
  inn : ∃ h : Heap, K.In h ∧ h.Ns mainGlobals mg
def loose0 : List PySem.Str := ["_wall", "Caller", "DeskError", "NoName", "NoRank", "NoSpan", "NoDesk", "Known", "Unknown", "Full", "NotReady", "IsReady", "SIGNS", "MOST", "is_name", "TOP", "aged", "first", "MOST_PACE", "MOST_ROOM", "MOST_TURNS", "Desk", "FIGURES", "MOST_FIGURES", "number_of", "need", "caller_of", "read", "_law_whole", "_law_cell_at"]
def loose1 : List PySem.Str := ["_law_mix", "_law_name_by", "_law_texts", "_law_put", "_law_after", "_law_rank_by", "_law_pace_by", "_law_opened", "_law_crowd", "_law_bell_by", "_law_rung", "_law_slept", "_law_woken", "_law_done", "_law_told", "_law_run", "_law_few", "_law_many", "_law_room_by", "_law_one", "_law_stands"]
def loose : List PySem.Str := loose0 ++ loose1
abbrev R : PySem.W.OpenRow := PySem.W.OpenLaw.row PySem.Challenge.rw_rrdesk_k08_the_line_by_who_ran
abbrev hk : PySem.W.Hook := He.hookD 6 fa fn
def ob (s : PySem.W.SharedT) : He.AlD := He.obsDG 6 fa fn (HandSHeadRun.getT s)
theorem ob_eq (s : PySem.W.SharedT) : ob s = hk.obs s.abs := He.obsDG_eq (HandSHeadRun.getT_eq s)
theorem run (w : World) : HandSHeadRun.RunEq R (PySem.W.view R.prog [58]) hk ob 6000 loose w := by
  intro os
  kernel_rfl
section
variable {K : PySem.W.Frag} {mg : Str → Option Value} (T : Txt K mg)
include T
theorem g_is_name : mg "is_name" = some (.ref (He.ga K "is_name")) := (let ⟨_, X, G⟩ := T.inn; He.glo_ok X G (T.says.fact 0 (f := .glo "is_name") rfl))
theorem g_aged : mg "aged" = some (.ref (He.ga K "aged")) := (let ⟨_, X, G⟩ := T.inn; He.glo_ok X G (T.says.fact 1 (f := .glo "aged") rfl))
theorem g_first : mg "first" = some (.ref (He.ga K "first")) := (let ⟨_, X, G⟩ := T.inn; He.glo_ok X G (T.says.fact 2 (f := .glo "first") rfl))
theorem m_desk_one : Meth K (He.ga K "Desk") "one" (He.ma K (He.ga K "Desk") "one") := He.meth_ok (T.says.fact 3 (f := .meth "Desk" "one") rfl)
theorem m_desk_become : Meth K (He.ga K "Desk") "become" (He.ma K (He.ga K "Desk") "become") := He.meth_ok (T.says.fact 4 (f := .meth "Desk" "become") rfl)
theorem m_desk_those : Meth K (He.ga K "Desk") "those" (He.ma K (He.ga K "Desk") "those") := He.meth_ok (T.says.fact 5 (f := .meth "Desk" "those") rfl)
theorem m_desk_enter : Meth K (He.ga K "Desk") "enter" (He.ma K (He.ga K "Desk") "enter") := He.meth_ok (T.says.fact 6 (f := .meth "Desk" "enter") rfl)
theorem m_desk_leave : Meth K (He.ga K "Desk") "leave" (He.ma K (He.ga K "Desk") "leave") := He.meth_ok (T.says.fact 7 (f := .meth "Desk" "leave") rfl)
theorem m_desk_sleep : Meth K (He.ga K "Desk") "sleep" (He.ma K (He.ga K "Desk") "sleep") := He.meth_ok (T.says.fact 8 (f := .meth "Desk" "sleep") rfl)
theorem m_desk_wait : Meth K (He.ga K "Desk") "wait" (He.ma K (He.ga K "Desk") "wait") := He.meth_ok (T.says.fact 9 (f := .meth "Desk" "wait") rfl)
theorem m_desk_wake : Meth K (He.ga K "Desk") "wake" (He.ma K (He.ga K "Desk") "wake") := He.meth_ok (T.says.fact 10 (f := .meth "Desk" "wake") rfl)
theorem m_desk_ring : Meth K (He.ga K "Desk") "ring" (He.ma K (He.ga K "Desk") "ring") := He.meth_ok (T.says.fact 11 (f := .meth "Desk" "ring") rfl)
theorem m_desk_rerank : Meth K (He.ga K "Desk") "rerank" (He.ma K (He.ga K "Desk") "rerank") := He.meth_ok (T.says.fact 12 (f := .meth "Desk" "rerank") rfl)
theorem m_desk_need_ready : Meth K (He.ga K "Desk") "need_ready" (He.ma K (He.ga K "Desk") "need_ready") := He.meth_ok (T.says.fact 13 (f := .meth "Desk" "need_ready") rfl)
theorem m_desk_turn : Meth K (He.ga K "Desk") "turn" (He.ma K (He.ga K "Desk") "turn") := He.meth_ok (T.says.fact 14 (f := .meth "Desk" "turn") rfl)
theorem m_desk_run : Meth K (He.ga K "Desk") "run" (He.ma K (He.ga K "Desk") "run") := He.meth_ok (T.says.fact 15 (f := .meth "Desk" "run") rfl)
theorem m_desk_names : Meth K (He.ga K "Desk") "names" (He.ma K (He.ga K "Desk") "names") := He.meth_ok (T.says.fact 16 (f := .meth "Desk" "names") rfl)
theorem m_desk_state : Meth K (He.ga K "Desk") "state" (He.ma K (He.ga K "Desk") "state") := He.meth_ok (T.says.fact 17 (f := .meth "Desk" "state") rfl)
theorem m_desk_rank : Meth K (He.ga K "Desk") "rank" (He.ma K (He.ga K "Desk") "rank") := He.meth_ok (T.says.fact 18 (f := .meth "Desk" "rank") rfl)
theorem m_desk_waited : Meth K (He.ga K "Desk") "waited" (He.ma K (He.ga K "Desk") "waited") := He.meth_ok (T.says.fact 19 (f := .meth "Desk" "waited") rfl)
theorem m_desk_left : Meth K (He.ga K "Desk") "left" (He.ma K (He.ga K "Desk") "left") := He.meth_ok (T.says.fact 20 (f := .meth "Desk" "left") rfl)
theorem m_desk_bell : Meth K (He.ga K "Desk") "bell" (He.ma K (He.ga K "Desk") "bell") := He.meth_ok (T.says.fact 21 (f := .meth "Desk" "bell") rfl)
theorem g_number_of : mg "number_of" = some (.ref (He.ga K "number_of")) := (let ⟨_, X, G⟩ := T.inn; He.glo_ok X G (T.says.fact 22 (f := .glo "number_of") rfl))
theorem g_need : mg "need" = some (.ref (He.ga K "need")) := (let ⟨_, X, G⟩ := T.inn; He.glo_ok X G (T.says.fact 23 (f := .glo "need") rfl))
theorem g_caller_of : mg "caller_of" = some (.ref (He.ga K "caller_of")) := (let ⟨_, X, G⟩ := T.inn; He.glo_ok X G (T.says.fact 24 (f := .glo "caller_of") rfl))
theorem g_read : mg "read" = some (.ref (He.ga K "read")) := (let ⟨_, X, G⟩ := T.inn; He.glo_ok X G (T.says.fact 25 (f := .glo "read") rfl))
theorem g_L_whole : mg "_law_whole" = some (.ref (He.ga K "_law_whole")) := (let ⟨_, X, G⟩ := T.inn; He.glo_ok X G (T.says.fact 26 (f := .glo "_law_whole") rfl))
theorem g_L_cell_at : mg "_law_cell_at" = some (.ref (He.ga K "_law_cell_at")) := (let ⟨_, X, G⟩ := T.inn; He.glo_ok X G (T.says.fact 27 (f := .glo "_law_cell_at") rfl))
theorem g_L_mix : mg "_law_mix" = some (.ref (He.ga K "_law_mix")) := (let ⟨_, X, G⟩ := T.inn; He.glo_ok X G (T.says.fact 28 (f := .glo "_law_mix") rfl))
theorem g_L_name_by : mg "_law_name_by" = some (.ref (He.ga K "_law_name_by")) := (let ⟨_, X, G⟩ := T.inn; He.glo_ok X G (T.says.fact 29 (f := .glo "_law_name_by") rfl))
theorem g_L_texts : mg "_law_texts" = some (.ref (He.ga K "_law_texts")) := (let ⟨_, X, G⟩ := T.inn; He.glo_ok X G (T.says.fact 30 (f := .glo "_law_texts") rfl))
theorem g_L_put : mg "_law_put" = some (.ref (He.ga K "_law_put")) := (let ⟨_, X, G⟩ := T.inn; He.glo_ok X G (T.says.fact 31 (f := .glo "_law_put") rfl))
theorem g_L_after : mg "_law_after" = some (.ref (He.ga K "_law_after")) := (let ⟨_, X, G⟩ := T.inn; He.glo_ok X G (T.says.fact 32 (f := .glo "_law_after") rfl))
theorem g_L_rank_by : mg "_law_rank_by" = some (.ref (He.ga K "_law_rank_by")) := (let ⟨_, X, G⟩ := T.inn; He.glo_ok X G (T.says.fact 33 (f := .glo "_law_rank_by") rfl))
theorem g_L_pace_by : mg "_law_pace_by" = some (.ref (He.ga K "_law_pace_by")) := (let ⟨_, X, G⟩ := T.inn; He.glo_ok X G (T.says.fact 34 (f := .glo "_law_pace_by") rfl))
theorem g_L_opened : mg "_law_opened" = some (.ref (He.ga K "_law_opened")) := (let ⟨_, X, G⟩ := T.inn; He.glo_ok X G (T.says.fact 35 (f := .glo "_law_opened") rfl))
theorem g_L_crowd : mg "_law_crowd" = some (.ref (He.ga K "_law_crowd")) := (let ⟨_, X, G⟩ := T.inn; He.glo_ok X G (T.says.fact 36 (f := .glo "_law_crowd") rfl))
theorem g_L_bell_by : mg "_law_bell_by" = some (.ref (He.ga K "_law_bell_by")) := (let ⟨_, X, G⟩ := T.inn; He.glo_ok X G (T.says.fact 37 (f := .glo "_law_bell_by") rfl))
theorem g_L_rung : mg "_law_rung" = some (.ref (He.ga K "_law_rung")) := (let ⟨_, X, G⟩ := T.inn; He.glo_ok X G (T.says.fact 38 (f := .glo "_law_rung") rfl))
theorem g_L_slept : mg "_law_slept" = some (.ref (He.ga K "_law_slept")) := (let ⟨_, X, G⟩ := T.inn; He.glo_ok X G (T.says.fact 39 (f := .glo "_law_slept") rfl))
theorem g_L_woken : mg "_law_woken" = some (.ref (He.ga K "_law_woken")) := (let ⟨_, X, G⟩ := T.inn; He.glo_ok X G (T.says.fact 40 (f := .glo "_law_woken") rfl))
theorem g_L_done : mg "_law_done" = some (.ref (He.ga K "_law_done")) := (let ⟨_, X, G⟩ := T.inn; He.glo_ok X G (T.says.fact 41 (f := .glo "_law_done") rfl))
theorem g_L_told : mg "_law_told" = some (.ref (He.ga K "_law_told")) := (let ⟨_, X, G⟩ := T.inn; He.glo_ok X G (T.says.fact 42 (f := .glo "_law_told") rfl))
theorem g_L_run : mg "_law_run" = some (.ref (He.ga K "_law_run")) := (let ⟨_, X, G⟩ := T.inn; He.glo_ok X G (T.says.fact 43 (f := .glo "_law_run") rfl))
theorem g_L_few : mg "_law_few" = some (.ref (He.ga K "_law_few")) := (let ⟨_, X, G⟩ := T.inn; He.glo_ok X G (T.says.fact 44 (f := .glo "_law_few") rfl))
theorem g_L_many : mg "_law_many" = some (.ref (He.ga K "_law_many")) := (let ⟨_, X, G⟩ := T.inn; He.glo_ok X G (T.says.fact 45 (f := .glo "_law_many") rfl))
theorem g_L_room_by : mg "_law_room_by" = some (.ref (He.ga K "_law_room_by")) := (let ⟨_, X, G⟩ := T.inn; He.glo_ok X G (T.says.fact 46 (f := .glo "_law_room_by") rfl))
theorem g_L_one : mg "_law_one" = some (.ref (He.ga K "_law_one")) := (let ⟨_, X, G⟩ := T.inn; He.glo_ok X G (T.says.fact 47 (f := .glo "_law_one") rfl))
theorem g_L_stands : mg "_law_stands" = some (.ref (He.ga K "_law_stands")) := (let ⟨_, X, G⟩ := T.inn; He.glo_ok X G (T.says.fact 48 (f := .glo "_law_stands") rfl))
theorem g_law : mg "law" = some (.ref (He.ga K "law")) := (let ⟨_, X, G⟩ := T.inn; He.glo_ok X G (T.says.fact 49 (f := .glo "law") rfl))
theorem g_Caller : mg "Caller" = some (.ref (He.ga K "Caller")) := (let ⟨_, X, G⟩ := T.inn; He.glo_ok X G (T.says.fact 50 (f := .glo "Caller") rfl))
theorem c_Caller : Cls K (He.ga K "Caller") := He.cls_ok (T.says.fact 51 (f := .cls "Caller") rfl)
theorem mk_Caller : Mk K (He.ga K "Caller") (He.ma K (He.ga K "Caller") "__init__") := He.mkr_ok (T.says.fact 52 (f := .mkr "Caller") rfl)
theorem n_Caller_label : NoAttr K (He.ga K "Caller") "label" := He.noat_ok (T.says.fact 53 (f := .noat "Caller" "label") rfl)
theorem n_Caller_grade : NoAttr K (He.ga K "Caller") "grade" := He.noat_ok (T.says.fact 54 (f := .noat "Caller" "grade") rfl)
theorem n_Caller_stand : NoAttr K (He.ga K "Caller") "stand" := He.noat_ok (T.says.fact 55 (f := .noat "Caller" "stand") rfl)
theorem n_Caller_mark : NoAttr K (He.ga K "Caller") "mark" := He.noat_ok (T.says.fact 56 (f := .noat "Caller" "mark") rfl)
theorem g_Desk : mg "Desk" = some (.ref (He.ga K "Desk")) := (let ⟨_, X, G⟩ := T.inn; He.glo_ok X G (T.says.fact 57 (f := .glo "Desk") rfl))
theorem c_Desk : Cls K (He.ga K "Desk") := He.cls_ok (T.says.fact 58 (f := .cls "Desk") rfl)
theorem mk_Desk : Mk K (He.ga K "Desk") (He.ma K (He.ga K "Desk") "__init__") := He.mkr_ok (T.says.fact 59 (f := .mkr "Desk") rfl)
theorem n_Desk_pace : NoAttr K (He.ga K "Desk") "pace" := He.noat_ok (T.says.fact 60 (f := .noat "Desk" "pace") rfl)
theorem n_Desk_room : NoAttr K (He.ga K "Desk") "room" := He.noat_ok (T.says.fact 61 (f := .noat "Desk" "room") rfl)
theorem n_Desk_now : NoAttr K (He.ga K "Desk") "now" := He.noat_ok (T.says.fact 62 (f := .noat "Desk" "now") rfl)
theorem n_Desk_line : NoAttr K (He.ga K "Desk") "line" := He.noat_ok (T.says.fact 63 (f := .noat "Desk" "line") rfl)
theorem g_NoName : mg "NoName" = some (.ref (He.ga K "NoName")) := (let ⟨_, X, G⟩ := T.inn; He.glo_ok X G (T.says.fact 64 (f := .glo "NoName") rfl))
theorem x_NoName : PySem.W.excIn K (He.ga K "NoName") He.veBase "ValueError.__new__" = true ∧ PySem.W.keepIn K (.ref (He.ga K "NoName")) = true ∧ PySem.W.subIn K (.ref (He.ga K "NoName")) (.type "BaseException") = some true ∧ PySem.W.typeIn K (.ref (He.ga K "NoName")) = some (.type "type") := He.exc_ok (T.says.fact 65 (f := .exc "NoName") rfl)
theorem g_NoRank : mg "NoRank" = some (.ref (He.ga K "NoRank")) := (let ⟨_, X, G⟩ := T.inn; He.glo_ok X G (T.says.fact 66 (f := .glo "NoRank") rfl))
theorem x_NoRank : PySem.W.excIn K (He.ga K "NoRank") He.veBase "ValueError.__new__" = true ∧ PySem.W.keepIn K (.ref (He.ga K "NoRank")) = true ∧ PySem.W.subIn K (.ref (He.ga K "NoRank")) (.type "BaseException") = some true ∧ PySem.W.typeIn K (.ref (He.ga K "NoRank")) = some (.type "type") := He.exc_ok (T.says.fact 67 (f := .exc "NoRank") rfl)
theorem g_NoSpan : mg "NoSpan" = some (.ref (He.ga K "NoSpan")) := (let ⟨_, X, G⟩ := T.inn; He.glo_ok X G (T.says.fact 68 (f := .glo "NoSpan") rfl))
theorem x_NoSpan : PySem.W.excIn K (He.ga K "NoSpan") He.veBase "ValueError.__new__" = true ∧ PySem.W.keepIn K (.ref (He.ga K "NoSpan")) = true ∧ PySem.W.subIn K (.ref (He.ga K "NoSpan")) (.type "BaseException") = some true ∧ PySem.W.typeIn K (.ref (He.ga K "NoSpan")) = some (.type "type") := He.exc_ok (T.says.fact 69 (f := .exc "NoSpan") rfl)
theorem g_NoDesk : mg "NoDesk" = some (.ref (He.ga K "NoDesk")) := (let ⟨_, X, G⟩ := T.inn; He.glo_ok X G (T.says.fact 70 (f := .glo "NoDesk") rfl))
theorem x_NoDesk : PySem.W.excIn K (He.ga K "NoDesk") He.veBase "ValueError.__new__" = true ∧ PySem.W.keepIn K (.ref (He.ga K "NoDesk")) = true ∧ PySem.W.subIn K (.ref (He.ga K "NoDesk")) (.type "BaseException") = some true ∧ PySem.W.typeIn K (.ref (He.ga K "NoDesk")) = some (.type "type") := He.exc_ok (T.says.fact 71 (f := .exc "NoDesk") rfl)
theorem g_Known : mg "Known" = some (.ref (He.ga K "Known")) := (let ⟨_, X, G⟩ := T.inn; He.glo_ok X G (T.says.fact 72 (f := .glo "Known") rfl))
theorem x_Known : PySem.W.excIn K (He.ga K "Known") He.veBase "ValueError.__new__" = true ∧ PySem.W.keepIn K (.ref (He.ga K "Known")) = true ∧ PySem.W.subIn K (.ref (He.ga K "Known")) (.type "BaseException") = some true ∧ PySem.W.typeIn K (.ref (He.ga K "Known")) = some (.type "type") := He.exc_ok (T.says.fact 73 (f := .exc "Known") rfl)
theorem g_Unknown : mg "Unknown" = some (.ref (He.ga K "Unknown")) := (let ⟨_, X, G⟩ := T.inn; He.glo_ok X G (T.says.fact 74 (f := .glo "Unknown") rfl))
theorem x_Unknown : PySem.W.excIn K (He.ga K "Unknown") He.veBase "ValueError.__new__" = true ∧ PySem.W.keepIn K (.ref (He.ga K "Unknown")) = true ∧ PySem.W.subIn K (.ref (He.ga K "Unknown")) (.type "BaseException") = some true ∧ PySem.W.typeIn K (.ref (He.ga K "Unknown")) = some (.type "type") := He.exc_ok (T.says.fact 75 (f := .exc "Unknown") rfl)
theorem g_Full : mg "Full" = some (.ref (He.ga K "Full")) := (let ⟨_, X, G⟩ := T.inn; He.glo_ok X G (T.says.fact 76 (f := .glo "Full") rfl))
theorem x_Full : PySem.W.excIn K (He.ga K "Full") He.veBase "ValueError.__new__" = true ∧ PySem.W.keepIn K (.ref (He.ga K "Full")) = true ∧ PySem.W.subIn K (.ref (He.ga K "Full")) (.type "BaseException") = some true ∧ PySem.W.typeIn K (.ref (He.ga K "Full")) = some (.type "type") := He.exc_ok (T.says.fact 77 (f := .exc "Full") rfl)
theorem g_NotReady : mg "NotReady" = some (.ref (He.ga K "NotReady")) := (let ⟨_, X, G⟩ := T.inn; He.glo_ok X G (T.says.fact 78 (f := .glo "NotReady") rfl))
theorem x_NotReady : PySem.W.excIn K (He.ga K "NotReady") He.veBase "ValueError.__new__" = true ∧ PySem.W.keepIn K (.ref (He.ga K "NotReady")) = true ∧ PySem.W.subIn K (.ref (He.ga K "NotReady")) (.type "BaseException") = some true ∧ PySem.W.typeIn K (.ref (He.ga K "NotReady")) = some (.type "type") := He.exc_ok (T.says.fact 79 (f := .exc "NotReady") rfl)
theorem g_IsReady : mg "IsReady" = some (.ref (He.ga K "IsReady")) := (let ⟨_, X, G⟩ := T.inn; He.glo_ok X G (T.says.fact 80 (f := .glo "IsReady") rfl))
theorem x_IsReady : PySem.W.excIn K (He.ga K "IsReady") He.veBase "ValueError.__new__" = true ∧ PySem.W.keepIn K (.ref (He.ga K "IsReady")) = true ∧ PySem.W.subIn K (.ref (He.ga K "IsReady")) (.type "BaseException") = some true ∧ PySem.W.typeIn K (.ref (He.ga K "IsReady")) = some (.type "type") := He.exc_ok (T.says.fact 81 (f := .exc "IsReady") rfl)
theorem k_SIGNS : ∃ t, mg "SIGNS" = some (.str "abcdefghijklmnopqrstuvwxyz0123456789" t) := let ⟨_, X, G⟩ := T.inn; He.str_ok X G (T.says.fact 82 (f := .str "SIGNS" "abcdefghijklmnopqrstuvwxyz0123456789") rfl)
theorem k_MOST : ∃ t, mg "MOST" = some (.int 12 t) := let ⟨_, X, G⟩ := T.inn; He.int_ok X G (T.says.fact 83 (f := .int "MOST" 12) rfl)
theorem k_TOP : ∃ t, mg "TOP" = some (.int 99 t) := let ⟨_, X, G⟩ := T.inn; He.int_ok X G (T.says.fact 84 (f := .int "TOP" 99) rfl)
theorem k_MOST_PACE : ∃ t, mg "MOST_PACE" = some (.int 1000 t) := let ⟨_, X, G⟩ := T.inn; He.int_ok X G (T.says.fact 85 (f := .int "MOST_PACE" 1000) rfl)
theorem k_MOST_ROOM : ∃ t, mg "MOST_ROOM" = some (.int 60 t) := let ⟨_, X, G⟩ := T.inn; He.int_ok X G (T.says.fact 86 (f := .int "MOST_ROOM" 60) rfl)
theorem k_MOST_TURNS : ∃ t, mg "MOST_TURNS" = some (.int 1000 t) := let ⟨_, X, G⟩ := T.inn; He.int_ok X G (T.says.fact 87 (f := .int "MOST_TURNS" 1000) rfl)
theorem k_FIGURES : ∃ t, mg "FIGURES" = some (.str "0123456789" t) := let ⟨_, X, G⟩ := T.inn; He.str_ok X G (T.says.fact 88 (f := .str "FIGURES" "0123456789") rfl)
theorem k_MOST_FIGURES : ∃ t, mg "MOST_FIGURES" = some (.int 12 t) := let ⟨_, X, G⟩ := T.inn; He.int_ok X G (T.says.fact 89 (f := .int "MOST_FIGURES" 12) rfl)
theorem b_len : mg "len" = none := let ⟨_, X, G⟩ := T.inn; He.free_ok X G (T.says.fact 90 (f := .free "len") rfl)
theorem b_range : mg "range" = none := let ⟨_, X, G⟩ := T.inn; He.free_ok X G (T.says.fact 91 (f := .free "range") rfl)
theorem b_str : mg "str" = none := let ⟨_, X, G⟩ := T.inn; He.free_ok X G (T.says.fact 92 (f := .free "str") rfl)
theorem b_int : mg "int" = none := let ⟨_, X, G⟩ := T.inn; He.free_ok X G (T.says.fact 93 (f := .free "int") rfl)
theorem b_isinstance : mg "isinstance" = none := let ⟨_, X, G⟩ := T.inn; He.free_ok X G (T.says.fact 94 (f := .free "isinstance") rfl)
theorem b_min : mg "min" = none := let ⟨_, X, G⟩ := T.inn; He.free_ok X G (T.says.fact 95 (f := .free "min") rfl)
theorem b_list : mg "list" = none := let ⟨_, X, G⟩ := T.inn; He.free_ok X G (T.says.fact 96 (f := .free "list") rfl)
theorem b_bool : mg "bool" = none := let ⟨_, X, G⟩ := T.inn; He.free_ok X G (T.says.fact 97 (f := .free "bool") rfl)
theorem f_caller_init : ∃ fd, FunD K "__init__" "Caller.__init__" (defArgs s_caller_init) (defBody s_caller_init) (defScope s_caller_init) [] [] (He.ma K (He.ga K "Caller") "__init__") fd := T.says.def_ 0 (d := dd_caller_init) rfl
theorem f_is_name : ∃ fd, FunD K "is_name" "is_name" (defArgs s_is_name) (defBody s_is_name) (defScope s_is_name) [] [] (He.ga K "is_name") fd := T.says.def_ 1 (d := dd_is_name) rfl
theorem kp_is_name : PySem.W.keepIn K (.ref (He.ga K "is_name")) = true := let ⟨_, F⟩ := f_is_name T; F.kp
theorem f_aged : ∃ fd, FunD K "aged" "aged" (defArgs s_aged) (defBody s_aged) (defScope s_aged) [] [] (He.ga K "aged") fd := T.says.def_ 2 (d := dd_aged) rfl
theorem kp_aged : PySem.W.keepIn K (.ref (He.ga K "aged")) = true := let ⟨_, F⟩ := f_aged T; F.kp
theorem f_first : ∃ fd, FunD K "first" "first" (defArgs s_first) (defBody s_first) (defScope s_first) [] [] (He.ga K "first") fd := T.says.def_ 3 (d := dd_first) rfl
theorem kp_first : PySem.W.keepIn K (.ref (He.ga K "first")) = true := let ⟨_, F⟩ := f_first T; F.kp
theorem f_desk_init : ∃ fd, FunD K "__init__" "Desk.__init__" (defArgs s_desk_init) (defBody s_desk_init) (defScope s_desk_init) [] [] (He.ma K (He.ga K "Desk") "__init__") fd := T.says.def_ 4 (d := dd_desk_init) rfl
theorem f_desk_one : ∃ fd, FunD K "one" "Desk.one" (defArgs s_desk_one) (defBody s_desk_one) (defScope s_desk_one) [] [] (He.ma K (He.ga K "Desk") "one") fd := T.says.def_ 5 (d := dd_desk_one) rfl
theorem f_desk_become : ∃ fd, FunD K "become" "Desk.become" (defArgs s_desk_become) (defBody s_desk_become) (defScope s_desk_become) [] [] (He.ma K (He.ga K "Desk") "become") fd := T.says.def_ 6 (d := dd_desk_become) rfl
theorem f_desk_those : ∃ fd, FunD K "those" "Desk.those" (defArgs s_desk_those) (defBody s_desk_those) (defScope s_desk_those) [] [] (He.ma K (He.ga K "Desk") "those") fd := T.says.def_ 7 (d := dd_desk_those) rfl
theorem f_desk_enter : ∃ fd, FunD K "enter" "Desk.enter" (defArgs s_desk_enter) (defBody s_desk_enter) (defScope s_desk_enter) [] [] (He.ma K (He.ga K "Desk") "enter") fd := T.says.def_ 8 (d := dd_desk_enter) rfl
theorem f_desk_leave : ∃ fd, FunD K "leave" "Desk.leave" (defArgs s_desk_leave) (defBody s_desk_leave) (defScope s_desk_leave) [] [] (He.ma K (He.ga K "Desk") "leave") fd := T.says.def_ 9 (d := dd_desk_leave) rfl
theorem f_desk_sleep : ∃ fd, FunD K "sleep" "Desk.sleep" (defArgs s_desk_sleep) (defBody s_desk_sleep) (defScope s_desk_sleep) [] [] (He.ma K (He.ga K "Desk") "sleep") fd := T.says.def_ 10 (d := dd_desk_sleep) rfl
theorem f_desk_wait : ∃ fd, FunD K "wait" "Desk.wait" (defArgs s_desk_wait) (defBody s_desk_wait) (defScope s_desk_wait) [] [] (He.ma K (He.ga K "Desk") "wait") fd := T.says.def_ 11 (d := dd_desk_wait) rfl
theorem f_desk_wake : ∃ fd, FunD K "wake" "Desk.wake" (defArgs s_desk_wake) (defBody s_desk_wake) (defScope s_desk_wake) [] [] (He.ma K (He.ga K "Desk") "wake") fd := T.says.def_ 12 (d := dd_desk_wake) rfl
theorem f_desk_ring : ∃ fd, FunD K "ring" "Desk.ring" (defArgs s_desk_ring) (defBody s_desk_ring) (defScope s_desk_ring) [] [] (He.ma K (He.ga K "Desk") "ring") fd := T.says.def_ 13 (d := dd_desk_ring) rfl
theorem f_desk_rerank : ∃ fd, FunD K "rerank" "Desk.rerank" (defArgs s_desk_rerank) (defBody s_desk_rerank) (defScope s_desk_rerank) [] [] (He.ma K (He.ga K "Desk") "rerank") fd := T.says.def_ 14 (d := dd_desk_rerank) rfl
theorem f_desk_need_ready : ∃ fd, FunD K "need_ready" "Desk.need_ready" (defArgs s_desk_need_ready) (defBody s_desk_need_ready) (defScope s_desk_need_ready) [] [] (He.ma K (He.ga K "Desk") "need_ready") fd := T.says.def_ 15 (d := dd_desk_need_ready) rfl
theorem f_desk_turn : ∃ fd, FunD K "turn" "Desk.turn" (defArgs s_desk_turn) (defBody s_desk_turn) (defScope s_desk_turn) [] [] (He.ma K (He.ga K "Desk") "turn") fd := T.says.def_ 16 (d := dd_desk_turn) rfl
theorem f_desk_run : ∃ fd, FunD K "run" "Desk.run" (defArgs s_desk_run) (defBody s_desk_run) (defScope s_desk_run) [] [] (He.ma K (He.ga K "Desk") "run") fd := T.says.def_ 17 (d := dd_desk_run) rfl
theorem f_desk_names : ∃ fd, FunD K "names" "Desk.names" (defArgs s_desk_names) (defBody s_desk_names) (defScope s_desk_names) [] [] (He.ma K (He.ga K "Desk") "names") fd := T.says.def_ 18 (d := dd_desk_names) rfl
theorem f_desk_state : ∃ fd, FunD K "state" "Desk.state" (defArgs s_desk_state) (defBody s_desk_state) (defScope s_desk_state) [] [] (He.ma K (He.ga K "Desk") "state") fd := T.says.def_ 19 (d := dd_desk_state) rfl
theorem f_desk_rank : ∃ fd, FunD K "rank" "Desk.rank" (defArgs s_desk_rank) (defBody s_desk_rank) (defScope s_desk_rank) [] [] (He.ma K (He.ga K "Desk") "rank") fd := T.says.def_ 20 (d := dd_desk_rank) rfl
theorem f_desk_waited : ∃ fd, FunD K "waited" "Desk.waited" (defArgs s_desk_waited) (defBody s_desk_waited) (defScope s_desk_waited) [] [] (He.ma K (He.ga K "Desk") "waited") fd := T.says.def_ 21 (d := dd_desk_waited) rfl
theorem f_desk_left : ∃ fd, FunD K "left" "Desk.left" (defArgs s_desk_left) (defBody s_desk_left) (defScope s_desk_left) [] [] (He.ma K (He.ga K "Desk") "left") fd := T.says.def_ 22 (d := dd_desk_left) rfl
theorem f_desk_bell : ∃ fd, FunD K "bell" "Desk.bell" (defArgs s_desk_bell) (defBody s_desk_bell) (defScope s_desk_bell) [] [] (He.ma K (He.ga K "Desk") "bell") fd := T.says.def_ 23 (d := dd_desk_bell) rfl
theorem f_number_of : ∃ fd, FunD K "number_of" "number_of" (defArgs s_number_of) (defBody s_number_of) (defScope s_number_of) [] [] (He.ga K "number_of") fd := T.says.def_ 24 (d := dd_number_of) rfl
theorem kp_number_of : PySem.W.keepIn K (.ref (He.ga K "number_of")) = true := let ⟨_, F⟩ := f_number_of T; F.kp
theorem f_need : ∃ fd, FunD K "need" "need" (defArgs s_need) (defBody s_need) (defScope s_need) [] [] (He.ga K "need") fd := T.says.def_ 25 (d := dd_need) rfl
theorem kp_need : PySem.W.keepIn K (.ref (He.ga K "need")) = true := let ⟨_, F⟩ := f_need T; F.kp
theorem f_caller_of : ∃ fd, FunD K "caller_of" "caller_of" (defArgs s_caller_of) (defBody s_caller_of) (defScope s_caller_of) [] [] (He.ga K "caller_of") fd := T.says.def_ 26 (d := dd_caller_of) rfl
theorem kp_caller_of : PySem.W.keepIn K (.ref (He.ga K "caller_of")) = true := let ⟨_, F⟩ := f_caller_of T; F.kp
theorem f_read : ∃ fd, FunD K "read" "read" (defArgs s_read) (defBody s_read) (defScope s_read) [] [] (He.ga K "read") fd := T.says.def_ 27 (d := dd_read) rfl
theorem kp_read : PySem.W.keepIn K (.ref (He.ga K "read")) = true := let ⟨_, F⟩ := f_read T; F.kp
theorem f_L_whole : ∃ fd, FunD K "_law_whole" "_law_whole" (defArgs s_L_whole) (defBody s_L_whole) (defScope s_L_whole) [] [] (He.ga K "_law_whole") fd := T.says.def_ 28 (d := dd_L_whole) rfl
theorem kp_L_whole : PySem.W.keepIn K (.ref (He.ga K "_law_whole")) = true := let ⟨_, F⟩ := f_L_whole T; F.kp
theorem f_L_cell_at : ∃ fd, FunD K "_law_cell_at" "_law_cell_at" (defArgs s_L_cell_at) (defBody s_L_cell_at) (defScope s_L_cell_at) [] [] (He.ga K "_law_cell_at") fd := T.says.def_ 29 (d := dd_L_cell_at) rfl
theorem kp_L_cell_at : PySem.W.keepIn K (.ref (He.ga K "_law_cell_at")) = true := let ⟨_, F⟩ := f_L_cell_at T; F.kp
theorem f_L_mix : ∃ fd, FunD K "_law_mix" "_law_mix" (defArgs s_L_mix) (defBody s_L_mix) (defScope s_L_mix) [] [] (He.ga K "_law_mix") fd := T.says.def_ 30 (d := dd_L_mix) rfl
theorem kp_L_mix : PySem.W.keepIn K (.ref (He.ga K "_law_mix")) = true := let ⟨_, F⟩ := f_L_mix T; F.kp
theorem f_L_name_by : ∃ fd, FunD K "_law_name_by" "_law_name_by" (defArgs s_L_name_by) (defBody s_L_name_by) (defScope s_L_name_by) [] [] (He.ga K "_law_name_by") fd := T.says.def_ 31 (d := dd_L_name_by) rfl
theorem kp_L_name_by : PySem.W.keepIn K (.ref (He.ga K "_law_name_by")) = true := let ⟨_, F⟩ := f_L_name_by T; F.kp
theorem f_L_texts : ∃ fd, FunD K "_law_texts" "_law_texts" (defArgs s_L_texts) (defBody s_L_texts) (defScope s_L_texts) [] [] (He.ga K "_law_texts") fd := T.says.def_ 32 (d := dd_L_texts) rfl
theorem kp_L_texts : PySem.W.keepIn K (.ref (He.ga K "_law_texts")) = true := let ⟨_, F⟩ := f_L_texts T; F.kp
theorem f_L_put : ∃ fd, FunD K "_law_put" "_law_put" (defArgs s_L_put) (defBody s_L_put) (defScope s_L_put) [] [] (He.ga K "_law_put") fd := T.says.def_ 33 (d := dd_L_put) rfl
theorem kp_L_put : PySem.W.keepIn K (.ref (He.ga K "_law_put")) = true := let ⟨_, F⟩ := f_L_put T; F.kp
theorem f_L_after : ∃ fd, FunD K "_law_after" "_law_after" (defArgs s_L_after) (defBody s_L_after) (defScope s_L_after) [] [] (He.ga K "_law_after") fd := T.says.def_ 34 (d := dd_L_after) rfl
theorem kp_L_after : PySem.W.keepIn K (.ref (He.ga K "_law_after")) = true := let ⟨_, F⟩ := f_L_after T; F.kp
theorem f_L_rank_by : ∃ fd, FunD K "_law_rank_by" "_law_rank_by" (defArgs s_L_rank_by) (defBody s_L_rank_by) (defScope s_L_rank_by) [] [] (He.ga K "_law_rank_by") fd := T.says.def_ 35 (d := dd_L_rank_by) rfl
theorem kp_L_rank_by : PySem.W.keepIn K (.ref (He.ga K "_law_rank_by")) = true := let ⟨_, F⟩ := f_L_rank_by T; F.kp
theorem f_L_pace_by : ∃ fd, FunD K "_law_pace_by" "_law_pace_by" (defArgs s_L_pace_by) (defBody s_L_pace_by) (defScope s_L_pace_by) [] [] (He.ga K "_law_pace_by") fd := T.says.def_ 36 (d := dd_L_pace_by) rfl
theorem kp_L_pace_by : PySem.W.keepIn K (.ref (He.ga K "_law_pace_by")) = true := let ⟨_, F⟩ := f_L_pace_by T; F.kp
theorem f_L_opened : ∃ fd, FunD K "_law_opened" "_law_opened" (defArgs s_L_opened) (defBody s_L_opened) (defScope s_L_opened) [] [] (He.ga K "_law_opened") fd := T.says.def_ 37 (d := dd_L_opened) rfl
theorem kp_L_opened : PySem.W.keepIn K (.ref (He.ga K "_law_opened")) = true := let ⟨_, F⟩ := f_L_opened T; F.kp
theorem f_L_crowd : ∃ fd, FunD K "_law_crowd" "_law_crowd" (defArgs s_L_crowd) (defBody s_L_crowd) (defScope s_L_crowd) [] [] (He.ga K "_law_crowd") fd := T.says.def_ 38 (d := dd_L_crowd) rfl
theorem kp_L_crowd : PySem.W.keepIn K (.ref (He.ga K "_law_crowd")) = true := let ⟨_, F⟩ := f_L_crowd T; F.kp
theorem f_L_bell_by : ∃ fd, FunD K "_law_bell_by" "_law_bell_by" (defArgs s_L_bell_by) (defBody s_L_bell_by) (defScope s_L_bell_by) [] [] (He.ga K "_law_bell_by") fd := T.says.def_ 39 (d := dd_L_bell_by) rfl
theorem kp_L_bell_by : PySem.W.keepIn K (.ref (He.ga K "_law_bell_by")) = true := let ⟨_, F⟩ := f_L_bell_by T; F.kp
theorem f_L_rung : ∃ fd, FunD K "_law_rung" "_law_rung" (defArgs s_L_rung) (defBody s_L_rung) (defScope s_L_rung) [] [] (He.ga K "_law_rung") fd := T.says.def_ 40 (d := dd_L_rung) rfl
theorem kp_L_rung : PySem.W.keepIn K (.ref (He.ga K "_law_rung")) = true := let ⟨_, F⟩ := f_L_rung T; F.kp
theorem f_L_slept : ∃ fd, FunD K "_law_slept" "_law_slept" (defArgs s_L_slept) (defBody s_L_slept) (defScope s_L_slept) [] [] (He.ga K "_law_slept") fd := T.says.def_ 41 (d := dd_L_slept) rfl
theorem kp_L_slept : PySem.W.keepIn K (.ref (He.ga K "_law_slept")) = true := let ⟨_, F⟩ := f_L_slept T; F.kp
theorem f_L_woken : ∃ fd, FunD K "_law_woken" "_law_woken" (defArgs s_L_woken) (defBody s_L_woken) (defScope s_L_woken) [] [] (He.ga K "_law_woken") fd := T.says.def_ 42 (d := dd_L_woken) rfl
theorem kp_L_woken : PySem.W.keepIn K (.ref (He.ga K "_law_woken")) = true := let ⟨_, F⟩ := f_L_woken T; F.kp
theorem f_L_done : ∃ fd, FunD K "_law_done" "_law_done" (defArgs s_L_done) (defBody s_L_done) (defScope s_L_done) [] [] (He.ga K "_law_done") fd := T.says.def_ 43 (d := dd_L_done) rfl
theorem kp_L_done : PySem.W.keepIn K (.ref (He.ga K "_law_done")) = true := let ⟨_, F⟩ := f_L_done T; F.kp
theorem f_L_told : ∃ fd, FunD K "_law_told" "_law_told" (defArgs s_L_told) (defBody s_L_told) (defScope s_L_told) [] [] (He.ga K "_law_told") fd := T.says.def_ 44 (d := dd_L_told) rfl
theorem kp_L_told : PySem.W.keepIn K (.ref (He.ga K "_law_told")) = true := let ⟨_, F⟩ := f_L_told T; F.kp
theorem f_L_run : ∃ fd, FunD K "_law_run" "_law_run" (defArgs s_L_run) (defBody s_L_run) (defScope s_L_run) [] [] (He.ga K "_law_run") fd := T.says.def_ 45 (d := dd_L_run) rfl
theorem kp_L_run : PySem.W.keepIn K (.ref (He.ga K "_law_run")) = true := let ⟨_, F⟩ := f_L_run T; F.kp
theorem f_L_few : ∃ fd, FunD K "_law_few" "_law_few" (defArgs s_L_few) (defBody s_L_few) (defScope s_L_few) [] [] (He.ga K "_law_few") fd := T.says.def_ 46 (d := dd_L_few) rfl
theorem kp_L_few : PySem.W.keepIn K (.ref (He.ga K "_law_few")) = true := let ⟨_, F⟩ := f_L_few T; F.kp
theorem f_L_many : ∃ fd, FunD K "_law_many" "_law_many" (defArgs s_L_many) (defBody s_L_many) (defScope s_L_many) [] [] (He.ga K "_law_many") fd := T.says.def_ 47 (d := dd_L_many) rfl
theorem kp_L_many : PySem.W.keepIn K (.ref (He.ga K "_law_many")) = true := let ⟨_, F⟩ := f_L_many T; F.kp
theorem f_L_room_by : ∃ fd, FunD K "_law_room_by" "_law_room_by" (defArgs s_L_room_by) (defBody s_L_room_by) (defScope s_L_room_by) [] [] (He.ga K "_law_room_by") fd := T.says.def_ 48 (d := dd_L_room_by) rfl
theorem kp_L_room_by : PySem.W.keepIn K (.ref (He.ga K "_law_room_by")) = true := let ⟨_, F⟩ := f_L_room_by T; F.kp
theorem f_L_one : ∃ fd, FunD K "_law_one" "_law_one" (defArgs s_L_one) (defBody s_L_one) (defScope s_L_one) [] [] (He.ga K "_law_one") fd := T.says.def_ 49 (d := dd_L_one) rfl
theorem kp_L_one : PySem.W.keepIn K (.ref (He.ga K "_law_one")) = true := let ⟨_, F⟩ := f_L_one T; F.kp
theorem f_L_stands : ∃ fd, FunD K "_law_stands" "_law_stands" (defArgs s_L_stands) (defBody s_L_stands) (defScope s_L_stands) [] [] (He.ga K "_law_stands") fd := T.says.def_ 50 (d := dd_L_stands) rfl
theorem kp_L_stands : PySem.W.keepIn K (.ref (He.ga K "_law_stands")) = true := let ⟨_, F⟩ := f_L_stands T; F.kp
theorem f_law : ∃ fd, FunD K "law" "law" (defArgs s_law) (defBody s_law) (defScope s_law) [] [] (He.ga K "law") fd := T.says.def_ 51 (d := dd_law) rfl
theorem kp_law : PySem.W.keepIn K (.ref (He.ga K "law")) = true := let ⟨_, F⟩ := f_law T; F.kp
end
/-! ### words of this text, over Evl: what every def's proof uses -/
section
variable {P : Program} {w : World} {K : PySem.W.Frag} {mg : Str → Option Value} {base : Heap} {x qual : Str} {params : Arguments} {body : List Stmt} {scope : Scope} {f : Addr} {fd : FuncData}
theorem ok0 {N ps : List Str} {k : Nat} {sp : Sp} (F : FunD K x qual params body scope [] [] f fd) (S : FnScope N ps scope) (len : ∀ vs H Q E, sp vs H Q E → vs.length = ps.length)
    (hbody : ∀ (cdv : Value) (A : Around) (outer : List Env) (s : Shared) (H : Hp) (vs : List V) (Q : VK) (E : XK), Room k (A.deeper (envOfC qual scope s.heap.objs.size f cdv)) → sp vs H Q E →
      ∃ t, PSs (cxOf CX0 P w K mg base N qual scope f cdv A outer s H E).nox body t ∧ t { nx := fun _ H' => Q .non H', rt := Q } (start N vs) H) : FnOk P w K mg base CX0 (k + 1) f fd ps sp :=
  F.ok S len fun cdv A outer s H vs Q E hr h => let ⟨t, a, b⟩ := hbody cdv A outer s H vs Q E hr h; ⟨t, PSs.nox a, b⟩
theorem okX {N ps : List Str} {k : Nat} {sp : Sp} (F : FunD K x qual params body scope [] [] f fd) (S : FnScope N ps scope) (len : ∀ vs H Q E, sp vs H Q E → vs.length = ps.length)
    (hbody : ∀ (cdv : Value) (A : Around) (outer : List Env) (s : Shared) (H : Hp) (vs : List V) (Q : VK) (E : XK), Room k (A.deeper (envOfC qual scope s.heap.objs.size f cdv)) → sp vs H Q E →
      ∃ t, PSs (cxOf (L2.CX P w) P w K mg base N qual scope f cdv A outer s H E) body t ∧ t { nx := fun _ H' => Q .non H', rt := Q } (start N vs) H) : FnOk P w K mg base (L2.CX P w) (k + 1) f fd ps sp :=
  F.ok S len hbody
end
theorem funD_same {K : PySem.W.Frag} {x qual : Str} {params : Arguments} {body : List Stmt} {scope : Scope} {f : Addr} {fd fd' : FuncData} (F : FunD K x qual params body scope [] [] f fd) (F' : FunD K x qual params body scope [] [] f fd') : fd' = fd := by
  obtain ⟨_, _, _, _, _, _, _, _, _, _, _, h, _⟩ := F.ex
  obtain ⟨_, _, _, _, _, _, _, _, _, _, _, h', _⟩ := F'.ex
  rw [h] at h'
  injection h' with h'
  injection h' with _ _ h'
  injection h' with h'
  exact h'.symm
/-! ### evaluation -/
section
variable {K : PySem.W.Frag} {σ : L2.St} {H H' : Hp} {ta tb te tx : TE} {t u : TT} {x y z v : V} {D : Ends}
theorem rc_len_str {z : Str} (h : z.length ≤ sizeLine) : RC (fun xs H Q => ∃ z, xs = [.str z] ∧ z.length ≤ sizeLine ∧ Q (.int z.length) H) [.str z] H (.int z.length) := fun H1 _ Q q => ⟨z, rfl, h, q H1 (Ex.refl H1)⟩
theorem rc_max2 {i j : Int} : RC (fun xs H Q => ∃ i j, xs = [.int i, .int j] ∧ Q (.int (if j > i then j else i)) H) [.int i, .int j] H (.int (if j > i then j else i)) := fun H1 _ Q q => ⟨i, j, rfl, q H1 (Ex.refl H1)⟩
theorem rc_min2 {i j : Int} : RC (fun xs H Q => ∃ i j, xs = [.int i, .int j] ∧ Q (.int (if j < i then j else i)) H) [.int i, .int j] H (.int (if j < i then j else i)) := fun H1 _ Q q => ⟨i, j, rfl, q H1 (Ex.refl H1)⟩
theorem rc_len {p : Addr} {xs : List V} (h : SqL K H p xs) : RC (fun vs H Q => ∃ p ys, vs = [.ref p] ∧ (SqL K H p ys ∨ SqT K H p ys) ∧ Q (.int ys.length) H) [.ref p] H (.int (xs.length : Int)) := fun H1 e Q q => ⟨p, xs, rfl, .inl (ex_l e h), q H1 (Ex.refl H1)⟩
theorem rc_isi {c t' : V} {ty u : Value} {b : Bool} (hc : ClsV c u) (ht : ∀ H1, Ex H H1 → TyX K H1 x ty) (hk : PySem.W.kitOne K ty u = some b) : RC (rIsi K) [x, c] H (.bl b) := fun H1 e Q q => ⟨x, c, ty, u, b, rfl, hc, ht H1 e, hk, q H1 (Ex.refl H1)⟩
theorem rc_isi_int {i : Int} : RC (rIsi K) [.int i, .ty "int"] H (.bl true) := rc_isi (t' := .non) (.ty _) (fun _ _ => .base (.int i)) (kit_ty (by decide +kernel))
theorem rc_isi_int_bool {i : Int} : RC (rIsi K) [.int i, .ty "bool"] H (.bl false) := rc_isi (t' := .non) (.ty _) (fun _ _ => .base (.int i)) (kit_ty (by decide +kernel))
theorem rc_sum {a : Addr} {ns : List Int} (h : SqL K H a (ns.map V.int)) : RC (rSum K) [.ref a] H (.int ns.sum) := fun H1 e Q q => ⟨a, ns, rfl, ex_l e h, q H1 (Ex.refl H1)⟩
theorem ev_cbL {r : List V → Hp → VK → Prop} {xs : List V} (h : EvL ta σ H xs) (hr : ∀ p H1, H1 p = some (.lst xs) → RC r [.ref p] H1 z) : Ev (tCB r (tCons ta tNil)) σ H z := fun H1 e Q q =>
  h H1 e _ fun p H2 _ e2 hp => hr p H2 hp H2 (Ex.refl H2) Q fun H3 e3 => q H3 (e2.trans e3)
theorem el_lcR2 {ta : TA} {j : Nat} {vs : List Nat} {lo n : Int} (f : Nat → Bool) (v : Nat → V) (h : EvA ta σ H [.int lo, .int n]) (hn : -40000 ≤ lo ∧ lo ≤ 40000 ∧ n ≤ lo + 40000 ∧ -40000 ≤ n) (hw : ∀ x, wipe ((wipe σ vs).set j (some x)) vs = wipe σ vs)
    (ht : ∀ (i : Nat) H1, Ex H H1 → lo + (i : Int) < n → EvT t ((wipe σ vs).set j (some (.int (lo + (i : Int))))) H1 (f i)) (he : ∀ (i : Nat) H1, Ex H H1 → lo + (i : Int) < n → f i = true → Ev te ((wipe σ vs).set j (some (.int (lo + (i : Int))))) H1 (v i)) :
    EvL (tLc (iRng2 ta) (gName j) t te vs) σ H (given (n - lo).toNat f v) := fun H0 e Q q => h H0 e _ fun H1 e1 => ⟨lo, n, rfl, by omega, fun Dl hD =>
  lc_range (lo := lo) (n := (n - lo).toNat) (Cw H1 f v Dl) ⟨hD, Ex.new hD, upd_same⟩ (fun i H' hi p => ⟨hw _, cw_turn p (by omega) (ht i H1 (e.trans e1) (by omega)) (fun hf => he i H1 (e.trans e1) (by omega) hf)⟩) (fun H' p => q Dl H' (fresh_back e1 p.1) (e1.trans p.2.1) p.2.2)⟩
theorem et_yes : EvT tYes σ H true := fun H1 _ _ q => q H1 (Ex.refl H1)
theorem spv_call {sp : Sp} {vs : List V} (h : ∀ H1, Ex H H1 → ∀ Q E, RetV z H1 Q → sp vs H1 Q E) : SpV sp (vs ++ []) H z := fun H1 e Q q E => by
  rw [List.append_nil]
  exact h H1 e Q E q
theorem cmul_r {i j : Int} (h1 : -(2 ^ 64) < j) (h2 : j < 2 ^ 64) : CMul i j := .inr ⟨h1, h2⟩
theorem cmul_l {i j : Int} (h1 : -(2 ^ 64) < i) (h2 : i < 2 ^ 64) : CMul i j := .inl ⟨h1, h2⟩
end
section
variable {K : PySem.W.Frag} {σ : L2.St} {H H' : Hp} {ta tb te tx : TE} {t u : TT} {x y z v : V} {D : Ends}
theorem rv_isN : RV (fun x y H Q => y = .non ∧ Q (.bl (decide (x = .non))) H) x .non H (.bl (decide (x = .non))) := fun H1 _ Q q => ⟨rfl, q H1 (Ex.refl H1)⟩
theorem rv_notN : RV (fun x y H Q => y = .non ∧ Q (.bl (!decide (x = .non))) H) x .non H (.bl (!decide (x = .non))) := fun H1 _ Q q => ⟨rfl, q H1 (Ex.refl H1)⟩
theorem rv_addS {i j : Str} (h : i.length + j.length ≤ sizeLine) : RV (fun x y H Q => ∃ i j, x = .str i ∧ y = .str j ∧ i.length + j.length ≤ sizeLine ∧ Q (.str (i ++ j)) H) (.str i) (.str j) H (.str (i ++ j)) := fun H1 _ Q q => ⟨i, j, rfl, rfl, h, q H1 (Ex.refl H1)⟩
theorem rc_int_int {i : Int} : RC (fun xs H Q => (∃ i, xs = [.int i] ∧ Q (.int i) H) ∨ ∃ k, xs = [.bl k] ∧ Q (.int (if k then 1 else 0)) H) [.int i] H (.int i) := fun H1 _ Q q => .inl ⟨i, rfl, q H1 (Ex.refl H1)⟩
theorem rc_int_bl {k : Bool} : RC (fun xs H Q => (∃ i, xs = [.int i] ∧ Q (.int i) H) ∨ ∃ k, xs = [.bl k] ∧ Q (.int (if k then 1 else 0)) H) [.bl k] H (.int (if k then 1 else 0)) := fun H1 _ Q q => .inr ⟨k, rfl, q H1 (Ex.refl H1)⟩
theorem ev_fld {a C dx : Addr} {fs : List (Str × V)} {f : Str} (h : Ev ta σ H (.ref a)) (ho : H a = some (.ins C dx fs)) (hc : Cls K C) (hn : NoAttr K C f) (hl : fs.lookup f = some v) : Ev (tFld K ta f) σ H v := fun H1 e Q q =>
  h H1 e _ fun H2 e2 => ⟨a, C, dx, fs, v, rfl, e2 a _ (e a _ ho), hc, hn, hl, q H2 e2⟩
theorem ev_meth {a C dx : Addr} {fs : List (Str × V)} {m : Str} {sp : Sp} {E : XK} {tr : TA} {vs : List V} (h : Ev ta σ H (.ref a)) (ho : H a = some (.ins C dx fs)) (hl : fs.lookup m = none) (ha : EvA tr σ H vs) (hs : SpV sp (.ref a :: (vs ++ [])) H z) : Ev (tMeth C m sp [] E ta tr) σ H z := fun H1 e Q q =>
  h H1 e _ fun H2 e2 => ⟨a, dx, fs, rfl, e2 a _ (e a _ ho), hl, ha H2 (e.trans e2) _ fun H3 e3 => hs H3 ((e.trans e2).trans e3) Q (fun H4 e4 => q H4 ((e2.trans e3).trans e4)) E⟩
end
section
variable {K : PySem.W.Frag} {σ : L2.St} {H H' : Hp} {ta tb te tx : TE} {t u : TT} {x y z v : V} {D : Ends} {tz tu : TS} {sp : Sp} {E : XK} {tr : TA} {vs : List V}
/-- name = f(..), whatever the promise hands back -/
theorem q_call {i : Nat} (h : EvA tr σ H vs) (k : ∀ H1, Ex H H1 → sp (vs ++ []) H1 (fun x H2 => tz D (σ.set i (some x)) H2) E) : tSeq (tAsg (tCall sp [] E tr) (gName i)) tz D σ H := h H (Ex.refl H) _ fun H1 e1 => k H1 e1
theorem s_call {i : Nat} (h : EvA tr σ H vs) (k : ∀ H1, Ex H H1 → sp (vs ++ []) H1 (fun x H2 => D.nx (σ.set i (some x)) H2) E) : tAsg (tCall sp [] E tr) (gName i) D σ H := h H (Ex.refl H) _ fun H1 e1 => k H1 e1
theorem s_retC (h : EvA tr σ H vs) (k : ∀ H1, Ex H H1 → sp (vs ++ []) H1 D.rt E) : tRet (tCall sp [] E tr) D σ H := h H (Ex.refl H) _ fun H1 e1 => k H1 e1
/-- .. a method of the instance at a -/
theorem q_meth {i : Nat} {a C dx : Addr} {fs : List (Str × V)} {m : Str} (h : Ev ta σ H (.ref a)) (ho : H a = some (.ins C dx fs)) (hl : fs.lookup m = none) (ha : EvA tr σ H vs) (k : ∀ H1, Ex H H1 → sp (.ref a :: (vs ++ [])) H1 (fun x H2 => tz D (σ.set i (some x)) H2) E) :
    tSeq (tAsg (tMeth C m sp [] E ta tr) (gName i)) tz D σ H := h H (Ex.refl H) _ fun H1 e1 => ⟨a, dx, fs, rfl, e1 a _ ho, hl, ha H1 e1 _ fun H2 e2 => k H2 (e1.trans e2)⟩
theorem s_methA {i : Nat} {a C dx : Addr} {fs : List (Str × V)} {m : Str} (h : Ev ta σ H (.ref a)) (ho : H a = some (.ins C dx fs)) (hl : fs.lookup m = none) (ha : EvA tr σ H vs) (k : ∀ H1, Ex H H1 → sp (.ref a :: (vs ++ [])) H1 (fun x H2 => D.nx (σ.set i (some x)) H2) E) :
    tAsg (tMeth C m sp [] E ta tr) (gName i) D σ H := h H (Ex.refl H) _ fun H1 e1 => ⟨a, dx, fs, rfl, e1 a _ ho, hl, ha H1 e1 _ fun H2 e2 => k H2 (e1.trans e2)⟩
theorem q_dmeth {a C dx : Addr} {fs : List (Str × V)} {m : Str} (h : Ev ta σ H (.ref a)) (ho : H a = some (.ins C dx fs)) (hl : fs.lookup m = none) (ha : EvA tr σ H vs) (k : ∀ H1, Ex H H1 → sp (.ref a :: (vs ++ [])) H1 (fun _ H2 => tz D σ H2) E) :
    tSeq (tDrop (tMeth C m sp [] E ta tr)) tz D σ H := h H (Ex.refl H) _ fun H1 e1 => ⟨a, dx, fs, rfl, e1 a _ ho, hl, ha H1 e1 _ fun H2 e2 => k H2 (e1.trans e2)⟩
theorem s_dmeth {a C dx : Addr} {fs : List (Str × V)} {m : Str} (h : Ev ta σ H (.ref a)) (ho : H a = some (.ins C dx fs)) (hl : fs.lookup m = none) (ha : EvA tr σ H vs) (k : ∀ H1, Ex H H1 → sp (.ref a :: (vs ++ [])) H1 (fun _ H2 => D.nx σ H2) E) :
    tDrop (tMeth C m sp [] E ta tr) D σ H := h H (Ex.refl H) _ fun H1 e1 => ⟨a, dx, fs, rfl, e1 a _ ho, hl, ha H1 e1 _ fun H2 e2 => k H2 (e1.trans e2)⟩
theorem s_retM {a C dx : Addr} {fs : List (Str × V)} {m : Str} (h : Ev ta σ H (.ref a)) (ho : H a = some (.ins C dx fs)) (hl : fs.lookup m = none) (ha : EvA tr σ H vs) (k : ∀ H1, Ex H H1 → sp (.ref a :: (vs ++ [])) H1 D.rt E) :
    tRet (tMeth C m sp [] E ta tr) D σ H := h H (Ex.refl H) _ fun H1 e1 => ⟨a, dx, fs, rfl, e1 a _ ho, hl, ha H1 e1 _ fun H2 e2 => k H2 (e1.trans e2)⟩
theorem rd_upd {a l : Addr} {u o o' : HO} (h : Rd H a u) (hl : H l = some o) (hd : o ≠ u) (hf : ∀ ob, o ≠ .frz ob u) : Rd (upd H l o') a u := by
  rcases h with h | ⟨ob, h⟩
  · exact .inl (by rw [upd_ne (fun e => by rw [e, hl] at h; exact hd (Option.some.inj h))]; exact h)
  · exact .inr ⟨ob, by rw [upd_ne (fun e => by rw [e, hl] at h; exact hf ob (Option.some.inj h))]; exact h⟩
theorem sqT_upd {a l : Addr} {xs ys : List V} {o : HO} (h : SqT K H a xs) (hl : H l = some (.lst ys)) : SqT K (upd H l o) a xs := by
  rcases h with h | h
  · exact .inl (rd_upd h hl (by intro q; cases q) (by intro _ q; cases q))
  · exact .inr h
end
section
variable {K : PySem.W.Frag} {σ : L2.St} {H H' : Hp} {ta tb te tx tv tl : TE} {t u : TT} {x y z v : V} {D : Ends} {tz tu : TS} {sp : Sp} {E : XK} {tr : TA} {vs : List V}
theorem ev_fldx {a C : Addr} {fs : List (Str × V)} {f : Str} (h : Ev ta σ H (.ref a)) (ho : ∃ dx, H a = some (.ins C dx fs)) (hc : Cls K C) (hn : NoAttr K C f) (hl : fs.lookup f = some v) : Ev (tFld K ta f) σ H v := let ⟨_, ho⟩ := ho; ev_fld h ho hc hn hl
theorem s_fld {a C dx : Addr} {fs : List (Str × V)} {f : Str} (h : Ev tv σ H y) (ha : Ev ta σ H (.ref a)) (ho : H a = some (.ins C dx fs)) (hc : Cls K C) (hn : NoAttr K C f) (hl : fs.length < 1000) (k : ∀ H1, Ex H H1 → D.nx σ (upd H1 a (.ins C dx (putF f y fs)))) : sFld K ta tv f D σ H :=
  h H (Ex.refl H) _ fun H1 e1 => ha H1 e1 _ fun H2 e2 => ⟨a, C, dx, fs, rfl, e2 a _ (e1 a _ ho), hc, hn, hl, k H2 (e1.trans e2)⟩
theorem q_fld {a C dx : Addr} {fs : List (Str × V)} {f : Str} (h : Ev tv σ H y) (ha : Ev ta σ H (.ref a)) (ho : H a = some (.ins C dx fs)) (hc : Cls K C) (hn : NoAttr K C f) (hl : fs.length < 1000) (k : ∀ H1, Ex H H1 → tz D σ (upd H1 a (.ins C dx (putF f y fs)))) : tSeq (sFld K ta tv f) tz D σ H :=
  s_fld (D := { D with nx := tz D }) h ha ho hc hn hl k
theorem s_fldL {a C dx : Addr} {fs : List (Str × V)} {f : Str} {xs : List V} (h : EvL tv σ H xs) (ha : Ev ta σ H (.ref a)) (ho : H a = some (.ins C dx fs)) (hc : Cls K C) (hn : NoAttr K C f) (hl : fs.length < 1000) (k : ∀ q H1, H q = none → Ex H H1 → H1 q = some (.lst xs) → D.nx σ (upd H1 a (.ins C dx (putF f (.ref q) fs)))) : sFld K ta tv f D σ H :=
  h H (Ex.refl H) _ fun q H1 hq e1 h1 => ha H1 e1 _ fun H2 e2 => ⟨a, C, dx, fs, rfl, e2 a _ (e1 a _ ho), hc, hn, hl, k q H2 hq (e1.trans e2) (e2 q _ h1)⟩
theorem el_cat {xs ys : List V} (ha : EvL ta σ H xs) (hb : EvL tb σ H ys) (hz : xs.length + ys.length ≤ 100000) : EvL (tOp rCat ta tb) σ H (xs ++ ys) := fun H1 e Q q =>
  ha H1 e _ fun p H2 hp e2 h2 => hb H2 (e.trans e2) _ fun r H3 hr e3 h3 => ⟨p, r, xs, ys, rfl, rfl, e3 p _ h2, h3, sz_of hz, fun s hs => q s _ (fresh_back (e2.trans e3) hs) ((e2.trans e3).trans (Ex.new hs)) upd_same⟩
theorem el_meth {a C dx : Addr} {fs : List (Str × V)} {m : Str} {xs : List V} (h : Ev ta σ H (.ref a)) (ho : H a = some (.ins C dx fs)) (hl : fs.lookup m = none) (ha : EvA tr σ H vs) (hs : SpL sp (.ref a :: (vs ++ [])) H xs) : EvL (tMeth C m sp [] E ta tr) σ H xs := fun H1 e Q q =>
  h H1 e _ fun H2 e2 => ⟨a, dx, fs, rfl, e2 a _ (e a _ ho), hl, ha H2 (e.trans e2) _ fun H3 e3 => hs H3 ((e.trans e2).trans e3) Q (fun p H4 hp e4 h4 => q p H4 (fresh_back (e2.trans e3) hp) ((e2.trans e3).trans e4) h4) E⟩
theorem given_take {α : Type} (ps : List α) (g : α → Bool) (w : α → V) (n : Nat) (hn : n ≤ ps.length) : given n (fun i => (ps[i]?.map g).getD false) (fun i => (ps[i]?.map w).getD .non) = ((ps.take n).filter g).map w := by
  induction n with
  | zero => rfl
  | succ n ih =>
    have hlt : n < ps.length := hn
    have e1 : ps[n]? = some ps[n] := List.getElem?_eq_getElem hlt
    have e2 : ps.take (n + 1) = ps.take n ++ [ps[n]] := by rw [List.take_succ, e1]; rfl
    rw [e2, List.filter_append, List.map_append, ← ih (by omega)]
    cases hg : g ps[n] with
    | true =>
      rw [given_yes (by rw [e1]; exact hg), e1, List.filter_cons, if_pos hg]
      rfl
    | false =>
      rw [given_no (by rw [e1]; exact hg), List.filter_cons, if_neg (by rw [hg]; decide)]
      simp
theorem given_list {α : Type} (ps : List α) (g : α → Bool) (w : α → V) : given ps.length (fun i => (ps[i]?.map g).getD false) (fun i => (ps[i]?.map w).getD .non) = (ps.filter g).map w := by
  rw [given_take ps g w ps.length (Nat.le_refl _), List.take_length]
/-- a comprehension over a list of things told by u, kept by g, made by w -/
theorem el_lcM {α : Type} {ps : List α} {uu : α → V} {a : Addr} {j : Nat} {ws : List Nat} (g : α → Bool) (w : α → V) (h : Ev tl σ H (.ref a)) (hx : SqL K H a (ps.map uu)) (hz : ps.length ≤ 40000) (hw : ∀ x, wipe ((wipe σ ws).set j (some x)) ws = wipe σ ws)
    (ht : ∀ q ∈ ps, ∀ H1, Ex H H1 → EvT t ((wipe σ ws).set j (some (uu q))) H1 (g q)) (he : ∀ q ∈ ps, ∀ H1, Ex H H1 → g q = true → Ev te ((wipe σ ws).set j (some (uu q))) H1 (w q)) : EvL (tLc (iList K tl) (gName j) t te ws) σ H ((ps.filter g).map w) := by
  have key := el_lcL (K := K) (t := t) (te := te) (fun i => (ps[i]?.map g).getD false) (fun i => (ps[i]?.map w).getD .non) h hx (by rw [List.length_map]; exact hz) hw
    (fun i x H1 e1 hi => by
      rw [List.getElem?_map] at hi
      cases hq : ps[i]? with
      | none => rw [hq] at hi; cases hi
      | some q =>
        rw [hq] at hi
        cases hi
        exact ht q (List.mem_of_getElem? hq) H1 e1)
    (fun i x H1 e1 hi hf => by
      rw [List.getElem?_map] at hi
      cases hq : ps[i]? with
      | none => rw [hq] at hi; cases hi
      | some q =>
        rw [hq] at hi hf
        cases hi
        exact he q (List.mem_of_getElem? hq) H1 e1 hf)
  rw [List.length_map, given_list] at key
  exact key
theorem el_lcNM {α : Type} {ps : List α} {uu : α → V} {j : Nat} {ws : List Nat} (g : α → Bool) (w : α → V) (h : EvL tl σ H (ps.map uu)) (hz : ps.length ≤ 40000) (hw : ∀ x, wipe ((wipe σ ws).set j (some x)) ws = wipe σ ws)
    (ht : ∀ q ∈ ps, ∀ H1, Ex H H1 → EvT t ((wipe σ ws).set j (some (uu q))) H1 (g q)) (he : ∀ q ∈ ps, ∀ H1, Ex H H1 → g q = true → Ev te ((wipe σ ws).set j (some (uu q))) H1 (w q)) : EvL (tLc (iList K tl) (gName j) t te ws) σ H ((ps.filter g).map w) := by
  have key := el_lcNL (K := K) (t := t) (te := te) (fun i => (ps[i]?.map g).getD false) (fun i => (ps[i]?.map w).getD .non) h (by rw [List.length_map]; exact hz) hw
    (fun i x H1 e1 hi => by
      rw [List.getElem?_map] at hi
      cases hq : ps[i]? with
      | none => rw [hq] at hi; cases hi
      | some q =>
        rw [hq] at hi
        cases hi
        exact ht q (List.mem_of_getElem? hq) H1 e1)
    (fun i x H1 e1 hi hf => by
      rw [List.getElem?_map] at hi
      cases hq : ps[i]? with
      | none => rw [hq] at hi; cases hi
      | some q =>
        rw [hq] at hi hf
        cases hi
        exact he q (List.mem_of_getElem? hq) H1 e1 hf)
  rw [List.length_map, given_list] at key
  exact key
theorem filter_true {α : Type} (l : List α) : l.filter (fun _ => true) = l := List.filter_eq_self.mpr fun _ _ => rfl
theorem spl_call {xs : List V} (h : ∀ H1, Ex H H1 → ∀ Q E, RetL xs H1 Q → sp vs H1 Q E) : SpL sp vs H xs := fun H1 e Q q E => h H1 e Q E q
theorem spv_meth (h : ∀ H1, Ex H H1 → ∀ Q E, RetV z H1 Q → sp vs H1 Q E) : SpV sp vs H z := fun H1 e Q q E => h H1 e Q E q
end
/-! the rules that speak of the written part, said of K itself (within a comprehension the context is another one, K is not) -/
section
variable {X : Cx} {K : PySem.W.Frag} {e o : Expr} {te ta : TE} {pos : Pos} {f : Str}
theorem pe_fldK (h : X.K = K) (he : PE X e ta) (hb : attributeBase e f X.env (eval e X.env) = eval e X.env) : PE X (.Attribute e f pos) (tFld K ta f) := h ▸ pe_fld he hb
theorem ix_listK (h : X.K = K) : IxR X (rIxL K) := h ▸ ix_list
theorem ix_tupK (h : X.K = K) : IxR X (rIxT K) := h ▸ ix_tup
theorem call_lenK (h : X.K = K) : CallR X (.builtin "len") (rLenS K) := h ▸ call_len_seq
theorem call_listK (h : X.K = K) : CallR X (.type "list") (rListS K) := h ▸ call_list_of
theorem op_inK (h : X.K = K) : OpR X (compareOp .In) (rIn K false) := h ▸ op_in_seq
theorem op_notInK (h : X.K = K) : OpR X (compareOp .NotIn) (rIn K true) := h ▸ op_notIn_seq
theorem op_eqK (h : X.K = K) (hu : X.A.units + 64 < cLine) : OpR X (compareOp .Eq) (rEqD K) := h ▸ op_eqD hu
theorem op_neK (h : X.K = K) (hu : X.A.units + 64 < cLine) : OpR X (compareOp .NotEq) (rNeD K) := h ▸ op_neD hu
theorem call_isiK' (h : X.K = K) : CallR X (.builtin "isinstance") (rIsi K) := h ▸ call_isi
theorem sl_listK (h : X.K = K) : SlR X (rSlL K) := h ▸ sl_list
theorem sl_tupK (h : X.K = K) : SlR X (rSlT K) := h ▸ sl_tup
theorem cr_sumK (h : X.K = K) (hc : X.calm = true) : CallR X (.builtin "sum") (rSum K) := h ▸ cr_sum hc
theorem pi_listK {tg : Expr} (h : X.K = K) (he : PE X e te) : PI X tg e (iList K te) := h ▸ pi_list he
theorem pi_tupK {tg : Expr} (h : X.K = K) (he : PE X e te) : PI X tg e (iTup K te) := h ▸ pi_tup he
theorem mt_indexK (h : X.K = K) : MtR X "list.index" (rIndex K) := h ▸ mt_index
end
section
variable {K : PySem.W.Frag} {H : Hp}
theorem rc_lenS {p : Addr} {xs : List V} (h : SqL K H p xs) : RC (rLenS K) [.ref p] H (.int (xs.length : Int)) := fun H1 e Q q => ⟨p, xs, rfl, .inl (ex_l e h), q H1 (Ex.refl H1)⟩
end
theorem pe_bmK {X : Cx} {K : PySem.W.Frag} {o e : Expr} {es : List Expr} {to : TE} {t : TA} {name : Str} {apos cpos : Pos} {T id : String} {r : V → List V → Hp → VK → Prop} (hK : X.K = K) (pa : PlainAttrs T) (slot : Slot T name id) (hty : typeOf (.builtin id) = pure (.type "method_descriptor")) (hm : MtR X id r) (ho : PE X o to) (ha : PA X (e :: es) t)
    (h1 : attributeBase o name X.env (eval o X.env) = eval o X.env := by rfl)
    (h2 : ((backTo cpos (starEach (e :: es) X.env)).all (fun x => !x.1) && (backToKw cpos (keywordEach [] X.env)).all (fun x => x.1.isSome)
      && decide ((e :: es).length + ([] : List Keyword).length + (if ([] : List Keyword).isEmpty then 0 else 1) < 30)) = true := by rfl)
    (h3 : (apos.endLine == cpos.line) = true := by rfl) (h4 : starEach (e :: es) X.env = (false, eval e X.env) :: starEach es X.env := by rfl) (h5 : (backTo cpos (starEach es X.env)).any (·.1) = false := by rfl) :
    PE X (.Call (.Attribute o name apos) (e :: es) [] cpos) (tBM K T r to t) := hK ▸ pe_bm pa slot hty hm ho ha h1 h2 h3 h4 h5
def repS (z : Str) (n : Nat) : Str := ⟨(List.replicate n z.cps).foldl (· ++ ·) #[]⟩
theorem rep_size (z : Array Nat) : ∀ (n : Nat) (acc : Array Nat), ((List.replicate n z).foldl (· ++ ·) acc).size = acc.size + n * z.size
  | 0, acc => by simp
  | n + 1, acc => by
    rw [List.replicate_succ, List.foldl_cons, rep_size z n, Array.size_append, Nat.succ_mul]
    omega
theorem repS_len (z : Str) (n : Nat) : (repS z n).length = n * z.length := by
  have := rep_size z.cps n #[]
  rw [show (#[] : Array Nat).size = 0 from rfl, Nat.zero_add] at this
  exact this
def rRepS : R2 := fun x y H Q => ∃ (z : Str) (n : Int), x = .str z ∧ y = .int n ∧ 2 ≤ n ∧ n ≤ 100 ∧ 1 ≤ z.length ∧ z.length ≤ 100 ∧ Q (.str (repS z n.toNat)) H
theorem op_rep_str {X : Cx} : OpR X (binaryOp .Mult) rRepS := by
  intro pins s σ H x y v u Q I rx ry h
  obtain ⟨z, n, rfl, rfl, h1, h2, h3, h4, q⟩ := h
  obtain ⟨t, rfl⟩ := rx
  obtain ⟨t', rfl⟩ := ry
  have hm : z.length * n.toNat ≤ 100 * 100 := Nat.mul_le_mul h4 (by omega)
  have hm2 : (z.length : Int) * n ≤ 100 * 100 := by
    have : ((z.length * n.toNat : Nat) : Int) = (z.length : Int) * n := by rw [Int.natCast_mul]; congr 1; omega
    omega
  refine P.mul_str (by rw [decide_eq_false (by omega), decide_eq_false (by omega)]; rfl) (fun _ _ h => ?_) (fun _ _ => ?_) ?_
  · have : (z.length : Int) ≤ (2 ^ 63 - 1) / n := (Int.le_ediv_iff_mul_le (by omega)).mpr (by omega)
    omega
  · exact decide_eq_false (by have : (10000 : Nat) ≤ sizeLine := by decide
                              omega)
  · rw [if_neg (by omega), if_neg (by simp; omega)]
    refine ⟨?_, .str (repS z n.toNat), H, I.tok _, ⟨_, rfl⟩, q⟩
    have : (repS z n.toNat).length ≤ sizeLine := by
      rw [repS_len, Nat.mul_comm]
      exact sz_of (by omega)
    exact this
theorem rv_repS {z : Str} {n : Int} {H : Hp} (h1 : 2 ≤ n) (h2 : n ≤ 100) (h3 : 1 ≤ z.length) (h4 : z.length ≤ 100) : RV rRepS (.str z) (.int n) H (.str (repS z n.toNat)) := fun H1 _ Q q => ⟨z, n, rfl, rfl, h1, h2, h3, h4, q H1 (Ex.refl H1)⟩
theorem rc_isi_list {K : PySem.W.Frag} {H : Hp} {a : Addr} {xs : List V} (h : H a = some (.lst xs)) : RC (rIsi K) [.ref a, .ty "list"] H (.bl true) := rc_isi (t' := .non) (.ty _) (fun H1 e => .base (.lst (e _ _ h))) (kit_ty (by decide +kernel))
local macro_rules | `(tactic| tm_at "rr.side") => `(tactic| (first | assumption | rfl | decide | (unfold CMul; omega) | (unfold CDiv; omega) | (unfold CPow; omega) | omega | (dsimp only; omega) | (dsimp only; decide)))
local macro_rules | `(tactic| tm_at "rr.step") => `(tactic| (first | exact ev_c | exact ev_var rfl | exact ea_nil | refine' ea_cons ?_ ?_ | refine' ev_op ?_ ?_ rv_I0 | refine' ev_op ?_ ?_ (rv_I ?_) | refine' ev_op ?_ ?_ (rv_eq ?_) | refine' ev_op ?_ ?_ (rv_ne ?_) | refine' ev_call ?_ ?_ | tm_at "rr.cv" | refine' et_test ?_ | refine' et_B ?_ | refine' et_and ?_ (fun _ => ?_) | refine' et_or ?_ (fun _ => ?_) | refine' et_not ?_ | refine' ev_andV ?_ (fun _ => ?_) | refine' ev_orV ?_ (fun _ => ?_) | refine' ev_notV ?_ | exact et_yes | refine' ev_cb ?_ rc_max2 | refine' ev_cb ?_ rc_min2 | refine' ev_cb ?_ rc_int_bl | refine' ev_cb ?_ (rc_lenS ?_) | refine' ev_un ?_ ru_neg | refine' ev_op ?_ ?_ rv_isN | refine' ev_op ?_ ?_ rv_notN | refine' ev_op ?_ ?_ (rv_addS ?_)))
local macro_rules | `(tactic| tm_at "rr.ev") => `(tactic| ((repeat' tm_at "rr.step"); all_goals (try tm_at "rr.side")))
theorem ev_joinA {K : PySem.W.Frag} {σ : L2.St} {H : Hp} {p : Addr} {to te : TE} {a : Str} {ys : List Str} (h : Ev to σ H (.str a)) (h2 : Ev te σ H (.ref p)) (hp : SqL K H p (ys.map V.str)) (hz : (ys.map (·.length)).sum + ys.length * a.length ≤ 16777216) :
    Ev (tM1 (fun x xs H Q => ∃ a p, ∃ ys : List Str, x = .str a ∧ xs = [.ref p] ∧ (SqL K H p (ys.map V.str) ∨ SqT K H p (ys.map V.str)) ∧ (ys.map (·.length)).sum + ys.length * a.length ≤ 16777216 ∧ Q (.str (Txt.join a ys)) H) to te) σ H (.str (Txt.join a ys)) := fun H1 e Q q =>
  h H1 e _ fun H2 e2 => ⟨⟨a, rfl⟩, h2 H2 (e.trans e2) _ fun H3 e3 => ⟨a, p, ys, rfl, rfl, .inl (ex_l ((e.trans e2).trans e3) hp), hz, q H3 (e2.trans e3)⟩⟩
theorem ev_joinL {K : PySem.W.Frag} {σ : L2.St} {H : Hp} {to te : TE} {a : Str} {ys : List Str} (h : Ev to σ H (.str a)) (h2 : EvL te σ H (ys.map V.str)) (hz : (ys.map (·.length)).sum + ys.length * a.length ≤ 16777216) :
    Ev (tM1 (fun x xs H Q => ∃ a p, ∃ ys : List Str, x = .str a ∧ xs = [.ref p] ∧ (SqL K H p (ys.map V.str) ∨ SqT K H p (ys.map V.str)) ∧ (ys.map (·.length)).sum + ys.length * a.length ≤ 16777216 ∧ Q (.str (Txt.join a ys)) H) to te) σ H (.str (Txt.join a ys)) := fun H1 e Q q =>
  h H1 e _ fun H2 e2 => ⟨⟨a, rfl⟩, h2 H2 (e.trans e2) _ fun p H3 hp e3 h3 => ⟨a, p, ys, rfl, rfl, .inl (sq_of h3), hz, q H3 (e2.trans e3)⟩⟩
/-! ### lists of tuples -/
/-- at a: a list of tuples -/
structure Tups (K : PySem.W.Frag) (H : Hp) (a : Addr) (vss : List (List V)) (ts : List Addr) : Prop where
  l : SqL K H a (ts.map V.ref)
  n : ts.length = vss.length
  t : ∀ (i : Nat) (t : Addr) (vs : List V), ts[i]? = some t → vss[i]? = some vs → SqT K H t vs
section
variable {K : PySem.W.Frag} {σ : L2.St} {H H' : Hp} {tl : TE} {l t a : Addr} {vss : List (List V)} {ts : List Addr} {vs : List V} {ta : TA}
theorem Tups.ex (r : Tups K H a vss ts) (e : Ex H H') : Tups K H' a vss ts := ⟨ex_l e r.l, r.n, fun i t vs h1 h2 => ex_t e (r.t i t vs h1 h2)⟩
theorem Tups.at_ (r : Tups K H a vss ts) {i : Nat} (h : vss[i]? = some vs) : ∃ t, (ts.map V.ref)[i]? = some (.ref t) ∧ SqT K H t vs := by
  have hi := (List.getElem?_eq_some_iff.mp h).1
  have h1 : i < ts.length := by rw [r.n]; exact hi
  exact ⟨ts[i], by rw [List.getElem?_map, List.getElem?_eq_getElem h1]; rfl, r.t i _ _ (List.getElem?_eq_getElem h1) h⟩
theorem Tups.snoc (r : Tups K H l vss ts) (hl : H l = some (.lst (ts.map V.ref))) (e : Ex H H') (ht : H' t = some (.tup vs)) : Tups K (upd H' l (.lst (ts.map V.ref ++ [.ref t]))) l (vss ++ [vs]) (ts ++ [t]) := by
  have hl' := e _ _ hl
  refine ⟨?_, ?_, fun i t' q h1 h2 => ?_⟩
  · rw [List.map_append]
    exact sq_of upd_same
  · rw [List.length_append, List.length_append, r.n]
    rfl
  · by_cases hi : i < vss.length
    · rw [List.getElem?_append_left (by rw [r.n]; exact hi)] at h1
      rw [List.getElem?_append_left hi] at h2
      exact sqT_upd (ex_t e (r.t i t' q h1 h2)) hl'
    · rw [List.getElem?_append_right (by rw [r.n]; omega)] at h1
      rw [List.getElem?_append_right (by omega)] at h2
      rw [r.n] at h1
      have ei : i - vss.length = 0 := by
        have := (List.getElem?_eq_some_iff.mp h2).1
        simp at this
        omega
      rw [ei] at h1 h2
      cases h1
      cases h2
      exact sqT_upd (st_of ht) hl'
/-- a new list of tuples comes -/
def EvR (K : PySem.W.Frag) (te : TE) (σ : L2.St) (H : Hp) (vss : List (List V)) : Prop := ∀ H1, Ex H H1 → ∀ Q : VK, (∀ p H2 ts, H1 p = none → Ex H1 H2 → H2 p = some (.lst (ts.map V.ref)) → Tups K H2 p vss ts → Q (.ref p) H2) → te σ H1 Q
theorem er_lc {α : Type} {ps : List α} {uu : α → V} {j : Nat} {ws : List Nat} (w : α → List V) (h : Ev tl σ H (.ref a)) (hx : SqL K H a (ps.map uu)) (hz : ps.length ≤ 40000) (hw : ∀ x, wipe ((wipe σ ws).set j (some x)) ws = wipe σ ws)
    (hl : ∀ q ∈ ps, (w q).length ≤ 1000) (he : ∀ q ∈ ps, ∀ H1, Ex H H1 → EvA ta ((wipe σ ws).set j (some (uu q))) H1 (w q)) : EvR K (tLc (iList K tl) (gName j) tYes (tTup ta) ws) σ H (ps.map w) := fun H0 e Q q => h H0 e _ fun H1 e1 => ⟨a, rfl, ⟨_, ex_l (e.trans e1) hx⟩, fun Dl hD =>
  lc_list (xs := ps.map uu) (fun i H' => Ex H1 H' ∧ ∃ ts : List Addr, H' Dl = some (.lst (ts.map V.ref)) ∧ Tups K H' Dl ((ps.take i).map w) ts) ⟨Ex.new hD, [], upd_same, sq_of upd_same, rfl, fun i t vs h _ => by simp at h⟩ (fun i H' _ p => ex_l ((e.trans e1).trans p.1) hx)
    (fun i x H' hi ⟨p1, ts, p2, p3⟩ => ⟨hw x, by
      refine iteT (B := Ex H1 H' ∧ ∃ ts : List Addr, H' Dl = some (.lst (ts.map V.ref)) ∧ Tups K H' Dl ((ps.take (i + 1)).map w) ts) ?_
      rw [List.getElem?_map] at hi
      cases hq : ps[i]? with
      | none => rw [hq] at hi; cases hi
      | some r =>
        rw [hq] at hi
        cases hi
        have hm := List.mem_of_getElem? hq
        refine he r hm H1 (e.trans e1) H' p1 _ fun H3 e3 => ⟨sz_of (by have := hl r hm; omega), fun t ht => ?_⟩
        have hlt := (List.getElem?_eq_some_iff.mp hq).1
        have p4 : (upd H3 t (.tup (w r))) Dl = some (.lst (ts.map V.ref)) := by rw [upd_ne (ne_of_none (e3 _ _ p2) ht)]; exact e3 _ _ p2
        refine ⟨_, p4, sz_lt (by rw [List.length_map, p3.n, List.length_map]; have := List.length_take_le i ps; omega), Ex.mut ((p1.trans e3).trans (Ex.new ht)) hD, ts ++ [t], by rw [List.map_append]; exact upd_same, ?_⟩
        have e9 : (ps.take (i + 1)).map w = (ps.take i).map w ++ [w r] := by rw [List.take_succ, hq, List.map_append]; rfl
        rw [e9]
        exact p3.snoc p2 (e3.trans (Ex.new ht)) upd_same⟩)
    (fun H' ⟨p1, ts, p2, p3⟩ => q Dl H' ts (fresh_back e1 hD) (e1.trans p1) p2 (by rw [List.length_map, List.take_length] at p3; exact p3))⟩
end
/-! a method that may raise, called within a try: what is wished of the exception knows the names -/
def tMethS (C : Addr) (m : Str) (sp : Sp) (E : L2.St → XK) (ta : TE) (t : TA) : TE := fun σ H Q => ta σ H fun x H1 => ∃ a dx fs, x = .ref a ∧ H1 a = some (.ins C dx fs) ∧ fs.lookup m = none ∧ t σ H1 fun vs H2 => sp (.ref a :: vs) H2 Q (E σ)
theorem pe_methS {X : Cx} {CX : CXT} {k : Nat} {f C : Addr} {fd : FuncData} {ps : List Str} {sp : Sp} {E : L2.St → XK} {m : Str} {pos apos : Pos} {e o : Expr} {es : List Expr} {ta : TE} {t : TA} {pl : Sem Bool} (he : PE X o ta) (c : Cls X.K C) (hm : Meth X.K C m f) (F : FnOk X.prog X.w X.K X.mg X.base CX k f fd ps sp) (hr : Room k X.A) (hb : L2.Binds X.K fd ps []) (hx : ∀ σ, PassesAt CX X σ (E σ)) (ha : PA X (e :: es) t)
    (hst : starEach (e :: es) X.env = (false, eval e X.env) :: starEach es X.env := by rfl) (hpl : (backTo pos (starEach es X.env)).any (·.1) = false := by rfl)
    (ht : eval (.Call (.Attribute o m apos) (e :: es) [] pos) X.env = (do
      let ov ← eval o X.env
      standAt apos.atName
      let (f, first) ← holding [ov] (getMethod ov m pl)
      callWith pos f first (backTo pos (starEach (e :: es) X.env)) (backToKw pos (keywordEach [] X.env))) := by rfl) :
    PE X (.Call (.Attribute o m apos) (e :: es) [] pos) (tMethS C m sp E ta t) := by
  refine ⟨fun pins s σ H Q I h => ?_⟩
  refine PySem.W.methodCall_KW (pl := pl) (thn (he.run pins s σ H _ I h) fun u s1 ⟨x, H1, I1, rx, a, dx, fs, ex, ea, l, q⟩ => ?_) ht
  subst ex
  obtain rfl : u = Value.ref a := rx
  refine getmeth_ok I1 ea c hm l ?_
  refine PySem.W.callWith_K (first := [.ref a]) (h₀ := X.base) I.ok.mod.kin hm.kp (thn (ha.run pos pins s1 σ H1 _ I1 q) fun us s2 ⟨vs, H2, I2, r, q2⟩ => ⟨I2.kIn, ?_⟩) hst hpl
  exact run_fnS (us := .ref a :: us) (vs := .ref a :: vs) F hr hb (hx σ) I2 (.cons rfl r) q2
/-! a class made within a try, whose __init__ may raise -/
def tMakeS (C : Addr) (sp : Sp) (E : L2.St → XK) (t : TA) : TE := fun σ H Q => t σ H fun vs H1 => ∀ x dx, H1 x = none → H1 dx = none → dx ≠ x →
  sp (.ref x :: vs) (upd (upd H1 dx (.own x)) x (.ins C dx [])) (fun v H2 => v = .non ∧ Q (.ref x) H2) (E σ)
theorem run_makeS {X : Cx} {CX : CXT} {k : Nat} {f C : Addr} {fd : FuncData} {ps : List Str} {sp : Sp} {E : XK} {pins : List (Addr × Obj)} {σ : L2.St} {H : Hp} {s : Shared} {Q : VK} {us : List Value} {vs : List V} (M : Mk X.K C f) (F : FnOk X.prog X.w X.K X.mg X.base CX k f fd ps sp) (hr : Room (k + 1) X.A) (hb : L2.Binds X.K fd ps [])
    (hx : PassesAt CX X σ E) (I : Inv X pins σ H s) (r : Vals vs us) (h : ∀ x dx, H x = none → H dx = none → dx ≠ x → sp (.ref x :: vs) (upd (upd H dx (.own x)) x (.ins C dx [])) (fun v H2 => v = .non ∧ Q (.ref x) H2) E) :
    wpAny (model X.prog X.w) X.A (call (.ref C) us) (EP X pins σ Q) X.xe s := by
  have hq := h (s.heap.objs.size + 1) s.heap.objs.size (I.hok.fresh (Nat.le_succ _)) (I.hok.fresh (Nat.le_refl _)) (Nat.ne_of_lt (Nat.lt_succ_self _))
  have I2 := Inv.made (C := C) I
  have r2 : Vals (V.ref (s.heap.objs.size + 1) :: vs) (Value.ref (s.heap.objs.size + 1) :: us) := .cons rfl r
  have hl : (Value.ref (s.heap.objs.size + 1) :: us).length = ps.length := by
    have e := r2.length
    rw [F.len _ _ _ _ hq] at e
    exact e.symm
  have b := hb _ (Value.ref (s.heap.objs.size + 1) :: us) I2.kIn (by rw [List.append_nil]; exact hl)
  rw [List.append_nil] at b
  refine wpAny_call (make_map (f := f) I.kIn M.makes M.init (beq_iff_eq.mp M.fn) (codeAny_mono (F.run _ X.stack _ _ ⟨Value.ref (s.heap.objs.size + 1) :: us, []⟩ (Value.ref (s.heap.objs.size + 1) :: us) _ _ E (hr.make C us []) (I2.env0.make C us []) b r2 hq) fun r s' h2 => ?_))
  cases r with
  | error e => exact hx pins _ _ e s' I2 h2
  | ok fl =>
    cases fl with
    | ret u =>
      obtain ⟨v, H', I3, rv, ev, q3⟩ := I2.after h2
      subst ev
      exact ⟨rv, ⟨V.ref (s.heap.objs.size + 1), H', I3, rfl, q3⟩⟩
    | next => exact False.elim h2
    | brk => exact False.elim h2
    | cont => exact False.elim h2
theorem pe_makeS {X : Cx} {CX : CXT} {k : Nat} {f C : Addr} {fd : FuncData} {ps : List Str} {sp : Sp} {E : L2.St → XK} {x : Str} {p pos : Pos} {e : Expr} {es : List Expr} {t : TA} (M : Mk X.K C f) (F : FnOk X.prog X.w X.K X.mg X.base CX k f fd ps sp) (hr : Room (k + 1) X.A) (hg : Gl X x) (hm : X.mg x = some (.ref C)) (hb : L2.Binds X.K fd ps []) (hx : ∀ σ, PassesAt CX X σ (E σ))
    (ha : PA X (e :: es) t) (hdb : (x == ("__debug__" : Str)) = false := by decide) (he : starEach (e :: es) X.env = (false, eval e X.env) :: starEach es X.env := by rfl) (hpl : (backTo pos (starEach es X.env)).any (·.1) = false := by rfl) :
    PE X (.Call (.Name x p) (e :: es) [] pos) (tMakeS C sp E t) := by
  refine ⟨fun pins s σ H Q I h => ?_⟩
  refine wpAny_Call_Name_kw (ld_glob I hg hm ?_ hdb)
  refine PySem.W.callWith_K (h₀ := X.base) I.ok.mod.kin M.kp (thn (ha.run pos pins s σ H _ I h) fun us s1 ⟨vs, H1, I1, r, q⟩ => ⟨I1.kIn, ?_⟩) he hpl
  exact run_makeS M F hr hb (hx σ) I1 r q

/-! ### L_cell_at -/
theorem sc_L_cell_at : FnScope ["_law_script", "_law_k"] ["_law_script", "_law_k"] (defScope s_L_cell_at) := ⟨rfl, rfl, rfl, by decide +kernel, rfl, by decide +kernel, by decide +kernel⟩
def cellAt (ns : List Int) (k : Int) : Int := if k < (ns.length : Int) then ns.getD k.toNat 0 else 0
def sp_L_cell_at (K : PySem.W.Frag) : Sp := fun vs H Q _ => ∃ (a : Addr) (ns : List Int) (i : Int), vs = [.ref a, .int i] ∧ SqL K H a (ns.map V.int) ∧ 0 ≤ i ∧ RetV (.int (cellAt ns i)) H Q
theorem cv_L_cell_at {K : PySem.W.Frag} {H : Hp} {a : Addr} {ns : List Int} {i : Int} (h : SqL K H a (ns.map V.int)) (h0 : 0 ≤ i) : SpV (sp_L_cell_at K) ([.ref a, .int i] ++ []) H (.int (cellAt ns i)) :=
  spv_call fun _ e _ _ k => ⟨a, ns, i, rfl, ex_l e h, h0, k⟩
local macro_rules | `(tactic| tm_at "rr.cv") => `(tactic| refine' cv_L_cell_at (by assumption) ?_)
theorem ok_L_cell_at {P : Program} {w : World} {K : PySem.W.Frag} {mg : Str → Option Value} {base : Heap} (T : Txt K mg) : ∃ fd, FnOk P w K mg base (CX0) 1 (He.ga K "_law_cell_at") fd ["_law_script", "_law_k"] (sp_L_cell_at K) ∧ Binds K fd ["_law_script", "_law_k"] [] ∧ FunD K "_law_cell_at" "_law_cell_at" (defArgs s_L_cell_at) (defBody s_L_cell_at) (defScope s_L_cell_at) [] [] (He.ga K "_law_cell_at") fd := by
  obtain ⟨fd, F⟩ := f_L_cell_at T
  refine ⟨fd, ok0 F sc_L_cell_at (fun vs H Q E h => ?_) (fun cdv A outer s H vs Q E hr h => ?_), FunD.bindsN F fun _ _ _ _ _ _ us hl => match us, hl with | [_, _], _ => rfl, F⟩
  · (repeat (obtain ⟨_, h⟩ := h)); subst_vars; rfl
  · obtain ⟨a, ns, i, rfl, hS, h0, k⟩ := h
    refine ⟨_, (pss_cons (ps_if (pt_cmpR op_lt (pv 1) (pe_callB (call_lenK (K := K) rfl) rfl (b_len T) (by decide +kernel) (pa_cons (pv 0) pa_nil)) (nomark _)) (pss_one (ps_ret (pe_ix (ix_listK (K := K) rfl) (pv 0) (pv 1) (fun _ _ => rfl))))
        pss_nil)
        (pss_one (ps_ret pe_int))), ?_⟩
    refine q_when (et_test (ev_op (ev_var rfl) (ev_cb (ea_cons (ev_var rfl) ea_nil) (rc_lenS hS)) rv_I0)) (fun hb H1 e1 => ?_) (fun hb H1 e1 => ?_)
    · have hlt : i < ((ns.map V.int).length : Int) := of_decide_eq_true hb
      rw [List.length_map] at hlt
      have ev : cellAt ns i = ns.getD i.toNat 0 := if_pos hlt
      have hv : atI (ns.map V.int) i = some (.int (cellAt ns i)) := by
        rw [ev]
        refine at_of (j := i.toNat) (by omega) ?_
        rw [List.getElem?_map, List.getD_eq_getElem?_getD]
        have : i.toNat < ns.length := by omega
        rw [List.getElem?_eq_getElem this] <;> rfl
      exact s_ret (ev_op (ev_var rfl) (ev_var rfl) (rv_ixL (ex_l e1 hS) hv)) fun H2 e2 => k H2 (e1.trans e2)
    · have hlt : ¬ i < ((ns.map V.int).length : Int) := of_decide_eq_false hb
      rw [List.length_map] at hlt
      have ev : cellAt ns i = 0 := if_neg hlt
      rw [ev] at k
      exact s_ret ev_c fun H2 e2 => k H2 (e1.trans e2)
def mix (c p m : Int) : Int := c * 48271 % p % m
theorem mix_nonneg {c p m : Int} (h : 0 < m) : 0 ≤ mix c p m := Int.emod_nonneg _ (by omega)
theorem mix_lt {c p m : Int} (h : 0 < m) : mix c p m < m := Int.emod_lt_of_pos _ h
theorem et_mix0 {σ : L2.St} {H : Hp} {te : TE} {x : Int} {a : Int} (h : Ev te σ H (.int x)) : EvT (tTest (tOp rEq te (tC (.int a)))) σ H (decide (x = a)) := et_is (et_test (ev_op h ev_c (rv_eq rfl))) (decide_eq_decide.mpr ⟨fun h => by injection h, fun h => by rw [h]⟩)
theorem pick4 {a b c d : V} {i : Int} (h0 : 0 ≤ i) (h4 : i < 4) : atI [a, b, c, d] i = some (match i.toNat with | 0 => a | 1 => b | 2 => c | _ => d) := by
  have : i = 0 ∨ i = 1 ∨ i = 2 ∨ i = 3 := by omega
  rcases this with rfl | rfl | rfl | rfl <;> rfl
def ag (p : Int) (q : Int × Int) : Int := q.1 + q.2 / p
def fstep (p : Int) (qs : List (Int × Int)) (s : Option Nat × Int) (k : Nat) : Option Nat × Int := if s.1 = none ∨ s.2 < ag p (qs.getD k (0, 0)) then (some k, ag p (qs.getD k (0, 0))) else s
def fstate (p : Int) (qs : List (Int × Int)) (n : Nat) : Option Nat × Int := (List.range n).foldl (fstep p qs) (none, 0)
def firstIdx (p : Int) (qs : List (Int × Int)) : Option Nat := (fstate p qs qs.length).1
theorem fstate_succ (p : Int) (qs : List (Int × Int)) (n : Nat) : fstate p qs (n + 1) = fstep p qs (fstate p qs n) n := by
  unfold fstate
  rw [List.range_succ, List.foldl_append]
  rfl
/-- the place that is chosen: a greatest one, greater than all ahead -/
def IsFirst (p : Int) (qs : List (Int × Int)) : Option Nat → Prop
  | none => qs = []
  | some j => j < qs.length ∧ ∀ i, i < qs.length → ag p (qs.getD i (0, 0)) ≤ ag p (qs.getD j (0, 0)) ∧ (i < j → ag p (qs.getD i (0, 0)) < ag p (qs.getD j (0, 0)))
theorem fstate_is (p : Int) (qs : List (Int × Int)) (n : Nat) : match (fstate p qs n).1 with
    | none => n = 0
    | some j => j < n ∧ (fstate p qs n).2 = ag p (qs.getD j (0, 0)) ∧ ∀ i, i < n → ag p (qs.getD i (0, 0)) ≤ ag p (qs.getD j (0, 0)) ∧ (i < j → ag p (qs.getD i (0, 0)) < ag p (qs.getD j (0, 0))) := by
  induction n with
  | zero => rfl
  | succ n ih =>
    rw [fstate_succ]
    unfold fstep
    by_cases c : (fstate p qs n).1 = none ∨ (fstate p qs n).2 < ag p (qs.getD n (0, 0))
    · rw [if_pos c]
      refine ⟨Nat.lt_succ_self n, rfl, fun i hi => ?_⟩
      by_cases e : i = n
      · subst e
        exact ⟨Int.le_refl _, fun h => absurd h (Nat.lt_irrefl _)⟩
      · have hin : i < n := by omega
        have key : ag p (qs.getD i (0, 0)) < ag p (qs.getD n (0, 0)) := by
          cases e1 : (fstate p qs n).1 with
          | none =>
            rw [e1] at ih
            dsimp only at ih
            omega
          | some j =>
            rw [e1] at ih c
            obtain ⟨_, h2, h3⟩ := ih
            rcases c with c | c
            · cases c
            · rw [h2] at c
              have := (h3 i hin).1
              omega
        exact ⟨Int.le_of_lt key, fun _ => key⟩
    · rw [if_neg c]
      cases e1 : (fstate p qs n).1 with
      | none => exact absurd (.inl e1) c
      | some j =>
        rw [e1] at ih
        obtain ⟨h1, h2, h3⟩ := ih
        refine ⟨by omega, h2, fun i hi => ?_⟩
        by_cases e : i = n
        · subst e
          have : ¬ (fstate p qs i).2 < ag p (qs.getD i (0, 0)) := fun h => c (.inr h)
          rw [h2] at this
          exact ⟨by omega, fun h => by omega⟩
        · exact h3 i (by omega)
theorem firstIdx_is (p : Int) (qs : List (Int × Int)) : IsFirst p qs (firstIdx p qs) := by
  have h := fstate_is p qs qs.length
  unfold firstIdx
  cases e : (fstate p qs qs.length).1 with
  | none =>
    rw [e] at h
    exact List.length_eq_zero_iff.mp h
  | some j =>
    rw [e] at h
    exact ⟨h.1, h.2.2⟩
def optV : Option Nat → V
  | none => .non
  | some j => .int (j : Int)
/-- at a: a list of pairs -/
structure Rows (K : PySem.W.Frag) (H : Hp) (a : Addr) (qs : List (Int × Int)) (ts : List Addr) : Prop where
  l : SqL K H a (ts.map V.ref)
  n : ts.length = qs.length
  t : ∀ (i : Nat) (t : Addr) (q : Int × Int), ts[i]? = some t → qs[i]? = some q → SqT K H t [.int q.1, .int q.2]
theorem Rows.ex {K : PySem.W.Frag} {H H' : Hp} {a : Addr} {qs : List (Int × Int)} {ts : List Addr} (e : Ex H H') (r : Rows K H a qs ts) : Rows K H' a qs ts := ⟨ex_l e r.l, r.n, fun i t q h1 h2 => ex_t e (r.t i t q h1 h2)⟩
theorem Rows.at_ {K : PySem.W.Frag} {H : Hp} {a : Addr} {qs : List (Int × Int)} {ts : List Addr} (r : Rows K H a qs ts) {i : Nat} (hi : i < qs.length) : ∃ t, (ts.map V.ref)[i]? = some (.ref t) ∧ SqT K H t [.int (qs.getD i (0, 0)).1, .int (qs.getD i (0, 0)).2] := by
  have h1 : i < ts.length := by rw [r.n]; exact hi
  refine ⟨ts[i], by rw [List.getElem?_map, List.getElem?_eq_getElem h1]; rfl, ?_⟩
  have e : qs.getD i (0, 0) = qs[i] := by rw [List.getD_eq_getElem?_getD, List.getElem?_eq_getElem hi]; rfl
  rw [e]
  exact r.t i _ _ (List.getElem?_eq_getElem h1) (List.getElem?_eq_getElem hi)
theorem Rows.snoc {K : PySem.W.Frag} {H H' : Hp} {l t : Addr} {qs : List (Int × Int)} {ts : List Addr} {a b : Int} (r : Rows K H l qs ts) (hl : H l = some (.lst (ts.map V.ref))) (e : Ex H H') (ht : H' t = some (.tup [.int a, .int b])) :
    Rows K (upd H' l (.lst (ts.map V.ref ++ [.ref t]))) l (qs ++ [(a, b)]) (ts ++ [t]) := by
  have hl' := e _ _ hl
  refine ⟨?_, ?_, fun i t' q h1 h2 => ?_⟩
  · rw [List.map_append]
    exact sq_of upd_same
  · rw [List.length_append, List.length_append, r.n]
    rfl
  · by_cases hi : i < qs.length
    · rw [List.getElem?_append_left (by rw [r.n]; exact hi)] at h1
      rw [List.getElem?_append_left hi] at h2
      exact sqT_upd (ex_t e (r.t i t' q h1 h2)) hl'
    · rw [List.getElem?_append_right (by rw [r.n]; omega)] at h1
      rw [List.getElem?_append_right (by omega)] at h2
      rw [r.n] at h1
      have ei : i - qs.length = 0 := by
        have := (List.getElem?_eq_some_iff.mp h2).1
        simp at this
        omega
      rw [ei] at h1 h2
      cases h1
      cases h2
      exact sqT_upd (st_of ht) hl'
theorem depth2 (qs : List (Int × Int)) : (PyData.canLayAll0 (qs.map fun q => PyData.tuple [.int q.1, .int q.2]) = true) ∧ PyData.depthAll (qs.map fun q => PyData.tuple [.int q.1, .int q.2]) ≤ 1 := by
  induction qs with
  | nil => exact ⟨rfl, by decide⟩
  | cons q qs ih =>
    refine ⟨?_, ?_⟩
    · simp only [List.map_cons, PyData.canLayAll0, PyData.canLay0, ih.1, Bool.and_self]
    · have := ih.2
      simp only [List.map_cons, PyData.depthAll, PyData.depth]
      omega
theorem Rows.dp {K : PySem.W.Frag} {H : Hp} {a : Addr} {qs : List (Int × Int)} {ts : List Addr} (r : Rows K H a qs ts) : Dp K H (.ref a) (.list (qs.map fun q => PyData.tuple [.int q.1, .int q.2])) := by
  refine .lst r.l ?_
  have n := r.n
  have t := r.t
  clear r
  induction qs generalizing ts with
  | nil =>
    have e : ts = [] := List.length_eq_zero_iff.mp n
    rw [e]
    exact .nil
  | cons q qs ih =>
    cases ts with
    | nil => cases n
    | cons t0 ts =>
      refine .cons (.tup (t 0 t0 q rfl rfl) (.cons (.int _) (.cons (.int _) .nil))) (ih (by simpa using n) fun i t' q' h1 h2 => t (i + 1) t' q' (by simpa using h1) (by simpa using h2))
theorem rv_neRows {K : PySem.W.Frag} {H : Hp} {a b : Addr} {qs : List (Int × Int)} {ts ts' : List Addr} (r : Rows K H a qs ts) (r' : Rows K H b qs ts') : RV (rNeD K) (.ref a) (.ref b) H (.bl false) := fun H1 e Q q => by
  have hs : SeqAt.shaped (.list (qs.map fun q => PyData.tuple [.int q.1, .int q.2])) = true := by
    unfold SeqAt.shaped
    have := depth2 qs
    refine Bool.and_eq_true_iff.mpr ⟨this.1, decide_eq_true ?_⟩
    simp only [PyData.depth]
    omega
  refine ⟨_, _, (r.ex e).dp, (r'.ex e).dp, hs, hs, ?_⟩
  rw [SeqAt.eqv_refl _ (Bool.and_eq_true_iff.mp hs).1]
  exact q H1 (Ex.refl H1)
abbrev figsS : Str := "0123456789"
abbrev signsS : Str := "abcdefghijklmnopqrstuvwxyz0123456789"
def isSign (c : Nat) : Bool := decide (c ∈ signsS.cps.toList)
def isName (s : Str) : Bool := decide (1 ≤ s.length) && decide (s.length ≤ 12) && s.cps.toList.all isSign
theorem len_app (a b : Str) : (a ++ b).length = a.length + b.length := by rw [TL.len_tl, TL.tl_append, List.length_append, ← TL.len_tl, ← TL.len_tl]
theorem joinL_nil : ∀ ps : List (List Nat), TL.joinL [] ps = ps.flatten
  | [] => rfl
  | [p] => by simp [TL.joinL]
  | p :: q :: r => by
    show p ++ ([] ++ TL.joinL [] (q :: r)) = _
    rw [joinL_nil (q :: r)]
    rfl
theorem isName_len {s : Str} (h : isName s = true) : 1 ≤ s.length ∧ s.length ≤ 12 := by
  unfold isName at h
  rw [Bool.and_eq_true, Bool.and_eq_true] at h
  exact ⟨of_decide_eq_true h.1.1, of_decide_eq_true h.1.2⟩
/-- a loop over a text's signs -/
theorem q_forS {K : PySem.W.Frag} {σ : L2.St} {H : Hp} {te : TE} {tu tz : TS} {D : Ends} {j : Nat} {x : Str} (h : Ev te σ H (.str x)) (Pv : Nat → L2.St → Hp → Prop) (h0 : ∀ H1, Ex H H1 → Pv 0 σ H1)
    (hs : ∀ i c σ' H', x.cps.toList[i]? = some c → Pv i σ' H' → tu { D with nx := Pv (i + 1), ct := Pv (i + 1), bk := tz D } (σ'.set j (some (.str ⟨#[c]⟩))) H') (hd : ∀ σ' H', Pv x.length σ' H' → tz D σ' H') : tSeq (tFor (iStr te) (gName j) tu) tz D σ H :=
  h H (Ex.refl H) _ fun H1 e => ⟨x, rfl, fun i m σ' H' => m = x.length - i ∧ i ≤ x.length ∧ Pv i σ' H', ⟨_, rfl, Nat.zero_le _, h0 H1 e⟩, by
    rintro i m σ' H' ⟨rfl, hi, p⟩
    by_cases hlt : i < x.length
    · refine .inr ⟨hlt, Pv (i + 1), fun σ2 H2 p2 => ⟨_, by omega, rfl, hlt, p2⟩, fun v H2 y => ?_⟩
      obtain ⟨e2, c, hc, ev⟩ := y
      subst e2 ev
      exact hs i c σ' _ (by rw [Array.getElem?_toList]; exact hc) p
    · have e2 : i = x.length := by omega
      subst e2
      exact .inl ⟨Nat.le_refl _, hd _ _ p⟩⟩
theorem rv_notInS {c : Nat} {z : Str} {H : Hp} : RV (fun x y H Q => ∃ (c : Nat) (z : Str), x = .str ⟨#[c]⟩ ∧ y = .str z ∧ Q (.bl (!decide (c ∈ z.cps.toList))) H) (.str ⟨#[c]⟩) (.str z) H (.bl (!decide (c ∈ z.cps.toList))) := fun H1 _ Q q => ⟨c, z, rfl, rfl, q H1 (Ex.refl H1)⟩
/-! ### the desk: plain data, and how the heap bears it -/
inductive Md where
  | rdy (s : Int) | slp (t : Int) | wtg (b : Str)
  deriving DecidableEq
structure Cl where
  nm : Str
  rk : Int
  md : Md
  deriving DecidableEq
structure Dk where
  pace : Int
  room : Int
  now : Int
  line : List Cl
def Md.st : Md → Str
  | .rdy _ => "ready"
  | .slp _ => "asleep"
  | .wtg _ => "waiting"
def Md.mark : Md → V
  | .rdy s => .int s
  | .slp t => .int t
  | .wtg b => .str b
def Md.isR : Md → Bool
  | .rdy _ => true
  | _ => false
def Md.isS : Md → Bool
  | .slp _ => true
  | _ => false
def Md.isW : Md → Bool
  | .wtg _ => true
  | _ => false
def Md.since : Md → Int
  | .rdy s => s
  | _ => 0
theorem mark_rdy {m : Md} (h : m.isR = true) : m.mark = .int m.since := by
  cases m with
  | rdy s => rfl
  | slp s => cases h
  | wtg s => cases h
def optS : Option Str → V
  | none => .non
  | some s => .str s
theorem st_ready : ∀ m : Md, decide (m.st = "ready") = m.isR
  | .rdy _ => (by decide +kernel : decide (("ready" : Str) = "ready") = true)
  | .slp _ => (by decide +kernel : decide (("asleep" : Str) = "ready") = false)
  | .wtg _ => (by decide +kernel : decide (("waiting" : Str) = "ready") = false)
theorem st_asleep : ∀ m : Md, decide (m.st = "asleep") = m.isS
  | .rdy _ => (by decide +kernel : decide (("ready" : Str) = "asleep") = false)
  | .slp _ => (by decide +kernel : decide (("asleep" : Str) = "asleep") = true)
  | .wtg _ => (by decide +kernel : decide (("waiting" : Str) = "asleep") = false)
theorem st_waiting : ∀ m : Md, decide (m.st = "waiting") = m.isW
  | .rdy _ => (by decide +kernel : decide (("ready" : Str) = "waiting") = false)
  | .slp _ => (by decide +kernel : decide (("asleep" : Str) = "waiting") = false)
  | .wtg _ => (by decide +kernel : decide (("waiting" : Str) = "waiting") = true)
def rfs (l g s m : V) : List (Str × V) := [("label", l), ("grade", g), ("stand", s), ("mark", m)]
def cfs (c : Cl) : List (Str × V) := rfs (.str c.nm) (.int c.rk) (.str c.md.st) c.md.mark
def dfs (d : Dk) (l : Addr) : List (Str × V) := [("pace", .int d.pace), ("room", .int d.room), ("now", .int d.now), ("line", .ref l)]
abbrev aC (K : PySem.W.Frag) : Addr := He.ga K "Caller"
abbrev aD (K : PySem.W.Frag) : Addr := He.ga K "Desk"
theorem ins_ne {C C' dx dx' l : Addr} {d : Dk} {a g s m : V} : HO.ins C dx (dfs d l) ≠ HO.ins C' dx' (rfs a g s m) := by
  intro q
  have h : dfs d l = rfs a g s m := by injection q
  have h2 : (("pace" : Str), V.int d.pace) = (("label" : Str), a) := (List.cons.inj h).1
  have h3 : ("pace" : Str) = "label" := congrArg (·.1) h2
  exact absurd h3 (by decide +kernel)
def CAt (K : PySem.W.Frag) (H : Hp) (a : Addr) (c : Cl) : Prop := ∃ dx, H a = some (.ins (aC K) dx (cfs c))
abbrev Pr : Type := Addr × Cl
/-- a desk at p, its line at l, its callers with their addresses -/
structure DkAt (K : PySem.W.Frag) (H : Hp) (p : Addr) (d : Dk) (l : Addr) (ps : List Pr) : Prop where
  ob : ∃ dx, H p = some (.ins (aD K) dx (dfs d l))
  ln : H l = some (.lst (ps.map fun q => V.ref q.1))
  eq : d.line = ps.map (·.2)
  at_ : ∀ q ∈ ps, CAt K H q.1 q.2
/-- what stands beside the desk, all kept -/
structure Fr (F H : Hp) (p l : Addr) (ps : List Pr) : Prop where
  ex : Ex F H
  p0 : F p = none
  l0 : F l = none
  c0 : ∀ q ∈ ps, F q.1 = none
def DeskAt (K : PySem.W.Frag) (F H : Hp) (p : Addr) (d : Dk) : Prop := ∃ l ps, DkAt K H p d l ps ∧ Fr F H p l ps
def MdOk (now : Int) : Md → Prop
  | .rdy s => 0 ≤ s ∧ s ≤ now
  | .slp t => now < t ∧ t ≤ now + 1000
  | .wtg b => isName b = true
def ClOk (now : Int) (c : Cl) : Prop := isName c.nm = true ∧ 0 ≤ c.rk ∧ c.rk ≤ 99 ∧ MdOk now c.md
structure Dk.Ok (d : Dk) : Prop where
  p1 : 1 ≤ d.pace
  p2 : d.pace ≤ 1000
  r1 : 1 ≤ d.room
  r2 : d.room ≤ 60
  n0 : 0 ≤ d.now
  len : (d.line.length : Int) ≤ d.room
  nd : (d.line.map (·.nm)).Nodup
  cl : ∀ c ∈ d.line, ClOk d.now c
theorem Dk.Ok.len60 {d : Dk} (h : d.Ok) : d.line.length ≤ 60 := by have := h.len; have := h.r2; omega
section
variable {K : PySem.W.Frag} {F H H' H1 : Hp} {p l a q : Addr} {d : Dk} {ps : List Pr} {c : Cl}
theorem CAt.ex (h : CAt K H a c) (e : Ex H H') : CAt K H' a c := let ⟨dx, h⟩ := h; ⟨dx, e _ _ h⟩
theorem DkAt.ex (h : DkAt K H p d l ps) (e : Ex H H') : DkAt K H' p d l ps := ⟨let ⟨dx, h⟩ := h.ob; ⟨dx, e _ _ h⟩, e _ _ h.ln, h.eq, fun q hq => (h.at_ q hq).ex e⟩
theorem Fr.mono (h : Fr F H p l ps) (e : Ex H H') : Fr F H' p l ps := ⟨h.ex.trans e, h.p0, h.l0, h.c0⟩
theorem DeskAt.ex (h : DeskAt K F H p d) (e : Ex H H') : DeskAt K F H' p d := let ⟨l, ps, a, b⟩ := h; ⟨l, ps, a.ex e, b.mono e⟩
theorem DeskAt.fr (h : DeskAt K F H p d) : Ex F H := let ⟨_, _, _, b⟩ := h; b.ex
theorem DkAt.len (h : DkAt K H p d l ps) : ps.length = d.line.length := by rw [h.eq, List.length_map]
/-- a new object joins what stands beside -/
theorem Fr.new {o : HO} (f : Fr F H p l ps) (h : DkAt K H p d l ps) (hq : H q = none) (e : Ex H H1) (h1 : H1 q = some o) : Fr (upd F q o) H1 p l ps := by
  have ne : ∀ b u, H b = some u → b ≠ q := fun b u hb => ne_of_none hb hq
  obtain ⟨dx, hp⟩ := h.ob
  refine ⟨fun b u hb => ?_, by rw [upd_ne (ne _ _ hp)]; exact f.p0, by rw [upd_ne (ne _ _ h.ln)]; exact f.l0, fun r hr => ?_⟩
  · by_cases hbq : b = q
    · rw [hbq, upd_same] at hb
      rw [hbq, h1, hb]
    · rw [upd_ne hbq] at hb
      exact e _ _ (f.ex _ _ hb)
  · obtain ⟨dc, hc⟩ := h.at_ r hr
    rw [upd_ne (ne _ _ hc)]
    exact f.c0 r hr
theorem DeskAt.new {o : HO} (h : DeskAt K F H p d) (hq : H q = none) (e : Ex H H1) (h1 : H1 q = some o) : DeskAt K (upd F q o) H1 p d := let ⟨l, ps, a, b⟩ := h; ⟨l, ps, a.ex e, b.new a hq e h1⟩
/-- an object beside the desk is written -/
theorem Fr.set {o u : HO} (f : Fr F H p l ps) (h : DkAt K H p d l ps) (hq : F q = some o) : Fr (upd F q u) (upd H q u) p l ps ∧ DkAt K (upd H q u) p d l ps := by
  have np : p ≠ q := fun e => by have := f.p0; rw [e, hq] at this; cases this
  have nl : l ≠ q := fun e => by have := f.l0; rw [e, hq] at this; cases this
  have nc : ∀ r ∈ ps, r.1 ≠ q := fun r hr e => by have := f.c0 r hr; rw [e, hq] at this; cases this
  refine ⟨⟨fun b v hb => ?_, by rw [upd_ne np]; exact f.p0, by rw [upd_ne nl]; exact f.l0, fun r hr => by rw [upd_ne (nc r hr)]; exact f.c0 r hr⟩, ⟨?_, by rw [upd_ne nl]; exact h.ln, h.eq, fun r hr => ?_⟩⟩
  · by_cases hbq : b = q
    · rw [hbq, upd_same] at hb ⊢
      exact hb
    · rw [upd_ne hbq] at hb ⊢
      exact f.ex _ _ hb
  · obtain ⟨dx, hp⟩ := h.ob
    exact ⟨dx, by rw [upd_ne np]; exact hp⟩
  · obtain ⟨dc, hc⟩ := h.at_ r hr
    exact ⟨dc, by rw [upd_ne (nc r hr)]; exact hc⟩
theorem DeskAt.set {o u : HO} (h : DeskAt K F H p d) (hq : F q = some o) : DeskAt K (upd F q u) (upd H q u) p d := let ⟨l, ps, a, b⟩ := h; ⟨l, ps, (b.set a hq).2, (b.set a hq).1⟩
theorem DkAt.mem_nm (h : DkAt K H p d l ps) {r r' : Pr} (h1 : r ∈ ps) (h2 : r' ∈ ps) (e : r.1 = r'.1) : r.2.nm = r'.2.nm := by
  obtain ⟨d1, e1⟩ := h.at_ r h1
  obtain ⟨d2, e2⟩ := h.at_ r' h2
  rw [e, e2] at e1
  have q := Option.some.inj e1
  have h : cfs r'.2 = cfs r.2 := by injection q
  have h2 : (("label" : Str), V.str r'.2.nm) = (("label" : Str), V.str r.2.nm) := (List.cons.inj h).1
  exact (V.str.inj (congrArg (·.2) h2)).symm
theorem nodup_pr {ps : List Pr} (h : (ps.map fun q => q.2.nm).Nodup) {r r' : Pr} (h1 : r ∈ ps) (h2 : r' ∈ ps) (e : r.2.nm = r'.2.nm) : r = r' := by
  induction ps with
  | nil => cases h1
  | cons q ps ih =>
    rw [List.map_cons, List.nodup_cons] at h
    rcases List.mem_cons.mp h1 with rfl | h1'
    · rcases List.mem_cons.mp h2 with rfl | h2'
      · rfl
      · exact absurd (e ▸ List.mem_map.mpr ⟨r', h2', rfl⟩) h.1
    · rcases List.mem_cons.mp h2 with rfl | h2'
      · exact absurd (e ▸ List.mem_map.mpr ⟨r, h1', rfl⟩) h.1
      · exact ih h.2 h1' h2'
theorem DkAt.nd (h : DkAt K H p d l ps) (o : (d.line.map (·.nm)).Nodup) : (ps.map fun q => q.2.nm).Nodup := by
  rw [h.eq, List.map_map] at o
  exact o
end
def putC (L : List Cl) (c : Cl) : List Cl := L.filter (fun o => !decide (o.nm = c.nm)) ++ [c]
def putP (ps : List Pr) (q : Pr) : List Pr := ps.filter (fun o => !decide (o.2.nm = q.2.nm)) ++ [q]
theorem putP_mem {ps : List Pr} {q r : Pr} (h : r ∈ ps) (n : r.2.nm ≠ q.2.nm) : r ∈ putP ps q := List.mem_append_left _ (List.mem_filter.mpr ⟨h, by simp [n]⟩)
theorem putP_self {ps : List Pr} {q : Pr} : q ∈ putP ps q := List.mem_append_right _ (List.mem_singleton.mpr rfl)
theorem putP_line (ps : List Pr) (q : Pr) : (putP ps q).map (·.2) = putC (ps.map (·.2)) q.2 := by
  unfold putP putC
  rw [List.map_append, List.filter_map]
  rfl
def Dk.put (d : Dk) (c : Cl) : Dk := { d with line := putC d.line c }
structure Dk.Wf (d : Dk) : Prop where
  p1 : 1 ≤ d.pace
  p2 : d.pace ≤ 1000
  len : d.line.length ≤ 60
  nd : (d.line.map (·.nm)).Nodup
theorem Dk.Ok.wf {d : Dk} (h : d.Ok) : d.Wf := ⟨h.p1, h.p2, h.len60, h.nd⟩
theorem putC_mem {L : List Cl} {c x : Cl} : x ∈ putC L c ↔ (x ∈ L ∧ x.nm ≠ c.nm) ∨ x = c := by
  unfold putC
  rw [List.mem_append, List.mem_filter, List.mem_singleton]
  simp
theorem putC_len {L : List Cl} {c c0 : Cl} (nd : (L.map (·.nm)).Nodup) (h0 : c0 ∈ L) (e : c0.nm = c.nm) : (putC L c).length = L.length := by
  unfold putC
  rw [List.length_append, List.length_singleton]
  induction L with
  | nil => cases h0
  | cons x L ih =>
    rw [List.map_cons, List.nodup_cons] at nd
    by_cases hx : x.nm = c.nm
    · rw [List.filter_cons, if_neg (by simp [hx])]
      have : L.filter (fun o => !decide (o.nm = c.nm)) = L := List.filter_eq_self.mpr fun o ho => by
        have : o.nm ≠ c.nm := fun q => nd.1 (by rw [hx, ← q]; exact List.mem_map.mpr ⟨o, ho, rfl⟩)
        simp [this]
      rw [this, List.length_cons]
    · rw [List.filter_cons, if_pos (by simp [hx]), List.length_cons, List.length_cons]
      rcases List.mem_cons.mp h0 with rfl | h0
      · exact absurd e hx
      · have := ih nd.2 h0
        omega
theorem filter_nodup {L : List Cl} {g : Cl → Bool} (nd : (L.map (·.nm)).Nodup) : ((L.filter g).map (·.nm)).Nodup := (List.filter_sublist.map _).nodup nd
theorem putC_nd {L : List Cl} {c : Cl} (nd : (L.map (·.nm)).Nodup) : ((putC L c).map (·.nm)).Nodup := by
  unfold putC
  rw [List.map_append, List.nodup_append]
  refine ⟨filter_nodup nd, by simp, fun a ha b hb => ?_⟩
  obtain ⟨x, hx, rfl⟩ := List.mem_map.mp ha
  have hx := (List.mem_filter.mp hx).2
  simp at hb hx
  rw [hb]
  exact hx
theorem Dk.Wf.put {d : Dk} (h : d.Wf) {c c0 : Cl} (h0 : c0 ∈ d.line) (e : c0.nm = c.nm) : (d.put c).Wf := ⟨h.p1, h.p2, by show (putC d.line c).length ≤ 60; rw [putC_len h.nd h0 e]; exact h.len, putC_nd h.nd⟩
theorem Dk.Ok.put {d : Dk} (ok : d.Ok) {c : Cl} {md : Md} (hc : c ∈ d.line) (hm : MdOk d.now md) : (d.put ⟨c.nm, c.rk, md⟩).Ok := by
  have hl : (putC d.line ⟨c.nm, c.rk, md⟩).length = d.line.length := putC_len ok.nd hc rfl
  refine ⟨ok.p1, ok.p2, ok.r1, ok.r2, ok.n0, by show ((putC d.line _).length : Int) ≤ d.room; rw [hl]; exact ok.len, putC_nd ok.nd, fun x hx => ?_⟩
  rcases putC_mem.mp hx with ⟨h, _⟩ | rfl
  · exact ok.cl x h
  · have := ok.cl c hc
    exact ⟨this.1, this.2.1, this.2.2.1, hm⟩
theorem nm_inj {L : List Cl} (nd : (L.map (·.nm)).Nodup) {a b : Cl} (ha : a ∈ L) (hb : b ∈ L) (e : a.nm = b.nm) : a = b := by
  induction L with
  | nil => cases ha
  | cons x L ih =>
    rw [List.map_cons, List.nodup_cons] at nd
    rcases List.mem_cons.mp ha with rfl | ha'
    · rcases List.mem_cons.mp hb with rfl | hb'
      · rfl
      · exact absurd (e ▸ List.mem_map.mpr ⟨b, hb', rfl⟩) nd.1
    · rcases List.mem_cons.mp hb with rfl | hb'
      · exact absurd (e ▸ List.mem_map.mpr ⟨a, ha', rfl⟩) nd.1
      · exact ih nd.2 ha' hb'
/-- the caller of a name -/
def Dk.get (d : Dk) (nm : Str) : Option Cl := d.line.find? fun c => decide (c.nm = nm)
def enterErr (d : Dk) (nm : Str) (rk : Int) : Option Str :=
  if isName nm = false then some "NoName" else if rk < 0 ∨ 99 < rk then some "NoRank" else if nm ∈ d.line.map (·.nm) then some "Known" else if d.room ≤ (d.line.length : Int) then some "Full" else none
def Dk.enter (d : Dk) (nm : Str) (rk : Int) : Dk := { d with line := d.line ++ [⟨nm, rk, .rdy d.now⟩] }
def Dk.leave (d : Dk) (nm : Str) : Dk := { d with line := d.line.filter fun o => !decide (o.nm = nm) }
def sleepErr (d : Dk) (nm : Str) (m : Int) : Option Str := match d.get nm with
  | none => some "Unknown"
  | some c => if m < 1 ∨ 1000 < m then some "NoSpan" else if c.md.isR = true then none else some "NotReady"
def waitErr (d : Dk) (nm b : Str) : Option Str := match d.get nm with
  | none => some "Unknown"
  | some c => if isName b = false then some "NoName" else if c.md.isR = true then none else some "NotReady"
def wakeErr (d : Dk) (nm : Str) : Option Str := match d.get nm with
  | none => some "Unknown"
  | some c => if c.md.isR = true then some "IsReady" else none
def rerankErr (d : Dk) (nm : Str) (rk : Int) : Option Str := match d.get nm with
  | none => some "Unknown"
  | some c => if rk < 0 ∨ 99 < rk then some "NoRank" else if c.md.isR = true then some "IsReady" else none
def Dk.setRk (d : Dk) (nm : Str) (rk : Int) : Dk := { d with line := d.line.map fun c => if c.nm = nm then ⟨c.nm, rk, c.md⟩ else c }
theorem Dk.get_some {d : Dk} {nm : Str} {c : Cl} (h : d.get nm = some c) : c ∈ d.line ∧ c.nm = nm := ⟨List.mem_of_find?_eq_some h, by simpa using List.find?_some h⟩
theorem Dk.get_none {d : Dk} {nm : Str} (h : d.get nm = none) : ∀ c ∈ d.line, c.nm ≠ nm := fun c hc => by
  have := List.find?_eq_none.mp h c hc
  simpa using this
theorem Dk.get_of {d : Dk} (nd : (d.line.map (·.nm)).Nodup) {c : Cl} (hc : c ∈ d.line) : d.get c.nm = some c := by
  cases h : d.get c.nm with
  | none => exact absurd rfl (Dk.get_none h c hc)
  | some c' =>
    obtain ⟨h1, h2⟩ := Dk.get_some h
    congr 1
    generalize d.line = L at *
    induction L with
    | nil => cases hc
    | cons x L ih =>
      rw [List.map_cons, List.nodup_cons] at nd
      rcases List.mem_cons.mp h1 with rfl | k1
      · rcases List.mem_cons.mp hc with rfl | k2
        · rfl
        · exact absurd (List.mem_map.mpr ⟨c, k2, h2.symm⟩) nd.1
      · rcases List.mem_cons.mp hc with rfl | k2
        · exact absurd (List.mem_map.mpr ⟨c', k1, h2⟩) nd.1
        · exact ih nd.2 k2 k1
theorem DkAt.get {K : PySem.W.Frag} {H : Hp} {p l : Addr} {d : Dk} {ps : List Pr} (D : DkAt K H p d l ps) {nm : Str} {c : Cl} (h : d.get nm = some c) : ∃ q ∈ ps, q.2 = c ∧ c.nm = nm := by
  obtain ⟨h1, h2⟩ := Dk.get_some h
  rw [D.eq] at h1
  obtain ⟨q, hq, e⟩ := List.mem_map.mp h1
  exact ⟨q, hq, e, h2⟩
theorem DkAt.get_of {K : PySem.W.Frag} {H : Hp} {p l : Addr} {d : Dk} {ps : List Pr} (D : DkAt K H p d l ps) (W : d.Wf) {q : Pr} (hq : q ∈ ps) : d.get q.2.nm = some q.2 := Dk.get_of W.nd (by rw [D.eq]; exact List.mem_map.mpr ⟨q, hq, rfl⟩)
theorem DkAt.get_none {K : PySem.W.Frag} {H : Hp} {p l : Addr} {d : Dk} {ps : List Pr} (D : DkAt K H p d l ps) {nm : Str} (h : ∀ q ∈ ps, q.2.nm ≠ nm) : d.get nm = none := by
  cases e : d.get nm with
  | none => rfl
  | some c =>
    obtain ⟨q, hq, h1, h2⟩ := D.get e
    exact absurd (by rw [h1, h2]) (h q hq)
theorem Fr.sub {F G H : Hp} {p l : Addr} {ps : List Pr} (f : Fr F H p l ps) (h : ∀ a o, G a = some o → F a = some o) : Fr G H p l ps := by
  have no : ∀ a, F a = none → G a = none := fun a ha => by
    cases e : G a with
    | none => rfl
    | some o => rw [h a o e] at ha; cases ha
  exact ⟨fun a o e => f.ex a o (h a o e), no _ f.p0, no _ f.l0, fun q hq => no _ (f.c0 q hq)⟩
theorem DeskAt.sub {K : PySem.W.Frag} {F G H : Hp} {p : Addr} {d : Dk} (D : DeskAt K F H p d) (h : ∀ a o, G a = some o → F a = some o) : DeskAt K G H p d := let ⟨l, ps, a, b⟩ := D; ⟨l, ps, a, b.sub h⟩
theorem upd_sub {F : Hp} {a : Addr} {x : HO} (h : F a = none) : ∀ b o, F b = some o → upd F a x b = some o := fun b o e => by rw [upd_ne (ne_of_none e h)]; exact e
theorem upd_mono {F G : Hp} {a : Addr} {x : HO} (h : ∀ b o, F b = some o → G b = some o) : ∀ b o, upd F a x b = some o → upd G a x b = some o := fun b o e => by
  by_cases c : b = a
  · rw [c, upd_same] at e ⊢
    exact e
  · rw [upd_ne c] at e ⊢
    exact h b o e
theorem ex_none {F H : Hp} {a : Addr} (e : Ex F H) (h : H a = none) : F a = none := by
  cases q : F a with
  | none => rfl
  | some o => rw [e _ _ q] at h; cases h
theorem decV (a b : Str) : decide (V.str a = V.str b) = decide (a = b) := decide_eq_decide.mpr ⟨V.str.inj, congrArg _⟩
section
variable {K : PySem.W.Frag} {mg : Str → Option Value} {σ : L2.St} {F H H' H1 : Hp} {p l a q : Addr} {d : Dk} {ps : List Pr} {c : Cl} {ta : TE}
theorem ev_pace (T : Txt K mg) (h : Ev ta σ H (.ref p)) (D : DkAt K H p d l ps) : Ev (tFld K ta "pace") σ H (.int d.pace) := ev_fldx h D.ob (c_Desk T) (n_Desk_pace T) rfl
theorem ev_room (T : Txt K mg) (h : Ev ta σ H (.ref p)) (D : DkAt K H p d l ps) : Ev (tFld K ta "room") σ H (.int d.room) := ev_fldx h D.ob (c_Desk T) (n_Desk_room T) rfl
theorem ev_now (T : Txt K mg) (h : Ev ta σ H (.ref p)) (D : DkAt K H p d l ps) : Ev (tFld K ta "now") σ H (.int d.now) := ev_fldx h D.ob (c_Desk T) (n_Desk_now T) rfl
theorem ev_line (T : Txt K mg) (h : Ev ta σ H (.ref p)) (D : DkAt K H p d l ps) : Ev (tFld K ta "line") σ H (.ref l) := ev_fldx h D.ob (c_Desk T) (n_Desk_line T) rfl
theorem ev_label (T : Txt K mg) (h : Ev ta σ H (.ref a)) (C : CAt K H a c) : Ev (tFld K ta "label") σ H (.str c.nm) := ev_fldx h C (c_Caller T) (n_Caller_label T) rfl
theorem ev_grade (T : Txt K mg) (h : Ev ta σ H (.ref a)) (C : CAt K H a c) : Ev (tFld K ta "grade") σ H (.int c.rk) := ev_fldx h C (c_Caller T) (n_Caller_grade T) rfl
theorem ev_stand (T : Txt K mg) (h : Ev ta σ H (.ref a)) (C : CAt K H a c) : Ev (tFld K ta "stand") σ H (.str c.md.st) := ev_fldx h C (c_Caller T) (n_Caller_stand T) rfl
theorem ev_mark (T : Txt K mg) (h : Ev ta σ H (.ref a)) (C : CAt K H a c) : Ev (tFld K ta "mark") σ H c.md.mark := ev_fldx h C (c_Caller T) (n_Caller_mark T) rfl
end
theorem q_makeA {σ : L2.St} {H : Hp} {tz : TS} {D : Ends} {i : Nat} {C : Addr} {sp : Sp} {E : XK} {tr : TA} (h : tr σ H fun vs H1 => ∀ x dx, H1 x = none → H1 dx = none → dx ≠ x → sp (.ref x :: (vs ++ [])) (upd (upd H1 dx (.own x)) x (.ins C dx [])) (fun v H2 => v = .non ∧ tz D (σ.set i (some (.ref x))) H2) E) :
    tSeq (tAsg (tMake C sp [] E tr) (gName i)) tz D σ H := h
theorem DeskAt.made {K : PySem.W.Frag} {H10 H11 : Hp} {x dx l : Addr} {d : Dk} {o1 o2 : HO} (nx : H10 x = none) (ndx : H10 dx = none) (D : DkAt K H11 x d l []) (nl : upd (upd H10 dx o1) x o2 l = none) (k11 : ∀ b o, upd (upd H10 dx o1) x o2 b = some o → b ≠ x → H11 b = some o) : DeskAt K H10 H11 x d := by
  have u10 : ∀ b o, H10 b = some o → upd (upd H10 dx o1) x o2 b = some o := fun b o hb => by rw [upd_ne (ne_of_none hb nx), upd_ne (ne_of_none hb ndx)]; exact hb
  exact ⟨l, [], D, ⟨fun b o hb => k11 b o (u10 b o hb) (ne_of_none hb nx), nx, ex_none (fun b o hb => u10 b o hb) nl, fun q hq => by cases hq⟩⟩
theorem DkAt.setNow {K : PySem.W.Frag} {F H : Hp} {p l dx : Addr} {d : Dk} {ps : List Pr} {n : Int} (D : DkAt K H p d l ps) (f : Fr F H p l ps) (hp : H p = some (.ins (aD K) dx (dfs d l))) :
    DkAt K (upd H p (.ins (aD K) dx (putF "now" (.int n) (dfs d l)))) p { d with now := n } l ps ∧ Fr F (upd H p (.ins (aD K) dx (putF "now" (.int n) (dfs d l)))) p l ps := by
  have ca : ∀ {b o}, b ≠ p → H b = some o → upd H p (.ins (aD K) dx (putF "now" (.int n) (dfs d l))) b = some o := fun hb ho => by rw [upd_ne hb]; exact ho
  refine ⟨⟨⟨dx, upd_same⟩, ca (ne_of D.ln hp (by intro z; cases z)) D.ln, D.eq, fun q hq => ?_⟩, ⟨fun b o hb => ca (fun e => by have := f.p0; rw [← e, hb] at this; cases this) (f.ex _ _ hb), f.p0, f.l0, f.c0⟩⟩
  obtain ⟨dq, h⟩ := D.at_ q hq
  exact ⟨dq, ca (fun e => by rw [e, hp] at h; exact ins_ne (Option.some.inj h)) h⟩
theorem inV_names (nm : Str) (L : List Cl) : inV (.str nm) (L.map fun c => V.str c.nm) = decide (nm ∈ L.map (·.nm)) := by
  unfold inV
  rw [List.any_map]
  induction L with
  | nil => rfl
  | cons c L ih =>
    rw [List.any_cons, ih, List.map_cons]
    by_cases h : nm = c.nm
    · subst h
      simp [Function.comp, eqV]
    · have h' : ¬ c.nm = nm := fun e => h e.symm
      simp [Function.comp, eqV, h, h']
theorem flat_names (L : List Cl) : (L.map fun c => V.str c.nm).all flatV = true := by
  rw [List.all_map]
  exact List.all_eq_true.mpr fun _ _ => rfl
/-- several become ready, one after the other -/
def Dk.rdyAll (d : Dk) (cs : List Cl) : Dk := cs.foldl (fun e c => e.put ⟨c.nm, c.rk, .rdy e.now⟩) d
theorem rdyAll_snoc (d : Dk) (cs : List Cl) (c : Cl) : d.rdyAll (cs ++ [c]) = (d.rdyAll cs).put ⟨c.nm, c.rk, .rdy (d.rdyAll cs).now⟩ := by
  unfold Dk.rdyAll
  rw [List.foldl_append]
  rfl
theorem put_now (d : Dk) (c : Cl) : (d.put c).now = d.now ∧ (d.put c).pace = d.pace ∧ (d.put c).room = d.room := ⟨rfl, rfl, rfl⟩
theorem rdyAll_now (cs : List Cl) : ∀ d : Dk, (d.rdyAll cs).now = d.now ∧ (d.rdyAll cs).pace = d.pace ∧ (d.rdyAll cs).room = d.room := by
  induction cs with
  | nil => intro d; exact ⟨rfl, rfl, rfl⟩
  | cons c cs ih => intro d; exact ih (d.put ⟨c.nm, c.rk, .rdy d.now⟩)
def isWtg (b : Str) (c : Cl) : Bool := decide (c.md = .wtg b)
def Dk.rung (d : Dk) (b : Str) : List Cl := d.line.filter (isWtg b)
def Dk.ring (d : Dk) (b : Str) : Dk := d.rdyAll (d.rung b)
def Dk.able (d : Dk) : List Cl := d.line.filter fun c => c.md.isR
def Dk.prs (d : Dk) : List (Int × Int) := d.able.map fun c => (c.rk, d.now - c.md.since)
def Dk.chosen (d : Dk) : Option Cl := (firstIdx d.pace d.prs).bind fun j => d.able[j]?
def Dk.tick (d : Dk) : Dk := { d with now := d.now + 1 }
def due (now : Int) (c : Cl) : Bool := match c.md with
  | .slp t => decide (t ≤ now)
  | _ => false
def Dk.waked (d : Dk) : Dk := d.tick.rdyAll (d.line.filter (due (d.now + 1)))
def Dk.turn (d : Dk) : Option Str × Dk := match d.chosen with
  | none => (none, d.waked)
  | some c => (some c.nm, d.waked.put ⟨c.nm, c.rk, .rdy (d.now + 1)⟩)
/-- the desk behind some turns, and who ran -/
def Dk.runN (d : Dk) : Nat → List (Option Str) × Dk
  | 0 => ([], d)
  | n + 1 => ((d.runN n).1 ++ [(d.runN n).2.turn.1], (d.runN n).2.turn.2)
structure Wk (K : PySem.W.Frag) (F H : Hp) (p : Addr) (d : Dk) (ps0 dn : List Pr) : Prop where
  wf : (d.rdyAll (dn.map (·.2))).Wf
  at_ : ∃ l ps, DkAt K H p (d.rdyAll (dn.map (·.2))) l ps ∧ Fr F H p l ps ∧ (∀ r ∈ ps0, r ∉ dn → r ∈ ps) ∧ ∀ r ∈ dn, (r.1, (⟨r.2.nm, r.2.rk, .rdy d.now⟩ : Cl)) ∈ ps
theorem Wk.ex {K : PySem.W.Frag} {F H H' : Hp} {p : Addr} {d : Dk} {ps0 dn : List Pr} (h : Wk K F H p d ps0 dn) (e : Ex H H') : Wk K F H' p d ps0 dn := ⟨h.wf, let ⟨l, ps, a, b, c⟩ := h.at_; ⟨l, ps, a.ex e, b.mono e, c⟩⟩
theorem Wk.next {K : PySem.W.Frag} {F H H' : Hp} {p l l' : Addr} {d : Dk} {ps0 dn ps : List Pr} {q : Pr} (nd : (ps0.map fun q => q.2.nm).Nodup) (hq : q ∈ ps0) (hn : q ∉ dn) (hs : ∀ r ∈ dn, r ∈ ps0) (w : (d.rdyAll (dn.map (·.2))).Wf)
    (D : DkAt K H p (d.rdyAll (dn.map (·.2))) l ps) (h1 : ∀ r ∈ ps0, r ∉ dn → r ∈ ps) (h2 : ∀ r ∈ dn, (r.1, (⟨r.2.nm, r.2.rk, .rdy d.now⟩ : Cl)) ∈ ps)
    (D' : DkAt K H' p ((d.rdyAll (dn.map (·.2))).put ⟨q.2.nm, q.2.rk, .rdy d.now⟩) l' (putP ps (q.1, ⟨q.2.nm, q.2.rk, .rdy d.now⟩))) (f' : Fr F H' p l' (putP ps (q.1, ⟨q.2.nm, q.2.rk, .rdy d.now⟩))) : Wk K F H' p d ps0 (dn ++ [q]) := by
  have e2 : d.rdyAll ((dn ++ [q]).map (·.2)) = (d.rdyAll (dn.map (·.2))).put ⟨q.2.nm, q.2.rk, .rdy d.now⟩ := by
    rw [List.map_append]
    show d.rdyAll (_ ++ [q.2]) = _
    rw [rdyAll_snoc, (rdyAll_now _ _).1]
  have hin : q.2 ∈ (d.rdyAll (dn.map (·.2))).line := by rw [D.eq]; exact List.mem_map.mpr ⟨q, h1 q hq hn, rfl⟩
  refine ⟨by rw [e2]; exact w.put hin rfl, l', _, by rw [e2]; exact D', f', fun r hr hrn => ?_, fun r hr => ?_⟩
  · have h3 : r ∉ dn := fun h => hrn (List.mem_append_left _ h)
    refine putP_mem (h1 r hr h3) fun e => hrn (List.mem_append_right _ (List.mem_singleton.mpr (nodup_pr nd hr hq e)))
  · rcases List.mem_append.mp hr with hr | hr
    · exact putP_mem (h2 r hr) fun e => hn (by rw [← nodup_pr nd (hs r hr) hq e]; exact hr)
    · rw [List.mem_singleton] at hr
      rw [hr]
      exact putP_self
theorem Tups.rows {K : PySem.W.Frag} {H : Hp} {a : Addr} {qs : List (Int × Int)} {ts : List Addr} (r : Tups K H a (qs.map fun q => [.int q.1, .int q.2]) ts) : Rows K H a qs ts := ⟨r.l, by rw [r.n, List.length_map], fun i t q h1 h2 => r.t i t _ h1 (by rw [List.getElem?_map, h2]; rfl)⟩
theorem DkAt.tick {K : PySem.W.Frag} {F H : Hp} {p l dx : Addr} {d : Dk} {ps : List Pr} (D : DkAt K H p d l ps) (f : Fr F H p l ps) (hp : H p = some (.ins (aD K) dx (dfs d l))) :
    DkAt K (upd H p (.ins (aD K) dx (putF "now" (.int (d.now + 1)) (dfs d l)))) p d.tick l ps ∧ Fr F (upd H p (.ins (aD K) dx (putF "now" (.int (d.now + 1)) (dfs d l)))) p l ps := by
  have ca : ∀ {b o}, b ≠ p → H b = some o → upd H p (.ins (aD K) dx (putF "now" (.int (d.now + 1)) (dfs d l))) b = some o := fun hb ho => by rw [upd_ne hb]; exact ho
  refine ⟨⟨⟨dx, upd_same⟩, ca (ne_of D.ln hp (by intro z; cases z)) D.ln, D.eq, fun q hq => ?_⟩, ⟨fun b o hb => ca (fun e => by have := f.p0; rw [← e, hb] at this; cases this) (f.ex _ _ hb), f.p0, f.l0, f.c0⟩⟩
  obtain ⟨dq, h⟩ := D.at_ q hq
  exact ⟨dq, ca (fun e => by rw [e, hp] at h; exact ins_ne (Option.some.inj h)) h⟩
theorem call2 {σ : L2.St} {H : Hp} {tl tp : TE} {sp : Sp} {E : XK} {Q : VK} (h : tl σ H fun x H1 => tp σ H1 fun y H2 => sp ([x, y] ++ []) H2 Q E) : tCall sp [] E (tCons tl (tCons tp tNil)) σ H Q := h
theorem rdyAll_wf : ∀ (cs : List Cl) (d : Dk), d.Wf → (∀ c ∈ cs, ∃ c0 ∈ d.line, c0.nm = c.nm) → (d.rdyAll cs).Wf
  | [], _, W, _ => W
  | c :: cs, d, W, h => by
    obtain ⟨c0, h0, e0⟩ := h c List.mem_cons_self
    refine rdyAll_wf cs (d.put ⟨c.nm, c.rk, .rdy d.now⟩) (W.put h0 e0) fun c' hc' => ?_
    obtain ⟨c1, h1, e1⟩ := h c' (List.mem_cons_of_mem _ hc')
    by_cases hn : c1.nm = c.nm
    · exact ⟨⟨c.nm, c.rk, .rdy d.now⟩, putC_mem.mpr (.inr rfl), by rw [← e1, hn]⟩
    · exact ⟨c1, putC_mem.mpr (.inl ⟨h1, hn⟩), e1⟩
theorem rdyAll_nm : ∀ (cs : List Cl) (d : Dk) (c : Cl), c ∈ d.line → ∃ c' ∈ (d.rdyAll cs).line, c'.nm = c.nm
  | [], _, c, h => ⟨c, h, rfl⟩
  | x :: cs, d, c, h => by
    by_cases hn : c.nm = x.nm
    · obtain ⟨c', h', e'⟩ := rdyAll_nm cs (d.put ⟨x.nm, x.rk, .rdy d.now⟩) ⟨x.nm, x.rk, .rdy d.now⟩ (putC_mem.mpr (.inr rfl))
      exact ⟨c', h', e'.trans hn.symm⟩
    · exact rdyAll_nm cs (d.put ⟨x.nm, x.rk, .rdy d.now⟩) c (putC_mem.mpr (.inl ⟨h, hn⟩))
theorem waked_wf {d : Dk} (W : d.Wf) : d.waked.Wf := rdyAll_wf _ d.tick ⟨W.p1, W.p2, W.len, W.nd⟩ fun c hc => ⟨c, (List.mem_filter.mp hc).1, rfl⟩
theorem chosen_mem {d : Dk} {c : Cl} (h : d.chosen = some c) : c ∈ d.line ∧ c.md.isR = true := by
  unfold Dk.chosen at h
  cases hf : firstIdx d.pace d.prs with
  | none => rw [hf] at h; cases h
  | some j =>
    rw [hf] at h
    have := List.mem_of_getElem? (show d.able[j]? = some c from h)
    exact List.mem_filter.mp this
theorem turn_wf {d : Dk} (W : d.Wf) : d.turn.2.Wf := by
  unfold Dk.turn
  cases h : d.chosen with
  | none => exact waked_wf W
  | some c =>
    obtain ⟨c', h', e'⟩ := rdyAll_nm (d.line.filter (due (d.now + 1))) d.tick c (chosen_mem h).1
    exact (waked_wf W).put h' e'
theorem runN_wf {d : Dk} (W : d.Wf) : ∀ n, (d.runN n).2.Wf
  | 0 => W
  | n + 1 => turn_wf (runN_wf W n)
theorem runN_len (d : Dk) : ∀ n, (d.runN n).1.length = n
  | 0 => rfl
  | n + 1 => by show ((d.runN n).1 ++ [_]).length = _; rw [List.length_append, runN_len d n]; rfl
/-! ### numbers as texts -/
def isFig (c : Nat) : Bool := decide (c ∈ figsS.cps.toList)
theorem figs_eq : figsS.cps.toList = [48, 49, 50, 51, 52, 53, 54, 55, 56, 57] := by decide +kernel
theorem isFig_iff {c : Nat} : isFig c = true ↔ 48 ≤ c ∧ c ≤ 57 := by
  unfold isFig
  rw [figs_eq, decide_eq_true_iff]
  simp only [List.mem_cons, List.not_mem_nil, or_false]
  omega
def zeroLead (w : Str) : Bool := decide (w.cps.toList.head? = some 48) && decide (1 < w.length)
def isNum (w : Str) : Bool := !(decide (w = "") || decide (12 < w.length)) && (w.cps.toList.all isFig && !zeroLead w)
def numOf (w : Str) : Option Int := if isNum w = true then some ((NumText.digitsVal w.cps.toList : Nat) : Int) else none
theorem len0 {w : Str} (h : w ≠ "") : 1 ≤ w.length := by
  cases e : w.cps.toList with
  | nil => exact absurd (TL.ext_tl (x := w) (y := "") (by rw [show TL.tl w = w.cps.toList from rfl, e]; decide +kernel)) h
  | cons c r => rw [TL.len_tl, show TL.tl w = w.cps.toList from rfl, e]; simp
theorem dec0 {c : Nat} : decide (V.str ⟨#[c]⟩ = V.str "0") = decide (c = 48) := by
  rw [decV, show ("0" : Str) = ⟨#[48]⟩ from by decide +kernel]
  refine decide_eq_decide.mpr ⟨fun h => ?_, fun h => by rw [h]⟩
  have h2 : (#[c] : Array Nat) = #[48] := by injection h
  simpa using h2
theorem rc_intS {w : Str} {n : Int} {H : Hp} (h : PySem.intText? w = some n) (hl : w.length ≤ 640) : RC (fun xs H Q => ∃ a n, xs = [.str a] ∧ PySem.intText? a = some n ∧ a.length ≤ 640 ∧ Q (.int n) H) [.str w] H (.int n) := fun H1 _ Q q => ⟨w, n, rfl, h, hl, q H1 (Ex.refl H1)⟩
theorem at0 {α : Type} (c : α) (r : List α) : atI (c :: r) 0 = some c := by
  unfold atI ixN
  rw [if_pos (by decide), if_pos (by simp only [List.length_cons]; omega)]
  rfl
theorem q_dcall {σ : L2.St} {H : Hp} {tz : TS} {D : Ends} {sp : Sp} {E : XK} {tr : TA} {vs : List V} (h : EvA tr σ H vs) (k : ∀ H1, Ex H H1 → sp (vs ++ []) H1 (fun _ H2 => tz D σ H2) E) : tSeq (tDrop (tCall sp [] E tr)) tz D σ H := h H (Ex.refl H) _ fun H1 e1 => k H1 e1
def callerOf (d : Dk) : List Str → Option Cl
  | [nm, r, st, m] =>
    if (isName nm && !decide (nm ∈ d.line.map (·.nm))) = false then none
    else match numOf r with
    | none => none
    | some rk =>
      if (decide (rk ≤ 99) && decide ((d.line.length : Int) < d.room)) = false then none
      else if st = "waiting" then (if isName m = false then none else some ⟨nm, rk, .wtg m⟩)
      else match numOf m with
      | none => none
      | some t =>
        if st = "ready" then (if t ≤ d.now then some ⟨nm, rk, .rdy (d.now - t)⟩ else none)
        else if (decide (st = "asleep") && (decide (1 ≤ t) && decide (t ≤ 1000))) = false then none else some ⟨nm, rk, .slp (d.now + t)⟩
  | _ => none
theorem callerOf_lt {d : Dk} {ws : List Str} {c : Cl} (h : callerOf d ws = some c) : (d.line.length : Int) < d.room := by
  unfold callerOf at h
  split at h
  · split at h
    · cases h
    · split at h
      · cases h
      · split at h
        · cases h
        · rename_i hh
          rw [Bool.not_eq_false, Bool.and_eq_true] at hh
          exact of_decide_eq_true hh.2
  · cases h
def Dk.snoc (d : Dk) (c : Cl) : Dk := { d with line := d.line ++ [c] }
def readLine (d : Dk) : List Str → Option Dk
  | [] => some d
  | r :: rs => match callerOf d (Txt.split r " ") with
    | none => none
    | some c => readLine (d.snoc c) rs
theorem readLine_cons (d : Dk) (r : Str) (rs : List Str) : readLine d (r :: rs) = match callerOf d (Txt.split r " ") with
    | none => none
    | some c => readLine (d.snoc c) rs := rfl
def deskOf (pa ro no : Int) : Option Dk := if 1 ≤ pa ∧ pa ≤ 1000 ∧ 1 ≤ ro ∧ ro ≤ 60 then some ⟨pa, ro, no, []⟩ else none
def readHead : List Str → Option Dk
  | [h, a, b, c] => if (decide (h = "desk")) = false then none else (numOf a).bind fun pa => (numOf b).bind fun ro => if 1 ≤ pa ∧ pa ≤ 1000 ∧ 1 ≤ ro ∧ ro ≤ 60 then (numOf c).bind fun no => some ⟨pa, ro, no, []⟩ else none
  | _ => none
def midL (rows : List Str) : List Str := (rows.drop 1).take (rows.length - 2)
def readD (t : Str) : Option Dk :=
  if (decide (1 < (Txt.split t "\n").length) && decide ((Txt.split t "\n").getLast? = some ("" : Str))) = false then none
  else match readHead (Txt.split ((Txt.split t "\n").headD "") " ") with
  | none => none
  | some d => readLine d (midL (Txt.split t "\n"))
theorem spl_len (S : List Nat) : ∀ (l : List Nat) (k : Nat) (acc : List Nat), ∀ p ∈ TL.spl S k acc l, p.length ≤ acc.length + l.length
  | [], k, acc, p, h => by
    rw [TL.spl_nil, List.mem_singleton] at h
    rw [h]
    exact Nat.le_add_right _ _
  | c :: r, 0, acc, p, h => by
    cases hp : TL.pre S (c :: r) with
    | true =>
      rw [TL.spl_hit hp] at h
      rcases List.mem_cons.mp h with h | h
      · rw [h]
        exact Nat.le_add_right _ _
      · have := spl_len S r _ _ p h
        simp only [List.length_nil, List.length_cons] at this ⊢
        omega
    | false =>
      rw [TL.spl_miss hp] at h
      have := spl_len S r _ _ p h
      simp only [List.length_append, List.length_cons, List.length_nil] at this ⊢
      omega
  | c :: r, k + 1, acc, p, h => by
    have := spl_len S r k acc p h
    simp only [List.length_cons] at this ⊢
    omega
theorem split_piece {a b : Str} (hy : TL.tl b ≠ []) (hk : b.cps.all (· < 256) = true) : ∀ w ∈ Txt.split a b, w.length ≤ a.length := fun w hw => by
  have h := TL.split_spl a b hy (TL.kind_ok hk)
  have hm : TL.tl w ∈ TL.spl (TL.tl b) 0 [] (TL.tl a) := by
    rw [← h]
    exact List.mem_map.mpr ⟨w, hw, rfl⟩
  have := spl_len _ _ _ _ _ hm
  rw [TL.len_tl, TL.len_tl]
  simpa using this
theorem nl_ok : TL.tl ("\n" : Str) ≠ [] ∧ ("\n" : Str).cps.all (· < 256) = true ∧ (("\n" : Str).length == 0) = false := by decide +kernel
theorem bl_ok : TL.tl (" " : Str) ≠ [] ∧ (" " : Str).cps.all (· < 256) = true ∧ ((" " : Str).length == 0) = false := by decide +kernel
theorem el_split {σ : L2.St} {H : Hp} {to te : TE} {a b : Str} (h : Ev to σ H (.str a)) (h2 : Ev te σ H (.str b)) (hb : (b.length == 0) = false) (hz : a.length ≤ 90000) :
    EvL (tM1 (fun x xs H Q => ∃ a b, x = .str a ∧ xs = [.str b] ∧ (b.length == 0) = false ∧ a.length + 2 ≤ sizeLine ∧ rNewStrs (Txt.split a b) H Q) to te) σ H ((Txt.split a b).map V.str) := fun H1 e Q q =>
  h H1 e _ fun H2 e2 => ⟨⟨a, rfl⟩, h2 H2 (e.trans e2) _ fun H3 e3 => ⟨a, b, rfl, rfl, hb, sz_of (by omega), fun p hp => q p _ (fresh_back (e2.trans e3) hp) ((e2.trans e3).trans (Ex.new hp)) upd_same⟩⟩
theorem aa_call {σ : L2.St} {H : Hp} {sp : Sp} {E : XK} {tr tr' : TA} {vs : List V} {Q : List V → Hp → Prop} (h : EvA tr σ H vs) (k : ∀ H1, Ex H H1 → sp (vs ++ []) H1 (fun x H2 => tr' σ H2 fun xs H3 => Q (x :: xs) H3) E) : tCons (tCall sp [] E tr) tr' σ H Q := h H (Ex.refl H) _ fun H1 e1 => k H1 e1
theorem cut_mid {xs : List V} (h : 2 ≤ xs.length) : cutV xs (some 1) (some (-1)) = (xs.drop 1).take (xs.length - 2) := by
  have e1 : HT.sIx xs.length 0 (some 1) = 1 := by
    show (if (1 : Int) < 0 then ((1 : Int) + (xs.length : Int)).toNat else min (1 : Int).toNat xs.length) = 1
    rw [if_neg (by decide)]
    show min 1 xs.length = 1
    omega
  have e2 : HT.sIx xs.length xs.length (some (-1)) = xs.length - 1 := by
    show (if (-1 : Int) < 0 then ((-1 : Int) + (xs.length : Int)).toNat else min (-1 : Int).toNat xs.length) = xs.length - 1
    rw [if_pos (by decide)]
    omega
  unfold cutV
  rw [e1, e2]
  congr 1
theorem DeskAt.app {K : PySem.W.Frag} {F H H5 : Hp} {p l x : Addr} {d : Dk} {ps : List Pr} {c : Cl} (D : DkAt K H p d l ps) (f : Fr F H p l ps) (nx : H x = none) (e : Ex H H5) (C : CAt K H5 x c) :
    DeskAt K F (upd H5 l (.lst ((ps.map fun q => V.ref q.1) ++ [.ref x]))) p (d.snoc c) := by
  have nlx : l ≠ x := ne_of_none D.ln nx
  have D5 := D.ex e
  have f5 := f.mono e
  obtain ⟨dc, h5⟩ := C
  have ca : ∀ {b o}, b ≠ l → H5 b = some o → upd H5 l (.lst ((ps.map fun q => V.ref q.1) ++ [.ref x])) b = some o := fun hb ho => by rw [upd_ne hb]; exact ho
  obtain ⟨dx5, hp5⟩ := D5.ob
  have Fx : F x = none := ex_none f.ex nx
  refine ⟨l, ps ++ [(x, c)], ⟨⟨dx5, ca (ne_of hp5 D5.ln (by intro z; cases z)) hp5⟩, ?_, ?_, ?_⟩, ⟨fun b o hb => ca (fun e => by have := f.l0; rw [← e, hb] at this; cases this) (f5.ex _ _ hb), f.p0, f.l0, ?_⟩⟩
  · rw [upd_same, List.map_append]
    rfl
  · show d.line ++ _ = _
    rw [List.map_append, D.eq]
    rfl
  · intro q hq
    rcases List.mem_append.mp hq with hq | hq
    · obtain ⟨dq, h⟩ := D5.at_ q hq
      exact ⟨dq, ca (ne_of h D5.ln (by intro z; cases z)) h⟩
    · rw [List.mem_singleton] at hq
      rw [hq]
      exact ⟨dc, ca nlx.symm h5⟩
  · intro q hq
    rcases List.mem_append.mp hq with hq | hq
    · exact f.c0 q hq
    · rw [List.mem_singleton] at hq
      rw [hq]
      exact Fx
theorem q_fldC {K : PySem.W.Frag} {σ : L2.St} {H : Hp} {tz : TS} {D : Ends} {sp : Sp} {E : XK} {tr : TA} {ta : TE} {vs : List V} {f : Str} (h : EvA tr σ H vs) (k : ∀ H1, Ex H H1 → sp (vs ++ []) H1 (fun y H2 => ta σ H2 fun x H3 => ∃ a C dx fs, x = .ref a ∧ H3 a = some (.ins C dx fs) ∧ Cls K C ∧ NoAttr K C f ∧ fs.length < 1000 ∧ tz D σ (upd H3 a (.ins C dx (putF f y fs)))) E) :
    tSeq (sFld K ta (tCall sp [] E tr) f) tz D σ H := h H (Ex.refl H) _ fun H1 e1 => k H1 e1
/-! ### a desk as a text, and read back -/
def markS (now : Int) : Md → Str
  | .rdy s => toString (now - s)
  | .slp t => toString (t - now)
  | .wtg b => b
def rowW (now : Int) (c : Cl) : List Str := [c.nm, toString c.rk, c.md.st, markS now c.md]
def rowS (now : Int) (c : Cl) : Str := Txt.join " " (rowW now c)
def headS (d : Dk) : Str := "desk " ++ (toString d.pace : String) ++ " " ++ (toString d.room : String) ++ " " ++ (toString d.now : String)
def rowsS (d : Dk) : List Str := headS d :: d.line.map (rowS d.now)
def shownD (d : Dk) : Str := Txt.join "" ((rowsS d).map fun r => r ++ "\n")
theorem tl_int {i : Int} (h : 0 ≤ i) : TL.tl (Str.ofString (toString i)) = TL.numL i.toNat := by
  obtain ⟨n, rfl⟩ := Int.eq_ofNat_of_zero_le h
  exact TL.tl_num n
theorem numL_lead : ∀ n : Nat, 1 ≤ n → (TL.numL n).head? ≠ some 48 := by
  intro n
  induction n using Nat.strongRecOn with
  | _ n ih =>
    intro h1
    by_cases h : n < 10
    · rw [TL.numL_lt h]
      simp
      omega
    · rw [TL.numL_step (by omega)]
      have := ih (n / 10) (by omega) (by omega)
      cases hn : TL.numL (n / 10) with
      | nil => exact absurd hn (TL.numL_ne _)
      | cons c r =>
        rw [hn] at this
        exact this
theorem numOf_int {i : Int} (h0 : 0 ≤ i) (h1 : i < 1000000000000) : numOf (Str.ofString (toString i)) = some i := by
  obtain ⟨n, rfl⟩ := Int.eq_ofNat_of_zero_le h0
  have e : Str.ofString (toString ((n : Nat) : Int)) = SX.S (TL.numL n) := SX.num_S n
  rw [e]
  have hl : (TL.numL n).length ≤ 12 := TL.numL_len (by decide) (by omega)
  have hne := TL.numL_ne n
  have h2 : decide (SX.S (TL.numL n) = ("" : Str)) = false := decide_eq_false fun q => hne (by
    have : TL.tl (SX.S (TL.numL n)) = TL.tl ("" : Str) := by rw [q]
    rw [show TL.tl ("" : Str) = [] from by decide +kernel] at this
    exact this)
  have h3 : decide (12 < (SX.S (TL.numL n)).length) = false := decide_eq_false (by rw [SX.S_len]; omega)
  have h4 : (SX.S (TL.numL n)).cps.toList.all isFig = true := List.all_eq_true.mpr fun c hc => isFig_iff.mpr (TL.numL_digits n c hc)
  have h5 : zeroLead (SX.S (TL.numL n)) = false := by
    unfold zeroLead
    by_cases hn : 1 ≤ n
    · rw [decide_eq_false (numL_lead n hn)]
      rfl
    · have : n = 0 := by omega
      subst this
      rw [SX.S_len, TL.numL_lt (by decide)]
      rfl
  unfold numOf isNum
  rw [h2, h3, h4, h5]
  show some ((NumText.digitsVal (TL.numL n) : Nat) : Int) = _
  rw [TL.numL_val]
def lineOf (r : List Nat) : List Nat := r ++ [10]
theorem spl_lines : ∀ (rows : List (List Nat)), (∀ r ∈ rows, 10 ∉ r) → TL.spl [10] 0 [] ((rows.map fun r => r ++ [10]).flatten) = rows ++ [[]]
  | [], _ => rfl
  | r :: rows, h => by
    have e : (((r :: rows).map fun r => r ++ [10]).flatten) = r ++ ([10] ++ (rows.map fun r => r ++ [10]).flatten) := by
      rw [List.map_cons, List.flatten_cons, List.append_assoc]
    rw [e]
    have := TL.spl_part1 (s := 10) (S := []) (p := r) (rest := (rows.map fun r => r ++ [10]).flatten) (acc := []) (h r (List.mem_cons_self ..))
    rw [show ([10] : List Nat) ++ (rows.map fun r => r ++ [10]).flatten = 10 :: [] ++ (rows.map fun r => r ++ [10]).flatten from rfl, this, spl_lines rows fun q hq => h q (List.mem_cons_of_mem _ hq)]
    rfl
theorem nl_eq : ("\n" : Str) = SX.S [10] := by decide +kernel
theorem bl_eq : (" " : Str) = SX.S [32] := by decide +kernel
theorem tl_shown (d : Dk) : TL.tl (shownD d) = (((rowsS d).map TL.tl).map fun r => r ++ [10]).flatten := by
  unfold shownD
  rw [TL.join_eq, TL.tl_join, show TL.tl ("" : Str) = [] from by decide +kernel, joinL_nil, List.map_map, List.map_map]
  congr 1
  refine List.map_congr_left fun r _ => ?_
  show TL.tl (r ++ "\n") = TL.tl r ++ [10]
  rw [TL.tl_append, nl_eq]
theorem split_shown {d : Dk} (h : ∀ r ∈ rowsS d, 10 ∉ TL.tl r) : Txt.split (shownD d) "\n" = rowsS d ++ [("" : Str)] := by
  refine TL.map_tl_inj ?_
  rw [TL.split_spl _ _ nl_ok.1 (TL.kind_ok nl_ok.2.1), tl_shown, show TL.tl ("\n" : Str) = [10] from by rw [nl_eq], spl_lines _ (fun r hr => by
    obtain ⟨q, hq, rfl⟩ := List.mem_map.mp hr
    exact h q hq), List.map_append]
  rfl
theorem split_words {ws : List Str} (hne : ws ≠ []) (h : ∀ w ∈ ws, 32 ∉ TL.tl w) : Txt.split (Txt.join " " ws) " " = ws :=
  TL.split_join (y := " ") (s := 32) (S := []) (by rw [bl_eq]) bl_ok.2.1 hne h
theorem sign_free {s : Str} (h : isName s = true) {c : Nat} (hc : c ∈ TL.tl s) : isSign c = true := by
  unfold isName at h
  rw [Bool.and_eq_true] at h
  exact List.all_eq_true.mp h.2 c hc
theorem sign10 : isSign 10 = false ∧ isSign 32 = false := by decide +kernel
theorem name_free {s : Str} (h : isName s = true) : 10 ∉ TL.tl s ∧ 32 ∉ TL.tl s :=
  ⟨fun hc => (by have := sign_free h hc; rw [sign10.1] at this; cases this), fun hc => (by have := sign_free h hc; rw [sign10.2] at this; cases this)⟩
theorem int_free {i : Int} (h : 0 ≤ i) : 10 ∉ TL.tl (Str.ofString (toString i)) ∧ 32 ∉ TL.tl (Str.ofString (toString i)) := by
  rw [tl_int h]
  exact ⟨TL.numL_free (by decide), TL.numL_free (by decide)⟩
theorem st_free : ∀ m : Md, 10 ∉ TL.tl m.st ∧ 32 ∉ TL.tl m.st
  | .rdy _ => (by decide +kernel : 10 ∉ TL.tl ("ready" : Str) ∧ 32 ∉ TL.tl ("ready" : Str))
  | .slp _ => (by decide +kernel : 10 ∉ TL.tl ("asleep" : Str) ∧ 32 ∉ TL.tl ("asleep" : Str))
  | .wtg _ => (by decide +kernel : 10 ∉ TL.tl ("waiting" : Str) ∧ 32 ∉ TL.tl ("waiting" : Str))
theorem mark_free {now : Int} : ∀ m : Md, MdOk now m → 10 ∉ TL.tl (markS now m) ∧ 32 ∉ TL.tl (markS now m)
  | .rdy s, h => int_free (by have h : 0 ≤ s ∧ s ≤ now := h; omega)
  | .slp t, h => int_free (by have h : now < t ∧ t ≤ now + 1000 := h; omega)
  | .wtg b, h => name_free h
theorem rowW_free {now : Int} {c : Cl} (h : ClOk now c) : ∀ w ∈ rowW now c, 10 ∉ TL.tl w ∧ 32 ∉ TL.tl w := fun w hw => by
  obtain ⟨h1, h2, h3, h4⟩ := h
  unfold rowW at hw
  simp only [List.mem_cons, List.not_mem_nil, or_false] at hw
  rcases hw with rfl | rfl | rfl | rfl
  · exact name_free h1
  · exact int_free h2
  · exact st_free _
  · exact mark_free _ h4
theorem joinL_free {c : Nat} {S : List Nat} (hS : c ∉ S) : ∀ ps : List (List Nat), (∀ p ∈ ps, c ∉ p) → c ∉ TL.joinL S ps
  | [], _ => by simp [TL.joinL]
  | [p], h => h p (List.mem_singleton.mpr rfl)
  | p :: q :: r, h => by
    show c ∉ p ++ (S ++ TL.joinL S (q :: r))
    rw [List.mem_append, List.mem_append]
    rintro (h1 | h1 | h1)
    · exact h p (List.mem_cons_self ..) h1
    · exact hS h1
    · exact joinL_free hS (q :: r) (fun z hz => h z (List.mem_cons_of_mem _ hz)) h1
theorem row_free {now : Int} {c : Cl} (h : ClOk now c) : 10 ∉ TL.tl (rowS now c) := by
  unfold rowS
  rw [TL.join_eq, TL.tl_join]
  refine joinL_free (by rw [bl_eq]; show 10 ∉ [32]; decide) _ fun p hp => ?_
  obtain ⟨w, hw, rfl⟩ := List.mem_map.mp hp
  exact (rowW_free h w hw).1
def headW (d : Dk) : List Str := ["desk", toString d.pace, toString d.room, toString d.now]
theorem head_join (d : Dk) : headS d = Txt.join " " (headW d) := by
  refine TL.ext_tl ?_
  rw [TL.join_eq, TL.tl_join]
  unfold headS headW
  rw [TL.tl_append, TL.tl_append, TL.tl_append, TL.tl_append, TL.tl_append, show TL.tl ("desk " : Str) = TL.tl ("desk" : Str) ++ TL.tl (" " : Str) from by decide +kernel]
  simp only [List.map_cons, List.map_nil, TL.joinL, List.append_assoc]
theorem headW_free {d : Dk} (h1 : 0 ≤ d.pace) (h2 : 0 ≤ d.room) (h3 : 0 ≤ d.now) : ∀ w ∈ headW d, 10 ∉ TL.tl w ∧ 32 ∉ TL.tl w := fun w hw => by
  unfold headW at hw
  simp only [List.mem_cons, List.not_mem_nil, or_false] at hw
  rcases hw with rfl | rfl | rfl | rfl
  · decide +kernel
  · exact int_free h1
  · exact int_free h2
  · exact int_free h3
theorem callerOf_row {d : Dk} {c : Cl} (h : ClOk d.now c) (hn : c.nm ∉ d.line.map (·.nm)) (hl : (d.line.length : Int) < d.room) (ht : d.now < 1000000000000) : callerOf d (rowW d.now c) = some c := by
  obtain ⟨h1, h2, h3, h4⟩ := h
  unfold callerOf rowW
  dsimp only
  rw [h1, decide_eq_false hn, if_neg (by decide), numOf_int h2 (by omega)]
  dsimp only
  rw [decide_eq_true h3, decide_eq_true hl, if_neg (by decide)]
  cases c with
  | mk nm rk md =>
    dsimp only at h4 ⊢
    cases md with
    | wtg b =>
      have hb : isName b = true := h4
      show (if (("waiting" : Str) = "waiting") then (if isName b = false then none else some (⟨nm, rk, .wtg b⟩ : Cl)) else _) = _
      rw [if_pos rfl, hb]
      rfl
    | rdy s =>
      have hs : 0 ≤ s ∧ s ≤ d.now := h4
      show (if (("ready" : Str) = "waiting") then _ else match numOf (Str.ofString (toString (d.now - s))) with | none => none | some t => if (("ready" : Str) = "ready") then (if t ≤ d.now then some (⟨nm, rk, .rdy (d.now - t)⟩ : Cl) else none) else _) = _
      rw [if_neg (by decide +kernel), numOf_int (by omega) (by omega)]
      dsimp only
      rw [if_pos rfl, if_pos (by omega), show d.now - (d.now - s) = s from by omega]
    | slp t =>
      have hs : d.now < t ∧ t ≤ d.now + 1000 := h4
      show (if (("asleep" : Str) = "waiting") then _ else match numOf (Str.ofString (toString (t - d.now))) with | none => none | some u => if (("asleep" : Str) = "ready") then _ else if (decide (("asleep" : Str) = "asleep") && (decide (1 ≤ u) && decide (u ≤ 1000))) = false then none else some (⟨nm, rk, .slp (d.now + u)⟩ : Cl)) = _
      rw [if_neg (by decide +kernel), numOf_int (by omega) (by omega)]
      dsimp only
      rw [if_neg (by decide +kernel), decide_eq_true rfl, decide_eq_true (by omega), decide_eq_true (by omega), if_neg (by decide), show d.now + (t - d.now) = t from by omega]
theorem readLine_rows {d : Dk} (ok : d.Ok) (ht : d.now < 1000000000000) : ∀ (L2 L1 : List Cl), L1 ++ L2 = d.line → readLine { d with line := L1 } (L2.map (rowS d.now)) = some d
  | [], L1, h => by
    rw [List.append_nil] at h
    show some _ = _
    rw [h]
  | c :: L2, L1, h => by
    have hc : c ∈ d.line := by rw [← h]; simp
    have hlen : d.line.length = L1.length + (L2.length + 1) := by rw [← h, List.length_append, List.length_cons]
    have hl := ok.len
    have hnd := ok.nd
    rw [← h, List.map_append, List.map_cons] at hnd
    have hn : c.nm ∉ L1.map (·.nm) := fun hm => (List.nodup_append.mp hnd).2.2 _ hm _ (List.mem_cons_self ..) rfl
    rw [List.map_cons, readLine_cons, show Txt.split (rowS d.now c) " " = rowW d.now c from split_words (by unfold rowW; simp) fun w hw => (rowW_free (ok.cl c hc) w hw).2]
    rw [callerOf_row (d := { d with line := L1 }) (ok.cl c hc) hn (by show (L1.length : Int) < d.room; omega) ht]
    exact readLine_rows ok ht L2 (L1 ++ [c]) (by rw [List.append_assoc]; exact h)
theorem read_shown {d : Dk} (ok : d.Ok) (ht : d.now < 1000000000000) : readD (shownD d) = some d := by
  have p1 := ok.p1
  have p2 := ok.p2
  have r1 := ok.r1
  have r2 := ok.r2
  have hf := headW_free (d := d) (by omega) (by omega) ok.n0
  have hs : Txt.split (shownD d) "\n" = rowsS d ++ [("" : Str)] := split_shown fun r hr => by
    unfold rowsS at hr
    rcases List.mem_cons.mp hr with rfl | hr
    · rw [head_join, TL.join_eq, TL.tl_join]
      refine joinL_free (by rw [bl_eq]; show 10 ∉ [32]; decide) _ fun p hp => ?_
      obtain ⟨w, hw, rfl⟩ := List.mem_map.mp hp
      exact (hf w hw).1
    · obtain ⟨c, hc, rfl⟩ := List.mem_map.mp hr
      exact row_free (ok.cl c hc)
  have hl : (rowsS d ++ [("" : Str)]).length = d.line.length + 2 := by
    unfold rowsS
    rw [List.length_append, List.length_cons, List.length_map]
    rfl
  unfold readD
  rw [hs, if_neg (by rw [decide_eq_true (by omega), decide_eq_true (by rw [List.getLast?_append]; rfl)]; decide)]
  rw [show (rowsS d ++ [("" : Str)]).headD "" = headS d from rfl, head_join, split_words (by unfold headW; simp) fun w hw => (hf w hw).2]
  have hh : readHead (headW d) = some ⟨d.pace, d.room, d.now, []⟩ := by
    show (if (decide (("desk" : Str) = "desk")) = false then none else (numOf (Str.ofString (toString d.pace))).bind fun pa => (numOf (Str.ofString (toString d.room))).bind fun ro => if 1 ≤ pa ∧ pa ≤ 1000 ∧ 1 ≤ ro ∧ ro ≤ 60 then (numOf (Str.ofString (toString d.now))).bind fun no => some (⟨pa, ro, no, []⟩ : Dk) else none) = _
    rw [decide_eq_true rfl, if_neg (by decide), numOf_int (by omega) (by omega), numOf_int (by omega) (by omega), numOf_int ok.n0 ht]
    show (if 1 ≤ d.pace ∧ d.pace ≤ 1000 ∧ 1 ≤ d.room ∧ d.room ≤ 60 then _ else none) = _
    rw [if_pos ⟨p1, p2, r1, r2⟩]
    rfl
  rw [hh]
  have hm : midL (rowsS d ++ [("" : Str)]) = d.line.map (rowS d.now) := by
    unfold midL
    rw [hl]
    show ((d.line.map (rowS d.now)) ++ [("" : Str)]).take (d.line.length + 2 - 2) = _
    rw [List.take_append_of_le_length (by rw [List.length_map]; omega), List.take_of_length_le (by rw [List.length_map]; omega)]
  rw [hm]
  exact readLine_rows ok ht d.line [] rfl
theorem log_ok {i : Int} (h : i.natAbs < 2 ^ 64) : i.natAbs.log2 < 1920 := by
  by_cases h0 : i.natAbs = 0
  · rw [h0]
    decide
  · rw [Nat.log2_lt h0]
    exact Nat.lt_of_lt_of_le h (Nat.pow_le_pow_right (by decide) (by decide))
theorem len_int {i : Int} (h0 : 0 ≤ i) (h1 : i < 1000000000000000) : (Str.ofString (toString i)).length ≤ 15 := by
  rw [TL.len_tl, tl_int h0]
  exact TL.numL_len (by decide) (by omega)
theorem rc_strI {i : Int} {H : Hp} (h : i.natAbs < 2 ^ 64) : RC (fun xs H Q => ∃ i, xs = [.int i] ∧ i.natAbs.log2 < 1920 ∧ Q (.str (toString i)) H) [.int i] H (.str (Str.ofString (toString i))) := fun H1 _ Q q => ⟨i, rfl, log_ok h, q H1 (Ex.refl H1)⟩
theorem s_retMk {σ : L2.St} {H : Hp} {D : Ends} {C : Addr} {sp : Sp} {E : XK} {tr : TA} (h : tr σ H fun vs H1 => ∀ x dx, H1 x = none → H1 dx = none → dx ≠ x → sp (.ref x :: (vs ++ [])) (upd (upd H1 dx (.own x)) x (.ins C dx [])) (fun v H2 => v = .non ∧ D.rt (.ref x) H2) E) :
    tRet (tMake C sp [] E tr) D σ H := h
theorem shown_nil {d : Dk} (h : d.line = []) : shownD d = headS d ++ "\n" := by
  unfold shownD rowsS
  rw [h, TL.join_eq]
  rfl
def farBy (c : Int) : Int := match (c % 4).toNat with | 0 => 0 | 1 => c / 4 % 1000 | 2 => c / 4 % 999999900000 | _ => 0
theorem farBy_ok (c : Int) : 0 ≤ farBy c ∧ farBy c < 999999900000 := by
  unfold farBy
  split <;> omega
/-! ### names of the law -/
def revS (z : Str) : Str := ⟨z.cps.toList.reverse.toArray⟩
def tRevS (te : TE) : TE := fun σ H Q => te σ H fun x H1 => ∃ z, x = .str z ∧ z.length ≤ sizeLine ∧ Q (.str (revS z)) H1
theorem rev_by (z : Str) (u : Tok) : PySem.Txt.sliceBy z none none (-1, u) = revS z := by
  refine TL.ext_tl ?_
  show (PySem.Txt.sliceBy z none none (-1, u)).cps.toList = z.cps.toList.reverse
  rw [step_rev_list]
  refine List.ext_getElem (by simp [Str.length]) fun i h1 h2 => ?_
  have hi : i < z.cps.size := by simpa [Str.length] using h1
  rw [List.getElem_map, List.getElem_range, List.getElem_reverse]
  have hs : z.length - 1 - i < z.cps.size := by show z.cps.size - 1 - i < z.cps.size; omega
  rw [Array.getElem_toList]
  simp only [Array.length_toList]
  show z.cps.getD (z.cps.size - 1 - i) 0 = _
  rw [Array.getD, dif_pos (show z.cps.size - 1 - i < z.cps.size by omega)]
  rfl
theorem pe_revS {X : Cx} {e : Expr} {te : TE} {k : Nat} {p1 p2 p3 pos : Pos} (he : PE X e te) : PE X (.Subscript e (.Slice none none (some (.UnaryOp .USub (.Constant (.int 1) k p1) p2)) p3) pos) (tRevS te) := by
  refine ⟨fun pins s σ H Q I h => ?_⟩
  refine Subscript_ (thn (he.run pins s σ H _ I h) fun v s1 ⟨x, H1, I1, r1, q1⟩ => ?_)
  obtain ⟨z, rfl, hz, q⟩ := q1
  obtain ⟨t, rfl⟩ := r1
  have hst : PO X (some (.UnaryOp .USub (.Constant (.int 1) k p1) p2)) (tPart (tUn (rU fun i => .int (-i)) (tC (.int 1)))) := po_some (pe_un un_neg pe_int)
  refine wpAny_Slice (thn (po_none.run pins s1 σ H1 (fun o H2 => o = none ∧ H2 = H1) I1 ⟨rfl, rfl⟩) fun vl s2 ⟨l, H2, I2, pl, el, e2⟩ => ?_)
  subst el e2
  refine thn (po_none.run pins s2 σ H2 (fun o H3 => o = none ∧ H3 = H2) I2 ⟨rfl, rfl⟩) fun vu s3 ⟨u, H3, I3, pu, eu, e3⟩ => ?_
  subst eu e3
  refine thn (hst.run pins s3 σ H3 (fun o H4 => o = some (-1) ∧ H4 = H3) I3 ⟨1, rfl, -1, rfl, rfl, rfl⟩) fun vs s4 ⟨o, H4, I4, ps, eo, e4⟩ => ?_
  subst eo e4
  have I5 : Inv X pins σ H4 { s4 with heap := s4.heap.push { cls := .type "slice", data := .fields #[vl, vu, vs] } } := I4.kept (t' := s4.toks) fun b ob q => Heap.get?_push_of_some _ q
  obtain ⟨os, hos, hcs, hds⟩ := Heap.IsSliceOf.new (h := s4.heap) vl vu vs
  obtain ⟨l', rfl, hl'⟩ := IsPart.raw pl
  obtain ⟨u', rfl, hu'⟩ := IsPart.raw pu
  obtain ⟨st', rfl, hst'⟩ := IsPart.raw ps
  cases l' with
  | some _ => cases hl'
  | none =>
  cases u' with
  | some _ => cases hu'
  | none =>
  cases st' with
  | none => cases hst'
  | some sk =>
  obtain ⟨sk, tk⟩ := sk
  have hsk : sk = -1 := Option.some.inj (show some sk = some (-1 : Int) from hst')
  subst hsk
  show wpAny (model X.prog X.w) X.A (subscriptTail e (.Slice none none (some (.UnaryOp .USub (.Constant (.int 1) k p1) p2)) p3) (.str z t) (.ref s4.heap.objs.size)) (EP X pins σ Q) X.xe _
  refine tail_any (ops := [.ref s4.heap.objs.size, .str z t]) (typeIs_str _ _ _) (PySem.F.slot_str_getitem.lookup) ?_ (by with_unfolding_all rfl)
  have hle := PySem.Txt.sliceBy_le z none none (-1, tk) (show (-1 : Int) ≠ 0 by decide)
  refine PySem.wpAny_getItem_str_slice (l := none) (u := none) (st := some (-1, tk)) ⟨os, hos, hcs, hds⟩ rfl (PySem.post_val_or_str ⟨Nat.le_trans hle hz, fun t' c => ?_⟩)
  have e9 := rev_by z tk
  unfold PySem.Txt.sliceBy at e9
  exact ⟨.str (revS z), H4, I5.tok c, ⟨t', by rw [← e9]⟩, q⟩
theorem ev_revS {σ : L2.St} {H : Hp} {te : TE} {z : Str} (h : Ev te σ H (.str z)) (hz : z.length ≤ 100000) : Ev (tRevS te) σ H (.str (revS z)) := fun H1 e Q q => h H1 e _ fun H2 e2 => ⟨z, rfl, sz_of hz, q H2 e2⟩
theorem ev_slS {σ : L2.St} {H : Hp} {te : TE} {tl th : TO} {z : Str} {lo hi : Option Int} (h : Ev te σ H (.str z)) (h1 : EvO tl σ H lo) (h2 : EvO th σ H hi) (hz : z.length ≤ 100000) : Ev (tSl rSlS te tl th) σ H (.str (cutS z lo hi)) := fun H1 e Q q =>
  h H1 e _ fun H2 e2 => h1 H2 (e.trans e2) _ fun H3 e3 => h2 H3 ((e.trans e2).trans e3) _ fun H4 e4 => ⟨z, rfl, sz_of hz, q H4 ((e2.trans e3).trans e4)⟩
theorem ev_join {K : PySem.W.Frag} {σ : L2.St} {H : Hp} {to te : TE} {a : Str} {ys : List Str} (h : Ev to σ H (.str a)) (h2 : EvL te σ H (ys.map V.str)) (hz : (ys.map (·.length)).sum + ys.length * a.length ≤ 16777216) :
    Ev (tM1 (fun x xs H Q => ∃ a p, ∃ ys : List Str, x = .str a ∧ xs = [.ref p] ∧ (SqL K H p (ys.map V.str) ∨ SqT K H p (ys.map V.str)) ∧ (ys.map (·.length)).sum + ys.length * a.length ≤ 16777216 ∧ Q (.str (Txt.join a ys)) H) to te) σ H (.str (Txt.join a ys)) := fun H1 e Q q =>
  h H1 e _ fun H2 e2 => ⟨⟨a, rfl⟩, h2 H2 (e.trans e2) _ fun p H3 hp e3 h3 => ⟨a, p, ys, rfl, rfl, .inl (sq_of h3), hz, q H3 (e2.trans e3)⟩⟩
theorem cutS_to {l : List Nat} {i : Int} (h0 : 0 ≤ i) (h1 : i.toNat ≤ l.length) : cutS (SX.S l) none (some i) = SX.S (l.take i.toNat) := by
  have hl : (SX.S l).length = l.length := SX.S_len l
  unfold cutS
  rw [hl]
  have e2 : HT.sIx l.length l.length (some i) = i.toNat := by
    show (if i < 0 then (i + (l.length : Int)).toNat else min i.toNat l.length) = i.toNat
    rw [if_neg (by omega)]
    omega
  rw [e2]
  rfl
theorem cutS_from {l : List Nat} {i : Int} (h0 : 0 ≤ i) (h1 : i.toNat ≤ l.length) : cutS (SX.S l) (some i) none = SX.S (l.drop i.toNat) := by
  have hl : (SX.S l).length = l.length := SX.S_len l
  unfold cutS
  rw [hl]
  have e2 : HT.sIx l.length 0 (some i) = i.toNat := by
    show (if i < 0 then (i + (l.length : Int)).toNat else min i.toNat l.length) = i.toNat
    rw [if_neg (by omega)]
    omega
  rw [e2]
  show SX.S ((l.drop i.toNat).take (l.length - i.toNat)) = _
  rw [List.take_of_length_le (by rw [List.length_drop]; omega)]
theorem at_getD {L : List Nat} {i : Int} (h0 : 0 ≤ i) (h1 : i < (L.length : Int)) : atI L i = some (L.getD i.toNat 0) := by
  unfold atI ixN
  rw [if_pos h0, if_pos h1]
  have : i.toNat < L.length := by omega
  show L[i.toNat]? = _
  rw [List.getD_eq_getElem?_getD, List.getElem?_eq_getElem this]
  rfl
def gat (L : List Nat) (i : Int) : Nat := L.getD i.toNat 0
def nmS (c : Int) : List Nat := if mix c 10259 5 = 0 then figsS.cps.toList else signsS.cps.toList
def nmNear (L : List Nat) (k c : Int) : Nat := gat L ((k + c % (L.length : Int)) / (L.length : Int))
def nmTell (L : List Nat) (k c : Int) : Nat := gat L ((k + c) % (L.length : Int))
def nmT1 (L : List Nat) (c : Int) (n : Nat) : List Nat := (List.range n).map fun j : Nat => gat L ((c / 72 + 7 * (j : Int)) % (L.length : Int))
def nmT2 (L : List Nat) (k c : Int) (n : Nat) : List Nat := (List.range n).map fun j : Nat => gat L ((c / 72 + 7 * (j : Int) + k * (j : Int)) % (L.length : Int))
def nameL (L : List Nat) (k c : Int) : List Nat :=
  if mix c 10303 2 = 0 then
    (nmT1 L c (2 + mix c 10313 11).toNat).take (mix c 10321 (2 + mix c 10313 11 - 1)).toNat ++ [nmNear L k c] ++ [nmTell L k c] ++ (nmT1 L c (2 + mix c 10313 11).toNat).drop (mix c 10321 (2 + mix c 10313 11 - 1) + 2).toNat
  else if k < (L.length : Int) ∧ mix (c + 3 * k) 10253 8 = 0 then [nmTell L k c]
  else if c / 36 % 2 = 1 then ([nmNear L k c] ++ [nmTell L k c] ++ nmT2 L k c (mix (c + k) 10007 11).toNat).reverse
  else [nmNear L k c] ++ [nmTell L k c] ++ nmT2 L k c (mix (c + k) 10007 11).toNat
def nameBy (k c : Int) : Str := SX.S (nameL (nmS c) k c)
theorem nmS_ok (c : Int) : ((nmS c).length = 10 ∨ (nmS c).length = 36) ∧ (nmS c).Nodup ∧ ∀ x ∈ nmS c, isSign x = true := by
  unfold nmS
  split
  · exact ⟨.inl (by decide +kernel), by decide +kernel, by decide +kernel⟩
  · exact ⟨.inr (by decide +kernel), by decide +kernel, by decide +kernel⟩
theorem gat_mem {L : List Nat} {i : Int} (h1 : i.toNat < L.length) : gat L i ∈ L := by
  unfold gat
  rw [List.getD_eq_getElem?_getD, List.getElem?_eq_getElem h1]
  exact List.getElem_mem h1
theorem gat_inj {L : List Nat} (nd : L.Nodup) {i j : Int} (hi0 : 0 ≤ i) (hj0 : 0 ≤ j) (hi : i.toNat < L.length) (hj : j.toNat < L.length) (e : gat L i = gat L j) : i = j := by
  unfold gat at e
  rw [List.getD_eq_getElem?_getD, List.getD_eq_getElem?_getD, List.getElem?_eq_getElem hi, List.getElem?_eq_getElem hj] at e
  have e : L[i.toNat] = L[j.toNat] := e
  have key := List.pairwise_iff_getElem.mp nd
  rcases Nat.lt_trichotomy i.toNat j.toNat with h | h | h
  · exact absurd e (key _ _ hi hj h)
  · omega
  · exact absurd e.symm (key _ _ hj hi h)
theorem near_mem {L : List Nat} (hL : L.length = 10 ∨ L.length = 36) {k c : Int} (h0 : 0 ≤ k) (h1 : k ≤ 80) : ((k + c % (L.length : Int)) / (L.length : Int)).toNat < L.length ∧ 0 ≤ (k + c % (L.length : Int)) / (L.length : Int) := by
  rcases hL with hL | hL <;> rw [hL] <;> omega
theorem mod_mem {L : List Nat} (hL : L.length = 10 ∨ L.length = 36) (x : Int) : (x % (L.length : Int)).toNat < L.length ∧ 0 ≤ x % (L.length : Int) := by
  rcases hL with hL | hL <;> rw [hL] <;> omega
theorem nmT1_len (L : List Nat) (c : Int) (n : Nat) : (nmT1 L c n).length = n := by unfold nmT1; rw [List.length_map, List.length_range]
theorem nmT2_len (L : List Nat) (k c : Int) (n : Nat) : (nmT2 L k c n).length = n := by unfold nmT2; rw [List.length_map, List.length_range]
theorem nameBy_ok {k c : Int} (h0 : 0 ≤ k) (h1 : k ≤ 80) : isName (nameBy k c) = true := by
  obtain ⟨hL, hnd, hsg⟩ := nmS_ok c
  unfold nameBy
  generalize nmS c = L at *
  have hn : nmNear L k c ∈ L := gat_mem (near_mem hL h0 h1).1
  have ht : nmTell L k c ∈ L := gat_mem (mod_mem hL _).1
  have t1 : ∀ n, ∀ x ∈ nmT1 L c n, x ∈ L := fun n x hx => by
    unfold nmT1 at hx
    obtain ⟨j, _, rfl⟩ := List.mem_map.mp hx
    exact gat_mem (mod_mem hL _).1
  have t2 : ∀ n, ∀ x ∈ nmT2 L k c n, x ∈ L := fun n x hx => by
    unfold nmT2 at hx
    obtain ⟨j, _, rfl⟩ := List.mem_map.mp hx
    exact gat_mem (mod_mem hL _).1
  have key : 1 ≤ (nameL L k c).length ∧ (nameL L k c).length ≤ 12 ∧ ∀ x ∈ nameL L k c, x ∈ L := by
    unfold nameL
    have m0 := mix_nonneg (c := c) (p := 10313) (m := 11) (by decide)
    have m1 := mix_lt (c := c) (p := 10313) (m := 11) (by decide)
    have a0 := mix_nonneg (c := c) (p := 10321) (m := 2 + mix c 10313 11 - 1) (by omega)
    have a1 := mix_lt (c := c) (p := 10321) (m := 2 + mix c 10313 11 - 1) (by omega)
    have b0 := mix_nonneg (c := c + k) (p := 10007) (m := 11) (by decide)
    have b1 := mix_lt (c := c + k) (p := 10007) (m := 11) (by decide)
    split
    · simp only [List.length_append, List.length_take, List.length_drop, nmT1_len, List.length_singleton]
      refine ⟨by omega, by omega, fun x hx => ?_⟩
      simp only [List.mem_append, List.mem_singleton] at hx
      rcases hx with ((hx | rfl) | rfl) | hx
      · exact t1 _ _ (List.mem_of_mem_take hx)
      · exact hn
      · exact ht
      · exact t1 _ _ (List.mem_of_mem_drop hx)
    · split
      · exact ⟨Nat.le_refl 1, (by show 1 ≤ 12; decide), fun x hx => by rw [List.mem_singleton] at hx; rw [hx]; exact ht⟩
      · have key : 1 ≤ ([nmNear L k c] ++ [nmTell L k c] ++ nmT2 L k c (mix (c + k) 10007 11).toNat).length ∧ ([nmNear L k c] ++ [nmTell L k c] ++ nmT2 L k c (mix (c + k) 10007 11).toNat).length ≤ 12 ∧ ∀ x ∈ [nmNear L k c] ++ [nmTell L k c] ++ nmT2 L k c (mix (c + k) 10007 11).toNat, x ∈ L := by
          simp only [List.length_append, nmT2_len, List.length_singleton]
          refine ⟨by omega, by omega, fun x hx => ?_⟩
          simp only [List.mem_append, List.mem_singleton] at hx
          rcases hx with (rfl | rfl) | hx
          · exact hn
          · exact ht
          · exact t2 _ _ hx
        split
        · rw [List.length_reverse]
          exact ⟨key.1, key.2.1, fun x hx => key.2.2 x (List.mem_reverse.mp hx)⟩
        · exact key
  unfold isName
  rw [SX.S_len, decide_eq_true key.1, decide_eq_true key.2.1]
  exact List.all_eq_true.mpr fun x hx => hsg x (key.2.2 x hx)
theorem pair_inj {L : List Nat} (hL : L.length = 10 ∨ L.length = 36) (nd : L.Nodup) {k k' c : Int} (h0 : 0 ≤ k) (h1 : k ≤ 80) (h0' : 0 ≤ k') (h1' : k' ≤ 80) (e1 : nmNear L k c = nmNear L k' c) (e2 : nmTell L k c = nmTell L k' c) : k = k' := by
  have n1 := near_mem (c := c) hL h0 h1
  have n2 := near_mem (c := c) hL h0' h1'
  have m1 := mod_mem hL (k + c)
  have m2 := mod_mem hL (k' + c)
  have i1 := gat_inj nd n1.2 n2.2 n1.1 n2.1 e1
  have i2 := gat_inj nd m1.2 m2.2 m1.1 m2.1 e2
  rcases hL with hL | hL <;> rw [hL] at i1 i2 <;> omega
theorem nameBy_inj {k k' c : Int} (h0 : 0 ≤ k) (h1 : k ≤ 80) (h0' : 0 ≤ k') (h1' : k' ≤ 80) (e : nameBy k c = nameBy k' c) : k = k' := by
  obtain ⟨hL, hnd, hsg⟩ := nmS_ok c
  unfold nameBy at e
  have e := SX.S_inj e
  generalize nmS c = L at *
  have two : ∀ {a b a' b' : Nat} {r r' : List Nat}, [a] ++ [b] ++ r = [a'] ++ [b'] ++ r' → a = a' ∧ b = b' := fun h => by
    simp only [List.singleton_append, List.cons_append, List.nil_append, List.cons.injEq] at h
    exact ⟨h.1, h.2.1⟩
  unfold nameL at e
  by_cases hA : mix c 10303 2 = 0
  · rw [if_pos hA, if_pos hA, List.append_assoc, List.append_assoc, List.append_assoc, List.append_assoc] at e
    have e := List.append_cancel_left e
    rw [← List.append_assoc, ← List.append_assoc] at e
    obtain ⟨a, b⟩ := two e
    exact pair_inj hL hnd h0 h1 h0' h1' a b
  rw [if_neg hA, if_neg hA] at e
  by_cases hk : k < (L.length : Int) ∧ mix (c + 3 * k) 10253 8 = 0
  · by_cases hk' : k' < (L.length : Int) ∧ mix (c + 3 * k') 10253 8 = 0
    · rw [if_pos hk, if_pos hk'] at e
      have e2 : nmTell L k c = nmTell L k' c := by injection e
      have m1 := mod_mem hL (k + c)
      have m2 := mod_mem hL (k' + c)
      have i2 := gat_inj hnd m1.2 m2.2 m1.1 m2.1 e2
      have hk1 := hk.1
      have hk2 := hk'.1
      rcases hL with hL | hL <;> rw [hL] at i2 hk1 hk2 <;> omega
    · rw [if_pos hk, if_neg hk'] at e
      have := congrArg List.length e
      by_cases hR : c / 36 % 2 = 1
      · rw [if_pos hR] at this
        simp only [List.length_append, List.length_reverse, List.length_singleton] at this
        omega
      · rw [if_neg hR] at this
        simp only [List.length_append, List.length_singleton] at this
        omega
  · by_cases hk' : k' < (L.length : Int) ∧ mix (c + 3 * k') 10253 8 = 0
    · rw [if_neg hk, if_pos hk'] at e
      have := congrArg List.length e
      by_cases hR : c / 36 % 2 = 1
      · rw [if_pos hR] at this
        simp only [List.length_append, List.length_reverse, List.length_singleton] at this
        omega
      · rw [if_neg hR] at this
        simp only [List.length_append, List.length_singleton] at this
        omega
    · rw [if_neg hk, if_neg hk'] at e
      by_cases hR : c / 36 % 2 = 1
      · rw [if_pos hR, if_pos hR] at e
        obtain ⟨a, b⟩ := two (List.reverse_inj.mp e)
        exact pair_inj hL hnd h0 h1 h0' h1' a b
      · rw [if_neg hR, if_neg hR] at e
        obtain ⟨a, b⟩ := two e
        exact pair_inj hL hnd h0 h1 h0' h1' a b
theorem zz_name {k c : Int} (h0 : 0 ≤ k) (h1 : k ≤ 72) : nameBy k c ≠ "zzzzzzzzzzzz" := by
  intro e
  have e2 : nameL (nmS c) k c = List.replicate 12 122 := SX.S_inj (e.trans (show ("zzzzzzzzzzzz" : Str) = SX.S (List.replicate 12 122) by decide +kernel))
  have hn : nmNear (nmS c) k c ≠ 122 := by
    unfold nmNear nmS
    split
    · have hf : figsS.cps.toList.length = 10 := by decide +kernel
      have := (near_mem (L := figsS.cps.toList) (c := c) (.inl hf) h0 (by omega)).1
      have hz : ∀ x ∈ figsS.cps.toList, x ≠ 122 := by decide +kernel
      exact hz _ (gat_mem this)
    · have hf : signsS.cps.toList.length = 36 := by decide +kernel
      have h01 : (k + c % (signsS.cps.toList.length : Int)) / (signsS.cps.toList.length : Int) = 0 ∨ (k + c % (signsS.cps.toList.length : Int)) / (signsS.cps.toList.length : Int) = 1 ∨ (k + c % (signsS.cps.toList.length : Int)) / (signsS.cps.toList.length : Int) = 2 := by
        rw [hf]
        omega
      rcases h01 with h | h | h <;> rw [h] <;> decide +kernel
  have key : nmNear (nmS c) k c ∈ nameL (nmS c) k c ∨ (nameL (nmS c) k c).length = 1 := by
    unfold nameL
    split
    · exact .inl (by simp)
    split
    · exact .inr rfl
    split
    · exact .inl (by simp)
    · exact .inl (by simp)
  rw [e2] at key
  rcases key with h | h
  · exact hn (List.eq_of_mem_replicate h)
  · cases h
/-! ### L_room_by -/
theorem sc_L_room_by : FnScope ["_law_cell"] ["_law_cell"] (defScope s_L_room_by) := ⟨rfl, rfl, rfl, by decide +kernel, rfl, by decide +kernel, by decide +kernel⟩
def roomBy (c : Int) : Int := match (c % 3).toNat with | 0 => 1 + c / 3 % 4 | 1 => 7 | _ => 1 + c / 3 % 60
theorem roomBy_ok (c : Int) : 1 ≤ roomBy c ∧ roomBy c ≤ 60 := by
  unfold roomBy
  split <;> omega
def sp_L_room_by (_ : PySem.W.Frag) : Sp := fun vs H Q _ => ∃ (c : Int), vs = [.int c] ∧ RetV (.int (roomBy c)) H Q
theorem cv_L_room_by {K : PySem.W.Frag} {H : Hp} {c : Int} : SpV (sp_L_room_by K) ([.int c] ++ []) H (.int (roomBy c)) := spv_call fun _ _ _ _ k => ⟨c, rfl, k⟩
local macro_rules | `(tactic| tm_at "rr.cv") => `(tactic| exact cv_L_room_by)
theorem pick3 {a b c : V} {i : Int} (h0 : 0 ≤ i) (h3 : i < 3) : atI [a, b, c] i = some (match i.toNat with | 0 => a | 1 => b | _ => c) := by
  have : i = 0 ∨ i = 1 ∨ i = 2 := by omega
  rcases this with rfl | rfl | rfl <;> rfl
theorem ok_L_room_by {P : Program} {w : World} {K : PySem.W.Frag} {mg : Str → Option Value} {base : Heap} (T : Txt K mg) : ∃ fd, FnOk P w K mg base (CX0) 1 (He.ga K "_law_room_by") fd ["_law_cell"] (sp_L_room_by K) ∧ Binds K fd ["_law_cell"] [] ∧ FunD K "_law_room_by" "_law_room_by" (defArgs s_L_room_by) (defBody s_L_room_by) (defScope s_L_room_by) [] [] (He.ga K "_law_room_by") fd := by
  obtain ⟨fd, F⟩ := f_L_room_by T
  refine ⟨fd, ok0 F sc_L_room_by (fun vs H Q E h => ?_) (fun cdv A outer s H vs Q E hr h => ?_), FunD.bindsN F fun _ _ _ _ _ _ us hl => match us, hl with | [_], _ => rfl, F⟩
  · (repeat (obtain ⟨_, h⟩ := h)); subst_vars; rfl
  · obtain ⟨c, rfl, k⟩ := h
    refine ⟨_, (pss_one (ps_ret (pe_ix (ix_listK (K := K) rfl) (pe_lst (pa_cons (pe_op op_add pe_int (pe_op op_mod (pe_op op_fdiv (pv 0) pe_int) pe_int)) (pa_cons pe_int (pa_cons (pe_op op_add pe_int (pe_op op_mod (pe_op op_fdiv (pv 0) pe_int) pe_int)) pa_nil)))) (pe_op op_mod (pv 0) pe_int) (fun _ _ => rfl)))), ?_⟩
    have h0 : 0 ≤ c % 3 := by omega
    have h3 : c % 3 < 3 := by omega
    refine s_ret (v := .int (roomBy c)) ?h k
    refine' ev_opL1 (xs := [.int (1 + c / 3 % 4), .int 7, .int (1 + c / 3 % 60)]) (el_lst ?a ?z) (fun H1 e1 => ?i) (fun p H1 h e => rv_ixL (sq_of h) ?x)
    case a => tm_at "rr.ev"
    case z => show 3 ≤ 100000; decide
    case i => tm_at "rr.ev"
    case x =>
      rw [pick3 h0 h3]
      unfold roomBy
      split <;> rfl
/-! ### L_mix -/
theorem sc_L_mix : FnScope ["_law_cell", "_law_prime", "_law_many_here"] ["_law_cell", "_law_prime", "_law_many_here"] (defScope s_L_mix) := ⟨rfl, rfl, rfl, by decide +kernel, rfl, by decide +kernel, by decide +kernel⟩
def sp_L_mix (_ : PySem.W.Frag) : Sp := fun vs H Q _ => ∃ (c p m : Int), vs = [.int c, .int p, .int m] ∧ 0 < p ∧ 0 < m ∧ RetV (.int (mix c p m)) H Q
theorem cv_L_mix {K : PySem.W.Frag} {H : Hp} {c p m : Int} (h1 : 0 < p) (h2 : 0 < m) : SpV (sp_L_mix K) ([.int c, .int p, .int m] ++ []) H (.int (mix c p m)) := spv_call fun _ _ _ _ k => ⟨c, p, m, rfl, h1, h2, k⟩
local macro_rules | `(tactic| tm_at "rr.cv") => `(tactic| refine' cv_L_mix ?_ ?_)
theorem ok_L_mix {P : Program} {w : World} {K : PySem.W.Frag} {mg : Str → Option Value} {base : Heap} (T : Txt K mg) : ∃ fd, FnOk P w K mg base (CX0) 1 (He.ga K "_law_mix") fd ["_law_cell", "_law_prime", "_law_many_here"] (sp_L_mix K) ∧ Binds K fd ["_law_cell", "_law_prime", "_law_many_here"] [] ∧ FunD K "_law_mix" "_law_mix" (defArgs s_L_mix) (defBody s_L_mix) (defScope s_L_mix) [] [] (He.ga K "_law_mix") fd := by
  obtain ⟨fd, F⟩ := f_L_mix T
  refine ⟨fd, ok0 F sc_L_mix (fun vs H Q E h => ?_) (fun cdv A outer s H vs Q E hr h => ?_), FunD.bindsN F fun _ _ _ _ _ _ us hl => match us, hl with | [_, _, _], _ => rfl, F⟩
  · (repeat (obtain ⟨_, h⟩ := h)); subst_vars; rfl
  · obtain ⟨c, p, m, rfl, h1, h2, k⟩ := h
    refine ⟨_, (pss_one (ps_ret (pe_op op_mod (pe_op op_mod (pe_op op_mul (pv 0) pe_int) (pv 1)) (pv 2)))), ?_⟩
    refine' s_ret ?h k
    case h => tm_at "rr.ev"
/-! ### L_pace_by -/
theorem sc_L_pace_by : FnScope ["_law_cell"] ["_law_cell"] (defScope s_L_pace_by) := ⟨rfl, rfl, rfl, by decide +kernel, rfl, by decide +kernel, by decide +kernel⟩
def paceBy (c : Int) : Int := match (mix c 10069 4).toNat with | 0 => 1 | 1 => 2 | 2 => 3 | _ => 1 + mix c 10067 1000
theorem paceBy_ok (c : Int) : 1 ≤ paceBy c ∧ paceBy c ≤ 1000 := by
  have h1 := mix_nonneg (c := c) (p := 10067) (m := 1000) (by decide)
  have h2 := mix_lt (c := c) (p := 10067) (m := 1000) (by decide)
  unfold paceBy
  split <;> omega
def sp_L_pace_by (_ : PySem.W.Frag) : Sp := fun vs H Q _ => ∃ (c : Int), vs = [.int c] ∧ RetV (.int (paceBy c)) H Q
theorem cv_L_pace_by {K : PySem.W.Frag} {H : Hp} {c : Int} : SpV (sp_L_pace_by K) ([.int c] ++ []) H (.int (paceBy c)) := spv_call fun _ _ _ _ k => ⟨c, rfl, k⟩
local macro_rules | `(tactic| tm_at "rr.cv") => `(tactic| exact cv_L_pace_by)
theorem ok_L_pace_by {P : Program} {w : World} {K : PySem.W.Frag} {mg : Str → Option Value} {base : Heap} (T : Txt K mg) : ∃ fd, FnOk P w K mg base (CX0) 2 (He.ga K "_law_pace_by") fd ["_law_cell"] (sp_L_pace_by K) ∧ Binds K fd ["_law_cell"] [] ∧ FunD K "_law_pace_by" "_law_pace_by" (defArgs s_L_pace_by) (defBody s_L_pace_by) (defScope s_L_pace_by) [] [] (He.ga K "_law_pace_by") fd := by
  obtain ⟨fd, F⟩ := f_L_pace_by T
  obtain ⟨d_L_mix, G_L_mix, b_L_mix, _⟩ := ok_L_mix (P := P) (w := w) (base := base) T
  refine ⟨fd, ok0 F sc_L_pace_by (fun vs H Q E h => ?_) (fun cdv A outer s H vs Q E hr h => ?_), FunD.bindsN F fun _ _ _ _ _ _ us hl => match us, hl with | [_], _ => rfl, F⟩
  · (repeat (obtain ⟨_, h⟩ := h)); subst_vars; rfl
  · obtain ⟨c, rfl, k⟩ := h
    refine ⟨_, (pss_one (ps_ret (pe_ix (ix_listK (K := K) rfl) (pe_lst (pa_cons pe_int (pa_cons pe_int (pa_cons pe_int (pa_cons (pe_op op_add pe_int (pe_call G_L_mix (hr.mono (by decide)) rfl (g_L_mix T) (kp_L_mix T) b_L_mix .nil pass0 (pa_cons (pv 0) (pa_cons pe_int (pa_cons pe_int pa_nil))))) pa_nil))))) (pe_call G_L_mix (hr.mono (by decide)) rfl (g_L_mix T) (kp_L_mix T) b_L_mix .nil pass0 (pa_cons (pv 0) (pa_cons pe_int (pa_cons pe_int pa_nil)))) (fun _ _ => rfl)))), ?_⟩
    have h0 := mix_nonneg (c := c) (p := 10069) (m := 4) (by decide)
    have h4 := mix_lt (c := c) (p := 10069) (m := 4) (by decide)
    refine s_ret (v := .int (paceBy c)) ?h k
    refine' ev_opL1 (el_lst ?a ?z) (fun H1 e1 => ?i) (fun p H1 h e => rv_ixL (sq_of h) ?x)
    case a => tm_at "rr.ev"
    case z => show 4 ≤ 100000; decide
    case i => tm_at "rr.ev"
    case x =>
      rw [pick4 h0 h4]
      unfold paceBy
      split <;> rfl
/-! ### desk_init -/
theorem sc_desk_init : FnScope ["self", "pace", "room"] ["self", "pace", "room"] (defScope s_desk_init) := ⟨rfl, rfl, rfl, by decide +kernel, rfl, by decide +kernel, by decide +kernel⟩
def sp_desk_init (K : PySem.W.Frag) : Sp := fun vs H Q E => ∃ (x dx : Addr) (pa ro : Int), vs = [.ref x, .int pa, .int ro] ∧ H x = some (.ins (aD K) dx []) ∧
  ((1 ≤ pa ∧ pa ≤ 1000 ∧ 1 ≤ ro ∧ ro ≤ 60) → ∀ (H' : Hp) (l : Addr), DkAt K H' x ⟨pa, ro, 0, []⟩ l [] → H l = none → (∀ b o, H b = some o → b ≠ x → H' b = some o) → Q .non H') ∧
  (¬ (1 ≤ pa ∧ pa ≤ 1000 ∧ 1 ≤ ro ∧ ro ≤ 60) → ∀ H', Ex H H' → E (.ref (He.ga K "NoDesk")) none H')
theorem ok_desk_init {P : Program} {w : World} {K : PySem.W.Frag} {mg : Str → Option Value} {base : Heap} (T : Txt K mg) : ∃ fd, FnOk P w K mg base (L2.CX P w) 1 (He.ma K (He.ga K "Desk") "__init__") fd ["self", "pace", "room"] (sp_desk_init K) ∧ Binds K fd ["self", "pace", "room"] [] ∧ FunD K "__init__" "Desk.__init__" (defArgs s_desk_init) (defBody s_desk_init) (defScope s_desk_init) [] [] (He.ma K (He.ga K "Desk") "__init__") fd := by
  obtain ⟨fd, F⟩ := f_desk_init T
  obtain ⟨t_MOST_PACE, hk_MOST_PACE⟩ := k_MOST_PACE T
  obtain ⟨t_MOST_ROOM, hk_MOST_ROOM⟩ := k_MOST_ROOM T
  refine ⟨fd, okX F sc_desk_init (fun vs H Q E h => ?_) (fun cdv A outer s H vs Q E hr h => ?_), FunD.bindsN F fun _ _ _ _ _ _ us hl => match us, hl with | [_, _, _], _ => rfl, F⟩
  · (repeat (obtain ⟨_, h⟩ := h)); subst_vars; rfl
  · obtain ⟨x, dx, pa, ro, rfl, hx, k, kE⟩ := h
    refine ⟨_, (pss_cons (ps_if (PW.pt (pw_or (pt_cmpR op_lt (pv 1) pe_int (nomark _)) (pw_or (pt_cmpR op_gt (pv 1) (pe_glob (v := .int 1000) rfl hk_MOST_PACE ⟨_, rfl⟩) (nomark _)) (pw_or (pt_cmpR op_lt (pv 2) pe_int (nomark _)) (pw_or1 (pt_cmpR op_gt (pv 2) (pe_glob (v := .int 60) rfl hk_MOST_ROOM ⟨_, rfl⟩) (nomark _))))))) (pss_one (ps_raise rfl (takes_of rfl rfl rfl rfl) (pmk_own PySem.F.excBase_ValueError (x_NoDesk T).1 (g_NoDesk T) (x_NoDesk T).2.1 (raises_own (x_NoDesk T).2.2.1 (x_NoDesk T).2.2.2) rfl)))
        pss_nil)
        (pss_cons (ps_fld (pv 0) (pv 1) rfl)
        (pss_cons (ps_fld (pv 0) (pv 2) rfl)
        (pss_cons (ps_fld (pv 0) pe_int rfl)
        (pss_one (ps_fld (pv 0) (pe_lst pa_nil) rfl)))))), ?_⟩
    refine' q_when ?h (fun hb H1 e1 => ?_) (fun hb H1 e1 => ?_)
    case h => tm_at "rr.ev"
    · refine kE (fun ⟨h1, h2, h3, h4⟩ => ?_) H1 e1
      rw [decide_eq_false (by omega), decide_eq_false (by omega), decide_eq_false (by omega), decide_eq_false (by omega)] at hb
      exact absurd hb (by decide)
    · rw [Bool.or_eq_false_iff, Bool.or_eq_false_iff, Bool.or_eq_false_iff] at hb
      obtain ⟨h1, h2, h3, h4⟩ := hb
      have h1 := of_decide_eq_false h1
      have h2 := of_decide_eq_false h2
      have h3 := of_decide_eq_false h3
      have h4 := of_decide_eq_false h4
      have hx1 := e1 _ _ hx
      refine ⟨_, rfl, _, rfl, x, aD K, dx, _, rfl, hx1, c_Desk T, n_Desk_pace T, (by show 0 < 1000; decide), ?_⟩
      refine ⟨_, rfl, _, rfl, x, aD K, dx, _, rfl, upd_same, c_Desk T, n_Desk_room T, (by show 1 < 1000; decide), ?_⟩
      refine ⟨_, rfl, x, aD K, dx, _, rfl, upd_same, c_Desk T, n_Desk_now T, (by show 2 < 1000; decide), ?_⟩
      refine ⟨(by decide), fun l hl => ?_⟩
      rw [upd_upd, upd_upd] at hl ⊢
      have nlx : l ≠ x := fun e => by rw [e, upd_same] at hl; cases hl
      rw [upd_ne nlx] at hl
      refine ⟨_, rfl, x, aD K, dx, _, rfl, (by rw [upd_ne nlx.symm]; exact upd_same), c_Desk T, n_Desk_line T, (by show 3 < 1000; decide), ?_⟩
      refine k (by omega) _ l ⟨⟨dx, upd_same⟩, by rw [upd_ne nlx]; exact upd_same, rfl, fun q hq => by cases hq⟩ ?_ fun b o e hb => ?_
      · cases q : H l with
        | none => rfl
        | some o => rw [e1 _ _ q] at hl; cases hl
      · have e2 := e1 _ _ e
        rw [upd_ne hb, upd_ne (ne_of_none e2 hl), upd_ne hb]
        exact e2
/-! ### need -/
theorem sc_need : FnScope ["good"] ["good"] (defScope s_need) := ⟨rfl, rfl, rfl, by decide +kernel, rfl, by decide +kernel, by decide +kernel⟩
def sp_need (K : PySem.W.Frag) : Sp := fun vs H Q E => ∃ (b : Bool), vs = [.bl b] ∧ (b = false → ∀ H', Ex H H' → E (.ref (He.ga K "NoDesk")) none H') ∧ (b = true → ∀ H', Ex H H' → Q .non H')
theorem ok_need {P : Program} {w : World} {K : PySem.W.Frag} {mg : Str → Option Value} {base : Heap} (T : Txt K mg) : ∃ fd, FnOk P w K mg base (L2.CX P w) 1 (He.ga K "need") fd ["good"] (sp_need K) ∧ Binds K fd ["good"] [] ∧ FunD K "need" "need" (defArgs s_need) (defBody s_need) (defScope s_need) [] [] (He.ga K "need") fd := by
  obtain ⟨fd, F⟩ := f_need T
  refine ⟨fd, okX F sc_need (fun vs H Q E h => ?_) (fun cdv A outer s H vs Q E hr h => ?_), FunD.bindsN F fun _ _ _ _ _ _ us hl => match us, hl with | [_], _ => rfl, F⟩
  · (repeat (obtain ⟨_, h⟩ := h)); subst_vars; rfl
  · obtain ⟨b, rfl, kE, k⟩ := h
    refine ⟨_, (pss_one (ps_if (pt_not (pt_val (pv 0))) (pss_one (ps_raise rfl (takes_of rfl rfl rfl rfl) (pmk_own PySem.F.excBase_ValueError (x_NoDesk T).1 (g_NoDesk T) (x_NoDesk T).2.1 (raises_own (x_NoDesk T).2.2.1 (x_NoDesk T).2.2.2) rfl)))
        pss_nil)), ?_⟩
    refine s_when (b := !b) ?h (fun hb H1 e1 => ?_) (fun hb H1 e1 => ?_)
    case h => exact et_not (et_B (ev_var rfl))
    · exact kE (by simpa using hb) H1 e1
    · exact k (by simpa using hb) H1 e1
/-! ### number_of -/
theorem sc_number_of : FnScope ["word", "sign"] ["word"] (defScope s_number_of) := ⟨rfl, rfl, rfl, by decide +kernel, rfl, by decide +kernel, by decide +kernel⟩
def sp_number_of (K : PySem.W.Frag) : Sp := fun vs H Q E => ∃ (w : Str), vs = [.str w] ∧ w.length ≤ 100000 ∧ (numOf w = none → ∀ H', Ex H H' → E (.ref (He.ga K "NoDesk")) none H') ∧ (∀ n, numOf w = some n → RetV (.int n) H Q)
theorem ok_number_of {P : Program} {w : World} {K : PySem.W.Frag} {mg : Str → Option Value} {base : Heap} (T : Txt K mg) : ∃ fd, FnOk P w K mg base (L2.CX P w) 1 (He.ga K "number_of") fd ["word"] (sp_number_of K) ∧ Binds K fd ["word"] [] ∧ FunD K "number_of" "number_of" (defArgs s_number_of) (defBody s_number_of) (defScope s_number_of) [] [] (He.ga K "number_of") fd := by
  obtain ⟨fd, F⟩ := f_number_of T
  obtain ⟨t_FIGURES, hk_FIGURES⟩ := k_FIGURES T
  obtain ⟨t_MOST_FIGURES, hk_MOST_FIGURES⟩ := k_MOST_FIGURES T
  refine ⟨fd, okX F sc_number_of (fun vs H Q E h => ?_) (fun cdv A outer s H vs Q E hr h => ?_), FunD.bindsN F fun _ _ _ _ _ _ us hl => match us, hl with | [_], _ => rfl, F⟩
  · (repeat (obtain ⟨_, h⟩ := h)); subst_vars; rfl
  · obtain ⟨w, rfl, hz, kE, k⟩ := h
    refine ⟨_, (pss_cons (ps_if (PW.pt (pw_or (pt_cmpR op_eq (pv 0) pe_str (nomark _)) (pw_or1 (pt_cmpR op_gt (pe_callB call_len_str rfl (b_len T) (by decide +kernel) (pa_cons (pv 0) pa_nil)) (pe_glob (v := .int 12) rfl hk_MOST_FIGURES ⟨_, rfl⟩) (nomark _))))) (pss_one (ps_raise rfl (takes_of rfl rfl rfl rfl) (pmk_own PySem.F.excBase_ValueError (x_NoDesk T).1 (g_NoDesk T) (x_NoDesk T).2.1 (raises_own (x_NoDesk T).2.2.1 (x_NoDesk T).2.2.2) rfl)))
        pss_nil)
        (pss_cons (ps_for (passes_of rfl) rfl (pi_str (pv 0)) (pg_name (i := 1) sc_number_of.nd rfl (Or.inl rfl))
        (pss_one (ps_if (pt_cmpR op_notIn_sign (pv 1) (pe_glob (v := .str "0123456789") rfl hk_FIGURES ⟨_, rfl⟩) (by with_unfolding_all rfl)) (pss_one (ps_raise rfl (takes_of rfl rfl rfl rfl) (pmk_own PySem.F.excBase_ValueError (x_NoDesk T).1 (g_NoDesk T) (x_NoDesk T).2.1 (raises_own (x_NoDesk T).2.2.1 (x_NoDesk T).2.2.2) rfl)))
        pss_nil)))
        (pss_cons (ps_if (PW.pt (pw_and (pt_cmpR op_eq (pe_ix ix_str (pv 0) pe_int (fun _ _ => rfl)) pe_str (nomark _)) (pw_and1 (pt_cmpR op_gt (pe_callB call_len_str rfl (b_len T) (by decide +kernel) (pa_cons (pv 0) pa_nil)) pe_int (nomark _))))) (pss_one (ps_raise rfl (takes_of rfl rfl rfl rfl) (pmk_own PySem.F.excBase_ValueError (x_NoDesk T).1 (g_NoDesk T) (x_NoDesk T).2.1 (raises_own (x_NoDesk T).2.2.1 (x_NoDesk T).2.2.2) rfl)))
        pss_nil)
        (pss_one (ps_ret (pe_callTy call_int_str rfl (b_int T) (by decide +kernel) (pa_cons (pv 0) pa_nil))))))), ?_⟩
    refine q_when (b := decide (w = "") || decide (12 < w.length)) ?h (fun hb H1 e1 => ?_) (fun hb H1 e1 => ?_)
    case h =>
      rw [← decV]
      exact et_or (et_test (ev_op (ev_var rfl) ev_c (rv_eq rfl))) fun _ => et_is (et_test (ev_op (ev_cb (ea_cons (ev_var rfl) ea_nil) (rc_len_str (sz_of hz))) ev_c rv_I0)) (decide_eq_decide.mpr (by omega))
    · exact kE (by unfold numOf isNum; rw [hb]; rfl) H1 e1
    have hw : w ≠ "" := by
      rw [Bool.or_eq_false_iff] at hb
      exact of_decide_eq_false hb.1
    have hl : w.length ≤ 12 := by
      rw [Bool.or_eq_false_iff] at hb
      have := of_decide_eq_false hb.2
      omega
    have h1 := len0 hw
    refine q_forS (K := K) (x := w) (ev_var rfl) (fun i σ' H' => Ex H1 H' ∧ (∃ v, σ' = [some (.str w), v]) ∧ (w.cps.toList.take i).all isFig = true) (fun H2 e2 => ⟨e2, ⟨none, rfl⟩, rfl⟩) ?_ ?_
    · rintro i c σ' H' hc ⟨e2, ⟨v, rfl⟩, hall⟩
      refine s_when (b := !isFig c) ?h (fun hb3 H3 e3 => ?_) (fun hb3 H3 e3 => ?_)
      case h => exact et_test (ev_op (ev_var rfl) ev_c rv_notInS)
      · have e9 : w.cps.toList.all isFig = false := by
          rw [List.all_eq_false]
          exact ⟨c, List.mem_of_getElem? hc, by simpa using hb3⟩
        exact kE (by unfold numOf isNum; rw [hb, e9]; rfl) H3 ((e1.trans e2).trans e3)
      · refine ⟨e2.trans e3, ⟨_, rfl⟩, ?_⟩
        rw [List.take_succ, hc, List.all_append, hall]
        simpa using hb3
    · rintro σ' H' ⟨e2, ⟨v, rfl⟩, hall⟩
      have e9 : w.cps.toList.take w.length = w.cps.toList := List.take_of_length_le (by rw [Array.length_toList]; exact Nat.le_refl _)
      rw [e9] at hall
      obtain ⟨c, r, hcr⟩ : ∃ c r, w.cps.toList = c :: r := by
        cases e : w.cps.toList with
        | nil => rw [TL.len_tl, show TL.tl w = w.cps.toList from rfl, e] at h1; simp at h1
        | cons c r => exact ⟨c, r, rfl⟩
      have hz0 : zeroLead w = (decide (c = 48) && decide (1 < w.length)) := by
        unfold zeroLead
        rw [hcr]
        simp
      refine q_when (b := zeroLead w) ?h (fun hb3 H3 e3 => ?_) (fun hb3 H3 e3 => ?_)
      case h =>
        rw [hz0, ← dec0]
        exact et_and (et_test (ev_op (ev_op (ev_var rfl) ev_c (rv_ixS hz (by rw [hcr]; exact at0 c r))) ev_c (rv_eq rfl))) fun _ => et_is (et_test (ev_op (ev_cb (ea_cons (ev_var rfl) ea_nil) (rc_len_str (sz_of hz))) ev_c rv_I0)) (decide_eq_decide.mpr (by omega))
      · exact kE (by unfold numOf isNum; rw [hb, hall, hb3]; rfl) H3 ((e1.trans e2).trans e3)
      · have hn : numOf w = some ((NumText.digitsVal w.cps.toList : Nat) : Int) := by unfold numOf isNum; rw [hb, hall, hb3]; rfl
        refine s_ret (ev_cb (ea_cons (ev_var rfl) ea_nil) (rc_intS ?_ (by omega))) fun H4 e4 => k _ hn H4 (((e1.trans e2).trans e3).trans e4)
        have := SX.int_S (a := w.cps.toList) (List.all_eq_true.mpr fun c hc => by
          have := isFig_iff.mp (List.all_eq_true.mp hall c hc)
          rw [Bool.and_eq_true, decide_eq_true_eq, decide_eq_true_eq]
          exact this) (by rw [hcr]; simp) (by rw [Array.length_toList]; show w.length ≤ 4300; omega)
        rw [SX.S_tl] at this
        exact this
/-! ### desk_names -/
theorem sc_desk_names : FnScope ["self", "caller"] ["self"] (defScope s_desk_names) := ⟨rfl, rfl, rfl, by decide +kernel, rfl, by decide +kernel, by decide +kernel⟩
def sp_desk_names (K : PySem.W.Frag) : Sp := fun vs H Q _ => ∃ (p : Addr) (d : Dk) (l : Addr) (ps : List Pr), vs = [.ref p] ∧ DkAt K H p d l ps ∧ d.line.length ≤ 1000 ∧ RetL (d.line.map fun c => V.str c.nm) H Q
theorem cv_names {K : PySem.W.Frag} {H : Hp} {p l : Addr} {d : Dk} {ps : List Pr} (h : DkAt K H p d l ps) (hz : d.line.length ≤ 1000) : SpL (sp_desk_names K) (.ref p :: ([] ++ [])) H (d.line.map fun c => V.str c.nm) := spl_call fun _ e _ _ k => ⟨p, d, l, ps, rfl, h.ex e, hz, k⟩
theorem ok_desk_names {P : Program} {w : World} {K : PySem.W.Frag} {mg : Str → Option Value} {base : Heap} (T : Txt K mg) : ∃ fd, FnOk P w K mg base (CX0) 1 (He.ma K (He.ga K "Desk") "names") fd ["self"] (sp_desk_names K) ∧ Binds K fd ["self"] [] ∧ FunD K "names" "Desk.names" (defArgs s_desk_names) (defBody s_desk_names) (defScope s_desk_names) [] [] (He.ma K (He.ga K "Desk") "names") fd := by
  obtain ⟨fd, F⟩ := f_desk_names T
  refine ⟨fd, ok0 F sc_desk_names (fun vs H Q E h => ?_) (fun cdv A outer s H vs Q E hr h => ?_), FunD.bindsN F fun _ _ _ _ _ _ us hl => match us, hl with | [_], _ => rfl, F⟩
  · (repeat (obtain ⟨_, h⟩ := h)); subst_vars; rfl
  · obtain ⟨p, d, l, ps, rfl, D, hz, k⟩ := h
    refine ⟨_, (pss_one (ps_ret (pe_lc (own := [("caller", 1)]) (g := gName 1) (tt := tYes) rfl sc_desk_names.nd (pi_listK (K := K) rfl (pe_fldK (K := K) rfl (pv 0) rfl)) (blkOk_by (own := [("caller", 1)]) (N := ["self", "caller"]) (sc := defScope s_desk_names) (by decide +kernel)) (fun _ _ _ _ _ => (pg_name (i := 1) sc_desk_names.nd rfl (Or.inl rfl))) (fun _ _ _ _ _ => pts_nil) (fun _ _ _ _ _ => (pe_fldK (K := K) rfl (pv 1) rfl))))), ?_⟩
    have e1 : (ps.filter fun _ => true).map (fun q => V.str q.2.nm) = d.line.map fun c => V.str c.nm := by
      rw [filter_true, D.eq, List.map_map]
      rfl
    rw [← e1] at k
    exact s_retL (el_lcM (K := K) (ps := ps) (uu := fun q => V.ref q.1) (fun _ => true) (fun q => V.str q.2.nm) (ev_line T (ev_var rfl) D) (sq_of D.ln) (by rw [D.len]; omega) (fun _ => rfl) (fun _ _ _ _ => et_yes) fun q hq H1 e1 _ => ev_label T (ev_var rfl) ((D.at_ q hq).ex e1)) k
/-! ### is_name -/
theorem sc_is_name : FnScope ["text", "sign"] ["text"] (defScope s_is_name) := ⟨rfl, rfl, rfl, by decide +kernel, rfl, by decide +kernel, by decide +kernel⟩
def sp_is_name (_ : PySem.W.Frag) : Sp := fun vs H Q _ => ∃ (s : Str), vs = [.str s] ∧ s.length ≤ 100000 ∧ RetV (.bl (isName s)) H Q
theorem cv_is_name {K : PySem.W.Frag} {H : Hp} {s : Str} (h : s.length ≤ 100000) : SpV (sp_is_name K) ([.str s] ++ []) H (.bl (isName s)) := spv_call fun _ _ _ _ k => ⟨s, rfl, h, k⟩
local macro_rules | `(tactic| tm_at "rr.cv") => `(tactic| refine' cv_is_name ?_)
theorem ok_is_name {P : Program} {w : World} {K : PySem.W.Frag} {mg : Str → Option Value} {base : Heap} (T : Txt K mg) : ∃ fd, FnOk P w K mg base (CX0) 1 (He.ga K "is_name") fd ["text"] (sp_is_name K) ∧ Binds K fd ["text"] [] ∧ FunD K "is_name" "is_name" (defArgs s_is_name) (defBody s_is_name) (defScope s_is_name) [] [] (He.ga K "is_name") fd := by
  obtain ⟨fd, F⟩ := f_is_name T
  obtain ⟨t_SIGNS, hk_SIGNS⟩ := k_SIGNS T
  obtain ⟨t_MOST, hk_MOST⟩ := k_MOST T
  refine ⟨fd, ok0 F sc_is_name (fun vs H Q E h => ?_) (fun cdv A outer s H vs Q E hr h => ?_), FunD.bindsN F fun _ _ _ _ _ _ us hl => match us, hl with | [_], _ => rfl, F⟩
  · (repeat (obtain ⟨_, h⟩ := h)); subst_vars; rfl
  · obtain ⟨s, rfl, hz, k⟩ := h
    refine ⟨_, (pss_cons (ps_if (PW.pt (pw_or (pt_cmpR op_lt (pe_callB call_len_str rfl (b_len T) (by decide +kernel) (pa_cons (pv 0) pa_nil)) pe_int (nomark _)) (pw_or1 (pt_cmpR op_gt (pe_callB call_len_str rfl (b_len T) (by decide +kernel) (pa_cons (pv 0) pa_nil)) (pe_glob (v := .int 12) rfl hk_MOST ⟨_, rfl⟩) (nomark _))))) (pss_one (ps_ret pe_bl))
        pss_nil)
        (pss_cons (ps_for PassesOwn.never rfl (pi_str (pv 0)) (pg_name (i := 1) sc_is_name.nd rfl (Or.inl rfl))
        (pss_one (ps_if (pt_cmpR op_notIn_sign (pv 1) (pe_glob (v := .str "abcdefghijklmnopqrstuvwxyz0123456789") rfl hk_SIGNS ⟨_, rfl⟩) (by with_unfolding_all rfl)) (pss_one (ps_ret pe_bl))
        pss_nil)))
        (pss_one (ps_ret pe_bl)))), ?_⟩
    refine q_when (b := decide ((s.length : Int) < 1) || decide (12 < (s.length : Int))) ?h (fun hb H1 e1 => ?_) (fun hb H1 e1 => ?_)
    case h => exact et_or (et_test (ev_op (ev_cb (ea_cons (ev_var rfl) ea_nil) (rc_len_str (sz_of hz))) ev_c rv_I0)) fun _ => et_test (ev_op (ev_cb (ea_cons (ev_var rfl) ea_nil) (rc_len_str (sz_of hz))) ev_c rv_I0)
    · have e : isName s = false := by
        unfold isName
        rw [Bool.or_eq_true] at hb
        rcases hb with hb | hb
        · rw [decide_eq_false (by have := of_decide_eq_true hb; omega)]
          rfl
        · rw [decide_eq_false (p := s.length ≤ 12) (by have := of_decide_eq_true hb; omega), Bool.and_false]
          rfl
      rw [e] at k
      exact s_ret ev_c fun H2 e2 => k H2 (e1.trans e2)
    · rw [Bool.or_eq_false_iff] at hb
      have l1 := of_decide_eq_false hb.1
      have l2 := of_decide_eq_false hb.2
      have e : isName s = s.cps.toList.all isSign := by
        unfold isName
        rw [decide_eq_true (by omega), decide_eq_true (by omega)]
        rfl
      rw [e] at k
      refine q_forS (K := K) (x := s) (ev_var rfl) (fun i σ' H' => Ex H1 H' ∧ (∃ v, σ' = [some (.str s), v]) ∧ (s.cps.toList.take i).all isSign = true) (fun H2 e2 => ⟨e2, ⟨none, rfl⟩, rfl⟩) ?_ ?_
      · rintro i c σ' H' hc ⟨e2, ⟨v, rfl⟩, hall⟩
        refine s_when (b := !isSign c) ?h (fun hb H3 e3 => ?_) (fun hb H3 e3 => ?_)
        case h => exact et_test (ev_op (ev_var rfl) ev_c rv_notInS)
        · have e9 : s.cps.toList.all isSign = false := by
            rw [List.all_eq_false]
            exact ⟨c, List.mem_of_getElem? hc, by simpa using hb⟩
          rw [e9] at k
          exact s_ret ev_c fun H4 e4 => k H4 (((e1.trans e2).trans e3).trans e4)
        · refine ⟨e2.trans e3, ⟨_, rfl⟩, ?_⟩
          rw [List.take_succ, hc, List.all_append, hall]
          simpa using hb
      · rintro σ' H' ⟨e2, ⟨v, rfl⟩, hall⟩
        have e9 : s.cps.toList.take s.length = s.cps.toList := List.take_of_length_le (by rw [Array.length_toList]; exact Nat.le_refl _)
        rw [e9] at hall
        rw [hall] at k
        exact s_ret ev_c fun H4 e4 => k H4 ((e1.trans e2).trans e4)
/-! ### caller_init -/
theorem sc_caller_init : FnScope ["self", "label", "grade", "stand", "mark"] ["self", "label", "grade", "stand", "mark"] (defScope s_caller_init) := ⟨rfl, rfl, rfl, by decide +kernel, rfl, by decide +kernel, by decide +kernel⟩
def sp_caller_init (K : PySem.W.Frag) : Sp := fun vs H Q _ => ∃ (x dx : Addr) (a g s m : V), vs = [.ref x, a, g, s, m] ∧ H x = some (.ins (aC K) dx []) ∧ ∀ H' : Hp, H' x = some (.ins (aC K) dx (rfs a g s m)) → (∀ b o, H b = some o → b ≠ x → H' b = some o) → Q .non H'
theorem ok_caller_init {P : Program} {w : World} {K : PySem.W.Frag} {mg : Str → Option Value} {base : Heap} (T : Txt K mg) : ∃ fd, FnOk P w K mg base (CX0) 1 (He.ma K (He.ga K "Caller") "__init__") fd ["self", "label", "grade", "stand", "mark"] (sp_caller_init K) ∧ Binds K fd ["self", "label", "grade", "stand", "mark"] [] ∧ FunD K "__init__" "Caller.__init__" (defArgs s_caller_init) (defBody s_caller_init) (defScope s_caller_init) [] [] (He.ma K (He.ga K "Caller") "__init__") fd := by
  obtain ⟨fd, F⟩ := f_caller_init T
  refine ⟨fd, ok0 F sc_caller_init (fun vs H Q E h => ?_) (fun cdv A outer s H vs Q E hr h => ?_), FunD.bindsN F fun _ _ _ _ _ _ us hl => match us, hl with | [_, _, _, _, _], _ => rfl, F⟩
  · (repeat (obtain ⟨_, h⟩ := h)); subst_vars; rfl
  · obtain ⟨x, dx, a, g, s, m, rfl, hx, k⟩ := h
    refine ⟨_, (pss_cons (ps_fld (pv 0) (pv 1) rfl)
        (pss_cons (ps_fld (pv 0) (pv 2) rfl)
        (pss_cons (ps_fld (pv 0) (pv 3) rfl)
        (pss_one (ps_fld (pv 0) (pv 4) rfl))))), ?_⟩
    refine ⟨_, rfl, _, rfl, x, aC K, dx, _, rfl, hx, c_Caller T, n_Caller_label T, (by show 0 < 1000; decide), ?_⟩
    refine ⟨_, rfl, _, rfl, x, aC K, dx, _, rfl, upd_same, c_Caller T, n_Caller_grade T, (by show 1 < 1000; decide), ?_⟩
    refine ⟨_, rfl, _, rfl, x, aC K, dx, _, rfl, upd_same, c_Caller T, n_Caller_stand T, (by show 2 < 1000; decide), ?_⟩
    refine ⟨_, rfl, _, rfl, x, aC K, dx, _, rfl, upd_same, c_Caller T, n_Caller_mark T, (by show 3 < 1000; decide), ?_⟩
    rw [upd_upd, upd_upd, upd_upd]
    exact k _ upd_same fun b o e hb => by rw [upd_ne hb]; exact e
/-! ### caller_of -/
theorem sc_caller_of : FnScope ["desk", "words", "rank", "turns"] ["desk", "words"] (defScope s_caller_of) := ⟨rfl, rfl, rfl, by decide +kernel, rfl, by decide +kernel, by decide +kernel⟩
/-- a new caller comes -/
def EvC (K : PySem.W.Frag) (te : TE) (σ : L2.St) (H : Hp) (c : Cl) : Prop := ∀ H1, Ex H H1 → ∀ Q : VK, (∀ x H2, H1 x = none → Ex H1 H2 → CAt K H2 x c → Q (.ref x) H2) → te σ H1 Q
theorem ec_make {K : PySem.W.Frag} {σ : L2.St} {H : Hp} {ta : TA} {E : XK} {c : Cl} (h : EvA ta σ H [.str c.nm, .int c.rk, .str c.md.st, c.md.mark]) : EvC K (tMake (aC K) (sp_caller_init K) [] E ta) σ H c := fun H1 e Q q => h H1 e _ fun H2 e2 => fun x dx nx ndx nex =>
  ⟨x, dx, _, _, _, _, rfl, upd_same, fun H3 h3 k3 => ⟨rfl, q x H3 (fresh_back e2 nx) (fun b o hb => k3 b o (by rw [upd_ne (ne_of_none (e2 _ _ hb) nx), upd_ne (ne_of_none (e2 _ _ hb) ndx)]; exact e2 _ _ hb) (ne_of_none (e2 _ _ hb) nx)) ⟨dx, h3⟩⟩⟩
theorem s_retK {K : PySem.W.Frag} {σ : L2.St} {H : Hp} {te : TE} {D : Ends} {c : Cl} (h : EvC K te σ H c) (k : ∀ x H1, H x = none → Ex H H1 → CAt K H1 x c → D.rt (.ref x) H1) : tRet te D σ H := h H (Ex.refl H) _ k
theorem at4 {a b c d : Str} : atI ([a, b, c, d].map V.str) 0 = some (.str a) ∧ atI ([a, b, c, d].map V.str) 1 = some (.str b) ∧ atI ([a, b, c, d].map V.str) 2 = some (.str c) ∧ atI ([a, b, c, d].map V.str) 3 = some (.str d) := ⟨rfl, rfl, rfl, rfl⟩
def sp_caller_of (K : PySem.W.Frag) : Sp := fun vs H Q E => ∃ (p a : Addr) (d : Dk) (l : Addr) (ps : List Pr) (ws : List Str), vs = [.ref p, .ref a] ∧ DkAt K H p d l ps ∧ d.line.length ≤ 1000 ∧ SqL K H a (ws.map V.str) ∧ (∀ w ∈ ws, w.length ≤ 100000) ∧
  (callerOf d ws = none → ∀ H', Ex H H' → E (.ref (He.ga K "NoDesk")) none H') ∧ ∀ c, callerOf d ws = some c → ∀ x H', H x = none → Ex H H' → CAt K H' x c → Q (.ref x) H'
theorem ok_caller_of {P : Program} {w : World} {K : PySem.W.Frag} {mg : Str → Option Value} {base : Heap} (T : Txt K mg) : ∃ fd, FnOk P w K mg base (L2.CX P w) 3 (He.ga K "caller_of") fd ["desk", "words"] (sp_caller_of K) ∧ Binds K fd ["desk", "words"] [] ∧ FunD K "caller_of" "caller_of" (defArgs s_caller_of) (defBody s_caller_of) (defScope s_caller_of) [] [] (He.ga K "caller_of") fd := by
  obtain ⟨fd, F⟩ := f_caller_of T
  obtain ⟨d_need, G_need, b_need, _⟩ := ok_need (P := P) (w := w) (base := base) T
  obtain ⟨d_desk_names, G_desk_names, b_desk_names, _⟩ := ok_desk_names (P := P) (w := w) (base := base) T
  obtain ⟨d_is_name, G_is_name, b_is_name, _⟩ := ok_is_name (P := P) (w := w) (base := base) T
  obtain ⟨d_number_of, G_number_of, b_number_of, _⟩ := ok_number_of (P := P) (w := w) (base := base) T
  obtain ⟨d_caller_init, G_caller_init, b_caller_init, _⟩ := ok_caller_init (P := P) (w := w) (base := base) T
  obtain ⟨t_TOP, hk_TOP⟩ := k_TOP T
  obtain ⟨t_MOST_TURNS, hk_MOST_TURNS⟩ := k_MOST_TURNS T
  refine ⟨fd, okX F sc_caller_of (fun vs H Q E h => ?_) (fun cdv A outer s H vs Q E hr h => ?_), FunD.bindsN F fun _ _ _ _ _ _ us hl => match us, hl with | [_, _], _ => rfl, F⟩
  · (repeat (obtain ⟨_, h⟩ := h)); subst_vars; rfl
  · obtain ⟨p, a, d, l, ps, ws, rfl, D, hlen, hS, hz, kE, k⟩ := h
    refine ⟨_, (pss_cons (ps_expr (pe_call G_need (hr.mono (by decide)) rfl (g_need T) (kp_need T) b_need .nil (passes_call (takes_of rfl rfl rfl rfl) (fun _ _ _ _ h => h)) (pa_cons (pe_and (pe_cmpR op_eq (pe_callB (call_lenK (K := K) rfl) rfl (b_len T) (by decide +kernel) (pa_cons (pv 1) pa_nil)) pe_int (nomark _)) (pe_and (pe_call G_is_name (hr.mono (by decide)) rfl (g_is_name T) (kp_is_name T) b_is_name .nil pass0 (pa_cons (pe_ix (ix_listK (K := K) rfl) (pv 1) pe_int (fun _ _ => rfl)) pa_nil)) (pe_one (pe_cmpR (op_notInK (K := K) rfl) (pe_ix (ix_listK (K := K) rfl) (pv 1) pe_int (fun _ _ => rfl)) (pe_meth0 (pv 0) (c_Desk T) (m_desk_names T) G_desk_names (hr.mono (by decide)) b_desk_names .nil pass0) (by with_unfolding_all rfl))))) pa_nil)))
        (pss_cons (ps_set (i := 2) sc_caller_of.nd rfl (Or.inl rfl) (pe_call G_number_of (hr.mono (by decide)) rfl (g_number_of T) (kp_number_of T) b_number_of .nil (passes_call (takes_of rfl rfl rfl rfl) (fun _ _ _ _ h => h)) (pa_cons (pe_ix (ix_listK (K := K) rfl) (pv 1) pe_int (fun _ _ => rfl)) pa_nil)))
        (pss_cons (ps_expr (pe_call G_need (hr.mono (by decide)) rfl (g_need T) (kp_need T) b_need .nil (passes_call (takes_of rfl rfl rfl rfl) (fun _ _ _ _ h => h)) (pa_cons (pe_and (pe_cmpR op_le (pv 2) (pe_glob (v := .int 99) rfl hk_TOP ⟨_, rfl⟩) (nomark _)) (pe_one (pe_cmpR op_lt (pe_callB (call_lenK (K := K) rfl) rfl (b_len T) (by decide +kernel) (pa_cons (pe_fldK (K := K) rfl (pv 0) rfl) pa_nil)) (pe_fldK (K := K) rfl (pv 0) rfl) (nomark _)))) pa_nil)))
        (pss_cons (ps_if (pt_cmpR op_eq (pe_ix (ix_listK (K := K) rfl) (pv 1) pe_int (fun _ _ => rfl)) pe_str (nomark _)) (pss_cons (ps_expr (pe_call G_need (hr.mono (by decide)) rfl (g_need T) (kp_need T) b_need .nil (passes_call (takes_of rfl rfl rfl rfl) (fun _ _ _ _ h => h)) (pa_cons (pe_call G_is_name (hr.mono (by decide)) rfl (g_is_name T) (kp_is_name T) b_is_name .nil pass0 (pa_cons (pe_ix (ix_listK (K := K) rfl) (pv 1) pe_int (fun _ _ => rfl)) pa_nil)) pa_nil)))
        (pss_one (ps_ret (pe_make (mk_Caller T) G_caller_init (hr.mono (by decide)) rfl (g_Caller T) b_caller_init .nil pass0 (pa_cons (pe_ix (ix_listK (K := K) rfl) (pv 1) pe_int (fun _ _ => rfl)) (pa_cons (pv 2) (pa_cons pe_str (pa_cons (pe_ix (ix_listK (K := K) rfl) (pv 1) pe_int (fun _ _ => rfl)) pa_nil))))))))
        pss_nil)
        (pss_cons (ps_set (i := 3) sc_caller_of.nd rfl (Or.inl rfl) (pe_call G_number_of (hr.mono (by decide)) rfl (g_number_of T) (kp_number_of T) b_number_of .nil (passes_call (takes_of rfl rfl rfl rfl) (fun _ _ _ _ h => h)) (pa_cons (pe_ix (ix_listK (K := K) rfl) (pv 1) pe_int (fun _ _ => rfl)) pa_nil)))
        (pss_cons (ps_if (pt_cmpR op_eq (pe_ix (ix_listK (K := K) rfl) (pv 1) pe_int (fun _ _ => rfl)) pe_str (nomark _)) (pss_cons (ps_expr (pe_call G_need (hr.mono (by decide)) rfl (g_need T) (kp_need T) b_need .nil (passes_call (takes_of rfl rfl rfl rfl) (fun _ _ _ _ h => h)) (pa_cons (pe_cmpR op_le (pv 3) (pe_fldK (K := K) rfl (pv 0) rfl) (nomark _)) pa_nil)))
        (pss_one (ps_ret (pe_make (mk_Caller T) G_caller_init (hr.mono (by decide)) rfl (g_Caller T) b_caller_init .nil pass0 (pa_cons (pe_ix (ix_listK (K := K) rfl) (pv 1) pe_int (fun _ _ => rfl)) (pa_cons (pv 2) (pa_cons pe_str (pa_cons (pe_op op_sub (pe_fldK (K := K) rfl (pv 0) rfl) (pv 3)) pa_nil))))))))
        pss_nil)
        (pss_cons (ps_expr (pe_call G_need (hr.mono (by decide)) rfl (g_need T) (kp_need T) b_need .nil (passes_call (takes_of rfl rfl rfl rfl) (fun _ _ _ _ h => h)) (pa_cons (pe_and (pe_cmpR op_eq (pe_ix (ix_listK (K := K) rfl) (pv 1) pe_int (fun _ _ => rfl)) pe_str (nomark _)) (pe_and (pe_cmpR op_le pe_int (pv 3) (nomark _)) (pe_one (pe_cmpR op_le (pv 3) (pe_glob (v := .int 1000) rfl hk_MOST_TURNS ⟨_, rfl⟩) (nomark _))))) pa_nil)))
        (pss_one (ps_ret (pe_make (mk_Caller T) G_caller_init (hr.mono (by decide)) rfl (g_Caller T) b_caller_init .nil pass0 (pa_cons (pe_ix (ix_listK (K := K) rfl) (pv 1) pe_int (fun _ _ => rfl)) (pa_cons (pv 2) (pa_cons pe_str (pa_cons (pe_op op_add (pe_fldK (K := K) rfl (pv 0) rfl) (pv 3)) pa_nil)))))))))))))), ?_⟩
    obtain ⟨dx, hp⟩ := D.ob
    by_cases h4 : ws.length = 4
    case neg =>
      refine q_dcall (vs := [.bl false]) ?h fun H1 e1 => ⟨false, rfl, fun _ H2 e2 => kE ?hn H2 (e1.trans e2), fun h => by cases h⟩
      case hn =>
        unfold callerOf
        split
        · exact absurd rfl h4
        · rfl
      case h =>
        refine ea_cons ?_ ea_nil
        refine ev_is (ev_andV (a := false) (b := false) (ev_is (ev_op (ev_cb (ea_cons (ev_var rfl) ea_nil) (rc_lenS hS)) ev_c (rv_eq rfl)) ?_) (fun h => by cases h)) rfl
        refine congrArg V.bl (decide_eq_false fun h => h4 ?_)
        rw [List.length_map] at h
        injection h with h
        omega
    obtain ⟨nm, r, st, m, rfl⟩ : ∃ a b c d, ws = [a, b, c, d] := by
      match ws, h4 with
      | [a, b, c, d], _ => exact ⟨a, b, c, d, rfl⟩
    have a0 : atI ([nm, r, st, m].map V.str) 0 = some (.str nm) := at4.1
    have a1 : atI ([nm, r, st, m].map V.str) 1 = some (.str r) := at4.2.1
    have a2 : atI ([nm, r, st, m].map V.str) 2 = some (.str st) := at4.2.2.1
    have a3 : atI ([nm, r, st, m].map V.str) 3 = some (.str m) := at4.2.2.2
    have z0 := hz nm (by simp)
    have z1 := hz r (by simp)
    have z3 := hz m (by simp)
    unfold callerOf at kE k
    dsimp only at kE k
    refine q_dcall (vs := [.bl (isName nm && !decide (nm ∈ d.line.map (·.nm)))]) ?h fun H1 e1 => ⟨_, rfl, fun hb H2 e2 => kE (if_pos hb) H2 (e1.trans e2), fun hb H2 e2 => ?_⟩
    case h =>
      refine ea_cons ?_ ea_nil
      refine ev_is (ev_andV (a := true) (b := isName nm && !decide (nm ∈ d.line.map (·.nm))) (ev_is (ev_op (ev_cb (ea_cons (ev_var rfl) ea_nil) (rc_lenS hS)) ev_c (rv_eq rfl)) (congrArg V.bl (decide_eq_true rfl))) (fun _ => ?_)) rfl
      refine ev_andV (ev_call (ea_cons (ev_op (ev_var rfl) ev_c (rv_ixL hS a0)) ea_nil) (cv_is_name z0)) fun _ => ?_
      rw [← inV_names]
      exact ev_opL (ev_op (ev_var rfl) ev_c (rv_ixL hS a0)) (el_meth (ev_var rfl) hp rfl ea_nil (cv_names D hlen)) fun q H1 h e => rv_niL (sq_of h) rfl (flat_names _)
    have nb : ¬ (isName nm && !decide (nm ∈ d.line.map (·.nm))) = false := by rw [hb]; decide
    rw [if_neg nb] at kE k
    have e12 := e1.trans e2
    clear e1 e2 hb nb
    refine q_call (vs := [.str r]) (ea_cons (ev_op (ev_var rfl) ev_c (rv_ixL (ex_l e12 hS) a1)) ea_nil) fun H3 e3 => ⟨r, rfl, z1, fun hn H4 e4 => kE (by rw [hn]) H4 ((e12.trans e3).trans e4), fun rk hn H4 e4 => ?_⟩
    rw [hn] at kE k
    dsimp only at kE k
    have e14 := (e12.trans e3).trans e4
    clear e12 e3 e4 hn
    have D4 := D.ex e14
    have hln := D.len
    have hll : ((ps.map fun q => V.ref q.1).length : Int) = (d.line.length : Int) := by rw [List.length_map]; omega
    refine q_dcall (vs := [.bl (decide (rk ≤ 99) && decide ((d.line.length : Int) < d.room))]) ?h fun H5 e5 => ⟨_, rfl, fun hb H6 e6 => kE (if_pos hb) H6 ((e14.trans e5).trans e6), fun hb H6 e6 => ?_⟩
    case h =>
      refine ea_cons ?_ ea_nil
      refine ev_andV (ev_op (ev_var rfl) ev_c rv_I0) fun _ => ?_
      rw [← hll]
      exact ev_op (ev_cb (ea_cons (ev_line T (ev_var rfl) D4) ea_nil) (rc_lenS (sq_of D4.ln))) (ev_room T (ev_var rfl) D4) rv_I0
    have nb : ¬ (decide (rk ≤ 99) && decide ((d.line.length : Int) < d.room)) = false := by rw [hb]; decide
    rw [if_neg nb] at kE k
    have e16 := (e14.trans e5).trans e6
    clear e5 e6 hb nb D4 e14
    refine q_when (b := decide (st = "waiting")) ?h (fun hb H7 e7 => ?_) (fun hb H7 e7 => ?_)
    case h =>
      rw [← decV]
      exact et_test (ev_op (ev_op (ev_var rfl) ev_c (rv_ixL (ex_l e16 hS) a2)) ev_c (rv_eq rfl))
    · rw [if_pos (of_decide_eq_true hb)] at kE k
      have e17 := e16.trans e7
      refine q_dcall (vs := [.bl (isName m)]) (ea_cons (ev_call (ea_cons (ev_op (ev_var rfl) ev_c (rv_ixL (ex_l e17 hS) a3)) ea_nil) (cv_is_name z3)) ea_nil) fun H8 e8 => ⟨_, rfl, fun hb H9 e9 => kE (if_pos hb) H9 ((e17.trans e8).trans e9), fun hb H9 e9 => ?_⟩
      have nb : ¬ isName m = false := by rw [hb]; decide
      rw [if_neg nb] at k
      have e19 := (e17.trans e8).trans e9
      exact s_retK (ec_make (c := ⟨nm, rk, .wtg m⟩) (ea_cons (ev_op (ev_var rfl) ev_c (rv_ixL (ex_l e19 hS) a0)) (ea_cons (ev_var rfl) (ea_cons ev_c (ea_cons (ev_op (ev_var rfl) ev_c (rv_ixL (ex_l e19 hS) a3)) ea_nil))))) fun x H' nx e C => k _ rfl x H' (fresh_back e19 nx) (e19.trans e) C
    rw [if_neg (of_decide_eq_false hb)] at kE k
    have e17 := e16.trans e7
    clear e16 e7 hb
    refine q_call (vs := [.str m]) (ea_cons (ev_op (ev_var rfl) ev_c (rv_ixL (ex_l e17 hS) a3)) ea_nil) fun H8 e8 => ⟨m, rfl, z3, fun hn H9 e9 => kE (by rw [hn]) H9 ((e17.trans e8).trans e9), fun t hn H9 e9 => ?_⟩
    rw [hn] at kE k
    dsimp only at kE k
    have e19 := (e17.trans e8).trans e9
    clear e17 e8 e9 hn
    refine q_when (b := decide (st = "ready")) ?h (fun hb H10 e10 => ?_) (fun hb H10 e10 => ?_)
    case h =>
      rw [← decV]
      exact et_test (ev_op (ev_op (ev_var rfl) ev_c (rv_ixL (ex_l e19 hS) a2)) ev_c (rv_eq rfl))
    · rw [if_pos (of_decide_eq_true hb)] at kE k
      have e20 := e19.trans e10
      refine q_dcall (vs := [.bl (decide (t ≤ d.now))]) (ea_cons (ev_op (ev_var rfl) (ev_now T (ev_var rfl) (D.ex e20)) rv_I0) ea_nil) fun H11 e11 => ⟨_, rfl, fun hb H12 e12 => kE (if_neg (of_decide_eq_false hb)) H12 ((e20.trans e11).trans e12), fun hb H12 e12 => ?_⟩
      rw [if_pos (of_decide_eq_true hb)] at k
      have e22 := (e20.trans e11).trans e12
      exact s_retK (ec_make (c := ⟨nm, rk, .rdy (d.now - t)⟩) (ea_cons (ev_op (ev_var rfl) ev_c (rv_ixL (ex_l e22 hS) a0)) (ea_cons (ev_var rfl) (ea_cons ev_c (ea_cons (ev_op (ev_now T (ev_var rfl) (D.ex e22)) (ev_var rfl) rv_I0) ea_nil))))) fun x H' nx e C => k _ rfl x H' (fresh_back e22 nx) (e22.trans e) C
    rw [if_neg (of_decide_eq_false hb)] at kE k
    have e20 := e19.trans e10
    clear e19 e10 hb
    refine q_dcall (vs := [.bl (decide (st = "asleep") && (decide (1 ≤ t) && decide (t ≤ 1000)))]) ?h fun H11 e11 => ⟨_, rfl, fun hb H12 e12 => kE (if_pos hb) H12 ((e20.trans e11).trans e12), fun hb H12 e12 => ?_⟩
    case h =>
      rw [← decV]
      exact ea_cons (ev_andV (ev_op (ev_op (ev_var rfl) ev_c (rv_ixL (ex_l e20 hS) a2)) ev_c (rv_eq rfl)) fun _ => ev_andV (ev_op ev_c (ev_var rfl) rv_I0) fun _ => ev_op (ev_var rfl) ev_c rv_I0) ea_nil
    have nb : ¬ (decide (st = "asleep") && (decide (1 ≤ t) && decide (t ≤ 1000))) = false := by rw [hb]; decide
    rw [if_neg nb] at k
    have e22 := (e20.trans e11).trans e12
    exact s_retK (ec_make (c := ⟨nm, rk, .slp (d.now + t)⟩) (ea_cons (ev_op (ev_var rfl) ev_c (rv_ixL (ex_l e22 hS) a0)) (ea_cons (ev_var rfl) (ea_cons ev_c (ea_cons (ev_op (ev_now T (ev_var rfl) (D.ex e22)) (ev_var rfl) rv_I0) ea_nil))))) fun x H' nx e C => k _ rfl x H' (fresh_back e22 nx) (e22.trans e) C
/-! ### read -/
theorem sc_read : FnScope ["text", "rows", "words", "desk", "row"] ["text"] (defScope s_read) := ⟨rfl, rfl, rfl, by decide +kernel, rfl, by decide +kernel, by decide +kernel⟩
def sp_read (K : PySem.W.Frag) : Sp := fun vs H Q E => ∃ (t : Str), vs = [.str t] ∧ t.length ≤ 20000 ∧ (readD t = none → ∀ H', Ex H H' → E (.ref (He.ga K "NoDesk")) none H') ∧
  ∀ d, readD t = some d → ∀ p H', H p = none → DeskAt K H H' p d → Q (.ref p) H'
theorem ok_read {P : Program} {w : World} {K : PySem.W.Frag} {mg : Str → Option Value} {base : Heap} (T : Txt K mg) : ∃ fd, FnOk P w K mg base (L2.CX P w) 4 (He.ga K "read") fd ["text"] (sp_read K) ∧ Binds K fd ["text"] [] ∧ FunD K "read" "read" (defArgs s_read) (defBody s_read) (defScope s_read) [] [] (He.ga K "read") fd := by
  obtain ⟨fd, F⟩ := f_read T
  obtain ⟨d_need, G_need, b_need, _⟩ := ok_need (P := P) (w := w) (base := base) T
  obtain ⟨d_desk_init, G_desk_init, b_desk_init, _⟩ := ok_desk_init (P := P) (w := w) (base := base) T
  obtain ⟨d_number_of, G_number_of, b_number_of, _⟩ := ok_number_of (P := P) (w := w) (base := base) T
  obtain ⟨d_caller_of, G_caller_of, b_caller_of, _⟩ := ok_caller_of (P := P) (w := w) (base := base) T
  refine ⟨fd, okX F sc_read (fun vs H Q E h => ?_) (fun cdv A outer s H vs Q E hr h => ?_), FunD.bindsN F fun _ _ _ _ _ _ us hl => match us, hl with | [_], _ => rfl, F⟩
  · (repeat (obtain ⟨_, h⟩ := h)); subst_vars; rfl
  · obtain ⟨t, rfl, hz, kE, k⟩ := h
    refine ⟨_, (pss_cons (ps_set (i := 1) sc_read.nd rfl (Or.inl rfl) (pe_split (pv 0) pe_str))
        (pss_cons (ps_expr (pe_call G_need (hr.mono (by decide)) rfl (g_need T) (kp_need T) b_need .nil (passes_call (takes_of rfl rfl rfl rfl) (fun _ _ _ _ h => h)) (pa_cons (pe_and (pe_cmpR op_gt (pe_callB (call_lenK (K := K) rfl) rfl (b_len T) (by decide +kernel) (pa_cons (pv 1) pa_nil)) pe_int (nomark _)) (pe_one (pe_cmpR op_eq (pe_ix (ix_listK (K := K) rfl) (pv 1) (pe_un un_neg pe_int) (fun _ _ => rfl)) pe_str (nomark _)))) pa_nil)))
        (pss_cons (ps_set (i := 2) sc_read.nd rfl (Or.inl rfl) (pe_split (pe_ix (ix_listK (K := K) rfl) (pv 1) pe_int (fun _ _ => rfl)) pe_str))
        (pss_cons (ps_expr (pe_call G_need (hr.mono (by decide)) rfl (g_need T) (kp_need T) b_need .nil (passes_call (takes_of rfl rfl rfl rfl) (fun _ _ _ _ h => h)) (pa_cons (pe_and (pe_cmpR op_eq (pe_callB (call_lenK (K := K) rfl) rfl (b_len T) (by decide +kernel) (pa_cons (pv 2) pa_nil)) pe_int (nomark _)) (pe_one (pe_cmpR op_eq (pe_ix (ix_listK (K := K) rfl) (pv 2) pe_int (fun _ _ => rfl)) pe_str (nomark _)))) pa_nil)))
        (pss_cons (ps_set (i := 3) sc_read.nd rfl (Or.inl rfl) (pe_make (mk_Desk T) G_desk_init (hr.mono (by decide)) rfl (g_Desk T) b_desk_init .nil (passes_call (takes_of rfl rfl rfl rfl) (fun _ _ _ _ h => h)) (pa_cons (pe_call G_number_of (hr.mono (by decide)) rfl (g_number_of T) (kp_number_of T) b_number_of .nil (passes_call (takes_of rfl rfl rfl rfl) (fun _ _ _ _ h => h)) (pa_cons (pe_ix (ix_listK (K := K) rfl) (pv 2) pe_int (fun _ _ => rfl)) pa_nil)) (pa_cons (pe_call G_number_of (hr.mono (by decide)) rfl (g_number_of T) (kp_number_of T) b_number_of .nil (passes_call (takes_of rfl rfl rfl rfl) (fun _ _ _ _ h => h)) (pa_cons (pe_ix (ix_listK (K := K) rfl) (pv 2) pe_int (fun _ _ => rfl)) pa_nil)) pa_nil))))
        (pss_cons (ps_fld (pv 3) (pe_call G_number_of (hr.mono (by decide)) rfl (g_number_of T) (kp_number_of T) b_number_of .nil (passes_call (takes_of rfl rfl rfl rfl) (fun _ _ _ _ h => h)) (pa_cons (pe_ix (ix_listK (K := K) rfl) (pv 2) pe_int (fun _ _ => rfl)) pa_nil)) rfl)
        (pss_cons (ps_for (passes_of rfl) rfl (pi_listK (K := K) rfl (pe_slice (sl_listK (K := K) rfl) (pv 1) (po_some pe_int) (po_some (pe_un un_neg pe_int)))) (pg_name (i := 4) sc_read.nd rfl (Or.inl rfl))
        (pss_one (ps_expr (pe_bm PySem.F.plainAttrs_list PySem.F.slot_list_append PySem.F.type_list_append mt_append (pe_fldK (K := K) rfl (pv 3) rfl) (pa_cons (pe_call G_caller_of (hr.mono (by decide)) rfl (g_caller_of T) (kp_caller_of T) b_caller_of .nil (passes_call (takes_of rfl rfl rfl rfl) (fun _ _ _ _ h => h)) (pa_cons (pv 3) (pa_cons (pe_split (pv 4) pe_str) pa_nil))) pa_nil)))))
        (pss_one (ps_ret (pv 3)))))))))), ?_⟩
    refine q_asgL (el_split (ev_var rfl) ev_c nl_ok.2.2 (by omega)) fun a H1 na e1 ha => ?_
    have hpc := split_piece (a := t) nl_ok.1 nl_ok.2.1
    have hcnt := split_le t "\n"
    unfold readD at kE k
    generalize Txt.split t "\n" = rows at *
    have hS := sq_of (K := K) ha
    refine q_dcall (vs := [.bl (decide (1 < rows.length) && decide (rows.getLast? = some ("" : Str)))]) ?h fun H2 e2 => ⟨_, rfl, fun hb H3 e3 => kE (if_pos hb) H3 ((e1.trans e2).trans e3), fun hb H3 e3 => ?_⟩
    case h =>
      refine ea_cons (ev_andV ?_ fun hb => ?_) ea_nil
      · refine ev_is (ev_op (ev_cb (ea_cons (ev_var rfl) ea_nil) (rc_lenS hS)) ev_c rv_I0) (congrArg V.bl (decide_eq_decide.mpr ?_))
        rw [List.length_map]
        omega
      · have h1 : 1 < rows.length := of_decide_eq_true hb
        obtain ⟨w, hw⟩ : ∃ w, rows[rows.length - 1]? = some w := ⟨_, List.getElem?_eq_getElem (by omega)⟩
        have hw2 : rows.getLast? = some w := by rw [List.getLast?_eq_getElem?]; exact hw
        have hat : atI (rows.map V.str) (-1) = some (.str w) := by
          unfold atI ixN
          rw [if_neg (by decide), if_pos (by rw [List.length_map]; omega), List.length_map]
          have : ((-1 : Int) + (rows.length : Int)).toNat = rows.length - 1 := by omega
          rw [this]
          show (rows.map V.str)[rows.length - 1]? = _
          rw [List.getElem?_map, hw]
          rfl
        rw [hw2]
        refine ev_is (ev_op (ev_op (ev_var rfl) (ev_un ev_c ru_neg) (rv_ixL hS hat)) ev_c (rv_eq rfl)) ?_
        rw [decV]
        exact congrArg V.bl (decide_eq_decide.mpr ⟨fun h => by rw [h], fun h => Option.some.inj h⟩)
    have nb : ¬ (decide (1 < rows.length) && decide (rows.getLast? = some ("" : Str))) = false := by rw [hb]; decide
    rw [if_neg nb] at kE k
    have hlen : 2 ≤ rows.length := by
      rw [Bool.and_eq_true] at hb
      exact of_decide_eq_true hb.1
    have e13 := (e1.trans e2).trans e3
    have hS3 := ex_l (e2.trans e3) hS
    have ha3 := (e2.trans e3) _ _ ha
    clear e1 e2 e3 hb nb hS ha
    obtain ⟨r0, rs, rfl⟩ : ∃ r0 rs, rows = r0 :: rs := by
      cases rows with
      | nil => cases hlen
      | cons r0 rs => exact ⟨r0, rs, rfl⟩
    have h0 := hpc r0 (by simp)
    refine q_asgL (el_split (ev_op (ev_var rfl) ev_c (rv_ixL hS3 (at0 _ _))) ev_c bl_ok.2.2 (by omega)) fun b H4 nbb e4 hb4 => ?_
    have hpw := split_piece (a := r0) bl_ok.1 bl_ok.2.1
    rw [show (r0 :: rs).headD "" = r0 from rfl] at kE k
    generalize Txt.split r0 " " = ws at *
    have hW := sq_of (K := K) hb4
    have e14 := e13.trans e4
    by_cases h4 : ws.length = 4
    case neg =>
      refine q_dcall (vs := [.bl false]) ?h fun H5 e5 => ⟨false, rfl, fun _ H6 e6 => kE ?hn H6 ((e14.trans e5).trans e6), fun h => by cases h⟩
      case hn =>
        have : readHead ws = none := by
          unfold readHead
          split
          · exact absurd rfl h4
          · rfl
        rw [this]
      case h =>
        refine ea_cons ?_ ea_nil
        refine ev_is (ev_andV (a := false) (b := false) (ev_is (ev_op (ev_cb (ea_cons (ev_var rfl) ea_nil) (rc_lenS hW)) ev_c (rv_eq rfl)) ?_) (fun h => by cases h)) rfl
        refine congrArg V.bl (decide_eq_false fun h => h4 ?_)
        rw [List.length_map] at h
        injection h with h
        omega
    obtain ⟨w0, w1, w2, w3, rfl⟩ : ∃ a b c d, ws = [a, b, c, d] := by
      match ws, h4 with
      | [a, b, c, d], _ => exact ⟨a, b, c, d, rfl⟩
    have a0 : atI ([w0, w1, w2, w3].map V.str) 0 = some (.str w0) := at4.1
    have a1 : atI ([w0, w1, w2, w3].map V.str) 1 = some (.str w1) := at4.2.1
    have a2 : atI ([w0, w1, w2, w3].map V.str) 2 = some (.str w2) := at4.2.2.1
    have a3 : atI ([w0, w1, w2, w3].map V.str) 3 = some (.str w3) := at4.2.2.2
    have z1 := hpw w1 (by simp)
    have z2 := hpw w2 (by simp)
    have z3 := hpw w3 (by simp)
    unfold readHead at kE k
    dsimp only at kE k
    refine q_dcall (vs := [.bl (decide (w0 = "desk"))]) ?h fun H5 e5 => ⟨_, rfl, fun hb H6 e6 => kE (by rw [if_pos hb]) H6 ((e14.trans e5).trans e6), fun hb H6 e6 => ?_⟩
    case h =>
      refine ea_cons ?_ ea_nil
      refine ev_is (ev_andV (a := true) (b := decide (w0 = "desk")) (ev_is (ev_op (ev_cb (ea_cons (ev_var rfl) ea_nil) (rc_lenS hW)) ev_c (rv_eq rfl)) (congrArg V.bl (decide_eq_true rfl))) (fun _ => ?_)) rfl
      rw [← decV]
      exact ev_op (ev_op (ev_var rfl) ev_c (rv_ixL hW a0)) ev_c (rv_eq rfl)
    have nb : ¬ decide (w0 = "desk") = false := by rw [hb]; decide
    rw [if_neg nb] at kE k
    have e16 := (e14.trans e5).trans e6
    have hW6 := ex_l (e5.trans e6) hW
    have ha6 := (e4.trans (e5.trans e6)) _ _ ha3
    clear e4 e5 e6 hb nb hW hb4 e13
    refine q_makeA (aa_call (vs := [.str w1]) (ea_cons (ev_op (ev_var rfl) ev_c (rv_ixL hW6 a1)) ea_nil) fun H7 e7 => ⟨w1, rfl, by omega, fun hn H8 e8 => kE (by rw [hn]; rfl) H8 ((e16.trans e7).trans e8), fun pa hn H8 e8 => ?_⟩)
    rw [hn] at kE k
    dsimp only [Option.bind] at kE k
    have e18 := (e16.trans e7).trans e8
    have hW8 := ex_l (e7.trans e8) hW6
    have ha8 := (e7.trans e8) _ _ ha6
    clear hn e7 e8 e16 e14
    refine aa_call (vs := [.str w2]) (ea_cons (ev_op (ev_var rfl) ev_c (rv_ixL hW8 a2)) ea_nil) fun H9 e9 => ⟨w2, rfl, by omega, fun hn H10 e10 => kE (by rw [hn]) H10 ((e18.trans e9).trans e10), fun ro hn H10 e10 => ?_⟩
    rw [hn] at kE k
    dsimp only at kE k
    have e20 := (e18.trans e9).trans e10
    have hW10 := ex_l (e9.trans e10) hW8
    have ha10 := (e9.trans e10) _ _ ha8
    clear hn e9 e10 e18
    intro x dx nx ndx nex
    refine ⟨x, dx, pa, ro, rfl, upd_same, fun hb H11 l D nl k11 => ?_, fun hb H11 e11 => kE (by rw [if_neg hb]) H11 (e20.trans ((Ex.new ndx).trans ((Ex.new (by rw [upd_ne nex.symm]; exact nx)).trans e11)))⟩
    rw [if_pos hb] at kE k
    refine ⟨rfl, ?_⟩
    have u10 : ∀ b o, H10 b = some o → upd (upd H10 dx (.own x)) x (.ins (aD K) dx []) b = some o := fun b o hb => by rw [upd_ne (ne_of_none hb nx), upd_ne (ne_of_none hb ndx)]; exact hb
    have ex11 : Ex H10 H11 := fun b o hb => k11 b o (u10 b o hb) (ne_of_none hb nx)
    have f11 : Fr H10 H11 x l [] := ⟨ex11, nx, ex_none (fun b o hb => u10 b o hb) nl, fun q hq => by cases hq⟩
    clear nl k11 u10 ndx nex
    refine q_fldC (vs := [.str w3]) (ea_cons (ev_op (ev_var rfl) ev_c (rv_ixL (ex_l ex11 hW10) a3)) ea_nil) fun H12 e12 => ⟨w3, rfl, by omega, fun hn H13 e13 => kE (by rw [hn]) H13 ((e20.trans ex11).trans (e12.trans e13)), fun no hn H13 e13 => ?_⟩
    rw [hn] at kE k
    dsimp only at kE k
    have D13 := D.ex (e12.trans e13)
    have f13 := f11.mono (e12.trans e13)
    obtain ⟨dx3, hp13⟩ := D13.ob
    obtain ⟨D14, f14⟩ := D13.setNow (n := no) f13 hp13
    refine ⟨_, rfl, x, aD K, dx3, _, rfl, hp13, c_Desk T, n_Desk_now T, (by show 4 < 1000; decide), ?_⟩
    generalize upd H13 x (.ins (aD K) dx3 (putF "now" (.int no) (dfs ⟨pa, ro, 0, []⟩ l))) = H14 at *
    have D14' : DeskAt K H10 H14 x ⟨pa, ro, no, []⟩ := ⟨l, [], D14, f14⟩
    clear D14 f14 hp13 D13 f13 D f11 hn e12 e13
    have ex14 := D14'.fr
    have hcm : cutV ((r0 :: rs).map V.str) (some 1) (some (-1)) = (midL (r0 :: rs)).map V.str := by
      rw [cut_mid (by rw [List.length_map]; exact hlen), List.length_map]
      unfold midL
      rw [List.map_take, List.map_drop]
    have hmid : ∀ r ∈ midL (r0 :: rs), r.length ≤ t.length := fun r hr => hpc r (List.mem_of_mem_drop (List.mem_of_mem_take hr))
    have hsl : EvL (tSl (rSlL K) (tVar 1) (tPart (tC (.int 1))) (tPart (tUn (rU fun i => .int (-i)) (tC (.int 1))))) [some (.str t), some (.ref a), some (.ref b), some (.ref x), none] H14 ((midL (r0 :: rs)).map V.str) := by
      rw [← hcm]
      exact el_sl (ev_var rfl) (eo_some ev_c) (eo_some (ev_un ev_c ru_neg)) (ex_l ex14 (sq_of ha10))
    generalize midL (r0 :: rs) = ms at *
    refine q_forNLn (K := K) hsl (fun q i σ' H' => ∃ v e, σ' = [some (.str t), some (.ref a), some (.ref b), some (.ref x), v] ∧ H10 q = none ∧ DeskAt K (upd H10 q (.lst (ms.map V.str))) H' x e ∧ readLine ⟨pa, ro, no, []⟩ ms = readLine e (ms.drop i) ∧ (e.line.length : Int) ≤ e.room ∧ e.room ≤ 60)
      (fun q H15 nq e15 hq => ⟨none, _, rfl, fresh_back ex14 nq, D14'.new nq e15 hq, rfl, by show (0 : Int) ≤ ro; omega, hb.2.2.2⟩) (fun q i σ' H' _ ⟨v, e, _, nq, De, _⟩ => sq_of (De.fr _ _ upd_same)) ?_ ?_
    · rintro q i r σ' H' hi ⟨v, e, rfl, nq, ⟨l', ps, De, fe⟩, hr, hl1, hl2⟩
      rw [List.getElem?_map] at hi
      cases hri : ms[i]? with
      | none => rw [hri] at hi; cases hi
      | some w =>
        rw [hri] at hi
        cases hi
        have hw := hmid w (List.mem_of_getElem? hri)
        have hdr : ms.drop i = w :: ms.drop (i + 1) := by
          rw [List.getElem?_eq_some_iff] at hri
          obtain ⟨hlt, he⟩ := hri
          rw [List.drop_eq_getElem_cons hlt, he]
        rw [hdr, readLine_cons] at hr
        have hx16 : Ex H H' := e20.trans ((Ex.trans (fun b o hb => upd_sub nq b o hb) fe.ex))
        obtain ⟨dx4, hp4⟩ := De.ob
        refine ⟨_, rfl, x, aD K, dx4, _, _, rfl, hp4, c_Desk T, n_Desk_line T, rfl, .inl ⟨rfl, _, SqL.of De.ln⟩, ?_⟩
        refine ⟨_, rfl, ?_⟩
        refine el_split (a := w) (b := " ") (σ := [some (.str t), some (.ref a), some (.ref b), some (.ref x), some (.str w)]) (H := H') (ev_var rfl) ev_c bl_ok.2.2 (by omega) H' (Ex.refl H') _ fun z H17 nz e17 hz17 => ?_
        refine ⟨x, z, e, l', ps, _, rfl, De.ex e17, by omega, sq_of hz17, fun u hu => ?_, fun hn H18 e18 => ?_, fun c hn y H18 ny e18 C => ?_⟩
        · have := split_piece bl_ok.1 bl_ok.2.1 u hu
          omega
        · rw [hn] at hr
          exact kE hr H18 (hx16.trans (e17.trans e18))
        · rw [hn] at hr
          have hlt := callerOf_lt hn
          have e19 := e17.trans e18
          refine ⟨l', _, .ref y, rfl, rfl, e19 _ _ De.ln, sz_lt (by rw [List.length_map, De.len]; omega), ?_⟩
          refine ⟨_, e.snoc c, rfl, nq, DeskAt.app De fe (fresh_back e17 ny) e19 C, hr, ?_, hl2⟩
          show ((e.line ++ [c]).length : Int) ≤ e.room
          rw [List.length_append]
          show ((e.line.length + 1 : Nat) : Int) ≤ e.room
          omega
    · rintro q σ' H' ⟨v, e, rfl, nq, De, hr, hl1, hl2⟩
      rw [List.length_map, List.drop_length] at hr
      exact s_ret (ev_var rfl) fun H20 e21 => k e hr x H20 (ex_none e20 nx) ((De.ex e21).sub fun b o hb => upd_sub nq b o (e20 _ _ hb))
/-! ### L_opened -/
theorem sc_L_opened : FnScope ["_law_pace", "_law_room", "_law_cell", "_law_far"] ["_law_pace", "_law_room", "_law_cell"] (defScope s_L_opened) := ⟨rfl, rfl, rfl, by decide +kernel, rfl, by decide +kernel, by decide +kernel⟩
def sp_L_opened (K : PySem.W.Frag) : Sp := fun vs H Q _ => ∃ (pa ro c : Int), vs = [.int pa, .int ro, .int c] ∧ 1 ≤ pa ∧ pa ≤ 1000 ∧ 1 ≤ ro ∧ ro ≤ 60 ∧ ∀ no : Int, 0 ≤ no → no < 999999900000 → ∀ p H', H p = none → DeskAt K H H' p ⟨pa, ro, no, []⟩ → Q (.ref p) H'
theorem ok_L_opened {P : Program} {w : World} {K : PySem.W.Frag} {mg : Str → Option Value} {base : Heap} (T : Txt K mg) : ∃ fd, FnOk P w K mg base (CX0) 5 (He.ga K "_law_opened") fd ["_law_pace", "_law_room", "_law_cell"] (sp_L_opened K) ∧ Binds K fd ["_law_pace", "_law_room", "_law_cell"] [] ∧ FunD K "_law_opened" "_law_opened" (defArgs s_L_opened) (defBody s_L_opened) (defScope s_L_opened) [] [] (He.ga K "_law_opened") fd := by
  obtain ⟨fd, F⟩ := f_L_opened T
  obtain ⟨d_desk_init, G_desk_init, b_desk_init, _⟩ := ok_desk_init (P := P) (w := w) (base := base) T
  obtain ⟨d_read, G_read, b_read, _⟩ := ok_read (P := P) (w := w) (base := base) T
  refine ⟨fd, ok0 F sc_L_opened (fun vs H Q E h => ?_) (fun cdv A outer s H vs Q E hr h => ?_), FunD.bindsN F fun _ _ _ _ _ _ us hl => match us, hl with | [_, _, _], _ => rfl, F⟩
  · (repeat (obtain ⟨_, h⟩ := h)); subst_vars; rfl
  · obtain ⟨pa, ro, c, rfl, p1, p2, r1, r2, k⟩ := h
    refine ⟨_, (pss_cons (ps_set (i := 3) sc_L_opened.nd rfl (Or.inl rfl) (pe_ix (ix_listK (K := K) rfl) (pe_lst (pa_cons pe_int (pa_cons (pe_op op_mod (pe_op op_fdiv (pv 2) pe_int) pe_int) (pa_cons (pe_op op_mod (pe_op op_fdiv (pv 2) pe_int) (pe_op op_sub (pe_op op_pow pe_int pe_int) (pe_op op_pow pe_int pe_int))) (pa_cons pe_int pa_nil))))) (pe_op op_mod (pv 2) pe_int) (fun _ _ => rfl)))
        (pss_cons (ps_if (pt_cmpR op_eq (pv 3) pe_int (nomark _)) (pss_one (ps_ret (pe_make (mk_Desk T) G_desk_init (hr.mono (by decide)) rfl (g_Desk T) b_desk_init .nil passL (pa_cons (pv 0) (pa_cons (pv 1) pa_nil)))))
        pss_nil)
        (pss_one (ps_ret (pe_call G_read (hr.mono (by decide)) rfl (g_read T) (kp_read T) b_read .nil passL (pa_cons (pe_op op_add_str (pe_op op_add_str (pe_op op_add_str (pe_op op_add_str (pe_op op_add_str (pe_op op_add_str pe_str (pe_callTy call_str_int rfl (b_str T) (by decide +kernel) (pa_cons (pv 0) pa_nil))) pe_str) (pe_callTy call_str_int rfl (b_str T) (by decide +kernel) (pa_cons (pv 1) pa_nil))) pe_str) (pe_callTy call_str_int rfl (b_str T) (by decide +kernel) (pa_cons (pv 3) pa_nil))) pe_str) pa_nil)))))), ?_⟩
    have h0 : 0 ≤ c % 4 := by omega
    have h4 : c % 4 < 4 := by omega
    refine' q_asg (v := .int (farBy c)) ?h fun H1 e1 => ?_
    case h =>
      refine' ev_opL1 (xs := [.int 0, .int (c / 4 % 1000), .int (c / 4 % 999999900000), .int 0]) (el_lst ?a ?z) (fun H1 e1 => ?i) (fun p H1 h e => rv_ixL (sq_of h) ?x)
      case a =>
        refine' ea_cons ev_c (ea_cons ?_ (ea_cons ?_ (ea_cons ev_c ea_nil)))
        · tm_at "rr.ev"
        · exact ev_op (ev_op (ev_var rfl) ev_c (rv_I (by unfold CDiv; omega))) (ev_op (ev_op ev_c ev_c (rv_I (by unfold CPow; decide))) (ev_op ev_c ev_c (rv_I (by unfold CPow; decide))) rv_I0) (rv_I (by decide))
      case z => show 4 ≤ 100000; decide
      case i => tm_at "rr.ev"
      case x =>
        rw [pick4 h0 h4]
        unfold farBy
        split <;> rfl
    have hf := farBy_ok c
    generalize farBy c = far at *
    refine q_when (b := decide (far = 0)) ?h (fun hb H2 e2 => ?_) (fun hb H2 e2 => ?_)
    case h => exact et_is (et_test (ev_op (ev_var rfl) ev_c (rv_eq rfl))) (decide_eq_decide.mpr ⟨fun h => by injection h, fun h => by rw [h]⟩)
    · have e12 := e1.trans e2
      refine s_retMk ((ea_cons (ev_var rfl) (ea_cons (ev_var rfl) ea_nil)) H2 (Ex.refl H2) _ fun H3 e3 => fun x dx nx ndx nex => ?_)
      refine ⟨x, dx, pa, ro, rfl, upd_same, fun _ H4 l D nl k4 => ⟨rfl, ?_⟩, fun hn => absurd ⟨p1, p2, r1, r2⟩ hn⟩
      have e13 := e12.trans e3
      exact k 0 (by decide) (by decide) x H4 (fresh_back e13 nx) ((DeskAt.made nx ndx D nl k4).sub fun b o hb => e13 _ _ hb)
    · have l1 := len_int (i := pa) (by omega) (by omega)
      have l2 := len_int (i := ro) (by omega) (by omega)
      have l3 := len_int (i := far) hf.1 (by omega)
      have e12 := e1.trans e2
      have hsh : shownD ⟨pa, ro, far, []⟩ = headS ⟨pa, ro, far, []⟩ ++ "\n" := shown_nil rfl
      have hrd := read_shown (d := ⟨pa, ro, far, []⟩) ⟨p1, p2, r1, r2, hf.1, by show (0 : Int) ≤ ro; omega, List.nodup_nil, fun c hc => by cases hc⟩ (by show far < 1000000000000; omega)
      rw [hsh] at hrd
      have hd5 : ("desk " : Str).length = 5 := by decide +kernel
      have h11 : (" " : Str).length = 1 := by decide +kernel
      have h12 : ("\n" : Str).length = 1 := by decide +kernel
      have hz : ∀ {n : Nat}, n ≤ 1000 → n ≤ sizeLine := fun h => sz_of (by omega)
      refine s_retC (vs := [.str (headS ⟨pa, ro, far, []⟩ ++ "\n")]) (ea_cons ?h ea_nil) fun H3 e3 => ⟨_, rfl, ?z, fun hn => (by rw [hrd] at hn; cases hn), fun d hd p H4 np D => ?_⟩
      case h =>
        unfold headS
        refine ev_op (ev_op (ev_op (ev_op (ev_op (ev_op ev_c (ev_cb (ea_cons (ev_var rfl) ea_nil) (rc_strI (by omega))) (rv_addS ?_)) ev_c (rv_addS ?_)) (ev_cb (ea_cons (ev_var rfl) ea_nil) (rc_strI (by omega))) (rv_addS ?_)) ev_c (rv_addS ?_)) (ev_cb (ea_cons (ev_var rfl) ea_nil) (rc_strI (by omega))) (rv_addS ?_)) ev_c (rv_addS ?_)
        all_goals
          refine hz ?_
          try simp only [len_app]
          omega
      case z =>
        unfold headS
        simp only [len_app]
        omega
      rw [hrd] at hd
      injection hd with hd
      subst hd
      have e13 := e12.trans e3
      exact k far hf.1 hf.2 p H4 (fresh_back e13 np) (D.sub fun b o hb => e13 _ _ hb)
/-! ### L_rank_by -/
theorem sc_L_rank_by : FnScope ["_law_cell"] ["_law_cell"] (defScope s_L_rank_by) := ⟨rfl, rfl, rfl, by decide +kernel, rfl, by decide +kernel, by decide +kernel⟩
def rankBy (c : Int) : Int := match (mix c 10061 4).toNat with | 0 => mix c 10037 100 | 1 => 99 - mix c 10039 3 | 2 => 0 | _ => 97
theorem rankBy_ok (c : Int) : 0 ≤ rankBy c ∧ rankBy c ≤ 99 := by
  have h1 := mix_nonneg (c := c) (p := 10037) (m := 100) (by decide)
  have h2 := mix_lt (c := c) (p := 10037) (m := 100) (by decide)
  have h3 := mix_nonneg (c := c) (p := 10039) (m := 3) (by decide)
  have h4 := mix_lt (c := c) (p := 10039) (m := 3) (by decide)
  unfold rankBy
  split <;> omega
def sp_L_rank_by (_ : PySem.W.Frag) : Sp := fun vs H Q _ => ∃ (c : Int), vs = [.int c] ∧ RetV (.int (rankBy c)) H Q
theorem cv_L_rank_by {K : PySem.W.Frag} {H : Hp} {c : Int} : SpV (sp_L_rank_by K) ([.int c] ++ []) H (.int (rankBy c)) := spv_call fun _ _ _ _ k => ⟨c, rfl, k⟩
local macro_rules | `(tactic| tm_at "rr.cv") => `(tactic| exact cv_L_rank_by)
theorem ok_L_rank_by {P : Program} {w : World} {K : PySem.W.Frag} {mg : Str → Option Value} {base : Heap} (T : Txt K mg) : ∃ fd, FnOk P w K mg base (CX0) 2 (He.ga K "_law_rank_by") fd ["_law_cell"] (sp_L_rank_by K) ∧ Binds K fd ["_law_cell"] [] ∧ FunD K "_law_rank_by" "_law_rank_by" (defArgs s_L_rank_by) (defBody s_L_rank_by) (defScope s_L_rank_by) [] [] (He.ga K "_law_rank_by") fd := by
  obtain ⟨fd, F⟩ := f_L_rank_by T
  obtain ⟨d_L_mix, G_L_mix, b_L_mix, _⟩ := ok_L_mix (P := P) (w := w) (base := base) T
  refine ⟨fd, ok0 F sc_L_rank_by (fun vs H Q E h => ?_) (fun cdv A outer s H vs Q E hr h => ?_), FunD.bindsN F fun _ _ _ _ _ _ us hl => match us, hl with | [_], _ => rfl, F⟩
  · (repeat (obtain ⟨_, h⟩ := h)); subst_vars; rfl
  · obtain ⟨c, rfl, k⟩ := h
    refine ⟨_, (pss_one (ps_ret (pe_ix (ix_listK (K := K) rfl) (pe_lst (pa_cons (pe_call G_L_mix (hr.mono (by decide)) rfl (g_L_mix T) (kp_L_mix T) b_L_mix .nil pass0 (pa_cons (pv 0) (pa_cons pe_int (pa_cons pe_int pa_nil)))) (pa_cons (pe_op op_sub pe_int (pe_call G_L_mix (hr.mono (by decide)) rfl (g_L_mix T) (kp_L_mix T) b_L_mix .nil pass0 (pa_cons (pv 0) (pa_cons pe_int (pa_cons pe_int pa_nil))))) (pa_cons pe_int (pa_cons pe_int pa_nil))))) (pe_call G_L_mix (hr.mono (by decide)) rfl (g_L_mix T) (kp_L_mix T) b_L_mix .nil pass0 (pa_cons (pv 0) (pa_cons pe_int (pa_cons pe_int pa_nil)))) (fun _ _ => rfl)))), ?_⟩
    have h0 := mix_nonneg (c := c) (p := 10061) (m := 4) (by decide)
    have h4 := mix_lt (c := c) (p := 10061) (m := 4) (by decide)
    refine s_ret (v := .int (rankBy c)) ?h k
    refine' ev_opL1 (xs := [.int (mix c 10037 100), .int (99 - mix c 10039 3), .int 0, .int 97]) (el_lst ?a ?z) (fun H1 e1 => ?i) (fun p H1 h e => rv_ixL (sq_of h) ?x)
    case a => tm_at "rr.ev"
    case z => show 4 ≤ 100000; decide
    case i => tm_at "rr.ev"
    case x =>
      rw [pick4 h0 h4]
      unfold rankBy
      split <;> rfl
/-! ### desk_enter -/
theorem sc_desk_enter : FnScope ["self", "name", "rank"] ["self", "name", "rank"] (defScope s_desk_enter) := ⟨rfl, rfl, rfl, by decide +kernel, rfl, by decide +kernel, by decide +kernel⟩
def sp_desk_enter (K : PySem.W.Frag) : Sp := fun vs H Q E => ∃ (F : Hp) (p : Addr) (d : Dk) (nm : Str) (rk : Int), vs = [.ref p, .str nm, .int rk] ∧ DeskAt K F H p d ∧ d.Wf ∧ nm.length ≤ 100000 ∧
  (∀ e, enterErr d nm rk = some e → ∀ H', Ex H H' → E (.ref (He.ga K e)) none H') ∧ (enterErr d nm rk = none → ∀ H', DeskAt K F H' p (d.enter nm rk) → Q .non H')
theorem ok_desk_enter {P : Program} {w : World} {K : PySem.W.Frag} {mg : Str → Option Value} {base : Heap} (T : Txt K mg) : ∃ fd, FnOk P w K mg base (L2.CX P w) 3 (He.ma K (He.ga K "Desk") "enter") fd ["self", "name", "rank"] (sp_desk_enter K) ∧ Binds K fd ["self", "name", "rank"] [] ∧ FunD K "enter" "Desk.enter" (defArgs s_desk_enter) (defBody s_desk_enter) (defScope s_desk_enter) [] [] (He.ma K (He.ga K "Desk") "enter") fd := by
  obtain ⟨fd, F⟩ := f_desk_enter T
  obtain ⟨d_is_name, G_is_name, b_is_name, _⟩ := ok_is_name (P := P) (w := w) (base := base) T
  obtain ⟨d_desk_names, G_desk_names, b_desk_names, _⟩ := ok_desk_names (P := P) (w := w) (base := base) T
  obtain ⟨d_caller_init, G_caller_init, b_caller_init, _⟩ := ok_caller_init (P := P) (w := w) (base := base) T
  obtain ⟨t_TOP, hk_TOP⟩ := k_TOP T
  refine ⟨fd, okX F sc_desk_enter (fun vs H Q E h => ?_) (fun cdv A outer s H vs Q E hr h => ?_), FunD.bindsN F fun _ _ _ _ _ _ us hl => match us, hl with | [_, _, _], _ => rfl, F⟩
  · (repeat (obtain ⟨_, h⟩ := h)); subst_vars; rfl
  · obtain ⟨F, p, d, nm, rk, rfl, ⟨l, ps, D, f⟩, W, hz, kE, k⟩ := h
    refine ⟨_, (pss_cons (ps_if (pt_not (pt_val (pe_call G_is_name (hr.mono (by decide)) rfl (g_is_name T) (kp_is_name T) b_is_name .nil pass0 (pa_cons (pv 1) pa_nil)))) (pss_one (ps_raise rfl (takes_of rfl rfl rfl rfl) (pmk_own PySem.F.excBase_ValueError (x_NoName T).1 (g_NoName T) (x_NoName T).2.1 (raises_own (x_NoName T).2.2.1 (x_NoName T).2.2.2) rfl)))
        pss_nil)
        (pss_cons (ps_if (PW.pt (pw_or (pt_cmpR op_lt (pv 2) pe_int (nomark _)) (pw_or1 (pt_cmpR op_gt (pv 2) (pe_glob (v := .int 99) rfl hk_TOP ⟨_, rfl⟩) (nomark _))))) (pss_one (ps_raise rfl (takes_of rfl rfl rfl rfl) (pmk_own PySem.F.excBase_ValueError (x_NoRank T).1 (g_NoRank T) (x_NoRank T).2.1 (raises_own (x_NoRank T).2.2.1 (x_NoRank T).2.2.2) rfl)))
        pss_nil)
        (pss_cons (ps_if (pt_cmpR (op_inK (K := K) rfl) (pv 1) (pe_meth0 (pv 0) (c_Desk T) (m_desk_names T) G_desk_names (hr.mono (by decide)) b_desk_names .nil pass0) (by with_unfolding_all rfl)) (pss_one (ps_raise rfl (takes_of rfl rfl rfl rfl) (pmk_own PySem.F.excBase_ValueError (x_Known T).1 (g_Known T) (x_Known T).2.1 (raises_own (x_Known T).2.2.1 (x_Known T).2.2.2) rfl)))
        pss_nil)
        (pss_cons (ps_if (pt_cmpR op_ge (pe_callB (call_lenK (K := K) rfl) rfl (b_len T) (by decide +kernel) (pa_cons (pe_fldK (K := K) rfl (pv 0) rfl) pa_nil)) (pe_fldK (K := K) rfl (pv 0) rfl) (nomark _)) (pss_one (ps_raise rfl (takes_of rfl rfl rfl rfl) (pmk_own PySem.F.excBase_ValueError (x_Full T).1 (g_Full T) (x_Full T).2.1 (raises_own (x_Full T).2.2.1 (x_Full T).2.2.2) rfl)))
        pss_nil)
        (pss_one (ps_expr (pe_bm PySem.F.plainAttrs_list PySem.F.slot_list_append PySem.F.type_list_append mt_append (pe_fldK (K := K) rfl (pv 0) rfl) (pa_cons (pe_make (mk_Caller T) G_caller_init (hr.mono (by decide)) rfl (g_Caller T) b_caller_init .nil pass0 (pa_cons (pv 1) (pa_cons (pv 2) (pa_cons pe_str (pa_cons (pe_fldK (K := K) rfl (pv 0) rfl) pa_nil))))) pa_nil)))))))), ?_⟩
    unfold enterErr at kE k
    refine q_when (b := !isName nm) ?h (fun hb H1 e1 => ?_) (fun hb H1 e1 => ?_)
    case h => exact et_not (et_B (ev_call (ea_cons (ev_var rfl) ea_nil) (cv_is_name hz)))
    · exact kE _ (if_pos (by simpa using hb)) H1 e1
    have n1 : ¬ isName nm = false := by simpa using hb
    rw [if_neg n1] at k
    refine' q_when ?h (fun hb H2 e2 => ?_) (fun hb H2 e2 => ?_)
    case h => tm_at "rr.ev"
    · exact kE _ (by rw [if_neg n1, if_pos (by simpa using hb)]) H2 (e1.trans e2)
    have n2 : ¬ (rk < 0 ∨ 99 < rk) := by simpa using hb
    rw [if_neg n2] at k
    have hlen := W.len
    have D2 := D.ex (e1.trans e2)
    refine q_when (b := decide (nm ∈ d.line.map (·.nm))) ?h (fun hb H3 e3 => ?_) (fun hb H3 e3 => ?_)
    case h =>
      rw [← inV_names]
      obtain ⟨dx, hp⟩ := D2.ob
      exact et_test (ev_opL (ev_var rfl) (el_meth (ev_var rfl) hp rfl ea_nil (cv_names D2 (by omega))) fun r H1 h e => rv_isL (sq_of h) rfl (flat_names _))
    · exact kE _ (by rw [if_neg n1, if_neg n2, if_pos (of_decide_eq_true hb)]) H3 ((e1.trans e2).trans e3)
    have n3 := of_decide_eq_false hb
    rw [if_neg n3] at k
    have D3 := D2.ex e3
    have hln := D.len
    have hll : ((ps.map fun q => V.ref q.1).length : Int) = (d.line.length : Int) := by rw [List.length_map]; omega
    refine q_when (b := decide (d.room ≤ (d.line.length : Int))) ?h (fun hb H4 e4 => ?_) (fun hb H4 e4 => ?_)
    case h =>
      rw [← hll]
      exact et_test (ev_op (ev_cb (ea_cons (ev_line T (ev_var rfl) D3) ea_nil) (rc_lenS (sq_of D3.ln))) (ev_room T (ev_var rfl) D3) rv_I0)
    · exact kE _ (by rw [if_neg n1, if_neg n2, if_neg n3, if_pos (of_decide_eq_true hb)]) H4 (((e1.trans e2).trans e3).trans e4)
    have n4 := of_decide_eq_false hb
    rw [if_neg n4] at k
    have D4 := D3.ex e4
    have f4 := f.mono (((e1.trans e2).trans e3).trans e4)
    obtain ⟨dx, hp⟩ := D4.ob
    have hl := D4.ln
    refine ⟨_, rfl, p, aD K, dx, _, _, rfl, hp, c_Desk T, n_Desk_line T, rfl, .inl ⟨rfl, _, SqL.of hl⟩, ?_⟩
    refine ⟨_, rfl, _, rfl, _, rfl, p, aD K, dx, _, _, rfl, hp, c_Desk T, n_Desk_now T, rfl, fun x dc nx ndx nex => ?_⟩
    refine ⟨x, dc, _, _, _, _, rfl, upd_same, fun H5 h5 k5 => ⟨rfl, ?_⟩⟩
    have e5 : Ex H4 H5 := fun b o hb => k5 b o (by rw [upd_ne (ne_of_none hb nx), upd_ne (ne_of_none hb ndx)]; exact hb) (ne_of_none hb nx)
    refine ⟨l, _, .ref x, rfl, rfl, e5 _ _ hl, sz_lt (by rw [List.length_map]; omega), ?_⟩
    have nlx : l ≠ x := ne_of_none hl nx
    have D5 := D4.ex e5
    have f5 := f4.mono e5
    have ca : ∀ {b o}, b ≠ l → H5 b = some o → upd H5 l (.lst ((ps.map fun q => V.ref q.1) ++ [.ref x])) b = some o := fun hb ho => by rw [upd_ne hb]; exact ho
    obtain ⟨dx5, hp5⟩ := D5.ob
    have Fx : F x = none := by
      cases hF : F x with
      | none => rfl
      | some o => have := f4.ex _ _ hF; rw [nx] at this; cases this
    refine k rfl _ ⟨l, ps ++ [(x, ⟨nm, rk, .rdy d.now⟩)], ⟨⟨dx5, ca (ne_of hp5 D5.ln (by intro z; cases z)) hp5⟩, ?_, ?_, ?_⟩, ⟨fun b o hb => ca (fun e => by have := f.l0; rw [← e, hb] at this; cases this) (f5.ex _ _ hb), f.p0, f.l0, ?_⟩⟩
    · rw [upd_same, List.map_append]
      rfl
    · show d.line ++ _ = _
      rw [List.map_append, D.eq]
      rfl
    · intro q hq
      rcases List.mem_append.mp hq with hq | hq
      · obtain ⟨dq, h⟩ := D5.at_ q hq
        exact ⟨dq, ca (ne_of h D5.ln (by intro z; cases z)) h⟩
      · rw [List.mem_singleton] at hq
        rw [hq]
        exact ⟨dc, ca nlx.symm h5⟩
    · intro q hq
      rcases List.mem_append.mp hq with hq | hq
      · exact f.c0 q hq
      · rw [List.mem_singleton] at hq
        rw [hq]
        exact Fx
/-! ### L_name_by -/
theorem sc_L_name_by : FnScope ["_law_k", "_law_cell", "_law_some", "_law_many_here", "_law_near", "_law_tell", "_law_size", "_law_at", "_law_text", "_law_j"] ["_law_k", "_law_cell"] (defScope s_L_name_by) := ⟨rfl, rfl, rfl, by decide +kernel, rfl, by decide +kernel, by decide +kernel⟩
def sp_L_name_by (_ : PySem.W.Frag) : Sp := fun vs H Q _ => ∃ (k c : Int), vs = [.int k, .int c] ∧ 0 ≤ k ∧ k ≤ 80 ∧ RetV (.str (nameBy k c)) H Q
theorem cv_L_name_by {K : PySem.W.Frag} {H : Hp} {k c : Int} (h1 : 0 ≤ k) (h2 : k ≤ 80) : SpV (sp_L_name_by K) ([.int k, .int c] ++ []) H (.str (nameBy k c)) := spv_call fun _ _ _ _ q => ⟨k, c, rfl, h1, h2, q⟩
local macro_rules | `(tactic| tm_at "rr.cv") => `(tactic| refine' cv_L_name_by ?_ ?_)
theorem ok_L_name_by {P : Program} {w : World} {K : PySem.W.Frag} {mg : Str → Option Value} {base : Heap} (T : Txt K mg) : ∃ fd, FnOk P w K mg base (CX0) 2 (He.ga K "_law_name_by") fd ["_law_k", "_law_cell"] (sp_L_name_by K) ∧ Binds K fd ["_law_k", "_law_cell"] [] ∧ FunD K "_law_name_by" "_law_name_by" (defArgs s_L_name_by) (defBody s_L_name_by) (defScope s_L_name_by) [] [] (He.ga K "_law_name_by") fd := by
  obtain ⟨fd, F⟩ := f_L_name_by T
  obtain ⟨d_L_mix, G_L_mix, b_L_mix, _⟩ := ok_L_mix (P := P) (w := w) (base := base) T
  refine ⟨fd, ok0 F sc_L_name_by (fun vs H Q E h => ?_) (fun cdv A outer s H vs Q E hr h => ?_), FunD.bindsN F fun _ _ _ _ _ _ us hl => match us, hl with | [_, _], _ => rfl, F⟩
  · (repeat (obtain ⟨_, h⟩ := h)); subst_vars; rfl
  · obtain ⟨k, c, rfl, h0, h1, q⟩ := h
    refine ⟨_, (pss_cons (ps_set (i := 2) sc_L_name_by.nd rfl (Or.inr rfl) pe_str)
        (pss_cons (ps_if (pt_cmpR op_eq (pe_call G_L_mix (hr.mono (by decide)) rfl (g_L_mix T) (kp_L_mix T) b_L_mix .nil pass0 (pa_cons (pv 1) (pa_cons pe_int (pa_cons pe_int pa_nil)))) pe_int (nomark _)) (pss_one (ps_set (i := 2) sc_L_name_by.nd rfl (Or.inr rfl) pe_str))
        pss_nil)
        (pss_cons (ps_set (i := 3) sc_L_name_by.nd rfl (Or.inr rfl) (pe_callB call_len_str rfl (b_len T) (by decide +kernel) (pa_cons (pv 2) pa_nil)))
        (pss_cons (ps_set (i := 4) sc_L_name_by.nd rfl (Or.inl rfl) (pe_ix ix_str (pv 2) (pe_op op_fdiv (pe_op op_add (pv 0) (pe_op op_mod (pv 1) (pv 3))) (pv 3)) (fun _ _ => rfl)))
        (pss_cons (ps_set (i := 5) sc_L_name_by.nd rfl (Or.inl rfl) (pe_ix ix_str (pv 2) (pe_op op_mod (pe_op op_add (pv 0) (pv 1)) (pv 3)) (fun _ _ => rfl)))
        (pss_cons (ps_if (pt_cmpR op_eq (pe_call G_L_mix (hr.mono (by decide)) rfl (g_L_mix T) (kp_L_mix T) b_L_mix .nil pass0 (pa_cons (pv 1) (pa_cons pe_int (pa_cons pe_int pa_nil)))) pe_int (nomark _)) (pss_cons (ps_set (i := 6) sc_L_name_by.nd rfl (Or.inl rfl) (pe_op op_add pe_int (pe_call G_L_mix (hr.mono (by decide)) rfl (g_L_mix T) (kp_L_mix T) b_L_mix .nil pass0 (pa_cons (pv 1) (pa_cons pe_int (pa_cons pe_int pa_nil))))))
        (pss_cons (ps_set (i := 7) sc_L_name_by.nd rfl (Or.inl rfl) (pe_call G_L_mix (hr.mono (by decide)) rfl (g_L_mix T) (kp_L_mix T) b_L_mix .nil pass0 (pa_cons (pv 1) (pa_cons pe_int (pa_cons (pe_op op_sub (pv 6) pe_int) pa_nil)))))
        (pss_cons (ps_set (i := 8) sc_L_name_by.nd rfl (Or.inl rfl) (pe_join pe_str (pe_lc (own := [("_law_j", 9)]) (g := gName 9) (tt := tYes) rfl sc_L_name_by.nd (pi_range1 rfl (b_range T) (pa_cons (pv 6) pa_nil)) (blkOk_by (own := [("_law_j", 9)]) (N := ["_law_k", "_law_cell", "_law_some", "_law_many_here", "_law_near", "_law_tell", "_law_size", "_law_at", "_law_text", "_law_j"]) (sc := defScope s_L_name_by) (by decide +kernel)) (fun _ _ _ _ _ => (pg_name (i := 9) sc_L_name_by.nd rfl (Or.inl rfl))) (fun _ _ _ _ _ => pts_nil) (fun _ _ _ _ _ => (pe_ix ix_str (pv 2) (pe_op op_mod (pe_op op_add (pe_op op_fdiv (pv 1) pe_int) (pe_op op_mul pe_int (pv 9))) (pv 3)) (fun _ _ => rfl))))))
        (pss_one (ps_ret (pe_op op_add_str (pe_op op_add_str (pe_op op_add_str (pe_slice sl_str (pv 8) po_none (po_some (pv 7))) (pv 4)) (pv 5)) (pe_slice sl_str (pv 8) (po_some (pe_op op_add (pv 7) pe_int)) po_none)))))))
        pss_nil)
        (pss_cons (ps_if (PW.pt (pw_and (pt_cmpR op_lt (pv 0) (pv 3) (nomark _)) (pw_and1 (pt_cmpR op_eq (pe_call G_L_mix (hr.mono (by decide)) rfl (g_L_mix T) (kp_L_mix T) b_L_mix .nil pass0 (pa_cons (pe_op op_add (pv 1) (pe_op op_mul pe_int (pv 0))) (pa_cons pe_int (pa_cons pe_int pa_nil)))) pe_int (nomark _))))) (pss_one (ps_ret (pv 5)))
        pss_nil)
        (pss_cons (ps_set (i := 8) sc_L_name_by.nd rfl (Or.inl rfl) (pe_op op_add_str (pv 4) (pv 5)))
        (pss_cons (ps_for PassesOwn.never rfl (pi_range1 rfl (b_range T) (pa_cons (pe_call G_L_mix (hr.mono (by decide)) rfl (g_L_mix T) (kp_L_mix T) b_L_mix .nil pass0 (pa_cons (pe_op op_add (pv 1) (pv 0)) (pa_cons pe_int (pa_cons pe_int pa_nil)))) pa_nil)) (pg_name (i := 9) sc_L_name_by.nd rfl (Or.inl rfl))
        (pss_cons (ps_set (i := 7) sc_L_name_by.nd rfl (Or.inl rfl) (pe_op op_add (pe_op op_add (pe_op op_fdiv (pv 1) pe_int) (pe_op op_mul pe_int (pv 9))) (pe_op op_mul (pv 0) (pv 9))))
        (pss_one (ps_set (i := 8) sc_L_name_by.nd rfl (Or.inl rfl) (pe_op op_add_str (pv 8) (pe_ix ix_str (pv 2) (pe_op op_mod (pv 7) (pv 3)) (fun _ _ => rfl)))))))
        (pss_cons (ps_if (pt_cmpR op_eq (pe_op op_mod (pe_op op_fdiv (pv 1) pe_int) pe_int) pe_int (nomark _)) (pss_one (ps_ret (pe_revS (pv 8))))
        pss_nil)
        (pss_one (ps_ret (pv 8))))))))))))), ?_⟩
    refine' q_asg ev_c fun H1 e1 => ?_
    refine q_ifAsg (b := decide (mix c 10259 5 = 0)) (v := .str (SX.S (nmS c))) ?h (fun hb => ?h1) (fun hb => ?h2) fun H2 e2 => ?_
    case h => exact et_is (et_test (ev_op (ev_call (ea_cons (ev_var rfl) (ea_cons ev_c (ea_cons ev_c ea_nil))) (cv_L_mix (by decide) (by decide))) ev_c (rv_eq rfl))) (decide_eq_decide.mpr ⟨fun h => by injection h, fun h => by rw [h]⟩)
    case h1 =>
      refine ev_is ev_c ?_
      unfold nmS
      rw [if_pos (of_decide_eq_true hb), SX.S_tl]
    case h2 =>
      have : nmS c = signsS.cps.toList := by
        unfold nmS
        rw [if_neg (of_decide_eq_false hb)]
      rw [this, SX.S_tl]
      rfl
    have hok := nmS_ok c
    unfold nameBy at q
    generalize nmS c = L at *
    obtain ⟨hL, hnd, hsg⟩ := hok
    have hLl : (SX.S L).length = L.length := SX.S_len L
    have hLz : (SX.S L).length ≤ 100000 := by omega
    refine q_asg (v := .int (L.length : Int)) (ev_is (ev_cb (ea_cons (ev_var rfl) ea_nil) (rc_len_str (sz_of hLz))) (by rw [hLl])) fun H3 e3 => ?_
    have ixS : ∀ {i : Int} {H : Hp}, 0 ≤ i → i < (L.length : Int) → RV rIxS (.str (SX.S L)) (.int i) H (.str (SX.S [gat L i])) := fun h0 h1 => rv_ixS hLz (at_getD h0 h1)
    have cdv : 0 < (L.length : Int) := by omega
    have cdd : ∀ x, CDiv x (L.length : Int) := fun x => by unfold CDiv; omega
    have hn : 0 ≤ (k + c % (L.length : Int)) / (L.length : Int) ∧ (k + c % (L.length : Int)) / (L.length : Int) < (L.length : Int) := by
      rcases hL with hL | hL <;> rw [hL] <;> omega
    have ht : ∀ x : Int, 0 ≤ x % (L.length : Int) ∧ x % (L.length : Int) < (L.length : Int) := fun x => ⟨Int.emod_nonneg _ (by omega), Int.emod_lt_of_pos _ (by omega)⟩
    refine q_asg (v := .str (SX.S [nmNear L k c])) (ev_op (ev_var rfl) (ev_op (ev_op (ev_var rfl) (ev_op (ev_var rfl) (ev_var rfl) (rv_I cdv)) rv_I0) (ev_var rfl) (rv_I (cdd _))) (ixS hn.1 hn.2)) fun H4 e4 => ?_
    refine q_asg (v := .str (SX.S [nmTell L k c])) (ev_op (ev_var rfl) (ev_op (ev_op (ev_var rfl) (ev_var rfl) rv_I0) (ev_var rfl) (rv_I cdv)) (ixS (ht _).1 (ht _).2)) fun H5 e5 => ?_
    have q5 := fun H6 (e : Ex H5 H6) => q H6 ((((e1.trans e2).trans e3).trans e4).trans (e5.trans e))
    clear q e1 e2 e3 e4 e5
    unfold nameL at q5
    refine q_when (b := decide (mix c 10303 2 = 0)) ?h (fun hb H6 e6 => ?_) (fun hb H6 e6 => ?_)
    case h => exact et_is (et_test (ev_op (ev_call (ea_cons (ev_var rfl) (ea_cons ev_c (ea_cons ev_c ea_nil))) (cv_L_mix (by decide) (by decide))) ev_c (rv_eq rfl))) (decide_eq_decide.mpr ⟨fun h => by injection h, fun h => by rw [h]⟩)
    · rw [if_pos (of_decide_eq_true hb)] at q5
      have m0 := mix_nonneg (c := c) (p := 10313) (m := 11) (by decide)
      have m1 := mix_lt (c := c) (p := 10313) (m := 11) (by decide)
      generalize hM : mix c 10313 11 = M at *
      refine q_asg (v := .int (2 + M)) (ev_op ev_c (ev_is (ev_call (ea_cons (ev_var rfl) (ea_cons ev_c (ea_cons ev_c ea_nil))) (cv_L_mix (by decide) (by decide))) (by rw [hM])) rv_I0) fun H7 e7 => ?_
      have a0 := mix_nonneg (c := c) (p := 10321) (m := 2 + M - 1) (by omega)
      have a1 := mix_lt (c := c) (p := 10321) (m := 2 + M - 1) (by omega)
      refine q_asg (ev_call (ea_cons (ev_var rfl) (ea_cons ev_c (ea_cons (ev_op (ev_var rfl) ev_c rv_I0) ea_nil))) (cv_L_mix (by decide) (by omega))) fun H8 e8 => ?_
      generalize mix c 10321 (2 + M - 1) = A at *
      have hlen : (nmT1 L c (2 + M).toNat).length = (2 + M).toNat := by unfold nmT1; rw [List.length_map, List.length_range]
      refine q_asg (v := .str (SX.S (nmT1 L c (2 + M).toNat))) ?h fun H9 e9 => ?_
      case h =>
        refine ev_is (ev_join (K := K) (a := "") (ys := (List.range (2 + M).toNat).map fun j : Nat => SX.S [gat L ((c / 72 + 7 * (j : Int)) % (L.length : Int))]) ev_c ?l ?z) (congrArg V.str (TL.ext_tl ?e))
        case l =>
          have hg : ((List.range (2 + M).toNat).map fun j : Nat => SX.S [gat L ((c / 72 + 7 * (j : Int)) % (L.length : Int))]).map V.str = given (2 + M).toNat (fun _ => true) (fun j => .str (SX.S [gat L ((c / 72 + 7 * (j : Int)) % (L.length : Int))])) := by
            unfold given
            rw [filter_true, List.map_map]
            rfl
          rw [hg]
          refine' el_lcR1 (n := 2 + M) (fun _ => true) (fun j => .str (SX.S [gat L ((c / 72 + 7 * (j : Int)) % (L.length : Int))])) (ea_cons (ev_var rfl) ea_nil) (by omega) (fun _ => rfl) (fun i H9 e9 hi => et_yes) (fun i H9 e9 hi _ => ?_)
          exact ev_op (ev_var rfl) (ev_op (ev_op (ev_op (ev_var rfl) ev_c (rv_I ⟨by decide, by decide⟩)) (ev_op ev_c (ev_var rfl) (rv_I (cmul_l (by decide) (by decide)))) rv_I0) (ev_var rfl) (rv_I cdv)) (ixS (ht _).1 (ht _).2)
        case z =>
          rw [List.map_map, List.length_map, List.length_range, show ("" : Str).length = 0 from by decide +kernel]
          have : (List.range (2 + M).toNat).map ((fun x : Str => x.length) ∘ fun j : Nat => SX.S [gat L ((c / 72 + 7 * (j : Int)) % (L.length : Int))]) = (List.range (2 + M).toNat).map fun _ => 1 := List.map_congr_left fun j _ => SX.S_len _
          rw [this, List.map_const', List.sum_replicate_nat, List.length_range]
          omega
        case e =>
          rw [TL.join_eq, TL.tl_join, show TL.tl ("" : Str) = [] from by decide +kernel, joinL_nil, List.map_map]
          show _ = nmT1 L c (2 + M).toNat
          unfold nmT1
          generalize List.range (2 + M).toNat = R
          induction R with
          | nil => rfl
          | cons x R ih =>
            rw [List.map_cons, List.flatten_cons, List.map_cons, ih]
            rfl
      have hzz : (SX.S (nmT1 L c (2 + M).toNat)).length = (2 + M).toNat := by rw [SX.S_len, hlen]
      have hz1 : (SX.S (nmT1 L c (2 + M).toNat)).length ≤ 100000 := by rw [hzz]; omega
      refine s_ret (v := .str (SX.S ((nmT1 L c (2 + M).toNat).take A.toNat ++ [nmNear L k c] ++ [nmTell L k c] ++ (nmT1 L c (2 + M).toNat).drop (A + 2).toNat))) ?h9 fun H10 e10 => q5 H10 ((e6.trans e7).trans ((e8.trans e9).trans e10))
      case' h9 => rw [← SX.S_cat, ← SX.S_cat, ← SX.S_cat, ← cutS_to (i := A) (by omega) (by rw [hlen]; omega), ← cutS_from (i := A + 2) (by omega) (by rw [hlen]; omega)]
      have hc1 := cutS_length (SX.S (nmT1 L c (2 + M).toNat)) none (some A)
      have hc2 := cutS_length (SX.S (nmT1 L c (2 + M).toNat)) (some (A + 2)) none
      have hs1 : ∀ x, (SX.S [x]).length = 1 := fun x => SX.S_len [x]
      rw [hzz] at hc1 hc2
      refine ev_op (ev_op (ev_op (ev_slS (ev_var rfl) eo_none (eo_some (ev_var rfl)) hz1) (ev_var rfl) (rv_addS (sz_of ?_))) (ev_var rfl) (rv_addS (sz_of ?_))) (ev_slS (ev_var rfl) (eo_some (ev_op (ev_var rfl) ev_c rv_I0)) eo_none hz1) (rv_addS (sz_of ?_))
      all_goals
        simp only [len_app, hs1]
        omega
    rw [if_neg (of_decide_eq_false hb)] at q5
    refine q_when (b := decide (k < (L.length : Int) ∧ mix (c + 3 * k) 10253 8 = 0)) ?h7 (fun hb H7 e7 => ?_) (fun hb H7 e7 => ?_)
    case h7 =>
      refine' et_is (et_and (et_test (ev_op (ev_var rfl) (ev_var rfl) rv_I0)) (fun _ => et_test (ev_op (ev_call (ea_cons (ev_op (ev_var rfl) (ev_op ev_c (ev_var rfl) (rv_I (cmul_l (by decide) (by decide)))) rv_I0) (ea_cons ev_c (ea_cons ev_c ea_nil))) (cv_L_mix (by decide) (by decide))) ev_c (rv_eq rfl)))) ?_
      rw [Bool.decide_and]
      congr 1
      exact decide_eq_decide.mpr ⟨fun h => by injection h, fun h => by rw [h]⟩
    · rw [if_pos (of_decide_eq_true hb)] at q5
      exact s_ret (ev_var rfl) fun H8 e8 => q5 H8 ((e6.trans e7).trans e8)
    rw [if_neg (of_decide_eq_false hb)] at q5
    have hs1 : ∀ x, (SX.S [x]).length = 1 := fun x => SX.S_len [x]
    have m0 := mix_nonneg (c := c + k) (p := 10007) (m := 11) (by decide)
    have m1 := mix_lt (c := c + k) (p := 10007) (m := 11) (by decide)
    refine q_asg (v := .str (SX.S ([nmNear L k c] ++ [nmTell L k c] ++ nmT2 L k c 0))) ?h8 fun H8 e8 => ?_
    case h8 =>
      rw [show nmT2 L k c 0 = [] from rfl, List.append_nil, ← SX.S_cat]
      exact ev_op (ev_var rfl) (ev_var rfl) (rv_addS (sz_of (by simp only [hs1]; omega)))
    generalize hM : mix (c + k) 10007 11 = M at *
    refine q_forR1 (n := M) (ea_cons (ev_is (ev_call (ea_cons (ev_op (ev_var rfl) (ev_var rfl) rv_I0) (ea_cons ev_c (ea_cons ev_c ea_nil))) (cv_L_mix (by decide) (by decide))) (by rw [hM])) ea_nil) (by omega)
      (fun i σ' H' => Ex H8 H' ∧ ∃ v w, σ' = [some (.int k), some (.int c), some (.str (SX.S L)), some (.int (L.length : Int)), some (.str (SX.S [nmNear L k c])), some (.str (SX.S [nmTell L k c])), none, v, some (.str (SX.S ([nmNear L k c] ++ [nmTell L k c] ++ nmT2 L k c i))), w]) (fun H9 e9 => ⟨e9, none, none, rfl⟩) ?_ ?_
    · rintro i σ' H' hi ⟨e9, v, w, rfl⟩
      refine q_asg (v := .int (c / 72 + 7 * (i : Int) + k * (i : Int))) (ev_op (ev_op (ev_op (ev_var rfl) ev_c (rv_I ⟨by decide, by decide⟩)) (ev_op ev_c (ev_var rfl) (rv_I (cmul_l (by decide) (by decide)))) rv_I0) (ev_op (ev_var rfl) (ev_var rfl) (rv_I (cmul_l (by omega) (by omega)))) rv_I0) fun H10 e10 => ?_
      have hl2 : (nmT2 L k c i).length = i := by unfold nmT2; rw [List.length_map, List.length_range]
      refine s_asg (v := .str (SX.S ([nmNear L k c] ++ [nmTell L k c] ++ nmT2 L k c (i + 1)))) ?h fun H11 e11 => ⟨(e9.trans e10).trans e11, _, _, rfl⟩
      have : nmT2 L k c (i + 1) = nmT2 L k c i ++ [gat L ((c / 72 + 7 * (i : Int) + k * (i : Int)) % (L.length : Int))] := by
        unfold nmT2
        rw [List.range_succ, List.map_append]
        rfl
      rw [this, ← List.append_assoc, ← SX.S_cat ([nmNear L k c] ++ [nmTell L k c] ++ nmT2 L k c i)]
      refine' ev_op (ev_var rfl) (ev_op (ev_var rfl) (ev_op (ev_var rfl) (ev_var rfl) (rv_I cdv)) (ixS (ht _).1 (ht _).2)) (rv_addS (sz_of ?_))
      rw [SX.S_len, SX.S_len, List.length_append, List.length_append, hl2]
      simp only [List.length_singleton]
      omega
    · rintro σ' H' ⟨e9, v, w, rfl⟩
      have e69 := ((e6.trans e7).trans e8).trans e9
      have hl2 : (nmT2 L k c M.toNat).length = M.toNat := by unfold nmT2; rw [List.length_map, List.length_range]
      refine q_when (b := decide (c / 36 % 2 = 1)) ?h12 (fun hb H10 e10 => ?_) (fun hb H10 e10 => ?_)
      case h12 => exact et_is (et_test (ev_op (ev_op (ev_op (ev_var rfl) ev_c (rv_I ⟨by decide, by decide⟩)) ev_c (rv_I (by decide))) ev_c (rv_eq rfl))) (decide_eq_decide.mpr ⟨fun h => by injection h, fun h => by rw [h]⟩)
      · rw [if_pos (of_decide_eq_true hb)] at q5
        exact s_ret (ev_revS (ev_var rfl) (by rw [SX.S_len, List.length_append, List.length_append, hl2]; simp only [List.length_singleton]; omega)) fun H11 e11 => q5 H11 ((e69.trans e10).trans e11)
      · rw [if_neg (of_decide_eq_false hb)] at q5
        exact s_ret (ev_var rfl) fun H11 e11 => q5 H11 ((e69.trans e10).trans e11)
/-! ### the law's line: a list of tuples, told by callers -/
def cvt (c : Cl) : List V := [.str c.nm, .int c.rk, .str c.md.st, c.md.mark]
structure LnAt (H : Hp) (a : Addr) (qs : List Pr) : Prop where
  l : H a = some (.lst (qs.map fun q => V.ref q.1))
  t : ∀ q ∈ qs, H q.1 = some (.tup (cvt q.2))
def LineAt (H : Hp) (a : Addr) (L : List Cl) : Prop := ∃ qs : List Pr, LnAt H a qs ∧ qs.map (·.2) = L
theorem LnAt.ex {H H' : Hp} {a : Addr} {qs : List Pr} (h : LnAt H a qs) (e : Ex H H') : LnAt H' a qs := ⟨e _ _ h.l, fun q hq => e _ _ (h.t q hq)⟩
theorem LineAt.ex {H H' : Hp} {a : Addr} {L : List Cl} (h : LineAt H a L) (e : Ex H H') : LineAt H' a L := let ⟨qs, h, g⟩ := h; ⟨qs, h.ex e, g⟩
/-- everything but the desk stands beside it -/
theorem DeskAt.grow {K : PySem.W.Frag} {F H H' : Hp} {p b : Addr} {d : Dk} {L : List Cl} (D : DeskAt K F H p d) (e : Ex H H') (hb : H b = none ∨ ∃ o, F b = some o) (h : LineAt H' b L) : ∃ G, Ex F G ∧ DeskAt K G H' p d ∧ LineAt G b L := by
  classical
  obtain ⟨l, ps, D, f⟩ := D
  obtain ⟨qs, hl, rfl⟩ := h
  obtain ⟨dx, hp⟩ := D.ob
  refine ⟨fun x => if x = p ∨ x = l ∨ ∃ q ∈ ps, q.1 = x then none else H' x, fun x o hx => ?_, ⟨l, ps, D.ex e, ⟨fun x o hx => ?_, if_pos (.inl rfl), if_pos (.inr (.inl rfl)), fun q hq => if_pos (.inr (.inr ⟨q, hq, rfl⟩))⟩⟩, qs, ⟨?_, fun q hq => ?_⟩, rfl⟩
  · refine (if_neg ?_).trans (e _ _ (f.ex _ _ hx))
    rintro (rfl | rfl | ⟨q, hq, rfl⟩)
    · rw [f.p0] at hx; cases hx
    · rw [f.l0] at hx; cases hx
    · rw [f.c0 q hq] at hx; cases hx
  · by_cases c : x = p ∨ x = l ∨ ∃ q ∈ ps, q.1 = x
    · rw [if_pos c] at hx; cases hx
    · rw [if_neg c] at hx; exact hx
  · refine (if_neg ?_).trans hl.l
    have hF : ∀ x, (∃ o, F x = some o) → F x ≠ none := fun x ⟨o, h⟩ => by rw [h]; simp
    rintro (rfl | rfl | ⟨q, hq, rfl⟩)
    · rcases hb with hb | hb
      · rw [hp] at hb; cases hb
      · exact hF _ hb f.p0
    · rcases hb with hb | hb
      · rw [D.ln] at hb; cases hb
      · exact hF _ hb f.l0
    · obtain ⟨dq, hc⟩ := D.at_ q hq
      rcases hb with hb | hb
      · rw [hc] at hb; cases hb
      · exact hF _ hb (f.c0 q hq)
  · refine (if_neg ?_).trans (hl.t q hq)
    have ht := hl.t q hq
    rintro (c | c | ⟨r, hr, c⟩)
    · rw [c, e _ _ hp] at ht; cases ht
    · rw [c, e _ _ D.ln] at ht; cases ht
    · obtain ⟨dq, hc⟩ := D.at_ r hr
      rw [← c, e _ _ hc] at ht; cases ht
/-- a new line comes -/
def RetLn (L : List Cl) (H : Hp) (Q : VK) : Prop := ∀ p H', H p = none → Ex H H' → LineAt H' p L → Q (.ref p) H'
def EvLn (te : TE) (σ : L2.St) (H : Hp) (L : List Cl) : Prop := ∀ H1, Ex H H1 → ∀ Q : VK, RetLn L H1 Q → te σ H1 Q
section
variable {K : PySem.W.Frag} {σ : L2.St} {H H' : Hp} {ta te tl : TE} {tr : TA} {D : Ends} {tz : TS} {qs : List Pr} {L : List Cl} {c : Cl} {a : Addr} {sp : Sp} {E : XK} {vs : List V}
theorem s_retN (h : EvLn te σ H L) (k : RetLn L H D.rt) : tRet te D σ H := h H (Ex.refl H) _ k
theorem q_asgN {i : Nat} (h : EvLn te σ H L) (k : ∀ p H1, H p = none → Ex H H1 → LineAt H1 p L → tz D (σ.set i (some (.ref p))) H1) : tSeq (tAsg te (gName i)) tz D σ H := h H (Ex.refl H) _ k
theorem s_asgN {i : Nat} (h : EvLn te σ H L) (k : ∀ p H1, H p = none → Ex H H1 → LineAt H1 p L → D.nx (σ.set i (some (.ref p))) H1) : tAsg te (gName i) D σ H := h H (Ex.refl H) _ k
theorem lst1 {Q : VK} (h : ta σ H fun x H1 => ∀ p, H1 p = none → Q (.ref p) (upd H1 p (.lst [x]))) : tLst (tCons ta tNil) σ H Q := by
  have e : (1 : Nat) ≤ sizeLine := by decide
  have : ∀ x H1, (∀ p, H1 p = none → Q (.ref p) (upd H1 p (.lst [x]))) ↔ ([x].length ≤ sizeLine ∧ ∀ p, H1 p = none → Q (.ref p) (upd H1 p (.lst [x]))) := fun x H1 => ⟨fun h => ⟨e, h⟩, fun h => h.2⟩
  show ta σ H fun x H1 => [x].length ≤ sizeLine ∧ ∀ p, H1 p = none → Q (.ref p) (upd H1 p (.lst [x]))
  have g : (fun (x : V) (H1 : Hp) => ∀ p, H1 p = none → Q (.ref p) (upd H1 p (.lst [x]))) = fun x H1 => [x].length ≤ sizeLine ∧ ∀ p, H1 p = none → Q (.ref p) (upd H1 p (.lst [x])) := funext fun x => funext fun H1 => propext (this x H1)
  rw [← g]
  exact h
theorem en_of_el (h : EvL te σ H (qs.map fun q => V.ref q.1)) (ht : ∀ q ∈ qs, H q.1 = some (.tup (cvt q.2))) : EvLn te σ H (qs.map (·.2)) := fun H1 e Q k =>
  h H1 e _ fun p H2 hp e2 h2 => k p H2 hp e2 ⟨qs, ⟨h2, fun q hq => (e.trans e2) _ _ (ht q hq)⟩, rfl⟩
/-- .. + [(..)] -/
theorem en_snoc (h : EvL ta σ H (qs.map fun q => V.ref q.1)) (ht : ∀ q ∈ qs, H q.1 = some (.tup (cvt q.2))) (hv : EvA tr σ H (cvt c)) (hz : qs.length ≤ 90000) : EvLn (tOp rCat ta (tLst (tCons (tTup tr) tNil))) σ H (qs.map (·.2) ++ [c]) := fun H1 e Q k =>
  h H1 e _ fun p H2 hp e2 h2 => lst1 (eu_tup hv (by show 4 ≤ 100000; decide) H2 (e.trans e2) _ fun t H3 nt e3 h3 => fun r hr =>
    ⟨p, r, _, [.ref t], rfl, rfl, (Ex.new hr) _ _ (e3 _ _ h2), upd_same, sz_of (by rw [List.length_map, List.length_singleton]; omega), fun s hs => by
      have e13 : Ex H1 (upd (upd H3 r (.lst [.ref t])) s (.lst ((qs.map fun q => V.ref q.1) ++ [.ref t]))) := (e2.trans e3).trans ((Ex.new hr).trans (Ex.new hs))
      have e33 : Ex H3 (upd (upd H3 r (.lst [.ref t])) s (.lst ((qs.map fun q => V.ref q.1) ++ [.ref t]))) := (Ex.new hr).trans (Ex.new hs)
      refine k s _ (fresh_back ((e2.trans e3).trans (Ex.new hr)) hs) e13 ⟨qs ++ [(t, c)], ⟨?_, fun q hq => ?_⟩, by rw [List.map_append]; rfl⟩
      · rw [List.map_append]
        exact upd_same
      · rcases List.mem_append.mp hq with hq | hq
        · exact e13 _ _ (e _ _ (ht q hq))
        · rw [List.mem_singleton] at hq
          rw [hq]
          exact e33 _ _ h3⟩)
theorem el_var {xs : List V} {i : Nat} (h : σ[i]? = some (some (.ref a))) (hl : H a = some (.lst xs)) : ∀ H1, Ex H H1 → ∀ Q : VK, (∀ H2, Ex H1 H2 → Q (.ref a) H2) → tVar i σ H1 Q := fun H1 _ Q q => ⟨_, h, q H1 (Ex.refl H1)⟩
theorem en_snocV {i : Nat} (hi : σ[i]? = some (some (.ref a))) (h : LnAt H a qs) (hv : EvA tr σ H (cvt c)) (hz : qs.length ≤ 90000) : EvLn (tOp rCat (tVar i) (tLst (tCons (tTup tr) tNil))) σ H (qs.map (·.2) ++ [c]) := fun H1 e Q k =>
  ⟨_, hi, lst1 (eu_tup hv (by show 4 ≤ 100000; decide) H1 e _ fun t H3 nt e3 h3 => fun r hr =>
    ⟨a, r, _, [.ref t], rfl, rfl, (Ex.new hr) _ _ (e3 _ _ (e _ _ h.l)), upd_same, sz_of (by rw [List.length_map, List.length_singleton]; omega), fun s hs => by
      have e33 : Ex H3 (upd (upd H3 r (.lst [.ref t])) s (.lst ((qs.map fun q => V.ref q.1) ++ [.ref t]))) := (Ex.new hr).trans (Ex.new hs)
      refine k s _ (fresh_back (e3.trans (Ex.new hr)) hs) (e3.trans e33) ⟨qs ++ [(t, c)], ⟨?_, fun q hq => ?_⟩, by rw [List.map_append]; rfl⟩
      · rw [List.map_append]
        exact upd_same
      · rcases List.mem_append.mp hq with hq | hq
        · exact (e3.trans e33) _ _ (e _ _ (h.t q hq))
        · rw [List.mem_singleton] at hq
          rw [hq]
          exact e33 _ _ h3⟩)⟩
theorem en_call (h : EvA tr σ H vs) (hs : ∀ H1, Ex H H1 → ∀ Q E, RetLn L H1 Q → sp (vs ++ []) H1 Q E) : EvLn (tCall sp [] E tr) σ H L := fun H1 e Q k => h H1 e _ fun H2 e2 => hs H2 (e.trans e2) Q E fun p H' hp e' h' => k p H' (fresh_back e2 hp) (e2.trans e') h'
/-- items of a tuple of the line -/
theorem ev_t0 {tv : TE} {q : Pr} (h : Ev tv σ H (.ref q.1)) (ht : H q.1 = some (.tup (cvt q.2))) : Ev (tOp (rIxT K) tv (tC (.int 0))) σ H (.str q.2.nm) := ev_op h ev_c (rv_ixT (st_of ht) rfl)
theorem ev_t1 {tv : TE} {q : Pr} (h : Ev tv σ H (.ref q.1)) (ht : H q.1 = some (.tup (cvt q.2))) : Ev (tOp (rIxT K) tv (tC (.int 1))) σ H (.int q.2.rk) := ev_op h ev_c (rv_ixT (st_of ht) rfl)
theorem ev_t2 {tv : TE} {q : Pr} (h : Ev tv σ H (.ref q.1)) (ht : H q.1 = some (.tup (cvt q.2))) : Ev (tOp (rIxT K) tv (tC (.int 2))) σ H (.str q.2.md.st) := ev_op h ev_c (rv_ixT (st_of ht) rfl)
theorem ev_t3 {tv : TE} {q : Pr} (h : Ev tv σ H (.ref q.1)) (ht : H q.1 = some (.tup (cvt q.2))) : Ev (tOp (rIxT K) tv (tC (.int 3))) σ H q.2.md.mark := ev_op h ev_c (rv_ixT (st_of ht) rfl)
end
def wakeC (L : List Cl) (t : Int) : List Cl := (L.filter (due t)).foldl (fun M c => putC M ⟨c.nm, c.rk, .rdy t⟩) L
def ranC (M : List Cl) (cs : List Cl) (t : Int) : List Cl := cs.foldl (fun M c => putC M ⟨c.nm, c.rk, .rdy t⟩) M
def afterC (L : List Cl) (now : Int) (ran : Option Str) : List Cl := ranC (wakeC L (now + 1)) (L.filter fun c => decide (some c.nm = ran)) (now + 1)
theorem putC_len_le (L : List Cl) (c : Cl) : (putC L c).length ≤ L.length + 1 := by
  unfold putC
  rw [List.length_append, List.length_singleton]
  exact Nat.add_le_add_right (List.length_filter_le _ _) 1
theorem ranC_len (t : Int) : ∀ (cs M : List Cl), (ranC M cs t).length ≤ M.length + cs.length
  | [], M => Nat.le_refl _
  | c :: cs, M => by
    have h1 := ranC_len t cs (putC M ⟨c.nm, c.rk, .rdy t⟩)
    have h2 := putC_len_le M ⟨c.nm, c.rk, .rdy t⟩
    show (ranC (putC M ⟨c.nm, c.rk, .rdy t⟩) cs t).length ≤ _
    rw [List.length_cons]
    omega
theorem ranC_snoc (t : Int) (M cs : List Cl) (c : Cl) : ranC M (cs ++ [c]) t = putC (ranC M cs t) ⟨c.nm, c.rk, .rdy t⟩ := by
  unfold ranC
  rw [List.foldl_append]
  rfl
theorem filter_take_succ {α : Type} {l : List α} {g : α → Bool} {i : Nat} {x : α} (h : l[i]? = some x) : (l.take (i + 1)).filter g = (l.take i).filter g ++ if g x = true then [x] else [] := by
  rw [List.take_succ, h, List.filter_append]
  show _ ++ [x].filter g = _
  rw [List.filter_cons]
  rfl
theorem optS_eq (nm : Str) (o : Option Str) : decide (V.str nm = optS o) = decide (some nm = o) := by
  cases o with
  | none => exact decide_eq_decide.mpr ⟨fun h => (by cases h), fun h => (by cases h)⟩
  | some s => exact decide_eq_decide.mpr ⟨fun h => by rw [V.str.inj h], fun h => by rw [Option.some.inj h]; rfl⟩
/-! ### deeds at the desk -/
inductive Deed (d : Dk) : Dk → Prop
  | enter (nm : Str) (rk : Int) (h1 : isName nm = true) (h2 : 0 ≤ rk ∧ rk ≤ 99) (h3 : nm ∉ d.line.map (·.nm)) (h4 : (d.line.length : Int) < d.room) (h5 : nm ≠ "zzzzzzzzzzzz") : Deed d (d.enter nm rk)
  | leave (nm : Str) : Deed d (d.leave nm)
  | away (c : Cl) (md : Md) (hc : c ∈ d.line) (hr : c.md.isR = true) (hm : md.isR = false) (ok : MdOk d.now md) : Deed d (d.put ⟨c.nm, c.rk, md⟩)
  | back (c : Cl) (hc : c ∈ d.line) (hr : c.md.isR = false) : Deed d (d.put ⟨c.nm, c.rk, .rdy d.now⟩)
  | rerk (c : Cl) (rk : Int) (hc : c ∈ d.line) (hr : c.md.isR = false) (h : 0 ≤ rk ∧ rk ≤ 99) : Deed d (d.setRk c.nm rk)
inductive Deeds (d : Dk) : Dk → Prop
  | refl : Deeds d d
  | step {e f : Dk} (h : Deeds d e) (s : Deed e f) : Deeds d f
theorem Deeds.one {d e : Dk} (h : Deed d e) : Deeds d e := .step .refl h
theorem Deeds.trans {d e f : Dk} (h : Deeds d e) (g : Deeds e f) : Deeds d f := by
  induction g with
  | refl => exact h
  | step _ s ih => exact .step ih s
theorem Deed.same {d e : Dk} (h : Deed d e) : e.pace = d.pace ∧ e.room = d.room ∧ e.now = d.now := by cases h <;> exact ⟨rfl, rfl, rfl⟩
theorem Deed.ok {d e : Dk} (h : Deed d e) (ok : d.Ok) : e.Ok := by
  cases h with
  | enter nm rk h1 h2 h3 h4 h5 =>
    refine ⟨ok.p1, ok.p2, ok.r1, ok.r2, ok.n0, ?_, ?_, fun x hx => ?_⟩
    · show ((d.line ++ [_]).length : Int) ≤ d.room
      rw [List.length_append, List.length_singleton]
      omega
    · show ((d.line ++ [_]).map fun c : Cl => c.nm).Nodup
      rw [List.map_append, List.nodup_append]
      refine ⟨ok.nd, List.nodup_cons.mpr ⟨by simp, List.nodup_nil⟩, fun a ha b hb e => h3 ?_⟩
      rw [List.map_singleton, List.mem_singleton] at hb
      have hb2 : b = nm := hb
      rw [← hb2, ← e]
      exact ha
    · rcases List.mem_append.mp hx with h | h
      · exact ok.cl x h
      · rw [List.mem_singleton] at h
        rw [h]
        exact ⟨h1, h2.1, h2.2, ok.n0, Int.le_refl _⟩
  | leave nm =>
    refine ⟨ok.p1, ok.p2, ok.r1, ok.r2, ok.n0, ?_, filter_nodup ok.nd, fun x hx => ok.cl x (List.mem_filter.mp hx).1⟩
    have := ok.len
    have h2 := List.length_filter_le (fun o : Cl => !decide (o.nm = nm)) d.line
    show ((d.line.filter _).length : Int) ≤ d.room
    omega
  | away c md hc hr hm okm => exact ok.put hc okm
  | back c hc hr => exact ok.put hc ⟨ok.n0, Int.le_refl _⟩
  | rerk c rk hc hr h =>
    refine ⟨ok.p1, ok.p2, ok.r1, ok.r2, ok.n0, ?_, ?_, fun x hx => ?_⟩
    · show ((d.line.map _).length : Int) ≤ d.room
      rw [List.length_map]
      exact ok.len
    · show ((d.line.map _).map fun c : Cl => c.nm).Nodup
      rw [List.map_map]
      have : ((fun c : Cl => c.nm) ∘ fun o : Cl => if o.nm = c.nm then (⟨o.nm, rk, o.md⟩ : Cl) else o) = fun c : Cl => c.nm := by
        funext o
        show (if o.nm = c.nm then (⟨o.nm, rk, o.md⟩ : Cl) else o).nm = o.nm
        split <;> rfl
      rw [this]
      exact ok.nd
    · obtain ⟨o, ho, rfl⟩ := List.mem_map.mp hx
      have := ok.cl o ho
      show ClOk d.now (if o.nm = c.nm then (⟨o.nm, rk, o.md⟩ : Cl) else o)
      split
      · exact ⟨this.1, h.1, h.2, this.2.2.2⟩
      · exact this
theorem Deeds.ok {d e : Dk} (h : Deeds d e) (ok : d.Ok) : e.Ok ∧ e.pace = d.pace ∧ e.room = d.room ∧ e.now = d.now := by
  induction h with
  | refl => exact ⟨ok, rfl, rfl, rfl⟩
  | step _ s ih =>
    obtain ⟨a, b, c⟩ := s.same
    exact ⟨s.ok ih.1, a.trans ih.2.1, b.trans ih.2.2.1, c.trans ih.2.2.2⟩
theorem setRk_line {d : Dk} (nd : (d.line.map (·.nm)).Nodup) {c : Cl} (hc : c ∈ d.line) (rk : Int) : (d.setRk c.nm rk).line = d.line.map fun o => if decide (o.nm = c.nm) = true then ⟨c.nm, rk, c.md⟩ else o := by
  show d.line.map _ = _
  refine List.map_congr_left fun o ho => ?_
  by_cases h : o.nm = c.nm
  · have := nm_inj nd ho hc h
    rw [if_pos h, if_pos (decide_eq_true h), this]
  · rw [if_neg h, if_neg (by rw [decide_eq_false h]; decide)]
/-- one after another of those that aren't ready is waked -/
theorem rdyAll_deeds : ∀ (cs : List Cl) (d : Dk), (∀ c ∈ cs, c ∈ d.line ∧ c.md.isR = false) → (cs.map (·.nm)).Nodup → Deeds d (d.rdyAll cs)
  | [], d, _, _ => .refl
  | c :: cs, d, h, nd => by
    rw [List.map_cons, List.nodup_cons] at nd
    have hc := h c (List.mem_cons_self ..)
    refine (Deeds.one (Deed.back c hc.1 hc.2)).trans (rdyAll_deeds cs (d.put ⟨c.nm, c.rk, .rdy d.now⟩) (fun x hx => ⟨putC_mem.mpr (.inl ⟨(h x (List.mem_cons_of_mem _ hx)).1, fun e => nd.1 (e ▸ List.mem_map.mpr ⟨x, hx, rfl⟩)⟩), (h x (List.mem_cons_of_mem _ hx)).2⟩) nd.2)
theorem ring_deeds {d : Dk} (nd : (d.line.map (·.nm)).Nodup) (b : Str) : Deeds d (d.ring b) := by
  refine rdyAll_deeds _ d (fun c hc => ?_) (filter_nodup nd)
  obtain ⟨h1, h2⟩ := List.mem_filter.mp hc
  have h2 : c.md = .wtg b := of_decide_eq_true h2
  exact ⟨h1, by rw [h2]; rfl⟩
theorem rdyAll_keep : ∀ (cs : List Cl) (d : Dk) (c : Cl), c ∈ d.line → (∀ x ∈ cs, x.nm ≠ c.nm) → c ∈ (d.rdyAll cs).line
  | [], _, c, h, _ => h
  | x :: cs, d, c, h, hn => rdyAll_keep cs (d.put ⟨x.nm, x.rk, .rdy d.now⟩) c (putC_mem.mpr (.inl ⟨h, fun e => hn x (List.mem_cons_self ..) e.symm⟩)) fun y hy => hn y (List.mem_cons_of_mem _ hy)
theorem rdyAll_line : ∀ (cs : List Cl) (d : Dk), (d.rdyAll cs).line = ranC d.line cs d.now
  | [], _ => rfl
  | c :: cs, d => rdyAll_line cs (d.put ⟨c.nm, c.rk, .rdy d.now⟩)
theorem ring_line (d : Dk) (b : Str) : (d.ring b).line = ranC d.line (d.line.filter (isWtg b)) d.now := rdyAll_line _ d
theorem ring_keep {d : Dk} (nd : (d.line.map (·.nm)).Nodup) {c : Cl} (hc : c ∈ d.line) {b : Str} (hw : isWtg b c = false) : c ∈ (d.ring b).line := by
  refine rdyAll_keep _ d c hc fun x hx e => ?_
  obtain ⟨h1, h2⟩ := List.mem_filter.mp hx
  have := nm_inj nd h1 hc e
  rw [this, hw] at h2
  cases h2
/-- a deed's law-side: the desk and the line come -/
def RetDL (K : PySem.W.Frag) (F : Hp) (p : Addr) (d : Dk) (Q : VK) : Prop := ∀ (G : Hp) (b : Addr) (H' : Hp) (d' : Dk), Ex F G → DeskAt K G H' p d' → Deeds d d' → LineAt G b d'.line → Q (.ref b) H'
section
variable {K : PySem.W.Frag} {σ : L2.St} {H H' : Hp} {ta te tl to tb : TE} {tr : TA} {D : Ends} {qs : List Pr} {a : Addr} {xs ys : List V}
/-- a tuple comes -/
def EvTup (te : TE) (σ : L2.St) (H : Hp) (vs : List V) : Prop := ∀ H1, Ex H H1 → ∀ Q : VK, (∀ t H2, Ex H1 H2 → H2 t = some (.tup vs) → Q (.ref t) H2) → te σ H1 Q
theorem lst2 {Q : VK} (h : to σ H fun x H1 => te σ H1 fun y H2 => ∀ p, H2 p = none → Q (.ref p) (upd H2 p (.lst [x, y]))) : tLst (tCons to (tCons te tNil)) σ H Q := by
  have e : (2 : Nat) ≤ sizeLine := by decide
  show to σ H fun x H1 => te σ H1 fun y H2 => [x, y].length ≤ sizeLine ∧ ∀ p, H2 p = none → Q (.ref p) (upd H2 p (.lst [x, y]))
  have g : (fun (x : V) (H1 : Hp) => te σ H1 fun y H2 => ∀ p, H2 p = none → Q (.ref p) (upd H2 p (.lst [x, y]))) = fun x H1 => te σ H1 fun y H2 => [x, y].length ≤ sizeLine ∧ ∀ p, H2 p = none → Q (.ref p) (upd H2 p (.lst [x, y])) :=
    funext fun x => funext fun H1 => congrArg (te σ H1) (funext fun y => funext fun H2 => propext ⟨fun h => ⟨e, h⟩, fun h => h.2⟩)
  rw [← g]
  exact h
theorem eu_pick {o : Addr} {b : Bool} (h1 : Ev to σ H (.ref o)) (ho : H o = some (.tup xs)) (h2 : EvA tr σ H ys) (hl : ys.length ≤ 100000) (h3 : ∀ H1, Ex H H1 → Ev tb σ H1 (.int (if b then 1 else 0))) : EvTup (tOp (rIxL K) (tLst (tCons to (tCons (tTup tr) tNil))) tb) σ H (if b = true then ys else xs) := fun H1 e Q q =>
  lst2 (h1 H1 e _ fun H2 e2 => eu_tup h2 hl H2 (e.trans e2) _ fun t H3 nt e3 ht => fun r hr => h3 (upd H3 r (.lst [.ref o, .ref t])) (((e.trans e2).trans e3).trans (Ex.new hr)) _ (Ex.refl _) _ fun H4 e4 => by
    have e14 : Ex H1 H4 := (e2.trans e3).trans ((Ex.new hr).trans e4)
    have hr4 : SqL K H4 r [.ref o, .ref t] := sq_of (e4 _ _ upd_same)
    cases b with
    | true => exact ⟨r, [.ref o, .ref t], 1, .ref t, rfl, rfl, hr4, rfl, q t H4 e14 (((Ex.new hr).trans e4) _ _ ht)⟩
    | false => exact ⟨r, [.ref o, .ref t], 0, .ref o, rfl, rfl, hr4, rfl, q o H4 e14 ((e.trans e14) _ _ ho)⟩)
/-- a comprehension over the line that makes tuples -/
theorem en_lcT {j : Nat} {ws : List Nat} (w : Pr → Cl) (h : Ev tl σ H (.ref a)) (hx : LnAt H a qs) (hz : qs.length ≤ 40000) (hw : ∀ x, wipe ((wipe σ ws).set j (some x)) ws = wipe σ ws)
    (he : ∀ q ∈ qs, ∀ H1, Ex H H1 → EvTup te ((wipe σ ws).set j (some (.ref q.1))) H1 (cvt (w q))) : EvLn (tLc (iList K tl) (gName j) tYes te ws) σ H (qs.map w) := fun H0 e Q q => h H0 e _ fun H1 e1 => ⟨a, rfl, ⟨_, ex_l (e.trans e1) (sq_of hx.l)⟩, fun Dl hD =>
  lc_list (xs := qs.map fun q => V.ref q.1) (fun i H' => Ex H1 H' ∧ ∃ rs : List Pr, H' Dl = some (.lst (rs.map fun q => V.ref q.1)) ∧ rs.map (·.2) = (qs.take i).map w ∧ ∀ r ∈ rs, H' r.1 = some (.tup (cvt r.2))) ⟨Ex.new hD, [], upd_same, rfl, fun r hr => by cases hr⟩ (fun i H' _ p => ex_l ((e.trans e1).trans p.1) (sq_of hx.l))
    (fun i x H' hi ⟨p1, rs, p2, p3, p4⟩ => ⟨hw x, by
      refine iteT (B := Ex H1 H' ∧ ∃ rs : List Pr, H' Dl = some (.lst (rs.map fun q => V.ref q.1)) ∧ rs.map (·.2) = (qs.take (i + 1)).map w ∧ ∀ r ∈ rs, H' r.1 = some (.tup (cvt r.2))) ?_
      rw [List.getElem?_map] at hi
      cases hq : qs[i]? with
      | none => rw [hq] at hi; cases hi
      | some r =>
        rw [hq] at hi
        cases hi
        have hm := List.mem_of_getElem? hq
        have hlt := (List.getElem?_eq_some_iff.mp hq).1
        have hrl : rs.length ≤ i := by
          have := congrArg List.length p3
          rw [List.length_map, List.length_map] at this
          have h2 := List.length_take_le i qs
          omega
        refine he r hm H1 (e.trans e1) H' p1 _ fun t H3 e3 ht => ?_
        have p5 := e3 _ _ p2
        refine ⟨_, p5, sz_lt (by rw [List.length_map]; omega), Ex.mut (p1.trans e3) hD, rs ++ [(t, w r)], by rw [List.map_append]; exact upd_same, ?_, fun s hs => ?_⟩
        · rw [List.map_append, p3, List.take_succ, hq, List.map_append]
          rfl
        · have hne : ∀ {z vs}, H3 z = some (.tup vs) → z ≠ Dl := fun hz e => by rw [e, p5] at hz; cases hz
          rcases List.mem_append.mp hs with hs | hs
          · have := e3 _ _ (p4 s hs)
            rw [upd_ne (hne this)]
            exact this
          · rw [List.mem_singleton] at hs
            rw [hs, upd_ne (hne ht)]
            exact ht⟩)
    (fun H' ⟨p1, rs, p2, p3, p4⟩ => q Dl H' (fresh_back e1 hD) (e1.trans p1) ⟨rs, ⟨p2, p4⟩, by rw [List.length_map, List.take_length] at p3; exact p3⟩)⟩
def mkD : Md → PyData
  | .rdy s => .int s
  | .slp t => .int t
  | .wtg b => .str b
def cvD (c : Cl) : PyData := .tuple [.str c.nm, .int c.rk, .str c.md.st, mkD c.md]
theorem LnAt.dp (h : LnAt H a qs) : Dp K H (.ref a) (.list (qs.map fun q => cvD q.2)) := by
  refine .lst (sq_of h.l) ?_
  have t := h.t
  clear h
  induction qs with
  | nil => exact .nil
  | cons q qs ih =>
    refine .cons (.tup (st_of (t q (List.mem_cons_self ..))) (.cons (.str _) (.cons (.int _) (.cons (.str _) (.cons ?_ .nil))))) (ih fun r hr => t r (List.mem_cons_of_mem _ hr))
    cases q.2.md with
    | rdy s => exact .int s
    | slp s => exact .int s
    | wtg s => exact .str s
theorem sign_lt {c : Nat} (h : isSign c = true) : c < 128 := by
  have := of_decide_eq_true h
  have e : ∀ x ∈ signsS.cps.toList, x < 128 := by decide +kernel
  exact e c this
theorem name_strOk {s : Str} (h : isName s = true) : PyData.strOk s = true := by
  unfold PyData.strOk
  rw [← Array.all_toList]
  exact List.all_eq_true.mpr fun c hc => decide_eq_true (by have := sign_lt (sign_free h hc); omega)
theorem st_strOk (m : Md) : PyData.strOk m.st = true := by
  cases m
  · exact (by decide +kernel : PyData.strOk ("ready" : Str) = true)
  · exact (by decide +kernel : PyData.strOk ("asleep" : Str) = true)
  · exact (by decide +kernel : PyData.strOk ("waiting" : Str) = true)
theorem cvD_one {now : Int} {c : Cl} (h : ClOk now c) : PyData.canLay0 (cvD c) = true ∧ PyData.depth (cvD c) ≤ 1 := by
  obtain ⟨h1, _, _, h4⟩ := h
  have e1 := name_strOk h1
  have e2 := st_strOk c.md
  unfold cvD
  cases hm : c.md with
  | rdy s => rw [hm] at e2; simp only [mkD, PyData.canLayAll0, PyData.canLay0, PyData.depthAll, PyData.depth, e1, e2]; exact ⟨rfl, by decide⟩
  | slp s => rw [hm] at e2; simp only [mkD, PyData.canLayAll0, PyData.canLay0, PyData.depthAll, PyData.depth, e1, e2]; exact ⟨rfl, by decide⟩
  | wtg s =>
    rw [hm] at h4 e2
    have e3 := name_strOk (show isName s = true from h4)
    simp only [mkD, PyData.canLayAll0, PyData.canLay0, PyData.depthAll, PyData.depth, e1, e2, e3]; exact ⟨rfl, by decide⟩
theorem cvD_lay {now : Int} (L : List Pr) (h : ∀ q ∈ L, ClOk now q.2) : PyData.canLayAll0 (L.map fun q => cvD q.2) = true ∧ PyData.depthAll (L.map fun q => cvD q.2) ≤ 1 := by
  induction L with
  | nil => exact ⟨rfl, by decide⟩
  | cons q L ih =>
    have ih := ih fun r hr => h r (List.mem_cons_of_mem _ hr)
    have h1 := cvD_one (h q (List.mem_cons_self ..))
    rw [List.map_cons]
    simp only [PyData.canLayAll0, PyData.depthAll, h1.1, ih.1, Bool.and_self, true_and]
    have := ih.2
    have := h1.2
    omega
theorem cvD_shaped {now : Int} (L : List Pr) (h : ∀ q ∈ L, ClOk now q.2) : SeqAt.shaped (.list (L.map fun q => cvD q.2)) = true := by
  unfold SeqAt.shaped
  have := cvD_lay L h
  refine Bool.and_eq_true_iff.mpr ⟨this.1, decide_eq_true ?_⟩
  simp only [PyData.depth]
  omega
theorem eqv_nil (ds : List PyData) : PyData.eqv (.list ds) (.list []) = ds.isEmpty := by
  cases ds with
  | nil => rfl
  | cons d ds => rfl
theorem ev_eqNil {now : Int} (h : Ev ta σ H (.ref a)) (hl : LnAt H a qs) (hc : ∀ q ∈ qs, ClOk now q.2) : Ev (tOp (rEqD K) ta (tLst tNil)) σ H (.bl qs.isEmpty) := fun H1 e Q k =>
  h H1 e _ fun H2 e2 => ⟨(by decide : (0 : Nat) ≤ sizeLine), fun r hr => ⟨_, _, (hl.ex ((e.trans e2).trans (Ex.new hr))).dp, .lst (sq_of upd_same) .nil, cvD_shaped qs hc, by decide +kernel, by
    rw [eqv_nil]
    have := k (upd H2 r (.lst [])) (e2.trans (Ex.new hr))
    cases qs <;> exact this⟩⟩
theorem ev_neNil {now : Int} (h : Ev ta σ H (.ref a)) (hl : LnAt H a qs) (hc : ∀ q ∈ qs, ClOk now q.2) : Ev (tOp (rNeD K) ta (tLst tNil)) σ H (.bl (!qs.isEmpty)) := fun H1 e Q k =>
  h H1 e _ fun H2 e2 => ⟨(by decide : (0 : Nat) ≤ sizeLine), fun r hr => ⟨_, _, (hl.ex ((e.trans e2).trans (Ex.new hr))).dp, .lst (sq_of upd_same) .nil, cvD_shaped qs hc, by decide +kernel, by
    rw [eqv_nil]
    have := k (upd H2 r (.lst [])) (e2.trans (Ex.new hr))
    cases qs <;> exact this⟩⟩
end
/-! ### L_crowd -/
theorem sc_L_crowd : FnScope ["_law_desk", "_law_many_here", "_law_shift", "_law_cell", "_law_line", "_law_k", "_law_rank"] ["_law_desk", "_law_many_here", "_law_shift", "_law_cell"] (defScope s_L_crowd) := ⟨rfl, rfl, rfl, by decide +kernel, rfl, by decide +kernel, by decide +kernel⟩
theorem names_fresh {s : Int} {i : Nat} (hi : i ≤ 80) : nameBy (i : Int) s ∉ (List.range i).map fun j : Nat => nameBy (j : Int) s := fun h => by
  obtain ⟨j, hj, e⟩ := List.mem_map.mp h
  have hj := List.mem_range.mp hj
  have := nameBy_inj (c := s) (by omega) (by omega) (by omega) (by omega) e
  omega
def sp_L_crowd (K : PySem.W.Frag) : Sp := fun vs H Q _ => ∃ (F : Hp) (p : Addr) (d : Dk) (n s c : Int), vs = [.ref p, .int n, .int s, .int c] ∧ DeskAt K F H p d ∧ d.Ok ∧ d.line = [] ∧ 0 ≤ n ∧ n ≤ d.room ∧ RetDL K F p d Q
theorem ok_L_crowd {P : Program} {w : World} {K : PySem.W.Frag} {mg : Str → Option Value} {base : Heap} (T : Txt K mg) : ∃ fd, FnOk P w K mg base (CX0) 4 (He.ga K "_law_crowd") fd ["_law_desk", "_law_many_here", "_law_shift", "_law_cell"] (sp_L_crowd K) ∧ Binds K fd ["_law_desk", "_law_many_here", "_law_shift", "_law_cell"] [] ∧ FunD K "_law_crowd" "_law_crowd" (defArgs s_L_crowd) (defBody s_L_crowd) (defScope s_L_crowd) [] [] (He.ga K "_law_crowd") fd := by
  obtain ⟨fd, F⟩ := f_L_crowd T
  obtain ⟨d_L_rank_by, G_L_rank_by, b_L_rank_by, _⟩ := ok_L_rank_by (P := P) (w := w) (base := base) T
  obtain ⟨d_desk_enter, G_desk_enter, b_desk_enter, _⟩ := ok_desk_enter (P := P) (w := w) (base := base) T
  obtain ⟨d_L_name_by, G_L_name_by, b_L_name_by, _⟩ := ok_L_name_by (P := P) (w := w) (base := base) T
  refine ⟨fd, ok0 F sc_L_crowd (fun vs H Q E h => ?_) (fun cdv A outer s H vs Q E hr h => ?_), FunD.bindsN F fun _ _ _ _ _ _ us hl => match us, hl with | [_, _, _, _], _ => rfl, F⟩
  · (repeat (obtain ⟨_, h⟩ := h)); subst_vars; rfl
  · obtain ⟨F, p, d, n, sh, c, rfl, D, ok, hnil, h0, h1, k⟩ := h
    refine ⟨_, (pss_cons (ps_set (i := 4) sc_L_crowd.nd rfl (Or.inl rfl) (pe_lst pa_nil))
        (pss_cons (ps_for PassesOwn.never rfl (pi_range1 rfl (b_range T) (pa_cons (pv 1) pa_nil)) (pg_name (i := 5) sc_L_crowd.nd rfl (Or.inl rfl))
        (pss_cons (ps_set (i := 6) sc_L_crowd.nd rfl (Or.inl rfl) (pe_call G_L_rank_by (hr.mono (by decide)) rfl (g_L_rank_by T) (kp_L_rank_by T) b_L_rank_by .nil pass0 (pa_cons (pe_op op_add (pv 3) (pe_op op_mul pe_int (pv 5))) pa_nil)))
        (pss_cons (ps_expr (pe_meth (pv 0) (c_Desk T) (m_desk_enter T) G_desk_enter (hr.mono (by decide)) b_desk_enter .nil passL (pa_cons (pe_call G_L_name_by (hr.mono (by decide)) rfl (g_L_name_by T) (kp_L_name_by T) b_L_name_by .nil pass0 (pa_cons (pv 5) (pa_cons (pv 2) pa_nil))) (pa_cons (pv 6) pa_nil))))
        (pss_one (ps_expr (pe_bm PySem.F.plainAttrs_list PySem.F.slot_list_append PySem.F.type_list_append mt_append (pv 4) (pa_cons (pe_tup (pa_cons (pe_call G_L_name_by (hr.mono (by decide)) rfl (g_L_name_by T) (kp_L_name_by T) b_L_name_by .nil pass0 (pa_cons (pv 5) (pa_cons (pv 2) pa_nil))) (pa_cons (pv 6) (pa_cons pe_str (pa_cons (pe_fldK (K := K) rfl (pv 0) rfl) pa_nil))))) pa_nil)))))))
        (pss_one (ps_ret (pv 4))))), ?_⟩
    have hr2 := ok.r2
    refine q_asgL (el_lst (vs := []) ea_nil (by decide)) fun b H1 hb e1 hb1 => ?_
    have hFb := ex_none D.fr hb
    have hlb : LnAt (upd F b (.lst [])) b [] := ⟨upd_same, fun q hq => by cases hq⟩
    refine q_forR1 (n := n) (ea_cons (ev_var rfl) ea_nil) (by omega)
      (fun i σ' H' => ∃ v5 v6 d' G qs, σ' = [some (.ref p), some (.int n), some (.int sh), some (.int c), some (.ref b), v5, v6] ∧ Ex F G ∧ DeskAt K G H' p d' ∧ Deeds d d' ∧ LnAt G b qs ∧ qs.map (·.2) = d'.line ∧ d'.line.map (·.nm) = (List.range i).map fun j : Nat => nameBy (j : Int) sh)
      (fun H2 e2 => ⟨none, none, d, _, [], rfl, Ex.new hFb, (D.new hb e1 hb1).ex e2, .refl, hlb, hnil.symm, by rw [hnil]; rfl⟩) ?_ ?_
    · rintro i σ' H' hi ⟨v5, v6, d', G, qs, rfl, eG, D', dd, hl, hL, hnm⟩
      obtain ⟨ok', hpa, hro, hno⟩ := dd.ok ok
      have hlen : d'.line.length = i := by
        have := congrArg List.length hnm
        rw [List.length_map, List.length_map, List.length_range] at this
        exact this
      have hlq : qs.length = i := by rw [← List.length_map (f := fun q : Pr => q.2), hL, hlen]
      have hrk := rankBy_ok (c + 13 * (i : Int))
      refine' q_asg (v := .int (rankBy (c + 13 * (i : Int)))) ?h fun H2 e2 => ?_
      case h => exact ev_call (ea_cons (ev_op (ev_var rfl) (ev_op ev_c (ev_var rfl) (rv_I (cmul_l (by decide) (by decide)))) rv_I0) ea_nil) cv_L_rank_by
      have D2 := D'.ex e2
      obtain ⟨l, ps, DD, ff⟩ := id D2
      obtain ⟨dx, hp⟩ := DD.ob
      have hok := nameBy_ok (k := (i : Int)) (c := sh) (by omega) (by omega)
      have hnl := (isName_len hok).2
      have hfr : nameBy (i : Int) sh ∉ d'.line.map (·.nm) := by rw [hnm]; exact names_fresh (by omega)
      refine q_dmeth (vs := [.str (nameBy (i : Int) sh), .int (rankBy (c + 13 * (i : Int)))]) (ev_var rfl) hp rfl (ea_cons (ev_call (ea_cons (ev_var rfl) (ea_cons (ev_var rfl) ea_nil)) (cv_L_name_by (by omega) (by omega))) (ea_cons (ev_var rfl) ea_nil)) fun H3 e3 => ?_
      refine ⟨G, p, d', _, _, rfl, D2.ex e3, ok'.wf, by omega, fun e he => ?_, fun _ H4 D4 => ?_⟩
      · unfold enterErr at he
        rw [if_neg (by rw [hok]; decide), if_neg (by omega), if_neg hfr, if_neg (by rw [hlen]; omega)] at he
        cases he
      · obtain ⟨l4, ps4, DD4, ff4⟩ := id D4
        refine s_appU (hl := D4.fr _ _ hl.l) (ys := cvt ⟨nameBy (i : Int) sh, rankBy (c + 13 * (i : Int)), .rdy d'.now⟩) (ev_var rfl) (eu_tup (ea_cons (ev_call (ea_cons (ev_var rfl) (ea_cons (ev_var rfl) ea_nil)) (cv_L_name_by (by omega) (by omega))) (ea_cons (ev_var rfl) (ea_cons ev_c (ea_cons (ev_is (ev_now T (ev_var rfl) DD4) rfl) ea_nil)))) (by show 4 ≤ 100000; decide)) (by rw [List.length_map]; omega) fun t H5 nt e5 ht => ?_
        have GT : G t = none := ex_none D4.fr nt
        have D5 := D4.new nt e5 ht
        have hbt : b ≠ t := fun e => by rw [← e, hl.l] at GT; cases GT
        have hGb : upd G t (.tup (cvt ⟨nameBy (i : Int) sh, rankBy (c + 13 * (i : Int)), .rdy d'.now⟩)) b = some (.lst (qs.map fun q => V.ref q.1)) := by rw [upd_ne hbt]; exact hl.l
        have D6 := D5.set (u := .lst ((qs.map fun q => V.ref q.1) ++ [.ref t])) hGb
        refine ⟨_, _, _, _, qs ++ [(t, ⟨nameBy (i : Int) sh, rankBy (c + 13 * (i : Int)), .rdy d'.now⟩)], rfl, Ex.mut (eG.trans (Ex.new GT)) hFb, D6, dd.step (.enter _ _ hok hrk hfr (by rw [hlen]; omega) (zz_name (by omega) (by omega))), ⟨?_, fun q hq => ?_⟩, ?_, ?_⟩
        · rw [List.map_append]
          exact upd_same
        · rcases List.mem_append.mp hq with hq | hq
          · have hqt := hl.t q hq
            rw [upd_ne (fun e => by rw [e, hl.l] at hqt; cases hqt), upd_ne (fun e => by rw [e, GT] at hqt; cases hqt)]
            exact hqt
          · rw [List.mem_singleton] at hq
            rw [hq, upd_ne hbt.symm]
            exact upd_same
        · show _ = d'.line ++ _
          rw [List.map_append, hL]
          rfl
        · show (d'.line ++ _).map _ = _
          rw [List.map_append, hnm, List.range_succ, List.map_append]
          rfl
    · rintro σ' H' ⟨v5, v6, d', G, qs, rfl, eG, D', dd, hl, hL, hnm⟩
      exact s_ret (ev_var rfl) fun H2 e2 => k G b H2 d' eG (D'.ex e2) dd ⟨qs, hl, hL⟩
/-! ### L_many -/
theorem sc_L_many : FnScope ["_law_script", "_law_room"] ["_law_script", "_law_room"] (defScope s_L_many) := ⟨rfl, rfl, rfl, by decide +kernel, rfl, by decide +kernel, by decide +kernel⟩
def manyBy (ns : List Int) (ro : Int) : Int := if cellAt ns 1 / 7 % 4 = 1 then cellAt ns 1 / 28 % (ro + 1) else (if cellAt ns 1 % 7 < ro then cellAt ns 1 % 7 else ro)
theorem manyBy_ok {ns : List Int} {ro : Int} (h : 1 ≤ ro) : 0 ≤ manyBy ns ro ∧ manyBy ns ro ≤ ro := by
  unfold manyBy
  have h1 := Int.emod_nonneg (cellAt ns 1 / 28) (b := ro + 1) (by omega)
  have h2 := Int.emod_lt_of_pos (cellAt ns 1 / 28) (b := ro + 1) (by omega)
  split
  · omega
  · split <;> omega
def sp_L_many (K : PySem.W.Frag) : Sp := fun vs H Q _ => ∃ (a : Addr) (ns : List Int) (ro : Int), vs = [.ref a, .int ro] ∧ SqL K H a (ns.map V.int) ∧ 1 ≤ ro ∧ ro ≤ 60 ∧ RetV (.int (manyBy ns ro)) H Q
theorem cv_L_many {K : PySem.W.Frag} {H : Hp} {a : Addr} {ns : List Int} {ro : Int} (h : SqL K H a (ns.map V.int)) (h0 : 1 ≤ ro) (h1 : ro ≤ 60) : SpV (sp_L_many K) ([.ref a, .int ro] ++ []) H (.int (manyBy ns ro)) :=
  spv_call fun _ e _ _ k => ⟨a, ns, ro, rfl, ex_l e h, h0, h1, k⟩
local macro_rules | `(tactic| tm_at "rr.cv") => `(tactic| refine' cv_L_many (by assumption) ?_ ?_)
theorem ok_L_many {P : Program} {w : World} {K : PySem.W.Frag} {mg : Str → Option Value} {base : Heap} (T : Txt K mg) : ∃ fd, FnOk P w K mg base (CX0) 2 (He.ga K "_law_many") fd ["_law_script", "_law_room"] (sp_L_many K) ∧ Binds K fd ["_law_script", "_law_room"] [] ∧ FunD K "_law_many" "_law_many" (defArgs s_L_many) (defBody s_L_many) (defScope s_L_many) [] [] (He.ga K "_law_many") fd := by
  obtain ⟨fd, F⟩ := f_L_many T
  obtain ⟨d_L_cell_at, G_L_cell_at, b_L_cell_at, _⟩ := ok_L_cell_at (P := P) (w := w) (base := base) T
  refine ⟨fd, ok0 F sc_L_many (fun vs H Q E h => ?_) (fun cdv A outer s H vs Q E hr h => ?_), FunD.bindsN F fun _ _ _ _ _ _ us hl => match us, hl with | [_, _], _ => rfl, F⟩
  · (repeat (obtain ⟨_, h⟩ := h)); subst_vars; rfl
  · obtain ⟨a, ns, ro, rfl, hS, h0, h1, k⟩ := h
    refine ⟨_, (pss_cons (ps_if (pt_cmpR op_eq (pe_op op_mod (pe_op op_fdiv (pe_call G_L_cell_at (hr.mono (by decide)) rfl (g_L_cell_at T) (kp_L_cell_at T) b_L_cell_at .nil pass0 (pa_cons (pv 0) (pa_cons pe_int pa_nil))) pe_int) pe_int) pe_int (nomark _)) (pss_one (ps_ret (pe_op op_mod (pe_op op_fdiv (pe_call G_L_cell_at (hr.mono (by decide)) rfl (g_L_cell_at T) (kp_L_cell_at T) b_L_cell_at .nil pass0 (pa_cons (pv 0) (pa_cons pe_int pa_nil))) pe_int) (pe_op op_add (pv 1) pe_int))))
        pss_nil)
        (pss_one (ps_ret (pe_callB (call_min2 rfl) rfl (b_min T) (by decide +kernel) (pa_cons (pv 1) (pa_cons (pe_op op_mod (pe_call G_L_cell_at (hr.mono (by decide)) rfl (g_L_cell_at T) (kp_L_cell_at T) b_L_cell_at .nil pass0 (pa_cons (pv 0) (pa_cons pe_int pa_nil))) pe_int) pa_nil)))))), ?_⟩
    unfold manyBy at k
    refine q_when (b := decide (cellAt ns 1 / 7 % 4 = 1)) ?h1 (fun hb H1 e1 => ?_) (fun hb H1 e1 => ?_)
    case h1 =>
      refine' et_mix0 ?_
      tm_at "rr.ev"
    · rw [if_pos (of_decide_eq_true hb)] at k
      have hS := ex_l e1 hS
      refine' s_ret ?h fun H2 e2 => k H2 (e1.trans e2)
      case h => tm_at "rr.ev"
    · rw [if_neg (of_decide_eq_false hb)] at k
      have hS := ex_l e1 hS
      refine' s_ret ?h fun H2 e2 => k H2 (e1.trans e2)
      case h => tm_at "rr.ev"
/-! ### L_few -/
theorem sc_L_few : FnScope ["_law_cell", "_law_many_here"] ["_law_cell", "_law_many_here"] (defScope s_L_few) := ⟨rfl, rfl, rfl, by decide +kernel, rfl, by decide +kernel, by decide +kernel⟩
def fewBy (c n : Int) : Int := if n < 10 ∧ mix c 10267 300 = 0 then 300 + mix c 10163 701 else if mix c 10159 5 = 0 then mix c 10163 (2 + 200 / (n + 1)) else mix c 10163 5
theorem fewBy_ok {c n : Int} (h0 : 0 ≤ n) : 0 ≤ fewBy c n ∧ fewBy c n ≤ 1000 := by
  have h1 := mix_nonneg (c := c) (p := 10163) (m := 701) (by decide)
  have h2 := mix_lt (c := c) (p := 10163) (m := 701) (by decide)
  have h3 := mix_nonneg (c := c) (p := 10163) (m := 5) (by decide)
  have h4 := mix_lt (c := c) (p := 10163) (m := 5) (by decide)
  have h9 : 0 ≤ 200 / (n + 1) ∧ 200 / (n + 1) ≤ 200 := ⟨Int.ediv_nonneg (by decide) (by omega), Int.ediv_le_self _ (by decide)⟩
  have h5 := mix_nonneg (c := c) (p := 10163) (m := 2 + 200 / (n + 1)) (by omega)
  have h6 := mix_lt (c := c) (p := 10163) (m := 2 + 200 / (n + 1)) (by omega)
  unfold fewBy
  split
  · omega
  · split <;> omega
def sp_L_few (_ : PySem.W.Frag) : Sp := fun vs H Q _ => ∃ (c n : Int), vs = [.int c, .int n] ∧ 0 ≤ n ∧ n ≤ 100000 ∧ RetV (.int (fewBy c n)) H Q
theorem cv_L_few {K : PySem.W.Frag} {H : Hp} {c n : Int} (h1 : 0 ≤ n) (h2 : n ≤ 100000) : SpV (sp_L_few K) ([.int c, .int n] ++ []) H (.int (fewBy c n)) := spv_call fun _ _ _ _ k => ⟨c, n, rfl, h1, h2, k⟩
local macro_rules | `(tactic| tm_at "rr.cv") => `(tactic| refine' cv_L_few ?_ ?_)
theorem ok_L_few {P : Program} {w : World} {K : PySem.W.Frag} {mg : Str → Option Value} {base : Heap} (T : Txt K mg) : ∃ fd, FnOk P w K mg base (CX0) 2 (He.ga K "_law_few") fd ["_law_cell", "_law_many_here"] (sp_L_few K) ∧ Binds K fd ["_law_cell", "_law_many_here"] [] ∧ FunD K "_law_few" "_law_few" (defArgs s_L_few) (defBody s_L_few) (defScope s_L_few) [] [] (He.ga K "_law_few") fd := by
  obtain ⟨fd, F⟩ := f_L_few T
  obtain ⟨d_L_mix, G_L_mix, b_L_mix, _⟩ := ok_L_mix (P := P) (w := w) (base := base) T
  refine ⟨fd, ok0 F sc_L_few (fun vs H Q E h => ?_) (fun cdv A outer s H vs Q E hr h => ?_), FunD.bindsN F fun _ _ _ _ _ _ us hl => match us, hl with | [_, _], _ => rfl, F⟩
  · (repeat (obtain ⟨_, h⟩ := h)); subst_vars; rfl
  · obtain ⟨c, n, rfl, h0, h1, k⟩ := h
    refine ⟨_, (pss_cons (ps_if (PW.pt (pw_and (pt_cmpR op_lt (pv 1) pe_int (nomark _)) (pw_and1 (pt_cmpR op_eq (pe_call G_L_mix (hr.mono (by decide)) rfl (g_L_mix T) (kp_L_mix T) b_L_mix .nil pass0 (pa_cons (pv 0) (pa_cons pe_int (pa_cons pe_int pa_nil)))) pe_int (nomark _))))) (pss_one (ps_ret (pe_op op_add pe_int (pe_call G_L_mix (hr.mono (by decide)) rfl (g_L_mix T) (kp_L_mix T) b_L_mix .nil pass0 (pa_cons (pv 0) (pa_cons pe_int (pa_cons pe_int pa_nil)))))))
        pss_nil)
        (pss_cons (ps_if (pt_cmpR op_eq (pe_call G_L_mix (hr.mono (by decide)) rfl (g_L_mix T) (kp_L_mix T) b_L_mix .nil pass0 (pa_cons (pv 0) (pa_cons pe_int (pa_cons pe_int pa_nil)))) pe_int (nomark _)) (pss_one (ps_ret (pe_call G_L_mix (hr.mono (by decide)) rfl (g_L_mix T) (kp_L_mix T) b_L_mix .nil pass0 (pa_cons (pv 0) (pa_cons pe_int (pa_cons (pe_op op_add pe_int (pe_op op_fdiv pe_int (pe_op op_add (pv 1) pe_int))) pa_nil))))))
        pss_nil)
        (pss_one (ps_ret (pe_call G_L_mix (hr.mono (by decide)) rfl (g_L_mix T) (kp_L_mix T) b_L_mix .nil pass0 (pa_cons (pv 0) (pa_cons pe_int (pa_cons pe_int pa_nil)))))))), ?_⟩
    unfold fewBy at k
    refine q_when (b := decide (n < 10 ∧ mix c 10267 300 = 0)) ?h1 (fun hb H1 e1 => ?_) (fun hb H1 e1 => ?_)
    case h1 =>
      rw [Bool.decide_and]
      refine' et_and (et_test (ev_op (ev_var rfl) ev_c rv_I0)) (fun _ => et_mix0 ?_)
      tm_at "rr.ev"
    · rw [if_pos (of_decide_eq_true hb)] at k
      refine' s_ret ?h fun H2 e2 => k H2 (e1.trans e2)
      case h => tm_at "rr.ev"
    rw [if_neg (of_decide_eq_false hb)] at k
    refine q_when (b := decide (mix c 10159 5 = 0)) ?h2 (fun hb H2 e2 => ?_) (fun hb H2 e2 => ?_)
    case h2 =>
      refine' et_mix0 ?_
      tm_at "rr.ev"
    · rw [if_pos (of_decide_eq_true hb)] at k
      have h9 : 0 ≤ 200 / (n + 1) := Int.ediv_nonneg (by decide) (by omega)
      refine' s_ret ?h fun H3 e3 => k H3 ((e1.trans e2).trans e3)
      case h => tm_at "rr.ev"
    · rw [if_neg (of_decide_eq_false hb)] at k
      refine' s_ret ?h fun H3 e3 => k H3 ((e1.trans e2).trans e3)
      case h => tm_at "rr.ev"
/-! ### desk_those -/
theorem sc_desk_those : FnScope ["self", "stand", "caller"] ["self", "stand"] (defScope s_desk_those) := ⟨rfl, rfl, rfl, by decide +kernel, rfl, by decide +kernel, by decide +kernel⟩
def sp_desk_those (K : PySem.W.Frag) : Sp := fun vs H Q _ => ∃ (p : Addr) (d : Dk) (l : Addr) (ps : List Pr) (s : Str), vs = [.ref p, .str s] ∧ DkAt K H p d l ps ∧ ps.length ≤ 1000 ∧ RetL ((ps.filter fun q => decide (q.2.md.st = s)).map fun q => V.ref q.1) H Q
theorem cv_those {K : PySem.W.Frag} {H : Hp} {p l : Addr} {d : Dk} {ps : List Pr} {s : Str} (h : DkAt K H p d l ps) (hz : ps.length ≤ 1000) : SpL (sp_desk_those K) (.ref p :: ([.str s] ++ [])) H ((ps.filter fun q => decide (q.2.md.st = s)).map fun q => V.ref q.1) := spl_call fun _ e _ _ k => ⟨p, d, l, ps, s, rfl, h.ex e, hz, k⟩
theorem ok_desk_those {P : Program} {w : World} {K : PySem.W.Frag} {mg : Str → Option Value} {base : Heap} (T : Txt K mg) : ∃ fd, FnOk P w K mg base (CX0) 1 (He.ma K (He.ga K "Desk") "those") fd ["self", "stand"] (sp_desk_those K) ∧ Binds K fd ["self", "stand"] [] ∧ FunD K "those" "Desk.those" (defArgs s_desk_those) (defBody s_desk_those) (defScope s_desk_those) [] [] (He.ma K (He.ga K "Desk") "those") fd := by
  obtain ⟨fd, F⟩ := f_desk_those T
  refine ⟨fd, ok0 F sc_desk_those (fun vs H Q E h => ?_) (fun cdv A outer s H vs Q E hr h => ?_), FunD.bindsN F fun _ _ _ _ _ _ us hl => match us, hl with | [_, _], _ => rfl, F⟩
  · (repeat (obtain ⟨_, h⟩ := h)); subst_vars; rfl
  · obtain ⟨p, d, l, ps, s, rfl, D, hz, k⟩ := h
    refine ⟨_, (pss_one (ps_ret (pe_lc (own := [("caller", 2)]) (g := gName 2) rfl sc_desk_those.nd (pi_listK (K := K) rfl (pe_fldK (K := K) rfl (pv 0) rfl)) (blkOk_by (own := [("caller", 2)]) (N := ["self", "stand", "caller"]) (sc := defScope s_desk_those) (by decide +kernel)) (fun _ _ _ _ _ => (pg_name (i := 2) sc_desk_those.nd rfl (Or.inl rfl))) (fun _ _ _ _ _ => pts_one (pt_cmpR op_eq (pe_fldK (K := K) rfl (pv 2) rfl) (pv 1) (nomark _))) (fun _ _ _ _ _ => (pv 2))))), ?_⟩
    refine s_retL (el_lcM (K := K) (ps := ps) (uu := fun q => V.ref q.1) (fun q => decide (q.2.md.st = s)) (fun q => V.ref q.1) (ev_line T (ev_var rfl) D) (sq_of D.ln) (by omega) (fun _ => rfl) (fun q hq H1 e1 => ?_) fun q hq H1 e1 _ => ev_var rfl) k
    rw [← decV]
    exact et_test (ev_op (ev_stand T (ev_var rfl) ((D.at_ q hq).ex e1)) (ev_var rfl) (rv_eq rfl))
/-! ### aged -/
theorem sc_aged : FnScope ["rank", "waited", "pace"] ["rank", "waited", "pace"] (defScope s_aged) := ⟨rfl, rfl, rfl, by decide +kernel, rfl, by decide +kernel, by decide +kernel⟩
def sp_aged (_ : PySem.W.Frag) : Sp := fun vs H Q _ => ∃ (r wt p : Int), vs = [.int r, .int wt, .int p] ∧ 0 < p ∧ p < 1073741824 ∧ RetV (.int (r + wt / p)) H Q
theorem cv_aged {K : PySem.W.Frag} {H : Hp} {r wt p : Int} (h1 : 0 < p) (h2 : p < 1073741824) : SpV (sp_aged K) ([.int r, .int wt, .int p] ++ []) H (.int (r + wt / p)) := spv_call fun _ _ _ _ k => ⟨r, wt, p, rfl, h1, h2, k⟩
local macro_rules | `(tactic| tm_at "rr.cv") => `(tactic| refine' cv_aged ?_ ?_)
theorem ok_aged {P : Program} {w : World} {K : PySem.W.Frag} {mg : Str → Option Value} {base : Heap} (T : Txt K mg) : ∃ fd, FnOk P w K mg base (CX0) 1 (He.ga K "aged") fd ["rank", "waited", "pace"] (sp_aged K) ∧ Binds K fd ["rank", "waited", "pace"] [] ∧ FunD K "aged" "aged" (defArgs s_aged) (defBody s_aged) (defScope s_aged) [] [] (He.ga K "aged") fd := by
  obtain ⟨fd, F⟩ := f_aged T
  refine ⟨fd, ok0 F sc_aged (fun vs H Q E h => ?_) (fun cdv A outer s H vs Q E hr h => ?_), FunD.bindsN F fun _ _ _ _ _ _ us hl => match us, hl with | [_, _, _], _ => rfl, F⟩
  · (repeat (obtain ⟨_, h⟩ := h)); subst_vars; rfl
  · obtain ⟨r, wt, p, rfl, h1, h2, k⟩ := h
    refine ⟨_, (pss_one (ps_ret (pe_op op_add (pv 0) (pe_op op_fdiv (pv 1) (pv 2))))), ?_⟩
    exact s_ret (ev_op (ev_var rfl) (ev_op (ev_var rfl) (ev_var rfl) (rv_I ⟨h1, h2⟩)) rv_I0) k
/-! ### first -/
theorem sc_first : FnScope ["rows", "pace", "best", "most", "k", "found"] ["rows", "pace"] (defScope s_first) := ⟨rfl, rfl, rfl, by decide +kernel, rfl, by decide +kernel, by decide +kernel⟩
def sp_first (K : PySem.W.Frag) : Sp := fun vs H Q _ => ∃ (a : Addr) (qs : List (Int × Int)) (ts : List Addr) (p : Int), vs = [.ref a, .int p] ∧ Rows K H a qs ts ∧ qs.length ≤ 1000 ∧ 0 < p ∧ p < 1073741824 ∧ RetV (optV (firstIdx p qs)) H Q
theorem cv_first {K : PySem.W.Frag} {H : Hp} {a : Addr} {qs : List (Int × Int)} {ts : List Addr} {p : Int} (h : Rows K H a qs ts) (h1 : qs.length ≤ 1000) (h2 : 0 < p) (h3 : p < 1073741824) : SpV (sp_first K) ([.ref a, .int p] ++ []) H (optV (firstIdx p qs)) :=
  spv_call fun _ e _ _ k => ⟨a, qs, ts, p, rfl, h.ex e, h1, h2, h3, k⟩
theorem ok_first {P : Program} {w : World} {K : PySem.W.Frag} {mg : Str → Option Value} {base : Heap} (T : Txt K mg) : ∃ fd, FnOk P w K mg base (CX0) 2 (He.ga K "first") fd ["rows", "pace"] (sp_first K) ∧ Binds K fd ["rows", "pace"] [] ∧ FunD K "first" "first" (defArgs s_first) (defBody s_first) (defScope s_first) [] [] (He.ga K "first") fd := by
  obtain ⟨fd, F⟩ := f_first T
  obtain ⟨d_aged, G_aged, b_aged, _⟩ := ok_aged (P := P) (w := w) (base := base) T
  refine ⟨fd, ok0 F sc_first (fun vs H Q E h => ?_) (fun cdv A outer s H vs Q E hr h => ?_), FunD.bindsN F fun _ _ _ _ _ _ us hl => match us, hl with | [_, _], _ => rfl, F⟩
  · (repeat (obtain ⟨_, h⟩ := h)); subst_vars; rfl
  · obtain ⟨a, qs, ts, p, rfl, hR, hz, hp, hp2, k⟩ := h
    refine ⟨_, (pss_cons (ps_set (i := 2) sc_first.nd rfl (Or.inl rfl) pe_non)
        (pss_cons (ps_set (i := 3) sc_first.nd rfl (Or.inl rfl) pe_int)
        (pss_cons (ps_for PassesOwn.never rfl (pi_range1 rfl (b_range T) (pa_cons (pe_callB (call_lenK (K := K) rfl) rfl (b_len T) (by decide +kernel) (pa_cons (pv 0) pa_nil)) pa_nil)) (pg_name (i := 4) sc_first.nd rfl (Or.inl rfl))
        (pss_cons (ps_set (i := 5) sc_first.nd rfl (Or.inl rfl) (pe_call G_aged (hr.mono (by decide)) rfl (g_aged T) (kp_aged T) b_aged .nil pass0 (pa_cons (pe_ix (ix_tupK (K := K) rfl) (pe_ix (ix_listK (K := K) rfl) (pv 0) (pv 4) (fun _ _ => rfl)) pe_int (fun _ _ => rfl)) (pa_cons (pe_ix (ix_tupK (K := K) rfl) (pe_ix (ix_listK (K := K) rfl) (pv 0) (pv 4) (fun _ _ => rfl)) pe_int (fun _ _ => rfl)) (pa_cons (pv 1) pa_nil)))))
        (pss_one (ps_if (PW.pt (pw_or (pt_cmpR op_isN (pv 2) pe_non (nomark _)) (pw_or1 (pt_cmpR op_gt (pv 5) (pv 3) (nomark _))))) (pss_cons (ps_set (i := 2) sc_first.nd rfl (Or.inl rfl) (pv 4))
        (pss_one (ps_set (i := 3) sc_first.nd rfl (Or.inl rfl) (pv 5))))
        pss_nil))))
        (pss_one (ps_ret (pv 2)))))), ?_⟩
    refine' q_asg ev_c fun H1 e1 => ?_
    refine' q_asg ev_c fun H2 e2 => ?_
    have hR2 := hR.ex (e1.trans e2)
    have hl : ((ts.map V.ref).length : Int) = (qs.length : Int) := by rw [List.length_map, hR.n]
    refine q_forR1 (n := ((ts.map V.ref).length : Int)) (ea_cons (ev_cb (ea_cons (ev_var rfl) ea_nil) (rc_lenS hR2.l)) ea_nil) (by omega)
      (fun i σ' H' => Ex H2 H' ∧ ∃ v4 v5 : Option V, σ' = [some (.ref a), some (.int p), some (optV (fstate p qs i).1), some (.int (fstate p qs i).2), v4, v5]) (fun H3 e3 => ⟨e3, none, none, rfl⟩) ?_ ?_
    · rintro i σ' H' hi ⟨e3, v4, v5, rfl⟩
      have hi' : i < qs.length := by omega
      have hR3 := hR2.ex e3
      obtain ⟨t, ht, hT⟩ := hR3.at_ hi'
      refine' q_asg (v := .int (ag p (qs.getD i (0, 0)))) ?h fun H4 e4 => ?_
      case h =>
        exact ev_call (ea_cons (ev_op (ev_op (ev_var rfl) (ev_var rfl) (rv_ixL hR3.l (at_of rfl ht))) ev_c (rv_ixT hT rfl)) (ea_cons (ev_op (ev_op (ev_var rfl) (ev_var rfl) (rv_ixL hR3.l (at_of rfl ht))) ev_c (rv_ixT hT rfl)) (ea_cons (ev_var rfl) ea_nil))) (cv_aged hp hp2)
      refine' s_when ?h (fun hb H5 e5 => ?_) (fun hb H5 e5 => ?_)
      case h => tm_at "rr.ev"
      · refine' q_asg (ev_var rfl) fun H6 e6 => ?_
        refine' s_asg (ev_var rfl) fun H7 e7 => ?_
        have c : (fstate p qs i).1 = none ∨ (fstate p qs i).2 < ag p (qs.getD i (0, 0)) := by
          cases e9 : (fstate p qs i).1 with
          | none => exact .inl rfl
          | some j =>
            rw [e9] at hb
            exact .inr (of_decide_eq_true (by simpa [optV] using hb))
        refine ⟨(((e3.trans e4).trans e5).trans e6).trans e7, some (.int i), some (.int (ag p (qs.getD i (0, 0)))), ?_⟩
        rw [fstate_succ, fstep, if_pos c]
        rfl
      · have c : ¬ ((fstate p qs i).1 = none ∨ (fstate p qs i).2 < ag p (qs.getD i (0, 0))) := by
          intro c
          rcases c with c | c
          · rw [c] at hb
            exact absurd hb (by simp [optV])
          · rw [decide_eq_true c] at hb
            exact absurd hb (by simp)
        refine ⟨(e3.trans e4).trans e5, some (.int i), some (.int (ag p (qs.getD i (0, 0)))), ?_⟩
        rw [fstate_succ, fstep, if_neg c]
        rfl
    · rintro σ' H' ⟨e3, v4, v5, rfl⟩
      have ez : ((ts.map V.ref).length : Int).toNat = qs.length := by omega
      rw [ez]
      exact s_ret (ev_var rfl) fun H4 e4 => k H4 (((e1.trans e2).trans e3).trans e4)
/-! ### desk_become -/
theorem sc_desk_become : FnScope ["self", "caller", "stand", "mark", "other"] ["self", "caller", "stand", "mark"] (defScope s_desk_become) := ⟨rfl, rfl, rfl, by decide +kernel, rfl, by decide +kernel, by decide +kernel⟩
theorem ev_lab {K : PySem.W.Frag} {mg : Str → Option Value} {σ : L2.St} {H : Hp} {ta : TE} {a : Addr} {nm : Str} (T : Txt K mg) (h : Ev ta σ H (.ref a)) (C : ∃ dx g s m, H a = some (.ins (aC K) dx (rfs (.str nm) g s m))) : Ev (tFld K ta "label") σ H (.str nm) := by
  obtain ⟨dx, g, s, m, C⟩ := C
  exact ev_fld h C (c_Caller T) (n_Caller_label T) rfl
def sp_desk_become (K : PySem.W.Frag) : Sp := fun vs H Q _ => ∃ (F : Hp) (p : Addr) (d : Dk) (l : Addr) (ps : List Pr) (q : Pr) (md : Md), vs = [.ref p, .ref q.1, .str md.st, md.mark] ∧ DkAt K H p d l ps ∧ Fr F H p l ps ∧ q ∈ ps ∧ d.Wf ∧
  ∀ (H' : Hp) (l' : Addr), DkAt K H' p (d.put ⟨q.2.nm, q.2.rk, md⟩) l' (putP ps (q.1, ⟨q.2.nm, q.2.rk, md⟩)) → Fr F H' p l' (putP ps (q.1, ⟨q.2.nm, q.2.rk, md⟩)) → Q .non H'
theorem ok_desk_become {P : Program} {w : World} {K : PySem.W.Frag} {mg : Str → Option Value} {base : Heap} (T : Txt K mg) : ∃ fd, FnOk P w K mg base (CX0) 1 (He.ma K (He.ga K "Desk") "become") fd ["self", "caller", "stand", "mark"] (sp_desk_become K) ∧ Binds K fd ["self", "caller", "stand", "mark"] [] ∧ FunD K "become" "Desk.become" (defArgs s_desk_become) (defBody s_desk_become) (defScope s_desk_become) [] [] (He.ma K (He.ga K "Desk") "become") fd := by
  obtain ⟨fd, F⟩ := f_desk_become T
  refine ⟨fd, ok0 F sc_desk_become (fun vs H Q E h => ?_) (fun cdv A outer s H vs Q E hr h => ?_), FunD.bindsN F fun _ _ _ _ _ _ us hl => match us, hl with | [_, _, _, _], _ => rfl, F⟩
  · (repeat (obtain ⟨_, h⟩ := h)); subst_vars; rfl
  · obtain ⟨F, p, d, l, ps, q, md, rfl, D, f, hq, W, k⟩ := h
    refine ⟨_, (pss_cons (ps_fld (pv 1) (pv 2) rfl)
        (pss_cons (ps_fld (pv 1) (pv 3) rfl)
        (pss_one (ps_fld (pv 0) (pe_op op_cat (pe_lc (own := [("other", 4)]) (g := gName 4) rfl sc_desk_become.nd (pi_listK (K := K) rfl (pe_fldK (K := K) rfl (pv 0) rfl)) (blkOk_by (own := [("other", 4)]) (N := ["self", "caller", "stand", "mark", "other"]) (sc := defScope s_desk_become) (by decide +kernel)) (fun _ _ _ _ _ => (pg_name (i := 4) sc_desk_become.nd rfl (Or.inl rfl))) (fun _ _ _ _ _ => pts_one (pt_cmpR op_ne (pe_fldK (K := K) rfl (pv 4) rfl) (pe_fldK (K := K) rfl (pv 1) rfl) (nomark _))) (fun _ _ _ _ _ => (pv 4))) (pe_lst (pa_cons (pv 1) pa_nil))) rfl)))), ?_⟩
    obtain ⟨dx, hc⟩ := D.at_ q hq
    obtain ⟨dd, hp⟩ := D.ob
    have hl := D.ln
    have npa : p ≠ q.1 := ne_of hp hc ins_ne
    have nla : l ≠ q.1 := ne_of hl hc (by intro z; cases z)
    have nlp : l ≠ p := ne_of hl hp (by intro z; cases z)
    refine ⟨_, rfl, _, rfl, q.1, aC K, dx, _, rfl, hc, c_Caller T, n_Caller_stand T, (by show 4 < 1000; decide), ?_⟩
    refine ⟨_, rfl, _, rfl, q.1, aC K, dx, _, rfl, upd_same, c_Caller T, n_Caller_mark T, (by show 4 < 1000; decide), ?_⟩
    rw [upd_upd]
    obtain ⟨c', ec'⟩ : ∃ c' : Cl, c' = ⟨q.2.nm, q.2.rk, md⟩ := ⟨_, rfl⟩
    have eP : putF "mark" md.mark (putF "stand" (.str md.st) (cfs q.2)) = cfs ⟨q.2.nm, q.2.rk, md⟩ := rfl
    rw [eP, ← ec']
    rw [← ec'] at k
    dsimp only
    have nmc : c'.nm = q.2.nm := by rw [ec']
    have nd := D.nd W.nd
    have hp2 : upd H q.1 (.ins (aC K) dx (cfs c')) p = some (.ins (aD K) dd (dfs d l)) := by rw [upd_ne npa]; exact hp
    have hl2 : upd H q.1 (.ins (aC K) dx (cfs c')) l = some (.lst (ps.map fun q => V.ref q.1)) := by rw [upd_ne nla]; exact hl
    have hoth : ∀ r ∈ ps, r.2.nm ≠ q.2.nm → CAt K (upd H q.1 (.ins (aC K) dx (cfs c'))) r.1 r.2 := fun r hr hn => by
      obtain ⟨dr, h⟩ := D.at_ r hr
      exact ⟨dr, by rw [upd_ne (fun e => hn (D.mem_nm hr hq e))]; exact h⟩
    have hlab : ∀ r ∈ ps, ∃ dx' g s m, upd H q.1 (.ins (aC K) dx (cfs c')) r.1 = some (.ins (aC K) dx' (rfs (.str r.2.nm) g s m)) := fun r hr => by
      by_cases e : r.2.nm = q.2.nm
      · have : r = q := nodup_pr nd hr hq e
        rw [this]
        exact ⟨dx, .int c'.rk, .str c'.md.st, c'.md.mark, by rw [upd_same, cfs, nmc]⟩
      · obtain ⟨dr, h⟩ := hoth r hr e
        exact ⟨dr, _, _, _, h⟩
    refine s_fldL (xs := ((ps.filter fun o => !decide (o.2.nm = c'.nm)).map fun o => V.ref o.1) ++ [.ref q.1]) ?h (ev_var rfl) hp2 (c_Desk T) (n_Desk_line T) (by show 4 < 1000; decide) fun r H3 hr e3 h3 => ?_
    case h =>
      have hlen := D.len
      have hW := W.len
      refine el_cat (el_lcM (K := K) (ps := ps) (uu := fun q => V.ref q.1) (fun o => !decide (o.2.nm = c'.nm)) (fun o => V.ref o.1) (ev_fld (ev_var rfl) hp2 (c_Desk T) (n_Desk_line T) rfl) (sq_of hl2) (by omega) (fun _ => rfl) (fun o ho H1 e1 => ?_) fun o ho H1 e1 _ => ev_var rfl) (el_lst (ea_cons (ev_var rfl) ea_nil) (by show 1 ≤ 100000; decide)) ?_
      · rw [← decV, nmc]
        obtain ⟨d1, g1, s1, m1, h1⟩ := hlab o ho
        obtain ⟨d2, g2, s2, m2, h2⟩ := hlab q hq
        exact et_test (ev_op (ev_lab T (ev_var rfl) ⟨d1, g1, s1, m1, e1 _ _ h1⟩) (ev_lab T (ev_var rfl) ⟨d2, g2, s2, m2, e1 _ _ h2⟩) (rv_ne rfl))
      · rw [List.length_map]
        have := List.length_filter_le (fun o : Pr => !decide (o.2.nm = c'.nm)) ps
        show _ + 1 ≤ 100000
        omega
    have nrp : r ≠ p := fun e => by rw [e] at hr; rw [hp2] at hr; cases hr
    have Frr : F r = none := by
      cases hF : F r with
      | none => rfl
      | some o =>
        have := f.ex _ _ hF
        rw [upd_ne (fun e => by have := f.c0 q hq; rw [← e, hF] at this; cases this), this] at hr
        cases hr
    have ca : ∀ {b o}, b ≠ p → upd H q.1 (.ins (aC K) dx (cfs c')) b = some o → upd H3 p (.ins (aD K) dd (putF "line" (.ref r) (dfs d l))) b = some o := fun hb ho => by rw [upd_ne hb]; exact e3 _ _ ho
    refine k _ r ⟨⟨dd, upd_same⟩, ?_, ?_, ?_⟩ ⟨fun b o hb => ?_, f.p0, Frr, ?_⟩
    · rw [upd_ne nrp, h3, putP, List.map_append]
      rfl
    · show putC d.line c' = _
      rw [putP_line, D.eq]
    · intro o ho
      rcases List.mem_append.mp ho with ho | ho
      · obtain ⟨h1, h2⟩ := List.mem_filter.mp ho
        have h2 : o.2.nm ≠ c'.nm := by simpa using h2
        rw [nmc] at h2
        obtain ⟨dr, h⟩ := hoth o h1 h2
        refine ⟨dr, ca (fun e => ?_) h⟩
        obtain ⟨dz, hz⟩ := D.at_ o h1
        rw [e, hp] at hz
        exact ins_ne (Option.some.inj hz)
      · rw [List.mem_singleton] at ho
        rw [ho]
        exact ⟨dx, ca npa.symm upd_same⟩
    · refine ca (fun e => by have := f.p0; rw [← e, hb] at this; cases this) ?_
      rw [upd_ne (fun e => by have := f.c0 q hq; rw [← e, hb] at this; cases this)]
      exact f.ex _ _ hb
    · intro o ho
      rcases List.mem_append.mp ho with ho | ho
      · exact f.c0 o (List.mem_filter.mp ho).1
      · rw [List.mem_singleton] at ho
        rw [ho]
        exact f.c0 q hq
/-! ### desk_turn -/
theorem sc_desk_turn : FnScope ["self", "chosen", "able", "place", "caller"] ["self"] (defScope s_desk_turn) := ⟨rfl, rfl, rfl, by decide +kernel, rfl, by decide +kernel, by decide +kernel⟩
def sp_desk_turn (K : PySem.W.Frag) : Sp := fun vs H Q _ => ∃ (F : Hp) (p : Addr) (d : Dk), vs = [.ref p] ∧ DeskAt K F H p d ∧ d.Wf ∧ (∀ H', DeskAt K F H' p d.turn.2 → Q (optS d.turn.1) H')
theorem ok_desk_turn {P : Program} {w : World} {K : PySem.W.Frag} {mg : Str → Option Value} {base : Heap} (T : Txt K mg) : ∃ fd, FnOk P w K mg base (CX0) 3 (He.ma K (He.ga K "Desk") "turn") fd ["self"] (sp_desk_turn K) ∧ Binds K fd ["self"] [] ∧ FunD K "turn" "Desk.turn" (defArgs s_desk_turn) (defBody s_desk_turn) (defScope s_desk_turn) [] [] (He.ma K (He.ga K "Desk") "turn") fd := by
  obtain ⟨fd, F⟩ := f_desk_turn T
  obtain ⟨d_desk_those, G_desk_those, b_desk_those, _⟩ := ok_desk_those (P := P) (w := w) (base := base) T
  obtain ⟨d_first, G_first, b_first, _⟩ := ok_first (P := P) (w := w) (base := base) T
  obtain ⟨d_desk_become, G_desk_become, b_desk_become, _⟩ := ok_desk_become (P := P) (w := w) (base := base) T
  refine ⟨fd, ok0 F sc_desk_turn (fun vs H Q E h => ?_) (fun cdv A outer s H vs Q E hr h => ?_), FunD.bindsN F fun _ _ _ _ _ _ us hl => match us, hl with | [_], _ => rfl, F⟩
  · (repeat (obtain ⟨_, h⟩ := h)); subst_vars; rfl
  · obtain ⟨F, p, d, rfl, ⟨l, ps, D, f⟩, W, k⟩ := h
    refine ⟨_, (pss_cons (ps_set (i := 1) sc_desk_turn.nd rfl (Or.inl rfl) pe_non)
        (pss_cons (ps_set (i := 2) sc_desk_turn.nd rfl (Or.inl rfl) (pe_meth (pv 0) (c_Desk T) (m_desk_those T) G_desk_those (hr.mono (by decide)) b_desk_those .nil pass0 (pa_cons pe_str pa_nil)))
        (pss_cons (ps_set (i := 3) sc_desk_turn.nd rfl (Or.inl rfl) (pe_call G_first (hr.mono (by decide)) rfl (g_first T) (kp_first T) b_first .nil pass0 (pa_cons (pe_lc (own := [("caller", 4)]) (g := gName 4) (tt := tYes) rfl sc_desk_turn.nd (pi_listK (K := K) rfl (pv 2)) (blkOk_by (own := [("caller", 4)]) (N := ["self", "chosen", "able", "place", "caller"]) (sc := defScope s_desk_turn) (by decide +kernel)) (fun _ _ _ _ _ => (pg_name (i := 4) sc_desk_turn.nd rfl (Or.inl rfl))) (fun _ _ _ _ _ => pts_nil) (fun _ _ _ _ _ => (pe_tup (pa_cons (pe_fldK (K := K) rfl (pv 4) rfl) (pa_cons (pe_op op_sub (pe_fldK (K := K) rfl (pv 0) rfl) (pe_fldK (K := K) rfl (pv 4) rfl)) pa_nil))))) (pa_cons (pe_fldK (K := K) rfl (pv 0) rfl) pa_nil))))
        (pss_cons (ps_if (pt_cmpR op_notN (pv 3) pe_non (nomark _)) (pss_one (ps_set (i := 1) sc_desk_turn.nd rfl (Or.inl rfl) (pe_ix (ix_listK (K := K) rfl) (pv 2) (pv 3) (fun _ _ => rfl))))
        pss_nil)
        (pss_cons (ps_fld (pv 0) (pe_op op_add (pe_fldK (K := K) rfl (pv 0) rfl) pe_int) rfl)
        (pss_cons (ps_for PassesOwn.never rfl (pi_listK (K := K) rfl (pe_meth (pv 0) (c_Desk T) (m_desk_those T) G_desk_those (hr.mono (by decide)) b_desk_those .nil pass0 (pa_cons pe_str pa_nil))) (pg_name (i := 4) sc_desk_turn.nd rfl (Or.inl rfl))
        (pss_one (ps_if (pt_cmpR op_le (pe_fldK (K := K) rfl (pv 4) rfl) (pe_fldK (K := K) rfl (pv 0) rfl) (nomark _)) (pss_one (ps_expr (pe_meth (pv 0) (c_Desk T) (m_desk_become T) G_desk_become (hr.mono (by decide)) b_desk_become .nil pass0 (pa_cons (pv 4) (pa_cons pe_str (pa_cons (pe_fldK (K := K) rfl (pv 0) rfl) pa_nil))))))
        pss_nil)))
        (pss_cons (ps_if (pt_cmpR op_isN (pv 1) pe_non (nomark _)) (pss_one (ps_ret pe_non))
        pss_nil)
        (pss_cons (ps_expr (pe_meth (pv 0) (c_Desk T) (m_desk_become T) G_desk_become (hr.mono (by decide)) b_desk_become .nil pass0 (pa_cons (pv 1) (pa_cons pe_str (pa_cons (pe_fldK (K := K) rfl (pv 0) rfl) pa_nil)))))
        (pss_one (ps_ret (pe_fldK (K := K) rfl (pv 1) rfl))))))))))), ?_⟩
    have hW := W.len
    have hln := D.len
    have nd := D.nd W.nd
    refine q_asg ev_c fun H1 e1 => ?_
    have D1 := D.ex e1
    have f1 := f.mono e1
    obtain ⟨dx, hp1⟩ := D1.ob
    obtain ⟨rs, ers⟩ : ∃ rs, rs = ps.filter fun q => q.2.md.isR := ⟨_, rfl⟩
    have ers' : (ps.filter fun q => decide (q.2.md.st = ("ready" : Str))) = rs := by
      rw [ers]
      exact List.filter_congr fun q _ => st_ready _
    have hrsub : ∀ q ∈ rs, q ∈ ps ∧ q.2.md.isR = true := fun q hq => by rw [ers] at hq; exact ⟨(List.mem_filter.mp hq).1, (List.mem_filter.mp hq).2⟩
    have hrlen : rs.length ≤ ps.length := by rw [ers]; exact List.length_filter_le _ _
    have eable : d.able = rs.map (·.2) := by
      unfold Dk.able
      rw [D.eq, List.filter_map, ers]
      rfl
    have eprs : d.prs = rs.map fun q => (q.2.rk, d.now - q.2.md.since) := by
      unfold Dk.prs
      rw [eable, List.map_map]
      rfl
    refine q_asgL (xs := rs.map fun q => V.ref q.1) ?h fun fa H2 hfa e2 h2 => ?_
    case h =>
      rw [← ers']
      exact el_meth (ev_var rfl) hp1 rfl (ea_cons ev_c ea_nil) (cv_those D1 (by omega))
    have D2 := D1.ex e2
    have f2 := f1.new D1 hfa e2 h2
    have hp2 := e2 _ _ hp1
    refine q_asg (v := optV (firstIdx d.pace d.prs)) ?h fun H3 e3 => ?_
    case h =>
      intro H0 e0 Q q
      have rr := er_lc (K := K) (σ := [some (.ref p), some .non, some (.ref fa), none, none]) (H := H2) (tl := tVar 2) (j := 4) (ws := [4]) (ta := tCons (tFld K (tVar 4) "grade") (tCons (tOp (rI0 fun i j => .int (i - j)) (tFld K (tVar 0) "now") (tFld K (tVar 4) "mark")) tNil))
        (ps := rs) (uu := fun q => V.ref q.1) (fun q => [.int q.2.rk, .int (d.now - q.2.md.since)]) (ev_var rfl) (sq_of h2) (by omega) (fun _ => rfl) (fun q _ => by show 2 ≤ 1000; decide) (fun q hq H4 e4 => ?_)
      · refine call2 ?_
        refine rr H0 e0 _ fun r H4 ts hr e4 h4 t4 => ?_
        have h8 : rs.map (fun q => [V.int q.2.rk, V.int (d.now - q.2.md.since)]) = d.prs.map fun q => [V.int q.1, V.int q.2] := by rw [eprs, List.map_map]; rfl
        rw [h8] at t4
        obtain ⟨dx4, hp4⟩ := (D2.ex (e0.trans e4)).ob
        refine ⟨_, rfl, p, aD K, dx4, _, _, rfl, hp4, c_Desk T, n_Desk_pace T, rfl, ?_⟩
        have hp := W.p1
        have hp' := W.p2
        exact cv_first t4.rows (by rw [eprs, List.length_map]; omega) (by omega) (by omega) H4 (Ex.refl H4) Q (fun H5 e5 => q H5 (e4.trans e5)) E0
      · obtain ⟨h5, h6⟩ := hrsub q hq
        have hm := ev_mark (ta := tVar 4) (σ := (wipe [some (.ref p), some .non, some (.ref fa), none, none] [4]).set 4 (some (.ref q.1))) T (ev_var rfl) ((D2.at_ q h5).ex e4)
        rw [mark_rdy h6] at hm
        exact ea_cons (ev_grade T (ev_var rfl) ((D2.at_ q h5).ex e4)) (ea_cons (ev_op (ev_now T (ev_var rfl) (D2.ex e4)) hm rv_I0) ea_nil)
    have D3 := D2.ex e3
    have f3 := f2.mono e3
    have hp3 := e3 _ _ hp2
    obtain ⟨oq, eoq⟩ : ∃ oq : Option Pr, oq = (firstIdx d.pace d.prs).bind fun j => rs[j]? := ⟨_, rfl⟩
    have ech : d.chosen = oq.map (·.2) := by
      unfold Dk.chosen
      rw [eoq, eable]
      cases firstIdx d.pace d.prs with
      | none => rfl
      | some j => show (rs.map (·.2))[j]? = rs[j]?.map (·.2); rw [List.getElem?_map]
    have hoq : ∀ q, oq = some q → q ∈ ps ∧ q.2.md.isR = true := fun q hq => by
      rw [eoq] at hq
      cases hf : firstIdx d.pace d.prs with
      | none => rw [hf] at hq; cases hq
      | some j => rw [hf] at hq; exact hrsub q (List.mem_of_getElem? hq)
    refine q_ifAsg (b := !decide (optV (firstIdx d.pace d.prs) = .non)) (v := match oq with | none => .non | some q => .ref q.1) ?c (fun hb => ?h1) (fun hb => ?h2) (fun H4 e4 => ?_)
    case c => exact et_test (ev_op (ev_var rfl) ev_c rv_notN)
    case h1 =>
      cases hf : firstIdx d.pace d.prs with
      | none => rw [hf] at hb; exact absurd hb (by simp [optV])
      | some j =>
        have hj : j < rs.length := by
          have := firstIdx_is d.pace d.prs
          rw [hf, eprs] at this
          have := this.1
          rwa [List.length_map] at this
        rw [eoq, hf]
        show Ev _ _ _ (match rs[j]? with | none => V.non | some q => V.ref q.1)
        rw [List.getElem?_eq_getElem hj]
        exact ev_op (ev_var rfl) (ev_var rfl) (rv_ixL (sq_of (e3 _ _ h2)) (at_of rfl (by rw [List.getElem?_map, List.getElem?_eq_getElem hj]; rfl)))
    case h2 =>
      cases hf : firstIdx d.pace d.prs with
      | some j => rw [hf] at hb; exact absurd hb (by simp [optV])
      | none => rw [eoq, hf]; rfl
    have D4 := D3.ex e4
    have f4 := f3.mono e4
    have hp4 := e4 _ _ hp3
    refine q_fld (ev_op (ev_now T (ev_var rfl) D4) ev_c rv_I0) (ev_var rfl) hp4 (c_Desk T) (n_Desk_now T) (by show 4 < 1000; decide) fun H5 e5 => ?_
    obtain ⟨D5, f5⟩ := (D4.ex e5).tick (f4.mono e5) (e5 _ _ hp4)
    generalize upd H5 p (HO.ins (aD K) dx (putF "now" (V.int (d.now + 1)) (dfs d l))) = H6 at D5 f5 ⊢
    have Wt : d.tick.Wf := ⟨W.p1, W.p2, W.len, W.nd⟩
    obtain ⟨ss, ess⟩ : ∃ ss, ss = ps.filter fun q => q.2.md.isS := ⟨_, rfl⟩
    have ess' : (ps.filter fun q => decide (q.2.md.st = ("asleep" : Str))) = ss := by
      rw [ess]
      exact List.filter_congr fun q _ => st_asleep _
    have hssub : ∀ q ∈ ss, q ∈ ps ∧ q.2.md.isS = true := fun q hq => by rw [ess] at hq; exact ⟨(List.mem_filter.mp hq).1, (List.mem_filter.mp hq).2⟩
    have hslen : ss.length ≤ ps.length := by rw [ess]; exact List.length_filter_le _ _
    have nds : (ss.map fun q => q.2.nm).Nodup := by rw [ess]; exact (List.filter_sublist.map _).nodup nd
    obtain ⟨dx5, hp5⟩ := D5.ob
    refine q_forNLn (K := K) (xs := ss.map fun q => V.ref q.1) ?h (fun sa i σ' H' => (∃ v, σ' = [some (.ref p), some (match oq with | none => .non | some q => .ref q.1), some (.ref fa), some (optV (firstIdx d.pace d.prs)), v]) ∧ H6 sa = none ∧ Wk K (upd (upd F fa (.lst (rs.map fun q => V.ref q.1))) sa (.lst (ss.map fun q => V.ref q.1))) H' p d.tick ps ((ss.take i).filter fun q => due (d.now + 1) q.2))
      (fun sa H7 hsa e7 h7 => ⟨⟨none, rfl⟩, hsa, Wt, l, ps, D5.ex e7, f5.new D5 hsa e7 h7, fun r hr _ => hr, fun r hr => by simp at hr⟩) (fun sa i σ' H' _ ⟨_, _, ⟨_, _, _, _, f3, _⟩⟩ => sq_of (f3.ex _ _ upd_same)) ?_ ?_
    case h =>
      rw [← ess']
      exact el_meth (ev_var rfl) hp5 rfl (ea_cons ev_c ea_nil) (cv_those D5 (by omega))
    · rintro sa i x σ' H' hi ⟨⟨v, rfl⟩, hsa, ⟨w7, l7, ps7, D7, f7, h71, h72⟩⟩
      rw [List.getElem?_map] at hi
      cases hq : ss[i]? with
      | none => rw [hq] at hi; cases hi
      | some q =>
        rw [hq] at hi
        cases hi
        have hlt : i < ss.length := (List.getElem?_eq_some_iff.mp hq).1
        obtain ⟨hqp, hqs⟩ := hssub q (List.mem_of_getElem? hq)
        have hqn : q ∉ (ss.take i).filter fun q => due (d.now + 1) q.2 := fun h => by
          have h := (List.mem_filter.mp h).1
          have ndd : ((ss.take i ++ ss.drop i).map fun q => q.2.nm).Nodup := by rw [List.take_append_drop]; exact nds
          rw [List.map_append, List.nodup_append] at ndd
          exact ndd.2.2 _ (List.mem_map.mpr ⟨q, h, rfl⟩) _ (List.mem_map.mpr ⟨q, by rw [List.drop_eq_getElem_cons hlt, (List.getElem?_eq_some_iff.mp hq).2]; exact List.mem_cons_self, rfl⟩) rfl
        have hq7 := h71 q hqp hqn
        obtain ⟨t, ht⟩ : ∃ t, q.2.md = .slp t := by
          cases em : q.2.md with
          | rdy s => rw [em] at hqs; cases hqs
          | slp s => exact ⟨s, rfl⟩
          | wtg s => rw [em] at hqs; cases hqs
        have e1t : ss.take (i + 1) = ss.take i ++ [q] := by rw [List.take_succ, hq]; rfl
        have en := (rdyAll_now (((ss.take i).filter fun q => due (d.now + 1) q.2).map (·.2)) d.tick).1
        have hdue : due (d.now + 1) q.2 = decide (t ≤ d.now + 1) := by unfold due; rw [ht]
        refine s_when (b := decide (t ≤ d.now + 1)) ?h (fun hb H8 e8 => ?_) (fun hb H8 e8 => ?_)
        case h =>
          have hm := ev_mark (ta := tVar 4) (σ := [some (.ref p), some (match oq with | none => .non | some q => .ref q.1), some (.ref fa), some (optV (firstIdx d.pace d.prs)), some (.ref q.1)]) T (ev_var rfl) (D7.at_ q hq7)
          rw [ht] at hm
          have hn := ev_now (ta := tVar 0) (σ := [some (.ref p), some (match oq with | none => .non | some q => .ref q.1), some (.ref fa), some (optV (firstIdx d.pace d.prs)), some (.ref q.1)]) T (ev_var rfl) D7
          rw [en] at hn
          exact et_test (ev_op hm hn rv_I0)
        · obtain ⟨dx7, hp7⟩ := D7.ob
          have D8 := D7.ex e8
          refine s_dmeth (ev_var rfl) (e8 _ _ hp7) rfl (ea_cons (ev_var rfl) (ea_cons ev_c (ea_cons (ev_now T (ev_var rfl) D8) ea_nil))) fun H9 e9 => ?_
          refine ⟨_, p, _, l7, ps7, q, .rdy d.tick.now, by rw [en]; rfl, D8.ex e9, f7.mono (e8.trans e9), hq7, w7, fun Ha la Da fa' => ⟨⟨_, rfl⟩, hsa, ?_⟩⟩
          have e2t : (ss.take (i + 1)).filter (fun q => due (d.now + 1) q.2) = (ss.take i).filter (fun q => due (d.now + 1) q.2) ++ [q] := by
            rw [e1t, List.filter_append, List.filter_cons, if_pos (by rw [hdue]; exact hb)]
            rfl
          rw [e2t]
          exact Wk.next nd hqp hqn (fun r hr => (hssub r (List.mem_of_mem_take (List.mem_filter.mp hr).1)).1) w7 D7 h71 h72 Da fa'
        · have e2t : (ss.take (i + 1)).filter (fun q => due (d.now + 1) q.2) = (ss.take i).filter (fun q => due (d.now + 1) q.2) := by
            rw [e1t, List.filter_append, List.filter_cons, if_neg (by rw [hdue, hb]; decide)]
            simp
          refine ⟨⟨_, rfl⟩, hsa, ?_⟩
          rw [e2t]
          exact Wk.ex ⟨w7, l7, ps7, D7, f7, h71, h72⟩ e8
    · rintro sa σ' H' ⟨⟨v, rfl⟩, hsa, ⟨w7, l7, ps7, D7, f7, h71, h72⟩⟩
      rw [List.length_map, List.take_length] at w7 D7 h71 h72
      have hsaF : (upd F fa (.lst (rs.map fun q => V.ref q.1))) sa = none := ex_none f5.ex hsa
      have hFa : F fa = none := ex_none f1.ex hfa
      have fs7 : Fr F H' p l7 ps7 := f7.sub fun b o hb => upd_sub hsaF b o (upd_sub hFa b o hb)
      have ewk : d.tick.rdyAll ((ss.filter fun q => due (d.now + 1) q.2).map (·.2)) = d.waked := by
        unfold Dk.waked
        congr 1
        rw [D.eq, List.filter_map, ess, List.filter_filter]
        congr 1
        apply List.filter_congr
        intro q _
        show (due (d.now + 1) q.2 && q.2.md.isS) = due (d.now + 1) q.2
        unfold due
        cases q.2.md <;> simp [Md.isS]
      rw [ewk] at D7 w7
      unfold Dk.turn at k
      cases hoq' : oq with
      | none =>
        rw [ech, hoq'] at k
        refine q_when (b := true) ?h (fun _ H8 e8 => ?_) (fun hb _ _ => absurd hb (by decide))
        case h => exact et_test (ev_op (ev_var rfl) ev_c rv_isN)
        exact s_ret ev_c fun H9 e9 => k H9 ⟨l7, ps7, D7.ex (e8.trans e9), fs7.mono (e8.trans e9)⟩
      | some q =>
        rw [ech, hoq'] at k
        obtain ⟨hqp, hqr⟩ := hoq q hoq'
        refine q_when (b := false) ?h (fun hb _ _ => absurd hb (by decide)) (fun _ H8 e8 => ?_)
        case h => exact et_test (ev_op (ev_var rfl) ev_c rv_isN)
        have hqn : q ∉ ss.filter fun q => due (d.now + 1) q.2 := fun h => by
          have h := (hssub q (List.mem_filter.mp h).1).2
          cases em : q.2.md with
          | rdy s => rw [em] at h; cases h
          | slp s => rw [em] at hqr; cases hqr
          | wtg s => rw [em] at h; cases h
        have hq7 := h71 q hqp hqn
        obtain ⟨dx7, hp7⟩ := D7.ob
        have D8 := D7.ex e8
        have en : d.waked.now = d.now + 1 := (rdyAll_now _ _).1
        refine q_dmeth (ev_var rfl) (e8 _ _ hp7) rfl (ea_cons (ev_var rfl) (ea_cons ev_c (ea_cons (ev_now T (ev_var rfl) D8) ea_nil))) fun H9 e9 => ?_
        refine ⟨F, p, _, l7, ps7, q, .rdy (d.now + 1), by rw [en]; rfl, D8.ex e9, fs7.mono (e8.trans e9), hq7, w7, fun Ha la Da fa' => ?_⟩
        refine s_ret (v := .str q.2.nm) (ev_label T (c := ⟨q.2.nm, q.2.rk, .rdy (d.now + 1)⟩) (ev_var rfl) (Da.at_ _ putP_self)) fun Hb eb => ?_
        exact k Hb ⟨la, _, Da.ex eb, fa'.mono eb⟩
/-! ### desk_run -/
theorem sc_desk_run : FnScope ["self", "many", "k"] ["self", "many"] (defScope s_desk_run) := ⟨rfl, rfl, rfl, by decide +kernel, rfl, by decide +kernel, by decide +kernel⟩
def sp_desk_run (K : PySem.W.Frag) : Sp := fun vs H Q E => ∃ (F : Hp) (p : Addr) (d : Dk) (m : Int), vs = [.ref p, .int m] ∧ DeskAt K F H p d ∧ d.Wf ∧
  ((m < 0 ∨ 1000 < m) → ∀ H', Ex H H' → E (.ref (He.ga K "NoSpan")) none H') ∧
  (¬ (m < 0 ∨ 1000 < m) → ∀ (q : Addr) (H' : Hp), F q = none → DeskAt K (upd F q (.lst ((d.runN m.toNat).1.map optS))) H' p (d.runN m.toNat).2 → Q (.ref q) H')
/-- a comprehension over a range whose element is a turn of the desk at p -/
theorem turns_lc {K : PySem.W.Frag} {F H1 : Hp} {p : Addr} {d : Dk} {n : Nat} {tt : TT} {te : TE} {ws : List Nat} {σ : L2.St} {j : Nat} {Dl : Addr} {Qd : Hp → Prop} (W : d.Wf) (D : DeskAt K F H1 p d) (hD : H1 Dl = none) (hn : n ≤ 1000) (ht : ∀ σ H Q, tt σ H Q = Q true H)
    (hw : ∀ x, wipe ((wipe σ ws).set j (some x)) ws = wipe σ ws)
    (he : ∀ (i : Nat) (e : Dk) (G H : Hp) (Q : VK), e.Wf → DeskAt K G H p e → (∀ H', DeskAt K G H' p e.turn.2 → Q (optS e.turn.1) H') → te ((wipe σ ws).set j (some (.int ((0 : Int) + (i : Int))))) H Q)
    (hq : ∀ H', F Dl = none → DeskAt K (upd F Dl (.lst ((d.runN n).1.map optS))) H' p (d.runN n).2 → Qd H') :
    ∃ W : Nat → Nat → Hp → Prop, (∃ m, W 0 m (upd H1 Dl (.lst []))) ∧ ∀ i m H, W i m H →
      ((Itr 0 n).stop i H ∧ Qd H) ∨ ((Itr 0 n).go i H ∧ ∃ Nx : Hp → Prop, (∀ H', Nx H' → ∃ m', m' < m ∧ W (i + 1) m' H') ∧ ∀ x H', (Itr 0 n).yld i H x H' → gName j x (wipe σ ws) H' fun σ2 H2 => wipe σ2 ws = wipe σ ws ∧ tt σ2 H2 fun b H3 =>
        if b = true then te σ2 H3 fun y H4 => ∃ acc, H4 Dl = some (.lst acc) ∧ acc.length < sizeLine ∧ Nx (upd H4 Dl (.lst (acc ++ [y]))) else Nx H3) := by
  have hF : F Dl = none := ex_none D.fr hD
  refine lc_range (lo := 0) (n := n) (fun i H => DeskAt K (upd F Dl (.lst ((d.runN i).1.map optS))) H p (d.runN i).2) (D.new hD (Ex.new hD) upd_same) (fun i H hi D1 => ⟨hw _, ?_⟩) fun H D1 => hq H hF D1
  show tt _ H _
  rw [ht]
  refine iteT (B := DeskAt K (upd F Dl (.lst ((d.runN (i + 1)).1.map optS))) H p (d.runN (i + 1)).2) ?_
  refine he i _ _ H _ (runN_wf W i) D1 fun H4 D4 => ⟨_, D4.fr _ _ upd_same, sz_lt (by rw [List.length_map, runN_len]; omega), ?_⟩
  have := D4.set (u := .lst ((d.runN i).1.map optS ++ [optS (d.runN i).2.turn.1])) upd_same
  rw [upd_upd] at this
  show DeskAt K (upd F Dl (.lst (((d.runN i).1 ++ [(d.runN i).2.turn.1]).map optS))) _ p (d.runN i).2.turn.2
  rw [List.map_append]
  exact this
theorem ok_desk_run {P : Program} {w : World} {K : PySem.W.Frag} {mg : Str → Option Value} {base : Heap} (T : Txt K mg) : ∃ fd, FnOk P w K mg base (L2.CX P w) 4 (He.ma K (He.ga K "Desk") "run") fd ["self", "many"] (sp_desk_run K) ∧ Binds K fd ["self", "many"] [] ∧ FunD K "run" "Desk.run" (defArgs s_desk_run) (defBody s_desk_run) (defScope s_desk_run) [] [] (He.ma K (He.ga K "Desk") "run") fd := by
  obtain ⟨fd, F⟩ := f_desk_run T
  obtain ⟨d_desk_turn, G_desk_turn, b_desk_turn, _⟩ := ok_desk_turn (P := P) (w := w) (base := base) T
  obtain ⟨t_MOST_TURNS, hk_MOST_TURNS⟩ := k_MOST_TURNS T
  refine ⟨fd, okX F sc_desk_run (fun vs H Q E h => ?_) (fun cdv A outer s H vs Q E hr h => ?_), FunD.bindsN F fun _ _ _ _ _ _ us hl => match us, hl with | [_, _], _ => rfl, F⟩
  · (repeat (obtain ⟨_, h⟩ := h)); subst_vars; rfl
  · obtain ⟨F, p, d, m, rfl, D, W, kE, k⟩ := h
    refine ⟨_, (pss_cons (ps_if (PW.pt (pw_or (pt_cmpR op_lt (pv 1) pe_int (nomark _)) (pw_or1 (pt_cmpR op_gt (pv 1) (pe_glob (v := .int 1000) rfl hk_MOST_TURNS ⟨_, rfl⟩) (nomark _))))) (pss_one (ps_raise rfl (takes_of rfl rfl rfl rfl) (pmk_own PySem.F.excBase_ValueError (x_NoSpan T).1 (g_NoSpan T) (x_NoSpan T).2.1 (raises_own (x_NoSpan T).2.2.1 (x_NoSpan T).2.2.2) rfl)))
        pss_nil)
        (pss_one (ps_ret (pe_lc (own := [("k", 2)]) (g := gName 2) (tt := tYes) rfl sc_desk_run.nd (pi_range1 rfl (b_range T) (pa_cons (pv 1) pa_nil)) (blkOk_by (own := [("k", 2)]) (N := ["self", "many", "k"]) (sc := defScope s_desk_run) (by decide +kernel)) (fun _ _ _ _ _ => (pg_name (i := 2) sc_desk_run.nd rfl (Or.inl rfl))) (fun _ _ _ _ _ => pts_nil) (fun _ _ _ _ _ => (pe_meth0 (pv 0) (c_Desk T) (m_desk_turn T) G_desk_turn (hr.mono (by decide)) b_desk_turn .nil pass0)))))), ?_⟩
    refine' q_when ?h (fun hb H1 e1 => ?_) (fun hb H1 e1 => ?_)
    case h => tm_at "rr.ev"
    · exact kE (by simpa using hb) H1 e1
    have n1 : ¬ (m < 0 ∨ 1000 < m) := by simpa using hb
    have D1 := D.ex e1
    refine ⟨_, rfl, m, rfl, by omega, by omega, fun Dl hDl => ?_⟩
    refine turns_lc (n := m.toNat) (j := 2) W D1 hDl (by omega) (fun _ _ _ => rfl) (fun _ => rfl) (fun i e G H2 Q2 We De k2 => ?_) fun H2 hF D2 => k n1 Dl H2 hF D2
    obtain ⟨l, ps, De', fe⟩ := id De
    obtain ⟨dx, hp⟩ := De'.ob
    exact ⟨_, rfl, p, dx, _, rfl, hp, rfl, G, p, e, rfl, De, We, k2⟩
/-! ### L_told -/
theorem sc_L_told : FnScope ["_law_desk", "_law_many_here", "_law_cell", "_law_k"] ["_law_desk", "_law_many_here", "_law_cell"] (defScope s_L_told) := ⟨rfl, rfl, rfl, by decide +kernel, rfl, by decide +kernel, by decide +kernel⟩
def sp_L_told (K : PySem.W.Frag) : Sp := fun vs H Q _ => ∃ (F : Hp) (p : Addr) (d : Dk) (n c : Int), vs = [.ref p, .int n, .int c] ∧ DeskAt K F H p d ∧ d.Wf ∧ 0 ≤ n ∧ n ≤ 1000 ∧
  ∀ (q : Addr) (H' : Hp), F q = none → DeskAt K (upd F q (.lst ((d.runN n.toNat).1.map optS))) H' p (d.runN n.toNat).2 → Q (.ref q) H'
theorem ok_L_told {P : Program} {w : World} {K : PySem.W.Frag} {mg : Str → Option Value} {base : Heap} (T : Txt K mg) : ∃ fd, FnOk P w K mg base (CX0) 5 (He.ga K "_law_told") fd ["_law_desk", "_law_many_here", "_law_cell"] (sp_L_told K) ∧ Binds K fd ["_law_desk", "_law_many_here", "_law_cell"] [] ∧ FunD K "_law_told" "_law_told" (defArgs s_L_told) (defBody s_L_told) (defScope s_L_told) [] [] (He.ga K "_law_told") fd := by
  obtain ⟨fd, F⟩ := f_L_told T
  obtain ⟨d_L_mix, G_L_mix, b_L_mix, _⟩ := ok_L_mix (P := P) (w := w) (base := base) T
  obtain ⟨d_desk_turn, G_desk_turn, b_desk_turn, _⟩ := ok_desk_turn (P := P) (w := w) (base := base) T
  obtain ⟨d_desk_run, G_desk_run, b_desk_run, _⟩ := ok_desk_run (P := P) (w := w) (base := base) T
  refine ⟨fd, ok0 F sc_L_told (fun vs H Q E h => ?_) (fun cdv A outer s H vs Q E hr h => ?_), FunD.bindsN F fun _ _ _ _ _ _ us hl => match us, hl with | [_, _, _], _ => rfl, F⟩
  · (repeat (obtain ⟨_, h⟩ := h)); subst_vars; rfl
  · obtain ⟨F, p, d, n, c, rfl, D, W, h0, h1, k⟩ := h
    refine ⟨_, (pss_cons (ps_if (pt_cmpR op_eq (pe_call G_L_mix (hr.mono (by decide)) rfl (g_L_mix T) (kp_L_mix T) b_L_mix .nil pass0 (pa_cons (pv 2) (pa_cons pe_int (pa_cons pe_int pa_nil)))) pe_int (nomark _)) (pss_one (ps_ret (pe_lc (own := [("_law_k", 3)]) (g := gName 3) (tt := tYes) rfl sc_L_told.nd (pi_range1 rfl (b_range T) (pa_cons (pv 1) pa_nil)) (blkOk_by (own := [("_law_k", 3)]) (N := ["_law_desk", "_law_many_here", "_law_cell", "_law_k"]) (sc := defScope s_L_told) (by decide +kernel)) (fun _ _ _ _ _ => (pg_name (i := 3) sc_L_told.nd rfl (Or.inl rfl))) (fun _ _ _ _ _ => pts_nil) (fun _ _ _ _ _ => (pe_meth0 (pv 0) (c_Desk T) (m_desk_turn T) G_desk_turn (hr.mono (by decide)) b_desk_turn .nil pass0)))))
        pss_nil)
        (pss_one (ps_ret (pe_meth (pv 0) (c_Desk T) (m_desk_run T) G_desk_run (hr.mono (by decide)) b_desk_run .nil passL (pa_cons (pv 1) pa_nil))))), ?_⟩
    refine' q_when (b := decide (mix c 10223 3 = 0)) (et_mix0 ?h) (fun hb H1 e1 => ?_) (fun hb H1 e1 => ?_)
    case h => tm_at "rr.ev"
    · have D1 := D.ex e1
      refine ⟨_, rfl, n, rfl, by omega, by omega, fun Dl hDl => ?_⟩
      refine turns_lc (n := n.toNat) (j := 3) W D1 hDl (by omega) (fun _ _ _ => rfl) (fun _ => rfl) (fun i e G H2 Q2 We De k2 => ?_) fun H2 hF D2 => k Dl H2 hF D2
      obtain ⟨l, ps, De', fe⟩ := id De
      obtain ⟨dx, hp⟩ := De'.ob
      exact ⟨_, rfl, p, dx, _, rfl, hp, rfl, G, p, e, rfl, De, We, k2⟩
    · have D1 := D.ex e1
      obtain ⟨l, ps, DD, ff⟩ := id D1
      obtain ⟨dx, hp⟩ := DD.ob
      exact s_retM (vs := [.int n]) (ev_var rfl) hp rfl (ea_cons (ev_var rfl) ea_nil) fun H2 e2 => ⟨F, p, d, n, rfl, D1.ex e2, W, fun h => absurd h (by omega), fun _ q H3 hq D3 => k q H3 hq D3⟩
/-! ### L_put -/
theorem sc_L_put : FnScope ["_law_line", "_law_name", "_law_rank", "_law_stand", "_law_mark", "_law_one_here"] ["_law_line", "_law_name", "_law_rank", "_law_stand", "_law_mark"] (defScope s_L_put) := ⟨rfl, rfl, rfl, by decide +kernel, rfl, by decide +kernel, by decide +kernel⟩
def sp_L_put (_ : PySem.W.Frag) : Sp := fun vs H Q _ => ∃ (a : Addr) (L : List Cl) (nm : Str) (rk : Int) (md : Md), vs = [.ref a, .str nm, .int rk, .str md.st, md.mark] ∧ LineAt H a L ∧ L.length ≤ 40000 ∧ RetLn (putC L ⟨nm, rk, md⟩) H Q
theorem cv_L_put {K : PySem.W.Frag} {σ : L2.St} {H : Hp} {E : XK} {tr : TA} {a : Addr} {L : List Cl} {nm : Str} {rk : Int} {md : Md} (h : EvA tr σ H [.ref a, .str nm, .int rk, .str md.st, md.mark]) (hl : LineAt H a L) (hz : L.length ≤ 40000) : EvLn (tCall (sp_L_put K) [] E tr) σ H (putC L ⟨nm, rk, md⟩) :=
  en_call h fun H1 e Q E k => ⟨a, L, nm, rk, md, rfl, hl.ex e, hz, k⟩
theorem ok_L_put {P : Program} {w : World} {K : PySem.W.Frag} {mg : Str → Option Value} {base : Heap} (T : Txt K mg) : ∃ fd, FnOk P w K mg base (CX0) 1 (He.ga K "_law_put") fd ["_law_line", "_law_name", "_law_rank", "_law_stand", "_law_mark"] (sp_L_put K) ∧ Binds K fd ["_law_line", "_law_name", "_law_rank", "_law_stand", "_law_mark"] [] ∧ FunD K "_law_put" "_law_put" (defArgs s_L_put) (defBody s_L_put) (defScope s_L_put) [] [] (He.ga K "_law_put") fd := by
  obtain ⟨fd, F⟩ := f_L_put T
  refine ⟨fd, ok0 F sc_L_put (fun vs H Q E h => ?_) (fun cdv A outer s H vs Q E hr h => ?_), FunD.bindsN F fun _ _ _ _ _ _ us hl => match us, hl with | [_, _, _, _, _], _ => rfl, F⟩
  · (repeat (obtain ⟨_, h⟩ := h)); subst_vars; rfl
  · obtain ⟨a, L, nm, rk, md, rfl, ⟨qs, hl, rfl⟩, hz, k⟩ := h
    refine ⟨_, (pss_one (ps_ret (pe_op op_cat (pe_lc (own := [("_law_one_here", 5)]) (g := gName 5) rfl sc_L_put.nd (pi_listK (K := K) rfl (pv 0)) (blkOk_by (own := [("_law_one_here", 5)]) (N := ["_law_line", "_law_name", "_law_rank", "_law_stand", "_law_mark", "_law_one_here"]) (sc := defScope s_L_put) (by decide +kernel)) (fun _ _ _ _ _ => (pg_name (i := 5) sc_L_put.nd rfl (Or.inl rfl))) (fun _ _ _ _ _ => pts_one (pt_cmpR op_ne (pe_ix (ix_tupK (K := K) rfl) (pv 5) pe_int (fun _ _ => rfl)) (pv 1) (nomark _))) (fun _ _ _ _ _ => (pv 5))) (pe_lst (pa_cons (pe_tup (pa_cons (pv 1) (pa_cons (pv 2) (pa_cons (pv 3) (pa_cons (pv 4) pa_nil))))) pa_nil))))), ?_⟩
    rw [List.length_map] at hz
    have e9 : putC (qs.map (·.2)) ⟨nm, rk, md⟩ = (qs.filter fun q => !decide (q.2.nm = nm)).map (·.2) ++ [⟨nm, rk, md⟩] := by
      unfold putC
      rw [List.filter_map]
      rfl
    rw [e9] at k
    refine s_retN (en_snoc (c := ⟨nm, rk, md⟩) ?h ?t ?v ?z) k
    case h =>
      refine el_lcM (K := K) (ps := qs) (uu := fun q => V.ref q.1) (fun q => !decide (q.2.nm = nm)) (fun q => V.ref q.1) (ev_var rfl) (sq_of hl.l) hz (fun _ => rfl) (fun q hq H1 e1 => ?_) fun q hq H1 e1 _ => ev_var rfl
      rw [← decV]
      exact et_test (ev_op (ev_t0 (ev_var rfl) (e1 _ _ (hl.t q hq))) (ev_var rfl) (rv_ne rfl))
    case t => exact fun q hq => hl.t q (List.mem_filter.mp hq).1
    case v => exact ea_cons (ev_var rfl) (ea_cons (ev_var rfl) (ea_cons (ev_var rfl) (ea_cons (ev_var rfl) ea_nil)))
    case z => exact Nat.le_trans (List.length_filter_le _ _) (by omega)
/-! ### L_after -/
theorem sc_L_after : FnScope ["_law_line", "_law_now", "_law_ran", "_law_made", "_law_one_here"] ["_law_line", "_law_now", "_law_ran"] (defScope s_L_after) := ⟨rfl, rfl, rfl, by decide +kernel, rfl, by decide +kernel, by decide +kernel⟩
def sp_L_after (_ : PySem.W.Frag) : Sp := fun vs H Q _ => ∃ (a : Addr) (L : List Cl) (now : Int) (ran : Option Str), vs = [.ref a, .int now, optS ran] ∧ LineAt H a L ∧ L.length ≤ 1000 ∧ ∀ b H', (b = a ∨ H b = none) → Ex H H' → LineAt H' b (afterC L now ran) → Q (.ref b) H'
theorem ok_L_after {P : Program} {w : World} {K : PySem.W.Frag} {mg : Str → Option Value} {base : Heap} (T : Txt K mg) : ∃ fd, FnOk P w K mg base (CX0) 2 (He.ga K "_law_after") fd ["_law_line", "_law_now", "_law_ran"] (sp_L_after K) ∧ Binds K fd ["_law_line", "_law_now", "_law_ran"] [] ∧ FunD K "_law_after" "_law_after" (defArgs s_L_after) (defBody s_L_after) (defScope s_L_after) [] [] (He.ga K "_law_after") fd := by
  obtain ⟨fd, F⟩ := f_L_after T
  obtain ⟨d_L_put, G_L_put, b_L_put, _⟩ := ok_L_put (P := P) (w := w) (base := base) T
  refine ⟨fd, ok0 F sc_L_after (fun vs H Q E h => ?_) (fun cdv A outer s H vs Q E hr h => ?_), FunD.bindsN F fun _ _ _ _ _ _ us hl => match us, hl with | [_, _, _], _ => rfl, F⟩
  · (repeat (obtain ⟨_, h⟩ := h)); subst_vars; rfl
  · obtain ⟨a, L, now, ran, rfl, ⟨qs, hl, rfl⟩, hz, k⟩ := h
    refine ⟨_, (pss_cons (ps_set (i := 3) sc_L_after.nd rfl (Or.inl rfl) (pv 0))
        (pss_cons (ps_for PassesOwn.never rfl (pi_listK (K := K) rfl (pv 0)) (pg_name (i := 4) sc_L_after.nd rfl (Or.inl rfl))
        (pss_one (ps_if (PW.pt (pw_and (pt_cmpR op_eq (pe_ix (ix_tupK (K := K) rfl) (pv 4) pe_int (fun _ _ => rfl)) pe_str (nomark _)) (pw_and1 (pt_cmpR op_le (pe_ix (ix_tupK (K := K) rfl) (pv 4) pe_int (fun _ _ => rfl)) (pe_op op_add (pv 1) pe_int) (nomark _))))) (pss_one (ps_set (i := 3) sc_L_after.nd rfl (Or.inl rfl) (pe_call G_L_put (hr.mono (by decide)) rfl (g_L_put T) (kp_L_put T) b_L_put .nil pass0 (pa_cons (pv 3) (pa_cons (pe_ix (ix_tupK (K := K) rfl) (pv 4) pe_int (fun _ _ => rfl)) (pa_cons (pe_ix (ix_tupK (K := K) rfl) (pv 4) pe_int (fun _ _ => rfl)) (pa_cons pe_str (pa_cons (pe_op op_add (pv 1) pe_int) pa_nil))))))))
        pss_nil)))
        (pss_cons (ps_for PassesOwn.never rfl (pi_listK (K := K) rfl (pv 0)) (pg_name (i := 4) sc_L_after.nd rfl (Or.inl rfl))
        (pss_one (ps_if (pt_cmpR op_eq (pe_ix (ix_tupK (K := K) rfl) (pv 4) pe_int (fun _ _ => rfl)) (pv 2) (nomark _)) (pss_one (ps_set (i := 3) sc_L_after.nd rfl (Or.inl rfl) (pe_call G_L_put (hr.mono (by decide)) rfl (g_L_put T) (kp_L_put T) b_L_put .nil pass0 (pa_cons (pv 3) (pa_cons (pv 2) (pa_cons (pe_ix (ix_tupK (K := K) rfl) (pv 4) pe_int (fun _ _ => rfl)) (pa_cons pe_str (pa_cons (pe_op op_add (pv 1) pe_int) pa_nil))))))))
        pss_nil)))
        (pss_one (ps_ret (pv 3)))))), ?_⟩
    rw [List.length_map] at hz
    refine q_asg (v := .ref a) (ev_var rfl) fun H1 e1 => ?_
    refine q_forLn (K := K) (xs := qs.map fun q => V.ref q.1) (ev_var rfl) (sq_of (e1 _ _ hl.l))
      (fun i σ' H' => Ex H H' ∧ ∃ b v, σ' = [some (.ref a), some (.int now), some (optS ran), some (.ref b), v] ∧ (b = a ∨ H b = none) ∧ LineAt H' b (ranC (qs.map (·.2)) (((qs.take i).map (·.2)).filter (due (now + 1))) (now + 1)))
      (fun H2 e2 => ⟨e1.trans e2, a, none, rfl, .inl rfl, qs, hl.ex (e1.trans e2), rfl⟩) (fun i σ' H' _ ⟨e2, _⟩ => sq_of (e2 _ _ hl.l)) ?_ ?_
    · rintro i x σ' H' hi ⟨e2, b, v, rfl, hb, hL⟩
      rw [List.getElem?_map] at hi
      cases hq : qs[i]? with
      | none => rw [hq] at hi; cases hi
      | some q =>
        rw [hq] at hi
        cases hi
        have hm := List.mem_of_getElem? hq
        have hcs : ((qs.take (i + 1)).map (·.2)).filter (due (now + 1)) = ((qs.take i).map (·.2)).filter (due (now + 1)) ++ if due (now + 1) q.2 = true then [q.2] else [] := by
          rw [List.map_take, List.map_take]
          exact filter_take_succ (by rw [List.getElem?_map, hq]; rfl)
        refine s_when (b := due (now + 1) q.2) ?h (fun hb3 H3 e3 => ?_) (fun hb3 H3 e3 => ?_)
        case h =>
          refine' et_is (et_and (a := q.2.md.isS) (b := due (now + 1) q.2) ?_ (fun ha => ?_)) ?_
          · rw [← st_asleep, ← decV]
            exact et_test (ev_op (ev_t2 (ev_var rfl) (e2 _ _ (hl.t q hm))) ev_c (rv_eq rfl))
          · obtain ⟨t, htt⟩ : ∃ t, q.2.md = .slp t := by
              cases em : q.2.md with
              | rdy s => rw [em] at ha; cases ha
              | slp s => exact ⟨s, rfl⟩
              | wtg s => rw [em] at ha; cases ha
            have e9 : due (now + 1) q.2 = decide (t ≤ now + 1) := by unfold due; rw [htt]
            rw [e9]
            refine et_test (ev_op (ev_is (ev_t3 (ev_var rfl) (e2 _ _ (hl.t q hm))) (by rw [htt]; rfl)) (ev_op (ev_var rfl) ev_c rv_I0) rv_I0)
          · unfold due
            cases em : q.2.md with
            | rdy s => rfl
            | slp s => rfl
            | wtg s => rfl
        · rw [hb3, if_pos rfl] at hcs
          have hlen : (ranC (qs.map (·.2)) (((qs.take i).map (·.2)).filter (due (now + 1))) (now + 1)).length ≤ 40000 := by
            have h1 := ranC_len (now + 1) (((qs.take i).map (·.2)).filter (due (now + 1))) (qs.map (·.2))
            have h2 := List.length_filter_le (due (now + 1)) ((qs.take i).map (·.2))
            have h3 := @List.length_take _ i qs
            rw [List.length_map] at h1 h2
            omega
          have e23 := e2.trans e3
          refine s_asgN (cv_L_put (md := .rdy (now + 1)) (ea_cons (ev_var rfl) (ea_cons (ev_t0 (ev_var rfl) (e23 _ _ (hl.t q hm))) (ea_cons (ev_t1 (ev_var rfl) (e23 _ _ (hl.t q hm))) (ea_cons ev_c (ea_cons (ev_op (ev_var rfl) ev_c rv_I0) ea_nil))))) (hL.ex e3) hlen) fun p H4 hp e4 hL4 => ?_
          refine ⟨e23.trans e4, p, _, rfl, .inr (fresh_back e23 hp), ?_⟩
          rw [hcs, ranC_snoc]
          exact hL4
        · rw [hb3, if_neg (by decide), List.append_nil] at hcs
          refine ⟨e2.trans e3, b, _, rfl, hb, ?_⟩
          rw [hcs]
          exact hL.ex e3
    · rintro σ' H' ⟨e2, b, v, rfl, hb, hL⟩
      rw [List.length_map, List.take_length] at hL
      have hW : ranC (qs.map (·.2)) ((qs.map (·.2)).filter (due (now + 1))) (now + 1) = wakeC (qs.map (·.2)) (now + 1) := rfl
      have hlenW : (wakeC (qs.map (·.2)) (now + 1)).length ≤ 2000 := by
        rw [← hW]
        have h1 := ranC_len (now + 1) ((qs.map (·.2)).filter (due (now + 1))) (qs.map (·.2))
        have h2 := List.length_filter_le (due (now + 1)) (qs.map (·.2))
        rw [List.length_map] at h1 h2
        omega
      rw [hW] at hL
      unfold afterC at k
      generalize wakeC (qs.map (·.2)) (now + 1) = W0 at *
      refine q_forLn (K := K) (xs := qs.map fun q => V.ref q.1) (ev_var rfl) (sq_of (e2 _ _ hl.l))
        (fun i σ' H' => Ex H H' ∧ ∃ b v, σ' = [some (.ref a), some (.int now), some (optS ran), some (.ref b), v] ∧ (b = a ∨ H b = none) ∧ LineAt H' b (ranC W0 (((qs.take i).map (·.2)).filter fun c => decide (some c.nm = ran)) (now + 1)))
        (fun H3 e3 => ⟨e2.trans e3, b, v, rfl, hb, hL.ex e3⟩) (fun i σ' H' _ ⟨e2, _⟩ => sq_of (e2 _ _ hl.l)) ?_ ?_
      · rintro i x σ' H' hi ⟨e2, b, v, rfl, hb, hL⟩
        rw [List.getElem?_map] at hi
        cases hq : qs[i]? with
        | none => rw [hq] at hi; cases hi
        | some q =>
          rw [hq] at hi
          cases hi
          have hm := List.mem_of_getElem? hq
          have hcs : ((qs.take (i + 1)).map (·.2)).filter (fun c => decide (some c.nm = ran)) = ((qs.take i).map (·.2)).filter (fun c => decide (some c.nm = ran)) ++ if decide (some q.2.nm = ran) = true then [q.2] else [] := by
            rw [List.map_take, List.map_take]
            exact filter_take_succ (g := fun c : Cl => decide (some c.nm = ran)) (by rw [List.getElem?_map, hq]; rfl)
          refine s_when (b := decide (some q.2.nm = ran)) ?h (fun hb3 H3 e3 => ?_) (fun hb3 H3 e3 => ?_)
          case h =>
            rw [← optS_eq]
            refine et_test (ev_op (ev_t0 (ev_var rfl) (e2 _ _ (hl.t q hm))) (ev_var rfl) (rv_eq ?_))
            cases ran <;> rfl
          · rw [hb3, if_pos rfl] at hcs
            have hlen : (ranC W0 (((qs.take i).map (·.2)).filter fun c => decide (some c.nm = ran)) (now + 1)).length ≤ 40000 := by
              have h1 := ranC_len (now + 1) (((qs.take i).map (·.2)).filter fun c => decide (some c.nm = ran)) W0
              have h2 := List.length_filter_le (fun c : Cl => decide (some c.nm = ran)) ((qs.take i).map (·.2))
              have h3 := @List.length_take _ i qs
              rw [List.length_map] at h2
              omega
            have e23 := e2.trans e3
            have hran : optS ran = .str q.2.nm := by
              have := of_decide_eq_true hb3
              rw [← this]
              rfl
            refine s_asgN (cv_L_put (md := .rdy (now + 1)) (ea_cons (ev_var rfl) (ea_cons (ev_is (ev_var rfl) hran) (ea_cons (ev_t1 (ev_var rfl) (e23 _ _ (hl.t q hm))) (ea_cons ev_c (ea_cons (ev_op (ev_var rfl) ev_c rv_I0) ea_nil))))) (hL.ex e3) hlen) fun p H4 hp e4 hL4 => ?_
            refine ⟨e23.trans e4, p, _, rfl, .inr (fresh_back e23 hp), ?_⟩
            rw [hcs, ranC_snoc]
            exact hL4
          · rw [hb3, if_neg (by decide), List.append_nil] at hcs
            refine ⟨e2.trans e3, b, _, rfl, hb, ?_⟩
            rw [hcs]
            exact hL.ex e3
      · rintro σ' H' ⟨e2, b, v, rfl, hb, hL⟩
        rw [List.length_map, List.take_length] at hL
        exact s_ret (ev_var rfl) fun H3 e3 => k b H3 hb (e2.trans e3) (hL.ex e3)
theorem filter_nm {L : List Cl} (nd : (L.map (·.nm)).Nodup) {c : Cl} (hc : c ∈ L) : L.filter (fun x => decide (some x.nm = some c.nm)) = [c] := by
  induction L with
  | nil => cases hc
  | cons x L ih =>
    rw [List.map_cons, List.nodup_cons] at nd
    rcases List.mem_cons.mp hc with rfl | hc'
    · rw [List.filter_cons, if_pos (by simp)]
      have : L.filter (fun x => decide (some x.nm = some c.nm)) = [] := List.filter_eq_nil_iff.mpr fun y hy h => by
        have h := Option.some.inj (of_decide_eq_true h)
        exact nd.1 (h ▸ List.mem_map.mpr ⟨y, hy, rfl⟩)
      rw [this]
    · rw [List.filter_cons, if_neg (fun h => by
        have h := Option.some.inj (of_decide_eq_true h)
        exact nd.1 (h ▸ List.mem_map.mpr ⟨c, hc', rfl⟩))]
      exact ih nd.2 hc'
theorem rdyAll_lin : ∀ (cs : List Cl) (d : Dk), (d.rdyAll cs).line = ranC d.line cs d.now
  | [], _ => rfl
  | c :: cs, d => rdyAll_lin cs (d.put ⟨c.nm, c.rk, .rdy d.now⟩)
theorem waked_line (d : Dk) : d.waked.line = wakeC d.line (d.now + 1) := rdyAll_lin _ d.tick
theorem after_turn {d : Dk} (W : d.Wf) : afterC d.line d.now d.turn.1 = d.turn.2.line := by
  unfold afterC Dk.turn
  cases h : d.chosen with
  | none =>
    dsimp only
    rw [waked_line, show (d.line.filter fun c => decide (some c.nm = (none : Option Str))) = [] from List.filter_eq_nil_iff.mpr fun y hy h => by cases of_decide_eq_true h]
    rfl
  | some c =>
    dsimp only
    rw [filter_nm W.nd (chosen_mem h).1]
    show putC (wakeC d.line (d.now + 1)) _ = putC d.waked.line _
    rw [waked_line]
theorem chosen_none {d : Dk} (h : d.chosen = none) : d.able = [] := by
  unfold Dk.chosen at h
  have hf := firstIdx_is d.pace d.prs
  cases hj : firstIdx d.pace d.prs with
  | none =>
    rw [hj] at hf
    have hf : d.able.map _ = [] := hf
    exact List.map_eq_nil_iff.mp hf
  | some j =>
    rw [hj] at hf h
    have hlt : j < d.prs.length := hf.1
    have hl : d.prs.length = d.able.length := List.length_map ..
    have : d.able[j]? = none := h
    rw [List.getElem?_eq_none_iff] at this
    omega
theorem turn_none {d : Dk} (h : d.turn.1 = none) : d.able = [] := by
  unfold Dk.turn at h
  cases hc : d.chosen with
  | none => exact chosen_none hc
  | some c => rw [hc] at h; cases h
theorem turn_some {d : Dk} {nm : Str} (h : d.turn.1 = some nm) : ∃ c, d.chosen = some c ∧ c.nm = nm ∧ c ∈ d.able := by
  unfold Dk.turn at h
  cases hc : d.chosen with
  | none => rw [hc] at h; cases h
  | some c =>
    rw [hc] at h
    obtain ⟨a, b⟩ := chosen_mem hc
    exact ⟨c, rfl, Option.some.inj h, List.mem_filter.mpr ⟨a, b⟩⟩
theorem rdyAll_of : ∀ (cs : List Cl) (d : Dk) (x : Cl), x ∈ (d.rdyAll cs).line → (x ∈ d.line ∧ ∀ c ∈ cs, c.nm ≠ x.nm) ∨ ∃ c ∈ cs, x = ⟨c.nm, c.rk, .rdy d.now⟩
  | [], d, x, h => .inl ⟨h, fun c hc => by cases hc⟩
  | c :: cs, d, x, h => by
    rcases rdyAll_of cs (d.put ⟨c.nm, c.rk, .rdy d.now⟩) x h with ⟨h1, h2⟩ | ⟨c2, h1, h2⟩
    · rcases putC_mem.mp h1 with ⟨h3, h4⟩ | h3
      · refine .inl ⟨h3, fun y hy => ?_⟩
        rcases List.mem_cons.mp hy with rfl | hy
        · exact fun e => h4 e.symm
        · exact h2 y hy
      · exact .inr ⟨c, List.mem_cons_self .., h3⟩
    · exact .inr ⟨c2, List.mem_cons_of_mem _ h1, h2⟩
theorem rdyAll_len : ∀ (cs : List Cl) (d : Dk), (d.line.map (·.nm)).Nodup → (∀ c ∈ cs, ∃ c0 ∈ d.line, c0.nm = c.nm) → (d.rdyAll cs).line.length = d.line.length
  | [], _, _, _ => rfl
  | c :: cs, d, nd, h => by
    obtain ⟨c0, h0, e0⟩ := h c (List.mem_cons_self ..)
    have h1 : (putC d.line ⟨c.nm, c.rk, .rdy d.now⟩).length = d.line.length := putC_len nd h0 e0
    refine (rdyAll_len cs (d.put ⟨c.nm, c.rk, .rdy d.now⟩) (putC_nd nd) fun y hy => ?_).trans h1
    obtain ⟨y0, g0, f0⟩ := h y (List.mem_cons_of_mem _ hy)
    by_cases hn : y0.nm = c.nm
    · exact ⟨⟨c.nm, c.rk, .rdy d.now⟩, putC_mem.mpr (.inr rfl), hn.symm.trans f0⟩
    · exact ⟨y0, putC_mem.mpr (.inl ⟨g0, hn⟩), f0⟩
theorem waked_of {d : Dk} {x : Cl} (h : x ∈ d.waked.line) : (x ∈ d.line ∧ ¬ (∃ t, x.md = .slp t ∧ t ≤ d.now + 1)) ∨ ∃ c ∈ d.line, due (d.now + 1) c = true ∧ x = ⟨c.nm, c.rk, .rdy (d.now + 1)⟩ := by
  rcases rdyAll_of _ d.tick x h with ⟨h1, h2⟩ | ⟨c, h1, h2⟩
  · refine .inl ⟨h1, fun ⟨t, ht, hle⟩ => ?_⟩
    exact h2 x (List.mem_filter.mpr ⟨h1, by unfold due; rw [ht]; exact decide_eq_true hle⟩) rfl
  · obtain ⟨h3, h4⟩ := List.mem_filter.mp h1
    exact .inr ⟨c, h3, h4, h2⟩
theorem waked_ok {d : Dk} (ok : d.Ok) : d.waked.Ok ∧ d.waked.now = d.now + 1 ∧ d.waked.pace = d.pace ∧ d.waked.room = d.room := by
  obtain ⟨a, b, c⟩ := rdyAll_now (d.line.filter (due (d.now + 1))) d.tick
  have hsame : d.waked.now = d.now + 1 ∧ d.waked.pace = d.pace ∧ d.waked.room = d.room := ⟨a, b, c⟩
  have W := waked_wf ok.wf
  have n0 := ok.n0
  refine ⟨⟨by rw [hsame.2.1]; exact ok.p1, by rw [hsame.2.1]; exact ok.p2, by rw [hsame.2.2]; exact ok.r1, by rw [hsame.2.2]; exact ok.r2, by rw [hsame.1]; omega, ?_, W.nd, fun x hx => ?_⟩, hsame⟩
  · have : d.waked.line.length = d.line.length := rdyAll_len _ d.tick ok.nd fun c hc => ⟨c, (List.mem_filter.mp hc).1, rfl⟩
    rw [hsame.2.2, this]
    exact ok.len
  · rw [hsame.1]
    rcases waked_of hx with ⟨h1, h2⟩ | ⟨c, h1, h2, rfl⟩
    · obtain ⟨g1, g2, g3, g4⟩ := ok.cl x h1
      refine ⟨g1, g2, g3, ?_⟩
      cases em : x.md with
      | rdy s => rw [em] at g4; exact ⟨g4.1, by have := g4.2; omega⟩
      | slp t =>
        rw [em] at g4
        have h3 : ¬ t ≤ d.now + 1 := fun h => h2 ⟨t, em, h⟩
        exact ⟨by omega, by have := g4.2; omega⟩
      | wtg b => rw [em] at g4; exact g4
    · obtain ⟨g1, g2, g3, g4⟩ := ok.cl c h1
      exact ⟨g1, g2, g3, ⟨by omega, Int.le_refl _⟩⟩
theorem turn_same (d : Dk) : d.turn.2.now = d.now + 1 ∧ d.turn.2.pace = d.pace ∧ d.turn.2.room = d.room := by
  obtain ⟨a, b, c⟩ := rdyAll_now (d.line.filter (due (d.now + 1))) d.tick
  unfold Dk.turn
  cases d.chosen <;> exact ⟨a, b, c⟩
theorem turn_ok {d : Dk} (ok : d.Ok) : d.turn.2.Ok := by
  obtain ⟨w, hn, hp, hr⟩ := waked_ok ok
  have n0 := ok.n0
  unfold Dk.turn
  cases h : d.chosen with
  | none => exact w
  | some c =>
    obtain ⟨c', h', e'⟩ := rdyAll_nm (d.line.filter (due (d.now + 1))) d.tick c (chosen_mem h).1
    have hc := ok.cl c (chosen_mem h).1
    have W2 := w.wf.put (c := ⟨c.nm, c.rk, .rdy (d.now + 1)⟩) h' e'
    refine ⟨w.p1, w.p2, w.r1, w.r2, w.n0, ?_, W2.nd, fun x hx => ?_⟩
    · show ((putC d.waked.line _).length : Int) ≤ d.waked.room
      rw [putC_len (c := ⟨c.nm, c.rk, .rdy (d.now + 1)⟩) w.nd h' e']
      exact w.len
    · rcases putC_mem.mp hx with ⟨h1, h2⟩ | rfl
      · exact w.cl x h1
      · show ClOk d.waked.now _
        rw [hn]
        exact ⟨hc.1, hc.2.1, hc.2.2.1, by omega, Int.le_refl _⟩
theorem runN_ok {d : Dk} (ok : d.Ok) : ∀ n, (d.runN n).2.Ok ∧ (d.runN n).2.now = d.now + (n : Int) ∧ (d.runN n).2.pace = d.pace ∧ (d.runN n).2.room = d.room
  | 0 => ⟨ok, by show d.now = d.now + (0 : Int); omega, rfl, rfl⟩
  | n + 1 => by
    obtain ⟨a, b, c, e⟩ := runN_ok ok n
    obtain ⟨b', c', e'⟩ := turn_same (d.runN n).2
    refine ⟨turn_ok a, ?_, c'.trans c, e'.trans e⟩
    show (d.runN n).2.turn.2.now = _
    rw [b', b]
    omega
/-- who ran at a turn of a run -/
theorem runN_at (d : Dk) : ∀ (n i : Nat), i < n → (d.runN n).1[i]? = some (d.runN i).2.turn.1
  | 0, i, h => by omega
  | n + 1, i, h => by
    show ((d.runN n).1 ++ [(d.runN n).2.turn.1])[i]? = _
    by_cases hi : i < n
    · rw [List.getElem?_append_left (by rw [runN_len]; exact hi)]
      exact runN_at d n i hi
    · have : i = n := by omega
      subst this
      rw [List.getElem?_append_right (by rw [runN_len]; exact Nat.le_refl _), runN_len, Nat.sub_self]
      rfl
/-! ### who is chosen, and when: plain laws -/
def Dk.agd (d : Dk) (c : Cl) : Int := c.rk + (d.now - c.md.since) / d.pace
theorem prs_getD {d : Dk} {i : Nat} {c : Cl} (h : d.able[i]? = some c) : ag d.pace (d.prs.getD i (0, 0)) = d.agd c := by
  unfold Dk.prs ag Dk.agd
  rw [List.getD_eq_getElem?_getD, List.getElem?_map, h]
  rfl
theorem chosen_prio {d : Dk} {x : Cl} (h : d.chosen = some x) : ∃ j : Nat, d.able[j]? = some x ∧ ∀ (i : Nat) (c : Cl), d.able[i]? = some c → d.agd c ≤ d.agd x ∧ (i < j → d.agd c < d.agd x) := by
  unfold Dk.chosen at h
  have hf := firstIdx_is d.pace d.prs
  cases hj : firstIdx d.pace d.prs with
  | none => rw [hj] at h; cases h
  | some j =>
    rw [hj] at hf h
    have hx : d.able[j]? = some x := h
    refine ⟨j, hx, fun i c hc => ?_⟩
    have hl : d.prs.length = d.able.length := List.length_map ..
    have hi : i < d.prs.length := by rw [hl]; exact (List.getElem?_eq_some_iff.mp hc).1
    have key := hf.2 i hi
    rw [prs_getD hc, prs_getD hx] at key
    exact key
theorem turn_mem {d : Dk} {x : Cl} (h : x ∈ d.turn.2.line) : x ∈ d.waked.line ∨ ∃ c, d.chosen = some c ∧ x = ⟨c.nm, c.rk, .rdy (d.now + 1)⟩ := by
  unfold Dk.turn at h
  cases hc : d.chosen with
  | none => rw [hc] at h; exact .inl h
  | some c =>
    rw [hc] at h
    rcases putC_mem.mp h with ⟨h1, _⟩ | h1
    · exact .inl h1
    · exact .inr ⟨c, rfl, h1⟩
theorem turn_has {d : Dk} {c : Cl} (h : c ∈ d.line) : ∃ c' ∈ d.turn.2.line, c'.nm = c.nm := by
  obtain ⟨c', h', e'⟩ := rdyAll_nm (d.line.filter (due (d.now + 1))) d.tick c h
  unfold Dk.turn
  cases hc : d.chosen with
  | none => exact ⟨c', h', e'⟩
  | some x =>
    by_cases hn : c'.nm = x.nm
    · exact ⟨⟨x.nm, x.rk, .rdy (d.now + 1)⟩, putC_mem.mpr (.inr rfl), hn.symm.trans e'⟩
    · exact ⟨c', putC_mem.mpr (.inl ⟨h', hn⟩), e'⟩
theorem able_mem {d : Dk} {c : Cl} : c ∈ d.able ↔ c ∈ d.line ∧ c.md.isR = true := List.mem_filter
theorem able_put {d : Dk} (nm : Str) (rk t : Int) : (d.put ⟨nm, rk, .rdy t⟩).able = d.able.filter (fun o => !decide (o.nm = nm)) ++ [⟨nm, rk, .rdy t⟩] := by
  unfold Dk.able
  show (d.line.filter (fun o => !decide (o.nm = nm)) ++ [(⟨nm, rk, .rdy t⟩ : Cl)]).filter _ = _
  rw [List.filter_append, List.filter_filter, List.filter_filter]
  congr 1
  exact List.filter_congr fun x _ => Bool.and_comm _ _
theorem rdyAll_able : ∀ (cs : List Cl) (d : Dk), (d.line.map (·.nm)).Nodup → (∀ c ∈ cs, c ∈ d.line ∧ c.md.isR = false) → (cs.map (·.nm)).Nodup → ∃ ws, (d.rdyAll cs).able = d.able ++ ws ∧ ∀ w ∈ ws, w.md.since = d.now
  | [], d, _, _, _ => ⟨[], (List.append_nil _).symm, fun w hw => by cases hw⟩
  | c :: cs, d, nd, h, nc => by
    rw [List.map_cons, List.nodup_cons] at nc
    have hc := h c (List.mem_cons_self ..)
    obtain ⟨ws, h1, h2⟩ := rdyAll_able cs (d.put ⟨c.nm, c.rk, .rdy d.now⟩) (putC_nd nd) (fun x hx => ⟨putC_mem.mpr (.inl ⟨(h x (List.mem_cons_of_mem _ hx)).1, fun e => nc.1 (e ▸ List.mem_map.mpr ⟨x, hx, rfl⟩)⟩), (h x (List.mem_cons_of_mem _ hx)).2⟩) nc.2
    refine ⟨⟨c.nm, c.rk, .rdy d.now⟩ :: ws, ?_, fun w hw => ?_⟩
    · show ((d.put ⟨c.nm, c.rk, .rdy d.now⟩).rdyAll cs).able = _
      rw [h1, able_put, List.filter_eq_self.mpr fun x hx => ?_, List.append_assoc]
      · rfl
      · have hx := able_mem.mp hx
        have : x.nm ≠ c.nm := fun e => by
          have := nm_inj nd hx.1 hc.1 e
          rw [this, hc.2] at hx
          cases hx.2
        simp [this]
    · rcases List.mem_cons.mp hw with rfl | hw
      · rfl
      · exact h2 w hw
theorem turn_able {d : Dk} (ok : d.Ok) : ∃ ws, d.turn.2.able = d.able.filter (fun x => !decide (some x.nm = d.turn.1)) ++ ws ∧ ∀ w ∈ ws, w.md.since = d.now + 1 := by
  have hds : ∀ c ∈ d.line.filter (due (d.now + 1)), c ∈ d.tick.line ∧ c.md.isR = false := fun c hc => by
    obtain ⟨h1, h2⟩ := List.mem_filter.mp hc
    refine ⟨h1, ?_⟩
    unfold due at h2
    cases em : c.md with
    | rdy s => rw [em] at h2; cases h2
    | slp s => rfl
    | wtg s => rfl
  obtain ⟨ws, h1, h2⟩ := rdyAll_able (d.line.filter (due (d.now + 1))) d.tick ok.nd hds (filter_nodup ok.nd)
  have h1 : d.waked.able = d.able ++ ws := h1
  unfold Dk.turn
  cases h : d.chosen with
  | none =>
    refine ⟨ws, ?_, h2⟩
    show d.waked.able = _
    rw [h1, chosen_none h]
    rfl
  | some x =>
    refine ⟨ws.filter (fun o => !decide (o.nm = x.nm)) ++ [⟨x.nm, x.rk, .rdy (d.now + 1)⟩], ?_, fun w hw => ?_⟩
    · show (d.waked.put ⟨x.nm, x.rk, .rdy (d.now + 1)⟩).able = _
      rw [able_put, h1, List.filter_append, List.append_assoc]
      congr 1
      exact List.filter_congr fun o _ => by simp
    · rcases List.mem_append.mp hw with hw | hw
      · exact h2 w (List.mem_filter.mp hw).1
      · rw [List.mem_singleton] at hw
        rw [hw]
        rfl
theorem filter_lt {l : List Cl} {q : Cl → Bool} {x : Cl} (hx : x ∈ l) (hq : q x = false) : (l.filter q).length + 1 ≤ l.length := by
  induction l with
  | nil => cases hx
  | cons y l ih =>
    rw [List.filter_cons, List.length_cons]
    rcases List.mem_cons.mp hx with rfl | hx
    · rw [if_neg (by rw [hq]; decide)]
      exact Nat.succ_le_succ (List.length_filter_le _ _)
    · have := ih hx
      split
      · rw [List.length_cons]; omega
      · omega
def Sorted (L : List Cl) : Prop := L.Pairwise fun x y => x.md.since ≤ y.md.since
theorem since_le {d : Dk} (ok : d.Ok) {c : Cl} (h : c ∈ d.able) : c.md.since ≤ d.now := by
  obtain ⟨h1, h2⟩ := able_mem.mp h
  have := (ok.cl c h1).2.2.2
  cases em : c.md with
  | rdy s => rw [em] at this; exact this.2
  | slp s => rw [em] at h2; cases h2
  | wtg s => rw [em] at h2; cases h2
theorem sorted_app {L ws : List Cl} {q : Cl → Bool} {t : Int} (h : Sorted L) (hL : ∀ x ∈ L, x.md.since ≤ t) (hw : ∀ w ∈ ws, w.md.since = t) : Sorted (L.filter q ++ ws) := by
  refine List.pairwise_append.mpr ⟨h.sublist List.filter_sublist, ?_, fun x hx y hy => ?_⟩
  · clear h hL
    induction ws with
    | nil => exact List.Pairwise.nil
    | cons w ws ih =>
      refine List.Pairwise.cons (fun y hy => ?_) (ih fun z hz => hw z (List.mem_cons_of_mem _ hz))
      rw [hw w (List.mem_cons_self ..), hw y (List.mem_cons_of_mem _ hy)]
      exact Int.le_refl _
  · rw [hw y hy]
    exact hL x (List.mem_filter.mp hx).1
/-- who came later stands behind -/
theorem sorted_ix {L : List Cl} (h : Sorted L) {i j : Nat} {x y : Cl} (hi : L[i]? = some x) (hj : L[j]? = some y) (hl : x.md.since < y.md.since) : i < j := by
  obtain ⟨hi1, hi2⟩ := List.getElem?_eq_some_iff.mp hi
  obtain ⟨hj1, hj2⟩ := List.getElem?_eq_some_iff.mp hj
  rcases Nat.lt_trichotomy i j with c | c | c
  · exact c
  · subst c
    rw [hi2] at hj2
    rw [hj2] at hl
    omega
  · have := List.pairwise_iff_getElem.mp h j i hj1 hi1 c
    rw [hi2, hj2] at this
    omega
theorem sorted_turn {d : Dk} (ok : d.Ok) (h : Sorted d.able) : Sorted d.turn.2.able := by
  obtain ⟨ws, h1, h2⟩ := turn_able ok
  rw [h1]
  exact sorted_app h (fun x hx => by have := since_le ok hx; omega) h2
/-! ### several that entered at one time -/
def entD (pa ro no : Int) (f : Nat → Str) (g : Nat → Int) (i : Nat) : Dk := ⟨pa, ro, no, (List.range i).map fun k => ⟨f k, g k, .rdy no⟩⟩
section
variable {pa ro no : Int} {f : Nat → Str} {g : Nat → Int} {i : Nat}
theorem entD_step : (entD pa ro no f g i).enter (f i) (g i) = entD pa ro no f g (i + 1) := by
  unfold entD Dk.enter
  rw [List.range_succ, List.map_append]
  rfl
theorem entD_nms : (entD pa ro no f g i).line.map (·.nm) = (List.range i).map f := by
  show ((List.range i).map _).map _ = _
  rw [List.map_map]
  rfl
theorem nodup_map_range {α : Type} {f : Nat → α} {n : Nat} (h : ∀ j k, j < n → k < n → f j = f k → j = k) : ((List.range n).map f).Nodup := by
  refine List.pairwise_iff_getElem.mpr fun j k hj hk hjk e => ?_
  rw [List.length_map, List.length_range] at hj hk
  rw [List.getElem_map, List.getElem_map, List.getElem_range, List.getElem_range] at e
  have := h j k hj hk e
  omega
theorem entD_ok (p1 : 1 ≤ pa) (p2 : pa ≤ 1000) (r1 : 1 ≤ ro) (r2 : ro ≤ 60) (n0 : 0 ≤ no) (hi : (i : Int) ≤ ro) (hf : ∀ k, k < i → isName (f k) = true) (hg : ∀ k, k < i → 0 ≤ g k ∧ g k ≤ 99) (inj : ∀ j k, j < i → k < i → f j = f k → j = k) : (entD pa ro no f g i).Ok := by
  refine ⟨p1, p2, r1, r2, n0, ?_, ?_, fun c hc => ?_⟩
  · show (((List.range i).map _).length : Int) ≤ ro
    rw [List.length_map, List.length_range]
    exact hi
  · rw [entD_nms]
    exact nodup_map_range inj
  · obtain ⟨k, hk, rfl⟩ := List.mem_map.mp hc
    rw [List.mem_range] at hk
    exact ⟨hf k hk, (hg k hk).1, (hg k hk).2, n0, Int.le_refl _⟩
theorem entD_err (hi : (i : Int) < ro) (hf : isName (f i) = true) (hg : 0 ≤ g i ∧ g i ≤ 99) (inj : ∀ j, j < i → f j ≠ f i) : enterErr (entD pa ro no f g i) (f i) (g i) = none := by
  unfold enterErr
  rw [if_neg (by rw [hf]; decide), if_neg (by omega), if_neg ?_, if_neg ?_]
  · show ¬ ro ≤ (((List.range i).map _).length : Int)
    rw [List.length_map, List.length_range]
    omega
  · rw [entD_nms]
    intro h
    obtain ⟨j, hj, e⟩ := List.mem_map.mp h
    exact inj j (List.mem_range.mp hj) e
end
theorem nd_ix {α : Type} {l : List α} (nd : l.Nodup) {i j : Nat} {x : α} (hi : l[i]? = some x) (hj : l[j]? = some x) : i = j := by
  obtain ⟨h1, e1⟩ := List.getElem?_eq_some_iff.mp hi
  obtain ⟨h2, e2⟩ := List.getElem?_eq_some_iff.mp hj
  have key := List.pairwise_iff_getElem.mp nd
  rcases Nat.lt_trichotomy i j with h | h | h
  · exact absurd (e1.trans e2.symm) (key i j h1 h2 h)
  · exact h
  · exact absurd (e2.trans e1.symm) (key j i h2 h1 h)
theorem decI (a b : Int) : decide (V.int a = V.int b) = decide (a = b) := decide_eq_decide.mpr ⟨fun h => by cases h; rfl, fun h => by rw [h]⟩
theorem DkAt.desk {K : PySem.W.Frag} {H : Hp} {p l : Addr} {d : Dk} {ps : List Pr} (D : DkAt K H p d l ps) : DeskAt K (fun _ => none) H p d := ⟨l, ps, D, ⟨(fun _ _ h => by cases h), rfl, rfl, fun _ _ => rfl⟩⟩
theorem given_all (n : Nat) (v : Nat → V) : given n (fun _ => true) v = (List.range n).map v := by
  unfold given
  rw [filter_true]
/-- a pick of a written list -/
theorem pick_all {xs : List Int} {i : Int} {P : Int → Prop} (h0 : 0 ≤ i) (h1 : i < (xs.length : Int)) (h : ∀ x ∈ xs, P x) : ∃ v, P v ∧ atI (xs.map V.int) i = some (.int v) := by
  have hl : i.toNat < xs.length := by omega
  refine ⟨xs[i.toNat], h _ (List.getElem_mem hl), at_of (j := i.toNat) (by omega) ?_⟩
  rw [List.getElem?_map, List.getElem?_eq_getElem hl]
  rfl
/-! ### L_run -/
theorem sc_L_run : FnScope ["_law_desk", "_law_line", "_law_many_here", "_law_cell", "_law_now", "_law_told_here", "_law_ran", "_law_able", "_law_one_here"] ["_law_desk", "_law_line", "_law_many_here", "_law_cell"] (defScope s_L_run) := ⟨rfl, rfl, rfl, by decide +kernel, rfl, by decide +kernel, by decide +kernel⟩
def sp_L_run (K : PySem.W.Frag) : Sp := fun vs H Q _ => ∃ (F : Hp) (p : Addr) (d : Dk) (a : Addr) (n c : Int), vs = [.ref p, .ref a, .int n, .int c] ∧ DeskAt K F H p d ∧ d.Ok ∧ LineAt F a d.line ∧ 0 ≤ n ∧ n ≤ 1000 ∧
  ∀ (G : Hp) (b : Addr) (H' : Hp), Ex F G → DeskAt K G H' p (d.runN n.toNat).2 → LineAt G b (d.runN n.toNat).2.line → Q (.ref b) H'
theorem ok_L_run {P : Program} {w : World} {K : PySem.W.Frag} {mg : Str → Option Value} {base : Heap} (T : Txt K mg) : ∃ fd, FnOk P w K mg base (CX0) 6 (He.ga K "_law_run") fd ["_law_desk", "_law_line", "_law_many_here", "_law_cell"] (sp_L_run K) ∧ Binds K fd ["_law_desk", "_law_line", "_law_many_here", "_law_cell"] [] ∧ FunD K "_law_run" "_law_run" (defArgs s_L_run) (defBody s_L_run) (defScope s_L_run) [] [] (He.ga K "_law_run") fd := by
  obtain ⟨fd, F⟩ := f_L_run T
  obtain ⟨d_L_told, G_L_told, b_L_told, _⟩ := ok_L_told (P := P) (w := w) (base := base) T
  obtain ⟨d_L_after, G_L_after, b_L_after, _⟩ := ok_L_after (P := P) (w := w) (base := base) T
  refine ⟨fd, ok0 F sc_L_run (fun vs H Q E h => ?_) (fun cdv A outer s H vs Q E hr h => ?_), FunD.bindsN F fun _ _ _ _ _ _ us hl => match us, hl with | [_, _, _, _], _ => rfl, F⟩
  · (repeat (obtain ⟨_, h⟩ := h)); subst_vars; rfl
  · obtain ⟨F, p, d, a, n, c, rfl, D, ok, hl, h0, h1, k⟩ := h
    refine ⟨_, (pss_cons (ps_set (i := 4) sc_L_run.nd rfl (Or.inl rfl) (pe_fldK (K := K) rfl (pv 0) rfl))
        (pss_cons (ps_set (i := 5) sc_L_run.nd rfl (Or.inl rfl) (pe_call G_L_told (hr.mono (by decide)) rfl (g_L_told T) (kp_L_told T) b_L_told .nil pass0 (pa_cons (pv 0) (pa_cons (pv 2) (pa_cons (pv 3) pa_nil)))))
        (pss_cons (ps_if (PW.pt (pw_or (pt_not (pt_val (pe_callB (call_isiK' (K := K) rfl) rfl (b_isinstance T) (by decide +kernel) (pa_cons (pv 5) (pa_cons (pe_bltn (v := .ty "list") rfl (b_list T) (by decide +kernel) rfl) pa_nil))))) (pw_or1 (pt_cmpR op_ne (pe_callB (call_lenK (K := K) rfl) rfl (b_len T) (by decide +kernel) (pa_cons (pv 5) pa_nil)) (pv 2) (nomark _))))) (pss_one (ps_ret pe_non))
        pss_nil)
        (pss_cons (ps_for PassesOwn.never rfl (pi_listK (K := K) rfl (pv 5)) (pg_name (i := 6) sc_L_run.nd rfl (Or.inl rfl))
        (pss_cons (ps_setLc (i := 7) (own := [("_law_one_here", 8)]) (g := gName 8) rfl sc_L_run.nd rfl rfl (sw_true rfl rfl rfl (by decide +kernel)) (pi_listK (K := K) rfl (pv 1)) (blkOk_by (own := [("_law_one_here", 8)]) (N := ["_law_desk", "_law_line", "_law_many_here", "_law_cell", "_law_now", "_law_told_here", "_law_ran", "_law_able", "_law_one_here"]) (sc := defScope s_L_run) (by decide +kernel)) (fun _ _ _ _ _ => (pg_name (i := 8) sc_L_run.nd rfl (Or.inl rfl))) (fun _ _ _ _ _ => pts_one (pt_cmpR op_eq (pe_ix (ix_tupK (K := K) rfl) (pv 8) pe_int (fun _ _ => rfl)) pe_str (nomark _))) (fun _ _ _ _ _ => (pe_ix (ix_tupK (K := K) rfl) (pv 8) pe_int (fun _ _ => rfl))))
        (pss_cons (ps_if (PW.pt (pw_or (PW.pt (pw_and (pt_cmpR op_isN (pv 6) pe_non (nomark _)) (pw_and1 (pt_cmpR (op_neK (K := K) rfl hr.units) (pv 7) (pe_lst pa_nil) (nomark _))))) (pw_or1 (PW.pt (pw_and (pt_cmpR op_notN (pv 6) pe_non (nomark _)) (pw_and1 (pt_cmpR (op_notInK (K := K) rfl) (pv 6) (pv 7) (by with_unfolding_all rfl)))))))) (pss_one (ps_ret pe_non))
        pss_nil)
        (pss_cons (ps_set (i := 1) sc_L_run.nd rfl (Or.inl rfl) (pe_call G_L_after (hr.mono (by decide)) rfl (g_L_after T) (kp_L_after T) b_L_after .nil pass0 (pa_cons (pv 1) (pa_cons (pv 4) (pa_cons (pv 6) pa_nil)))))
        (pss_one (ps_set (i := 4) sc_L_run.nd rfl (Or.inl rfl) (pe_op op_add (pv 4) pe_int)))))))
        (pss_one (ps_ret (pv 1))))))), ?_⟩
    obtain ⟨l, ps, DD, ff⟩ := id D
    refine q_asg (ev_now T (ev_var rfl) DD) fun H1 e1 => ?_
    have D1 := D.ex e1
    refine q_call (vs := [.ref p, .int n, .int c]) (ea_cons (ev_var rfl) (ea_cons (ev_var rfl) (ea_cons (ev_var rfl) ea_nil))) fun H2 e2 => ⟨F, p, d, n, c, rfl, D1.ex e2, ok.wf, h0, h1, fun q H3 hFq D3 => ?_⟩
    have hq3 := D3.fr _ _ upd_same
    have eF : Ex F (upd F q (.lst ((d.runN n.toNat).1.map optS))) := Ex.new hFq
    have hl3 := hl.ex (eF.trans D3.fr)
    clear D D1 DD ff e1 e2
    refine q_when (b := false) ?h4 (fun hb H4 e4 => by cases hb) (fun hb H4 e4 => ?_)
    case h4 =>
      refine et_or (a := false) (b := false) (et_is (et_not (et_B (ev_cb (ea_cons (ev_var rfl) (ea_cons ev_c ea_nil)) (rc_isi_list hq3)))) rfl) fun _ => ?_
      refine et_is (et_test (ev_op (ev_cb (ea_cons (ev_var rfl) ea_nil) (rc_lenS (sq_of hq3))) (ev_var rfl) (rv_ne rfl))) ?_
      rw [List.length_map, runN_len]
      have : ((n.toNat : Nat) : Int) = n := by omega
      rw [this]
      simp
    refine q_forLn (K := K) (xs := (d.runN n.toNat).1.map optS) (ev_var rfl) (sq_of (e4 _ _ hq3))
      (fun i σ' H' => Ex H4 H' ∧ ∃ b v6 v7 v8, σ' = [some (.ref p), some (.ref b), some (.int n), some (.int c), some (.int (d.now + (i : Int))), some (.ref q), v6, v7, v8] ∧ (b = a ∨ H4 b = none) ∧ LineAt H' b (d.runN i).2.line)
      (fun H5 e5 => ⟨e5, a, none, none, none, by simp; rfl, .inl rfl, hl3.ex (e4.trans e5)⟩) (fun i σ' H' _ ⟨e5, _⟩ => sq_of (e5 _ _ (e4 _ _ hq3))) ?_ ?_
    · rintro i x σ' H' hi ⟨e5, b, v6, v7, v8, rfl, hb, hLb⟩
      have hin : i < n.toNat := by
        have := (List.getElem?_eq_some_iff.mp hi).1
        rw [List.length_map, runN_len] at this
        exact this
      rw [List.getElem?_map, runN_at d n.toNat i hin] at hi
      cases hi
      obtain ⟨oki, hnow, hpa, hro⟩ := runN_ok ok i
      have hstep : (d.runN (i + 1)).2 = (d.runN i).2.turn.2 := rfl
      generalize (d.runN i).2 = e at *
      obtain ⟨qs, hlq, hL⟩ := hLb
      have h60 := oki.len60
      have hq60 : qs.length = e.line.length := by rw [← List.length_map (f := fun q : Pr => q.2), hL]
      have hab : (qs.filter fun q => q.2.md.isR).map (fun q : Pr => V.str q.2.nm) = e.able.map fun c => V.str c.nm := by
        unfold Dk.able
        rw [← hL, List.filter_map, List.map_map]
        rfl
      refine q_asgL (xs := e.able.map fun c => V.str c.nm) ?h5 fun r H5 nr e6 hr5 => ?_
      case h5 =>
        rw [← hab]
        refine el_lcM (K := K) (ps := qs) (uu := fun q => V.ref q.1) (fun q => q.2.md.isR) (fun q => V.str q.2.nm) (ev_var rfl) (sq_of hlq.l) (by omega) (fun _ => rfl) (fun q hq H6 e6 => ?_) fun q hq H6 e6 _ => ev_t0 (ev_var rfl) (e6 _ _ (hlq.t q hq))
        rw [← st_ready, ← decV]
        exact et_test (ev_op (ev_t2 (ev_var rfl) (e6 _ _ (hlq.t q hq))) ev_c (rv_eq rfl))
      refine q_when (b := false) ?h6 (fun hb H6 e7 => by cases hb) (fun hb6 H6 e7 => ?_)
      case h6 =>
        cases hr : e.turn.1 with
        | none =>
          have hn := turn_none hr
          refine et_is (et_or (a := false) (b := false) (et_is (et_and (a := true) (b := false) (et_is (et_test (ev_op (ev_var rfl) ev_c rv_isN)) rfl) fun _ => ?_) rfl) fun _ => et_is (et_and (a := false) (b := false) (et_is (et_test (ev_op (ev_var rfl) ev_c rv_notN)) rfl) fun h => by cases h) rfl) rfl
          rw [hn] at hr5
          refine et_test fun H7 e8 Q7 k7 => ⟨_, rfl, (by decide : (0 : Nat) ≤ sizeLine), fun z hz => ⟨.list [], .list [], .lst (sq_of (((Ex.trans e8 (Ex.new hz)) _ _ hr5))) .nil, .lst (sq_of upd_same) .nil, by decide +kernel, by decide +kernel, k7 _ (Ex.new hz)⟩⟩
        | some nm =>
          obtain ⟨c', hc1, hc2, hc3⟩ := turn_some hr
          refine et_is (et_or (a := false) (b := false) (et_is (et_and (a := false) (b := false) (et_is (et_test (ev_op (ev_var rfl) ev_c rv_isN)) rfl) fun h => by cases h) rfl) fun _ => et_is (et_and (a := true) (b := false) (et_is (et_test (ev_op (ev_var rfl) ev_c rv_notN)) rfl) fun _ => ?_) rfl) rfl
          refine et_is (et_test (ev_op (ev_var rfl) (ev_var rfl) (rv_niL (sq_of hr5) rfl (flat_names _)))) ?_
          show (!inV (V.str nm) _) = false
          rw [inV_names, decide_eq_true (List.mem_map.mpr ⟨c', hc3, hc2⟩)]
          rfl
      refine q_call (vs := [.ref b, .int (d.now + (i : Int)), optS e.turn.1]) (ea_cons (ev_var rfl) (ea_cons (ev_var rfl) (ea_cons (ev_var rfl) ea_nil))) fun H7 e8 => ⟨b, e.line, d.now + (i : Int), e.turn.1, rfl, ⟨qs, hlq.ex ((e6.trans e7).trans e8), hL⟩, by omega, fun b' H8 hb' e9 hL8 => ?_⟩
      rw [← hnow, after_turn oki.wf] at hL8
      refine s_asg (v := .int (d.now + ((i + 1 : Nat) : Int))) (ev_is (ev_op (ev_var rfl) ev_c rv_I0) (by simp only [V.int.injEq]; omega)) fun H9 e10 => ?_
      have e59 := (e6.trans e7).trans e8
      exact ⟨e5.trans (e59.trans (e9.trans e10)), b', _, _, _, rfl, hb'.elim (fun h => h ▸ hb) (fun h => .inr (fresh_back (e5.trans e59) h)), hstep ▸ hL8.ex e10⟩
    · rintro σ' H' ⟨e5, b, v6, v7, v8, rfl, hb, hLb⟩
      rw [List.length_map, runN_len] at hLb
      refine s_ret (ev_var rfl) fun H6 e6 => ?_
      have D4 := D3.ex e4
      obtain ⟨qs0, hl0, _⟩ := id hl
      obtain ⟨G, eG, DG, hG⟩ := D4.grow (e5.trans e6) (hb.elim (fun h => .inr ⟨_, h ▸ eF _ _ hl0.l⟩) .inl) (hLb.ex e6)
      exact k G b H6 (eF.trans eG) DG hG
/-! ### desk_one -/
theorem sc_desk_one : FnScope ["self", "name", "caller"] ["self", "name"] (defScope s_desk_one) := ⟨rfl, rfl, rfl, by decide +kernel, rfl, by decide +kernel, by decide +kernel⟩
def sp_desk_one (K : PySem.W.Frag) : Sp := fun vs H Q E => ∃ (p : Addr) (d : Dk) (l : Addr) (ps : List Pr) (nm : Str), vs = [.ref p, .str nm] ∧ DkAt K H p d l ps ∧
  (∀ q ∈ ps, q.2.nm = nm → ∀ H', Ex H H' → Q (.ref q.1) H') ∧ ((∀ q ∈ ps, q.2.nm ≠ nm) → ∀ H', Ex H H' → E (.ref (He.ga K "Unknown")) none H')
theorem ok_desk_one {P : Program} {w : World} {K : PySem.W.Frag} {mg : Str → Option Value} {base : Heap} (T : Txt K mg) : ∃ fd, FnOk P w K mg base (L2.CX P w) 1 (He.ma K (He.ga K "Desk") "one") fd ["self", "name"] (sp_desk_one K) ∧ Binds K fd ["self", "name"] [] ∧ FunD K "one" "Desk.one" (defArgs s_desk_one) (defBody s_desk_one) (defScope s_desk_one) [] [] (He.ma K (He.ga K "Desk") "one") fd := by
  obtain ⟨fd, F⟩ := f_desk_one T
  refine ⟨fd, okX F sc_desk_one (fun vs H Q E h => ?_) (fun cdv A outer s H vs Q E hr h => ?_), FunD.bindsN F fun _ _ _ _ _ _ us hl => match us, hl with | [_, _], _ => rfl, F⟩
  · (repeat (obtain ⟨_, h⟩ := h)); subst_vars; rfl
  · obtain ⟨p, d, l, ps, nm, rfl, D, k, kE⟩ := h
    refine ⟨_, (pss_cons (ps_for (passes_of rfl) rfl (pi_listK (K := K) rfl (pe_fldK (K := K) rfl (pv 0) rfl)) (pg_name (i := 2) sc_desk_one.nd rfl (Or.inl rfl))
        (pss_one (ps_if (pt_cmpR op_eq (pe_fldK (K := K) rfl (pv 2) rfl) (pv 1) (nomark _)) (pss_one (ps_ret (pv 2)))
        pss_nil)))
        (pss_one (ps_raise rfl (takes_of rfl rfl rfl rfl) (pmk_own PySem.F.excBase_ValueError (x_Unknown T).1 (g_Unknown T) (x_Unknown T).2.1 (raises_own (x_Unknown T).2.2.1 (x_Unknown T).2.2.2) rfl)))), ?_⟩
    refine q_forLn (K := K) (xs := ps.map fun q => V.ref q.1) (ev_line T (ev_var rfl) D) (sq_of D.ln) (fun i σ' H' => Ex H H' ∧ (∃ v, σ' = [some (.ref p), some (.str nm), v]) ∧ ∀ q ∈ ps.take i, q.2.nm ≠ nm) (fun H1 e1 => ⟨e1, ⟨none, rfl⟩, fun q hq => by simp at hq⟩) (fun i σ' H' _ ⟨e1, _⟩ => sq_of (e1 _ _ D.ln)) ?_ ?_
    · rintro i x σ' H' hi ⟨e1, ⟨v, rfl⟩, hall⟩
      rw [List.getElem?_map] at hi
      cases hq : ps[i]? with
      | none => rw [hq] at hi; cases hi
      | some q =>
        rw [hq] at hi
        cases hi
        have hm := List.mem_of_getElem? hq
        refine s_when (b := decide (q.2.nm = nm)) ?h (fun hb H2 e2 => ?_) (fun hb H2 e2 => ?_)
        case h =>
          rw [← decV]
          exact et_test (ev_op (ev_label T (ev_var rfl) ((D.at_ q hm).ex e1)) (ev_var rfl) (rv_eq rfl))
        · exact s_ret (ev_var rfl) fun H3 e3 => k q hm (of_decide_eq_true hb) H3 ((e1.trans e2).trans e3)
        · refine ⟨e1.trans e2, ⟨_, rfl⟩, fun r hr => ?_⟩
          rw [List.take_succ, hq] at hr
          rcases List.mem_append.mp hr with hr | hr
          · exact hall r hr
          · simp at hr
            rw [hr]
            exact of_decide_eq_false hb
    · rintro σ' H' ⟨e1, ⟨v, rfl⟩, hall⟩
      refine kE (fun q hq => hall q ?_) H' e1
      rw [List.length_map, List.take_length]
      exact hq
/-! ### desk_leave -/
theorem sc_desk_leave : FnScope ["self", "name", "gone", "caller"] ["self", "name"] (defScope s_desk_leave) := ⟨rfl, rfl, rfl, by decide +kernel, rfl, by decide +kernel, by decide +kernel⟩
def sp_desk_leave (K : PySem.W.Frag) : Sp := fun vs H Q E => ∃ (F : Hp) (p : Addr) (d : Dk) (nm : Str), vs = [.ref p, .str nm] ∧ DeskAt K F H p d ∧ d.Wf ∧
  (d.get nm = none → ∀ H', Ex H H' → E (.ref (He.ga K "Unknown")) none H') ∧ (∀ c, d.get nm = some c → ∀ H', DeskAt K F H' p (d.leave nm) → Q .non H')
theorem ok_desk_leave {P : Program} {w : World} {K : PySem.W.Frag} {mg : Str → Option Value} {base : Heap} (T : Txt K mg) : ∃ fd, FnOk P w K mg base (L2.CX P w) 2 (He.ma K (He.ga K "Desk") "leave") fd ["self", "name"] (sp_desk_leave K) ∧ Binds K fd ["self", "name"] [] ∧ FunD K "leave" "Desk.leave" (defArgs s_desk_leave) (defBody s_desk_leave) (defScope s_desk_leave) [] [] (He.ma K (He.ga K "Desk") "leave") fd := by
  obtain ⟨fd, F⟩ := f_desk_leave T
  obtain ⟨d_desk_one, G_desk_one, b_desk_one, _⟩ := ok_desk_one (P := P) (w := w) (base := base) T
  refine ⟨fd, okX F sc_desk_leave (fun vs H Q E h => ?_) (fun cdv A outer s H vs Q E hr h => ?_), FunD.bindsN F fun _ _ _ _ _ _ us hl => match us, hl with | [_, _], _ => rfl, F⟩
  · (repeat (obtain ⟨_, h⟩ := h)); subst_vars; rfl
  · obtain ⟨F, p, d, nm, rfl, ⟨l, ps, D, f⟩, W, kE, k⟩ := h
    refine ⟨_, (pss_cons (ps_set (i := 2) sc_desk_leave.nd rfl (Or.inr rfl) (pe_meth (pv 0) (c_Desk T) (m_desk_one T) G_desk_one (hr.mono (by decide)) b_desk_one .nil (passes_call (takes_of rfl rfl rfl rfl) (fun _ _ _ _ h => h)) (pa_cons (pv 1) pa_nil)))
        (pss_one (ps_fld (pv 0) (pe_lc (own := [("caller", 3)]) (g := gName 3) rfl sc_desk_leave.nd (pi_listK (K := K) rfl (pe_fldK (K := K) rfl (pv 0) rfl)) (blkOk_by (own := [("caller", 3)]) (N := ["self", "name", "gone", "caller"]) (sc := defScope s_desk_leave) (by decide +kernel)) (fun _ _ _ _ _ => (pg_name (i := 3) sc_desk_leave.nd rfl (Or.inl rfl))) (fun _ _ _ _ _ => pts_one (pt_cmpR op_ne (pe_fldK (K := K) rfl (pv 3) rfl) (pe_fldK (K := K) rfl (pv 2) rfl) (nomark _))) (fun _ _ _ _ _ => (pv 3))) rfl))), ?_⟩
    obtain ⟨dx, hp⟩ := D.ob
    refine q_meth (ev_var rfl) hp rfl (ea_cons (ev_var rfl) ea_nil) fun H1 e1 => ?_
    refine ⟨p, d, l, ps, nm, rfl, D.ex e1, fun q hq hn H2 e2 => ?_, fun hn H2 e2 => kE (D.get_none hn) H2 (e1.trans e2)⟩
    subst hn
    have e12 := e1.trans e2
    have D2 := D.ex e12
    have f2 := f.mono e12
    have hp2 := e12 _ _ hp
    have hW := W.len
    have hln := D.len
    refine s_fldL (xs := (ps.filter fun o => !decide (o.2.nm = q.2.nm)).map fun o => V.ref o.1) ?h (ev_var rfl) hp2 (c_Desk T) (n_Desk_line T) (by show 4 < 1000; decide) fun r H3 hr e3 h3 => ?_
    case h =>
      refine el_lcM (K := K) (ps := ps) (uu := fun q => V.ref q.1) (fun o => !decide (o.2.nm = q.2.nm)) (fun o => V.ref o.1) (ev_line T (ev_var rfl) D2) (sq_of D2.ln) (by omega) (fun _ => rfl) (fun o ho H1 e1 => ?_) fun o ho H1 e1 _ => ev_var rfl
      rw [← decV]
      exact et_test (ev_op (ev_label T (ev_var rfl) ((D2.at_ o ho).ex e1)) (ev_label T (ev_var rfl) ((D2.at_ q hq).ex e1)) (rv_ne rfl))
    have nrp : r ≠ p := fun e => by rw [e] at hr; rw [hp2] at hr; cases hr
    have Frr : F r = none := by
      cases hF : F r with
      | none => rfl
      | some o => have := f2.ex _ _ hF; rw [hr] at this; cases this
    have ca : ∀ {b o}, b ≠ p → H3 b = some o → upd H3 p (.ins (aD K) dx (putF "line" (.ref r) (dfs d l))) b = some o := fun hb ho => by rw [upd_ne hb]; exact ho
    refine k q.2 (D.get_of W hq) _ ⟨r, ps.filter fun o => !decide (o.2.nm = q.2.nm), ⟨⟨dx, upd_same⟩, ca nrp h3, ?_, fun o ho => ?_⟩, ⟨fun b o hb => ca (fun e => by have := f.p0; rw [← e, hb] at this; cases this) (e3 _ _ (f2.ex _ _ hb)), f.p0, Frr, fun o ho => f.c0 o (List.mem_filter.mp ho).1⟩⟩
    · show d.line.filter _ = _
      rw [D.eq, List.filter_map]
      rfl
    · obtain ⟨dq, h⟩ := D2.at_ o (List.mem_filter.mp ho).1
      exact ⟨dq, ca (fun e => by rw [e, hp2] at h; exact ins_ne (Option.some.inj h)) (e3 _ _ h)⟩
/-! ### L_bell_by -/
theorem sc_L_bell_by : FnScope ["_law_line", "_law_one_here", "_law_cell", "_law_way"] ["_law_line", "_law_one_here", "_law_cell"] (defScope s_L_bell_by) := ⟨rfl, rfl, rfl, by decide +kernel, rfl, by decide +kernel, by decide +kernel⟩
def sp_L_bell_by (_ : PySem.W.Frag) : Sp := fun vs H Q _ => ∃ (a : Addr) (qs : List Pr) (q : Pr) (c : Int), vs = [.ref a, .ref q.1, .int c] ∧ LnAt H a qs ∧ q ∈ qs ∧ (∀ r ∈ qs, isName r.2.nm = true) ∧ ∀ b, isName b = true → ∀ H', Ex H H' → Q (.str b) H'
theorem ok_L_bell_by {P : Program} {w : World} {K : PySem.W.Frag} {mg : Str → Option Value} {base : Heap} (T : Txt K mg) : ∃ fd, FnOk P w K mg base (CX0) 3 (He.ga K "_law_bell_by") fd ["_law_line", "_law_one_here", "_law_cell"] (sp_L_bell_by K) ∧ Binds K fd ["_law_line", "_law_one_here", "_law_cell"] [] ∧ FunD K "_law_bell_by" "_law_bell_by" (defArgs s_L_bell_by) (defBody s_L_bell_by) (defScope s_L_bell_by) [] [] (He.ga K "_law_bell_by") fd := by
  obtain ⟨fd, F⟩ := f_L_bell_by T
  obtain ⟨d_L_mix, G_L_mix, b_L_mix, _⟩ := ok_L_mix (P := P) (w := w) (base := base) T
  obtain ⟨d_L_name_by, G_L_name_by, b_L_name_by, _⟩ := ok_L_name_by (P := P) (w := w) (base := base) T
  refine ⟨fd, ok0 F sc_L_bell_by (fun vs H Q E h => ?_) (fun cdv A outer s H vs Q E hr h => ?_), FunD.bindsN F fun _ _ _ _ _ _ us hl => match us, hl with | [_, _, _], _ => rfl, F⟩
  · (repeat (obtain ⟨_, h⟩ := h)); subst_vars; rfl
  · obtain ⟨a, qs, q, c, rfl, hl, hq, hn, k⟩ := h
    refine ⟨_, (pss_cons (ps_set (i := 3) sc_L_bell_by.nd rfl (Or.inl rfl) (pe_call G_L_mix (hr.mono (by decide)) rfl (g_L_mix T) (kp_L_mix T) b_L_mix .nil pass0 (pa_cons (pv 2) (pa_cons pe_int (pa_cons pe_int pa_nil)))))
        (pss_cons (ps_if (pt_cmpR op_eq (pv 3) pe_int (nomark _)) (pss_one (ps_ret (pe_ix (ix_tupK (K := K) rfl) (pv 1) pe_int (fun _ _ => rfl))))
        pss_nil)
        (pss_cons (ps_if (pt_cmpR op_eq (pv 3) pe_int (nomark _)) (pss_one (ps_ret (pe_ix (ix_tupK (K := K) rfl) (pe_ix (ix_listK (K := K) rfl) (pv 0) pe_int (fun _ _ => rfl)) pe_int (fun _ _ => rfl))))
        pss_nil)
        (pss_one (ps_ret (pe_call G_L_name_by (hr.mono (by decide)) rfl (g_L_name_by T) (kp_L_name_by T) b_L_name_by .nil pass0 (pa_cons (pe_call G_L_mix (hr.mono (by decide)) rfl (g_L_mix T) (kp_L_mix T) b_L_mix .nil pass0 (pa_cons (pv 2) (pa_cons pe_int (pa_cons pe_int pa_nil)))) (pa_cons (pe_op op_mod (pv 2) pe_int) pa_nil)))))))), ?_⟩
    refine' q_asg (v := .int (mix c 10193 8)) ?h fun H1 e1 => ?_
    case h => tm_at "rr.ev"
    refine q_when (b := decide (mix c 10193 8 = 0)) (et_mix0 (ev_var rfl)) (fun hb H2 e2 => ?_) (fun hb H2 e2 => ?_)
    · exact s_ret (ev_t0 (ev_var rfl) ((e1.trans e2) _ _ (hl.t q hq))) fun H3 e3 => k _ (hn q hq) H3 ((e1.trans e2).trans e3)
    refine q_when (b := decide (mix c 10193 8 = 1)) (et_mix0 (ev_var rfl)) (fun hb H3 e3 => ?_) (fun hb H3 e3 => ?_)
    · have e13 := (e1.trans e2).trans e3
      obtain ⟨r, rs, rfl⟩ : ∃ r rs, qs = r :: rs := by
        cases qs with
        | nil => cases hq
        | cons r rs => exact ⟨r, rs, rfl⟩
      have hr := List.mem_cons_self (a := r) (l := rs)
      exact s_ret (ev_t0 (ev_op (ev_var rfl) ev_c (rv_ixL (sq_of (e13 _ _ hl.l)) (at0 _ _))) (e13 _ _ (hl.t r hr))) fun H4 e4 => k _ (hn r hr) H4 (e13.trans e4)
    · have m0 := mix_nonneg (c := c) (p := 10099) (m := 3) (by decide)
      have m1 := mix_lt (c := c) (p := 10099) (m := 3) (by decide)
      refine' s_ret (ev_call (ea_cons ?h1 (ea_cons ?h2 ea_nil)) (cv_L_name_by (k := mix c 10099 3) (c := c % 5) m0 (by omega))) fun H4 e4 => k _ (nameBy_ok m0 (by omega)) H4 (((e1.trans e2).trans e3).trans e4)
      case h1 => tm_at "rr.ev"
      case h2 => tm_at "rr.ev"
/-! ### desk_ring -/
theorem sc_desk_ring : FnScope ["self", "bell", "found", "caller"] ["self", "bell"] (defScope s_desk_ring) := ⟨rfl, rfl, rfl, by decide +kernel, rfl, by decide +kernel, by decide +kernel⟩
/-- the ones at fs are made ready, in turn: behind i of them -/
structure Woken (K : PySem.W.Frag) (F H : Hp) (p : Addr) (d : Dk) (fs : List Pr) (i : Nat) : Prop where
  wf : (d.rdyAll ((fs.take i).map (·.2))).Wf
  at_ : ∃ l ps, DkAt K H p (d.rdyAll ((fs.take i).map (·.2))) l ps ∧ Fr F H p l ps ∧ (∀ r ∈ fs.drop i, r ∈ ps) ∧ ∀ r ∈ fs.take i, (r.1, (⟨r.2.nm, r.2.rk, .rdy d.now⟩ : Cl)) ∈ ps
theorem Woken.ex {K : PySem.W.Frag} {F H H' : Hp} {p : Addr} {d : Dk} {fs : List Pr} {i : Nat} (h : Woken K F H p d fs i) (e : Ex H H') : Woken K F H' p d fs i := ⟨h.wf, let ⟨l, ps, a, b, c⟩ := h.at_; ⟨l, ps, a.ex e, b.mono e, c⟩⟩
theorem Woken.next {K : PySem.W.Frag} {F H H' : Hp} {p l l' : Addr} {d : Dk} {fs ps : List Pr} {i : Nat} {q : Pr} (nd : (fs.map fun q => q.2.nm).Nodup) (hq : fs[i]? = some q) (w : (d.rdyAll ((fs.take i).map (·.2))).Wf)
    (D : DkAt K H p (d.rdyAll ((fs.take i).map (·.2))) l ps) (h1 : ∀ r ∈ fs.drop i, r ∈ ps) (h2 : ∀ r ∈ fs.take i, (r.1, (⟨r.2.nm, r.2.rk, .rdy d.now⟩ : Cl)) ∈ ps)
    (D' : DkAt K H' p ((d.rdyAll ((fs.take i).map (·.2))).put ⟨q.2.nm, q.2.rk, .rdy d.now⟩) l' (putP ps (q.1, ⟨q.2.nm, q.2.rk, .rdy d.now⟩))) (f' : Fr F H' p l' (putP ps (q.1, ⟨q.2.nm, q.2.rk, .rdy d.now⟩))) : Woken K F H' p d fs (i + 1) := by
  have hlt : i < fs.length := (List.getElem?_eq_some_iff.mp hq).1
  have hgt : fs[i] = q := (List.getElem?_eq_some_iff.mp hq).2
  have e1 : fs.take (i + 1) = fs.take i ++ [q] := by rw [List.take_succ, hq]; rfl
  have hqd : q ∈ fs.drop i := by rw [List.drop_eq_getElem_cons hlt, hgt]; exact List.mem_cons_self
  have hqp := h1 q hqd
  have e2 : d.rdyAll ((fs.take (i + 1)).map (·.2)) = (d.rdyAll ((fs.take i).map (·.2))).put ⟨q.2.nm, q.2.rk, .rdy d.now⟩ := by
    rw [e1, List.map_append]
    show d.rdyAll (_ ++ [q.2]) = _
    rw [rdyAll_snoc, (rdyAll_now _ _).1]
  have hin : q.2 ∈ (d.rdyAll ((fs.take i).map (·.2))).line := by rw [D.eq]; exact List.mem_map.mpr ⟨q, hqp, rfl⟩
  have ndd : ((fs.take i ++ fs.drop i).map fun q => q.2.nm).Nodup := by rw [List.take_append_drop]; exact nd
  rw [List.map_append, List.nodup_append] at ndd
  refine ⟨by rw [e2]; exact w.put hin rfl, l', _, by rw [e2]; exact D', f', fun r hr => ?_, fun r hr => ?_⟩
  · have hd : fs.drop i = q :: fs.drop (i + 1) := by rw [List.drop_eq_getElem_cons hlt, hgt]
    refine putP_mem (h1 r (by rw [hd]; exact List.mem_cons_of_mem _ hr)) fun e => ?_
    have := ndd.2.1
    rw [hd, List.map_cons, List.nodup_cons] at this
    exact this.1 (List.mem_map.mpr ⟨r, hr, e⟩)
  · rw [e1] at hr
    rcases List.mem_append.mp hr with hr | hr
    · exact putP_mem (h2 r hr) fun e => ndd.2.2 _ (List.mem_map.mpr ⟨r, hr, rfl⟩) _ (List.mem_map.mpr ⟨q, hqd, rfl⟩) e
    · rw [List.mem_singleton] at hr
      rw [hr]
      exact putP_self
def sp_desk_ring (K : PySem.W.Frag) : Sp := fun vs H Q E => ∃ (F : Hp) (p : Addr) (d : Dk) (b : Str), vs = [.ref p, .str b] ∧ DeskAt K F H p d ∧ d.Wf ∧ b.length ≤ 100000 ∧
  (isName b = false → ∀ H', Ex H H' → E (.ref (He.ga K "NoName")) none H') ∧
  (isName b = true → ∀ (q : Addr) (H' : Hp), F q = none → DeskAt K (upd F q (.lst ((d.rung b).map fun c => V.str c.nm))) H' p (d.ring b) → Q (.ref q) H')
theorem wtg_eq (m : Md) (b : Str) : (decide (m.st = "waiting") && decide (m.mark = .str b)) = decide (m = .wtg b) := by
  rw [st_waiting]
  cases m with
  | rdy s => simp [Md.isW]
  | slp s => simp [Md.isW]
  | wtg c => simp [Md.isW, Md.mark]
theorem ok_desk_ring {P : Program} {w : World} {K : PySem.W.Frag} {mg : Str → Option Value} {base : Heap} (T : Txt K mg) : ∃ fd, FnOk P w K mg base (L2.CX P w) 2 (He.ma K (He.ga K "Desk") "ring") fd ["self", "bell"] (sp_desk_ring K) ∧ Binds K fd ["self", "bell"] [] ∧ FunD K "ring" "Desk.ring" (defArgs s_desk_ring) (defBody s_desk_ring) (defScope s_desk_ring) [] [] (He.ma K (He.ga K "Desk") "ring") fd := by
  obtain ⟨fd, F⟩ := f_desk_ring T
  obtain ⟨d_is_name, G_is_name, b_is_name, _⟩ := ok_is_name (P := P) (w := w) (base := base) T
  obtain ⟨d_desk_those, G_desk_those, b_desk_those, _⟩ := ok_desk_those (P := P) (w := w) (base := base) T
  obtain ⟨d_desk_become, G_desk_become, b_desk_become, _⟩ := ok_desk_become (P := P) (w := w) (base := base) T
  refine ⟨fd, okX F sc_desk_ring (fun vs H Q E h => ?_) (fun cdv A outer s H vs Q E hr h => ?_), FunD.bindsN F fun _ _ _ _ _ _ us hl => match us, hl with | [_, _], _ => rfl, F⟩
  · (repeat (obtain ⟨_, h⟩ := h)); subst_vars; rfl
  · obtain ⟨F, p, d, b, rfl, ⟨l, ps, D, f⟩, W, hz, kE, k⟩ := h
    refine ⟨_, (pss_cons (ps_if (pt_not (pt_val (pe_call G_is_name (hr.mono (by decide)) rfl (g_is_name T) (kp_is_name T) b_is_name .nil pass0 (pa_cons (pv 1) pa_nil)))) (pss_one (ps_raise rfl (takes_of rfl rfl rfl rfl) (pmk_own PySem.F.excBase_ValueError (x_NoName T).1 (g_NoName T) (x_NoName T).2.1 (raises_own (x_NoName T).2.2.1 (x_NoName T).2.2.2) rfl)))
        pss_nil)
        (pss_cons (ps_setLc (i := 2) (own := [("caller", 3)]) (g := gName 3) rfl sc_desk_ring.nd rfl rfl (sw_true rfl rfl rfl (by decide +kernel)) (pi_listK (K := K) rfl (pe_meth (pv 0) (c_Desk T) (m_desk_those T) G_desk_those (hr.mono (by decide)) b_desk_those .nil pass0 (pa_cons pe_str pa_nil))) (blkOk_by (own := [("caller", 3)]) (N := ["self", "bell", "found", "caller"]) (sc := defScope s_desk_ring) (by decide +kernel)) (fun _ _ _ _ _ => (pg_name (i := 3) sc_desk_ring.nd rfl (Or.inl rfl))) (fun _ _ _ _ _ => pts_one (pt_cmpR op_eq (pe_fldK (K := K) rfl (pv 3) rfl) (pv 1) (nomark _))) (fun _ _ _ _ _ => (pv 3)))
        (pss_cons (ps_for (passes_of rfl) rfl (pi_listK (K := K) rfl (pv 2)) (pg_name (i := 3) sc_desk_ring.nd rfl (Or.inl rfl))
        (pss_one (ps_expr (pe_meth (pv 0) (c_Desk T) (m_desk_become T) G_desk_become (hr.mono (by decide)) b_desk_become .nil pass0 (pa_cons (pv 3) (pa_cons pe_str (pa_cons (pe_fldK (K := K) rfl (pv 0) rfl) pa_nil)))))))
        (pss_one (ps_ret (pe_lc (own := [("caller", 3)]) (g := gName 3) (tt := tYes) rfl sc_desk_ring.nd (pi_listK (K := K) rfl (pv 2)) (blkOk_by (own := [("caller", 3)]) (N := ["self", "bell", "found", "caller"]) (sc := defScope s_desk_ring) (by decide +kernel)) (fun _ _ _ _ _ => (pg_name (i := 3) sc_desk_ring.nd rfl (Or.inl rfl))) (fun _ _ _ _ _ => pts_nil) (fun _ _ _ _ _ => (pe_fldK (K := K) rfl (pv 3) rfl)))))))), ?_⟩
    refine q_when (b := !isName b) ?h (fun hb H1 e1 => ?_) (fun hb H1 e1 => ?_)
    case h => exact et_not (et_B (ev_call (ea_cons (ev_var rfl) ea_nil) (cv_is_name hz)))
    · exact kE (by simpa using hb) H1 e1
    have n1 : isName b = true := by simpa using hb
    have k := k n1
    have D1 := D.ex e1
    have hW := W.len
    have hln := D.len
    obtain ⟨dx, hp⟩ := D1.ob
    obtain ⟨fs, efs⟩ : ∃ fs, fs = ps.filter fun q => isWtg b q.2 := ⟨_, rfl⟩
    have hfsub : ∀ q ∈ fs, q ∈ ps := fun q hq => by rw [efs] at hq; exact (List.mem_filter.mp hq).1
    have hflen : fs.length ≤ ps.length := by rw [efs]; exact List.length_filter_le _ _
    have erung : d.rung b = fs.map (·.2) := by
      unfold Dk.rung
      rw [D.eq, List.filter_map, efs]
      rfl
    refine q_asgL (xs := fs.map fun q => V.ref q.1) ?h fun fa H2 hfa e2 h2 => ?_
    case h =>
      have hz2 : ((ps.filter fun q => decide (q.2.md.st = ("waiting" : Str))).map fun q => V.ref q.1).length ≤ 40000 := by
        rw [List.length_map]
        have := List.length_filter_le (fun q : Pr => decide (q.2.md.st = ("waiting" : Str))) ps
        omega
      have e9 : ((ps.filter fun q => decide (q.2.md.st = ("waiting" : Str))).filter fun q => decide (q.2.md.mark = .str b)) = fs := by
        rw [List.filter_filter, efs]
        apply List.filter_congr
        intro q _
        rw [Bool.and_comm, wtg_eq]
        rfl
      rw [← e9]
      refine el_lcNM (K := K) (ps := ps.filter fun q => decide (q.2.md.st = ("waiting" : Str))) (uu := fun q => V.ref q.1) (fun q => decide (q.2.md.mark = .str b)) (fun q => V.ref q.1) ?eh ?ez (fun _ => ?ew) (fun q hq H3 e3 => ?_) (fun q hq H3 e3 _ => ?ee)
      case eh => exact el_meth (ev_var rfl) hp rfl (ea_cons ev_c ea_nil) (cv_those D1 (by omega))
      case ez => rw [List.length_map] at hz2; exact hz2
      case ew => rfl
      case ee => exact ev_var rfl
      · obtain ⟨h1, h2⟩ := List.mem_filter.mp hq
        refine et_test (ev_op (ev_mark T (ev_var rfl) ((D1.at_ q h1).ex e3)) (ev_var rfl) (rv_eq ?_))
        have h3 : q.2.md.isW = true := by rw [← st_waiting]; exact h2
        cases em : q.2.md with
        | rdy s => rw [em] at h3; cases h3
        | slp s => rw [em] at h3; cases h3
        | wtg c => rfl
    have D2 := D1.ex e2
    have f2 := (f.mono e1).new D1 hfa e2 h2
    have nd := D.nd W.nd
    have ndf : (fs.map fun q => q.2.nm).Nodup := by rw [efs]; exact (List.filter_sublist.map _).nodup nd
    refine q_forLn (K := K) (xs := fs.map fun q => V.ref q.1) (ev_var rfl) (sq_of h2) (fun i σ' H' => (∃ v, σ' = [some (.ref p), some (.str b), some (.ref fa), v]) ∧ Woken K (upd F fa (.lst (fs.map fun q => V.ref q.1))) H' p d fs i)
      (fun H3 e3 => ⟨⟨none, rfl⟩, Woken.ex ⟨W, l, ps, D2, f2, fun r hr => hfsub r hr, fun r hr => by simp at hr⟩ e3⟩) (fun i σ' H' _ ⟨_, ⟨_, _, _, _, f3, _⟩⟩ => sq_of (f3.ex _ _ upd_same)) ?_ ?_
    · rintro i x σ' H' hi ⟨⟨v, rfl⟩, ⟨w3, l3, ps3, D3, f3, h3, h4⟩⟩
      rw [List.getElem?_map] at hi
      cases hq : fs[i]? with
      | none => rw [hq] at hi; cases hi
      | some q =>
        rw [hq] at hi
        cases hi
        obtain ⟨dx3, hp3⟩ := D3.ob
        have hlt : i < fs.length := (List.getElem?_eq_some_iff.mp hq).1
        have hqp : q ∈ ps3 := h3 q (by rw [List.drop_eq_getElem_cons hlt, (List.getElem?_eq_some_iff.mp hq).2]; exact List.mem_cons_self)
        have en := (rdyAll_now ((fs.take i).map (·.2)) d).1
        refine s_dmeth (ev_var rfl) hp3 rfl (ea_cons (ev_var rfl) (ea_cons ev_c (ea_cons (ev_now T (ev_var rfl) D3) ea_nil))) fun H4 e4 => ?_
        refine ⟨_, p, _, l3, ps3, q, .rdy d.now, by rw [en]; rfl, D3.ex e4, f3.mono e4, hqp, w3, fun H5 l5 D5 f5 => ⟨⟨_, rfl⟩, Woken.next ndf hq w3 D3 h3 h4 D5 f5⟩⟩
    · rintro σ' H' ⟨⟨v, rfl⟩, ⟨w3, l3, ps3, D3, f3, h3, h4⟩⟩
      rw [List.length_map, List.take_length] at w3 D3 h4
      have e9 : (fs.filter fun _ => true).map (fun q => V.str q.2.nm) = (d.rung b).map fun c => V.str c.nm := by
        rw [filter_true, erung, List.map_map]
        rfl
      refine s_retL (xs := (d.rung b).map fun c => V.str c.nm) ?h fun q H4 hq e4 h5 => ?_
      case h =>
        rw [← e9]
        exact el_lcM (K := K) (ps := fs) (uu := fun q => V.ref q.1) (fun _ => true) (fun q => V.str q.2.nm) (ev_var rfl) (sq_of (f3.ex _ _ upd_same)) (by omega) (fun _ => rfl) (fun _ _ _ _ => et_yes) fun r hr H5 e5 _ => ev_label T (c := ⟨r.2.nm, r.2.rk, .rdy d.now⟩) (ev_var rfl) ((D3.at_ _ (h4 r hr)).ex e5)
      have hF1 : (upd F fa (.lst (fs.map fun q => V.ref q.1))) q = none := ex_none f3.ex hq
      have hFa : F fa = none := ex_none (f.mono e1).ex hfa
      have hqn : F q = none := by
        by_cases c : q = fa
        · rw [c]; exact hFa
        · rw [upd_ne c] at hF1; exact hF1
      refine k q H4 hqn ⟨l3, ps3, ?_, (f3.new D3 hq e4 h5).sub (upd_mono (upd_sub hFa))⟩
      rw [Dk.ring, erung]
      exact D3.ex e4
/-! ### L_rung -/
theorem sc_L_rung : FnScope ["_law_line", "_law_now", "_law_bell", "_law_made", "_law_one_here"] ["_law_line", "_law_now", "_law_bell"] (defScope s_L_rung) := ⟨rfl, rfl, rfl, by decide +kernel, rfl, by decide +kernel, by decide +kernel⟩
def sp_L_rung (_ : PySem.W.Frag) : Sp := fun vs H Q _ => ∃ (a : Addr) (L : List Cl) (now : Int) (b : Str), vs = [.ref a, .int now, .str b] ∧ LineAt H a L ∧ L.length ≤ 1000 ∧ ∀ p H', (p = a ∨ H p = none) → Ex H H' → LineAt H' p (ranC L (L.filter (isWtg b)) now) → Q (.ref p) H'
theorem ok_L_rung {P : Program} {w : World} {K : PySem.W.Frag} {mg : Str → Option Value} {base : Heap} (T : Txt K mg) : ∃ fd, FnOk P w K mg base (CX0) 2 (He.ga K "_law_rung") fd ["_law_line", "_law_now", "_law_bell"] (sp_L_rung K) ∧ Binds K fd ["_law_line", "_law_now", "_law_bell"] [] ∧ FunD K "_law_rung" "_law_rung" (defArgs s_L_rung) (defBody s_L_rung) (defScope s_L_rung) [] [] (He.ga K "_law_rung") fd := by
  obtain ⟨fd, F⟩ := f_L_rung T
  obtain ⟨d_L_put, G_L_put, b_L_put, _⟩ := ok_L_put (P := P) (w := w) (base := base) T
  refine ⟨fd, ok0 F sc_L_rung (fun vs H Q E h => ?_) (fun cdv A outer s H vs Q E hr h => ?_), FunD.bindsN F fun _ _ _ _ _ _ us hl => match us, hl with | [_, _, _], _ => rfl, F⟩
  · (repeat (obtain ⟨_, h⟩ := h)); subst_vars; rfl
  · obtain ⟨a, L, now, bb, rfl, ⟨qs, hl, rfl⟩, hz, k⟩ := h
    refine ⟨_, (pss_cons (ps_set (i := 3) sc_L_rung.nd rfl (Or.inl rfl) (pv 0))
        (pss_cons (ps_for PassesOwn.never rfl (pi_listK (K := K) rfl (pv 0)) (pg_name (i := 4) sc_L_rung.nd rfl (Or.inl rfl))
        (pss_one (ps_if (PW.pt (pw_and (pt_cmpR op_eq (pe_ix (ix_tupK (K := K) rfl) (pv 4) pe_int (fun _ _ => rfl)) pe_str (nomark _)) (pw_and1 (pt_cmpR op_eq (pe_ix (ix_tupK (K := K) rfl) (pv 4) pe_int (fun _ _ => rfl)) (pv 2) (nomark _))))) (pss_one (ps_set (i := 3) sc_L_rung.nd rfl (Or.inl rfl) (pe_call G_L_put (hr.mono (by decide)) rfl (g_L_put T) (kp_L_put T) b_L_put .nil pass0 (pa_cons (pv 3) (pa_cons (pe_ix (ix_tupK (K := K) rfl) (pv 4) pe_int (fun _ _ => rfl)) (pa_cons (pe_ix (ix_tupK (K := K) rfl) (pv 4) pe_int (fun _ _ => rfl)) (pa_cons pe_str (pa_cons (pv 1) pa_nil))))))))
        pss_nil)))
        (pss_one (ps_ret (pv 3))))), ?_⟩
    rw [List.length_map] at hz
    refine q_asg (v := .ref a) (ev_var rfl) fun H1 e1 => ?_
    refine q_forLn (K := K) (xs := qs.map fun q => V.ref q.1) (ev_var rfl) (sq_of (e1 _ _ hl.l))
      (fun i σ' H' => Ex H H' ∧ ∃ b v, σ' = [some (.ref a), some (.int now), some (.str bb), some (.ref b), v] ∧ (b = a ∨ H b = none) ∧ LineAt H' b (ranC (qs.map (·.2)) (((qs.take i).map (·.2)).filter (isWtg bb)) now))
      (fun H2 e2 => ⟨e1.trans e2, a, none, rfl, .inl rfl, qs, hl.ex (e1.trans e2), rfl⟩) (fun i σ' H' _ ⟨e2, _⟩ => sq_of (e2 _ _ hl.l)) ?_ ?_
    · rintro i x σ' H' hi ⟨e2, b, v, rfl, hb, hL⟩
      rw [List.getElem?_map] at hi
      cases hq : qs[i]? with
      | none => rw [hq] at hi; cases hi
      | some q =>
        rw [hq] at hi
        cases hi
        have hm := List.mem_of_getElem? hq
        have hcs : ((qs.take (i + 1)).map (·.2)).filter (isWtg bb) = ((qs.take i).map (·.2)).filter (isWtg bb) ++ if isWtg bb q.2 = true then [q.2] else [] := by
          rw [List.map_take, List.map_take]
          exact filter_take_succ (by rw [List.getElem?_map, hq]; rfl)
        refine s_when (b := isWtg bb q.2) ?h (fun hb3 H3 e3 => ?_) (fun hb3 H3 e3 => ?_)
        case h =>
          unfold isWtg
          rw [← wtg_eq, ← decV]
          refine et_and (et_test (ev_op (ev_t2 (ev_var rfl) (e2 _ _ (hl.t q hm))) ev_c (rv_eq rfl))) fun ha => et_test (ev_op (ev_t3 (ev_var rfl) (e2 _ _ (hl.t q hm))) (ev_var rfl) (rv_eq ?_))
          cases q.2.md <;> rfl
        · rw [hb3, if_pos rfl] at hcs
          have hlen : (ranC (qs.map (·.2)) (((qs.take i).map (·.2)).filter (isWtg bb)) now).length ≤ 40000 := by
            have h1 := ranC_len now (((qs.take i).map (·.2)).filter (isWtg bb)) (qs.map (·.2))
            have h2 := List.length_filter_le (isWtg bb) ((qs.take i).map (·.2))
            have h3 := @List.length_take _ i qs
            rw [List.length_map] at h1 h2
            omega
          have e23 := e2.trans e3
          refine s_asgN (cv_L_put (md := .rdy now) (ea_cons (ev_var rfl) (ea_cons (ev_t0 (ev_var rfl) (e23 _ _ (hl.t q hm))) (ea_cons (ev_t1 (ev_var rfl) (e23 _ _ (hl.t q hm))) (ea_cons ev_c (ea_cons (ev_var rfl) ea_nil))))) (hL.ex e3) hlen) fun p H4 hp e4 hL4 => ?_
          refine ⟨e23.trans e4, p, _, rfl, .inr (fresh_back e23 hp), ?_⟩
          rw [hcs, ranC_snoc]
          exact hL4
        · rw [hb3, if_neg (by decide), List.append_nil] at hcs
          refine ⟨e2.trans e3, b, _, rfl, hb, ?_⟩
          rw [hcs]
          exact hL.ex e3
    · rintro σ' H' ⟨e2, b, v, rfl, hb, hL⟩
      rw [List.length_map, List.take_length] at hL
      exact s_ret (ev_var rfl) fun H3 e3 => k b H3 hb (e2.trans e3) (hL.ex e3)
/-! ### desk_need_ready -/
theorem sc_desk_need_ready : FnScope ["self", "caller"] ["self", "caller"] (defScope s_desk_need_ready) := ⟨rfl, rfl, rfl, by decide +kernel, rfl, by decide +kernel, by decide +kernel⟩
def sp_desk_need_ready (K : PySem.W.Frag) : Sp := fun vs H Q E => ∃ (p a : Addr) (c : Cl), vs = [.ref p, .ref a] ∧ CAt K H a c ∧ (c.md.isR = true → ∀ H', Ex H H' → Q .non H') ∧ (c.md.isR = false → ∀ H', Ex H H' → E (.ref (He.ga K "NotReady")) none H')
theorem ok_desk_need_ready {P : Program} {w : World} {K : PySem.W.Frag} {mg : Str → Option Value} {base : Heap} (T : Txt K mg) : ∃ fd, FnOk P w K mg base (L2.CX P w) 1 (He.ma K (He.ga K "Desk") "need_ready") fd ["self", "caller"] (sp_desk_need_ready K) ∧ Binds K fd ["self", "caller"] [] ∧ FunD K "need_ready" "Desk.need_ready" (defArgs s_desk_need_ready) (defBody s_desk_need_ready) (defScope s_desk_need_ready) [] [] (He.ma K (He.ga K "Desk") "need_ready") fd := by
  obtain ⟨fd, F⟩ := f_desk_need_ready T
  refine ⟨fd, okX F sc_desk_need_ready (fun vs H Q E h => ?_) (fun cdv A outer s H vs Q E hr h => ?_), FunD.bindsN F fun _ _ _ _ _ _ us hl => match us, hl with | [_, _], _ => rfl, F⟩
  · (repeat (obtain ⟨_, h⟩ := h)); subst_vars; rfl
  · obtain ⟨p, a, c, rfl, C, k, kE⟩ := h
    refine ⟨_, (pss_one (ps_if (pt_cmpR op_ne (pe_fldK (K := K) rfl (pv 1) rfl) pe_str (nomark _)) (pss_one (ps_raise rfl (takes_of rfl rfl rfl rfl) (pmk_own PySem.F.excBase_ValueError (x_NotReady T).1 (g_NotReady T) (x_NotReady T).2.1 (raises_own (x_NotReady T).2.2.1 (x_NotReady T).2.2.2) rfl)))
        pss_nil)), ?_⟩
    refine s_when (b := !c.md.isR) ?h (fun hb H1 e1 => ?_) (fun hb H1 e1 => ?_)
    case h =>
      rw [← st_ready, ← decV]
      exact et_test (ev_op (ev_stand T (ev_var rfl) C) ev_c (rv_ne rfl))
    · exact kE (by simpa using hb) H1 e1
    · exact k (by simpa using hb) H1 e1
/-! ### desk_wait -/
theorem sc_desk_wait : FnScope ["self", "name", "bell", "caller"] ["self", "name", "bell"] (defScope s_desk_wait) := ⟨rfl, rfl, rfl, by decide +kernel, rfl, by decide +kernel, by decide +kernel⟩
def sp_desk_wait (K : PySem.W.Frag) : Sp := fun vs H Q E => ∃ (F : Hp) (p : Addr) (d : Dk) (nm b : Str), vs = [.ref p, .str nm, .str b] ∧ DeskAt K F H p d ∧ d.Wf ∧ b.length ≤ 100000 ∧
  (∀ e, waitErr d nm b = some e → ∀ H', Ex H H' → E (.ref (He.ga K e)) none H') ∧ (∀ c, waitErr d nm b = none → d.get nm = some c → ∀ H', DeskAt K F H' p (d.put ⟨c.nm, c.rk, .wtg b⟩) → Q .non H')
theorem ok_desk_wait {P : Program} {w : World} {K : PySem.W.Frag} {mg : Str → Option Value} {base : Heap} (T : Txt K mg) : ∃ fd, FnOk P w K mg base (L2.CX P w) 2 (He.ma K (He.ga K "Desk") "wait") fd ["self", "name", "bell"] (sp_desk_wait K) ∧ Binds K fd ["self", "name", "bell"] [] ∧ FunD K "wait" "Desk.wait" (defArgs s_desk_wait) (defBody s_desk_wait) (defScope s_desk_wait) [] [] (He.ma K (He.ga K "Desk") "wait") fd := by
  obtain ⟨fd, F⟩ := f_desk_wait T
  obtain ⟨d_desk_one, G_desk_one, b_desk_one, _⟩ := ok_desk_one (P := P) (w := w) (base := base) T
  obtain ⟨d_is_name, G_is_name, b_is_name, _⟩ := ok_is_name (P := P) (w := w) (base := base) T
  obtain ⟨d_desk_need_ready, G_desk_need_ready, b_desk_need_ready, _⟩ := ok_desk_need_ready (P := P) (w := w) (base := base) T
  obtain ⟨d_desk_become, G_desk_become, b_desk_become, _⟩ := ok_desk_become (P := P) (w := w) (base := base) T
  refine ⟨fd, okX F sc_desk_wait (fun vs H Q E h => ?_) (fun cdv A outer s H vs Q E hr h => ?_), FunD.bindsN F fun _ _ _ _ _ _ us hl => match us, hl with | [_, _, _], _ => rfl, F⟩
  · (repeat (obtain ⟨_, h⟩ := h)); subst_vars; rfl
  · obtain ⟨F, p, d, nm, b, rfl, ⟨l, ps, D, f⟩, W, hz, kE, k⟩ := h
    refine ⟨_, (pss_cons (ps_set (i := 3) sc_desk_wait.nd rfl (Or.inl rfl) (pe_meth (pv 0) (c_Desk T) (m_desk_one T) G_desk_one (hr.mono (by decide)) b_desk_one .nil (passes_call (takes_of rfl rfl rfl rfl) (fun _ _ _ _ h => h)) (pa_cons (pv 1) pa_nil)))
        (pss_cons (ps_if (pt_not (pt_val (pe_call G_is_name (hr.mono (by decide)) rfl (g_is_name T) (kp_is_name T) b_is_name .nil pass0 (pa_cons (pv 2) pa_nil)))) (pss_one (ps_raise rfl (takes_of rfl rfl rfl rfl) (pmk_own PySem.F.excBase_ValueError (x_NoName T).1 (g_NoName T) (x_NoName T).2.1 (raises_own (x_NoName T).2.2.1 (x_NoName T).2.2.2) rfl)))
        pss_nil)
        (pss_cons (ps_expr (pe_meth (pv 0) (c_Desk T) (m_desk_need_ready T) G_desk_need_ready (hr.mono (by decide)) b_desk_need_ready .nil (passes_call (takes_of rfl rfl rfl rfl) (fun _ _ _ _ h => h)) (pa_cons (pv 3) pa_nil)))
        (pss_one (ps_expr (pe_meth (pv 0) (c_Desk T) (m_desk_become T) G_desk_become (hr.mono (by decide)) b_desk_become .nil pass0 (pa_cons (pv 3) (pa_cons pe_str (pa_cons (pv 2) pa_nil))))))))), ?_⟩
    unfold waitErr at kE k
    obtain ⟨dx, hp⟩ := D.ob
    refine q_meth (ev_var rfl) hp rfl (ea_cons (ev_var rfl) ea_nil) fun H1 e1 => ?_
    refine ⟨p, d, l, ps, nm, rfl, D.ex e1, fun q hq hn H2 e2 => ?_, fun hn H2 e2 => kE _ (by rw [D.get_none hn]) H2 (e1.trans e2)⟩
    subst hn
    rw [D.get_of W hq] at kE k
    dsimp only at kE k
    refine q_when (b := !isName b) ?h (fun hb H3 e3 => ?_) (fun hb H3 e3 => ?_)
    case h => exact et_not (et_B (ev_call (ea_cons (ev_var rfl) ea_nil) (cv_is_name hz)))
    · exact kE _ (if_pos (by simpa using hb)) H3 ((e1.trans e2).trans e3)
    have n1 : ¬ isName b = false := by simpa using hb
    rw [if_neg n1] at kE k
    have e13 := (e1.trans e2).trans e3
    refine q_dmeth (ev_var rfl) (e13 _ _ hp) rfl (ea_cons (ev_var rfl) ea_nil) fun H4 e4 => ?_
    refine ⟨p, q.1, q.2, rfl, (D.at_ q hq).ex (e13.trans e4), fun hr H5 e5 => ?_, fun hr H5 e5 => kE _ (if_neg (by rw [hr]; decide)) H5 ((e13.trans e4).trans e5)⟩
    have e15 := (e13.trans e4).trans e5
    have D5 := D.ex e15
    refine s_dmeth (ev_var rfl) (e15 _ _ hp) rfl (ea_cons (ev_var rfl) (ea_cons ev_c (ea_cons (ev_var rfl) ea_nil))) fun H6 e6 => ?_
    exact ⟨F, p, d, l, ps, q, .wtg b, rfl, D5.ex e6, f.mono (e15.trans e6), hq, W, fun H7 l7 D7 f7 => k q.2 (if_pos hr) rfl H7 ⟨l7, _, D7, f7⟩⟩
/-! ### desk_sleep -/
theorem sc_desk_sleep : FnScope ["self", "name", "many", "caller"] ["self", "name", "many"] (defScope s_desk_sleep) := ⟨rfl, rfl, rfl, by decide +kernel, rfl, by decide +kernel, by decide +kernel⟩
def sp_desk_sleep (K : PySem.W.Frag) : Sp := fun vs H Q E => ∃ (F : Hp) (p : Addr) (d : Dk) (nm : Str) (m : Int), vs = [.ref p, .str nm, .int m] ∧ DeskAt K F H p d ∧ d.Wf ∧
  (∀ e, sleepErr d nm m = some e → ∀ H', Ex H H' → E (.ref (He.ga K e)) none H') ∧ (∀ c, sleepErr d nm m = none → d.get nm = some c → ∀ H', DeskAt K F H' p (d.put ⟨c.nm, c.rk, .slp (d.now + m)⟩) → Q .non H')
theorem ok_desk_sleep {P : Program} {w : World} {K : PySem.W.Frag} {mg : Str → Option Value} {base : Heap} (T : Txt K mg) : ∃ fd, FnOk P w K mg base (L2.CX P w) 2 (He.ma K (He.ga K "Desk") "sleep") fd ["self", "name", "many"] (sp_desk_sleep K) ∧ Binds K fd ["self", "name", "many"] [] ∧ FunD K "sleep" "Desk.sleep" (defArgs s_desk_sleep) (defBody s_desk_sleep) (defScope s_desk_sleep) [] [] (He.ma K (He.ga K "Desk") "sleep") fd := by
  obtain ⟨fd, F⟩ := f_desk_sleep T
  obtain ⟨d_desk_one, G_desk_one, b_desk_one, _⟩ := ok_desk_one (P := P) (w := w) (base := base) T
  obtain ⟨d_desk_need_ready, G_desk_need_ready, b_desk_need_ready, _⟩ := ok_desk_need_ready (P := P) (w := w) (base := base) T
  obtain ⟨d_desk_become, G_desk_become, b_desk_become, _⟩ := ok_desk_become (P := P) (w := w) (base := base) T
  obtain ⟨t_MOST_TURNS, hk_MOST_TURNS⟩ := k_MOST_TURNS T
  refine ⟨fd, okX F sc_desk_sleep (fun vs H Q E h => ?_) (fun cdv A outer s H vs Q E hr h => ?_), FunD.bindsN F fun _ _ _ _ _ _ us hl => match us, hl with | [_, _, _], _ => rfl, F⟩
  · (repeat (obtain ⟨_, h⟩ := h)); subst_vars; rfl
  · obtain ⟨F, p, d, nm, m, rfl, ⟨l, ps, D, f⟩, W, kE, k⟩ := h
    refine ⟨_, (pss_cons (ps_set (i := 3) sc_desk_sleep.nd rfl (Or.inl rfl) (pe_meth (pv 0) (c_Desk T) (m_desk_one T) G_desk_one (hr.mono (by decide)) b_desk_one .nil (passes_call (takes_of rfl rfl rfl rfl) (fun _ _ _ _ h => h)) (pa_cons (pv 1) pa_nil)))
        (pss_cons (ps_if (PW.pt (pw_or (pt_cmpR op_lt (pv 2) pe_int (nomark _)) (pw_or1 (pt_cmpR op_gt (pv 2) (pe_glob (v := .int 1000) rfl hk_MOST_TURNS ⟨_, rfl⟩) (nomark _))))) (pss_one (ps_raise rfl (takes_of rfl rfl rfl rfl) (pmk_own PySem.F.excBase_ValueError (x_NoSpan T).1 (g_NoSpan T) (x_NoSpan T).2.1 (raises_own (x_NoSpan T).2.2.1 (x_NoSpan T).2.2.2) rfl)))
        pss_nil)
        (pss_cons (ps_expr (pe_meth (pv 0) (c_Desk T) (m_desk_need_ready T) G_desk_need_ready (hr.mono (by decide)) b_desk_need_ready .nil (passes_call (takes_of rfl rfl rfl rfl) (fun _ _ _ _ h => h)) (pa_cons (pv 3) pa_nil)))
        (pss_one (ps_expr (pe_meth (pv 0) (c_Desk T) (m_desk_become T) G_desk_become (hr.mono (by decide)) b_desk_become .nil pass0 (pa_cons (pv 3) (pa_cons pe_str (pa_cons (pe_op op_add (pe_fldK (K := K) rfl (pv 0) rfl) (pv 2)) pa_nil))))))))), ?_⟩
    unfold sleepErr at kE k
    obtain ⟨dx, hp⟩ := D.ob
    refine q_meth (ev_var rfl) hp rfl (ea_cons (ev_var rfl) ea_nil) fun H1 e1 => ?_
    refine ⟨p, d, l, ps, nm, rfl, D.ex e1, fun q hq hn H2 e2 => ?_, fun hn H2 e2 => kE _ (by rw [D.get_none hn]) H2 (e1.trans e2)⟩
    subst hn
    rw [D.get_of W hq] at kE k
    dsimp only at kE k
    refine' q_when ?h (fun hb H3 e3 => ?_) (fun hb H3 e3 => ?_)
    case h => tm_at "rr.ev"
    · exact kE _ (if_pos (by simpa using hb)) H3 ((e1.trans e2).trans e3)
    have n1 : ¬ (m < 1 ∨ 1000 < m) := by simpa using hb
    rw [if_neg n1] at kE k
    have e13 := (e1.trans e2).trans e3
    refine q_dmeth (ev_var rfl) (e13 _ _ hp) rfl (ea_cons (ev_var rfl) ea_nil) fun H4 e4 => ?_
    refine ⟨p, q.1, q.2, rfl, (D.at_ q hq).ex (e13.trans e4), fun hr H5 e5 => ?_, fun hr H5 e5 => kE _ (if_neg (by rw [hr]; decide)) H5 ((e13.trans e4).trans e5)⟩
    have e15 := (e13.trans e4).trans e5
    have D5 := D.ex e15
    refine s_dmeth (ev_var rfl) (e15 _ _ hp) rfl (ea_cons (ev_var rfl) (ea_cons ev_c (ea_cons (ev_op (ev_now T (ev_var rfl) D5) (ev_var rfl) rv_I0) ea_nil))) fun H6 e6 => ?_
    exact ⟨F, p, d, l, ps, q, .slp (d.now + m), rfl, D5.ex e6, f.mono (e15.trans e6), hq, W, fun H7 l7 D7 f7 => k q.2 (if_pos hr) rfl H7 ⟨l7, _, D7, f7⟩⟩
/-! ### L_slept -/
theorem sc_L_slept : FnScope ["_law_desk", "_law_line", "_law_now", "_law_one_here", "_law_cell", "_law_way", "_law_bell", "_law_many_here"] ["_law_desk", "_law_line", "_law_now", "_law_one_here", "_law_cell"] (defScope s_L_slept) := ⟨rfl, rfl, rfl, by decide +kernel, rfl, by decide +kernel, by decide +kernel⟩
theorem pick2 {a b : V} {i : Int} (h0 : 0 ≤ i) (h2 : i < 2) : atI [a, b] i = some (match i.toNat with | 0 => a | _ => b) := by
  have : i = 0 ∨ i = 1 := by omega
  rcases this with rfl | rfl <;> rfl
def sp_L_slept (K : PySem.W.Frag) : Sp := fun vs H Q _ => ∃ (F : Hp) (p : Addr) (d : Dk) (a : Addr) (qs : List Pr) (q : Pr) (c : Int), vs = [.ref p, .ref a, .int d.now, .ref q.1, .int c] ∧ DeskAt K F H p d ∧ d.Ok ∧ LnAt F a qs ∧ qs.map (·.2) = d.line ∧ q ∈ qs ∧ q.2.md.isR = true ∧ RetDL K F p d Q
theorem ok_L_slept {P : Program} {w : World} {K : PySem.W.Frag} {mg : Str → Option Value} {base : Heap} (T : Txt K mg) : ∃ fd, FnOk P w K mg base (CX0) 4 (He.ga K "_law_slept") fd ["_law_desk", "_law_line", "_law_now", "_law_one_here", "_law_cell"] (sp_L_slept K) ∧ Binds K fd ["_law_desk", "_law_line", "_law_now", "_law_one_here", "_law_cell"] [] ∧ FunD K "_law_slept" "_law_slept" (defArgs s_L_slept) (defBody s_L_slept) (defScope s_L_slept) [] [] (He.ga K "_law_slept") fd := by
  obtain ⟨fd, F⟩ := f_L_slept T
  obtain ⟨d_L_mix, G_L_mix, b_L_mix, _⟩ := ok_L_mix (P := P) (w := w) (base := base) T
  obtain ⟨d_L_bell_by, G_L_bell_by, b_L_bell_by, _⟩ := ok_L_bell_by (P := P) (w := w) (base := base) T
  obtain ⟨d_desk_ring, G_desk_ring, b_desk_ring, _⟩ := ok_desk_ring (P := P) (w := w) (base := base) T
  obtain ⟨d_L_rung, G_L_rung, b_L_rung, _⟩ := ok_L_rung (P := P) (w := w) (base := base) T
  obtain ⟨d_desk_wait, G_desk_wait, b_desk_wait, _⟩ := ok_desk_wait (P := P) (w := w) (base := base) T
  obtain ⟨d_L_put, G_L_put, b_L_put, _⟩ := ok_L_put (P := P) (w := w) (base := base) T
  obtain ⟨d_desk_sleep, G_desk_sleep, b_desk_sleep, _⟩ := ok_desk_sleep (P := P) (w := w) (base := base) T
  refine ⟨fd, ok0 F sc_L_slept (fun vs H Q E h => ?_) (fun cdv A outer s H vs Q E hr h => ?_), FunD.bindsN F fun _ _ _ _ _ _ us hl => match us, hl with | [_, _, _, _, _], _ => rfl, F⟩
  · (repeat (obtain ⟨_, h⟩ := h)); subst_vars; rfl
  · obtain ⟨F, p, d, a, qs, q, c, rfl, D, ok, hl, hL, hq, hrd, k⟩ := h
    refine ⟨_, (pss_cons (ps_set (i := 5) sc_L_slept.nd rfl (Or.inl rfl) (pe_call G_L_mix (hr.mono (by decide)) rfl (g_L_mix T) (kp_L_mix T) b_L_mix .nil pass0 (pa_cons (pv 4) (pa_cons pe_int (pa_cons pe_int pa_nil)))))
        (pss_cons (ps_if (pt_cmpR op_eq (pv 5) pe_int (nomark _)) (pss_cons (ps_set (i := 6) sc_L_slept.nd rfl (Or.inl rfl) (pe_call G_L_bell_by (hr.mono (by decide)) rfl (g_L_bell_by T) (kp_L_bell_by T) b_L_bell_by .nil pass0 (pa_cons (pv 1) (pa_cons (pv 3) (pa_cons (pv 4) pa_nil)))))
        (pss_cut (ps_if (pt_cmpR op_eq (pe_call G_L_mix (hr.mono (by decide)) rfl (g_L_mix T) (kp_L_mix T) b_L_mix .nil pass0 (pa_cons (pv 4) (pa_cons pe_int (pa_cons pe_int pa_nil)))) pe_int (nomark _)) (pss_cons (ps_expr (pe_meth (pv 0) (c_Desk T) (m_desk_ring T) G_desk_ring (hr.mono (by decide)) b_desk_ring .nil passL (pa_cons (pv 6) pa_nil)))
        (pss_one (ps_set (i := 1) sc_L_slept.nd rfl (Or.inl rfl) (pe_call G_L_rung (hr.mono (by decide)) rfl (g_L_rung T) (kp_L_rung T) b_L_rung .nil pass0 (pa_cons (pv 1) (pa_cons (pv 2) (pa_cons (pv 6) pa_nil)))))))
        pss_nil)
        (pss_cons (ps_expr (pe_meth (pv 0) (c_Desk T) (m_desk_wait T) G_desk_wait (hr.mono (by decide)) b_desk_wait .nil passL (pa_cons (pe_ix (ix_tupK (K := K) rfl) (pv 3) pe_int (fun _ _ => rfl)) (pa_cons (pv 6) pa_nil))))
        (pss_one (ps_ret (pe_call G_L_put (hr.mono (by decide)) rfl (g_L_put T) (kp_L_put T) b_L_put .nil pass0 (pa_cons (pv 1) (pa_cons (pe_ix (ix_tupK (K := K) rfl) (pv 3) pe_int (fun _ _ => rfl)) (pa_cons (pe_ix (ix_tupK (K := K) rfl) (pv 3) pe_int (fun _ _ => rfl)) (pa_cons pe_str (pa_cons (pv 6) pa_nil)))))))))))
        pss_nil)
        (pss_cons (ps_set (i := 7) sc_L_slept.nd rfl (Or.inl rfl) (pe_ix (ix_listK (K := K) rfl) (pe_lst (pa_cons (pe_op op_add pe_int (pe_call G_L_mix (hr.mono (by decide)) rfl (g_L_mix T) (kp_L_mix T) b_L_mix .nil pass0 (pa_cons (pv 4) (pa_cons pe_int (pa_cons pe_int pa_nil))))) (pa_cons (pe_op op_add pe_int (pe_call G_L_mix (hr.mono (by decide)) rfl (g_L_mix T) (kp_L_mix T) b_L_mix .nil pass0 (pa_cons (pv 4) (pa_cons pe_int (pa_cons pe_int pa_nil))))) pa_nil))) (pe_op op_sub (pv 5) pe_int) (fun _ _ => rfl)))
        (pss_cons (ps_expr (pe_meth (pv 0) (c_Desk T) (m_desk_sleep T) G_desk_sleep (hr.mono (by decide)) b_desk_sleep .nil passL (pa_cons (pe_ix (ix_tupK (K := K) rfl) (pv 3) pe_int (fun _ _ => rfl)) (pa_cons (pv 7) pa_nil))))
        (pss_one (ps_ret (pe_call G_L_put (hr.mono (by decide)) rfl (g_L_put T) (kp_L_put T) b_L_put .nil pass0 (pa_cons (pv 1) (pa_cons (pe_ix (ix_tupK (K := K) rfl) (pv 3) pe_int (fun _ _ => rfl)) (pa_cons (pe_ix (ix_tupK (K := K) rfl) (pv 3) pe_int (fun _ _ => rfl)) (pa_cons pe_str (pa_cons (pe_op op_add (pv 2) (pv 7)) pa_nil)))))))))))), ?_⟩
    have hqd : q.2 ∈ d.line := by rw [← hL]; exact List.mem_map.mpr ⟨q, hq, rfl⟩
    have hnm : ∀ r ∈ qs, isName r.2.nm = true := fun r hr => (ok.cl r.2 (by rw [← hL]; exact List.mem_map.mpr ⟨r, hr, rfl⟩)).1
    have h60 := ok.len60
    refine' q_asg (v := .int (mix c 10093 3)) ?h fun H1 e1 => ?_
    case h => tm_at "rr.ev"
    have D1 := D.ex e1
    clear e1 D
    refine q_when (b := decide (mix c 10093 3 = 0)) (et_mix0 (ev_var rfl)) (fun hb H2 e2 => ?_) (fun hb H2 e2 => ?_)
    · have D2 := D1.ex e2
      clear D1 e2
      refine q_call (vs := [.ref a, .ref q.1, .int c]) (ea_cons (ev_var rfl) (ea_cons (ev_var rfl) (ea_cons (ev_var rfl) ea_nil))) fun H3 e3 => ⟨a, qs, q, c, rfl, hl.ex (D2.fr.trans e3), hq, hnm, fun b hb H4 e4 => ?_⟩
      have D4 := D2.ex (e3.trans e4)
      clear D2 e3 e4
      have hbl := (isName_len hb).2
      refine q_cut (M := fun σ' H' => ∃ (G : Hp) (a' : Addr) (d' : Dk), σ' = [some (.ref p), some (.ref a'), some (.int d.now), some (.ref q.1), some (.int c), some (.int (mix c 10093 3)), some (.str b), none] ∧ Ex F G ∧ DeskAt K G H' p d' ∧ Deeds d d' ∧ q.2 ∈ d'.line ∧ LineAt G a' d'.line) ?_ ?_
      · refine' s_when (b := decide (mix c 10211 2 = 0)) (et_mix0 ?h) (fun hb5 H5 e5 => ?_) (fun hb5 H5 e5 => ?_)
        case h => tm_at "rr.ev"
        · have D5 := D4.ex e5
          obtain ⟨l, ps, DD, ff⟩ := id D5
          obtain ⟨dx, hp⟩ := DD.ob
          refine q_dmeth (vs := [.str b]) (ev_var rfl) hp rfl (ea_cons (ev_var rfl) ea_nil) fun H6 e6 => ?_
          refine ⟨F, p, d, b, rfl, D5.ex e6, ok.wf, by omega, fun h => (by rw [hb] at h; cases h), fun _ r H7 hr7 D7 => ?_⟩
          have D7 := D7.sub (upd_sub hr7)
          refine s_call (vs := [.ref a, .int d.now, .str b]) (ea_cons (ev_var rfl) (ea_cons (ev_var rfl) (ea_cons (ev_var rfl) ea_nil))) fun H8 e8 => ⟨a, d.line, d.now, b, rfl, ⟨qs, hl.ex (D7.fr.trans e8), hL⟩, by omega, fun a' H9 ha9 e9 hL9 => ?_⟩
          have D8 := D7.ex e8
          obtain ⟨G, eG, DG, hG⟩ := D8.grow e9 (ha9.elim (fun h => .inr ⟨_, h ▸ hl.l⟩) .inl) hL9
          rw [← ring_line] at hG
          exact ⟨G, a', d.ring b, rfl, eG, DG, ring_deeds ok.nd b, ring_keep ok.nd hqd (by unfold isWtg; cases em : q.2.md with | rdy s => rfl | slp s => rfl | wtg s => rw [em] at hrd; cases hrd), hG⟩
        · exact ⟨F, a, d, rfl, Ex.refl F, D4.ex e5, .refl, hqd, qs, hl, hL⟩
      · rintro σ' H5 ⟨G, a', d', rfl, eG, D5, dd, hqd', hLn⟩
        obtain ⟨ok', hpa, hro, hno⟩ := dd.ok ok
        have h60' := ok'.len60
        have hg := Dk.get_of ok'.nd hqd'
        obtain ⟨l, ps, DD, ff⟩ := id D5
        obtain ⟨dx, hp⟩ := DD.ob
        have ht : H5 q.1 = some (.tup (cvt q.2)) := (eG.trans D5.fr) _ _ (hl.t q hq)
        refine q_dmeth (vs := [.str q.2.nm, .str b]) (ev_var rfl) hp rfl (ea_cons (ev_t0 (ev_var rfl) ht) (ea_cons (ev_var rfl) ea_nil)) fun H6 e6 => ?_
        refine ⟨G, p, d', q.2.nm, b, rfl, D5.ex e6, ok'.wf, by omega, fun e he => ?_, fun c' _ hc' H7 D7 => ?_⟩
        · unfold waitErr at he
          rw [hg] at he
          dsimp only at he
          rw [if_neg (by rw [hb]; decide), if_pos hrd] at he
          cases he
        · rw [hg] at hc'
          cases hc'
          have ht7 : H7 q.1 = some (.tup (cvt q.2)) := (eG.trans D7.fr) _ _ (hl.t q hq)
          refine s_retN (cv_L_put (md := .wtg b) (ea_cons (ev_var rfl) (ea_cons (ev_t0 (ev_var rfl) ht7) (ea_cons (ev_t1 (ev_var rfl) ht7) (ea_cons ev_c (ea_cons (ev_var rfl) ea_nil))))) (hLn.ex D7.fr) (by omega)) fun a2 H8 ha2 e8 hL8 => ?_
          obtain ⟨G2, eG2, D8, hL2⟩ := D7.grow e8 (.inl ha2) hL8
          exact k G2 a2 H8 _ (eG.trans eG2) D8 (dd.step (.away q.2 (.wtg b) hqd' hrd rfl hb)) hL2
    · have D2 := D1.ex e2
      clear D1 e2
      have w0 := mix_nonneg (c := c) (p := 10093) (m := 3) (by decide)
      have w1 := mix_lt (c := c) (p := 10093) (m := 3) (by decide)
      have w2 := of_decide_eq_false hb
      have x0 := mix_nonneg (c := c) (p := 10103) (m := 9) (by decide)
      have x1 := mix_lt (c := c) (p := 10103) (m := 9) (by decide)
      have y0 := mix_nonneg (c := c) (p := 10111) (m := 1000) (by decide)
      have y1 := mix_lt (c := c) (p := 10111) (m := 1000) (by decide)
      obtain ⟨m, hm, m0, m1⟩ : ∃ m : Int, (match (mix c 10093 3 - 1).toNat with | 0 => V.int (1 + mix c 10103 9) | _ => V.int (1 + mix c 10111 1000)) = V.int m ∧ 1 ≤ m ∧ m ≤ 1000 := by
        split
        · exact ⟨_, rfl, by omega, by omega⟩
        · exact ⟨_, rfl, by omega, by omega⟩
      refine q_asg (v := .int m) ?h fun H3 e3 => ?_
      case h =>
        refine' ev_opL1 (xs := [.int (1 + mix c 10103 9), .int (1 + mix c 10111 1000)]) (el_lst ?a ?z) (fun H1 e1 => ?i) (fun p H1 h e => rv_ixL (sq_of h) ?x)
        case a => tm_at "rr.ev"
        case z => show 2 ≤ 100000; decide
        case i => exact ev_op (ev_var rfl) ev_c rv_I0
        case x => rw [pick2 (by omega) (by omega), hm]
      have D3 := D2.ex e3
      clear D2 e3
      have hg := Dk.get_of ok.nd hqd
      obtain ⟨l, ps, DD, ff⟩ := id D3
      obtain ⟨dx, hp⟩ := DD.ob
      have ht : H3 q.1 = some (.tup (cvt q.2)) := D3.fr _ _ (hl.t q hq)
      refine q_dmeth (vs := [.str q.2.nm, .int m]) (ev_var rfl) hp rfl (ea_cons (ev_t0 (ev_var rfl) ht) (ea_cons (ev_var rfl) ea_nil)) fun H6 e6 => ?_
      refine ⟨F, p, d, q.2.nm, m, rfl, D3.ex e6, ok.wf, fun e he => ?_, fun c' _ hc' H7 D7 => ?_⟩
      · unfold sleepErr at he
        rw [hg] at he
        dsimp only at he
        rw [if_neg (by omega), if_pos hrd] at he
        cases he
      · rw [hg] at hc'
        cases hc'
        have ht7 : H7 q.1 = some (.tup (cvt q.2)) := D7.fr _ _ (hl.t q hq)
        refine s_retN (cv_L_put (md := .slp (d.now + m)) (ea_cons (ev_var rfl) (ea_cons (ev_t0 (ev_var rfl) ht7) (ea_cons (ev_t1 (ev_var rfl) ht7) (ea_cons ev_c (ea_cons (ev_op (ev_var rfl) (ev_var rfl) rv_I0) ea_nil))))) (⟨qs, hl.ex D7.fr, hL⟩ : LineAt H7 a d.line) (by omega)) fun a2 H8 ha2 e8 hL8 => ?_
        obtain ⟨G2, eG2, D8, hL2⟩ := D7.grow e8 (.inl ha2) hL8
        exact k G2 a2 H8 _ eG2 D8 (.one (.away q.2 (.slp (d.now + m)) hqd hrd rfl ⟨by omega, by omega⟩)) hL2
/-! ### desk_rerank -/
theorem sc_desk_rerank : FnScope ["self", "name", "rank", "caller"] ["self", "name", "rank"] (defScope s_desk_rerank) := ⟨rfl, rfl, rfl, by decide +kernel, rfl, by decide +kernel, by decide +kernel⟩
def sp_desk_rerank (K : PySem.W.Frag) : Sp := fun vs H Q E => ∃ (F : Hp) (p : Addr) (d : Dk) (nm : Str) (rk : Int), vs = [.ref p, .str nm, .int rk] ∧ DeskAt K F H p d ∧ d.Wf ∧
  (∀ e, rerankErr d nm rk = some e → ∀ H', Ex H H' → E (.ref (He.ga K e)) none H') ∧ (rerankErr d nm rk = none → ∀ H', DeskAt K F H' p (d.setRk nm rk) → Q .non H')
theorem ok_desk_rerank {P : Program} {w : World} {K : PySem.W.Frag} {mg : Str → Option Value} {base : Heap} (T : Txt K mg) : ∃ fd, FnOk P w K mg base (L2.CX P w) 2 (He.ma K (He.ga K "Desk") "rerank") fd ["self", "name", "rank"] (sp_desk_rerank K) ∧ Binds K fd ["self", "name", "rank"] [] ∧ FunD K "rerank" "Desk.rerank" (defArgs s_desk_rerank) (defBody s_desk_rerank) (defScope s_desk_rerank) [] [] (He.ma K (He.ga K "Desk") "rerank") fd := by
  obtain ⟨fd, F⟩ := f_desk_rerank T
  obtain ⟨d_desk_one, G_desk_one, b_desk_one, _⟩ := ok_desk_one (P := P) (w := w) (base := base) T
  obtain ⟨t_TOP, hk_TOP⟩ := k_TOP T
  refine ⟨fd, okX F sc_desk_rerank (fun vs H Q E h => ?_) (fun cdv A outer s H vs Q E hr h => ?_), FunD.bindsN F fun _ _ _ _ _ _ us hl => match us, hl with | [_, _, _], _ => rfl, F⟩
  · (repeat (obtain ⟨_, h⟩ := h)); subst_vars; rfl
  · obtain ⟨F, p, d, nm, rk, rfl, ⟨l, ps, D, f⟩, W, kE, k⟩ := h
    refine ⟨_, (pss_cons (ps_set (i := 3) sc_desk_rerank.nd rfl (Or.inl rfl) (pe_meth (pv 0) (c_Desk T) (m_desk_one T) G_desk_one (hr.mono (by decide)) b_desk_one .nil (passes_call (takes_of rfl rfl rfl rfl) (fun _ _ _ _ h => h)) (pa_cons (pv 1) pa_nil)))
        (pss_cons (ps_if (PW.pt (pw_or (pt_cmpR op_lt (pv 2) pe_int (nomark _)) (pw_or1 (pt_cmpR op_gt (pv 2) (pe_glob (v := .int 99) rfl hk_TOP ⟨_, rfl⟩) (nomark _))))) (pss_one (ps_raise rfl (takes_of rfl rfl rfl rfl) (pmk_own PySem.F.excBase_ValueError (x_NoRank T).1 (g_NoRank T) (x_NoRank T).2.1 (raises_own (x_NoRank T).2.2.1 (x_NoRank T).2.2.2) rfl)))
        pss_nil)
        (pss_cons (ps_if (pt_cmpR op_eq (pe_fldK (K := K) rfl (pv 3) rfl) pe_str (nomark _)) (pss_one (ps_raise rfl (takes_of rfl rfl rfl rfl) (pmk_own PySem.F.excBase_ValueError (x_IsReady T).1 (g_IsReady T) (x_IsReady T).2.1 (raises_own (x_IsReady T).2.2.1 (x_IsReady T).2.2.2) rfl)))
        pss_nil)
        (pss_one (ps_fld (pv 3) (pv 2) rfl))))), ?_⟩
    unfold rerankErr at kE k
    obtain ⟨dx, hp⟩ := D.ob
    refine q_meth (ev_var rfl) hp rfl (ea_cons (ev_var rfl) ea_nil) fun H1 e1 => ?_
    refine ⟨p, d, l, ps, nm, rfl, D.ex e1, fun q hq hn H2 e2 => ?_, fun hn H2 e2 => kE _ (by rw [D.get_none hn]) H2 (e1.trans e2)⟩
    subst hn
    rw [D.get_of W hq] at kE k
    dsimp only at kE k
    have e12 := e1.trans e2
    refine' q_when ?h (fun hb H3 e3 => ?_) (fun hb H3 e3 => ?_)
    case h => tm_at "rr.ev"
    · exact kE _ (if_pos (by simpa using hb)) H3 (e12.trans e3)
    have n1 : ¬ (rk < 0 ∨ 99 < rk) := by simpa using hb
    rw [if_neg n1] at kE k
    have e13 := e12.trans e3
    refine q_when (b := q.2.md.isR) ?h (fun hb H4 e4 => ?_) (fun hb H4 e4 => ?_)
    case h =>
      rw [← st_ready, ← decV]
      exact et_test (ev_op (ev_stand T (ev_var rfl) ((D.at_ q hq).ex e13)) ev_c (rv_eq rfl))
    · exact kE _ (if_pos hb) H4 (e13.trans e4)
    rw [if_neg (by rw [hb]; decide)] at k
    have e14 := e13.trans e4
    have D4 := D.ex e14
    have f4 := f.mono e14
    obtain ⟨dc, hc⟩ := D4.at_ q hq
    refine s_fld (ev_var rfl) (ev_var rfl) hc (c_Caller T) (n_Caller_grade T) (by show 4 < 1000; decide) fun H5 e5 => ?_
    have D5 := D4.ex e5
    have f5 := f4.mono e5
    have hc5 := e5 _ _ hc
    have ca : ∀ {b o}, b ≠ q.1 → H5 b = some o → upd H5 q.1 (.ins (aC K) dc (putF "grade" (.int rk) (cfs q.2))) b = some o := fun hb ho => by rw [upd_ne hb]; exact ho
    obtain ⟨dp, hp5⟩ := D5.ob
    have nd := D.nd W.nd
    refine k rfl _ ⟨l, ps.map fun r => if r.2.nm = q.2.nm then (r.1, ⟨r.2.nm, rk, r.2.md⟩) else r, ⟨⟨dp, ca (ne_of hp5 hc5 ins_ne) hp5⟩, ?_, ?_, fun r hr => ?_⟩, ⟨fun b o hb => ca (fun e => by have := f.c0 q hq; rw [← e, hb] at this; cases this) (f5.ex _ _ hb), f.p0, f.l0, fun r hr => ?_⟩⟩
    · rw [ca (ne_of D5.ln hc5 (by intro z; cases z)) D5.ln, List.map_map]
      congr 2
      apply List.map_congr_left
      intro r _
      show _ = V.ref (if r.2.nm = q.2.nm then (r.1, (⟨r.2.nm, rk, r.2.md⟩ : Cl)) else r).1
      split <;> rfl
    · show d.line.map _ = _
      rw [D.eq, List.map_map, List.map_map]
      apply List.map_congr_left
      intro r _
      show (if r.2.nm = q.2.nm then (⟨r.2.nm, rk, r.2.md⟩ : Cl) else r.2) = (if r.2.nm = q.2.nm then (r.1, (⟨r.2.nm, rk, r.2.md⟩ : Cl)) else r).2
      split <;> rfl
    · obtain ⟨r0, h0, e0⟩ := List.mem_map.mp hr
      by_cases c : r0.2.nm = q.2.nm
      · rw [if_pos c] at e0
        have e9 : r0 = q := nodup_pr nd h0 hq c
        rw [← e0, e9]
        exact ⟨dc, upd_same⟩
      · rw [if_neg c] at e0
        rw [← e0]
        obtain ⟨dr, h⟩ := D5.at_ r0 h0
        exact ⟨dr, ca (fun e => c (D5.mem_nm h0 hq e)) h⟩
    · obtain ⟨r0, h0, e0⟩ := List.mem_map.mp hr
      have e9 : r.1 = r0.1 := by rw [← e0]; split <;> rfl
      rw [e9]
      exact f.c0 r0 h0
/-! ### desk_wake -/
theorem sc_desk_wake : FnScope ["self", "name", "caller"] ["self", "name"] (defScope s_desk_wake) := ⟨rfl, rfl, rfl, by decide +kernel, rfl, by decide +kernel, by decide +kernel⟩
def sp_desk_wake (K : PySem.W.Frag) : Sp := fun vs H Q E => ∃ (F : Hp) (p : Addr) (d : Dk) (nm : Str), vs = [.ref p, .str nm] ∧ DeskAt K F H p d ∧ d.Wf ∧
  (∀ e, wakeErr d nm = some e → ∀ H', Ex H H' → E (.ref (He.ga K e)) none H') ∧ (∀ c, wakeErr d nm = none → d.get nm = some c → ∀ H', DeskAt K F H' p (d.put ⟨c.nm, c.rk, .rdy d.now⟩) → Q .non H')
theorem ok_desk_wake {P : Program} {w : World} {K : PySem.W.Frag} {mg : Str → Option Value} {base : Heap} (T : Txt K mg) : ∃ fd, FnOk P w K mg base (L2.CX P w) 2 (He.ma K (He.ga K "Desk") "wake") fd ["self", "name"] (sp_desk_wake K) ∧ Binds K fd ["self", "name"] [] ∧ FunD K "wake" "Desk.wake" (defArgs s_desk_wake) (defBody s_desk_wake) (defScope s_desk_wake) [] [] (He.ma K (He.ga K "Desk") "wake") fd := by
  obtain ⟨fd, F⟩ := f_desk_wake T
  obtain ⟨d_desk_one, G_desk_one, b_desk_one, _⟩ := ok_desk_one (P := P) (w := w) (base := base) T
  obtain ⟨d_desk_become, G_desk_become, b_desk_become, _⟩ := ok_desk_become (P := P) (w := w) (base := base) T
  refine ⟨fd, okX F sc_desk_wake (fun vs H Q E h => ?_) (fun cdv A outer s H vs Q E hr h => ?_), FunD.bindsN F fun _ _ _ _ _ _ us hl => match us, hl with | [_, _], _ => rfl, F⟩
  · (repeat (obtain ⟨_, h⟩ := h)); subst_vars; rfl
  · obtain ⟨F, p, d, nm, rfl, ⟨l, ps, D, f⟩, W, kE, k⟩ := h
    refine ⟨_, (pss_cons (ps_set (i := 2) sc_desk_wake.nd rfl (Or.inl rfl) (pe_meth (pv 0) (c_Desk T) (m_desk_one T) G_desk_one (hr.mono (by decide)) b_desk_one .nil (passes_call (takes_of rfl rfl rfl rfl) (fun _ _ _ _ h => h)) (pa_cons (pv 1) pa_nil)))
        (pss_cons (ps_if (pt_cmpR op_eq (pe_fldK (K := K) rfl (pv 2) rfl) pe_str (nomark _)) (pss_one (ps_raise rfl (takes_of rfl rfl rfl rfl) (pmk_own PySem.F.excBase_ValueError (x_IsReady T).1 (g_IsReady T) (x_IsReady T).2.1 (raises_own (x_IsReady T).2.2.1 (x_IsReady T).2.2.2) rfl)))
        pss_nil)
        (pss_one (ps_expr (pe_meth (pv 0) (c_Desk T) (m_desk_become T) G_desk_become (hr.mono (by decide)) b_desk_become .nil pass0 (pa_cons (pv 2) (pa_cons pe_str (pa_cons (pe_fldK (K := K) rfl (pv 0) rfl) pa_nil)))))))), ?_⟩
    unfold wakeErr at kE k
    obtain ⟨dx, hp⟩ := D.ob
    refine q_meth (ev_var rfl) hp rfl (ea_cons (ev_var rfl) ea_nil) fun H1 e1 => ?_
    refine ⟨p, d, l, ps, nm, rfl, D.ex e1, fun q hq hn H2 e2 => ?_, fun hn H2 e2 => kE _ (by rw [D.get_none hn]) H2 (e1.trans e2)⟩
    subst hn
    rw [D.get_of W hq] at kE k
    dsimp only at kE k
    have e12 := e1.trans e2
    refine q_when (b := q.2.md.isR) ?h (fun hb H3 e3 => ?_) (fun hb H3 e3 => ?_)
    case h =>
      rw [← st_ready, ← decV]
      exact et_test (ev_op (ev_stand T (ev_var rfl) ((D.at_ q hq).ex e12)) ev_c (rv_eq rfl))
    · exact kE _ (if_pos hb) H3 (e12.trans e3)
    have e13 := e12.trans e3
    have D3 := D.ex e13
    refine s_dmeth (ev_var rfl) (e13 _ _ hp) rfl (ea_cons (ev_var rfl) (ea_cons ev_c (ea_cons (ev_now T (ev_var rfl) D3) ea_nil))) fun H6 e6 => ?_
    exact ⟨F, p, d, l, ps, q, .rdy d.now, rfl, D3.ex e6, f.mono (e13.trans e6), hq, W, fun H7 l7 D7 f7 => k q.2 (if_neg (by rw [hb]; decide)) rfl H7 ⟨l7, _, D7, f7⟩⟩
/-! ### L_woken -/
theorem sc_L_woken : FnScope ["_law_desk", "_law_line", "_law_now", "_law_one_here", "_law_cell", "_law_way", "_law_bell", "_law_rank", "_law_other"] ["_law_desk", "_law_line", "_law_now", "_law_one_here", "_law_cell"] (defScope s_L_woken) := ⟨rfl, rfl, rfl, by decide +kernel, rfl, by decide +kernel, by decide +kernel⟩
def sp_L_woken (K : PySem.W.Frag) : Sp := fun vs H Q _ => ∃ (F : Hp) (p : Addr) (d : Dk) (a : Addr) (qs : List Pr) (q : Pr) (c : Int), vs = [.ref p, .ref a, .int d.now, .ref q.1, .int c] ∧ DeskAt K F H p d ∧ d.Ok ∧ LnAt F a qs ∧ qs.map (·.2) = d.line ∧ q ∈ qs ∧ q.2.md.isR = false ∧ RetDL K F p d Q
theorem ok_L_woken {P : Program} {w : World} {K : PySem.W.Frag} {mg : Str → Option Value} {base : Heap} (T : Txt K mg) : ∃ fd, FnOk P w K mg base (CX0) 4 (He.ga K "_law_woken") fd ["_law_desk", "_law_line", "_law_now", "_law_one_here", "_law_cell"] (sp_L_woken K) ∧ Binds K fd ["_law_desk", "_law_line", "_law_now", "_law_one_here", "_law_cell"] [] ∧ FunD K "_law_woken" "_law_woken" (defArgs s_L_woken) (defBody s_L_woken) (defScope s_L_woken) [] [] (He.ga K "_law_woken") fd := by
  obtain ⟨fd, F⟩ := f_L_woken T
  obtain ⟨d_L_mix, G_L_mix, b_L_mix, _⟩ := ok_L_mix (P := P) (w := w) (base := base) T
  obtain ⟨d_L_bell_by, G_L_bell_by, b_L_bell_by, _⟩ := ok_L_bell_by (P := P) (w := w) (base := base) T
  obtain ⟨d_desk_ring, G_desk_ring, b_desk_ring, _⟩ := ok_desk_ring (P := P) (w := w) (base := base) T
  obtain ⟨d_L_rung, G_L_rung, b_L_rung, _⟩ := ok_L_rung (P := P) (w := w) (base := base) T
  obtain ⟨d_L_rank_by, G_L_rank_by, b_L_rank_by, _⟩ := ok_L_rank_by (P := P) (w := w) (base := base) T
  obtain ⟨d_desk_rerank, G_desk_rerank, b_desk_rerank, _⟩ := ok_desk_rerank (P := P) (w := w) (base := base) T
  obtain ⟨d_desk_wake, G_desk_wake, b_desk_wake, _⟩ := ok_desk_wake (P := P) (w := w) (base := base) T
  obtain ⟨d_L_put, G_L_put, b_L_put, _⟩ := ok_L_put (P := P) (w := w) (base := base) T
  refine ⟨fd, ok0 F sc_L_woken (fun vs H Q E h => ?_) (fun cdv A outer s H vs Q E hr h => ?_), FunD.bindsN F fun _ _ _ _ _ _ us hl => match us, hl with | [_, _, _, _, _], _ => rfl, F⟩
  · (repeat (obtain ⟨_, h⟩ := h)); subst_vars; rfl
  · obtain ⟨F, p, d, a, qs, q, c, rfl, D, ok, hl, hL, hq, hrd, k⟩ := h
    refine ⟨_, (pss_cons (ps_set (i := 5) sc_L_woken.nd rfl (Or.inl rfl) (pe_call G_L_mix (hr.mono (by decide)) rfl (g_L_mix T) (kp_L_mix T) b_L_mix .nil pass0 (pa_cons (pv 4) (pa_cons pe_int (pa_cons pe_int pa_nil)))))
        (pss_cons (ps_if (pt_cmpR op_eq (pv 5) pe_int (nomark _)) (pss_cons (ps_set (i := 6) sc_L_woken.nd rfl (Or.inl rfl) (pe_call G_L_bell_by (hr.mono (by decide)) rfl (g_L_bell_by T) (kp_L_bell_by T) b_L_bell_by .nil pass0 (pa_cons (pv 1) (pa_cons (pv 3) (pa_cons (pv 4) pa_nil)))))
        (pss_cons (ps_if (PW.pt (pw_and (pt_cmpR op_eq (pe_ix (ix_tupK (K := K) rfl) (pv 3) pe_int (fun _ _ => rfl)) pe_str (nomark _)) (pw_and1 (pt_cmpR op_eq (pe_call G_L_mix (hr.mono (by decide)) rfl (g_L_mix T) (kp_L_mix T) b_L_mix .nil pass0 (pa_cons (pv 4) (pa_cons pe_int (pa_cons pe_int pa_nil)))) pe_int (nomark _))))) (pss_one (ps_set (i := 6) sc_L_woken.nd rfl (Or.inl rfl) (pe_ix (ix_tupK (K := K) rfl) (pv 3) pe_int (fun _ _ => rfl))))
        pss_nil)
        (pss_cons (ps_expr (pe_meth (pv 0) (c_Desk T) (m_desk_ring T) G_desk_ring (hr.mono (by decide)) b_desk_ring .nil passL (pa_cons (pv 6) pa_nil)))
        (pss_one (ps_ret (pe_call G_L_rung (hr.mono (by decide)) rfl (g_L_rung T) (kp_L_rung T) b_L_rung .nil pass0 (pa_cons (pv 1) (pa_cons (pv 2) (pa_cons (pv 6) pa_nil)))))))))
        pss_nil)
        (pss_cons (ps_if (pt_cmpR op_eq (pv 5) pe_int (nomark _)) (pss_cons (ps_set (i := 7) sc_L_woken.nd rfl (Or.inr rfl) (pe_call G_L_rank_by (hr.mono (by decide)) rfl (g_L_rank_by T) (kp_L_rank_by T) b_L_rank_by .nil pass0 (pa_cons (pv 4) pa_nil)))
        (pss_cons (ps_expr (pe_meth (pv 0) (c_Desk T) (m_desk_rerank T) G_desk_rerank (hr.mono (by decide)) b_desk_rerank .nil passL (pa_cons (pe_ix (ix_tupK (K := K) rfl) (pv 3) pe_int (fun _ _ => rfl)) (pa_cons (pv 7) pa_nil))))
        (pss_one (ps_ret (pe_lc (own := [("_law_other", 8)]) (g := gName 8) (tt := tYes) rfl sc_L_woken.nd (pi_listK (K := K) rfl (pv 1)) (blkOk_by (own := [("_law_other", 8)]) (N := ["_law_desk", "_law_line", "_law_now", "_law_one_here", "_law_cell", "_law_way", "_law_bell", "_law_rank", "_law_other"]) (sc := defScope s_L_woken) (by decide +kernel)) (fun _ _ _ _ _ => (pg_name (i := 8) sc_L_woken.nd rfl (Or.inl rfl))) (fun _ _ _ _ _ => pts_nil) (fun _ _ _ _ _ => (pe_ix (ix_listK (K := K) rfl) (pe_lst (pa_cons (pv 8) (pa_cons (pe_tup (pa_cons (pe_ix (ix_tupK (K := K) rfl) (pv 3) pe_int (fun _ _ => rfl)) (pa_cons (pv 7) (pa_cons (pe_ix (ix_tupK (K := K) rfl) (pv 3) pe_int (fun _ _ => rfl)) (pa_cons (pe_ix (ix_tupK (K := K) rfl) (pv 3) pe_int (fun _ _ => rfl)) pa_nil))))) pa_nil))) (pe_callTy call_int1 rfl (b_int T) (by decide +kernel) (pa_cons (pe_cmpR op_eq (pe_ix (ix_tupK (K := K) rfl) (pv 8) pe_int (fun _ _ => rfl)) (pe_ix (ix_tupK (K := K) rfl) (pv 3) pe_int (fun _ _ => rfl)) (nomark _)) pa_nil)) (fun _ _ => rfl))))))))
        pss_nil)
        (pss_cons (ps_expr (pe_meth (pv 0) (c_Desk T) (m_desk_wake T) G_desk_wake (hr.mono (by decide)) b_desk_wake .nil passL (pa_cons (pe_ix (ix_tupK (K := K) rfl) (pv 3) pe_int (fun _ _ => rfl)) pa_nil)))
        (pss_one (ps_ret (pe_call G_L_put (hr.mono (by decide)) rfl (g_L_put T) (kp_L_put T) b_L_put .nil pass0 (pa_cons (pv 1) (pa_cons (pe_ix (ix_tupK (K := K) rfl) (pv 3) pe_int (fun _ _ => rfl)) (pa_cons (pe_ix (ix_tupK (K := K) rfl) (pv 3) pe_int (fun _ _ => rfl)) (pa_cons pe_str (pa_cons (pv 2) pa_nil)))))))))))), ?_⟩
    have hqd : q.2 ∈ d.line := by rw [← hL]; exact List.mem_map.mpr ⟨q, hq, rfl⟩
    have hnm : ∀ r ∈ qs, isName r.2.nm = true := fun r hr => (ok.cl r.2 (by rw [← hL]; exact List.mem_map.mpr ⟨r, hr, rfl⟩)).1
    have h60 := ok.len60
    have hg := Dk.get_of ok.nd hqd
    have hq60 : qs.length ≤ 60 := by rw [← List.length_map (f := fun q : Pr => q.2), hL]; exact h60
    refine' q_asg (v := .int (mix c 10093 3)) ?h fun H1 e1 => ?_
    case h => tm_at "rr.ev"
    have D1 := D.ex e1
    clear e1 D
    refine q_when (b := decide (mix c 10093 3 = 0)) (et_mix0 (ev_var rfl)) (fun hb H2 e2 => ?_) (fun hb H2 e2 => ?_)
    · have D2 := D1.ex e2
      clear D1 e2
      refine q_call (vs := [.ref a, .ref q.1, .int c]) (ea_cons (ev_var rfl) (ea_cons (ev_var rfl) (ea_cons (ev_var rfl) ea_nil))) fun H3 e3 => ⟨a, qs, q, c, rfl, hl.ex (D2.fr.trans e3), hq, hnm, fun b hb H4 e4 => ?_⟩
      have D4 := D2.ex (e3.trans e4)
      clear D2 e3 e4
      have ht : H4 q.1 = some (.tup (cvt q.2)) := D4.fr _ _ (hl.t q hq)
      obtain ⟨b2, hb2, hv1, hv2⟩ : ∃ b2, isName b2 = true ∧ ((q.2.md.isW && decide (mix c 10211 2 = 0)) = true → q.2.md.mark = .str b2) ∧ ((q.2.md.isW && decide (mix c 10211 2 = 0)) = false → b2 = b) := by
        cases hx : (q.2.md.isW && decide (mix c 10211 2 = 0)) with
        | false => exact ⟨b, hb, fun h => (by cases h), fun _ => rfl⟩
        | true =>
          rw [Bool.and_eq_true] at hx
          obtain ⟨s, hs⟩ : ∃ s, q.2.md = .wtg s := by
            have := hx.1
            cases em : q.2.md with
            | rdy s => rw [em] at this; cases this
            | slp s => rw [em] at this; cases this
            | wtg s => exact ⟨s, rfl⟩
          have := (ok.cl q.2 hqd).2.2.2
          rw [hs] at this
          exact ⟨s, this, fun _ => by rw [hs]; rfl, fun h => (by cases h)⟩
      refine q_ifAsg (b := q.2.md.isW && decide (mix c 10211 2 = 0)) (v := .str b2) ?h5 (fun hx => ev_is (ev_t3 (ev_var rfl) ht) (hv1 hx)) (fun hx => by rw [hv2 hx]; rfl) fun H5 e5 => ?_
      case h5 =>
        rw [← st_waiting, ← decV]
        refine' et_and (et_test (ev_op (ev_t2 (ev_var rfl) ht) ev_c (rv_eq rfl))) fun _ => et_mix0 ?_
        tm_at "rr.ev"
      have D5 := D4.ex e5
      obtain ⟨l, ps, DD, ff⟩ := id D5
      obtain ⟨dx, hp⟩ := DD.ob
      have hbl := (isName_len hb2).2
      refine q_dmeth (vs := [.str b2]) (ev_var rfl) hp rfl (ea_cons (ev_var rfl) ea_nil) fun H6 e6 => ?_
      refine ⟨F, p, d, b2, rfl, D5.ex e6, ok.wf, by omega, fun h => (by rw [hb2] at h; cases h), fun _ r H7 hr7 D7 => ?_⟩
      have D7 := D7.sub (upd_sub hr7)
      refine s_retC (vs := [.ref a, .int d.now, .str b2]) (ea_cons (ev_var rfl) (ea_cons (ev_var rfl) (ea_cons (ev_var rfl) ea_nil))) fun H8 e8 => ⟨a, d.line, d.now, b2, rfl, ⟨qs, hl.ex (D7.fr.trans e8), hL⟩, by omega, fun a' H9 ha9 e9 hL9 => ?_⟩
      have D8 := D7.ex e8
      obtain ⟨G, eG, DG, hG⟩ := D8.grow e9 (ha9.elim (fun h => .inr ⟨_, h ▸ hl.l⟩) .inl) hL9
      rw [← ring_line] at hG
      exact k G a' H9 _ eG DG (ring_deeds ok.nd b2) hG
    refine q_when (b := decide (mix c 10093 3 = 1)) (et_mix0 (ev_var rfl)) (fun hb3 H3 e3 => ?_) (fun hb3 H3 e3 => ?_)
    · have D3 := (D1.ex e2).ex e3
      clear D1 e2 e3
      refine' q_asg (v := .int (rankBy c)) ?h fun H4 e4 => ?_
      case h => tm_at "rr.ev"
      have D4 := D3.ex e4
      clear D3 e4
      have hrk := rankBy_ok c
      obtain ⟨l, ps, DD, ff⟩ := id D4
      obtain ⟨dx, hp⟩ := DD.ob
      have ht : H4 q.1 = some (.tup (cvt q.2)) := D4.fr _ _ (hl.t q hq)
      refine q_dmeth (vs := [.str q.2.nm, .int (rankBy c)]) (ev_var rfl) hp rfl (ea_cons (ev_t0 (ev_var rfl) ht) (ea_cons (ev_var rfl) ea_nil)) fun H6 e6 => ?_
      refine ⟨F, p, d, q.2.nm, rankBy c, rfl, D4.ex e6, ok.wf, fun e he => ?_, fun _ H7 D7 => ?_⟩
      · unfold rerankErr at he
        rw [hg] at he
        dsimp only at he
        rw [if_neg (by omega), if_neg (by rw [hrd]; decide)] at he
        cases he
      · have hl7 := hl.ex D7.fr
        refine s_retN (en_lcT (K := K) (fun o => if decide (o.2.nm = q.2.nm) = true then ⟨q.2.nm, rankBy c, q.2.md⟩ else o.2) (ev_var rfl) hl7 (by omega) (fun _ => rfl) fun o ho H8 e8 => ?_) fun a2 H8 ha2 e8 hL8 => ?_
        · have key : cvt (if decide (o.2.nm = q.2.nm) = true then (⟨q.2.nm, rankBy c, q.2.md⟩ : Cl) else o.2) = if decide (o.2.nm = q.2.nm) = true then cvt ⟨q.2.nm, rankBy c, q.2.md⟩ else cvt o.2 := by split <;> rfl
          rw [key]
          have hq8 := e8 _ _ (hl7.t q hq)
          have ho8 := e8 _ _ (hl7.t o ho)
          refine eu_pick (ev_var rfl) ho8 (ea_cons (ev_t0 (ev_var rfl) hq8) (ea_cons (ev_var rfl) (ea_cons (ev_t2 (ev_var rfl) hq8) (ea_cons (ev_t3 (ev_var rfl) hq8) ea_nil)))) (by show 4 ≤ 100000; decide) fun H9 e9 => ?_
          refine ev_cb (ea_cons ?_ ea_nil) rc_int_bl
          rw [← decV]
          exact ev_op (ev_t0 (ev_var rfl) (e9 _ _ ho8)) (ev_t0 (ev_var rfl) (e9 _ _ hq8)) (rv_eq rfl)
        · have e9 : (qs.map fun o : Pr => if decide (o.2.nm = q.2.nm) = true then (⟨q.2.nm, rankBy c, q.2.md⟩ : Cl) else o.2) = (d.setRk q.2.nm (rankBy c)).line := by
            rw [setRk_line ok.nd hqd, ← hL, List.map_map]
            rfl
          rw [e9] at hL8
          obtain ⟨G, eG, DG, hG⟩ := D7.grow e8 (.inl ha2) hL8
          exact k G a2 H8 _ eG DG (.one (.rerk q.2 (rankBy c) hqd hrd hrk)) hG
    · have D3 := (D1.ex e2).ex e3
      clear D1 e2 e3
      obtain ⟨l, ps, DD, ff⟩ := id D3
      obtain ⟨dx, hp⟩ := DD.ob
      have ht : H3 q.1 = some (.tup (cvt q.2)) := D3.fr _ _ (hl.t q hq)
      refine q_dmeth (vs := [.str q.2.nm]) (ev_var rfl) hp rfl (ea_cons (ev_t0 (ev_var rfl) ht) ea_nil) fun H6 e6 => ?_
      refine ⟨F, p, d, q.2.nm, rfl, D3.ex e6, ok.wf, fun e he => ?_, fun c' _ hc' H7 D7 => ?_⟩
      · unfold wakeErr at he
        rw [hg] at he
        dsimp only at he
        rw [if_neg (by rw [hrd]; decide)] at he
        cases he
      · rw [hg] at hc'
        cases hc'
        have ht7 : H7 q.1 = some (.tup (cvt q.2)) := D7.fr _ _ (hl.t q hq)
        refine s_retN (cv_L_put (md := .rdy d.now) (ea_cons (ev_var rfl) (ea_cons (ev_t0 (ev_var rfl) ht7) (ea_cons (ev_t1 (ev_var rfl) ht7) (ea_cons ev_c (ea_cons (ev_var rfl) ea_nil))))) (⟨qs, hl.ex D7.fr, hL⟩ : LineAt H7 a d.line) (by omega)) fun a2 H8 ha2 e8 hL8 => ?_
        obtain ⟨G2, eG2, D8, hL2⟩ := D7.grow e8 (.inl ha2) hL8
        exact k G2 a2 H8 _ eG2 D8 (.one (.back q.2 hqd hrd)) hL2
/-! ### L_done -/
theorem sc_L_done : FnScope ["_law_desk", "_law_line", "_law_now", "_law_cell", "_law_shift", "_law_name", "_law_way", "_law_rank", "_law_one_here", "_law_other"] ["_law_desk", "_law_line", "_law_now", "_law_cell", "_law_shift"] (defScope s_L_done) := ⟨rfl, rfl, rfl, by decide +kernel, rfl, by decide +kernel, by decide +kernel⟩
def sp_L_done (K : PySem.W.Frag) : Sp := fun vs H Q _ => ∃ (F : Hp) (p : Addr) (d : Dk) (a : Addr) (c s : Int), vs = [.ref p, .ref a, .int d.now, .int c, .int s] ∧ DeskAt K F H p d ∧ d.Ok ∧ LineAt F a d.line ∧ RetDL K F p d Q
theorem ok_L_done {P : Program} {w : World} {K : PySem.W.Frag} {mg : Str → Option Value} {base : Heap} (T : Txt K mg) : ∃ fd, FnOk P w K mg base (CX0) 5 (He.ga K "_law_done") fd ["_law_desk", "_law_line", "_law_now", "_law_cell", "_law_shift"] (sp_L_done K) ∧ Binds K fd ["_law_desk", "_law_line", "_law_now", "_law_cell", "_law_shift"] [] ∧ FunD K "_law_done" "_law_done" (defArgs s_L_done) (defBody s_L_done) (defScope s_L_done) [] [] (He.ga K "_law_done") fd := by
  obtain ⟨fd, F⟩ := f_L_done T
  obtain ⟨d_L_name_by, G_L_name_by, b_L_name_by, _⟩ := ok_L_name_by (P := P) (w := w) (base := base) T
  obtain ⟨d_L_mix, G_L_mix, b_L_mix, _⟩ := ok_L_mix (P := P) (w := w) (base := base) T
  obtain ⟨d_L_rank_by, G_L_rank_by, b_L_rank_by, _⟩ := ok_L_rank_by (P := P) (w := w) (base := base) T
  obtain ⟨d_desk_enter, G_desk_enter, b_desk_enter, _⟩ := ok_desk_enter (P := P) (w := w) (base := base) T
  obtain ⟨d_desk_leave, G_desk_leave, b_desk_leave, _⟩ := ok_desk_leave (P := P) (w := w) (base := base) T
  obtain ⟨d_L_slept, G_L_slept, b_L_slept, _⟩ := ok_L_slept (P := P) (w := w) (base := base) T
  obtain ⟨d_L_woken, G_L_woken, b_L_woken, _⟩ := ok_L_woken (P := P) (w := w) (base := base) T
  refine ⟨fd, ok0 F sc_L_done (fun vs H Q E h => ?_) (fun cdv A outer s H vs Q E hr h => ?_), FunD.bindsN F fun _ _ _ _ _ _ us hl => match us, hl with | [_, _, _, _, _], _ => rfl, F⟩
  · (repeat (obtain ⟨_, h⟩ := h)); subst_vars; rfl
  · obtain ⟨F, p, d, a, c, s', rfl, D, ok, ⟨qs, hl, hL⟩, k⟩ := h
    refine ⟨_, (pss_cons (ps_set (i := 5) sc_L_done.nd rfl (Or.inl rfl) (pe_call G_L_name_by (hr.mono (by decide)) rfl (g_L_name_by T) (kp_L_name_by T) b_L_name_by .nil pass0 (pa_cons (pe_call G_L_mix (hr.mono (by decide)) rfl (g_L_mix T) (kp_L_mix T) b_L_mix .nil pass0 (pa_cons (pv 3) (pa_cons pe_int (pa_cons (pe_op op_add pe_int (pe_fldK (K := K) rfl (pv 0) rfl)) pa_nil)))) (pa_cons (pv 4) pa_nil))))
        (pss_cons (ps_set (i := 6) sc_L_done.nd rfl (Or.inl rfl) (pe_call G_L_mix (hr.mono (by decide)) rfl (g_L_mix T) (kp_L_mix T) b_L_mix .nil pass0 (pa_cons (pv 3) (pa_cons pe_int (pa_cons pe_int pa_nil)))))
        (pss_cons (ps_if (PW.pt (pw_and (pt_cmpR op_lt (pv 6) pe_int (nomark _)) (pw_and (pt_cmpR op_lt (pe_callB (call_lenK (K := K) rfl) rfl (b_len T) (by decide +kernel) (pa_cons (pv 1) pa_nil)) (pe_fldK (K := K) rfl (pv 0) rfl) (nomark _)) (pw_and1 (pt_cmpR (op_notInK (K := K) rfl) (pv 5) (pe_lc (own := [("_law_one_here", 8)]) (g := gName 8) (tt := tYes) rfl sc_L_done.nd (pi_listK (K := K) rfl (pv 1)) (blkOk_by (own := [("_law_one_here", 8)]) (N := ["_law_desk", "_law_line", "_law_now", "_law_cell", "_law_shift", "_law_name", "_law_way", "_law_rank", "_law_one_here", "_law_other"]) (sc := defScope s_L_done) (by decide +kernel)) (fun _ _ _ _ _ => (pg_name (i := 8) sc_L_done.nd rfl (Or.inl rfl))) (fun _ _ _ _ _ => pts_nil) (fun _ _ _ _ _ => (pe_ix (ix_tupK (K := K) rfl) (pv 8) pe_int (fun _ _ => rfl)))) (by with_unfolding_all rfl)))))) (pss_cons (ps_set (i := 7) sc_L_done.nd rfl (Or.inl rfl) (pe_call G_L_rank_by (hr.mono (by decide)) rfl (g_L_rank_by T) (kp_L_rank_by T) b_L_rank_by .nil pass0 (pa_cons (pv 3) pa_nil)))
        (pss_cons (ps_expr (pe_meth (pv 0) (c_Desk T) (m_desk_enter T) G_desk_enter (hr.mono (by decide)) b_desk_enter .nil passL (pa_cons (pv 5) (pa_cons (pv 7) pa_nil))))
        (pss_one (ps_ret (pe_op op_cat (pv 1) (pe_lst (pa_cons (pe_tup (pa_cons (pv 5) (pa_cons (pv 7) (pa_cons pe_str (pa_cons (pv 2) pa_nil))))) pa_nil)))))))
        pss_nil)
        (pss_cons (ps_if (pt_cmpR (op_eqK (K := K) rfl hr.units) (pv 1) (pe_lst pa_nil) (nomark _)) (pss_one (ps_ret (pv 1)))
        pss_nil)
        (pss_cons (ps_set (i := 8) sc_L_done.nd rfl (Or.inr rfl) (pe_ix (ix_listK (K := K) rfl) (pv 1) (pe_call G_L_mix (hr.mono (by decide)) rfl (g_L_mix T) (kp_L_mix T) b_L_mix .nil pass0 (pa_cons (pv 3) (pa_cons pe_int (pa_cons (pe_callB (call_lenK (K := K) rfl) rfl (b_len T) (by decide +kernel) (pa_cons (pv 1) pa_nil)) pa_nil)))) (fun _ _ => rfl)))
        (pss_cons (ps_if (PW.pt (pw_and (pt_cmpR op_eq (pv 6) pe_int (nomark _)) (pw_and1 (pt_cmpR op_eq (pe_call G_L_mix (hr.mono (by decide)) rfl (g_L_mix T) (kp_L_mix T) b_L_mix .nil pass0 (pa_cons (pv 3) (pa_cons pe_int (pa_cons pe_int pa_nil)))) pe_int (nomark _))))) (pss_cons (ps_expr (pe_meth (pv 0) (c_Desk T) (m_desk_leave T) G_desk_leave (hr.mono (by decide)) b_desk_leave .nil passL (pa_cons (pe_ix (ix_tupK (K := K) rfl) (pv 8) pe_int (fun _ _ => rfl)) pa_nil)))
        (pss_one (ps_ret (pe_lc (own := [("_law_other", 9)]) (g := gName 9) rfl sc_L_done.nd (pi_listK (K := K) rfl (pv 1)) (blkOk_by (own := [("_law_other", 9)]) (N := ["_law_desk", "_law_line", "_law_now", "_law_cell", "_law_shift", "_law_name", "_law_way", "_law_rank", "_law_one_here", "_law_other"]) (sc := defScope s_L_done) (by decide +kernel)) (fun _ _ _ _ _ => (pg_name (i := 9) sc_L_done.nd rfl (Or.inl rfl))) (fun _ _ _ _ _ => pts_one (pt_cmpR op_ne (pe_ix (ix_tupK (K := K) rfl) (pv 9) pe_int (fun _ _ => rfl)) (pe_ix (ix_tupK (K := K) rfl) (pv 8) pe_int (fun _ _ => rfl)) (nomark _))) (fun _ _ _ _ _ => (pv 9))))))
        pss_nil)
        (pss_cons (ps_if (pt_cmpR op_eq (pe_ix (ix_tupK (K := K) rfl) (pv 8) pe_int (fun _ _ => rfl)) pe_str (nomark _)) (pss_one (ps_ret (pe_call G_L_slept (hr.mono (by decide)) rfl (g_L_slept T) (kp_L_slept T) b_L_slept .nil pass0 (pa_cons (pv 0) (pa_cons (pv 1) (pa_cons (pv 2) (pa_cons (pv 8) (pa_cons (pv 3) pa_nil))))))))
        pss_nil)
        (pss_one (ps_ret (pe_call G_L_woken (hr.mono (by decide)) rfl (g_L_woken T) (kp_L_woken T) b_L_woken .nil pass0 (pa_cons (pv 0) (pa_cons (pv 1) (pa_cons (pv 2) (pa_cons (pv 8) (pa_cons (pv 3) pa_nil))))))))))))))), ?_⟩
    have h60 := ok.len60
    have hq60 : qs.length = d.line.length := by rw [← List.length_map (f := fun q : Pr => q.2), hL]
    have hr1 := ok.r1
    have hr2 := ok.r2
    have m0 := mix_nonneg (c := c) (p := 10133) (m := 2 + d.room) (by omega)
    have m1 := mix_lt (c := c) (p := 10133) (m := 2 + d.room) (by omega)
    have hnm := nameBy_ok (k := mix c 10133 (2 + d.room)) (c := s') m0 (by omega)
    have hnz := zz_name (k := mix c 10133 (2 + d.room)) (c := s') m0 (by omega)
    obtain ⟨l, ps, DD, ff⟩ := id D
    refine' q_asg (v := .str (nameBy (mix c 10133 (2 + d.room)) s')) (ev_call (ea_cons (ev_call (ea_cons (ev_var rfl) (ea_cons ev_c (ea_cons (ev_op ev_c (ev_room T (ev_var rfl) DD) rv_I0) ea_nil))) (cv_L_mix (by decide) (by omega))) (ea_cons (ev_var rfl) ea_nil)) (cv_L_name_by m0 (by omega))) fun H1 e1 => ?_
    generalize nameBy (mix c 10133 (2 + d.room)) s' = nm at *
    refine' q_asg (v := .int (mix c 10139 5)) ?h fun H2 e2 => ?_
    case h => tm_at "rr.ev"
    have D2 := D.ex (e1.trans e2)
    clear DD ff D e1 e2
    obtain ⟨l, ps, DD, ff⟩ := id D2
    obtain ⟨dx, hp⟩ := DD.ob
    have hl2 := hl.ex D2.fr
    refine q_when (b := decide (mix c 10139 5 < 2) && (decide ((d.line.length : Int) < d.room) && !decide (nm ∈ d.line.map (·.nm)))) ?h3 (fun hb H3 e3 => ?_) (fun hb H3 e3 => ?_)
    case h3 =>
      refine et_and (et_test (ev_op (ev_var rfl) ev_c rv_I0)) fun _ => et_and ?_ fun _ => ?_
      · refine et_is (et_test (ev_op (ev_cb (ea_cons (ev_var rfl) ea_nil) (rc_lenS (sq_of hl2.l))) (ev_room T (ev_var rfl) DD) rv_I0)) ?_
        rw [List.length_map, hq60]
      · have hgv : (qs.filter fun _ => true).map (fun q : Pr => V.str q.2.nm) = d.line.map fun c => V.str c.nm := by
          rw [filter_true, ← hL, List.map_map]
          rfl
        rw [← inV_names, ← hgv]
        refine et_test (ev_opL (ev_var rfl) (el_lcM (K := K) (ps := qs) (uu := fun q => V.ref q.1) (fun _ => true) (fun q => V.str q.2.nm) (ev_var rfl) (sq_of hl2.l) (by omega) (fun _ => rfl) (fun _ _ _ _ => et_yes) fun q hq H1 e1 _ => ev_t0 (ev_var rfl) (e1 _ _ (hl2.t q hq))) fun r H1 h e => ?_)
        rw [hgv] at h ⊢
        exact rv_niL (sq_of h) rfl (flat_names _)
    · rw [Bool.and_eq_true, Bool.and_eq_true] at hb
      obtain ⟨hb1, hb2, hb3⟩ := hb
      have hb2 := of_decide_eq_true hb2
      have hb3 : nm ∉ d.line.map (·.nm) := by simpa using hb3
      have D3 := D2.ex e3
      refine' q_asg (v := .int (rankBy c)) ?h fun H4 e4 => ?_
      case h => tm_at "rr.ev"
      have D4 := D3.ex e4
      have hrk := rankBy_ok c
      refine q_dmeth (vs := [.str nm, .int (rankBy c)]) (ev_var rfl) ((e3.trans e4) _ _ hp) rfl (ea_cons (ev_var rfl) (ea_cons (ev_var rfl) ea_nil)) fun H6 e6 => ?_
      have hnl := (isName_len hnm).2
      refine ⟨F, p, d, nm, rankBy c, rfl, D4.ex e6, ok.wf, by omega, fun e he => ?_, fun _ H7 D7 => ?_⟩
      · unfold enterErr at he
        rw [if_neg (by rw [hnm]; decide), if_neg (by omega), if_neg hb3, if_neg (by omega)] at he
        cases he
      · refine s_retN (en_snocV (c := ⟨nm, rankBy c, .rdy d.now⟩) rfl (hl.ex D7.fr) (ea_cons (ev_var rfl) (ea_cons (ev_var rfl) (ea_cons ev_c (ea_cons (ev_var rfl) ea_nil)))) (by omega)) fun a2 H8 ha2 e8 hL8 => ?_
        rw [hL] at hL8
        obtain ⟨G, eG, DG, hG⟩ := D7.grow e8 (.inl ha2) hL8
        exact k G a2 H8 _ eG DG (.one (.enter nm (rankBy c) hnm hrk hb3 hb2 hnz)) hG
    have D3 := D2.ex e3
    refine q_when (b := qs.isEmpty) (et_test (ev_eqNil (ev_var rfl) (hl2.ex e3) fun q hq => ok.cl q.2 (by rw [← hL]; exact List.mem_map.mpr ⟨q, hq, rfl⟩))) (fun hb4 H4 e4 => ?_) (fun hb4 H4 e4 => ?_)
    · exact s_ret (ev_var rfl) fun H5 e5 => k F a H5 d (Ex.refl F) (D3.ex (e4.trans e5)) .refl ⟨qs, hl, hL⟩
    have D4 := D3.ex e4
    have hne : 0 < qs.length := by
      cases qs with
      | nil => cases hb4
      | cons q qs => rw [List.length_cons]; omega
    have n0 := mix_nonneg (c := c) (p := 10141) (m := (qs.length : Int)) (by omega)
    have n1 := mix_lt (c := c) (p := 10141) (m := (qs.length : Int)) (by omega)
    obtain ⟨q, hqq⟩ : ∃ q, qs[(mix c 10141 (qs.length : Int)).toNat]? = some q := ⟨_, List.getElem?_eq_getElem (by omega)⟩
    have hq := List.mem_of_getElem? hqq
    have hl4 := hl.ex D4.fr
    have hqd : q.2 ∈ d.line := by rw [← hL]; exact List.mem_map.mpr ⟨q, hq, rfl⟩
    have hll : ((qs.map fun q => V.ref q.1).length : Int) = (qs.length : Int) := by rw [List.length_map]
    refine q_asg (v := .ref q.1) (ev_op (ev_var rfl) (ev_is (ev_call (ea_cons (ev_var rfl) (ea_cons ev_c (ea_cons (ev_cb (ea_cons (ev_var rfl) ea_nil) (rc_lenS (sq_of hl4.l))) ea_nil))) (cv_L_mix (by decide) (by rw [hll]; omega))) (by rw [hll])) (rv_ixL (sq_of hl4.l) (at_of (j := (mix c 10141 (qs.length : Int)).toNat) (by omega) (by rw [List.getElem?_map, hqq]; rfl)))) fun H5 e5 => ?_
    have D5 := D4.ex e5
    have hl5 := hl.ex D5.fr
    have hp5 := (e3.trans (e4.trans e5)) _ _ hp
    clear D2 D3 D4 e3 e4 e5 hl2 hl4 DD ff
    refine q_when (b := decide (mix c 10139 5 = 4) && decide (mix c 10151 3 = 0)) ?h6 (fun hb6 H6 e6 => ?_) (fun hb6 H6 e6 => ?_)
    case h6 =>
      refine' et_and (et_mix0 (ev_var rfl)) fun _ => et_mix0 ?_
      tm_at "rr.ev"
    · have D6 := D5.ex e6
      refine q_dmeth (vs := [.str q.2.nm]) (ev_var rfl) (e6 _ _ hp5) rfl (ea_cons (ev_t0 (ev_var rfl) ((hl5.ex e6).t q hq)) ea_nil) fun H7 e7 => ?_
      refine ⟨F, p, d, q.2.nm, rfl, D6.ex e7, ok.wf, fun h => (by rw [Dk.get_of ok.nd hqd] at h; cases h), fun _ _ H8 D8 => ?_⟩
      have hl8 := hl.ex D8.fr
      refine s_retN (en_of_el (qs := qs.filter fun o => !decide (o.2.nm = q.2.nm)) (el_lcM (K := K) (ps := qs) (uu := fun q => V.ref q.1) (fun o => !decide (o.2.nm = q.2.nm)) (fun o => V.ref o.1) (ev_var rfl) (sq_of hl8.l) (by omega) (fun _ => rfl) (fun o ho H9 e9 => ?_) fun o ho H9 e9 _ => ev_var rfl) fun o ho => hl8.t o (List.mem_filter.mp ho).1) fun a2 H9 ha2 e9 hL9 => ?_
      · rw [← decV]
        exact et_test (ev_op (ev_t0 (ev_var rfl) (e9 _ _ (hl8.t o ho))) (ev_t0 (ev_var rfl) (e9 _ _ (hl8.t q hq))) (rv_ne rfl))
      · have e10 : (qs.filter fun o => !decide (o.2.nm = q.2.nm)).map (·.2) = (d.leave q.2.nm).line := by
          show _ = d.line.filter _
          rw [← hL, List.filter_map]
          rfl
        rw [e10] at hL9
        obtain ⟨G, eG, DG, hG⟩ := D8.grow e9 (.inl ha2) hL9
        exact k G a2 H9 _ eG DG (.one (.leave q.2.nm)) hG
    refine q_when (b := q.2.md.isR) ?h7 (fun hb7 H7 e7 => ?_) (fun hb7 H7 e7 => ?_)
    case h7 =>
      rw [← st_ready, ← decV]
      exact et_test (ev_op (ev_t2 (ev_var rfl) ((hl5.ex e6).t q hq)) ev_c (rv_eq rfl))
    · refine s_retC (vs := [.ref p, .ref a, .int d.now, .ref q.1, .int c]) (ea_cons (ev_var rfl) (ea_cons (ev_var rfl) (ea_cons (ev_var rfl) (ea_cons (ev_var rfl) (ea_cons (ev_var rfl) ea_nil))))) fun H8 e8 => ?_
      exact ⟨F, p, d, a, qs, q, c, rfl, D5.ex ((e6.trans e7).trans e8), ok, hl, hL, hq, hb7, k⟩
    · refine s_retC (vs := [.ref p, .ref a, .int d.now, .ref q.1, .int c]) (ea_cons (ev_var rfl) (ea_cons (ev_var rfl) (ea_cons (ev_var rfl) (ea_cons (ev_var rfl) (ea_cons (ev_var rfl) ea_nil))))) fun H8 e8 => ?_
      exact ⟨F, p, d, a, qs, q, c, rfl, D5.ex ((e6.trans e7).trans e8), ok, hl, hL, hq, hb7, k⟩
/-! ### L_texts -/
theorem sc_L_texts : FnScope ["_law_found", "_law_due", "_law_k"] ["_law_found", "_law_due"] (defScope s_L_texts) := ⟨rfl, rfl, rfl, by decide +kernel, rfl, by decide +kernel, by decide +kernel⟩
theorem ev_callLL {σ : L2.St} {H : Hp} {ta tb : TE} {sp : Sp} {E : XK} {xs ys : List V} {z : V} (h1 : EvL ta σ H xs) (h2 : EvL tb σ H ys) (hs : ∀ p q H1, Ex H H1 → H1 p = some (.lst xs) → H1 q = some (.lst ys) → SpV sp ([.ref p, .ref q] ++ []) H1 z) : Ev (tCall sp [] E (tCons ta (tCons tb tNil))) σ H z := fun H1 e Q k =>
  h1 H1 e _ fun p H2 hp e2 hp2 => h2 H2 (e.trans e2) _ fun q H3 hq e3 hq3 => hs p q H3 ((e.trans e2).trans e3) (e3 _ _ hp2) hq3 H3 (Ex.refl H3) Q (fun H4 e4 => k H4 ((e2.trans e3).trans e4)) E
theorem rc_isi_str {K : PySem.W.Frag} {H : Hp} {s : Str} : RC (rIsi K) [.str s, .ty "str"] H (.bl true) := rc_isi (t' := .non) (.ty _) (fun H1 e => .base (.str s)) (kit_ty (by decide +kernel))
def sp_L_texts (_ : PySem.W.Frag) : Sp := fun vs H Q _ => ∃ (a b : Addr) (xs : List (Option Str)), vs = [.ref a, .ref b] ∧ H a = some (.lst (xs.map optS)) ∧ H b = some (.lst (xs.map optS)) ∧ xs.length ≤ 1000 ∧ RetV (.bl true) H Q
theorem ok_L_texts {P : Program} {w : World} {K : PySem.W.Frag} {mg : Str → Option Value} {base : Heap} (T : Txt K mg) : ∃ fd, FnOk P w K mg base (CX0) 1 (He.ga K "_law_texts") fd ["_law_found", "_law_due"] (sp_L_texts K) ∧ Binds K fd ["_law_found", "_law_due"] [] ∧ FunD K "_law_texts" "_law_texts" (defArgs s_L_texts) (defBody s_L_texts) (defScope s_L_texts) [] [] (He.ga K "_law_texts") fd := by
  obtain ⟨fd, F⟩ := f_L_texts T
  refine ⟨fd, ok0 F sc_L_texts (fun vs H Q E h => ?_) (fun cdv A outer s H vs Q E hr h => ?_), FunD.bindsN F fun _ _ _ _ _ _ us hl => match us, hl with | [_, _], _ => rfl, F⟩
  · (repeat (obtain ⟨_, h⟩ := h)); subst_vars; rfl
  · obtain ⟨a, b, xs, rfl, ha, hb0, hz, k⟩ := h
    refine ⟨_, (pss_cons (ps_if (PW.pt (pw_or (pt_not (pt_val (pe_callB (call_isiK' (K := K) rfl) rfl (b_isinstance T) (by decide +kernel) (pa_cons (pv 0) (pa_cons (pe_bltn (v := .ty "list") rfl (b_list T) (by decide +kernel) rfl) pa_nil))))) (pw_or1 (pt_cmpR op_ne (pe_callB (call_lenK (K := K) rfl) rfl (b_len T) (by decide +kernel) (pa_cons (pv 0) pa_nil)) (pe_callB (call_lenK (K := K) rfl) rfl (b_len T) (by decide +kernel) (pa_cons (pv 1) pa_nil)) (nomark _))))) (pss_one (ps_ret pe_bl))
        pss_nil)
        (pss_cons (ps_for PassesOwn.never rfl (pi_range1 rfl (b_range T) (pa_cons (pe_callB (call_lenK (K := K) rfl) rfl (b_len T) (by decide +kernel) (pa_cons (pv 1) pa_nil)) pa_nil)) (pg_name (i := 2) sc_L_texts.nd rfl (Or.inl rfl))
        (pss_one (ps_if (pt_cmpR op_isN (pe_ix (ix_listK (K := K) rfl) (pv 1) (pv 2) (fun _ _ => rfl)) pe_non (nomark _)) (pss_one (ps_if (pt_cmpR op_notN (pe_ix (ix_listK (K := K) rfl) (pv 0) (pv 2) (fun _ _ => rfl)) pe_non (nomark _)) (pss_one (ps_ret pe_bl))
        pss_nil))
        (pss_one (ps_if (PW.pt (pw_or (pt_not (pt_val (pe_callB (call_isiK' (K := K) rfl) rfl (b_isinstance T) (by decide +kernel) (pa_cons (pe_ix (ix_listK (K := K) rfl) (pv 0) (pv 2) (fun _ _ => rfl)) (pa_cons (pe_bltn (v := .ty "str") rfl (b_str T) (by decide +kernel) rfl) pa_nil))))) (pw_or1 (pt_cmpR op_ne (pe_ix (ix_listK (K := K) rfl) (pv 0) (pv 2) (fun _ _ => rfl)) (pe_ix (ix_listK (K := K) rfl) (pv 1) (pv 2) (fun _ _ => rfl)) (nomark _))))) (pss_one (ps_ret pe_bl))
        pss_nil)))))
        (pss_one (ps_ret pe_bl)))), ?_⟩
    have la : ((xs.map optS).length : Int) = (xs.length : Int) := by rw [List.length_map]
    refine q_when (b := false) ?h1 (fun hb H4 e4 => by cases hb) (fun hb H1 e1 => ?_)
    case h1 =>
      refine et_is (et_or (a := false) (b := false) (et_is (et_not (et_B (ev_cb (ea_cons (ev_var rfl) (ea_cons ev_c ea_nil)) (rc_isi_list ha)))) rfl) fun _ => et_is (et_test (ev_op (ev_cb (ea_cons (ev_var rfl) ea_nil) (rc_lenS (sq_of ha))) (ev_cb (ea_cons (ev_var rfl) ea_nil) (rc_lenS (sq_of hb0))) (rv_ne rfl))) (by simp)) rfl
    refine q_forR1 (n := ((xs.map optS).length : Int)) (ea_cons (ev_cb (ea_cons (ev_var rfl) ea_nil) (rc_lenS (sq_of (e1 _ _ hb0)))) ea_nil) (by rw [la]; omega)
      (fun i σ' H' => Ex H H' ∧ ∃ v, σ' = [some (.ref a), some (.ref b), v]) (fun H2 e2 => ⟨e1.trans e2, none, rfl⟩) ?_ ?_
    · rintro i σ' H' hi ⟨e2, v, rfl⟩
      rw [la] at hi
      obtain ⟨x, hx⟩ : ∃ x, xs[i]? = some x := ⟨_, List.getElem?_eq_getElem (by omega)⟩
      have hat : atI (xs.map optS) (i : Int) = some (optS x) := at_of rfl (by rw [List.getElem?_map, hx]; rfl)
      have fa : ∀ {H3}, Ex H' H3 → Ev (tOp (rIxL K) (tVar 0) (tVar 2)) [some (.ref a), some (.ref b), some (.int (i : Int))] H3 (optS x) := fun e => ev_op (ev_var rfl) (ev_var rfl) (rv_ixL (sq_of ((e2.trans e) _ _ ha)) hat)
      have fb : ∀ {H3}, Ex H' H3 → Ev (tOp (rIxL K) (tVar 1) (tVar 2)) [some (.ref a), some (.ref b), some (.int (i : Int))] H3 (optS x) := fun e => ev_op (ev_var rfl) (ev_var rfl) (rv_ixL (sq_of ((e2.trans e) _ _ hb0)) hat)
      cases x with
      | none =>
        refine s_if (b := true) (et_is (et_test (ev_op (fb (Ex.refl _)) ev_c rv_isN)) rfl) (fun _ H3 e3 => ?_) (fun h => by cases h)
        exact s_when (b := false) (et_is (et_test (ev_op (fa e3) ev_c rv_notN)) rfl) (fun h => by cases h) (fun _ H4 e4 => ⟨e2.trans (e3.trans e4), _, rfl⟩)
      | some s =>
        refine s_if (b := false) (et_is (et_test (ev_op (fb (Ex.refl _)) ev_c rv_isN)) rfl) (fun h => by cases h) (fun _ H3 e3 => ?_)
        refine s_when (b := false) (et_is (et_or (a := false) (b := false) (et_is (et_not (et_B (ev_cb (ea_cons (fa e3) (ea_cons ev_c ea_nil)) rc_isi_str))) rfl) fun _ => et_is (et_test (ev_op (fa e3) (fb e3) (rv_ne rfl))) (by simp)) rfl) (fun h => by cases h) (fun _ H4 e4 => ⟨e2.trans (e3.trans e4), _, rfl⟩)
    · rintro σ' H' ⟨e2, v, rfl⟩
      exact s_ret ev_c fun H3 e3 => k H3 (e2.trans e3)
/-! ### L_whole -/
theorem sc_L_whole : FnScope ["_law_found"] ["_law_found"] (defScope s_L_whole) := ⟨rfl, rfl, rfl, by decide +kernel, rfl, by decide +kernel, by decide +kernel⟩
def sp_L_whole (_ : PySem.W.Frag) : Sp := fun vs H Q _ => ∃ (i : Int), vs = [.int i] ∧ RetV (.bl true) H Q
theorem cv_L_whole {K : PySem.W.Frag} {H : Hp} {i : Int} : SpV (sp_L_whole K) ([.int i] ++ []) H (.bl true) := spv_call fun _ _ _ _ k => ⟨i, rfl, k⟩
local macro_rules | `(tactic| tm_at "rr.cv") => `(tactic| exact cv_L_whole)
theorem ok_L_whole {P : Program} {w : World} {K : PySem.W.Frag} {mg : Str → Option Value} {base : Heap} (T : Txt K mg) : ∃ fd, FnOk P w K mg base (CX0) 1 (He.ga K "_law_whole") fd ["_law_found"] (sp_L_whole K) ∧ Binds K fd ["_law_found"] [] ∧ FunD K "_law_whole" "_law_whole" (defArgs s_L_whole) (defBody s_L_whole) (defScope s_L_whole) [] [] (He.ga K "_law_whole") fd := by
  obtain ⟨fd, F⟩ := f_L_whole T
  refine ⟨fd, ok0 F sc_L_whole (fun vs H Q E h => ?_) (fun cdv A outer s H vs Q E hr h => ?_), FunD.bindsN F fun _ _ _ _ _ _ us hl => match us, hl with | [_], _ => rfl, F⟩
  · (repeat (obtain ⟨_, h⟩ := h)); subst_vars; rfl
  · obtain ⟨i, rfl, k⟩ := h
    refine ⟨_, (pss_one (ps_ret (pe_and (pe_callB (call_isiK' (K := K) rfl) rfl (b_isinstance T) (by decide +kernel) (pa_cons (pv 0) (pa_cons (pe_bltn (v := .ty "int") rfl (b_int T) (by decide +kernel) rfl) pa_nil))) (pe_one (pe_not (pe_callB (call_isiK' (K := K) rfl) rfl (b_isinstance T) (by decide +kernel) (pa_cons (pv 0) (pa_cons (pe_bltn (v := .ty "bool") rfl (b_bool T) (by decide +kernel) rfl) pa_nil)))))))), ?_⟩
    exact s_ret (ev_andV (ev_cb (ea_cons (ev_var rfl) (ea_cons ev_c ea_nil)) rc_isi_int) fun _ => ev_notV (ev_cb (ea_cons (ev_var rfl) (ea_cons ev_c ea_nil)) rc_isi_int_bool)) k
/-! ### desk_rank -/
theorem sc_desk_rank : FnScope ["self", "name"] ["self", "name"] (defScope s_desk_rank) := ⟨rfl, rfl, rfl, by decide +kernel, rfl, by decide +kernel, by decide +kernel⟩
def sp_desk_rank (K : PySem.W.Frag) : Sp := fun vs H Q E => ∃ (p : Addr) (d : Dk) (l : Addr) (ps : List Pr) (nm : Str), vs = [.ref p, .str nm] ∧ DkAt K H p d l ps ∧ d.Wf ∧ (d.get nm = none → ∀ H', Ex H H' → E (.ref (He.ga K "Unknown")) none H') ∧ ∀ c, d.get nm = some c → RetV (.int c.rk) H Q
theorem cv_rank {K : PySem.W.Frag} {H : Hp} {p l : Addr} {d : Dk} {ps : List Pr} {c : Cl} {nm : Str} (h : DkAt K H p d l ps) (W : d.Wf) (hc : d.get nm = some c) : SpV (sp_desk_rank K) (.ref p :: ([.str nm] ++ [])) H (.int c.rk) :=
  spv_meth fun _ e _ _ k => ⟨p, d, l, ps, nm, rfl, h.ex e, W, fun hn => (by rw [hn] at hc; cases hc), fun c' h' => by rw [hc] at h'; cases h'; exact k⟩
theorem ok_desk_rank {P : Program} {w : World} {K : PySem.W.Frag} {mg : Str → Option Value} {base : Heap} (T : Txt K mg) : ∃ fd, FnOk P w K mg base (L2.CX P w) 2 (He.ma K (He.ga K "Desk") "rank") fd ["self", "name"] (sp_desk_rank K) ∧ Binds K fd ["self", "name"] [] ∧ FunD K "rank" "Desk.rank" (defArgs s_desk_rank) (defBody s_desk_rank) (defScope s_desk_rank) [] [] (He.ma K (He.ga K "Desk") "rank") fd := by
  obtain ⟨fd, F⟩ := f_desk_rank T
  obtain ⟨d_desk_one, G_desk_one, b_desk_one, _⟩ := ok_desk_one (P := P) (w := w) (base := base) T
  refine ⟨fd, okX F sc_desk_rank (fun vs H Q E h => ?_) (fun cdv A outer s H vs Q E hr h => ?_), FunD.bindsN F fun _ _ _ _ _ _ us hl => match us, hl with | [_, _], _ => rfl, F⟩
  · (repeat (obtain ⟨_, h⟩ := h)); subst_vars; rfl
  · obtain ⟨p, d, l, ps, nm, rfl, D, W, kE, k⟩ := h
    refine ⟨_, (pss_one (ps_ret (pe_fldK (K := K) rfl (pe_meth (pv 0) (c_Desk T) (m_desk_one T) G_desk_one (hr.mono (by decide)) b_desk_one .nil (passes_call (takes_of rfl rfl rfl rfl) (fun _ _ _ _ h => h)) (pa_cons (pv 1) pa_nil)) rfl))), ?_⟩
    obtain ⟨dx, hp⟩ := D.ob
    refine ⟨_, rfl, p, dx, _, rfl, hp, rfl, _, rfl, p, d, l, ps, nm, rfl, D, fun q hq hn H1 e1 => ?_, fun hn H1 e1 => kE (D.get_none hn) H1 e1⟩
    subst hn
    obtain ⟨dc, hc⟩ := (D.at_ q hq).ex e1
    exact ⟨q.1, aC K, dc, _, _, rfl, hc, c_Caller T, n_Caller_grade T, rfl, k q.2 (D.get_of W hq) H1 e1⟩
/-! ### desk_left -/
theorem sc_desk_left : FnScope ["self", "name", "caller"] ["self", "name"] (defScope s_desk_left) := ⟨rfl, rfl, rfl, by decide +kernel, rfl, by decide +kernel, by decide +kernel⟩
def leftV (d : Dk) (c : Cl) : V := match c.md with
  | .slp t => .int (t - d.now)
  | _ => .non
def sp_desk_left (K : PySem.W.Frag) : Sp := fun vs H Q E => ∃ (p : Addr) (d : Dk) (l : Addr) (ps : List Pr) (nm : Str), vs = [.ref p, .str nm] ∧ DkAt K H p d l ps ∧ d.Wf ∧ (d.get nm = none → ∀ H', Ex H H' → E (.ref (He.ga K "Unknown")) none H') ∧ ∀ c, d.get nm = some c → RetV (leftV d c) H Q
theorem cv_left {K : PySem.W.Frag} {H : Hp} {p l : Addr} {d : Dk} {ps : List Pr} {c : Cl} {nm : Str} (h : DkAt K H p d l ps) (W : d.Wf) (hc : d.get nm = some c) : SpV (sp_desk_left K) (.ref p :: ([.str nm] ++ [])) H (leftV d c) :=
  spv_meth fun _ e _ _ k => ⟨p, d, l, ps, nm, rfl, h.ex e, W, fun hn => (by rw [hn] at hc; cases hc), fun c' h' => by rw [hc] at h'; cases h'; exact k⟩
theorem ok_desk_left {P : Program} {w : World} {K : PySem.W.Frag} {mg : Str → Option Value} {base : Heap} (T : Txt K mg) : ∃ fd, FnOk P w K mg base (L2.CX P w) 2 (He.ma K (He.ga K "Desk") "left") fd ["self", "name"] (sp_desk_left K) ∧ Binds K fd ["self", "name"] [] ∧ FunD K "left" "Desk.left" (defArgs s_desk_left) (defBody s_desk_left) (defScope s_desk_left) [] [] (He.ma K (He.ga K "Desk") "left") fd := by
  obtain ⟨fd, F⟩ := f_desk_left T
  obtain ⟨d_desk_one, G_desk_one, b_desk_one, _⟩ := ok_desk_one (P := P) (w := w) (base := base) T
  refine ⟨fd, okX F sc_desk_left (fun vs H Q E h => ?_) (fun cdv A outer s H vs Q E hr h => ?_), FunD.bindsN F fun _ _ _ _ _ _ us hl => match us, hl with | [_, _], _ => rfl, F⟩
  · (repeat (obtain ⟨_, h⟩ := h)); subst_vars; rfl
  · obtain ⟨p, d, l, ps, nm, rfl, D, W, kE, k⟩ := h
    refine ⟨_, (pss_cons (ps_set (i := 2) sc_desk_left.nd rfl (Or.inl rfl) (pe_meth (pv 0) (c_Desk T) (m_desk_one T) G_desk_one (hr.mono (by decide)) b_desk_one .nil (passes_call (takes_of rfl rfl rfl rfl) (fun _ _ _ _ h => h)) (pa_cons (pv 1) pa_nil)))
        (pss_cons (ps_if (pt_cmpR op_eq (pe_fldK (K := K) rfl (pv 2) rfl) pe_str (nomark _)) (pss_one (ps_ret (pe_op op_sub (pe_fldK (K := K) rfl (pv 2) rfl) (pe_fldK (K := K) rfl (pv 0) rfl))))
        pss_nil)
        (pss_one (ps_ret pe_non)))), ?_⟩
    obtain ⟨dx, hp⟩ := D.ob
    refine q_meth (ev_var rfl) hp rfl (ea_cons (ev_var rfl) ea_nil) fun H1 e1 => ?_
    refine ⟨p, d, l, ps, nm, rfl, D.ex e1, fun q hq hn H2 e2 => ?_, fun hn H2 e2 => kE (D.get_none hn) H2 (e1.trans e2)⟩
    subst hn
    have k := k q.2 (D.get_of W hq)
    have e12 := e1.trans e2
    have C2 := (D.at_ q hq).ex e12
    unfold leftV at k
    refine q_when (b := q.2.md.isS) ?h (fun hb H3 e3 => ?_) (fun hb H3 e3 => ?_)
    case h =>
      rw [← st_asleep, ← decV]
      exact et_test (ev_op (ev_stand T (ev_var rfl) C2) ev_c (rv_eq rfl))
    · obtain ⟨t, ht⟩ : ∃ t, q.2.md = .slp t := by
        cases em : q.2.md with
        | rdy s => rw [em] at hb; cases hb
        | slp s => exact ⟨s, rfl⟩
        | wtg s => rw [em] at hb; cases hb
      rw [ht] at k
      have e13 := e12.trans e3
      have hm := ev_mark (ta := tVar 2) (σ := [some (.ref p), some (.str q.2.nm), some (.ref q.1)]) T (ev_var rfl) ((D.at_ q hq).ex e13)
      rw [ht] at hm
      exact s_ret (ev_op hm (ev_now T (ev_var rfl) (D.ex e13)) rv_I0) fun H5 e5 => k H5 (e13.trans e5)
    · refine s_ret ev_c fun H5 e5 => ?_
      have := k H5 ((e12.trans e3).trans e5)
      cases em : q.2.md with
      | rdy s => rw [em] at this; exact this
      | slp s => rw [em] at hb; cases hb
      | wtg s => rw [em] at this; exact this
/-! ### desk_bell -/
theorem sc_desk_bell : FnScope ["self", "name", "caller"] ["self", "name"] (defScope s_desk_bell) := ⟨rfl, rfl, rfl, by decide +kernel, rfl, by decide +kernel, by decide +kernel⟩
def bellV (c : Cl) : V := match c.md with
  | .wtg b => .str b
  | _ => .non
def sp_desk_bell (K : PySem.W.Frag) : Sp := fun vs H Q E => ∃ (p : Addr) (d : Dk) (l : Addr) (ps : List Pr) (nm : Str), vs = [.ref p, .str nm] ∧ DkAt K H p d l ps ∧ d.Wf ∧ (d.get nm = none → ∀ H', Ex H H' → E (.ref (He.ga K "Unknown")) none H') ∧ ∀ c, d.get nm = some c → RetV (bellV c) H Q
theorem cv_bell {K : PySem.W.Frag} {H : Hp} {p l : Addr} {d : Dk} {ps : List Pr} {c : Cl} {nm : Str} (h : DkAt K H p d l ps) (W : d.Wf) (hc : d.get nm = some c) : SpV (sp_desk_bell K) (.ref p :: ([.str nm] ++ [])) H (bellV c) :=
  spv_meth fun _ e _ _ k => ⟨p, d, l, ps, nm, rfl, h.ex e, W, fun hn => (by rw [hn] at hc; cases hc), fun c' h' => by rw [hc] at h'; cases h'; exact k⟩
theorem ok_desk_bell {P : Program} {w : World} {K : PySem.W.Frag} {mg : Str → Option Value} {base : Heap} (T : Txt K mg) : ∃ fd, FnOk P w K mg base (L2.CX P w) 2 (He.ma K (He.ga K "Desk") "bell") fd ["self", "name"] (sp_desk_bell K) ∧ Binds K fd ["self", "name"] [] ∧ FunD K "bell" "Desk.bell" (defArgs s_desk_bell) (defBody s_desk_bell) (defScope s_desk_bell) [] [] (He.ma K (He.ga K "Desk") "bell") fd := by
  obtain ⟨fd, F⟩ := f_desk_bell T
  obtain ⟨d_desk_one, G_desk_one, b_desk_one, _⟩ := ok_desk_one (P := P) (w := w) (base := base) T
  refine ⟨fd, okX F sc_desk_bell (fun vs H Q E h => ?_) (fun cdv A outer s H vs Q E hr h => ?_), FunD.bindsN F fun _ _ _ _ _ _ us hl => match us, hl with | [_, _], _ => rfl, F⟩
  · (repeat (obtain ⟨_, h⟩ := h)); subst_vars; rfl
  · obtain ⟨p, d, l, ps, nm, rfl, D, W, kE, k⟩ := h
    refine ⟨_, (pss_cons (ps_set (i := 2) sc_desk_bell.nd rfl (Or.inl rfl) (pe_meth (pv 0) (c_Desk T) (m_desk_one T) G_desk_one (hr.mono (by decide)) b_desk_one .nil (passes_call (takes_of rfl rfl rfl rfl) (fun _ _ _ _ h => h)) (pa_cons (pv 1) pa_nil)))
        (pss_cons (ps_if (pt_cmpR op_eq (pe_fldK (K := K) rfl (pv 2) rfl) pe_str (nomark _)) (pss_one (ps_ret (pe_fldK (K := K) rfl (pv 2) rfl)))
        pss_nil)
        (pss_one (ps_ret pe_non)))), ?_⟩
    obtain ⟨dx, hp⟩ := D.ob
    refine q_meth (ev_var rfl) hp rfl (ea_cons (ev_var rfl) ea_nil) fun H1 e1 => ?_
    refine ⟨p, d, l, ps, nm, rfl, D.ex e1, fun q hq hn H2 e2 => ?_, fun hn H2 e2 => kE (D.get_none hn) H2 (e1.trans e2)⟩
    subst hn
    have k := k q.2 (D.get_of W hq)
    have e12 := e1.trans e2
    have C2 := (D.at_ q hq).ex e12
    unfold bellV at k
    refine q_when (b := q.2.md.isW) ?h (fun hb H3 e3 => ?_) (fun hb H3 e3 => ?_)
    case h =>
      rw [← st_waiting, ← decV]
      exact et_test (ev_op (ev_stand T (ev_var rfl) C2) ev_c (rv_eq rfl))
    · obtain ⟨t, ht⟩ : ∃ t, q.2.md = .wtg t := by
        cases em : q.2.md with
        | rdy s => rw [em] at hb; cases hb
        | slp s => rw [em] at hb; cases hb
        | wtg s => exact ⟨s, rfl⟩
      rw [ht] at k
      have e13 := e12.trans e3
      have hm := ev_mark (ta := tVar 2) (σ := [some (.ref p), some (.str q.2.nm), some (.ref q.1)]) T (ev_var rfl) ((D.at_ q hq).ex e13)
      rw [ht] at hm
      exact s_ret hm fun H5 e5 => k H5 (e13.trans e5)
    · refine s_ret ev_c fun H5 e5 => ?_
      have := k H5 ((e12.trans e3).trans e5)
      cases em : q.2.md with
      | rdy s => rw [em] at this; exact this
      | slp s => rw [em] at this; exact this
      | wtg s => rw [em] at hb; cases hb
/-! ### desk_state -/
theorem sc_desk_state : FnScope ["self", "name"] ["self", "name"] (defScope s_desk_state) := ⟨rfl, rfl, rfl, by decide +kernel, rfl, by decide +kernel, by decide +kernel⟩
def sp_desk_state (K : PySem.W.Frag) : Sp := fun vs H Q E => ∃ (p : Addr) (d : Dk) (l : Addr) (ps : List Pr) (nm : Str), vs = [.ref p, .str nm] ∧ DkAt K H p d l ps ∧ d.Wf ∧ (d.get nm = none → ∀ H', Ex H H' → E (.ref (He.ga K "Unknown")) none H') ∧ ∀ c, d.get nm = some c → RetV (.str c.md.st) H Q
theorem cv_state {K : PySem.W.Frag} {H : Hp} {p l : Addr} {d : Dk} {ps : List Pr} {c : Cl} {nm : Str} (h : DkAt K H p d l ps) (W : d.Wf) (hc : d.get nm = some c) : SpV (sp_desk_state K) (.ref p :: ([.str nm] ++ [])) H (.str c.md.st) :=
  spv_meth fun _ e _ _ k => ⟨p, d, l, ps, nm, rfl, h.ex e, W, fun hn => (by rw [hn] at hc; cases hc), fun c' h' => by rw [hc] at h'; cases h'; exact k⟩
theorem ok_desk_state {P : Program} {w : World} {K : PySem.W.Frag} {mg : Str → Option Value} {base : Heap} (T : Txt K mg) : ∃ fd, FnOk P w K mg base (L2.CX P w) 2 (He.ma K (He.ga K "Desk") "state") fd ["self", "name"] (sp_desk_state K) ∧ Binds K fd ["self", "name"] [] ∧ FunD K "state" "Desk.state" (defArgs s_desk_state) (defBody s_desk_state) (defScope s_desk_state) [] [] (He.ma K (He.ga K "Desk") "state") fd := by
  obtain ⟨fd, F⟩ := f_desk_state T
  obtain ⟨d_desk_one, G_desk_one, b_desk_one, _⟩ := ok_desk_one (P := P) (w := w) (base := base) T
  refine ⟨fd, okX F sc_desk_state (fun vs H Q E h => ?_) (fun cdv A outer s H vs Q E hr h => ?_), FunD.bindsN F fun _ _ _ _ _ _ us hl => match us, hl with | [_, _], _ => rfl, F⟩
  · (repeat (obtain ⟨_, h⟩ := h)); subst_vars; rfl
  · obtain ⟨p, d, l, ps, nm, rfl, D, W, kE, k⟩ := h
    refine ⟨_, (pss_one (ps_ret (pe_fldK (K := K) rfl (pe_meth (pv 0) (c_Desk T) (m_desk_one T) G_desk_one (hr.mono (by decide)) b_desk_one .nil (passes_call (takes_of rfl rfl rfl rfl) (fun _ _ _ _ h => h)) (pa_cons (pv 1) pa_nil)) rfl))), ?_⟩
    obtain ⟨dx, hp⟩ := D.ob
    refine ⟨_, rfl, p, dx, _, rfl, hp, rfl, _, rfl, p, d, l, ps, nm, rfl, D, fun q hq hn H1 e1 => ?_, fun hn H1 e1 => kE (D.get_none hn) H1 e1⟩
    subst hn
    obtain ⟨dc, hc⟩ := (D.at_ q hq).ex e1
    exact ⟨q.1, aC K, dc, _, _, rfl, hc, c_Caller T, n_Caller_stand T, rfl, k q.2 (D.get_of W hq) H1 e1⟩
/-! ### desk_waited -/
theorem sc_desk_waited : FnScope ["self", "name", "caller"] ["self", "name"] (defScope s_desk_waited) := ⟨rfl, rfl, rfl, by decide +kernel, rfl, by decide +kernel, by decide +kernel⟩
def waitedErr (d : Dk) (nm : Str) : Option Str := match d.get nm with
  | none => some "Unknown"
  | some c => if c.md.isR = true then none else some "NotReady"
def sp_desk_waited (K : PySem.W.Frag) : Sp := fun vs H Q E => ∃ (p : Addr) (d : Dk) (l : Addr) (ps : List Pr) (nm : Str), vs = [.ref p, .str nm] ∧ DkAt K H p d l ps ∧ d.Wf ∧ (∀ e, waitedErr d nm = some e → ∀ H', Ex H H' → E (.ref (He.ga K e)) none H') ∧
  ∀ c, d.get nm = some c → c.md.isR = true → RetV (.int (d.now - c.md.since)) H Q
theorem cv_waited {K : PySem.W.Frag} {H : Hp} {p l : Addr} {d : Dk} {ps : List Pr} {c : Cl} {nm : Str} (h : DkAt K H p d l ps) (W : d.Wf) (hc : d.get nm = some c) (hr : c.md.isR = true) : SpV (sp_desk_waited K) (.ref p :: ([.str nm] ++ [])) H (.int (d.now - c.md.since)) :=
  spv_meth fun _ e _ _ k => ⟨p, d, l, ps, nm, rfl, h.ex e, W, fun er hn => (by unfold waitedErr at hn; rw [hc] at hn; dsimp only at hn; rw [if_pos hr] at hn; cases hn), fun c' h' _ => by rw [hc] at h'; cases h'; exact k⟩
theorem ok_desk_waited {P : Program} {w : World} {K : PySem.W.Frag} {mg : Str → Option Value} {base : Heap} (T : Txt K mg) : ∃ fd, FnOk P w K mg base (L2.CX P w) 2 (He.ma K (He.ga K "Desk") "waited") fd ["self", "name"] (sp_desk_waited K) ∧ Binds K fd ["self", "name"] [] ∧ FunD K "waited" "Desk.waited" (defArgs s_desk_waited) (defBody s_desk_waited) (defScope s_desk_waited) [] [] (He.ma K (He.ga K "Desk") "waited") fd := by
  obtain ⟨fd, F⟩ := f_desk_waited T
  obtain ⟨d_desk_one, G_desk_one, b_desk_one, _⟩ := ok_desk_one (P := P) (w := w) (base := base) T
  obtain ⟨d_desk_need_ready, G_desk_need_ready, b_desk_need_ready, _⟩ := ok_desk_need_ready (P := P) (w := w) (base := base) T
  refine ⟨fd, okX F sc_desk_waited (fun vs H Q E h => ?_) (fun cdv A outer s H vs Q E hr h => ?_), FunD.bindsN F fun _ _ _ _ _ _ us hl => match us, hl with | [_, _], _ => rfl, F⟩
  · (repeat (obtain ⟨_, h⟩ := h)); subst_vars; rfl
  · obtain ⟨p, d, l, ps, nm, rfl, D, W, kE, k⟩ := h
    refine ⟨_, (pss_cons (ps_set (i := 2) sc_desk_waited.nd rfl (Or.inl rfl) (pe_meth (pv 0) (c_Desk T) (m_desk_one T) G_desk_one (hr.mono (by decide)) b_desk_one .nil (passes_call (takes_of rfl rfl rfl rfl) (fun _ _ _ _ h => h)) (pa_cons (pv 1) pa_nil)))
        (pss_cons (ps_expr (pe_meth (pv 0) (c_Desk T) (m_desk_need_ready T) G_desk_need_ready (hr.mono (by decide)) b_desk_need_ready .nil (passes_call (takes_of rfl rfl rfl rfl) (fun _ _ _ _ h => h)) (pa_cons (pv 2) pa_nil)))
        (pss_one (ps_ret (pe_op op_sub (pe_fldK (K := K) rfl (pv 0) rfl) (pe_fldK (K := K) rfl (pv 2) rfl)))))), ?_⟩
    unfold waitedErr at kE
    obtain ⟨dx, hp⟩ := D.ob
    refine q_meth (ev_var rfl) hp rfl (ea_cons (ev_var rfl) ea_nil) fun H1 e1 => ?_
    refine ⟨p, d, l, ps, nm, rfl, D.ex e1, fun q hq hn H2 e2 => ?_, fun hn H2 e2 => kE _ (by rw [D.get_none hn]) H2 (e1.trans e2)⟩
    subst hn
    rw [D.get_of W hq] at kE
    have k := k q.2 (D.get_of W hq)
    have e12 := e1.trans e2
    refine q_dmeth (ev_var rfl) (e12 _ _ hp) rfl (ea_cons (ev_var rfl) ea_nil) fun H3 e3 => ?_
    refine ⟨p, q.1, q.2, rfl, (D.at_ q hq).ex (e12.trans e3), fun hr H4 e4 => ?_, fun hr H4 e4 => kE _ (if_neg (by rw [hr]; decide)) H4 ((e12.trans e3).trans e4)⟩
    have e14 := (e12.trans e3).trans e4
    have hm := ev_mark (ta := tVar 2) (σ := [some (.ref p), some (.str q.2.nm), some (.ref q.1)]) T (ev_var rfl) ((D.at_ q hq).ex e14)
    rw [mark_rdy hr] at hm
    exact s_ret (ev_op (ev_now T (ev_var rfl) (D.ex e14)) hm rv_I0) fun H5 e5 => k hr H5 (e14.trans e5)
theorem Dk.get_put_self {d : Dk} (nd : (d.line.map (·.nm)).Nodup) (x : Cl) : (d.put x).get x.nm = some x := Dk.get_of (d := d.put x) (putC_nd nd) (putC_mem.mpr (.inr rfl))
theorem Dk.get_put_at {d : Dk} (nd : (d.line.map (·.nm)).Nodup) {x : Cl} {nm : Str} (h : x.nm = nm) : (d.put x).get nm = some x := h ▸ Dk.get_put_self nd x
theorem Dk.get_put_ne {d : Dk} (nd : (d.line.map (·.nm)).Nodup) {nm : Str} {c x : Cl} (h : d.get nm = some c) (hn : nm ≠ x.nm) : (d.put x).get nm = some c := by
  obtain ⟨h1, h2⟩ := Dk.get_some h
  subst h2
  exact Dk.get_of (d := d.put x) (putC_nd nd) (putC_mem.mpr (.inl ⟨h1, hn⟩))
/-! what evaluates while the desk changes: any heap that R knows may be behind it -/
def MvE (t : TE) (σ : L2.St) (H : Hp) (v : V) (R : Hp → Prop) : Prop := ∀ Q : VK, (∀ H', R H' → Q v H') → t σ H Q
def MvT (t : TT) (σ : L2.St) (H : Hp) (b : Bool) (R : Hp → Prop) : Prop := ∀ Q : Bool → Hp → Prop, (∀ H', R H' → Q b H') → t σ H Q
def MvS (sp : Sp) (vs : List V) (H : Hp) (v : V) (R : Hp → Prop) : Prop := ∀ (Q : VK) (E : XK), (∀ H', R H' → Q v H') → sp vs H Q E
section
variable {σ : L2.St} {H : Hp} {R R1 : Hp → Prop} {x y z : V} {a b : Bool} {ta tb : TE} {t u : TT} {D : Ends} {tu : TS} {tz : TS}
theorem mv_of (h : Ev ta σ H x) : MvE ta σ H x (Ex H) := fun Q q => h H (Ex.refl H) Q q
theorem mv_is (h : MvE ta σ H x R) (e : x = y) : MvE ta σ H y R := e ▸ h
theorem mt_is (h : MvT t σ H a R) (e : a = b) : MvT t σ H b R := e ▸ h
theorem mv_sub (h : MvE ta σ H x R) (s : ∀ H', R H' → R1 H') : MvE ta σ H x R1 := fun Q q => h Q fun H' r => q H' (s H' r)
theorem mt_sub (h : MvT t σ H a R) (s : ∀ H', R H' → R1 H') : MvT t σ H a R1 := fun Q q => h Q fun H' r => q H' (s H' r)
theorem mt_of (h : EvT t σ H b) : MvT t σ H b (Ex H) := fun Q q => h H (Ex.refl H) Q q
theorem mt_test (h : MvE ta σ H (.bl b) R) : MvT (tTest ta) σ H b R := fun Q q => h _ fun H' r => ⟨b, rfl, q H' r⟩
theorem mt_B (h : MvE ta σ H (.bl b) R) : MvT (tB ta) σ H b R := fun Q q => h _ fun H' r => ⟨b, rfl, q H' r⟩
theorem mt_not (h : MvT t σ H b R) : MvT (tNot t) σ H (!b) R := fun Q q => h _ q
theorem mt_or (h : MvT t σ H false R1) (h2 : ∀ H1, R1 H1 → MvT u σ H1 b R) : MvT (tOr t u) σ H b R := fun Q q => h _ fun H1 r => by
  show u σ H1 Q
  exact h2 H1 r Q q
theorem mt_and (h : MvT t σ H true R1) (h2 : ∀ H1, R1 H1 → MvT u σ H1 b R) : MvT (tAnd t u) σ H b R := fun Q q => h _ fun H1 r => by
  show u σ H1 Q
  exact h2 H1 r Q q
theorem mv_andV (h : MvE ta σ H (.bl true) R1) (h2 : ∀ H1, R1 H1 → MvE tb σ H1 x R) : MvE (tAndV ta tb) σ H x R := fun Q q => h _ fun H1 r => ⟨true, rfl, by
  show tb σ H1 Q
  exact h2 H1 r Q q⟩
theorem mv_op {r : R2} (ha : MvE ta σ H x R) (hb : ∀ H1, R H1 → Ev tb σ H1 y) (hr : ∀ H1, R H1 → RV r x y H1 z) (hR : ∀ H1 H2, R H1 → Ex H1 H2 → R H2) : MvE (tOp r ta tb) σ H z R := fun Q q =>
  ha _ fun H1 r1 => hb H1 r1 H1 (Ex.refl H1) _ fun H2 e2 => hr H1 r1 H2 e2 Q fun H3 e3 => q H3 (hR H1 H3 r1 (e2.trans e3))
theorem mv_call {sp : Sp} {E : XK} {tr : TA} {vs : List V} (h : EvA tr σ H vs) (hs : ∀ H1, Ex H H1 → MvS sp (vs ++ []) H1 x R) : MvE (tCall sp [] E tr) σ H x R := fun Q q => h H (Ex.refl H) _ fun H1 e1 => hs H1 e1 Q E q
theorem mq_when (h : MvT t σ H b R) (h1 : b = true → ∀ H1, R H1 → tu { D with nx := tz D } σ H1) (h2 : b = false → ∀ H1, R H1 → tz D σ H1) : tSeq (tIfS t tu tNext) tz D σ H := h _ fun H1 r => by
  cases b with
  | true => exact h1 rfl H1 r
  | false => exact h2 rfl H1 r
theorem ms_when (h : MvT t σ H b R) (h1 : b = true → ∀ H1, R H1 → tu D σ H1) (h2 : b = false → ∀ H1, R H1 → D.nx σ H1) : tIfS t tu tNext D σ H := h _ fun H1 r => by
  cases b with
  | true => exact h1 rfl H1 r
  | false => exact h2 rfl H1 r
theorem ms_ret (h : MvE ta σ H x R) (k : ∀ H1, R H1 → D.rt x H1) : tRet ta D σ H := h _ k
theorem mq_asg {i : Nat} (h : MvE ta σ H x R) (k : ∀ H1, R H1 → tz D (σ.set i (some x)) H1) : tSeq (tAsg ta (gName i)) tz D σ H := h _ k
end
/-! .. what comes, and what is behind it, by M -/
def MvX (t : TE) (σ : L2.St) (H : Hp) (M : VK) : Prop := ∀ Q : VK, (∀ v H', M v H' → Q v H') → t σ H Q
def MvY (sp : Sp) (vs : List V) (H : Hp) (M : VK) : Prop := ∀ (Q : VK) (E : XK), (∀ v H', M v H' → Q v H') → sp vs H Q E
section
variable {K : PySem.W.Frag} {σ : L2.St} {H : Hp} {R : Hp → Prop} {M : VK} {z : V} {ta t1 t2 : TE} {D : Ends} {tu : TS} {tz : TS} {sp : Sp} {E : XK} {tr : TA} {vs : List V}
theorem mx_call (h : EvA tr σ H vs) (hs : ∀ H1, Ex H H1 → MvY sp (vs ++ []) H1 M) : MvX (tCall sp [] E tr) σ H M := fun Q q => h H (Ex.refl H) _ fun H1 e1 => hs H1 e1 Q E q
theorem mx_meth {a C dx : Addr} {fs : List (Str × V)} {m : Str} (h : Ev ta σ H (.ref a)) (ho : H a = some (.ins C dx fs)) (hl : fs.lookup m = none) (ha : EvA tr σ H vs) (hs : ∀ H1, Ex H H1 → MvY sp (.ref a :: (vs ++ [])) H1 M) : MvX (tMeth C m sp [] E ta tr) σ H M := fun Q q =>
  h H (Ex.refl H) _ fun H1 e1 => ⟨a, dx, fs, rfl, e1 a _ ho, hl, ha H1 e1 _ fun H2 e2 => hs H2 (e1.trans e2) Q E q⟩
theorem mq_asgX {i : Nat} (h : MvX ta σ H M) (k : ∀ v H1, M v H1 → tz D (σ.set i (some v)) H1) : tSeq (tAsg ta (gName i)) tz D σ H := h _ k
theorem mv_call2 (h1 : MvX t1 σ H M) (h : ∀ v H1, M v H1 → ∀ Q : VK, (∀ H', R H' → Q z H') → t2 σ H1 fun y H2 => sp ([v, y] ++ []) H2 Q E) : MvE (tCall sp [] E (tCons t1 (tCons t2 tNil))) σ H z R := fun Q q => h1 _ fun v H1 m => h v H1 m Q q
theorem mq_forLn {tl : TE} {j : Nat} (h : MvX tl σ H M) (xs : List V) (Pv : Addr → Nat → L2.St → Hp → Prop) (h0 : ∀ v H1, M v H1 → ∃ a, v = .ref a ∧ Pv a 0 σ H1) (hl : ∀ a i σ' H', i ≤ xs.length → Pv a i σ' H' → SqL K H' a xs)
    (hs : ∀ a i x σ' H', xs[i]? = some x → Pv a i σ' H' → tu { D with nx := Pv a (i + 1), ct := Pv a (i + 1), bk := tz D } (σ'.set j (some x)) H') (hd : ∀ a σ' H', Pv a xs.length σ' H' → tz D σ' H') : tSeq (tFor (iList K tl) (gName j) tu) tz D σ H := h _ fun v H1 m => by
  obtain ⟨a, rfl, p⟩ := h0 v H1 m
  exact ⟨a, rfl, ⟨xs, hl a 0 _ _ (Nat.zero_le _) p⟩, for_list (D := { D with nx := tz D }) (Pv a) p (hl a) (hs a) (hd a)⟩
end
/-- l.append(e), e changing the desk -/
theorem mq_appX {K : PySem.W.Frag} {σ : L2.St} {H : Hp} {l : Addr} {j : Nat} {ys : List V} {te : TE} {M : VK} {D : Ends} {tz : TS} (hj : σ[j]? = some (some (.ref l))) (hl : H l = some (.lst ys)) (h : MvX te σ H M) (k : ∀ v H1, M v H1 → ∃ xs, H1 l = some (.lst xs) ∧ xs.length < 100000 ∧ tz D σ (upd H1 l (.lst (xs ++ [v])))) :
    tSeq (tDrop (tBM K "list" rAppend (tVar j) (tCons te tNil))) tz D σ H := ⟨_, hj, .inl ⟨rfl, _, SqL.of hl⟩, h _ fun v H1 m => let ⟨xs, hx, hz, kk⟩ := k v H1 m; ⟨l, xs, v, rfl, rfl, hx, sz_lt hz, kk⟩⟩
theorem inV_str (nm : Str) (L : List Str) : inV (.str nm) (L.map V.str) = decide (nm ∈ L) := by
  unfold inV
  rw [List.any_map]
  induction L with
  | nil => rfl
  | cons c L ih =>
    rw [List.any_cons, ih]
    by_cases h : nm = c
    · subst h
      simp [Function.comp, eqV]
    · have h' : ¬ c = nm := fun e => h e.symm
      simp [Function.comp, eqV, h, h']
theorem pick_allS {xs : List Str} {i : Int} {P : Str → Prop} (h0 : 0 ≤ i) (h1 : i < (xs.length : Int)) (h : ∀ x ∈ xs, P x) : ∃ v, P v ∧ atI (xs.map V.str) i = some (.str v) := by
  have hl : i.toNat < xs.length := by omega
  refine ⟨xs[i.toNat], h _ (List.getElem_mem hl), at_of (j := i.toNat) (by omega) ?_⟩
  rw [List.getElem?_map, List.getElem?_eq_getElem hl]
  rfl
theorem name_q {s : Str} : isName (s ++ "?") = false := by
  cases h : isName (s ++ "?") with
  | false => rfl
  | true =>
    unfold isName at h
    rw [Bool.and_eq_true] at h
    have h2 := List.all_eq_true.mp h.2 63 (by
      have e : (s ++ "?").cps.toList = TL.tl s ++ TL.tl "?" := TL.tl_append s "?"
      rw [e]
      exact List.mem_append_right _ (by decide +kernel))
    exact absurd h2 (by decide +kernel)
theorem ev_callLV {σ : L2.St} {H : Hp} {ta tb : TE} {sp : Sp} {E : XK} {xs : List V} {b : Addr} {z : V} (h1 : EvL ta σ H xs) (h2 : Ev tb σ H (.ref b)) (hs : ∀ p H1, Ex H H1 → H1 p = some (.lst xs) → SpV sp ([.ref p, .ref b] ++ []) H1 z) : Ev (tCall sp [] E (tCons ta (tCons tb tNil))) σ H z := fun H1 e Q k =>
  h1 H1 e _ fun p H2 hp e2 hp2 => h2 H2 (e.trans e2) _ fun H3 e3 => hs p H3 ((e.trans e2).trans e3) (e3 _ _ hp2) H3 (Ex.refl H3) Q (fun H4 e4 => k H4 ((e2.trans e3).trans e4)) E
theorem all_str (nms : List Str) : (nms.map V.str).all flatV = true := by
  rw [List.all_map]
  exact List.all_eq_true.mpr fun _ _ => rfl
theorem ev_index {K : PySem.W.Frag} {σ : L2.St} {H : Hp} {ta te : TE} {r : Addr} {nms : List Str} {k : Nat} {nm : Str} (nd : nms.Nodup) (hk : nms[k]? = some nm) (ho : Ev ta σ H (.ref r)) (hr : H r = some (.lst (nms.map V.str))) (ha : Ev te σ H (.str nm)) : Ev (tBM K "list" (rIndex K) ta (tCons te tNil)) σ H (.int (k : Int)) := fun H1 e Q q =>
  ho H1 e _ fun H2 e2 => ⟨.inl ⟨rfl, _, SqL.of ((e.trans e2) _ _ hr)⟩, ha H2 (e.trans e2) _ fun H3 e3 => ⟨r, _, .str nm, k, .str nm, rfl, rfl, SqL.of ((e.trans (e2.trans e3)) _ _ hr), rfl, all_str nms, by rw [List.getElem?_map, hk]; rfl, by simp [eqV], fun m z hm hz => by
    rw [List.getElem?_map] at hz
    cases hx : nms[m]? with
    | none => rw [hx] at hz; cases hz
    | some y =>
      rw [hx] at hz
      cases hz
      have : y ≠ nm := fun e => by
        have := nd_ix nd (e ▸ hx) hk
        omega
      simp [eqV, this], q H3 (e2.trans e3)⟩⟩
theorem el_catL {σ : L2.St} {H : Hp} {p : Addr} {xs ys : List V} {ta tb : TE} (ha : EvL ta σ H xs) (hb : Ev tb σ H (.ref p)) (hp : H p = some (.lst ys)) (hz : xs.length + ys.length ≤ 100000) : EvL (tOp rCat ta tb) σ H (xs ++ ys) := fun H1 e Q q =>
  ha H1 e _ fun r H2 hr e2 h2 => hb H2 (e.trans e2) _ fun H3 e3 => ⟨r, p, xs, ys, rfl, rfl, e3 r _ h2, (e.trans (e2.trans e3)) _ _ hp, sz_of hz, fun s hs => q s _ (fresh_back (e2.trans e3) hs) ((e2.trans e3).trans (Ex.new hs)) upd_same⟩
/-! ### L_one -/
theorem sc_L_one : FnScope ["_law_desk", "_law_one_here", "_law_now", "_law_rank", "_law_left", "_law_bell", "_law_waited"] ["_law_desk", "_law_one_here", "_law_now"] (defScope s_L_one) := ⟨rfl, rfl, rfl, by decide +kernel, rfl, by decide +kernel, by decide +kernel⟩
def sp_L_one (K : PySem.W.Frag) : Sp := fun vs H Q _ => ∃ (p : Addr) (d : Dk) (l : Addr) (ps : List Pr) (q : Pr), vs = [.ref p, .ref q.1, .int d.now] ∧ DkAt K H p d l ps ∧ d.Ok ∧ H q.1 = some (.tup (cvt q.2)) ∧ q.2 ∈ d.line ∧ RetV (.bl true) H Q
theorem ok_L_one {P : Program} {w : World} {K : PySem.W.Frag} {mg : Str → Option Value} {base : Heap} (T : Txt K mg) : ∃ fd, FnOk P w K mg base (CX0) 3 (He.ga K "_law_one") fd ["_law_desk", "_law_one_here", "_law_now"] (sp_L_one K) ∧ Binds K fd ["_law_desk", "_law_one_here", "_law_now"] [] ∧ FunD K "_law_one" "_law_one" (defArgs s_L_one) (defBody s_L_one) (defScope s_L_one) [] [] (He.ga K "_law_one") fd := by
  obtain ⟨fd, F⟩ := f_L_one T
  obtain ⟨d_desk_rank, G_desk_rank, b_desk_rank, _⟩ := ok_desk_rank (P := P) (w := w) (base := base) T
  obtain ⟨d_desk_left, G_desk_left, b_desk_left, _⟩ := ok_desk_left (P := P) (w := w) (base := base) T
  obtain ⟨d_desk_bell, G_desk_bell, b_desk_bell, _⟩ := ok_desk_bell (P := P) (w := w) (base := base) T
  obtain ⟨d_desk_state, G_desk_state, b_desk_state, _⟩ := ok_desk_state (P := P) (w := w) (base := base) T
  obtain ⟨d_L_whole, G_L_whole, b_L_whole, _⟩ := ok_L_whole (P := P) (w := w) (base := base) T
  obtain ⟨d_desk_waited, G_desk_waited, b_desk_waited, _⟩ := ok_desk_waited (P := P) (w := w) (base := base) T
  refine ⟨fd, ok0 F sc_L_one (fun vs H Q E h => ?_) (fun cdv A outer s H vs Q E hr h => ?_), FunD.bindsN F fun _ _ _ _ _ _ us hl => match us, hl with | [_, _, _], _ => rfl, F⟩
  · (repeat (obtain ⟨_, h⟩ := h)); subst_vars; rfl
  · obtain ⟨p, d, l, ps, q, rfl, D, ok, ht, hq, k⟩ := h
    refine ⟨_, (pss_cons (ps_set (i := 3) sc_L_one.nd rfl (Or.inl rfl) (pe_meth (pv 0) (c_Desk T) (m_desk_rank T) G_desk_rank (hr.mono (by decide)) b_desk_rank .nil passL (pa_cons (pe_ix (ix_tupK (K := K) rfl) (pv 1) pe_int (fun _ _ => rfl)) pa_nil)))
        (pss_cons (ps_set (i := 4) sc_L_one.nd rfl (Or.inl rfl) (pe_meth (pv 0) (c_Desk T) (m_desk_left T) G_desk_left (hr.mono (by decide)) b_desk_left .nil passL (pa_cons (pe_ix (ix_tupK (K := K) rfl) (pv 1) pe_int (fun _ _ => rfl)) pa_nil)))
        (pss_cons (ps_set (i := 5) sc_L_one.nd rfl (Or.inl rfl) (pe_meth (pv 0) (c_Desk T) (m_desk_bell T) G_desk_bell (hr.mono (by decide)) b_desk_bell .nil passL (pa_cons (pe_ix (ix_tupK (K := K) rfl) (pv 1) pe_int (fun _ _ => rfl)) pa_nil)))
        (pss_cons (ps_if (PW.pt (pw_or (pt_not (pt_val (pe_call G_L_whole (hr.mono (by decide)) rfl (g_L_whole T) (kp_L_whole T) b_L_whole .nil pass0 (pa_cons (pv 3) pa_nil)))) (pw_or (pt_cmpR op_ne (pv 3) (pe_ix (ix_tupK (K := K) rfl) (pv 1) pe_int (fun _ _ => rfl)) (nomark _)) (pw_or1 (pt_cmpR op_ne (pe_meth (pv 0) (c_Desk T) (m_desk_state T) G_desk_state (hr.mono (by decide)) b_desk_state .nil passL (pa_cons (pe_ix (ix_tupK (K := K) rfl) (pv 1) pe_int (fun _ _ => rfl)) pa_nil)) (pe_ix (ix_tupK (K := K) rfl) (pv 1) pe_int (fun _ _ => rfl)) (nomark _)))))) (pss_one (ps_ret pe_bl))
        pss_nil)
        (pss_cons (ps_if (pt_cmpR op_eq (pe_ix (ix_tupK (K := K) rfl) (pv 1) pe_int (fun _ _ => rfl)) pe_str (nomark _)) (pss_cons (ps_set (i := 6) sc_L_one.nd rfl (Or.inl rfl) (pe_meth (pv 0) (c_Desk T) (m_desk_waited T) G_desk_waited (hr.mono (by decide)) b_desk_waited .nil passL (pa_cons (pe_ix (ix_tupK (K := K) rfl) (pv 1) pe_int (fun _ _ => rfl)) pa_nil)))
        (pss_one (ps_ret (pe_and (pe_call G_L_whole (hr.mono (by decide)) rfl (g_L_whole T) (kp_L_whole T) b_L_whole .nil pass0 (pa_cons (pv 6) pa_nil)) (pe_and (pe_cmpR op_eq (pv 6) (pe_op op_sub (pv 2) (pe_ix (ix_tupK (K := K) rfl) (pv 1) pe_int (fun _ _ => rfl))) (nomark _)) (pe_and (pe_cmpR op_isN (pv 4) pe_non (nomark _)) (pe_one (pe_cmpR op_isN (pv 5) pe_non (nomark _)))))))))
        pss_nil)
        (pss_cons (ps_if (pt_cmpR op_eq (pe_ix (ix_tupK (K := K) rfl) (pv 1) pe_int (fun _ _ => rfl)) pe_str (nomark _)) (pss_one (ps_ret (pe_and (pe_call G_L_whole (hr.mono (by decide)) rfl (g_L_whole T) (kp_L_whole T) b_L_whole .nil pass0 (pa_cons (pv 4) pa_nil)) (pe_and (pe_cmpR op_eq (pv 4) (pe_op op_sub (pe_ix (ix_tupK (K := K) rfl) (pv 1) pe_int (fun _ _ => rfl)) (pv 2)) (nomark _)) (pe_one (pe_cmpR op_isN (pv 5) pe_non (nomark _)))))))
        pss_nil)
        (pss_one (ps_ret (pe_and (pe_callB (call_isiK' (K := K) rfl) rfl (b_isinstance T) (by decide +kernel) (pa_cons (pv 5) (pa_cons (pe_bltn (v := .ty "str") rfl (b_str T) (by decide +kernel) rfl) pa_nil))) (pe_and (pe_cmpR op_eq (pv 5) (pe_ix (ix_tupK (K := K) rfl) (pv 1) pe_int (fun _ _ => rfl)) (nomark _)) (pe_one (pe_cmpR op_isN (pv 4) pe_non (nomark _))))))))))))), ?_⟩
    have hg := Dk.get_of ok.nd hq
    obtain ⟨dx, hp⟩ := D.ob
    refine q_asg (ev_meth (ev_var rfl) hp rfl (ea_cons (ev_t0 (ev_var rfl) ht) ea_nil) (cv_rank D ok.wf hg)) fun H1 e1 => ?_
    refine q_asg (ev_meth (ev_var rfl) (e1 _ _ hp) rfl (ea_cons (ev_t0 (ev_var rfl) (e1 _ _ ht)) ea_nil) (cv_left (D.ex e1) ok.wf hg)) fun H2 e2 => ?_
    have e12 := e1.trans e2
    refine q_asg (ev_meth (ev_var rfl) (e12 _ _ hp) rfl (ea_cons (ev_t0 (ev_var rfl) (e12 _ _ ht)) ea_nil) (cv_bell (D.ex e12) ok.wf hg)) fun H3 e3 => ?_
    have e13 := e12.trans e3
    have D3 := D.ex e13
    have hp3 := e13 _ _ hp
    have ht3 := e13 _ _ ht
    have k3 := fun H4 (e : Ex H3 H4) => k H4 (e13.trans e)
    clear e1 e2 e3 e12 e13 D hp ht k
    refine q_when (b := false) ?h1 (fun hb H4 e4 => by cases hb) (fun hb H4 e4 => ?_)
    case h1 =>
      refine et_is (et_or (a := false) (b := false) (et_is (et_not (et_B (ev_call (ea_cons (ev_var rfl) ea_nil) cv_L_whole))) rfl) fun _ => et_is (et_or (a := false) (b := false) (et_is (et_test (ev_op (ev_var rfl) (ev_t1 (ev_var rfl) ht3) (rv_ne rfl))) (by simp)) fun _ => ?_) rfl) rfl
      refine et_is (et_test (ev_op (ev_meth (ev_var rfl) hp3 rfl (ea_cons (ev_t0 (ev_var rfl) ht3) ea_nil) (cv_state D3 ok.wf hg)) (ev_t2 (ev_var rfl) ht3) (rv_ne rfl))) (by simp)
    have D4 := D3.ex e4
    have hp4 := e4 _ _ hp3
    have ht4 := e4 _ _ ht3
    have k4 := fun H5 (e : Ex H4 H5) => k3 H5 (e4.trans e)
    clear e4 D3 hp3 ht3 k3
    obtain ⟨t, nm, rk, md⟩ := q
    cases md with
    | rdy s =>
      refine q_when (b := true) (et_is (et_test (ev_op (ev_t2 (q := (t, ⟨nm, rk, .rdy s⟩)) (ev_var rfl) ht4) ev_c (rv_eq rfl))) (by rw [decV]; exact st_ready (.rdy s))) (fun _ H5 e5 => ?_) (fun h => by cases h)
      have ht5 := e5 _ _ ht4
      refine q_asg (ev_meth (ev_var rfl) (e5 _ _ hp4) rfl (ea_cons (ev_t0 (q := (t, ⟨nm, rk, .rdy s⟩)) (ev_var rfl) ht5) ea_nil) (cv_waited (D4.ex e5) ok.wf hg rfl)) fun H6 e6 => ?_
      have ht6 := e6 _ _ ht5
      refine s_ret (v := .bl true) ?h fun H7 e7 => k4 H7 ((e5.trans e6).trans e7)
      refine ev_is (ev_andV (a := true) (b := true) (ev_call (ea_cons (ev_var rfl) ea_nil) cv_L_whole) fun _ => ev_is (ev_andV (a := true) (b := true) (ev_is (ev_op (ev_var rfl) (ev_op (ev_var rfl) (ev_t3 (q := (t, ⟨nm, rk, .rdy s⟩)) (ev_var rfl) ht6) rv_I0) (rv_eq rfl)) (congrArg V.bl (decide_eq_true rfl))) fun _ => ev_is (ev_andV (a := true) (b := true) (ev_is (ev_op (ev_var rfl) ev_c rv_isN) rfl) fun _ => ev_is (ev_op (ev_var rfl) ev_c rv_isN) rfl) rfl) rfl) rfl
    | slp s =>
      refine q_when (b := false) (et_is (et_test (ev_op (ev_t2 (q := (t, ⟨nm, rk, .slp s⟩)) (ev_var rfl) ht4) ev_c (rv_eq rfl))) (by rw [decV]; exact st_ready (.slp s))) (fun h => by cases h) (fun _ H5 e5 => ?_)
      have ht5 := e5 _ _ ht4
      refine q_when (b := true) (et_is (et_test (ev_op (ev_t2 (q := (t, ⟨nm, rk, .slp s⟩)) (ev_var rfl) ht5) ev_c (rv_eq rfl))) (by rw [decV]; exact st_asleep (.slp s))) (fun _ H6 e6 => ?_) (fun h => by cases h)
      have ht6 := e6 _ _ ht5
      refine s_ret (v := .bl true) ?h2 fun H7 e7 => k4 H7 ((e5.trans e6).trans e7)
      refine ev_is (ev_andV (a := true) (b := true) (ev_call (ea_cons (ev_var rfl) ea_nil) cv_L_whole) fun _ => ev_is (ev_andV (a := true) (b := true) (ev_is (ev_op (ev_var rfl) (ev_op (ev_t3 (q := (t, ⟨nm, rk, .slp s⟩)) (ev_var rfl) ht6) (ev_var rfl) rv_I0) (rv_eq rfl)) (congrArg V.bl (decide_eq_true rfl))) fun _ => ev_is (ev_op (ev_var rfl) ev_c rv_isN) rfl) rfl) rfl
    | wtg s =>
      refine q_when (b := false) (et_is (et_test (ev_op (ev_t2 (q := (t, ⟨nm, rk, .wtg s⟩)) (ev_var rfl) ht4) ev_c (rv_eq rfl))) (by rw [decV]; exact st_ready (.wtg s))) (fun h => by cases h) (fun _ H5 e5 => ?_)
      have ht5 := e5 _ _ ht4
      refine q_when (b := false) (et_is (et_test (ev_op (ev_t2 (q := (t, ⟨nm, rk, .wtg s⟩)) (ev_var rfl) ht5) ev_c (rv_eq rfl))) (by rw [decV]; exact st_asleep (.wtg s))) (fun h => by cases h) (fun _ H6 e6 => ?_)
      have ht6 := e6 _ _ ht5
      refine s_ret (v := .bl true) ?h3 fun H7 e7 => k4 H7 ((e5.trans e6).trans e7)
      refine ev_is (ev_andV (a := true) (b := true) (ev_cb (ea_cons (ev_is (ev_var rfl) (show _ = V.str s from rfl)) (ea_cons ev_c ea_nil)) rc_isi_str) fun _ => ev_is (ev_andV (a := true) (b := true) (ev_is (ev_op (ev_is (ev_var rfl) (show _ = V.str s from rfl)) (ev_t3 (q := (t, ⟨nm, rk, .wtg s⟩)) (ev_var rfl) ht6) (rv_eq rfl)) (congrArg V.bl (decide_eq_true rfl))) fun _ => ev_is (ev_op (ev_var rfl) ev_c rv_isN) rfl) rfl) rfl
/-! ### L_stands -/
theorem sc_L_stands : FnScope ["_law_desk", "_law_line", "_law_now", "_law_cell", "_law_k", "_law_one_here"] ["_law_desk", "_law_line", "_law_now", "_law_cell"] (defScope s_L_stands) := ⟨rfl, rfl, rfl, by decide +kernel, rfl, by decide +kernel, by decide +kernel⟩
def sp_L_stands (K : PySem.W.Frag) : Sp := fun vs H Q _ => ∃ (F : Hp) (p : Addr) (d : Dk) (a : Addr) (c : Int), vs = [.ref p, .ref a, .int d.now, .int c] ∧ DeskAt K F H p d ∧ d.Ok ∧ LineAt F a d.line ∧ RetV (.bl true) H Q
theorem cv_L_stands {K : PySem.W.Frag} {F H : Hp} {p a : Addr} {d : Dk} {c : Int} (D : DeskAt K F H p d) (ok : d.Ok) (hl : LineAt F a d.line) : SpV (sp_L_stands K) ([.ref p, .ref a, .int d.now, .int c] ++ []) H (.bl true) := spv_call fun _ e _ _ k => ⟨F, p, d, a, c, rfl, D.ex e, ok, hl, k⟩
theorem ok_L_stands {P : Program} {w : World} {K : PySem.W.Frag} {mg : Str → Option Value} {base : Heap} (T : Txt K mg) : ∃ fd, FnOk P w K mg base (CX0) 4 (He.ga K "_law_stands") fd ["_law_desk", "_law_line", "_law_now", "_law_cell"] (sp_L_stands K) ∧ Binds K fd ["_law_desk", "_law_line", "_law_now", "_law_cell"] [] ∧ FunD K "_law_stands" "_law_stands" (defArgs s_L_stands) (defBody s_L_stands) (defScope s_L_stands) [] [] (He.ga K "_law_stands") fd := by
  obtain ⟨fd, F⟩ := f_L_stands T
  obtain ⟨d_L_texts, G_L_texts, b_L_texts, _⟩ := ok_L_texts (P := P) (w := w) (base := base) T
  obtain ⟨d_desk_names, G_desk_names, b_desk_names, _⟩ := ok_desk_names (P := P) (w := w) (base := base) T
  obtain ⟨d_L_whole, G_L_whole, b_L_whole, _⟩ := ok_L_whole (P := P) (w := w) (base := base) T
  obtain ⟨d_L_one, G_L_one, b_L_one, _⟩ := ok_L_one (P := P) (w := w) (base := base) T
  refine ⟨fd, ok0 F sc_L_stands (fun vs H Q E h => ?_) (fun cdv A outer s H vs Q E hr h => ?_), FunD.bindsN F fun _ _ _ _ _ _ us hl => match us, hl with | [_, _, _, _], _ => rfl, F⟩
  · (repeat (obtain ⟨_, h⟩ := h)); subst_vars; rfl
  · obtain ⟨F, p, d, a, c, rfl, D, ok, ⟨qs, hl, hL⟩, k⟩ := h
    refine ⟨_, (pss_cons (ps_if (PW.pt (pw_or (pt_not (pt_val (pe_call G_L_whole (hr.mono (by decide)) rfl (g_L_whole T) (kp_L_whole T) b_L_whole .nil pass0 (pa_cons (pe_fldK (K := K) rfl (pv 0) rfl) pa_nil)))) (pw_or (pt_cmpR op_ne (pe_fldK (K := K) rfl (pv 0) rfl) (pv 2) (nomark _)) (pw_or1 (pt_not (pt_val (pe_call G_L_texts (hr.mono (by decide)) rfl (g_L_texts T) (kp_L_texts T) b_L_texts .nil pass0 (pa_cons (pe_meth0 (pv 0) (c_Desk T) (m_desk_names T) G_desk_names (hr.mono (by decide)) b_desk_names .nil pass0) (pa_cons (pe_lc (own := [("_law_one_here", 5)]) (g := gName 5) (tt := tYes) rfl sc_L_stands.nd (pi_listK (K := K) rfl (pv 1)) (blkOk_by (own := [("_law_one_here", 5)]) (N := ["_law_desk", "_law_line", "_law_now", "_law_cell", "_law_k", "_law_one_here"]) (sc := defScope s_L_stands) (by decide +kernel)) (fun _ _ _ _ _ => (pg_name (i := 5) sc_L_stands.nd rfl (Or.inl rfl))) (fun _ _ _ _ _ => pts_nil) (fun _ _ _ _ _ => (pe_ix (ix_tupK (K := K) rfl) (pv 5) pe_int (fun _ _ => rfl)))) pa_nil))))))))) (pss_one (ps_ret pe_bl))
        pss_nil)
        (pss_cons (ps_for PassesOwn.never rfl (pi_range1 rfl (b_range T) (pa_cons (pe_callB (call_min2 rfl) rfl (b_min T) (by decide +kernel) (pa_cons pe_int (pa_cons (pe_callB (call_lenK (K := K) rfl) rfl (b_len T) (by decide +kernel) (pa_cons (pv 1) pa_nil)) pa_nil))) pa_nil)) (pg_name (i := 4) sc_L_stands.nd rfl (Or.inl rfl))
        (pss_one (ps_if (pt_not (pt_val (pe_call G_L_one (hr.mono (by decide)) rfl (g_L_one T) (kp_L_one T) b_L_one .nil pass0 (pa_cons (pv 0) (pa_cons (pe_ix (ix_listK (K := K) rfl) (pv 1) (pe_op op_mod (pe_op op_add (pv 3) (pe_op op_mul pe_int (pv 4))) (pe_callB (call_lenK (K := K) rfl) rfl (b_len T) (by decide +kernel) (pa_cons (pv 1) pa_nil))) (fun _ _ => rfl)) (pa_cons (pv 2) pa_nil)))))) (pss_one (ps_ret pe_bl))
        pss_nil)))
        (pss_one (ps_ret pe_bl)))), ?_⟩
    have h60 := ok.len60
    have hq60 : qs.length = d.line.length := by rw [← List.length_map (f := fun q : Pr => q.2), hL]
    have hlH := hl.ex D.fr
    obtain ⟨l, ps, DD, ff⟩ := id D
    obtain ⟨dx, hp⟩ := DD.ob
    refine q_when (b := false) ?h1 (fun hb H4 e4 => by cases hb) (fun hb H1 e1 => ?_)
    case h1 =>
      refine et_is (et_or (a := false) (b := false) (et_is (et_not (et_B (ev_call (ea_cons (ev_now T (ev_var rfl) DD) ea_nil) cv_L_whole))) rfl) fun _ => et_is (et_or (a := false) (b := false) (et_is (et_test (ev_op (ev_now T (ev_var rfl) DD) (ev_var rfl) (rv_ne rfl))) (by simp)) fun _ => et_is (et_not (et_B (ev_callLL (z := .bl true) (ys := d.line.map fun c => V.str c.nm) (el_meth (ev_var rfl) hp rfl ea_nil (cv_names DD (by omega))) ?l ?t))) rfl) rfl) rfl
      case l =>
        have hgv : (qs.filter fun _ => true).map (fun q : Pr => V.str q.2.nm) = d.line.map fun c => V.str c.nm := by
          rw [filter_true, ← hL, List.map_map]
          rfl
        rw [← hgv]
        exact el_lcM (K := K) (ps := qs) (uu := fun q => V.ref q.1) (fun _ => true) (fun q => V.str q.2.nm) (ev_var rfl) (sq_of hlH.l) (by omega) (fun _ => rfl) (fun _ _ _ _ => et_yes) fun q hq H1 e1 _ => ev_t0 (ev_var rfl) (e1 _ _ (hlH.t q hq))
      case t =>
        rintro x y H1 e1 hx hy
        have hm : (d.line.map fun c => V.str c.nm) = (d.line.map fun c => some c.nm).map optS := by
          rw [List.map_map]
          rfl
        rw [hm] at hx hy
        exact spv_call fun H2 e2 Q E k => ⟨x, y, _, rfl, e2 _ _ hx, e2 _ _ hy, by rw [List.length_map]; omega, k⟩
    have la : ((qs.map fun q => V.ref q.1).length : Int) = (qs.length : Int) := by rw [List.length_map]
    obtain ⟨n, hn0, hn1, hn⟩ : ∃ n : Int, 0 ≤ n ∧ n ≤ (qs.length : Int) ∧ (if ((qs.map fun q => V.ref q.1).length : Int) < 8 then ((qs.map fun q => V.ref q.1).length : Int) else 8) = n := by
      rw [la]
      refine ⟨_, ?_, ?_, rfl⟩ <;> split <;> omega
    refine q_forR1 (n := n) (ea_cons (ev_is (ev_cb (ea_cons ev_c (ea_cons (ev_cb (ea_cons (ev_var rfl) ea_nil) (rc_lenS (sq_of (e1 _ _ hlH.l)))) ea_nil)) rc_min2) (by rw [hn])) ea_nil) (by omega)
      (fun i σ' H' => Ex H H' ∧ ∃ v v5, σ' = [some (.ref p), some (.ref a), some (.int d.now), some (.int c), v, v5]) (fun H2 e2 => ⟨e1.trans e2, none, none, rfl⟩) ?_ ?_
    · rintro i σ' H' hi ⟨e2, v, v5, rfl⟩
      have hpos : 0 < (qs.length : Int) := by omega
      have b0 := Int.emod_nonneg (c + 7 * (i : Int)) (b := (qs.length : Int)) (by omega)
      have b1 := Int.emod_lt_of_pos (c + 7 * (i : Int)) (b := (qs.length : Int)) hpos
      obtain ⟨q, hqq⟩ : ∃ q, qs[((c + 7 * (i : Int)) % (qs.length : Int)).toNat]? = some q := ⟨_, List.getElem?_eq_getElem (by omega)⟩
      have hq := List.mem_of_getElem? hqq
      have hqd : q.2 ∈ d.line := by rw [← hL]; exact List.mem_map.mpr ⟨q, hq, rfl⟩
      have hl2 := hlH.ex e2
      have D2 := DD.ex e2
      refine s_when (b := false) (et_is (et_not (et_B (ev_call (ea_cons (ev_var rfl) (ea_cons (x := .ref q.1) ?e (ea_cons (ev_var rfl) ea_nil))) (spv_call fun H3 e3 Q E k => ⟨p, d, l, ps, q, rfl, D2.ex e3, ok, e3 _ _ (hl2.t q hq), hqd, k⟩)))) rfl) (fun h => by cases h) (fun _ H3 e3 => ⟨e2.trans e3, _, _, rfl⟩)
      refine ev_op (ev_var rfl) (ev_is (ev_op (ev_op (ev_var rfl) (ev_op ev_c (ev_var rfl) (rv_I (cmul_l (by decide) (by decide)))) rv_I0) (ev_cb (ea_cons (ev_var rfl) ea_nil) (rc_lenS (sq_of hl2.l))) (rv_I (by rw [la]; exact hpos))) (by rw [la])) (rv_ixL (sq_of hl2.l) (at_of (j := ((c + 7 * (i : Int)) % (qs.length : Int)).toNat) (by omega) (by rw [List.getElem?_map, hqq]; rfl)))
    · rintro σ' H' ⟨e2, v, v5, rfl⟩
      exact s_ret ev_c fun H3 e3 => k H3 (e2.trans e3)
/-! ### law -/
theorem sc_law : FnScope ["_law_script", "_law_shift", "_law_room", "_law_pace", "_law_desk", "_law_line", "_law_now", "_law_cell", "_law_many_here"] ["_law_script"] (defScope s_law) := ⟨rfl, rfl, rfl, by decide +kernel, rfl, by decide +kernel, by decide +kernel⟩
theorem cut_cells (ns : List Int) : ∃ cs : List Int, cutV (ns.map V.int) (some 4) (some 84) = cs.map V.int ∧ cs.length ≤ ns.length := by
  unfold cutV
  exact ⟨(ns.drop _).take _, by rw [List.map_take, List.map_drop], by rw [List.length_take, List.length_drop]; omega⟩
def sp_law (K : PySem.W.Frag) : Sp := fun vs H Q _ => ∃ (a : Addr) (ns : List Int), vs = [.ref a] ∧ SqL K H a (ns.map V.int) ∧ ns.length ≤ 63 ∧ ∀ H', Q (.bl true) H'
theorem ok_law {P : Program} {w : World} {K : PySem.W.Frag} {mg : Str → Option Value} {base : Heap} (T : Txt K mg) : ∃ fd, FnOk P w K mg base (CX0) 7 (He.ga K "law") fd ["_law_script"] (sp_law K) ∧ Binds K fd ["_law_script"] [] ∧ FunD K "law" "law" (defArgs s_law) (defBody s_law) (defScope s_law) [] [] (He.ga K "law") fd := by
  obtain ⟨fd, F⟩ := f_law T
  obtain ⟨d_L_cell_at, G_L_cell_at, b_L_cell_at, _⟩ := ok_L_cell_at (P := P) (w := w) (base := base) T
  obtain ⟨d_L_room_by, G_L_room_by, b_L_room_by, _⟩ := ok_L_room_by (P := P) (w := w) (base := base) T
  obtain ⟨d_L_pace_by, G_L_pace_by, b_L_pace_by, _⟩ := ok_L_pace_by (P := P) (w := w) (base := base) T
  obtain ⟨d_L_opened, G_L_opened, b_L_opened, _⟩ := ok_L_opened (P := P) (w := w) (base := base) T
  obtain ⟨d_L_crowd, G_L_crowd, b_L_crowd, _⟩ := ok_L_crowd (P := P) (w := w) (base := base) T
  obtain ⟨d_L_many, G_L_many, b_L_many, _⟩ := ok_L_many (P := P) (w := w) (base := base) T
  obtain ⟨d_L_mix, G_L_mix, b_L_mix, _⟩ := ok_L_mix (P := P) (w := w) (base := base) T
  obtain ⟨d_L_few, G_L_few, b_L_few, _⟩ := ok_L_few (P := P) (w := w) (base := base) T
  obtain ⟨d_L_run, G_L_run, b_L_run, _⟩ := ok_L_run (P := P) (w := w) (base := base) T
  obtain ⟨d_L_done, G_L_done, b_L_done, _⟩ := ok_L_done (P := P) (w := w) (base := base) T
  obtain ⟨d_L_stands, G_L_stands, b_L_stands, _⟩ := ok_L_stands (P := P) (w := w) (base := base) T
  refine ⟨fd, ok0 F sc_law (fun vs H Q E h => ?_) (fun cdv A outer s H vs Q E hr h => ?_), FunD.bindsN F fun _ _ _ _ _ _ us hl => match us, hl with | [_], _ => rfl, F⟩
  · (repeat (obtain ⟨_, h⟩ := h)); subst_vars; rfl
  · obtain ⟨a, ns, rfl, hS, hns, k⟩ := h
    refine ⟨_, (pss_cons (ps_set (i := 1) sc_law.nd rfl (Or.inl rfl) (pe_call G_L_cell_at (hr.mono (by decide)) rfl (g_L_cell_at T) (kp_L_cell_at T) b_L_cell_at .nil pass0 (pa_cons (pv 0) (pa_cons pe_int pa_nil))))
        (pss_cons (ps_set (i := 2) sc_law.nd rfl (Or.inl rfl) (pe_call G_L_room_by (hr.mono (by decide)) rfl (g_L_room_by T) (kp_L_room_by T) b_L_room_by .nil pass0 (pa_cons (pe_call G_L_cell_at (hr.mono (by decide)) rfl (g_L_cell_at T) (kp_L_cell_at T) b_L_cell_at .nil pass0 (pa_cons (pv 0) (pa_cons pe_int pa_nil))) pa_nil)))
        (pss_cons (ps_set (i := 3) sc_law.nd rfl (Or.inl rfl) (pe_call G_L_pace_by (hr.mono (by decide)) rfl (g_L_pace_by T) (kp_L_pace_by T) b_L_pace_by .nil pass0 (pa_cons (pe_call G_L_cell_at (hr.mono (by decide)) rfl (g_L_cell_at T) (kp_L_cell_at T) b_L_cell_at .nil pass0 (pa_cons (pv 0) (pa_cons pe_int pa_nil))) pa_nil)))
        (pss_cons (ps_set (i := 4) sc_law.nd rfl (Or.inl rfl) (pe_call G_L_opened (hr.mono (by decide)) rfl (g_L_opened T) (kp_L_opened T) b_L_opened .nil pass0 (pa_cons (pv 3) (pa_cons (pv 2) (pa_cons (pe_call G_L_cell_at (hr.mono (by decide)) rfl (g_L_cell_at T) (kp_L_cell_at T) b_L_cell_at .nil pass0 (pa_cons (pv 0) (pa_cons pe_int pa_nil))) pa_nil)))))
        (pss_cons (ps_set (i := 5) sc_law.nd rfl (Or.inl rfl) (pe_call G_L_crowd (hr.mono (by decide)) rfl (g_L_crowd T) (kp_L_crowd T) b_L_crowd .nil pass0 (pa_cons (pv 4) (pa_cons (pe_call G_L_many (hr.mono (by decide)) rfl (g_L_many T) (kp_L_many T) b_L_many .nil pass0 (pa_cons (pv 0) (pa_cons (pv 2) pa_nil))) (pa_cons (pv 1) (pa_cons (pe_call G_L_cell_at (hr.mono (by decide)) rfl (g_L_cell_at T) (kp_L_cell_at T) b_L_cell_at .nil pass0 (pa_cons (pv 0) (pa_cons pe_int pa_nil))) pa_nil))))))
        (pss_cons (ps_set (i := 6) sc_law.nd rfl (Or.inl rfl) (pe_fldK (K := K) rfl (pv 4) rfl))
        (pss_cons (ps_for PassesOwn.never rfl (pi_listK (K := K) rfl (pe_slice (sl_listK (K := K) rfl) (pv 0) (po_some pe_int) (po_some pe_int))) (pg_name (i := 7) sc_law.nd rfl (Or.inl rfl))
        (pss_cut (ps_if (pt_cmpR op_eq (pe_call G_L_mix (hr.mono (by decide)) rfl (g_L_mix T) (kp_L_mix T) b_L_mix .nil pass0 (pa_cons (pv 7) (pa_cons pe_int (pa_cons pe_int pa_nil)))) pe_int (nomark _)) (pss_cons (ps_set (i := 8) sc_law.nd rfl (Or.inl rfl) (pe_call G_L_few (hr.mono (by decide)) rfl (g_L_few T) (kp_L_few T) b_L_few .nil pass0 (pa_cons (pv 7) (pa_cons (pe_callB (call_lenK (K := K) rfl) rfl (b_len T) (by decide +kernel) (pa_cons (pv 5) pa_nil)) pa_nil))))
        (pss_cons (ps_set (i := 5) sc_law.nd rfl (Or.inl rfl) (pe_call G_L_run (hr.mono (by decide)) rfl (g_L_run T) (kp_L_run T) b_L_run .nil pass0 (pa_cons (pv 4) (pa_cons (pv 5) (pa_cons (pv 8) (pa_cons (pv 7) pa_nil))))))
        (pss_cons (ps_set (i := 6) sc_law.nd rfl (Or.inl rfl) (pe_op op_add (pv 6) (pv 8)))
        (pss_one (ps_if (pt_cmpR op_isN (pv 5) pe_non (nomark _)) (pss_one (ps_ret pe_bl))
        pss_nil)))))
        (pss_one (ps_set (i := 5) sc_law.nd rfl (Or.inl rfl) (pe_call G_L_done (hr.mono (by decide)) rfl (g_L_done T) (kp_L_done T) b_L_done .nil pass0 (pa_cons (pv 4) (pa_cons (pv 5) (pa_cons (pv 6) (pa_cons (pv 7) (pa_cons (pv 1) pa_nil)))))))))
        (pss_one (ps_if (pt_not (pt_val (pe_call G_L_stands (hr.mono (by decide)) rfl (g_L_stands T) (kp_L_stands T) b_L_stands .nil pass0 (pa_cons (pv 4) (pa_cons (pv 5) (pa_cons (pv 6) (pa_cons (pv 7) pa_nil))))))) (pss_one (ps_ret pe_bl))
        pss_nil))))
        (pss_one (ps_ret (pe_call G_L_stands (hr.mono (by decide)) rfl (g_L_stands T) (kp_L_stands T) b_L_stands .nil pass0 (pa_cons (pv 4) (pa_cons (pv 5) (pa_cons (pv 6) (pa_cons (pv 1) pa_nil)))))))))))))), ?_⟩
    refine' q_asg ?h fun H1 e1 => ?_
    case h => tm_at "rr.ev"
    have hS := ex_l e1 hS
    refine' q_asg ?h fun H2 e2 => ?_
    case h => tm_at "rr.ev"
    have hS := ex_l e2 hS
    refine' q_asg ?h fun H3 e3 => ?_
    case h => tm_at "rr.ev"
    have hS := ex_l e3 hS
    have hro := roomBy_ok (cellAt ns 2)
    have hpa := paceBy_ok (cellAt ns 3)
    generalize roomBy (cellAt ns 2) = ro at *
    generalize paceBy (cellAt ns 3) = pa at *
    refine q_call (vs := [.int pa, .int ro, .int (cellAt ns 3)]) ?h4 fun H4 e4 => ⟨pa, ro, cellAt ns 3, rfl, hpa.1, hpa.2, hro.1, hro.2, fun no hn0 hn1 p H5 np D5 => ?_⟩
    case h4 => tm_at "rr.ev"
    have ok0 : (⟨pa, ro, no, []⟩ : Dk).Ok := ⟨hpa.1, hpa.2, hro.1, hro.2, hn0, by show (0 : Int) ≤ ro; omega, List.nodup_nil, fun c hc => by cases hc⟩
    have hS4 := ex_l e4 hS
    have hS := ex_l (e4.trans D5.fr) hS
    have hm := manyBy_ok (ns := ns) hro.1
    refine q_call (vs := [.ref p, .int (manyBy ns ro), .int (cellAt ns 0), .int (cellAt ns 2)]) ?h5 fun H6 e6 => ⟨H4, p, ⟨pa, ro, no, []⟩, manyBy ns ro, cellAt ns 0, cellAt ns 2, rfl, D5.ex e6, ok0, rfl, hm.1, hm.2, fun G b H7 d' eG D7 dd hl7 => ?_⟩
    case h5 => exact ea_cons (ev_var rfl) (ea_cons (ev_call (ea_cons (ev_var rfl) (ea_cons (ev_var rfl) ea_nil)) (cv_L_many hS hro.1 hro.2)) (ea_cons (ev_var rfl) (ea_cons (ev_call (ea_cons (ev_var rfl) (ea_cons ev_c ea_nil)) (cv_L_cell_at hS (by decide))) ea_nil)))
    have hS7 := ex_l (e6.trans (Ex.refl H6)) hS
    obtain ⟨ok7, _, _, hno7⟩ := dd.ok ok0
    have hS8 : SqL K H7 a (ns.map V.int) := ex_l (eG.trans D7.fr) hS4
    obtain ⟨l7, ps7, DD7, ff7⟩ := id D7
    refine q_asg (ev_now T (ev_var rfl) DD7) fun H8 e8 => ?_
    have D8 := D7.ex e8
    obtain ⟨cs, hcs, hcl⟩ := cut_cells ns
    have hsl : EvL (tSl (rSlL K) (tVar 0) (tPart (tC (.int 4))) (tPart (tC (.int 84)))) [some (.ref a), some (.int (cellAt ns 0)), some (.int ro), some (.int pa), some (.ref p), some (.ref b), some (.int d'.now), none, none] H8 (cs.map V.int) := by
      rw [← hcs]
      exact el_sl (ev_var rfl) (eo_some ev_c) (eo_some ev_c) (ex_l e8 hS8)
    refine q_forNLn (K := K) hsl (fun z i σ' H' => ∃ v7 v8 F' b' e, σ' = [some (.ref a), some (.int (cellAt ns 0)), some (.int ro), some (.int pa), some (.ref p), some (.ref b'), some (.int e.now), v7, v8] ∧ F' z = some (.lst (cs.map V.int)) ∧ DeskAt K F' H' p e ∧ e.Ok ∧ LineAt F' b' e.line)
      (fun z H9 nz e9 hz => ⟨none, none, _, b, d', rfl, upd_same, D8.new nz e9 hz, ok7, hl7.ex (Ex.new (ex_none D8.fr nz))⟩) (fun z i σ' H' _ ⟨v7, v8, F', b', e, _, hz, De, _⟩ => sq_of (De.fr _ _ hz)) ?_ ?_
    · rintro z i x σ' H' hi ⟨v7, v8, F', b', e, rfl, hz, De, oke, hle⟩
      obtain ⟨cell, rfl⟩ : ∃ cell, x = V.int cell := by
        rw [List.getElem?_map] at hi
        cases hc : cs[i]? with
        | none => rw [hc] at hi; cases hi
        | some cell => rw [hc] at hi; exact ⟨cell, (Option.some.inj hi).symm⟩
      have h60 := oke.len60
      refine q_cut (M := fun σ' H' => ∃ v8 F' b' e, σ' = [some (.ref a), some (.int (cellAt ns 0)), some (.int ro), some (.int pa), some (.ref p), some (.ref b'), some (.int e.now), some (.int cell), v8] ∧ F' z = some (.lst (cs.map V.int)) ∧ DeskAt K F' H' p e ∧ e.Ok ∧ LineAt F' b' e.line) ?_ ?_
      · refine' s_if (b := decide (mix cell 10169 3 = 0)) (et_mix0 ?h) (fun hb H9 e9 => ?_) (fun hb H9 e9 => ?_)
        case h => tm_at "rr.ev"
        · have De := De.ex e9
          obtain ⟨qs, hq, hL⟩ := id hle
          have hq60 : qs.length = e.line.length := by rw [← List.length_map (f := fun q : Pr => q.2), hL]
          have la : ((qs.map fun q => V.ref q.1).length : Int) = (qs.length : Int) := by rw [List.length_map]
          have hf := fewBy_ok (c := cell) (n := (qs.length : Int)) (by omega)
          refine q_asg (v := .int (fewBy cell (qs.length : Int))) (ev_is (ev_call (ea_cons (ev_var rfl) (ea_cons (ev_cb (ea_cons (ev_var rfl) ea_nil) (rc_lenS (sq_of (De.fr _ _ hq.l)))) ea_nil)) (cv_L_few (by omega) (by rw [la]; omega))) (by rw [la])) fun H10 e10 => ?_
          generalize fewBy cell (qs.length : Int) = n at *
          refine q_call (vs := [.ref p, .ref b', .int n, .int cell]) (ea_cons (ev_var rfl) (ea_cons (ev_var rfl) (ea_cons (ev_var rfl) (ea_cons (ev_var rfl) ea_nil)))) fun H11 e11 => ⟨F', p, e, b', n, cell, rfl, De.ex (e10.trans e11), oke, hle, hf.1, hf.2, fun G2 b2 H12 eG2 D12 hl12 => ?_⟩
          obtain ⟨okn, hnow, _, _⟩ := runN_ok oke n.toNat
          refine q_asg (v := .int (e.runN n.toNat).2.now) (ev_is (ev_op (ev_var rfl) (ev_var rfl) rv_I0) (by rw [hnow]; simp only [V.int.injEq]; omega)) fun H13 e13 => ?_
          exact s_when (b := false) (et_is (et_test (ev_op (ev_var rfl) ev_c rv_isN)) rfl) (fun h => by cases h) fun _ H14 e14 => ⟨_, G2, b2, _, rfl, eG2 _ _ hz, D12.ex (e13.trans e14), okn, hl12⟩
        · refine s_call (vs := [.ref p, .ref b', .int e.now, .int cell, .int (cellAt ns 0)]) (ea_cons (ev_var rfl) (ea_cons (ev_var rfl) (ea_cons (ev_var rfl) (ea_cons (ev_var rfl) (ea_cons (ev_var rfl) ea_nil))))) fun H10 e10 => ⟨F', p, e, b', cell, cellAt ns 0, rfl, De.ex (e9.trans e10), oke, hle, fun G2 b2 H11 d2 eG2 D11 dd2 hl11 => ?_⟩
          obtain ⟨ok2, _, _, hno2⟩ := dd2.ok oke
          exact ⟨v8, G2, b2, d2, by rw [hno2]; rfl, eG2 _ _ hz, D11, ok2, hl11⟩
      · rintro σ' H9 ⟨v8, F', b', e, rfl, hz, De, oke, hle⟩
        exact s_when (b := false) (et_is (et_not (et_B (ev_call (ea_cons (ev_var rfl) (ea_cons (ev_var rfl) (ea_cons (ev_var rfl) (ea_cons (ev_var rfl) ea_nil)))) (cv_L_stands De oke hle)))) rfl) (fun h => by cases h) fun _ H10 e10 => ⟨_, _, F', b', e, rfl, hz, De.ex e10, oke, hle⟩
    · rintro z σ' H' ⟨v7, v8, F', b', e, rfl, hz, De, oke, hle⟩
      exact s_ret (ev_call (ea_cons (ev_var rfl) (ea_cons (ev_var rfl) (ea_cons (ev_var rfl) (ea_cons (ev_var rfl) ea_nil)))) (cv_L_stands De oke hle)) fun H9 e9 => k H9
end Rr
namespace Rr
open PySem PySem.Spec PyProof.Rows L2
theorem facts {P : Program} {w : World} {K : PySem.W.Frag} {h : Heap} {mg : Str → Option Value} {f : Addr} (X : K.In h) (G : h.Ns mainGlobals mg) (hfa : mg ("law" : Str) = some (.ref f)) (c : He.SaysD fa fn K) :
    ∃ fd : FuncData, (∀ (s : Shared) (v : Value), BindsTo s fd ⟨[v], []⟩ [("_law_script", v)]) ∧ ∀ base : Heap, K.In base → base.Ns mainGlobals mg → FnOk P w K mg base CX0 7 f fd ["_law_script"] (sp_law K) := by
  have T : Txt K mg := ⟨c, h, X, G⟩
  have e := hfa.symm.trans (g_law T)
  cases e
  obtain ⟨fd, F⟩ := f_law T
  have b := FunD.bindsA (ps := ["_law_script"]) F fun _ _ _ _ _ _ us hl => match us, hl with | [_], _ => rfl
  refine ⟨fd, fun s v => b s [v] rfl, fun base _ _ => ?_⟩
  obtain ⟨fd', G', _, F'⟩ := ok_law (P := P) (w := w) (base := base) T
  exact (funD_same F F') ▸ G'
end Rr
open PySem PySem.W PySem.Calls PyProof.Rows
set_option maxRecDepth 100000 in
set_option maxHeartbeats 0 in
theorem PySem.Challenge.cw_rrdesk_k08_the_line_by_who_ran_holds : PySem.Challenge.rw_rrdesk_k08_the_line_by_who_ran.Holds := by
  w_on; o_law
  refine HandSHeadRun.head_any (r := OpenLaw.row PySem.Challenge.rw_rrdesk_k08_the_line_by_who_ran) (q := view (OpenLaw.row PySem.Challenge.rw_rrdesk_k08_the_line_by_who_ran).prog [58]) (H := Rr.hk) (ob := Rr.ob) (M := 6000) (loose := Rr.loose) (d := HandSHeadRun.topDef (OpenLaw.row PySem.Challenge.rw_rrdesk_k08_the_line_by_who_ran).prog 58) (kwd := []) Rr.ob_eq
    (by kernel_rfl) (fun s => by kernel_rfl) Rr.run (by kernel_rfl) (by kernel_rfl) (by kernel_rfl) (by rfl) (by first | assumption | decide +kernel) (by decide +kernel) ⟨rfl, rfl, rfl, rfl, rfl, by decide +kernel⟩ ?hw ?hc
  case hw => w_witness2
  case hc =>
    refine L2.walk_ofE (l := PySem.Challenge.rw_rrdesk_k08_the_line_by_who_ran) (n := 63) (k := 7) (x := "_law_script") (CX := L2.CX0) rfl (by decide) (by kernel_rfl) ⟨rfl, by decide, by decide⟩ ?F (fun _ _ _ _ z => z)
    intro w mg fa h Y G hmg0
    obtain ⟨K, KX, c⟩ := Y
    have hmg : mg ("law" : PySem.Str) = some (.ref fa) := by
      have e : (HandSHeadRun.topDef (OpenLaw.row PySem.Challenge.rw_rrdesk_k08_the_line_by_who_ran).prog 58).name = ("law" : PySem.Str) := by kernel_rfl
      rw [← e]
      exact hmg0
    obtain ⟨fd, hb, hF⟩ := Rr.facts (P := (PySem.Challenge.rw_rrdesk_k08_the_line_by_who_ran).prog) (w := w) KX G hmg c
    exact ⟨K, fd, Rr.sp_law K, KX, hb, fun H a ns hl _ hS => ⟨a, ns, rfl, hS, hl, fun _ => rfl⟩, hF⟩

#print axioms PySem.Challenge.cw_rrdesk_k08_the_line_by_who_ran_holds

