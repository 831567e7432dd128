import PyProof.Rows.All
import PyProof.Rows.StrRev
import Wide.All
import OpenK.AllK
import Wide.FinOn
import KE.KStateDown
import HandS.Base
import HandS.Call
import HandS.List
import HandS.Comp
import HandS.Ends
import HandS.Dict
import HandS.Iter
import HandS.Text
import HandS.More
import HandS.Codes
import HandS.Conv
import HandS.Exc
import HandS.TryOnly
import HandS.ExcOwn
import HandS.Words
import HandS.WordsList
import HandS.WordsExc
import HandS.Defaults
import HandS.IsInst
import HandS.Style
import HandS.SortKw
import HandS.ExcValue
import KE.SortKeyHeap
import HandS.Evl
import HandS.Head0
import HandS.Head1
import HandS.Head2
import HandS.HeadEnd
import HandS.HeadHook1
import HandS.HeadHook2
import HandS.ExcCtx
import HandS.HotCalls
import HandS.ExcIs
import HandS.Hot
import PySem.Challenge.RW_rrdesk_k07_bells
set_option Elab.async false
set_option linter.all false
set_option maxRecDepth 100000
set_option maxHeartbeats 4000000
namespace Rr
open PySem PySem.Spec PyProof.Rows L2 Evl
/-! ### where an exception is handled: the end of a list, sums, comprehensions, isinstance -/
section
variable {prog : Program} {w : World} {A : Around} {E : Value → Shared → Prop} {s : Shared} {t l x1 : Addr} {i : Nat} {vs : Array Value}
theorem end_hot {Q : Option Value → Shared → Prop} (hot : HotX.HotAt A x1 s.heap) (nx : x1 ≠ t) (hi : s.heap.IsListIter t l i) (hl : s.heap.IsList l vs) (hn : vs[i]? = none) (q : ∀ h', (∀ b o, b ≠ t → s.heap.get? b = some o → h'.get? b = some o) → Q none { s with heap := h' }) : wpAny (model prog w) A (pyNext (.ref t)) Q E s := by
  obtain ⟨o1, g1, c1, d1⟩ := id hi
  obtain ⟨o2, g2, _, n2, d2⟩ := hl
  obtain ⟨hh, o3, v3, g3, d3, k3⟩ := hot
  have ht := hi.typeIs
  unfold pyNext
  refine wpAny_bind (wpAny_attempt (wpAny_callSpecial?_slot (name := Str.ofString "__next__") ht slot_listiter_next (wpAny_call_entry slot_listiter_next ht entry_listiter_next ?_ (args_listiter_next _))))
  show wpAny _ _ (field (.ref t) 0 >>= _) _ _ s
  refine wpAny_bind (wpAny_field g1 d1 (x := .ref l) rfl ?_)
  show wpAny _ _ (if (Value.ref l == Value.none) = true then _ else _) _ _ s
  rw [if_neg (fun h : (Value.ref l == Value.none) = true => Bool.noConfusion h)]
  show wpAny _ _ (field (.ref t) 1 >>= _) _ _ s
  refine wpAny_bind (wpAny_field g1 d1 (x := .int i 0) rfl ?_)
  show wpAny _ _ (seqItems? (.ref l) >>= _) _ _ s
  refine wpAny_bind (wpAny_seqItems g2 d2 ?_)
  simp only [Int.toNat_natCast, hn]
  refine wpAny_bind (wpAny_rule (wpAny_bind (wpAny_setField g1 d1 (by simp) ?_)))
  show wpAny _ _ (newExc (.type "StopIteration") [] >>= _) _ _ _
  refine wpAny_bind ?_
  simp only [newExc, newTuple]
  refine wpAny_bind (wpAny_newObj_type ?_ (by size_fits))
  refine wpAny_bind (m := firstArgMember _ _) (wpAny_of_eq (a := Value.none) (by first | rfl | (simp only [firstArgMember]; rfl)) ?_)
  refine wpAny_newObj_type ?_ (by size_fits)
  have g4 : (s.heap.update t (Obj.mapFields (·.setIfInBounds 0 Value.none))).get? x1 = some o3 := by rw [Heap.get?_update_other _ _ nx.symm]; exact g3
  refine HotX.raiseNew_hot ⟨hh, o3, v3, Heap.get?_push_of_some _ (Heap.get?_push_of_some _ g4), d3, k3⟩ (Nat.ne_of_lt (Heap.lt_size (Heap.get?_push_of_some _ g4))) (Heap.get?_push_size _ rfl) rfl (by first | (simp; done) | (simp; omega) | (simp only [Array.size_append]; simp; omega)) ?_
  refine wpAny_bind (wpAny_isInstance (T := "StopIteration") (b := true) ⟨_, Heap.get?_update_self _ (Heap.get?_push_size _ rfl) rfl, rfl⟩ isSubtype_stop ?_)
  refine wpAny_pure (q _ fun b o hb e => ?_)
  have e2 : (s.heap.update t (Obj.mapFields (·.setIfInBounds 0 Value.none))).get? b = some o := by rw [Heap.get?_update_other _ _ (Ne.symm hb)]; exact e
  rw [Heap.get?_update_other _ _ (Nat.ne_of_gt (Heap.lt_size (Heap.get?_push_of_some _ e2)))]
  exact Heap.get?_push_of_some _ (Heap.get?_push_of_some _ e2)
/-- a walk over a list there -/
theorem walk_hot {o1 : Obj} {v1 : Array Value} (hh : A.handled = some (.ref x1)) (d1 : o1.data = .fields v1) (k1 : v1[2]? = some .none) (nl : l ≠ t) (nx : x1 ≠ t) : Walks prog w A t [t, l, x1] [t] vs.size (fun j v => vs[j]? = some v) (fun j h => h.IsListIter t l j ∧ h.IsList l vs ∧ h.get? x1 = some o1) where
  sub := fun b hb => by rw [List.mem_singleton] at hb; rw [hb]; exact List.mem_cons_self ..
  frame := fun j h h' st k => ⟨st.1.at fun o e => k t (by simp) o e, st.2.1.at fun o e => k l (by simp) o e, k x1 (by simp) _ st.2.2⟩
  item := fun j s' Q E' hj st hQ => by
    refine wpAny_pyNext_list_item st.1 st.2.1 (x := vs[j]) (by simp [hj]) fun h' hi' hs' => ?_
    refine hQ _ h' s'.toks (by simp [hj]) ⟨hi', st.2.1.extBut hs'.extBut nl, (hs'.2 x1 nx).trans st.2.2⟩ fun b o hb e => hs'.extBut b o (fun z => hb (by simp [z])) e
  done := fun s' Q E' st hQ => end_hot ⟨hh, o1, v1, st.2.2, d1, k1⟩ nx st.1 st.2.1 (by simp) fun h' he => hQ h' s'.toks fun b o hb e => he b o (fun z => hb (by simp [z])) e
  self := fun _ _ _ _ st hQ => wpAny_pyIter_listiter st.1 hQ
theorem sum_hot {its : List Value} {ns : List Int} {Q : Value → Shared → Prop} (hot : HotX.HotAt A x1 s.heap) (hl : s.heap.IsList l its.toArray) (hi : IntsAre its ns)
    (q : ∀ h' tk t', (∀ b o, s.heap.get? b = some o → h'.get? b = some o) → Q (.int ns.sum t') { s with heap := h', toks := tk }) : wpAny (model prog w) A (call (.builtin "sum") [.ref l]) Q E s := by
  obtain ⟨hh, o3, v3, g3, d3, k3⟩ := hot
  obtain ⟨xs, ex⟩ := hi.allInts.items
  have en : numsOf (intItems xs).toList = ns := by rw [← ex]; exact hi.numsOf
  rw [nums_intItems] at en
  rw [ex] at hl
  have hx1 := Heap.lt_size g3
  refine call_sum_walkG (iter_intList hl fun s2 e2 st fp nl => ?_)
  subst e2
  refine ⟨_, _, _, _, _, _, numAt xs, rfl, walk_hot (A := A.in1) (x1 := x1) (l := l) (vs := intItems xs) hh d3 k3 nl (Nat.ne_of_lt hx1), ⟨st.1, st.2, Heap.get?_push_of_some _ g3⟩, fun b hb => ?_, (fun _ _ => intItems_at), fun h' tk t' hk => ?_⟩
  · have hz : (s.heap.push { cls := .type "list_iterator", data := .fields #[.ref l, .int 0 0] }).objs.size = s.heap.objs.size + 1 := Heap.size_push ..
    simp only [List.mem_cons, List.not_mem_nil, or_false] at hb
    rcases hb with rfl | rfl | rfl
    · exact fp _ (by simp)
    · exact fp _ (by simp)
    · show _ < (s.heap.push _).objs.size
      rw [hz]
      exact Nat.lt_succ_of_lt hx1
  · have := q h' tk t' (old_kept hk)
    rw [← en] at this
    rw [show (intItems xs).size = xs.size from by simp [intItems], preSum_eq, List.take_of_length_le (by simp)]
    exact this
end
section
variable {X : Cx}
theorem cr_sumH (hc : L2H.HotC X) : CallR X (.builtin "sum") (rSum X.K) := by
  intro pins s σ H vs us Q I r h
  obtain ⟨a, ns, rfl, hs, q⟩ := h
  obtain ⟨its, rv, hl, _⟩ := I.list hs
  obtain ⟨x1, hot⟩ := hc.at I
  rw [Vals.ref1 r]
  exact sum_hot hot hl.isList rv.ints fun h' tk t' hk => ⟨.int _, H, I.kept hk, ⟨_, rfl⟩, q⟩
/-- isinstance(e, c) of the exception that is handled -/
theorem call_isH {a D : Addr} {oe : Obj} (hp : (a, oe) ∈ X.pn) (C : ExcC X.K D) (hz : Zc (.ref D) none oe) (hf : ∃ vs, oe.data = .fields vs) : CallR X (.builtin "isinstance") (rIsE X.K D a) := by
  intro pins s σ H xs us Q I r h
  obtain ⟨c, cv, b, rfl, hcv, e, q⟩ := h
  obtain ⟨u1, u2, rfl, r1, r2⟩ := vals2 r
  obtain rfl : u1 = Value.ref a := r1
  obtain rfl := hcv _ r2
  obtain ⟨g, _⟩ := I.pin (a, oe) (List.mem_append_left _ hp)
  have J : PySem.W.InstAt s.heap a oe D none := by
    obtain ⟨vs, hv⟩ := hf
    cases oe with
    | mk oc od dt sl =>
      obtain ⟨h1, h2⟩ := hz
      dsimp only at h1 h2 hv
      subst h1 h2 hv
      exact ⟨g, rfl, rfl, trivial⟩
  exact PySem.W.kia_one (PySem.W.handS_kitx_exc C.hg C.hk C.hs C.hd C.ha C.hn C.ht C.hm) I.kIn J e (fun z => nomatch z) fun tk => ⟨.bl b, H, I.kept (t' := tk) fun _ _ z => z, rfl, q⟩
end
/-- [elt for x in l] where an exception is handled: l a list that stands; the elements' values by f -/
def tLcH (K : PySem.W.Frag) (tl : TE) (j : Nat) (te : TE) : TE := fun σ H Q => tl σ H fun y H1 => ∃ (a : Addr) (xs : List V) (f : V → V), y = .ref a ∧ SqL K H1 a xs ∧ xs.length ≤ 1000 ∧
  (∀ x ∈ xs, ∀ H2, Ex H1 H2 → ∀ Q2 : VK, (∀ H3, Ex H2 H3 → Q2 (f x) H3) → te ((wipe σ [j]).set j (some x)) H2 Q2) ∧ ∀ D H2, H1 D = none → Ex H1 H2 → H2 D = some (.lst (xs.map f)) → Q (.ref D) H2
theorem wipe_set_get {σ : L2.St} {j k : Nat} {v : V} {w : V} (e : (wipe σ [j])[k]? = some (some w)) : ((wipe σ [j]).set j (some v))[k]? = some (some w) := by
  by_cases h : k = j
  · subst h
    exact absurd rfl (show ¬ k = k from fun _ => by
      have := (wipe_some e).2
      simp at this)
  · rw [List.getElem?_set_ne (Ne.symm h)]
    exact e
theorem pe_lcH {X : Cx} {elt iter : Expr} {x : Str} {px pos : Pos} {scope : Scope} {j : Nat} {tl te : TE} (hot : L2H.HotC X) (hN : X.N.Nodup) (hi : PE X iter tl) (ok : BlkOk X.N X.env.scope scope [(x, j)])
    (hg : ∀ (s : Shared) (H : Hp) (C : Addr) (cl : List (Str × Addr)) (fp : List Addr), PG (X.blk s H scope (compEnvC scope cl C X.env) fp) (.Name x px) (gName j)) (he : ∀ (s : Shared) (H : Hp) (C : Addr) (cl : List (Str × Addr)) (fp : List Addr), PE (X.blk s H scope (compEnvC scope cl C X.env) fp) elt te)
    (hs : ∀ y, foldedSetIterable iter X.env y = pure y := by intro _; rfl) : PE X (.ListComp elt [⟨.Name x px, iter, [], 0⟩] scope pos) (tLcH X.K tl j te) := by
  refine ⟨fun pins s σ H Q I h => ?_⟩
  rw [eval_ListComp]
  obtain ⟨p, hp1, hp2⟩ := hot
  have hfree : ∀ y ∈ scope.names, y.2 = .free → ∃ c, X.env.cells.lookup y.1 = some c := fun y hy e => (ok.free y hy e).elim (fun z => I.ok.has _ (.inl z)) fun z => I.ok.has _ (.inr z)
  refine wpAny_comprehension_free (use := none) rfl hs (closure_ok hfree) ok.kind (fun y hy e => by rw [ok.uniq y hy, e]) (thn (hi.run pins s σ H _ I h) fun lv s1 ⟨y, H1, I1, ry, a, xs, f, ey, hS, hz, hev, hQ⟩ => ?_)
  subst ey
  obtain rfl : lv = Value.ref a := ry
  obtain ⟨its, rv, hl, _⟩ := I1.list hS
  refine wpAny_pyIter_list hl.isList ?_
  generalize hit : s1.heap.objs.size = it
  generalize hs2 : ({ s1 with heap := s1.heap.push { cls := .type "list_iterator", data := .fields #[.ref a, .int 0 0] } } : Shared) = s2
  have hs2h : s2.heap = s1.heap.push { cls := .type "list_iterator", data := .fields #[.ref a, .int 0 0] } := by rw [← hs2]
  have I2 : Inv X pins σ H1 s2 := by rw [← hs2]; exact I1.kept (t' := s1.toks) fun b o e => Heap.get?_push_of_some _ e
  have hn1 : H1 it = none := I1.hok.fresh (Nat.le_of_eq hit)
  have f1 : FpOk X pins H1 it := I1.fpOk (Nat.le_of_eq hit) hn1
  have hi2 : s2.heap.IsListIter it a 0 := by rw [hs2h, ← hit]; exact ⟨_, Heap.get?_push_size _ rfl, rfl, rfl⟩
  have hlt : it < s2.heap.objs.size := let ⟨_, e, _⟩ := hi2; Heap.lt_size e
  refine wpAny_newObj_type (newEnv_comp ?_) (by show 0 ≤ sizeLine; decide)
  generalize hD : s2.heap.objs.size = D
  have hDn : H1 D = none := I2.hok.fresh (Nat.le_of_eq hD)
  generalize hs3 : ({ s2 with heap := s2.heap.push { cls := .type "list", data := .seq ([] : List Value).toArray } } : Shared) = s3
  have h3 : s3.heap = s2.heap.push { cls := .type "list", data := .seq ([] : List Value).toArray } := by rw [← hs3]
  have I3 : Inv X pins σ (upd H1 D (.lst [])) s3 := by
    rw [← hs3]
    exact I2.laid (t' := s2.toks) (fun b o e => Heap.get?_push_of_some _ e) (Nat.le_of_eq hD) ⟨Nat.zero_le _, [], 0, .nil, by rw [← hD]; exact Heap.get?_push_size _ rfl⟩
  have nDi : it ≠ D := by rw [← hD]; exact Nat.ne_of_lt hlt
  have fi3 : FpOk X pins (upd H1 D (.lst [])) it := ⟨by rw [upd_ne nDi]; exact hn1, f1.2⟩
  have hlt3 : it < s3.heap.objs.size := by rw [h3, Heap.size_push]; exact Nat.lt_succ_of_lt hlt
  have f3 : ∀ b ∈ [it], FpOk X pins (upd H1 D (.lst [])) b ∧ b < s3.heap.objs.size := fun b hb => by
    rw [List.mem_singleton] at hb
    rw [hb]
    exact ⟨fi3, hlt3⟩
  have P3 := I3.pin p (List.mem_append_left _ hp2)
  have I4 := block_start I3 ok hN f3
  have pg := hg s3 (upd H1 D (.lst [])) s3.heap.objs.size (cellsFrom (s3.heap.objs.size + 1) scope.names (cloFrom X.env.cells scope.names [])) [it]
  have pe := he s3 (upd H1 D (.lst [])) s3.heap.objs.size (cellsFrom (s3.heap.objs.size + 1) scope.names (cloFrom X.env.cells scope.names [])) [it]
  show codeAny _ _ (.compStart (.ListComp elt [⟨.Name x px, iter, [], 0⟩] scope pos) 0 (.ref it) (.ref D) (compEnvC scope (cellsFrom (s3.heap.objs.size + 1) scope.names (cloFrom X.env.cells scope.names [])) s3.heap.objs.size X.env)) (compPost (model X.prog X.w) X.A X.xe none _ (.ref D) s3.heap.objs.size) { s3 with heap := pushCells (s3.heap.push { cls := .type "dict", data := .dict #[] }) scope.names }
  generalize hce : compEnvC scope (cellsFrom (s3.heap.objs.size + 1) scope.names (cloFrom X.env.cells scope.names [])) s3.heap.objs.size X.env = ce at I4 pg pe ⊢
  have cL : ce.locals = s3.heap.objs.size := by subst hce; rfl
  generalize hs4 : ({ s3 with heap := pushCells (s3.heap.push { cls := .type "dict", data := .dict #[] }) scope.names } : Shared) = s4 at I4 ⊢
  have k34 : ∀ b o, s3.heap.get? b = some o → s4.heap.get? b = some o := fun b o e => by rw [← hs4]; exact pushCells_keeps _ _ _ _ (Heap.get?_push_of_some _ e)
  have hi4 : s4.heap.IsListIter it a 0 := hi2.at fun o e => k34 _ _ (by rw [h3]; exact Heap.get?_push_of_some _ e)
  have npx : p.1 ≠ it := fun z => by
    have := fi3.2.2.2.2.2 p (List.mem_append_left _ hp2)
    exact this z
  have npl : p.1 ≠ ce.locals := by rw [cL]; exact Nat.ne_of_lt (Heap.lt_size P3.1)
  have J4 : Inv (X.blk s3 (upd H1 D (.lst [])) scope ce [it]) [p] (wipe σ [j]) (upd H1 D (.lst [])) s4 := I4.pins_of fun q hq => by
    rw [List.mem_singleton] at hq
    rw [hq]
    refine ⟨k34 _ _ P3.1, P3.2.1, npl, fun hm => ?_, P3.2.2.2.2⟩
    exact (List.mem_cons.mp (I3.stkSub _ hm)).elim P3.2.2.1 P3.2.2.2.1
  have eD : Ex H1 (upd H1 D (.lst [])) := Ex.new hDn
  generalize hH3 : upd H1 D (.lst []) = H3 at *
  have hD3 : H3 D = some (.lst []) := by rw [← hH3]; exact upd_same
  have hotB : ∀ {H' : Hp} {s' : Shared} {ps : List (Addr × Obj)}, Inv (X.blk s3 H3 scope ce [it]) (p :: ps) (wipe σ [j]) H' s' → HotX.HotAt X.A p.1 s'.heap := fun I' => by
    obtain ⟨hh, v1, d1, k1⟩ := hp1
    exact ⟨hh, p.2, v1, (I'.pin p (List.mem_append_right _ (List.mem_cons_self ..))).1, d1, k1⟩
  have loop : codeAny (model X.prog X.w) X.A (.compLoop (.ListComp elt [⟨.Name x px, iter, [], 0⟩] scope pos) 0 (.ref it) (.ref D) ce) (compPost (model X.prog X.w) X.A X.xe none (fun v s' => EP X pins σ Q v s') (.ref D) s3.heap.objs.size) s4 := by
    refine compLoop_any (fun n s' => ∃ (i : Nat) (H' : Hp), n = xs.length - i ∧ i ≤ xs.length ∧ Inv (X.blk s3 H3 scope ce [it]) [p] (wipe σ [j]) H' s' ∧ s'.heap.IsListIter it a i ∧ H' it = none ∧ Ex H1 H' ∧ H' D = some (.lst ((xs.take i).map f))) ?_ xs.length ⟨0, H3, rfl, Nat.zero_le _, J4, hi4, fi3.1, eD, hD3⟩
    rintro n s5 ⟨i, H5, rfl, hi, I5, st5, n5, e5, hD5⟩
    obtain ⟨its5, rv5, hl5, _⟩ := I5.list (ex_l e5 hS)
    have nL : it ≠ ce.locals := (I5.ok.exf it (List.mem_singleton.mpr rfl)).1
    have nC : ∀ y c, ce.cells.lookup y = some c → c ≠ it := fun y c e => (I5.ok.exf it (List.mem_singleton.mpr rfl)).2 y c e
    have nP : ∀ q ∈ ([] : List (Addr × Obj)) ++ [p], q.1 ≠ it := fun q hq => by
      rw [List.nil_append, List.mem_singleton] at hq
      rw [hq]
      exact npx
    by_cases hlt5 : i < xs.length
    · obtain ⟨v, hv⟩ : ∃ v, xs[i]? = some v := ⟨_, List.getElem?_eq_getElem hlt5⟩
      obtain ⟨u, hu, ru⟩ := rv5.get hv
      refine wpAny_pyNext_list_item st5 hl5.isList (x := u) (by simpa using hu) fun h6 st6 sb6 => ?_
      have I6 : Inv (X.blk s3 H3 scope ce [it]) [p] (wipe σ [j]) H5 { s5 with heap := h6 } := I5.turned (t' := s5.toks) (fun b o hb e => (sb6.2 b hb).trans e) n5 nL (.inl (List.mem_singleton.mpr rfl)) nC nP
      obtain ⟨oi, ei, ci, di⟩ := id st6
      have nfs : it ∉ (X.blk s3 H3 scope ce [it]).fs := I5.ok.exfs it (List.mem_singleton.mpr rfl)
      have I7 : Inv (X.blk s3 H3 scope ce [it]) [p, (it, oi)] (wipe σ [j]) H5 { s5 with heap := h6 } := I6.pins_of fun q hq => by
        rcases List.mem_cons.mp hq with rfl | hq
        · exact I6.pin q (List.mem_append_right _ (List.mem_cons_self ..))
        · rw [List.mem_singleton] at hq
          rw [hq]
          exact ⟨ei, n5, nL, nfs, fun w z => by rw [di] at z; cases z⟩
      refine go_of (s := { s5 with heap := h6 }) ei ci di (by decide) ?_
      refine thnF (pg.run _ { s5 with heap := h6 } _ H5 v u (fun σ' H' => σ' = (wipe σ [j]).set j (some v) ∧ H' = H5) I7 ru ⟨rfl, rfl⟩) fun _ s8 ⟨σ8, H8, I8, e8, eH8⟩ => ?_
      subst e8 eH8
      refine thnF ((pts_nil (X := X.blk s3 H3 scope ce [it])).run _ s8 _ H8 (fun b H' => b = true ∧ H' = H8) I8 ⟨rfl, rfl⟩) fun b s9 ⟨H9, I9, eb, eH9⟩ => ?_
      subst eb eH9
      rw [if_pos rfl]
      refine thnF (pe.run _ s9 _ H9 _ I9 (hev v (List.mem_of_getElem? hv) H9 e5 (fun r H' => r = f v ∧ Ex H9 H') fun H' e' => ⟨rfl, e'⟩)) fun z s10 ⟨yv, H10, I10, r10, ey, e10⟩ => ?_
      subst ey
      refine app_ok (X := X.blk s3 H3 scope ce [it]) I10 (e10 _ _ hD5) (sz_lt (by rw [List.length_map]; have := List.length_take_le i xs; omega)) r10 fun s11 I11 => ?_
      have P11 := I11.pin (it, oi) (List.mem_append_right _ (List.mem_cons_of_mem _ (List.mem_cons_self ..)))
      refine ⟨xs.length - (i + 1), by omega, i + 1, _, rfl, hlt5, ?_, ⟨oi, P11.1, ci, di⟩, P11.2.1, ?_, ?_⟩
      · refine (I11.pins_of (pins' := [p]) fun q hq => I11.pin q (List.mem_append_right _ (by rw [List.mem_singleton] at hq; rw [hq]; exact List.mem_cons_self ..))).weak ?_ fun k w e => ?_
        · rw [List.length_set]
        · exact wipe_set_get e
      · exact Ex.mut (e5.trans e10) hDn
      · rw [upd_same, List.take_succ, hv, List.map_append]
        rfl
    · have ex : i = xs.length := by omega
      subst ex
      have hot5 := hotB I5
      refine end_hot hot5 npx st5 hl5.isList (by simp; exact Nat.le_of_eq rv5.length.symm) fun h6 k6 => ?_
      have I6 : Inv (X.blk s3 H3 scope ce [it]) [p] (wipe σ [j]) H5 { s5 with heap := h6 } := I5.turned (t' := s5.toks) (fun b o hb e => k6 b o hb e) n5 nL (.inl (List.mem_singleton.mpr rfl)) nC nP
      have I7 : Inv X pins σ H5 { s5 with heap := h6 } := I3.call' (s' := { s5 with heap := h6 }) (ch := [it]) I6.os I6.base I6.hok I6.bare fun b hb => by
        rw [List.mem_singleton] at hb
        rw [hb]
        exact ⟨fi3.2.2.2.1, fi3.2.1, fi3.2.2.2.2.1, fi3.2.2.2.2.2⟩
      have nCl : H5 s3.heap.objs.size = none := by
        have z : H5 ce.locals = none := I6.free
        rw [cL] at z
        exact z
      obtain ⟨m, hm, _⟩ := I6.loc
      have hm : h6.Ns ce.locals m := hm
      rw [cL] at hm
      refine ⟨m, hm, fun h7 sb7 => ?_⟩
      obtain ⟨f0, f1', f2, f3', f4, f5⟩ : FpOk X pins H5 s3.heap.objs.size := I3.fpOk (Nat.le_refl _) nCl
      rw [List.take_length] at hD5
      exact ⟨.ref D, H5, I7.turned (t' := s5.toks) (fun b o hb e => (sb7.2 b hb).trans e) f0 f1' f3' f4 f5, rfl, hQ D H5 hDn e5 hD5⟩
  exact codeAny_compStart_list loop (wpAny_pyIter_listiter hi4 loop)
/-! ### a def that is asked about the exception that is handled -/
def excNames : List Str := ["NoName", "NoRank", "NoSpan", "NoDesk", "Known", "Unknown", "Full", "NotReady", "IsReady"]
def excWords : List Str := ["name", "rank", "span", "desk", "known", "unknown", "full", "awake", "ready"]
abbrev excAt (K : PySem.W.Frag) (i : Nat) : Addr := He.ga K (excNames.getD i "")
def excB (K : PySem.W.Frag) (D : Addr) : Bool := decide (PySem.W.findIn K (.ref D) "__getattribute__" = some (some (.builtin "BaseException.__getattribute__"))) && (decide (PySem.W.findIn K (.ref D) "__getattr__" = some none) && (decide (PySem.W.subIn K (.ref D) (.type "BaseException") = some true) && (PySem.W.hasDictIn K D && (decide (PySem.W.findIn K (.ref D) "__class__" = some (some (.builtin "object.__class__"))) &&
  (decide (PySem.W.specialIn K (.builtin "object.__class__") "__get__" = some (some (.builtin "getset_descriptor.__get__"))) && (decide (PySem.W.takesIn K (.builtin "object.__class__") = some true) && decide (PySem.W.mroIn K D (.type "object") = some true)))))))
theorem excB_ok {K : PySem.W.Frag} {D : Addr} (h : excB K D = true) : ExcC K D := by
  obtain ⟨h1, h⟩ := He.ba h
  obtain ⟨h2, h⟩ := He.ba h
  obtain ⟨h3, h⟩ := He.ba h
  obtain ⟨h4, h⟩ := He.ba h
  obtain ⟨h5, h⟩ := He.ba h
  obtain ⟨h6, h⟩ := He.ba h
  obtain ⟨h7, h8⟩ := He.ba h
  exact ⟨of_decide_eq_true h1, of_decide_eq_true h2, of_decide_eq_true h3, h4, of_decide_eq_true h5, of_decide_eq_true h6, of_decide_eq_true h7, of_decide_eq_true h8⟩
/-- what is asked of the classes of exceptions, beside the facts of the head -/
def excK (K : PySem.W.Frag) : Bool := (List.range 9).all fun i => excB K (excAt K i) && (decide (PySem.W.kitOne K (.ref (excAt K i)) (.type "ValueError") = some true) && decide (PySem.W.exmOne K (.ref (excAt K i)) (.ref (He.ga K "DeskError")) = some true) && (List.range 9).all fun j => decide (PySem.W.kitOne K (.ref (excAt K i)) (.ref (excAt K j)) = some (decide (j = i))) && decide (PySem.W.exmOne K (.ref (excAt K i)) (.ref (excAt K j)) = some (decide (j = i))))
structure ExcKs (K : PySem.W.Frag) : Prop where
  c : ∀ i, i < 9 → ExcC K (excAt K i)
  v : ∀ i, i < 9 → PySem.W.kitOne K (.ref (excAt K i)) (.type "ValueError") = some true
  d : ∀ i, i < 9 → PySem.W.exmOne K (.ref (excAt K i)) (.ref (He.ga K "DeskError")) = some true
  k : ∀ i j, i < 9 → j < 9 → PySem.W.kitOne K (.ref (excAt K i)) (.ref (excAt K j)) = some (decide (j = i))
  x : ∀ i j, i < 9 → j < 9 → PySem.W.exmOne K (.ref (excAt K i)) (.ref (excAt K j)) = some (decide (j = i))
theorem excK_ok {K : PySem.W.Frag} (h : excK K = true) : ExcKs K := by
  have key : ∀ i, i < 9 → ExcC K (excAt K i) ∧ PySem.W.kitOne K (.ref (excAt K i)) (.type "ValueError") = some true ∧ PySem.W.exmOne K (.ref (excAt K i)) (.ref (He.ga K "DeskError")) = some true ∧ ∀ j, j < 9 → PySem.W.kitOne K (.ref (excAt K i)) (.ref (excAt K j)) = some (decide (j = i)) ∧ PySem.W.exmOne K (.ref (excAt K i)) (.ref (excAt K j)) = some (decide (j = i)) := fun i hi => by
    obtain ⟨h1, h2⟩ := He.ba (List.all_eq_true.mp h i (List.mem_range.mpr hi))
    obtain ⟨h2, h3⟩ := He.ba h2
    obtain ⟨h2, h4⟩ := He.ba h2
    refine ⟨excB_ok h1, of_decide_eq_true h2, of_decide_eq_true h4, fun j hj => ?_⟩
    obtain ⟨h5, h6⟩ := He.ba (List.all_eq_true.mp h3 j (List.mem_range.mpr hj))
    exact ⟨of_decide_eq_true h5, of_decide_eq_true h6⟩
  exact ⟨fun i hi => (key i hi).1, fun i hi => (key i hi).2.1, fun i hi => (key i hi).2.2.1, fun i j hi hj => ((key i hi).2.2.2 j hj).1, fun i j hi hj => ((key i hi).2.2.2 j hj).2⟩
/-- the hook: the facts, and one test more -/
def hookE (n : Nat) (fa : List He.Fa) (fn : List He.DefD) (ex : PySem.W.Frag → Bool) : PySem.W.Hook where
  α := He.AlD × Bool
  obs := fun s => (He.obsDG n fa fn s.heap.get?, ex (He.frG s.heap.get? (He.asD s.heap.get? n)))
  val := fun _ => (He.valD fn, true)
  says := fun _ h => ∃ K : PySem.W.Frag, K.In h ∧ He.SaysD fa fn K ∧ ex K = true
  of := fun _ _ e => ⟨_, He.frG_in, congrArg (fun z : He.AlD × Bool => z.1) e, congrArg (fun z : He.AlD × Bool => z.2) e⟩
  keeps := fun _ _ _ ⟨K, hK, c⟩ k => ⟨K, PySem.W.Frag.In.keeps hK k, c⟩
def obsEG (n : Nat) (fa : List He.Fa) (fn : List He.DefD) (ex : PySem.W.Frag → Bool) (g : Addr → Option Obj) : He.AlD × Bool := (He.obsDG n fa fn g, ex (He.frG g (He.asD g n)))
theorem obsEG_eq {n : Nat} {fa : List He.Fa} {fn : List He.DefD} {ex : PySem.W.Frag → Bool} {g : Addr → Option Obj} {s : Shared} (h : ∀ a, g a = s.heap.get? a) : obsEG n fa fn ex g = (hookE n fa fn ex).obs s := by
  have e : g = s.heap.get? := funext h
  rw [e] <;> rfl
/-- what such a def promises: of the i-th class it tells the i-th word -/
structure FnE (P : Program) (w : World) (K : PySem.W.Frag) (mg : Str → Option Value) (base : Heap) (k : Nat) (f : Addr) (fd : FuncData) (x : Str) : Prop where
  run : ∀ (A : Around) (outer : List Env) (s : Shared) (H : Hp) (args : Args) (p : Addr × Obj) (i : Nat) (Q : VK), i < 9 → Zc (.ref (excAt K i)) none p.2 → L2H.RoomH k A → L2H.Hot1 A p → L2H.PinOk outer H s p → Env0 P w K mg base A outer s H → BindsTo s fd args [(x, .ref p.1)] → RetV (.str (excWords.getD i "")) H Q →
    codeAny (model P w) A (.call (.ref f) args) (CR CX0 outer P w H s Q E0) s
theorem FnE.of {P : Program} {w : World} {K : PySem.W.Frag} {mg : Str → Option Value} {base : Heap} {x y qual : Str} {params : Arguments} {body : List Stmt} {scope : Scope} {f : Addr} {fd : FuncData} {N : List Str} {k : Nat} (F : FunD K x qual params body scope [] [] f fd) (S : FnScope N [y] scope)
    (hb : ∀ (cdv : Value) (A : Around) (outer : List Env) (s : Shared) (H : Hp) (p : Addr × Obj) (i : Nat) (Q : VK), i < 9 → Zc (.ref (excAt K i)) none p.2 → L2H.Hot1 A p → L2H.RoomH k (A.deeper (envOfC qual scope s.heap.objs.size f cdv)) → RetV (.str (excWords.getD i "")) H Q →
      ∃ t, PSs (L2H.cxH CX0 P w K mg base N qual scope f cdv A outer s H E0 p) body t ∧ t { nx := fun _ H' => Q .non H', rt := Q } (L2.start N [.ref p.1]) H) : FnE P w K mg base (k + 1) f fd y := by
  obtain ⟨oc, od, dV, kV, doc, pm, an, cdv, ct, osl, rfl, lk, hcd, _, _⟩ := F.ex
  refine ⟨fun A outer s H args p i Q hi hz hr hot pin e0 bd hq => ?_⟩
  have KX : K.In s.heap := e0.mod.kin.keeps fun b o e => (e0.bs b o e).1
  have lim : s.heap.NoLimit := e0.mod.nolimit.keeps fun b o e => (e0.bs b o e).1
  have hk : ∀ q ∈ [(y, Value.ref p.1)], scope.names.lookup q.1 = some .local ∨ (scope.names.lookup q.1 = some .cell ∧ ((cellsFrom (s.heap.objs.size + 1) scope.names []).lookup q.1).isSome = true) := fun q hq => by
    rw [List.mem_singleton] at hq
    rw [hq]
    exact (S.par y (List.mem_singleton.mpr rfl)).imp id fun z => ⟨z, PySem.W.cellsFrom_some _ _ _ (.inl z)⟩
  refine codeAny_call_function hr.depth (KX _ _ lk) rfl S.co S.gen rfl (PySem.W.codeRec_of KX hcd) (bd _ _ _ _ ?_)
  refine wpAny_newFunctionEnv_cells S.kind hk fun env he s1 ic => ?_
  subst he
  refine ⟨lim.keeps ic.toInCall.keep, codeAny_func ?_⟩
  obtain ⟨t, ht, hd⟩ := hb cdv A outer s H p i Q hi hz hot (hr.deeper _) hq
  have I := L2H.inv_startH (CX := CX0) (E := E0) (us := [Value.ref p.1]) (vs := [V.ref p.1]) S pin e0 rfl (.cons rfl .nil) ic
  refine wpAny_mono (ht.run [] s1 _ H _ I hd) (fun fl s' hs => ?_) fun e s' hs => hs
  cases fl with
  | ret u =>
    obtain ⟨v, σ', H', J, rv, q⟩ := hs
    exact ⟨v, H', J.os, J.bare, J.base, J.hok, rv, q⟩
  | next =>
    obtain ⟨σ', H', J, q⟩ := hs
    exact ⟨.non, H', J.os, J.bare, J.base, J.hok, rfl, q⟩
  | brk => exact False.elim hs.choose_spec.choose_spec.2
  | cont => exact False.elim hs.choose_spec.choose_spec.2
/-- word(e) in an except suite -/
def tWord (K : PySem.W.Frag) (a : Addr) (cls : Value) (d : Option Addr) (j : Nat) : TE := fun σ H Q => σ[j]? = some (some (.ref a)) ∧ ∃ i, i < 9 ∧ cls = .ref (excAt K i) ∧ d = none ∧ RetV (.str (excWords.getD i "")) H Q
theorem pe_word {X : Cx} {k j : Nat} {f a : Addr} {fd : FuncData} {x y n : Str} {q q2 pos : Pos} {oe : Obj} {cls : Value} {d : Option Addr} {pn : List (Addr × Obj)} (F : FnE X.prog X.w X.K X.mg X.base k f fd y) (hr : Room k X.A) (hg : Gl X x) (hm : X.mg x = some (.ref f)) (hk : PySem.W.keepIn X.K (.ref f) = true) (hb : L2.Binds X.K fd [y] [])
    (hz : L2N.Zn cls d oe) (hf : ∃ vs, oe.data = .fields vs) (hv : PE (X.suite a ((a, oe) :: pn)) (.Name n q2) (tVar j)) (hdb : (x == ("__debug__" : Str)) = false := by decide) : PE (X.suite a ((a, oe) :: pn)) (.Call (.Name x q) [.Name n q2] [] pos) (tWord X.K a cls d j) := by
  refine ⟨fun pins s σ H Q I h => ?_⟩
  obtain ⟨hj, i, hi, rfl, rfl, hq⟩ := h
  refine wpAny_Call_Name_kw (ld_glob I hg hm ?_ hdb)
  have ha : PA (X.suite a ((a, oe) :: pn)) [.Name n q2] (tCons (tVar j) tNil) := pa_cons hv pa_nil
  refine PySem.W.callWith_K (h₀ := X.base) I.ok.mod.kin hk (thn (ha.run pos pins s σ H (fun vs H1 => vs = [V.ref a] ∧ H1 = H) I ⟨_, hj, rfl, rfl⟩) fun us s1 ⟨vs, H1, I1, r, ev, eH⟩ => ⟨I1.kIn, ?_⟩)
  subst ev eH
  obtain ⟨u, rfl, ru⟩ := vals1 r
  obtain rfl : u = Value.ref a := ru
  obtain ⟨vs, hv⟩ := hf
  have P1 := I1.pin (a, oe) (List.mem_append_left _ (List.mem_cons_self ..))
  have b := hb s1 [Value.ref a] I1.kIn rfl
  refine wpAny_call (codeAny_mono (F.run (X.A.mark (some (.ref a))) X.stack s1 H1 ⟨[Value.ref a], []⟩ (a, oe) i Q hi hz.zc ⟨hr.dp, hr.un⟩ ⟨rfl, vs, hv, hz.2.2 vs hv⟩ ⟨P1.1, P1.2.1, fun hm => (List.mem_cons.mp (I1.stkSub a hm)).elim P1.2.2.1 P1.2.2.2.1, P1.2.2.2.2⟩ I1.env0 b hq) fun r s' hs => ?_)
  cases r with
  | error e => exact False.elim hs
  | ok fl =>
    cases fl with
    | ret u => exact I1.after hs
    | next => exact False.elim hs
    | brk => exact False.elim hs
    | cont => exact False.elim hs
/-! names of classes, their words -/
def exIx (e : Str) : Nat := excNames.idxOf e
def wordOf (e : Str) : Str := excWords.getD (exIx e) ""
theorem exIx_ok {e : Str} (h : e ∈ excNames) : exIx e < 9 ∧ excNames.getD (exIx e) "" = e := by
  have key : ∀ x ∈ excNames, exIx x < 9 ∧ excNames.getD (exIx x) "" = x := by decide +kernel
  exact key e h
def wordO : Option Str → Str
  | none => ""
  | some e => wordOf e
theorem ks_d {K : PySem.W.Frag} (KS : ExcKs K) {e : Str} (h : e ∈ excNames) : PySem.W.exmOne K (.ref (He.ga K e)) (.ref (He.ga K "DeskError")) = some true := by
  have q := exIx_ok h
  have := KS.d _ q.1
  unfold excAt at this
  rw [q.2] at this
  exact this
theorem ks_x {K : PySem.W.Frag} (KS : ExcKs K) {e f : Str} (h : e ∈ excNames) (h2 : f ∈ excNames) : PySem.W.exmOne K (.ref (He.ga K e)) (.ref (He.ga K f)) = some (decide (f = e)) := by
  have q := exIx_ok h
  have q2 := exIx_ok h2
  have := KS.x _ _ q.1 q2.1
  unfold excAt at this
  rw [q.2, q2.2] at this
  rw [this]
  refine congrArg some (decide_eq_decide.mpr ⟨fun z => ?_, fun z => by rw [z]⟩)
  rw [← q.2, ← q2.2, z]
theorem ev_word {K : PySem.W.Frag} {σ : L2.St} {H : Hp} {a : Addr} {j : Nat} {e : Str} (hj : σ[j]? = some (some (.ref a))) (h : e ∈ excNames) : Ev (tWord K a (.ref (He.ga K e)) none j) σ H (.str (wordOf e)) := fun H1 _ Q q => by
  have z := exIx_ok h
  exact ⟨hj, exIx e, z.1, by unfold excAt; rw [z.2], rfl, fun H2 e2 => q H2 e2⟩
/-! a def that may raise: the context of what it raises is None -/
theorem okXN {P : Program} {w : World} {K : PySem.W.Frag} {mg : Str → Option Value} {base : Heap} {x qual : Str} {params : Arguments} {body : List Stmt} {scope : Scope} {f : Addr} {fd : FuncData} {N ps : List Str} {k : Nat} {sp : Sp} (F : FunD K x qual params body scope [] [] f fd) (S : FnScope N ps scope) (len : ∀ vs H Q E, sp vs H Q E → vs.length = ps.length)
    (hb : ∀ (cdv : Value) (A : Around) (outer : List Env) (s : Shared) (H : Hp) (vs : List V) (Q : VK) (E : XK), Room k (A.deeper (envOfC qual scope s.heap.objs.size f cdv)) → sp vs H Q E →
      ∃ t, PSs (cxOf (L2N.CX P w) P w K mg base N qual scope f cdv A outer s H E) body t ∧ t { nx := fun _ H' => Q .non H', rt := Q } (start N vs) H) : FnOk P w K mg base (L2N.CX P w) (k + 1) f fd ps sp := F.ok S len hb
theorem passLN {X : Cx} : Passes (L2N.CX X.prog X.w) X E0 := fun _ _ _ _ _ _ _ h => by
  obtain ⟨_, _, _, _, _, _, _, _, _, _, _, _, z⟩ := h
  exact z.elim
theorem takes0N {X : Cx} : L2N.Takes X (fun _ _ _ _ => False) := fun _ _ x => by
  obtain ⟨_, _, _, _, _, _, _, _, _, _, _, _, _, _, _, _, z⟩ := x
  exact z.elim

def top (i : Nat) : Stmt := PySem.Challenge.pw_rrdesk_k07_bells.main.body.getD i (.Pass ⟨0, 0, 0, 0⟩)
abbrev s_caller_init : Stmt := inClass (top 2) 0
abbrev s_is_name : Stmt := top 17
abbrev s_aged : Stmt := top 20
abbrev s_limit : Stmt := top 21
abbrev s_first : Stmt := top 22
abbrev s_desk_init : Stmt := inClass (top 27) 0
abbrev s_desk_one : Stmt := inClass (top 27) 1
abbrev s_desk_become : Stmt := inClass (top 27) 2
abbrev s_desk_those : Stmt := inClass (top 27) 3
abbrev s_desk_enter : Stmt := inClass (top 27) 4
abbrev s_desk_sleep : Stmt := inClass (top 27) 6
abbrev s_desk_wait : Stmt := inClass (top 27) 7
abbrev s_desk_ring : Stmt := inClass (top 27) 9
abbrev s_desk_rerank : Stmt := inClass (top 27) 10
abbrev s_desk_need_ready : Stmt := inClass (top 27) 11
abbrev s_desk_turn : Stmt := inClass (top 27) 12
abbrev s_desk_run : Stmt := inClass (top 27) 13
abbrev s_desk_names : Stmt := inClass (top 27) 16
abbrev s_desk_state : Stmt := inClass (top 27) 19
abbrev s_desk_rank : Stmt := inClass (top 27) 20
abbrev s_desk_waited : Stmt := inClass (top 27) 21
abbrev s_desk_within : Stmt := inClass (top 27) 22
abbrev s_desk_left : Stmt := inClass (top 27) 23
abbrev s_desk_bell : Stmt := inClass (top 27) 24
abbrev s_L_whole : Stmt := top 29
abbrev s_L_cell_at : Stmt := top 30
abbrev s_L_mix : Stmt := top 31
abbrev s_L_name_by : Stmt := top 32
abbrev s_L_texts : Stmt := top 33
abbrev s_L_pace_by : Stmt := top 34
abbrev s_L_rank_by : Stmt := top 35
abbrev s_L_word : Stmt := top 36
abbrev s_L_waits : Stmt := top 37
abbrev s_L_no_wait : Stmt := top 38
abbrev s_L_rings : Stmt := top 39
abbrev s_L_reranks : Stmt := top 40
abbrev s_L_stands : Stmt := top 41
abbrev s_L_rung : Stmt := top 42
abbrev s_L_got : Stmt := top 43
abbrev s_L_all_wait : Stmt := top 44
abbrev s_law : Stmt := top 45
def dd_caller_init : He.DefD := ⟨("Caller", some "__init__"), "__init__", "Caller.__init__", defArgs s_caller_init, defBody s_caller_init, defScope s_caller_init, [], []⟩
def dd_is_name : He.DefD := ⟨("is_name", none), "is_name", "is_name", defArgs s_is_name, defBody s_is_name, defScope s_is_name, [], []⟩
def dd_aged : He.DefD := ⟨("aged", none), "aged", "aged", defArgs s_aged, defBody s_aged, defScope s_aged, [], []⟩
def dd_limit : He.DefD := ⟨("limit", none), "limit", "limit", defArgs s_limit, defBody s_limit, defScope s_limit, [], []⟩
def dd_first : He.DefD := ⟨("first", none), "first", "first", defArgs s_first, defBody s_first, defScope s_first, [], []⟩
def dd_desk_init : He.DefD := ⟨("Desk", some "__init__"), "__init__", "Desk.__init__", defArgs s_desk_init, defBody s_desk_init, defScope s_desk_init, [], []⟩
def dd_desk_one : He.DefD := ⟨("Desk", some "one"), "one", "Desk.one", defArgs s_desk_one, defBody s_desk_one, defScope s_desk_one, [], []⟩
def dd_desk_become : He.DefD := ⟨("Desk", some "become"), "become", "Desk.become", defArgs s_desk_become, defBody s_desk_become, defScope s_desk_become, [], []⟩
def dd_desk_those : He.DefD := ⟨("Desk", some "those"), "those", "Desk.those", defArgs s_desk_those, defBody s_desk_those, defScope s_desk_those, [], []⟩
def dd_desk_enter : He.DefD := ⟨("Desk", some "enter"), "enter", "Desk.enter", defArgs s_desk_enter, defBody s_desk_enter, defScope s_desk_enter, [], []⟩
def dd_desk_sleep : He.DefD := ⟨("Desk", some "sleep"), "sleep", "Desk.sleep", defArgs s_desk_sleep, defBody s_desk_sleep, defScope s_desk_sleep, [], []⟩
def dd_desk_wait : He.DefD := ⟨("Desk", some "wait"), "wait", "Desk.wait", defArgs s_desk_wait, defBody s_desk_wait, defScope s_desk_wait, [], []⟩
def dd_desk_ring : He.DefD := ⟨("Desk", some "ring"), "ring", "Desk.ring", defArgs s_desk_ring, defBody s_desk_ring, defScope s_desk_ring, [], []⟩
def dd_desk_rerank : He.DefD := ⟨("Desk", some "rerank"), "rerank", "Desk.rerank", defArgs s_desk_rerank, defBody s_desk_rerank, defScope s_desk_rerank, [], []⟩
def dd_desk_need_ready : He.DefD := ⟨("Desk", some "need_ready"), "need_ready", "Desk.need_ready", defArgs s_desk_need_ready, defBody s_desk_need_ready, defScope s_desk_need_ready, [], []⟩
def dd_desk_turn : He.DefD := ⟨("Desk", some "turn"), "turn", "Desk.turn", defArgs s_desk_turn, defBody s_desk_turn, defScope s_desk_turn, [], []⟩
def dd_desk_run : He.DefD := ⟨("Desk", some "run"), "run", "Desk.run", defArgs s_desk_run, defBody s_desk_run, defScope s_desk_run, [], []⟩
def dd_desk_names : He.DefD := ⟨("Desk", some "names"), "names", "Desk.names", defArgs s_desk_names, defBody s_desk_names, defScope s_desk_names, [], []⟩
def dd_desk_state : He.DefD := ⟨("Desk", some "state"), "state", "Desk.state", defArgs s_desk_state, defBody s_desk_state, defScope s_desk_state, [], []⟩
def dd_desk_rank : He.DefD := ⟨("Desk", some "rank"), "rank", "Desk.rank", defArgs s_desk_rank, defBody s_desk_rank, defScope s_desk_rank, [], []⟩
def dd_desk_waited : He.DefD := ⟨("Desk", some "waited"), "waited", "Desk.waited", defArgs s_desk_waited, defBody s_desk_waited, defScope s_desk_waited, [], []⟩
def dd_desk_within : He.DefD := ⟨("Desk", some "within"), "within", "Desk.within", defArgs s_desk_within, defBody s_desk_within, defScope s_desk_within, [], []⟩
def dd_desk_left : He.DefD := ⟨("Desk", some "left"), "left", "Desk.left", defArgs s_desk_left, defBody s_desk_left, defScope s_desk_left, [], []⟩
def dd_desk_bell : He.DefD := ⟨("Desk", some "bell"), "bell", "Desk.bell", defArgs s_desk_bell, defBody s_desk_bell, defScope s_desk_bell, [], []⟩
def dd_L_whole : He.DefD := ⟨("_law_whole", none), "_law_whole", "_law_whole", defArgs s_L_whole, defBody s_L_whole, defScope s_L_whole, [], []⟩
def dd_L_cell_at : He.DefD := ⟨("_law_cell_at", none), "_law_cell_at", "_law_cell_at", defArgs s_L_cell_at, defBody s_L_cell_at, defScope s_L_cell_at, [], []⟩
def dd_L_mix : He.DefD := ⟨("_law_mix", none), "_law_mix", "_law_mix", defArgs s_L_mix, defBody s_L_mix, defScope s_L_mix, [], []⟩
def dd_L_name_by : He.DefD := ⟨("_law_name_by", none), "_law_name_by", "_law_name_by", defArgs s_L_name_by, defBody s_L_name_by, defScope s_L_name_by, [], []⟩
def dd_L_texts : He.DefD := ⟨("_law_texts", none), "_law_texts", "_law_texts", defArgs s_L_texts, defBody s_L_texts, defScope s_L_texts, [], []⟩
def dd_L_pace_by : He.DefD := ⟨("_law_pace_by", none), "_law_pace_by", "_law_pace_by", defArgs s_L_pace_by, defBody s_L_pace_by, defScope s_L_pace_by, [], []⟩
def dd_L_rank_by : He.DefD := ⟨("_law_rank_by", none), "_law_rank_by", "_law_rank_by", defArgs s_L_rank_by, defBody s_L_rank_by, defScope s_L_rank_by, [], []⟩
def dd_L_word : He.DefD := ⟨("_law_word", none), "_law_word", "_law_word", defArgs s_L_word, defBody s_L_word, defScope s_L_word, [], []⟩
def dd_L_waits : He.DefD := ⟨("_law_waits", none), "_law_waits", "_law_waits", defArgs s_L_waits, defBody s_L_waits, defScope s_L_waits, [], []⟩
def dd_L_no_wait : He.DefD := ⟨("_law_no_wait", none), "_law_no_wait", "_law_no_wait", defArgs s_L_no_wait, defBody s_L_no_wait, defScope s_L_no_wait, [], []⟩
def dd_L_rings : He.DefD := ⟨("_law_rings", none), "_law_rings", "_law_rings", defArgs s_L_rings, defBody s_L_rings, defScope s_L_rings, [], []⟩
def dd_L_reranks : He.DefD := ⟨("_law_reranks", none), "_law_reranks", "_law_reranks", defArgs s_L_reranks, defBody s_L_reranks, defScope s_L_reranks, [], []⟩
def dd_L_stands : He.DefD := ⟨("_law_stands", none), "_law_stands", "_law_stands", defArgs s_L_stands, defBody s_L_stands, defScope s_L_stands, [], []⟩
def dd_L_rung : He.DefD := ⟨("_law_rung", none), "_law_rung", "_law_rung", defArgs s_L_rung, defBody s_L_rung, defScope s_L_rung, [], []⟩
def dd_L_got : He.DefD := ⟨("_law_got", none), "_law_got", "_law_got", defArgs s_L_got, defBody s_L_got, defScope s_L_got, [], []⟩
def dd_L_all_wait : He.DefD := ⟨("_law_all_wait", none), "_law_all_wait", "_law_all_wait", defArgs s_L_all_wait, defBody s_L_all_wait, defScope s_L_all_wait, [], []⟩
def dd_law : He.DefD := ⟨("law", none), "law", "law", defArgs s_law, defBody s_law, defScope s_law, [], []⟩
def fn : List He.DefD := [dd_caller_init, dd_is_name, dd_aged, dd_limit, dd_first, dd_desk_init, dd_desk_one, dd_desk_become, dd_desk_those, dd_desk_enter, dd_desk_sleep, dd_desk_wait, dd_desk_ring, dd_desk_rerank, dd_desk_need_ready, dd_desk_turn, dd_desk_run, dd_desk_names, dd_desk_state, dd_desk_rank, dd_desk_waited, dd_desk_within, dd_desk_left, dd_desk_bell, dd_L_whole, dd_L_cell_at, dd_L_mix, dd_L_name_by, dd_L_texts, dd_L_pace_by, dd_L_rank_by, dd_L_word, dd_L_waits, dd_L_no_wait, dd_L_rings, dd_L_reranks, dd_L_stands, dd_L_rung, dd_L_got, dd_L_all_wait, dd_law]
def fa0 : List He.Fa := [.glo "is_name", .glo "aged", .glo "limit", .glo "first", .meth "Desk" "one", .meth "Desk" "become", .meth "Desk" "those", .meth "Desk" "enter", .meth "Desk" "sleep", .meth "Desk" "wait", .meth "Desk" "ring", .meth "Desk" "rerank", .meth "Desk" "need_ready", .meth "Desk" "turn", .meth "Desk" "run", .meth "Desk" "names", .meth "Desk" "state", .meth "Desk" "rank", .meth "Desk" "waited", .meth "Desk" "within", .meth "Desk" "left", .meth "Desk" "bell", .glo "_law_whole", .glo "_law_cell_at", .glo "_law_mix", .glo "_law_name_by", .glo "_law_texts", .glo "_law_pace_by", .glo "_law_rank_by", .glo "_law_word"]
def fa1 : List He.Fa := [.glo "_law_waits", .glo "_law_no_wait", .glo "_law_rings", .glo "_law_reranks", .glo "_law_stands", .glo "_law_rung", .glo "_law_got", .glo "_law_all_wait", .glo "law", .glo "Caller", .cls "Caller", .mkr "Caller", .noat "Caller" "label", .noat "Caller" "grade", .noat "Caller" "stand", .noat "Caller" "mark", .glo "Desk", .cls "Desk", .mkr "Desk", .noat "Desk" "pace", .noat "Desk" "room", .noat "Desk" "now", .noat "Desk" "line", .glo "DeskError", .exc "DeskError", .glo "NoName", .exc "NoName", .glo "NoRank", .exc "NoRank", .glo "NoSpan"]
def fa2 : List He.Fa := [.exc "NoSpan", .glo "NoDesk", .exc "NoDesk", .glo "Known", .exc "Known", .glo "Unknown", .exc "Unknown", .glo "Full", .exc "Full", .glo "NotReady", .exc "NotReady", .glo "IsReady", .exc "IsReady", .exm "Full" "DeskError" true, .exm "IsReady" "DeskError" true, .exm "Known" "DeskError" true, .exm "NoDesk" "DeskError" true, .exm "NoName" "DeskError" true, .exm "NoRank" "DeskError" true, .exm "NoSpan" "DeskError" true, .exm "NotReady" "DeskError" true, .exm "Unknown" "DeskError" true, .exm "Full" "NoName" false, .exm "IsReady" "NoName" false, .exm "Known" "NoName" false, .exm "NoDesk" "NoName" false, .exm "NoName" "NoName" true, .exm "NoRank" "NoName" false, .exm "NoSpan" "NoName" false, .exm "NotReady" "NoName" false]
def fa3 : List He.Fa := [.exm "Unknown" "NoName" false, .exm "Full" "NotReady" false, .exm "IsReady" "NotReady" false, .exm "Known" "NotReady" false, .exm "NoDesk" "NotReady" false, .exm "NoName" "NotReady" false, .exm "NoRank" "NotReady" false, .exm "NoSpan" "NotReady" false, .exm "NotReady" "NotReady" true, .exm "Unknown" "NotReady" false, .str "SIGNS" "abcdefghijklmnopqrstuvwxyz0123456789", .int "MOST" 12, .int "TOP" 99, .int "MOST_PACE" 1000, .int "MOST_ROOM" 60, .int "MOST_TURNS" 1000, .free "len", .free "range", .free "str", .free "int", .free "isinstance", .free "sum", .free "list", .free "bool", .free "ValueError"]
def fa : List He.Fa := fa0 ++ fa1 ++ fa2 ++ fa3
structure Txt (K : PySem.W.Frag) (mg : Str → Option Value) : Prop where
  says : He.SaysD fa fn K
  inn : ∃ h : Heap, K.In h ∧ h.Ns mainGlobals mg
  ex : excK K = true
section
variable {K : PySem.W.Frag} {mg : Str → Option Value} (T : Txt K mg)
include T
theorem g_is_name : mg "is_name" = some (.ref (He.ga K "is_name")) := (let ⟨_, X, G⟩ := T.inn; He.glo_ok X G (T.says.fact 0 (f := .glo "is_name") rfl))
theorem g_aged : mg "aged" = some (.ref (He.ga K "aged")) := (let ⟨_, X, G⟩ := T.inn; He.glo_ok X G (T.says.fact 1 (f := .glo "aged") rfl))
theorem g_limit : mg "limit" = some (.ref (He.ga K "limit")) := (let ⟨_, X, G⟩ := T.inn; He.glo_ok X G (T.says.fact 2 (f := .glo "limit") rfl))
theorem g_first : mg "first" = some (.ref (He.ga K "first")) := (let ⟨_, X, G⟩ := T.inn; He.glo_ok X G (T.says.fact 3 (f := .glo "first") rfl))
theorem m_desk_one : Meth K (He.ga K "Desk") "one" (He.ma K (He.ga K "Desk") "one") := He.meth_ok (T.says.fact 4 (f := .meth "Desk" "one") rfl)
theorem m_desk_become : Meth K (He.ga K "Desk") "become" (He.ma K (He.ga K "Desk") "become") := He.meth_ok (T.says.fact 5 (f := .meth "Desk" "become") rfl)
theorem m_desk_those : Meth K (He.ga K "Desk") "those" (He.ma K (He.ga K "Desk") "those") := He.meth_ok (T.says.fact 6 (f := .meth "Desk" "those") rfl)
theorem m_desk_enter : Meth K (He.ga K "Desk") "enter" (He.ma K (He.ga K "Desk") "enter") := He.meth_ok (T.says.fact 7 (f := .meth "Desk" "enter") rfl)
theorem m_desk_sleep : Meth K (He.ga K "Desk") "sleep" (He.ma K (He.ga K "Desk") "sleep") := He.meth_ok (T.says.fact 8 (f := .meth "Desk" "sleep") rfl)
theorem m_desk_wait : Meth K (He.ga K "Desk") "wait" (He.ma K (He.ga K "Desk") "wait") := He.meth_ok (T.says.fact 9 (f := .meth "Desk" "wait") rfl)
theorem m_desk_ring : Meth K (He.ga K "Desk") "ring" (He.ma K (He.ga K "Desk") "ring") := He.meth_ok (T.says.fact 10 (f := .meth "Desk" "ring") rfl)
theorem m_desk_rerank : Meth K (He.ga K "Desk") "rerank" (He.ma K (He.ga K "Desk") "rerank") := He.meth_ok (T.says.fact 11 (f := .meth "Desk" "rerank") rfl)
theorem m_desk_need_ready : Meth K (He.ga K "Desk") "need_ready" (He.ma K (He.ga K "Desk") "need_ready") := He.meth_ok (T.says.fact 12 (f := .meth "Desk" "need_ready") rfl)
theorem m_desk_turn : Meth K (He.ga K "Desk") "turn" (He.ma K (He.ga K "Desk") "turn") := He.meth_ok (T.says.fact 13 (f := .meth "Desk" "turn") rfl)
theorem m_desk_run : Meth K (He.ga K "Desk") "run" (He.ma K (He.ga K "Desk") "run") := He.meth_ok (T.says.fact 14 (f := .meth "Desk" "run") rfl)
theorem m_desk_names : Meth K (He.ga K "Desk") "names" (He.ma K (He.ga K "Desk") "names") := He.meth_ok (T.says.fact 15 (f := .meth "Desk" "names") rfl)
theorem m_desk_state : Meth K (He.ga K "Desk") "state" (He.ma K (He.ga K "Desk") "state") := He.meth_ok (T.says.fact 16 (f := .meth "Desk" "state") rfl)
theorem m_desk_rank : Meth K (He.ga K "Desk") "rank" (He.ma K (He.ga K "Desk") "rank") := He.meth_ok (T.says.fact 17 (f := .meth "Desk" "rank") rfl)
theorem m_desk_waited : Meth K (He.ga K "Desk") "waited" (He.ma K (He.ga K "Desk") "waited") := He.meth_ok (T.says.fact 18 (f := .meth "Desk" "waited") rfl)
theorem m_desk_within : Meth K (He.ga K "Desk") "within" (He.ma K (He.ga K "Desk") "within") := He.meth_ok (T.says.fact 19 (f := .meth "Desk" "within") rfl)
theorem m_desk_left : Meth K (He.ga K "Desk") "left" (He.ma K (He.ga K "Desk") "left") := He.meth_ok (T.says.fact 20 (f := .meth "Desk" "left") rfl)
theorem m_desk_bell : Meth K (He.ga K "Desk") "bell" (He.ma K (He.ga K "Desk") "bell") := He.meth_ok (T.says.fact 21 (f := .meth "Desk" "bell") rfl)
theorem g_L_whole : mg "_law_whole" = some (.ref (He.ga K "_law_whole")) := (let ⟨_, X, G⟩ := T.inn; He.glo_ok X G (T.says.fact 22 (f := .glo "_law_whole") rfl))
theorem g_L_cell_at : mg "_law_cell_at" = some (.ref (He.ga K "_law_cell_at")) := (let ⟨_, X, G⟩ := T.inn; He.glo_ok X G (T.says.fact 23 (f := .glo "_law_cell_at") rfl))
theorem g_L_mix : mg "_law_mix" = some (.ref (He.ga K "_law_mix")) := (let ⟨_, X, G⟩ := T.inn; He.glo_ok X G (T.says.fact 24 (f := .glo "_law_mix") rfl))
theorem g_L_name_by : mg "_law_name_by" = some (.ref (He.ga K "_law_name_by")) := (let ⟨_, X, G⟩ := T.inn; He.glo_ok X G (T.says.fact 25 (f := .glo "_law_name_by") rfl))
theorem g_L_texts : mg "_law_texts" = some (.ref (He.ga K "_law_texts")) := (let ⟨_, X, G⟩ := T.inn; He.glo_ok X G (T.says.fact 26 (f := .glo "_law_texts") rfl))
theorem g_L_pace_by : mg "_law_pace_by" = some (.ref (He.ga K "_law_pace_by")) := (let ⟨_, X, G⟩ := T.inn; He.glo_ok X G (T.says.fact 27 (f := .glo "_law_pace_by") rfl))
theorem g_L_rank_by : mg "_law_rank_by" = some (.ref (He.ga K "_law_rank_by")) := (let ⟨_, X, G⟩ := T.inn; He.glo_ok X G (T.says.fact 28 (f := .glo "_law_rank_by") rfl))
theorem g_L_word : mg "_law_word" = some (.ref (He.ga K "_law_word")) := (let ⟨_, X, G⟩ := T.inn; He.glo_ok X G (T.says.fact 29 (f := .glo "_law_word") rfl))
theorem g_L_waits : mg "_law_waits" = some (.ref (He.ga K "_law_waits")) := (let ⟨_, X, G⟩ := T.inn; He.glo_ok X G (T.says.fact 30 (f := .glo "_law_waits") rfl))
theorem g_L_no_wait : mg "_law_no_wait" = some (.ref (He.ga K "_law_no_wait")) := (let ⟨_, X, G⟩ := T.inn; He.glo_ok X G (T.says.fact 31 (f := .glo "_law_no_wait") rfl))
theorem g_L_rings : mg "_law_rings" = some (.ref (He.ga K "_law_rings")) := (let ⟨_, X, G⟩ := T.inn; He.glo_ok X G (T.says.fact 32 (f := .glo "_law_rings") rfl))
theorem g_L_reranks : mg "_law_reranks" = some (.ref (He.ga K "_law_reranks")) := (let ⟨_, X, G⟩ := T.inn; He.glo_ok X G (T.says.fact 33 (f := .glo "_law_reranks") rfl))
theorem g_L_stands : mg "_law_stands" = some (.ref (He.ga K "_law_stands")) := (let ⟨_, X, G⟩ := T.inn; He.glo_ok X G (T.says.fact 34 (f := .glo "_law_stands") rfl))
theorem g_L_rung : mg "_law_rung" = some (.ref (He.ga K "_law_rung")) := (let ⟨_, X, G⟩ := T.inn; He.glo_ok X G (T.says.fact 35 (f := .glo "_law_rung") rfl))
theorem g_L_got : mg "_law_got" = some (.ref (He.ga K "_law_got")) := (let ⟨_, X, G⟩ := T.inn; He.glo_ok X G (T.says.fact 36 (f := .glo "_law_got") rfl))
theorem g_L_all_wait : mg "_law_all_wait" = some (.ref (He.ga K "_law_all_wait")) := (let ⟨_, X, G⟩ := T.inn; He.glo_ok X G (T.says.fact 37 (f := .glo "_law_all_wait") rfl))
theorem g_law : mg "law" = some (.ref (He.ga K "law")) := (let ⟨_, X, G⟩ := T.inn; He.glo_ok X G (T.says.fact 38 (f := .glo "law") rfl))
theorem g_Caller : mg "Caller" = some (.ref (He.ga K "Caller")) := (let ⟨_, X, G⟩ := T.inn; He.glo_ok X G (T.says.fact 39 (f := .glo "Caller") rfl))
theorem c_Caller : Cls K (He.ga K "Caller") := He.cls_ok (T.says.fact 40 (f := .cls "Caller") rfl)
theorem mk_Caller : Mk K (He.ga K "Caller") (He.ma K (He.ga K "Caller") "__init__") := He.mkr_ok (T.says.fact 41 (f := .mkr "Caller") rfl)
theorem n_Caller_label : NoAttr K (He.ga K "Caller") "label" := He.noat_ok (T.says.fact 42 (f := .noat "Caller" "label") rfl)
theorem n_Caller_grade : NoAttr K (He.ga K "Caller") "grade" := He.noat_ok (T.says.fact 43 (f := .noat "Caller" "grade") rfl)
theorem n_Caller_stand : NoAttr K (He.ga K "Caller") "stand" := He.noat_ok (T.says.fact 44 (f := .noat "Caller" "stand") rfl)
theorem n_Caller_mark : NoAttr K (He.ga K "Caller") "mark" := He.noat_ok (T.says.fact 45 (f := .noat "Caller" "mark") rfl)
theorem g_Desk : mg "Desk" = some (.ref (He.ga K "Desk")) := (let ⟨_, X, G⟩ := T.inn; He.glo_ok X G (T.says.fact 46 (f := .glo "Desk") rfl))
theorem c_Desk : Cls K (He.ga K "Desk") := He.cls_ok (T.says.fact 47 (f := .cls "Desk") rfl)
theorem mk_Desk : Mk K (He.ga K "Desk") (He.ma K (He.ga K "Desk") "__init__") := He.mkr_ok (T.says.fact 48 (f := .mkr "Desk") rfl)
theorem n_Desk_pace : NoAttr K (He.ga K "Desk") "pace" := He.noat_ok (T.says.fact 49 (f := .noat "Desk" "pace") rfl)
theorem n_Desk_room : NoAttr K (He.ga K "Desk") "room" := He.noat_ok (T.says.fact 50 (f := .noat "Desk" "room") rfl)
theorem n_Desk_now : NoAttr K (He.ga K "Desk") "now" := He.noat_ok (T.says.fact 51 (f := .noat "Desk" "now") rfl)
theorem n_Desk_line : NoAttr K (He.ga K "Desk") "line" := He.noat_ok (T.says.fact 52 (f := .noat "Desk" "line") rfl)
theorem g_DeskError : mg "DeskError" = some (.ref (He.ga K "DeskError")) := (let ⟨_, X, G⟩ := T.inn; He.glo_ok X G (T.says.fact 53 (f := .glo "DeskError") rfl))
theorem x_DeskError : PySem.W.excIn K (He.ga K "DeskError") He.veBase "ValueError.__new__" = true ∧ PySem.W.keepIn K (.ref (He.ga K "DeskError")) = true ∧ PySem.W.subIn K (.ref (He.ga K "DeskError")) (.type "BaseException") = some true ∧ PySem.W.typeIn K (.ref (He.ga K "DeskError")) = some (.type "type") := He.exc_ok (T.says.fact 54 (f := .exc "DeskError") rfl)
theorem g_NoName : mg "NoName" = some (.ref (He.ga K "NoName")) := (let ⟨_, X, G⟩ := T.inn; He.glo_ok X G (T.says.fact 55 (f := .glo "NoName") rfl))
theorem x_NoName : PySem.W.excIn K (He.ga K "NoName") He.veBase "ValueError.__new__" = true ∧ PySem.W.keepIn K (.ref (He.ga K "NoName")) = true ∧ PySem.W.subIn K (.ref (He.ga K "NoName")) (.type "BaseException") = some true ∧ PySem.W.typeIn K (.ref (He.ga K "NoName")) = some (.type "type") := He.exc_ok (T.says.fact 56 (f := .exc "NoName") rfl)
theorem g_NoRank : mg "NoRank" = some (.ref (He.ga K "NoRank")) := (let ⟨_, X, G⟩ := T.inn; He.glo_ok X G (T.says.fact 57 (f := .glo "NoRank") rfl))
theorem x_NoRank : PySem.W.excIn K (He.ga K "NoRank") He.veBase "ValueError.__new__" = true ∧ PySem.W.keepIn K (.ref (He.ga K "NoRank")) = true ∧ PySem.W.subIn K (.ref (He.ga K "NoRank")) (.type "BaseException") = some true ∧ PySem.W.typeIn K (.ref (He.ga K "NoRank")) = some (.type "type") := He.exc_ok (T.says.fact 58 (f := .exc "NoRank") rfl)
theorem g_NoSpan : mg "NoSpan" = some (.ref (He.ga K "NoSpan")) := (let ⟨_, X, G⟩ := T.inn; He.glo_ok X G (T.says.fact 59 (f := .glo "NoSpan") rfl))
theorem x_NoSpan : PySem.W.excIn K (He.ga K "NoSpan") He.veBase "ValueError.__new__" = true ∧ PySem.W.keepIn K (.ref (He.ga K "NoSpan")) = true ∧ PySem.W.subIn K (.ref (He.ga K "NoSpan")) (.type "BaseException") = some true ∧ PySem.W.typeIn K (.ref (He.ga K "NoSpan")) = some (.type "type") := He.exc_ok (T.says.fact 60 (f := .exc "NoSpan") rfl)
theorem g_NoDesk : mg "NoDesk" = some (.ref (He.ga K "NoDesk")) := (let ⟨_, X, G⟩ := T.inn; He.glo_ok X G (T.says.fact 61 (f := .glo "NoDesk") rfl))
theorem x_NoDesk : PySem.W.excIn K (He.ga K "NoDesk") He.veBase "ValueError.__new__" = true ∧ PySem.W.keepIn K (.ref (He.ga K "NoDesk")) = true ∧ PySem.W.subIn K (.ref (He.ga K "NoDesk")) (.type "BaseException") = some true ∧ PySem.W.typeIn K (.ref (He.ga K "NoDesk")) = some (.type "type") := He.exc_ok (T.says.fact 62 (f := .exc "NoDesk") rfl)
theorem g_Known : mg "Known" = some (.ref (He.ga K "Known")) := (let ⟨_, X, G⟩ := T.inn; He.glo_ok X G (T.says.fact 63 (f := .glo "Known") rfl))
theorem x_Known : PySem.W.excIn K (He.ga K "Known") He.veBase "ValueError.__new__" = true ∧ PySem.W.keepIn K (.ref (He.ga K "Known")) = true ∧ PySem.W.subIn K (.ref (He.ga K "Known")) (.type "BaseException") = some true ∧ PySem.W.typeIn K (.ref (He.ga K "Known")) = some (.type "type") := He.exc_ok (T.says.fact 64 (f := .exc "Known") rfl)
theorem g_Unknown : mg "Unknown" = some (.ref (He.ga K "Unknown")) := (let ⟨_, X, G⟩ := T.inn; He.glo_ok X G (T.says.fact 65 (f := .glo "Unknown") rfl))
theorem x_Unknown : PySem.W.excIn K (He.ga K "Unknown") He.veBase "ValueError.__new__" = true ∧ PySem.W.keepIn K (.ref (He.ga K "Unknown")) = true ∧ PySem.W.subIn K (.ref (He.ga K "Unknown")) (.type "BaseException") = some true ∧ PySem.W.typeIn K (.ref (He.ga K "Unknown")) = some (.type "type") := He.exc_ok (T.says.fact 66 (f := .exc "Unknown") rfl)
theorem g_Full : mg "Full" = some (.ref (He.ga K "Full")) := (let ⟨_, X, G⟩ := T.inn; He.glo_ok X G (T.says.fact 67 (f := .glo "Full") rfl))
theorem x_Full : PySem.W.excIn K (He.ga K "Full") He.veBase "ValueError.__new__" = true ∧ PySem.W.keepIn K (.ref (He.ga K "Full")) = true ∧ PySem.W.subIn K (.ref (He.ga K "Full")) (.type "BaseException") = some true ∧ PySem.W.typeIn K (.ref (He.ga K "Full")) = some (.type "type") := He.exc_ok (T.says.fact 68 (f := .exc "Full") rfl)
theorem g_NotReady : mg "NotReady" = some (.ref (He.ga K "NotReady")) := (let ⟨_, X, G⟩ := T.inn; He.glo_ok X G (T.says.fact 69 (f := .glo "NotReady") rfl))
theorem x_NotReady : PySem.W.excIn K (He.ga K "NotReady") He.veBase "ValueError.__new__" = true ∧ PySem.W.keepIn K (.ref (He.ga K "NotReady")) = true ∧ PySem.W.subIn K (.ref (He.ga K "NotReady")) (.type "BaseException") = some true ∧ PySem.W.typeIn K (.ref (He.ga K "NotReady")) = some (.type "type") := He.exc_ok (T.says.fact 70 (f := .exc "NotReady") rfl)
theorem g_IsReady : mg "IsReady" = some (.ref (He.ga K "IsReady")) := (let ⟨_, X, G⟩ := T.inn; He.glo_ok X G (T.says.fact 71 (f := .glo "IsReady") rfl))
theorem x_IsReady : PySem.W.excIn K (He.ga K "IsReady") He.veBase "ValueError.__new__" = true ∧ PySem.W.keepIn K (.ref (He.ga K "IsReady")) = true ∧ PySem.W.subIn K (.ref (He.ga K "IsReady")) (.type "BaseException") = some true ∧ PySem.W.typeIn K (.ref (He.ga K "IsReady")) = some (.type "type") := He.exc_ok (T.says.fact 72 (f := .exc "IsReady") rfl)
theorem e_Full_DeskError : PySem.W.exmOne K (.ref (He.ga K "Full")) (.ref (He.ga K "DeskError")) = some true := He.exm_ok (T.says.fact 73 (f := .exm "Full" "DeskError" true) rfl)
theorem e_IsReady_DeskError : PySem.W.exmOne K (.ref (He.ga K "IsReady")) (.ref (He.ga K "DeskError")) = some true := He.exm_ok (T.says.fact 74 (f := .exm "IsReady" "DeskError" true) rfl)
theorem e_Known_DeskError : PySem.W.exmOne K (.ref (He.ga K "Known")) (.ref (He.ga K "DeskError")) = some true := He.exm_ok (T.says.fact 75 (f := .exm "Known" "DeskError" true) rfl)
theorem e_NoDesk_DeskError : PySem.W.exmOne K (.ref (He.ga K "NoDesk")) (.ref (He.ga K "DeskError")) = some true := He.exm_ok (T.says.fact 76 (f := .exm "NoDesk" "DeskError" true) rfl)
theorem e_NoName_DeskError : PySem.W.exmOne K (.ref (He.ga K "NoName")) (.ref (He.ga K "DeskError")) = some true := He.exm_ok (T.says.fact 77 (f := .exm "NoName" "DeskError" true) rfl)
theorem e_NoRank_DeskError : PySem.W.exmOne K (.ref (He.ga K "NoRank")) (.ref (He.ga K "DeskError")) = some true := He.exm_ok (T.says.fact 78 (f := .exm "NoRank" "DeskError" true) rfl)
theorem e_NoSpan_DeskError : PySem.W.exmOne K (.ref (He.ga K "NoSpan")) (.ref (He.ga K "DeskError")) = some true := He.exm_ok (T.says.fact 79 (f := .exm "NoSpan" "DeskError" true) rfl)
theorem e_NotReady_DeskError : PySem.W.exmOne K (.ref (He.ga K "NotReady")) (.ref (He.ga K "DeskError")) = some true := He.exm_ok (T.says.fact 80 (f := .exm "NotReady" "DeskError" true) rfl)
theorem e_Unknown_DeskError : PySem.W.exmOne K (.ref (He.ga K "Unknown")) (.ref (He.ga K "DeskError")) = some true := He.exm_ok (T.says.fact 81 (f := .exm "Unknown" "DeskError" true) rfl)
theorem e_Full_NoName : PySem.W.exmOne K (.ref (He.ga K "Full")) (.ref (He.ga K "NoName")) = some false := He.exm_ok (T.says.fact 82 (f := .exm "Full" "NoName" false) rfl)
theorem e_IsReady_NoName : PySem.W.exmOne K (.ref (He.ga K "IsReady")) (.ref (He.ga K "NoName")) = some false := He.exm_ok (T.says.fact 83 (f := .exm "IsReady" "NoName" false) rfl)
theorem e_Known_NoName : PySem.W.exmOne K (.ref (He.ga K "Known")) (.ref (He.ga K "NoName")) = some false := He.exm_ok (T.says.fact 84 (f := .exm "Known" "NoName" false) rfl)
theorem e_NoDesk_NoName : PySem.W.exmOne K (.ref (He.ga K "NoDesk")) (.ref (He.ga K "NoName")) = some false := He.exm_ok (T.says.fact 85 (f := .exm "NoDesk" "NoName" false) rfl)
theorem e_NoName_NoName : PySem.W.exmOne K (.ref (He.ga K "NoName")) (.ref (He.ga K "NoName")) = some true := He.exm_ok (T.says.fact 86 (f := .exm "NoName" "NoName" true) rfl)
theorem e_NoRank_NoName : PySem.W.exmOne K (.ref (He.ga K "NoRank")) (.ref (He.ga K "NoName")) = some false := He.exm_ok (T.says.fact 87 (f := .exm "NoRank" "NoName" false) rfl)
theorem e_NoSpan_NoName : PySem.W.exmOne K (.ref (He.ga K "NoSpan")) (.ref (He.ga K "NoName")) = some false := He.exm_ok (T.says.fact 88 (f := .exm "NoSpan" "NoName" false) rfl)
theorem e_NotReady_NoName : PySem.W.exmOne K (.ref (He.ga K "NotReady")) (.ref (He.ga K "NoName")) = some false := He.exm_ok (T.says.fact 89 (f := .exm "NotReady" "NoName" false) rfl)
theorem e_Unknown_NoName : PySem.W.exmOne K (.ref (He.ga K "Unknown")) (.ref (He.ga K "NoName")) = some false := He.exm_ok (T.says.fact 90 (f := .exm "Unknown" "NoName" false) rfl)
theorem e_Full_NotReady : PySem.W.exmOne K (.ref (He.ga K "Full")) (.ref (He.ga K "NotReady")) = some false := He.exm_ok (T.says.fact 91 (f := .exm "Full" "NotReady" false) rfl)
theorem e_IsReady_NotReady : PySem.W.exmOne K (.ref (He.ga K "IsReady")) (.ref (He.ga K "NotReady")) = some false := He.exm_ok (T.says.fact 92 (f := .exm "IsReady" "NotReady" false) rfl)
theorem e_Known_NotReady : PySem.W.exmOne K (.ref (He.ga K "Known")) (.ref (He.ga K "NotReady")) = some false := He.exm_ok (T.says.fact 93 (f := .exm "Known" "NotReady" false) rfl)
theorem e_NoDesk_NotReady : PySem.W.exmOne K (.ref (He.ga K "NoDesk")) (.ref (He.ga K "NotReady")) = some false := He.exm_ok (T.says.fact 94 (f := .exm "NoDesk" "NotReady" false) rfl)
theorem e_NoName_NotReady : PySem.W.exmOne K (.ref (He.ga K "NoName")) (.ref (He.ga K "NotReady")) = some false := He.exm_ok (T.says.fact 95 (f := .exm "NoName" "NotReady" false) rfl)
theorem e_NoRank_NotReady : PySem.W.exmOne K (.ref (He.ga K "NoRank")) (.ref (He.ga K "NotReady")) = some false := He.exm_ok (T.says.fact 96 (f := .exm "NoRank" "NotReady" false) rfl)
theorem e_NoSpan_NotReady : PySem.W.exmOne K (.ref (He.ga K "NoSpan")) (.ref (He.ga K "NotReady")) = some false := He.exm_ok (T.says.fact 97 (f := .exm "NoSpan" "NotReady" false) rfl)
theorem e_NotReady_NotReady : PySem.W.exmOne K (.ref (He.ga K "NotReady")) (.ref (He.ga K "NotReady")) = some true := He.exm_ok (T.says.fact 98 (f := .exm "NotReady" "NotReady" true) rfl)
theorem e_Unknown_NotReady : PySem.W.exmOne K (.ref (He.ga K "Unknown")) (.ref (He.ga K "NotReady")) = some false := He.exm_ok (T.says.fact 99 (f := .exm "Unknown" "NotReady" false) rfl)
theorem k_SIGNS : ∃ t, mg "SIGNS" = some (.str "abcdefghijklmnopqrstuvwxyz0123456789" t) := let ⟨_, X, G⟩ := T.inn; He.str_ok X G (T.says.fact 100 (f := .str "SIGNS" "abcdefghijklmnopqrstuvwxyz0123456789") rfl)
theorem k_MOST : ∃ t, mg "MOST" = some (.int 12 t) := let ⟨_, X, G⟩ := T.inn; He.int_ok X G (T.says.fact 101 (f := .int "MOST" 12) rfl)
theorem k_TOP : ∃ t, mg "TOP" = some (.int 99 t) := let ⟨_, X, G⟩ := T.inn; He.int_ok X G (T.says.fact 102 (f := .int "TOP" 99) rfl)
theorem k_MOST_PACE : ∃ t, mg "MOST_PACE" = some (.int 1000 t) := let ⟨_, X, G⟩ := T.inn; He.int_ok X G (T.says.fact 103 (f := .int "MOST_PACE" 1000) rfl)
theorem k_MOST_ROOM : ∃ t, mg "MOST_ROOM" = some (.int 60 t) := let ⟨_, X, G⟩ := T.inn; He.int_ok X G (T.says.fact 104 (f := .int "MOST_ROOM" 60) rfl)
theorem k_MOST_TURNS : ∃ t, mg "MOST_TURNS" = some (.int 1000 t) := let ⟨_, X, G⟩ := T.inn; He.int_ok X G (T.says.fact 105 (f := .int "MOST_TURNS" 1000) rfl)
theorem b_len : mg "len" = none := let ⟨_, X, G⟩ := T.inn; He.free_ok X G (T.says.fact 106 (f := .free "len") rfl)
theorem b_range : mg "range" = none := let ⟨_, X, G⟩ := T.inn; He.free_ok X G (T.says.fact 107 (f := .free "range") rfl)
theorem b_str : mg "str" = none := let ⟨_, X, G⟩ := T.inn; He.free_ok X G (T.says.fact 108 (f := .free "str") rfl)
theorem b_int : mg "int" = none := let ⟨_, X, G⟩ := T.inn; He.free_ok X G (T.says.fact 109 (f := .free "int") rfl)
theorem b_isinstance : mg "isinstance" = none := let ⟨_, X, G⟩ := T.inn; He.free_ok X G (T.says.fact 110 (f := .free "isinstance") rfl)
theorem b_sum : mg "sum" = none := let ⟨_, X, G⟩ := T.inn; He.free_ok X G (T.says.fact 111 (f := .free "sum") rfl)
theorem b_list : mg "list" = none := let ⟨_, X, G⟩ := T.inn; He.free_ok X G (T.says.fact 112 (f := .free "list") rfl)
theorem b_bool : mg "bool" = none := let ⟨_, X, G⟩ := T.inn; He.free_ok X G (T.says.fact 113 (f := .free "bool") rfl)
theorem b_ValueError : mg "ValueError" = none := let ⟨_, X, G⟩ := T.inn; He.free_ok X G (T.says.fact 114 (f := .free "ValueError") rfl)
theorem f_caller_init : ∃ fd, FunD K "__init__" "Caller.__init__" (defArgs s_caller_init) (defBody s_caller_init) (defScope s_caller_init) [] [] (He.ma K (He.ga K "Caller") "__init__") fd := T.says.def_ 0 (d := dd_caller_init) rfl
theorem f_is_name : ∃ fd, FunD K "is_name" "is_name" (defArgs s_is_name) (defBody s_is_name) (defScope s_is_name) [] [] (He.ga K "is_name") fd := T.says.def_ 1 (d := dd_is_name) rfl
theorem kp_is_name : PySem.W.keepIn K (.ref (He.ga K "is_name")) = true := let ⟨_, F⟩ := f_is_name T; F.kp
theorem f_aged : ∃ fd, FunD K "aged" "aged" (defArgs s_aged) (defBody s_aged) (defScope s_aged) [] [] (He.ga K "aged") fd := T.says.def_ 2 (d := dd_aged) rfl
theorem kp_aged : PySem.W.keepIn K (.ref (He.ga K "aged")) = true := let ⟨_, F⟩ := f_aged T; F.kp
theorem f_limit : ∃ fd, FunD K "limit" "limit" (defArgs s_limit) (defBody s_limit) (defScope s_limit) [] [] (He.ga K "limit") fd := T.says.def_ 3 (d := dd_limit) rfl
theorem kp_limit : PySem.W.keepIn K (.ref (He.ga K "limit")) = true := let ⟨_, F⟩ := f_limit T; F.kp
theorem f_first : ∃ fd, FunD K "first" "first" (defArgs s_first) (defBody s_first) (defScope s_first) [] [] (He.ga K "first") fd := T.says.def_ 4 (d := dd_first) rfl
theorem kp_first : PySem.W.keepIn K (.ref (He.ga K "first")) = true := let ⟨_, F⟩ := f_first T; F.kp
theorem f_desk_init : ∃ fd, FunD K "__init__" "Desk.__init__" (defArgs s_desk_init) (defBody s_desk_init) (defScope s_desk_init) [] [] (He.ma K (He.ga K "Desk") "__init__") fd := T.says.def_ 5 (d := dd_desk_init) rfl
theorem f_desk_one : ∃ fd, FunD K "one" "Desk.one" (defArgs s_desk_one) (defBody s_desk_one) (defScope s_desk_one) [] [] (He.ma K (He.ga K "Desk") "one") fd := T.says.def_ 6 (d := dd_desk_one) rfl
theorem f_desk_become : ∃ fd, FunD K "become" "Desk.become" (defArgs s_desk_become) (defBody s_desk_become) (defScope s_desk_become) [] [] (He.ma K (He.ga K "Desk") "become") fd := T.says.def_ 7 (d := dd_desk_become) rfl
theorem f_desk_those : ∃ fd, FunD K "those" "Desk.those" (defArgs s_desk_those) (defBody s_desk_those) (defScope s_desk_those) [] [] (He.ma K (He.ga K "Desk") "those") fd := T.says.def_ 8 (d := dd_desk_those) rfl
theorem f_desk_enter : ∃ fd, FunD K "enter" "Desk.enter" (defArgs s_desk_enter) (defBody s_desk_enter) (defScope s_desk_enter) [] [] (He.ma K (He.ga K "Desk") "enter") fd := T.says.def_ 9 (d := dd_desk_enter) rfl
theorem f_desk_sleep : ∃ fd, FunD K "sleep" "Desk.sleep" (defArgs s_desk_sleep) (defBody s_desk_sleep) (defScope s_desk_sleep) [] [] (He.ma K (He.ga K "Desk") "sleep") fd := T.says.def_ 10 (d := dd_desk_sleep) rfl
theorem f_desk_wait : ∃ fd, FunD K "wait" "Desk.wait" (defArgs s_desk_wait) (defBody s_desk_wait) (defScope s_desk_wait) [] [] (He.ma K (He.ga K "Desk") "wait") fd := T.says.def_ 11 (d := dd_desk_wait) rfl
theorem f_desk_ring : ∃ fd, FunD K "ring" "Desk.ring" (defArgs s_desk_ring) (defBody s_desk_ring) (defScope s_desk_ring) [] [] (He.ma K (He.ga K "Desk") "ring") fd := T.says.def_ 12 (d := dd_desk_ring) rfl
theorem f_desk_rerank : ∃ fd, FunD K "rerank" "Desk.rerank" (defArgs s_desk_rerank) (defBody s_desk_rerank) (defScope s_desk_rerank) [] [] (He.ma K (He.ga K "Desk") "rerank") fd := T.says.def_ 13 (d := dd_desk_rerank) rfl
theorem f_desk_need_ready : ∃ fd, FunD K "need_ready" "Desk.need_ready" (defArgs s_desk_need_ready) (defBody s_desk_need_ready) (defScope s_desk_need_ready) [] [] (He.ma K (He.ga K "Desk") "need_ready") fd := T.says.def_ 14 (d := dd_desk_need_ready) rfl
theorem f_desk_turn : ∃ fd, FunD K "turn" "Desk.turn" (defArgs s_desk_turn) (defBody s_desk_turn) (defScope s_desk_turn) [] [] (He.ma K (He.ga K "Desk") "turn") fd := T.says.def_ 15 (d := dd_desk_turn) rfl
theorem f_desk_run : ∃ fd, FunD K "run" "Desk.run" (defArgs s_desk_run) (defBody s_desk_run) (defScope s_desk_run) [] [] (He.ma K (He.ga K "Desk") "run") fd := T.says.def_ 16 (d := dd_desk_run) rfl
theorem f_desk_names : ∃ fd, FunD K "names" "Desk.names" (defArgs s_desk_names) (defBody s_desk_names) (defScope s_desk_names) [] [] (He.ma K (He.ga K "Desk") "names") fd := T.says.def_ 17 (d := dd_desk_names) rfl
theorem f_desk_state : ∃ fd, FunD K "state" "Desk.state" (defArgs s_desk_state) (defBody s_desk_state) (defScope s_desk_state) [] [] (He.ma K (He.ga K "Desk") "state") fd := T.says.def_ 18 (d := dd_desk_state) rfl
theorem f_desk_rank : ∃ fd, FunD K "rank" "Desk.rank" (defArgs s_desk_rank) (defBody s_desk_rank) (defScope s_desk_rank) [] [] (He.ma K (He.ga K "Desk") "rank") fd := T.says.def_ 19 (d := dd_desk_rank) rfl
theorem f_desk_waited : ∃ fd, FunD K "waited" "Desk.waited" (defArgs s_desk_waited) (defBody s_desk_waited) (defScope s_desk_waited) [] [] (He.ma K (He.ga K "Desk") "waited") fd := T.says.def_ 20 (d := dd_desk_waited) rfl
theorem f_desk_within : ∃ fd, FunD K "within" "Desk.within" (defArgs s_desk_within) (defBody s_desk_within) (defScope s_desk_within) [] [] (He.ma K (He.ga K "Desk") "within") fd := T.says.def_ 21 (d := dd_desk_within) rfl
theorem f_desk_left : ∃ fd, FunD K "left" "Desk.left" (defArgs s_desk_left) (defBody s_desk_left) (defScope s_desk_left) [] [] (He.ma K (He.ga K "Desk") "left") fd := T.says.def_ 22 (d := dd_desk_left) rfl
theorem f_desk_bell : ∃ fd, FunD K "bell" "Desk.bell" (defArgs s_desk_bell) (defBody s_desk_bell) (defScope s_desk_bell) [] [] (He.ma K (He.ga K "Desk") "bell") fd := T.says.def_ 23 (d := dd_desk_bell) rfl
theorem f_L_whole : ∃ fd, FunD K "_law_whole" "_law_whole" (defArgs s_L_whole) (defBody s_L_whole) (defScope s_L_whole) [] [] (He.ga K "_law_whole") fd := T.says.def_ 24 (d := dd_L_whole) rfl
theorem kp_L_whole : PySem.W.keepIn K (.ref (He.ga K "_law_whole")) = true := let ⟨_, F⟩ := f_L_whole T; F.kp
theorem f_L_cell_at : ∃ fd, FunD K "_law_cell_at" "_law_cell_at" (defArgs s_L_cell_at) (defBody s_L_cell_at) (defScope s_L_cell_at) [] [] (He.ga K "_law_cell_at") fd := T.says.def_ 25 (d := dd_L_cell_at) rfl
theorem kp_L_cell_at : PySem.W.keepIn K (.ref (He.ga K "_law_cell_at")) = true := let ⟨_, F⟩ := f_L_cell_at T; F.kp
theorem f_L_mix : ∃ fd, FunD K "_law_mix" "_law_mix" (defArgs s_L_mix) (defBody s_L_mix) (defScope s_L_mix) [] [] (He.ga K "_law_mix") fd := T.says.def_ 26 (d := dd_L_mix) rfl
theorem kp_L_mix : PySem.W.keepIn K (.ref (He.ga K "_law_mix")) = true := let ⟨_, F⟩ := f_L_mix T; F.kp
theorem f_L_name_by : ∃ fd, FunD K "_law_name_by" "_law_name_by" (defArgs s_L_name_by) (defBody s_L_name_by) (defScope s_L_name_by) [] [] (He.ga K "_law_name_by") fd := T.says.def_ 27 (d := dd_L_name_by) rfl
theorem kp_L_name_by : PySem.W.keepIn K (.ref (He.ga K "_law_name_by")) = true := let ⟨_, F⟩ := f_L_name_by T; F.kp
theorem f_L_texts : ∃ fd, FunD K "_law_texts" "_law_texts" (defArgs s_L_texts) (defBody s_L_texts) (defScope s_L_texts) [] [] (He.ga K "_law_texts") fd := T.says.def_ 28 (d := dd_L_texts) rfl
theorem kp_L_texts : PySem.W.keepIn K (.ref (He.ga K "_law_texts")) = true := let ⟨_, F⟩ := f_L_texts T; F.kp
theorem f_L_pace_by : ∃ fd, FunD K "_law_pace_by" "_law_pace_by" (defArgs s_L_pace_by) (defBody s_L_pace_by) (defScope s_L_pace_by) [] [] (He.ga K "_law_pace_by") fd := T.says.def_ 29 (d := dd_L_pace_by) rfl
theorem kp_L_pace_by : PySem.W.keepIn K (.ref (He.ga K "_law_pace_by")) = true := let ⟨_, F⟩ := f_L_pace_by T; F.kp
theorem f_L_rank_by : ∃ fd, FunD K "_law_rank_by" "_law_rank_by" (defArgs s_L_rank_by) (defBody s_L_rank_by) (defScope s_L_rank_by) [] [] (He.ga K "_law_rank_by") fd := T.says.def_ 30 (d := dd_L_rank_by) rfl
theorem kp_L_rank_by : PySem.W.keepIn K (.ref (He.ga K "_law_rank_by")) = true := let ⟨_, F⟩ := f_L_rank_by T; F.kp
theorem f_L_word : ∃ fd, FunD K "_law_word" "_law_word" (defArgs s_L_word) (defBody s_L_word) (defScope s_L_word) [] [] (He.ga K "_law_word") fd := T.says.def_ 31 (d := dd_L_word) rfl
theorem kp_L_word : PySem.W.keepIn K (.ref (He.ga K "_law_word")) = true := let ⟨_, F⟩ := f_L_word T; F.kp
theorem f_L_waits : ∃ fd, FunD K "_law_waits" "_law_waits" (defArgs s_L_waits) (defBody s_L_waits) (defScope s_L_waits) [] [] (He.ga K "_law_waits") fd := T.says.def_ 32 (d := dd_L_waits) rfl
theorem kp_L_waits : PySem.W.keepIn K (.ref (He.ga K "_law_waits")) = true := let ⟨_, F⟩ := f_L_waits T; F.kp
theorem f_L_no_wait : ∃ fd, FunD K "_law_no_wait" "_law_no_wait" (defArgs s_L_no_wait) (defBody s_L_no_wait) (defScope s_L_no_wait) [] [] (He.ga K "_law_no_wait") fd := T.says.def_ 33 (d := dd_L_no_wait) rfl
theorem kp_L_no_wait : PySem.W.keepIn K (.ref (He.ga K "_law_no_wait")) = true := let ⟨_, F⟩ := f_L_no_wait T; F.kp
theorem f_L_rings : ∃ fd, FunD K "_law_rings" "_law_rings" (defArgs s_L_rings) (defBody s_L_rings) (defScope s_L_rings) [] [] (He.ga K "_law_rings") fd := T.says.def_ 34 (d := dd_L_rings) rfl
theorem kp_L_rings : PySem.W.keepIn K (.ref (He.ga K "_law_rings")) = true := let ⟨_, F⟩ := f_L_rings T; F.kp
theorem f_L_reranks : ∃ fd, FunD K "_law_reranks" "_law_reranks" (defArgs s_L_reranks) (defBody s_L_reranks) (defScope s_L_reranks) [] [] (He.ga K "_law_reranks") fd := T.says.def_ 35 (d := dd_L_reranks) rfl
theorem kp_L_reranks : PySem.W.keepIn K (.ref (He.ga K "_law_reranks")) = true := let ⟨_, F⟩ := f_L_reranks T; F.kp
theorem f_L_stands : ∃ fd, FunD K "_law_stands" "_law_stands" (defArgs s_L_stands) (defBody s_L_stands) (defScope s_L_stands) [] [] (He.ga K "_law_stands") fd := T.says.def_ 36 (d := dd_L_stands) rfl
theorem kp_L_stands : PySem.W.keepIn K (.ref (He.ga K "_law_stands")) = true := let ⟨_, F⟩ := f_L_stands T; F.kp
theorem f_L_rung : ∃ fd, FunD K "_law_rung" "_law_rung" (defArgs s_L_rung) (defBody s_L_rung) (defScope s_L_rung) [] [] (He.ga K "_law_rung") fd := T.says.def_ 37 (d := dd_L_rung) rfl
theorem kp_L_rung : PySem.W.keepIn K (.ref (He.ga K "_law_rung")) = true := let ⟨_, F⟩ := f_L_rung T; F.kp
theorem f_L_got : ∃ fd, FunD K "_law_got" "_law_got" (defArgs s_L_got) (defBody s_L_got) (defScope s_L_got) [] [] (He.ga K "_law_got") fd := T.says.def_ 38 (d := dd_L_got) rfl
theorem kp_L_got : PySem.W.keepIn K (.ref (He.ga K "_law_got")) = true := let ⟨_, F⟩ := f_L_got T; F.kp
theorem f_L_all_wait : ∃ fd, FunD K "_law_all_wait" "_law_all_wait" (defArgs s_L_all_wait) (defBody s_L_all_wait) (defScope s_L_all_wait) [] [] (He.ga K "_law_all_wait") fd := T.says.def_ 39 (d := dd_L_all_wait) rfl
theorem kp_L_all_wait : PySem.W.keepIn K (.ref (He.ga K "_law_all_wait")) = true := let ⟨_, F⟩ := f_L_all_wait T; F.kp
theorem f_law : ∃ fd, FunD K "law" "law" (defArgs s_law) (defBody s_law) (defScope s_law) [] [] (He.ga K "law") fd := T.says.def_ 40 (d := dd_law) rfl
theorem kp_law : PySem.W.keepIn K (.ref (He.ga K "law")) = true := let ⟨_, F⟩ := f_law T; F.kp
end
/-! ### words of this text, over Evl: what every def's proof uses -/
section
variable {P : Program} {w : World} {K : PySem.W.Frag} {mg : Str → Option Value} {base : Heap} {x qual : Str} {params : Arguments} {body : List Stmt} {scope : Scope} {f : Addr} {fd : FuncData}
theorem ok0 {N ps : List Str} {k : Nat} {sp : Sp} (F : FunD K x qual params body scope [] [] f fd) (S : FnScope N ps scope) (len : ∀ vs H Q E, sp vs H Q E → vs.length = ps.length)
    (hbody : ∀ (cdv : Value) (A : Around) (outer : List Env) (s : Shared) (H : Hp) (vs : List V) (Q : VK) (E : XK), Room k (A.deeper (envOfC qual scope s.heap.objs.size f cdv)) → sp vs H Q E →
      ∃ t, PSs (cxOf CX0 P w K mg base N qual scope f cdv A outer s H E).nox body t ∧ t { nx := fun _ H' => Q .non H', rt := Q } (start N vs) H) : FnOk P w K mg base CX0 (k + 1) f fd ps sp :=
  F.ok S len fun cdv A outer s H vs Q E hr h => let ⟨t, a, b⟩ := hbody cdv A outer s H vs Q E hr h; ⟨t, PSs.nox a, b⟩
theorem okX {N ps : List Str} {k : Nat} {sp : Sp} (F : FunD K x qual params body scope [] [] f fd) (S : FnScope N ps scope) (len : ∀ vs H Q E, sp vs H Q E → vs.length = ps.length)
    (hbody : ∀ (cdv : Value) (A : Around) (outer : List Env) (s : Shared) (H : Hp) (vs : List V) (Q : VK) (E : XK), Room k (A.deeper (envOfC qual scope s.heap.objs.size f cdv)) → sp vs H Q E →
      ∃ t, PSs (cxOf (L2.CX P w) P w K mg base N qual scope f cdv A outer s H E) body t ∧ t { nx := fun _ H' => Q .non H', rt := Q } (start N vs) H) : FnOk P w K mg base (L2.CX P w) (k + 1) f fd ps sp :=
  F.ok S len hbody
end
theorem funD_same {K : PySem.W.Frag} {x qual : Str} {params : Arguments} {body : List Stmt} {scope : Scope} {f : Addr} {fd fd' : FuncData} (F : FunD K x qual params body scope [] [] f fd) (F' : FunD K x qual params body scope [] [] f fd') : fd' = fd := by
  obtain ⟨_, _, _, _, _, _, _, _, _, _, _, h, _⟩ := F.ex
  obtain ⟨_, _, _, _, _, _, _, _, _, _, _, h', _⟩ := F'.ex
  rw [h] at h'
  injection h' with h'
  injection h' with _ _ h'
  injection h' with h'
  exact h'.symm
/-! ### evaluation -/
section
variable {K : PySem.W.Frag} {σ : L2.St} {H H' : Hp} {ta tb te tx : TE} {t u : TT} {x y z v : V} {D : Ends}
theorem rc_len_str {z : Str} (h : z.length ≤ sizeLine) : RC (fun xs H Q => ∃ z, xs = [.str z] ∧ z.length ≤ sizeLine ∧ Q (.int z.length) H) [.str z] H (.int z.length) := fun H1 _ Q q => ⟨z, rfl, h, q H1 (Ex.refl H1)⟩
theorem rc_max2 {i j : Int} : RC (fun xs H Q => ∃ i j, xs = [.int i, .int j] ∧ Q (.int (if j > i then j else i)) H) [.int i, .int j] H (.int (if j > i then j else i)) := fun H1 _ Q q => ⟨i, j, rfl, q H1 (Ex.refl H1)⟩
theorem rc_min2 {i j : Int} : RC (fun xs H Q => ∃ i j, xs = [.int i, .int j] ∧ Q (.int (if j < i then j else i)) H) [.int i, .int j] H (.int (if j < i then j else i)) := fun H1 _ Q q => ⟨i, j, rfl, q H1 (Ex.refl H1)⟩
theorem rc_len {p : Addr} {xs : List V} (h : SqL K H p xs) : RC (fun vs H Q => ∃ p ys, vs = [.ref p] ∧ (SqL K H p ys ∨ SqT K H p ys) ∧ Q (.int ys.length) H) [.ref p] H (.int (xs.length : Int)) := fun H1 e Q q => ⟨p, xs, rfl, .inl (ex_l e h), q H1 (Ex.refl H1)⟩
theorem rc_isi {c t' : V} {ty u : Value} {b : Bool} (hc : ClsV c u) (ht : ∀ H1, Ex H H1 → TyX K H1 x ty) (hk : PySem.W.kitOne K ty u = some b) : RC (rIsi K) [x, c] H (.bl b) := fun H1 e Q q => ⟨x, c, ty, u, b, rfl, hc, ht H1 e, hk, q H1 (Ex.refl H1)⟩
theorem rc_isi_int {i : Int} : RC (rIsi K) [.int i, .ty "int"] H (.bl true) := rc_isi (t' := .non) (.ty _) (fun _ _ => .base (.int i)) (kit_ty (by decide +kernel))
theorem rc_isi_int_bool {i : Int} : RC (rIsi K) [.int i, .ty "bool"] H (.bl false) := rc_isi (t' := .non) (.ty _) (fun _ _ => .base (.int i)) (kit_ty (by decide +kernel))
theorem rc_sum {a : Addr} {ns : List Int} (h : SqL K H a (ns.map V.int)) : RC (rSum K) [.ref a] H (.int ns.sum) := fun H1 e Q q => ⟨a, ns, rfl, ex_l e h, q H1 (Ex.refl H1)⟩
theorem ev_cbL {r : List V → Hp → VK → Prop} {xs : List V} (h : EvL ta σ H xs) (hr : ∀ p H1, H1 p = some (.lst xs) → RC r [.ref p] H1 z) : Ev (tCB r (tCons ta tNil)) σ H z := fun H1 e Q q =>
  h H1 e _ fun p H2 _ e2 hp => hr p H2 hp H2 (Ex.refl H2) Q fun H3 e3 => q H3 (e2.trans e3)
theorem el_lcR2 {ta : TA} {j : Nat} {vs : List Nat} {lo n : Int} (f : Nat → Bool) (v : Nat → V) (h : EvA ta σ H [.int lo, .int n]) (hn : -40000 ≤ lo ∧ lo ≤ 40000 ∧ n ≤ lo + 40000 ∧ -40000 ≤ n) (hw : ∀ x, wipe ((wipe σ vs).set j (some x)) vs = wipe σ vs)
    (ht : ∀ (i : Nat) H1, Ex H H1 → lo + (i : Int) < n → EvT t ((wipe σ vs).set j (some (.int (lo + (i : Int))))) H1 (f i)) (he : ∀ (i : Nat) H1, Ex H H1 → lo + (i : Int) < n → f i = true → Ev te ((wipe σ vs).set j (some (.int (lo + (i : Int))))) H1 (v i)) :
    EvL (tLc (iRng2 ta) (gName j) t te vs) σ H (given (n - lo).toNat f v) := fun H0 e Q q => h H0 e _ fun H1 e1 => ⟨lo, n, rfl, by omega, fun Dl hD =>
  lc_range (lo := lo) (n := (n - lo).toNat) (Cw H1 f v Dl) ⟨hD, Ex.new hD, upd_same⟩ (fun i H' hi p => ⟨hw _, cw_turn p (by omega) (ht i H1 (e.trans e1) (by omega)) (fun hf => he i H1 (e.trans e1) (by omega) hf)⟩) (fun H' p => q Dl H' (fresh_back e1 p.1) (e1.trans p.2.1) p.2.2)⟩
theorem et_yes : EvT tYes σ H true := fun H1 _ _ q => q H1 (Ex.refl H1)
theorem spv_call {sp : Sp} {vs : List V} (h : ∀ H1, Ex H H1 → ∀ Q E, RetV z H1 Q → sp vs H1 Q E) : SpV sp (vs ++ []) H z := fun H1 e Q q E => by
  rw [List.append_nil]
  exact h H1 e Q E q
theorem cmul_r {i j : Int} (h1 : -(2 ^ 64) < j) (h2 : j < 2 ^ 64) : CMul i j := .inr ⟨h1, h2⟩
theorem cmul_l {i j : Int} (h1 : -(2 ^ 64) < i) (h2 : i < 2 ^ 64) : CMul i j := .inl ⟨h1, h2⟩
end
section
variable {K : PySem.W.Frag} {σ : L2.St} {H H' : Hp} {ta tb te tx : TE} {t u : TT} {x y z v : V} {D : Ends}
theorem rv_isN : RV (fun x y H Q => y = .non ∧ Q (.bl (decide (x = .non))) H) x .non H (.bl (decide (x = .non))) := fun H1 _ Q q => ⟨rfl, q H1 (Ex.refl H1)⟩
theorem rv_notN : RV (fun x y H Q => y = .non ∧ Q (.bl (!decide (x = .non))) H) x .non H (.bl (!decide (x = .non))) := fun H1 _ Q q => ⟨rfl, q H1 (Ex.refl H1)⟩
theorem rv_addS {i j : Str} (h : i.length + j.length ≤ sizeLine) : RV (fun x y H Q => ∃ i j, x = .str i ∧ y = .str j ∧ i.length + j.length ≤ sizeLine ∧ Q (.str (i ++ j)) H) (.str i) (.str j) H (.str (i ++ j)) := fun H1 _ Q q => ⟨i, j, rfl, rfl, h, q H1 (Ex.refl H1)⟩
theorem rc_int_int {i : Int} : RC (fun xs H Q => (∃ i, xs = [.int i] ∧ Q (.int i) H) ∨ ∃ k, xs = [.bl k] ∧ Q (.int (if k then 1 else 0)) H) [.int i] H (.int i) := fun H1 _ Q q => .inl ⟨i, rfl, q H1 (Ex.refl H1)⟩
theorem rc_int_bl {k : Bool} : RC (fun xs H Q => (∃ i, xs = [.int i] ∧ Q (.int i) H) ∨ ∃ k, xs = [.bl k] ∧ Q (.int (if k then 1 else 0)) H) [.bl k] H (.int (if k then 1 else 0)) := fun H1 _ Q q => .inr ⟨k, rfl, q H1 (Ex.refl H1)⟩
theorem ev_fld {a C dx : Addr} {fs : List (Str × V)} {f : Str} (h : Ev ta σ H (.ref a)) (ho : H a = some (.ins C dx fs)) (hc : Cls K C) (hn : NoAttr K C f) (hl : fs.lookup f = some v) : Ev (tFld K ta f) σ H v := fun H1 e Q q =>
  h H1 e _ fun H2 e2 => ⟨a, C, dx, fs, v, rfl, e2 a _ (e a _ ho), hc, hn, hl, q H2 e2⟩
theorem ev_meth {a C dx : Addr} {fs : List (Str × V)} {m : Str} {sp : Sp} {E : XK} {tr : TA} {vs : List V} (h : Ev ta σ H (.ref a)) (ho : H a = some (.ins C dx fs)) (hl : fs.lookup m = none) (ha : EvA tr σ H vs) (hs : SpV sp (.ref a :: (vs ++ [])) H z) : Ev (tMeth C m sp [] E ta tr) σ H z := fun H1 e Q q =>
  h H1 e _ fun H2 e2 => ⟨a, dx, fs, rfl, e2 a _ (e a _ ho), hl, ha H2 (e.trans e2) _ fun H3 e3 => hs H3 ((e.trans e2).trans e3) Q (fun H4 e4 => q H4 ((e2.trans e3).trans e4)) E⟩
end
section
variable {K : PySem.W.Frag} {σ : L2.St} {H H' : Hp} {ta tb te tx : TE} {t u : TT} {x y z v : V} {D : Ends} {tz tu : TS} {sp : Sp} {E : XK} {tr : TA} {vs : List V}
/-- name = f(..), whatever the promise hands back -/
theorem q_call {i : Nat} (h : EvA tr σ H vs) (k : ∀ H1, Ex H H1 → sp (vs ++ []) H1 (fun x H2 => tz D (σ.set i (some x)) H2) E) : tSeq (tAsg (tCall sp [] E tr) (gName i)) tz D σ H := h H (Ex.refl H) _ fun H1 e1 => k H1 e1
theorem s_call {i : Nat} (h : EvA tr σ H vs) (k : ∀ H1, Ex H H1 → sp (vs ++ []) H1 (fun x H2 => D.nx (σ.set i (some x)) H2) E) : tAsg (tCall sp [] E tr) (gName i) D σ H := h H (Ex.refl H) _ fun H1 e1 => k H1 e1
theorem s_retC (h : EvA tr σ H vs) (k : ∀ H1, Ex H H1 → sp (vs ++ []) H1 D.rt E) : tRet (tCall sp [] E tr) D σ H := h H (Ex.refl H) _ fun H1 e1 => k H1 e1
/-- .. a method of the instance at a -/
theorem q_meth {i : Nat} {a C dx : Addr} {fs : List (Str × V)} {m : Str} (h : Ev ta σ H (.ref a)) (ho : H a = some (.ins C dx fs)) (hl : fs.lookup m = none) (ha : EvA tr σ H vs) (k : ∀ H1, Ex H H1 → sp (.ref a :: (vs ++ [])) H1 (fun x H2 => tz D (σ.set i (some x)) H2) E) :
    tSeq (tAsg (tMeth C m sp [] E ta tr) (gName i)) tz D σ H := h H (Ex.refl H) _ fun H1 e1 => ⟨a, dx, fs, rfl, e1 a _ ho, hl, ha H1 e1 _ fun H2 e2 => k H2 (e1.trans e2)⟩
theorem s_methA {i : Nat} {a C dx : Addr} {fs : List (Str × V)} {m : Str} (h : Ev ta σ H (.ref a)) (ho : H a = some (.ins C dx fs)) (hl : fs.lookup m = none) (ha : EvA tr σ H vs) (k : ∀ H1, Ex H H1 → sp (.ref a :: (vs ++ [])) H1 (fun x H2 => D.nx (σ.set i (some x)) H2) E) :
    tAsg (tMeth C m sp [] E ta tr) (gName i) D σ H := h H (Ex.refl H) _ fun H1 e1 => ⟨a, dx, fs, rfl, e1 a _ ho, hl, ha H1 e1 _ fun H2 e2 => k H2 (e1.trans e2)⟩
theorem q_dmeth {a C dx : Addr} {fs : List (Str × V)} {m : Str} (h : Ev ta σ H (.ref a)) (ho : H a = some (.ins C dx fs)) (hl : fs.lookup m = none) (ha : EvA tr σ H vs) (k : ∀ H1, Ex H H1 → sp (.ref a :: (vs ++ [])) H1 (fun _ H2 => tz D σ H2) E) :
    tSeq (tDrop (tMeth C m sp [] E ta tr)) tz D σ H := h H (Ex.refl H) _ fun H1 e1 => ⟨a, dx, fs, rfl, e1 a _ ho, hl, ha H1 e1 _ fun H2 e2 => k H2 (e1.trans e2)⟩
theorem s_dmeth {a C dx : Addr} {fs : List (Str × V)} {m : Str} (h : Ev ta σ H (.ref a)) (ho : H a = some (.ins C dx fs)) (hl : fs.lookup m = none) (ha : EvA tr σ H vs) (k : ∀ H1, Ex H H1 → sp (.ref a :: (vs ++ [])) H1 (fun _ H2 => D.nx σ H2) E) :
    tDrop (tMeth C m sp [] E ta tr) D σ H := h H (Ex.refl H) _ fun H1 e1 => ⟨a, dx, fs, rfl, e1 a _ ho, hl, ha H1 e1 _ fun H2 e2 => k H2 (e1.trans e2)⟩
theorem s_retM {a C dx : Addr} {fs : List (Str × V)} {m : Str} (h : Ev ta σ H (.ref a)) (ho : H a = some (.ins C dx fs)) (hl : fs.lookup m = none) (ha : EvA tr σ H vs) (k : ∀ H1, Ex H H1 → sp (.ref a :: (vs ++ [])) H1 D.rt E) :
    tRet (tMeth C m sp [] E ta tr) D σ H := h H (Ex.refl H) _ fun H1 e1 => ⟨a, dx, fs, rfl, e1 a _ ho, hl, ha H1 e1 _ fun H2 e2 => k H2 (e1.trans e2)⟩
theorem rd_upd {a l : Addr} {u o o' : HO} (h : Rd H a u) (hl : H l = some o) (hd : o ≠ u) (hf : ∀ ob, o ≠ .frz ob u) : Rd (upd H l o') a u := by
  rcases h with h | ⟨ob, h⟩
  · exact .inl (by rw [upd_ne (fun e => by rw [e, hl] at h; exact hd (Option.some.inj h))]; exact h)
  · exact .inr ⟨ob, by rw [upd_ne (fun e => by rw [e, hl] at h; exact hf ob (Option.some.inj h))]; exact h⟩
theorem sqT_upd {a l : Addr} {xs ys : List V} {o : HO} (h : SqT K H a xs) (hl : H l = some (.lst ys)) : SqT K (upd H l o) a xs := by
  rcases h with h | h
  · exact .inl (rd_upd h hl (by intro q; cases q) (by intro _ q; cases q))
  · exact .inr h
end
section
variable {K : PySem.W.Frag} {σ : L2.St} {H H' : Hp} {ta tb te tx tv tl : TE} {t u : TT} {x y z v : V} {D : Ends} {tz tu : TS} {sp : Sp} {E : XK} {tr : TA} {vs : List V}
theorem ev_fldx {a C : Addr} {fs : List (Str × V)} {f : Str} (h : Ev ta σ H (.ref a)) (ho : ∃ dx, H a = some (.ins C dx fs)) (hc : Cls K C) (hn : NoAttr K C f) (hl : fs.lookup f = some v) : Ev (tFld K ta f) σ H v := let ⟨_, ho⟩ := ho; ev_fld h ho hc hn hl
theorem s_fld {a C dx : Addr} {fs : List (Str × V)} {f : Str} (h : Ev tv σ H y) (ha : Ev ta σ H (.ref a)) (ho : H a = some (.ins C dx fs)) (hc : Cls K C) (hn : NoAttr K C f) (hl : fs.length < 1000) (k : ∀ H1, Ex H H1 → D.nx σ (upd H1 a (.ins C dx (putF f y fs)))) : sFld K ta tv f D σ H :=
  h H (Ex.refl H) _ fun H1 e1 => ha H1 e1 _ fun H2 e2 => ⟨a, C, dx, fs, rfl, e2 a _ (e1 a _ ho), hc, hn, hl, k H2 (e1.trans e2)⟩
theorem q_fld {a C dx : Addr} {fs : List (Str × V)} {f : Str} (h : Ev tv σ H y) (ha : Ev ta σ H (.ref a)) (ho : H a = some (.ins C dx fs)) (hc : Cls K C) (hn : NoAttr K C f) (hl : fs.length < 1000) (k : ∀ H1, Ex H H1 → tz D σ (upd H1 a (.ins C dx (putF f y fs)))) : tSeq (sFld K ta tv f) tz D σ H :=
  s_fld (D := { D with nx := tz D }) h ha ho hc hn hl k
theorem s_fldL {a C dx : Addr} {fs : List (Str × V)} {f : Str} {xs : List V} (h : EvL tv σ H xs) (ha : Ev ta σ H (.ref a)) (ho : H a = some (.ins C dx fs)) (hc : Cls K C) (hn : NoAttr K C f) (hl : fs.length < 1000) (k : ∀ q H1, H q = none → Ex H H1 → H1 q = some (.lst xs) → D.nx σ (upd H1 a (.ins C dx (putF f (.ref q) fs)))) : sFld K ta tv f D σ H :=
  h H (Ex.refl H) _ fun q H1 hq e1 h1 => ha H1 e1 _ fun H2 e2 => ⟨a, C, dx, fs, rfl, e2 a _ (e1 a _ ho), hc, hn, hl, k q H2 hq (e1.trans e2) (e2 q _ h1)⟩
theorem el_cat {xs ys : List V} (ha : EvL ta σ H xs) (hb : EvL tb σ H ys) (hz : xs.length + ys.length ≤ 100000) : EvL (tOp rCat ta tb) σ H (xs ++ ys) := fun H1 e Q q =>
  ha H1 e _ fun p H2 hp e2 h2 => hb H2 (e.trans e2) _ fun r H3 hr e3 h3 => ⟨p, r, xs, ys, rfl, rfl, e3 p _ h2, h3, sz_of hz, fun s hs => q s _ (fresh_back (e2.trans e3) hs) ((e2.trans e3).trans (Ex.new hs)) upd_same⟩
theorem el_meth {a C dx : Addr} {fs : List (Str × V)} {m : Str} {xs : List V} (h : Ev ta σ H (.ref a)) (ho : H a = some (.ins C dx fs)) (hl : fs.lookup m = none) (ha : EvA tr σ H vs) (hs : SpL sp (.ref a :: (vs ++ [])) H xs) : EvL (tMeth C m sp [] E ta tr) σ H xs := fun H1 e Q q =>
  h H1 e _ fun H2 e2 => ⟨a, dx, fs, rfl, e2 a _ (e a _ ho), hl, ha H2 (e.trans e2) _ fun H3 e3 => hs H3 ((e.trans e2).trans e3) Q (fun p H4 hp e4 h4 => q p H4 (fresh_back (e2.trans e3) hp) ((e2.trans e3).trans e4) h4) E⟩
theorem given_take {α : Type} (ps : List α) (g : α → Bool) (w : α → V) (n : Nat) (hn : n ≤ ps.length) : given n (fun i => (ps[i]?.map g).getD false) (fun i => (ps[i]?.map w).getD .non) = ((ps.take n).filter g).map w := by
  induction n with
  | zero => rfl
  | succ n ih =>
    have hlt : n < ps.length := hn
    have e1 : ps[n]? = some ps[n] := List.getElem?_eq_getElem hlt
    have e2 : ps.take (n + 1) = ps.take n ++ [ps[n]] := by rw [List.take_succ, e1]; rfl
    rw [e2, List.filter_append, List.map_append, ← ih (by omega)]
    cases hg : g ps[n] with
    | true =>
      rw [given_yes (by rw [e1]; exact hg), e1, List.filter_cons, if_pos hg]
      rfl
    | false =>
      rw [given_no (by rw [e1]; exact hg), List.filter_cons, if_neg (by rw [hg]; decide)]
      simp
theorem given_list {α : Type} (ps : List α) (g : α → Bool) (w : α → V) : given ps.length (fun i => (ps[i]?.map g).getD false) (fun i => (ps[i]?.map w).getD .non) = (ps.filter g).map w := by
  rw [given_take ps g w ps.length (Nat.le_refl _), List.take_length]
/-- a comprehension over a list of things told by u, kept by g, made by w -/
theorem el_lcM {α : Type} {ps : List α} {uu : α → V} {a : Addr} {j : Nat} {ws : List Nat} (g : α → Bool) (w : α → V) (h : Ev tl σ H (.ref a)) (hx : SqL K H a (ps.map uu)) (hz : ps.length ≤ 40000) (hw : ∀ x, wipe ((wipe σ ws).set j (some x)) ws = wipe σ ws)
    (ht : ∀ q ∈ ps, ∀ H1, Ex H H1 → EvT t ((wipe σ ws).set j (some (uu q))) H1 (g q)) (he : ∀ q ∈ ps, ∀ H1, Ex H H1 → g q = true → Ev te ((wipe σ ws).set j (some (uu q))) H1 (w q)) : EvL (tLc (iList K tl) (gName j) t te ws) σ H ((ps.filter g).map w) := by
  have key := el_lcL (K := K) (t := t) (te := te) (fun i => (ps[i]?.map g).getD false) (fun i => (ps[i]?.map w).getD .non) h hx (by rw [List.length_map]; exact hz) hw
    (fun i x H1 e1 hi => by
      rw [List.getElem?_map] at hi
      cases hq : ps[i]? with
      | none => rw [hq] at hi; cases hi
      | some q =>
        rw [hq] at hi
        cases hi
        exact ht q (List.mem_of_getElem? hq) H1 e1)
    (fun i x H1 e1 hi hf => by
      rw [List.getElem?_map] at hi
      cases hq : ps[i]? with
      | none => rw [hq] at hi; cases hi
      | some q =>
        rw [hq] at hi hf
        cases hi
        exact he q (List.mem_of_getElem? hq) H1 e1 hf)
  rw [List.length_map, given_list] at key
  exact key
theorem el_lcNM {α : Type} {ps : List α} {uu : α → V} {j : Nat} {ws : List Nat} (g : α → Bool) (w : α → V) (h : EvL tl σ H (ps.map uu)) (hz : ps.length ≤ 40000) (hw : ∀ x, wipe ((wipe σ ws).set j (some x)) ws = wipe σ ws)
    (ht : ∀ q ∈ ps, ∀ H1, Ex H H1 → EvT t ((wipe σ ws).set j (some (uu q))) H1 (g q)) (he : ∀ q ∈ ps, ∀ H1, Ex H H1 → g q = true → Ev te ((wipe σ ws).set j (some (uu q))) H1 (w q)) : EvL (tLc (iList K tl) (gName j) t te ws) σ H ((ps.filter g).map w) := by
  have key := el_lcNL (K := K) (t := t) (te := te) (fun i => (ps[i]?.map g).getD false) (fun i => (ps[i]?.map w).getD .non) h (by rw [List.length_map]; exact hz) hw
    (fun i x H1 e1 hi => by
      rw [List.getElem?_map] at hi
      cases hq : ps[i]? with
      | none => rw [hq] at hi; cases hi
      | some q =>
        rw [hq] at hi
        cases hi
        exact ht q (List.mem_of_getElem? hq) H1 e1)
    (fun i x H1 e1 hi hf => by
      rw [List.getElem?_map] at hi
      cases hq : ps[i]? with
      | none => rw [hq] at hi; cases hi
      | some q =>
        rw [hq] at hi hf
        cases hi
        exact he q (List.mem_of_getElem? hq) H1 e1 hf)
  rw [List.length_map, given_list] at key
  exact key
theorem filter_true {α : Type} (l : List α) : l.filter (fun _ => true) = l := List.filter_eq_self.mpr fun _ _ => rfl
theorem spl_call {xs : List V} (h : ∀ H1, Ex H H1 → ∀ Q E, RetL xs H1 Q → sp vs H1 Q E) : SpL sp vs H xs := fun H1 e Q q E => h H1 e Q E q
theorem spv_meth (h : ∀ H1, Ex H H1 → ∀ Q E, RetV z H1 Q → sp vs H1 Q E) : SpV sp vs H z := fun H1 e Q q E => h H1 e Q E q
end
/-! the rules that speak of the written part, said of K itself (within a comprehension the context is another one, K is not) -/
section
variable {X : Cx} {K : PySem.W.Frag} {e o : Expr} {te ta : TE} {pos : Pos} {f : Str}
theorem pe_fldK (h : X.K = K) (he : PE X e ta) (hb : attributeBase e f X.env (eval e X.env) = eval e X.env) : PE X (.Attribute e f pos) (tFld K ta f) := h ▸ pe_fld he hb
theorem ix_listK (h : X.K = K) : IxR X (rIxL K) := h ▸ ix_list
theorem ix_tupK (h : X.K = K) : IxR X (rIxT K) := h ▸ ix_tup
theorem call_lenK (h : X.K = K) : CallR X (.builtin "len") (rLenS K) := h ▸ call_len_seq
theorem call_listK (h : X.K = K) : CallR X (.type "list") (rListS K) := h ▸ call_list_of
theorem op_inK (h : X.K = K) : OpR X (compareOp .In) (rIn K false) := h ▸ op_in_seq
theorem op_notInK (h : X.K = K) : OpR X (compareOp .NotIn) (rIn K true) := h ▸ op_notIn_seq
theorem op_eqK (h : X.K = K) (hu : X.A.units + 64 < cLine) : OpR X (compareOp .Eq) (rEqD K) := h ▸ op_eqD hu
theorem op_neK (h : X.K = K) (hu : X.A.units + 64 < cLine) : OpR X (compareOp .NotEq) (rNeD K) := h ▸ op_neD hu
theorem call_isiK' (h : X.K = K) : CallR X (.builtin "isinstance") (rIsi K) := h ▸ call_isi
theorem sl_listK (h : X.K = K) : SlR X (rSlL K) := h ▸ sl_list
theorem sl_tupK (h : X.K = K) : SlR X (rSlT K) := h ▸ sl_tup
theorem cr_sumK (h : X.K = K) (hc : X.calm = true) : CallR X (.builtin "sum") (rSum K) := h ▸ cr_sum hc
theorem pi_listK {tg : Expr} (h : X.K = K) (he : PE X e te) : PI X tg e (iList K te) := h ▸ pi_list he
theorem pi_tupK {tg : Expr} (h : X.K = K) (he : PE X e te) : PI X tg e (iTup K te) := h ▸ pi_tup he
theorem mt_indexK (h : X.K = K) : MtR X "list.index" (rIndex K) := h ▸ mt_index
end
section
variable {K : PySem.W.Frag} {H : Hp}
theorem rc_lenS {p : Addr} {xs : List V} (h : SqL K H p xs) : RC (rLenS K) [.ref p] H (.int (xs.length : Int)) := fun H1 e Q q => ⟨p, xs, rfl, .inl (ex_l e h), q H1 (Ex.refl H1)⟩
end
theorem pe_bmK {X : Cx} {K : PySem.W.Frag} {o e : Expr} {es : List Expr} {to : TE} {t : TA} {name : Str} {apos cpos : Pos} {T id : String} {r : V → List V → Hp → VK → Prop} (hK : X.K = K) (pa : PlainAttrs T) (slot : Slot T name id) (hty : typeOf (.builtin id) = pure (.type "method_descriptor")) (hm : MtR X id r) (ho : PE X o to) (ha : PA X (e :: es) t)
    (h1 : attributeBase o name X.env (eval o X.env) = eval o X.env := by rfl)
    (h2 : ((backTo cpos (starEach (e :: es) X.env)).all (fun x => !x.1) && (backToKw cpos (keywordEach [] X.env)).all (fun x => x.1.isSome)
      && decide ((e :: es).length + ([] : List Keyword).length + (if ([] : List Keyword).isEmpty then 0 else 1) < 30)) = true := by rfl)
    (h3 : (apos.endLine == cpos.line) = true := by rfl) (h4 : starEach (e :: es) X.env = (false, eval e X.env) :: starEach es X.env := by rfl) (h5 : (backTo cpos (starEach es X.env)).any (·.1) = false := by rfl) :
    PE X (.Call (.Attribute o name apos) (e :: es) [] cpos) (tBM K T r to t) := hK ▸ pe_bm pa slot hty hm ho ha h1 h2 h3 h4 h5
def repS (z : Str) (n : Nat) : Str := ⟨(List.replicate n z.cps).foldl (· ++ ·) #[]⟩
theorem rep_size (z : Array Nat) : ∀ (n : Nat) (acc : Array Nat), ((List.replicate n z).foldl (· ++ ·) acc).size = acc.size + n * z.size
  | 0, acc => by simp
  | n + 1, acc => by
    rw [List.replicate_succ, List.foldl_cons, rep_size z n, Array.size_append, Nat.succ_mul]
    omega
theorem repS_len (z : Str) (n : Nat) : (repS z n).length = n * z.length := by
  have := rep_size z.cps n #[]
  rw [show (#[] : Array Nat).size = 0 from rfl, Nat.zero_add] at this
  exact this
def rRepS : R2 := fun x y H Q => ∃ (z : Str) (n : Int), x = .str z ∧ y = .int n ∧ 2 ≤ n ∧ n ≤ 100 ∧ 1 ≤ z.length ∧ z.length ≤ 100 ∧ Q (.str (repS z n.toNat)) H
theorem op_rep_str {X : Cx} : OpR X (binaryOp .Mult) rRepS := by
  intro pins s σ H x y v u Q I rx ry h
  obtain ⟨z, n, rfl, rfl, h1, h2, h3, h4, q⟩ := h
  obtain ⟨t, rfl⟩ := rx
  obtain ⟨t', rfl⟩ := ry
  have hm : z.length * n.toNat ≤ 100 * 100 := Nat.mul_le_mul h4 (by omega)
  have hm2 : (z.length : Int) * n ≤ 100 * 100 := by
    have : ((z.length * n.toNat : Nat) : Int) = (z.length : Int) * n := by rw [Int.natCast_mul]; congr 1; omega
    omega
  refine P.mul_str (by rw [decide_eq_false (by omega), decide_eq_false (by omega)]; rfl) (fun _ _ h => ?_) (fun _ _ => ?_) ?_
  · have : (z.length : Int) ≤ (2 ^ 63 - 1) / n := (Int.le_ediv_iff_mul_le (by omega)).mpr (by omega)
    omega
  · exact decide_eq_false (by have : (10000 : Nat) ≤ sizeLine := by decide
                              omega)
  · rw [if_neg (by omega), if_neg (by simp; omega)]
    refine ⟨?_, .str (repS z n.toNat), H, I.tok _, ⟨_, rfl⟩, q⟩
    have : (repS z n.toNat).length ≤ sizeLine := by
      rw [repS_len, Nat.mul_comm]
      exact sz_of (by omega)
    exact this
theorem rv_repS {z : Str} {n : Int} {H : Hp} (h1 : 2 ≤ n) (h2 : n ≤ 100) (h3 : 1 ≤ z.length) (h4 : z.length ≤ 100) : RV rRepS (.str z) (.int n) H (.str (repS z n.toNat)) := fun H1 _ Q q => ⟨z, n, rfl, rfl, h1, h2, h3, h4, q H1 (Ex.refl H1)⟩
theorem rc_isi_list {K : PySem.W.Frag} {H : Hp} {a : Addr} {xs : List V} (h : H a = some (.lst xs)) : RC (rIsi K) [.ref a, .ty "list"] H (.bl true) := rc_isi (t' := .non) (.ty _) (fun H1 e => .base (.lst (e _ _ h))) (kit_ty (by decide +kernel))
local macro_rules | `(tactic| tm_at "rr.side") => `(tactic| (first | assumption | rfl | decide | (unfold CMul; omega) | (unfold CDiv; omega) | (unfold CPow; omega) | omega | (dsimp only; omega) | (dsimp only; decide)))
local macro_rules | `(tactic| tm_at "rr.step") => `(tactic| (first | exact ev_c | exact ev_var rfl | exact ea_nil | refine' ea_cons ?_ ?_ | refine' ev_op ?_ ?_ rv_I0 | refine' ev_op ?_ ?_ (rv_I ?_) | refine' ev_op ?_ ?_ (rv_eq ?_) | refine' ev_op ?_ ?_ (rv_ne ?_) | refine' ev_call ?_ ?_ | tm_at "rr.cv" | refine' et_test ?_ | refine' et_B ?_ | refine' et_and ?_ (fun _ => ?_) | refine' et_or ?_ (fun _ => ?_) | refine' et_not ?_ | refine' ev_andV ?_ (fun _ => ?_) | refine' ev_orV ?_ (fun _ => ?_) | refine' ev_notV ?_ | exact et_yes | refine' ev_cb ?_ rc_max2 | refine' ev_cb ?_ rc_min2 | refine' ev_cb ?_ rc_int_bl | refine' ev_cb ?_ (rc_lenS ?_) | refine' ev_un ?_ ru_neg | refine' ev_op ?_ ?_ rv_isN | refine' ev_op ?_ ?_ rv_notN | refine' ev_op ?_ ?_ (rv_addS ?_)))
local macro_rules | `(tactic| tm_at "rr.ev") => `(tactic| ((repeat' tm_at "rr.step"); all_goals (try tm_at "rr.side")))
theorem ev_joinA {K : PySem.W.Frag} {σ : L2.St} {H : Hp} {p : Addr} {to te : TE} {a : Str} {ys : List Str} (h : Ev to σ H (.str a)) (h2 : Ev te σ H (.ref p)) (hp : SqL K H p (ys.map V.str)) (hz : (ys.map (·.length)).sum + ys.length * a.length ≤ 16777216) :
    Ev (tM1 (fun x xs H Q => ∃ a p, ∃ ys : List Str, x = .str a ∧ xs = [.ref p] ∧ (SqL K H p (ys.map V.str) ∨ SqT K H p (ys.map V.str)) ∧ (ys.map (·.length)).sum + ys.length * a.length ≤ 16777216 ∧ Q (.str (Txt.join a ys)) H) to te) σ H (.str (Txt.join a ys)) := fun H1 e Q q =>
  h H1 e _ fun H2 e2 => ⟨⟨a, rfl⟩, h2 H2 (e.trans e2) _ fun H3 e3 => ⟨a, p, ys, rfl, rfl, .inl (ex_l ((e.trans e2).trans e3) hp), hz, q H3 (e2.trans e3)⟩⟩
theorem ev_joinL {K : PySem.W.Frag} {σ : L2.St} {H : Hp} {to te : TE} {a : Str} {ys : List Str} (h : Ev to σ H (.str a)) (h2 : EvL te σ H (ys.map V.str)) (hz : (ys.map (·.length)).sum + ys.length * a.length ≤ 16777216) :
    Ev (tM1 (fun x xs H Q => ∃ a p, ∃ ys : List Str, x = .str a ∧ xs = [.ref p] ∧ (SqL K H p (ys.map V.str) ∨ SqT K H p (ys.map V.str)) ∧ (ys.map (·.length)).sum + ys.length * a.length ≤ 16777216 ∧ Q (.str (Txt.join a ys)) H) to te) σ H (.str (Txt.join a ys)) := fun H1 e Q q =>
  h H1 e _ fun H2 e2 => ⟨⟨a, rfl⟩, h2 H2 (e.trans e2) _ fun p H3 hp e3 h3 => ⟨a, p, ys, rfl, rfl, .inl (sq_of h3), hz, q H3 (e2.trans e3)⟩⟩
/-! ### lists of tuples -/
/-- at a: a list of tuples -/
structure Tups (K : PySem.W.Frag) (H : Hp) (a : Addr) (vss : List (List V)) (ts : List Addr) : Prop where
  l : SqL K H a (ts.map V.ref)
  n : ts.length = vss.length
  t : ∀ (i : Nat) (t : Addr) (vs : List V), ts[i]? = some t → vss[i]? = some vs → SqT K H t vs
section
variable {K : PySem.W.Frag} {σ : L2.St} {H H' : Hp} {tl : TE} {l t a : Addr} {vss : List (List V)} {ts : List Addr} {vs : List V} {ta : TA}
theorem Tups.ex (r : Tups K H a vss ts) (e : Ex H H') : Tups K H' a vss ts := ⟨ex_l e r.l, r.n, fun i t vs h1 h2 => ex_t e (r.t i t vs h1 h2)⟩
theorem Tups.at_ (r : Tups K H a vss ts) {i : Nat} (h : vss[i]? = some vs) : ∃ t, (ts.map V.ref)[i]? = some (.ref t) ∧ SqT K H t vs := by
  have hi := (List.getElem?_eq_some_iff.mp h).1
  have h1 : i < ts.length := by rw [r.n]; exact hi
  exact ⟨ts[i], by rw [List.getElem?_map, List.getElem?_eq_getElem h1]; rfl, r.t i _ _ (List.getElem?_eq_getElem h1) h⟩
theorem Tups.snoc (r : Tups K H l vss ts) (hl : H l = some (.lst (ts.map V.ref))) (e : Ex H H') (ht : H' t = some (.tup vs)) : Tups K (upd H' l (.lst (ts.map V.ref ++ [.ref t]))) l (vss ++ [vs]) (ts ++ [t]) := by
  have hl' := e _ _ hl
  refine ⟨?_, ?_, fun i t' q h1 h2 => ?_⟩
  · rw [List.map_append]
    exact sq_of upd_same
  · rw [List.length_append, List.length_append, r.n]
    rfl
  · by_cases hi : i < vss.length
    · rw [List.getElem?_append_left (by rw [r.n]; exact hi)] at h1
      rw [List.getElem?_append_left hi] at h2
      exact sqT_upd (ex_t e (r.t i t' q h1 h2)) hl'
    · rw [List.getElem?_append_right (by rw [r.n]; omega)] at h1
      rw [List.getElem?_append_right (by omega)] at h2
      rw [r.n] at h1
      have ei : i - vss.length = 0 := by
        have := (List.getElem?_eq_some_iff.mp h2).1
        simp at this
        omega
      rw [ei] at h1 h2
      cases h1
      cases h2
      exact sqT_upd (st_of ht) hl'
/-- a new list of tuples comes -/
def EvR (K : PySem.W.Frag) (te : TE) (σ : L2.St) (H : Hp) (vss : List (List V)) : Prop := ∀ H1, Ex H H1 → ∀ Q : VK, (∀ p H2 ts, H1 p = none → Ex H1 H2 → H2 p = some (.lst (ts.map V.ref)) → Tups K H2 p vss ts → Q (.ref p) H2) → te σ H1 Q
theorem er_lc {α : Type} {ps : List α} {uu : α → V} {j : Nat} {ws : List Nat} (w : α → List V) (h : Ev tl σ H (.ref a)) (hx : SqL K H a (ps.map uu)) (hz : ps.length ≤ 40000) (hw : ∀ x, wipe ((wipe σ ws).set j (some x)) ws = wipe σ ws)
    (hl : ∀ q ∈ ps, (w q).length ≤ 1000) (he : ∀ q ∈ ps, ∀ H1, Ex H H1 → EvA ta ((wipe σ ws).set j (some (uu q))) H1 (w q)) : EvR K (tLc (iList K tl) (gName j) tYes (tTup ta) ws) σ H (ps.map w) := fun H0 e Q q => h H0 e _ fun H1 e1 => ⟨a, rfl, ⟨_, ex_l (e.trans e1) hx⟩, fun Dl hD =>
  lc_list (xs := ps.map uu) (fun i H' => Ex H1 H' ∧ ∃ ts : List Addr, H' Dl = some (.lst (ts.map V.ref)) ∧ Tups K H' Dl ((ps.take i).map w) ts) ⟨Ex.new hD, [], upd_same, sq_of upd_same, rfl, fun i t vs h _ => by simp at h⟩ (fun i H' _ p => ex_l ((e.trans e1).trans p.1) hx)
    (fun i x H' hi ⟨p1, ts, p2, p3⟩ => ⟨hw x, by
      refine iteT (B := Ex H1 H' ∧ ∃ ts : List Addr, H' Dl = some (.lst (ts.map V.ref)) ∧ Tups K H' Dl ((ps.take (i + 1)).map w) ts) ?_
      rw [List.getElem?_map] at hi
      cases hq : ps[i]? with
      | none => rw [hq] at hi; cases hi
      | some r =>
        rw [hq] at hi
        cases hi
        have hm := List.mem_of_getElem? hq
        refine he r hm H1 (e.trans e1) H' p1 _ fun H3 e3 => ⟨sz_of (by have := hl r hm; omega), fun t ht => ?_⟩
        have hlt := (List.getElem?_eq_some_iff.mp hq).1
        have p4 : (upd H3 t (.tup (w r))) Dl = some (.lst (ts.map V.ref)) := by rw [upd_ne (ne_of_none (e3 _ _ p2) ht)]; exact e3 _ _ p2
        refine ⟨_, p4, sz_lt (by rw [List.length_map, p3.n, List.length_map]; have := List.length_take_le i ps; omega), Ex.mut ((p1.trans e3).trans (Ex.new ht)) hD, ts ++ [t], by rw [List.map_append]; exact upd_same, ?_⟩
        have e9 : (ps.take (i + 1)).map w = (ps.take i).map w ++ [w r] := by rw [List.take_succ, hq, List.map_append]; rfl
        rw [e9]
        exact p3.snoc p2 (e3.trans (Ex.new ht)) upd_same⟩)
    (fun H' ⟨p1, ts, p2, p3⟩ => q Dl H' ts (fresh_back e1 hD) (e1.trans p1) p2 (by rw [List.length_map, List.take_length] at p3; exact p3))⟩
end
/-! a method that may raise, called within a try: what is wished of the exception knows the names -/
def tMethS (C : Addr) (m : Str) (sp : Sp) (E : L2.St → XK) (ta : TE) (t : TA) : TE := fun σ H Q => ta σ H fun x H1 => ∃ a dx fs, x = .ref a ∧ H1 a = some (.ins C dx fs) ∧ fs.lookup m = none ∧ t σ H1 fun vs H2 => sp (.ref a :: vs) H2 Q (E σ)
theorem pe_methS {X : Cx} {CX : CXT} {k : Nat} {f C : Addr} {fd : FuncData} {ps : List Str} {sp : Sp} {E : L2.St → XK} {m : Str} {pos apos : Pos} {e o : Expr} {es : List Expr} {ta : TE} {t : TA} {pl : Sem Bool} (he : PE X o ta) (c : Cls X.K C) (hm : Meth X.K C m f) (F : FnOk X.prog X.w X.K X.mg X.base CX k f fd ps sp) (hr : Room k X.A) (hb : L2.Binds X.K fd ps []) (hx : ∀ σ, PassesAt CX X σ (E σ)) (ha : PA X (e :: es) t)
    (hst : starEach (e :: es) X.env = (false, eval e X.env) :: starEach es X.env := by rfl) (hpl : (backTo pos (starEach es X.env)).any (·.1) = false := by rfl)
    (ht : eval (.Call (.Attribute o m apos) (e :: es) [] pos) X.env = (do
      let ov ← eval o X.env
      standAt apos.atName
      let (f, first) ← holding [ov] (getMethod ov m pl)
      callWith pos f first (backTo pos (starEach (e :: es) X.env)) (backToKw pos (keywordEach [] X.env))) := by rfl) :
    PE X (.Call (.Attribute o m apos) (e :: es) [] pos) (tMethS C m sp E ta t) := by
  refine ⟨fun pins s σ H Q I h => ?_⟩
  refine PySem.W.methodCall_KW (pl := pl) (thn (he.run pins s σ H _ I h) fun u s1 ⟨x, H1, I1, rx, a, dx, fs, ex, ea, l, q⟩ => ?_) ht
  subst ex
  obtain rfl : u = Value.ref a := rx
  refine getmeth_ok I1 ea c hm l ?_
  refine PySem.W.callWith_K (first := [.ref a]) (h₀ := X.base) I.ok.mod.kin hm.kp (thn (ha.run pos pins s1 σ H1 _ I1 q) fun us s2 ⟨vs, H2, I2, r, q2⟩ => ⟨I2.kIn, ?_⟩) hst hpl
  exact run_fnS (us := .ref a :: us) (vs := .ref a :: vs) F hr hb (hx σ) I2 (.cons rfl r) q2

/-! ### L_cell_at -/
theorem sc_L_cell_at : FnScope ["_law_script", "_law_k"] ["_law_script", "_law_k"] (defScope s_L_cell_at) := ⟨rfl, rfl, rfl, by decide +kernel, rfl, by decide +kernel, by decide +kernel⟩
def cellAt (ns : List Int) (k : Int) : Int := if k < (ns.length : Int) then ns.getD k.toNat 0 else 0
def sp_L_cell_at (K : PySem.W.Frag) : Sp := fun vs H Q _ => ∃ (a : Addr) (ns : List Int) (i : Int), vs = [.ref a, .int i] ∧ SqL K H a (ns.map V.int) ∧ 0 ≤ i ∧ RetV (.int (cellAt ns i)) H Q
theorem cv_L_cell_at {K : PySem.W.Frag} {H : Hp} {a : Addr} {ns : List Int} {i : Int} (h : SqL K H a (ns.map V.int)) (h0 : 0 ≤ i) : SpV (sp_L_cell_at K) ([.ref a, .int i] ++ []) H (.int (cellAt ns i)) :=
  spv_call fun _ e _ _ k => ⟨a, ns, i, rfl, ex_l e h, h0, k⟩
local macro_rules | `(tactic| tm_at "rr.cv") => `(tactic| refine' cv_L_cell_at (by assumption) ?_)
theorem ok_L_cell_at {P : Program} {w : World} {K : PySem.W.Frag} {mg : Str → Option Value} {base : Heap} (T : Txt K mg) : ∃ fd, FnOk P w K mg base (CX0) 1 (He.ga K "_law_cell_at") fd ["_law_script", "_law_k"] (sp_L_cell_at K) ∧ Binds K fd ["_law_script", "_law_k"] [] ∧ FunD K "_law_cell_at" "_law_cell_at" (defArgs s_L_cell_at) (defBody s_L_cell_at) (defScope s_L_cell_at) [] [] (He.ga K "_law_cell_at") fd := by
  obtain ⟨fd, F⟩ := f_L_cell_at T
  refine ⟨fd, ok0 F sc_L_cell_at (fun vs H Q E h => ?_) (fun cdv A outer s H vs Q E hr h => ?_), FunD.bindsN F fun _ _ _ _ _ _ us hl => match us, hl with | [_, _], _ => rfl, F⟩
  · (repeat (obtain ⟨_, h⟩ := h)); subst_vars; rfl
  · obtain ⟨a, ns, i, rfl, hS, h0, k⟩ := h
    refine ⟨_, (pss_cons (ps_if (pt_cmpR op_lt (pv 1) (pe_callB (call_lenK (K := K) rfl) rfl (b_len T) (by decide +kernel) (pa_cons (pv 0) pa_nil)) (nomark _)) (pss_one (ps_ret (pe_ix (ix_listK (K := K) rfl) (pv 0) (pv 1) (fun _ _ => rfl))))
        pss_nil)
        (pss_one (ps_ret pe_int))), ?_⟩
    refine q_when (et_test (ev_op (ev_var rfl) (ev_cb (ea_cons (ev_var rfl) ea_nil) (rc_lenS hS)) rv_I0)) (fun hb H1 e1 => ?_) (fun hb H1 e1 => ?_)
    · have hlt : i < ((ns.map V.int).length : Int) := of_decide_eq_true hb
      rw [List.length_map] at hlt
      have ev : cellAt ns i = ns.getD i.toNat 0 := if_pos hlt
      have hv : atI (ns.map V.int) i = some (.int (cellAt ns i)) := by
        rw [ev]
        refine at_of (j := i.toNat) (by omega) ?_
        rw [List.getElem?_map, List.getD_eq_getElem?_getD]
        have : i.toNat < ns.length := by omega
        rw [List.getElem?_eq_getElem this] <;> rfl
      exact s_ret (ev_op (ev_var rfl) (ev_var rfl) (rv_ixL (ex_l e1 hS) hv)) fun H2 e2 => k H2 (e1.trans e2)
    · have hlt : ¬ i < ((ns.map V.int).length : Int) := of_decide_eq_false hb
      rw [List.length_map] at hlt
      have ev : cellAt ns i = 0 := if_neg hlt
      rw [ev] at k
      exact s_ret ev_c fun H2 e2 => k H2 (e1.trans e2)
def mix (c p m : Int) : Int := c * 48271 % p % m
theorem mix_nonneg {c p m : Int} (h : 0 < m) : 0 ≤ mix c p m := Int.emod_nonneg _ (by omega)
theorem mix_lt {c p m : Int} (h : 0 < m) : mix c p m < m := Int.emod_lt_of_pos _ h
theorem et_mix0 {σ : L2.St} {H : Hp} {te : TE} {x : Int} {a : Int} (h : Ev te σ H (.int x)) : EvT (tTest (tOp rEq te (tC (.int a)))) σ H (decide (x = a)) := et_is (et_test (ev_op h ev_c (rv_eq rfl))) (decide_eq_decide.mpr ⟨fun h => by injection h, fun h => by rw [h]⟩)
theorem pick4 {a b c d : V} {i : Int} (h0 : 0 ≤ i) (h4 : i < 4) : atI [a, b, c, d] i = some (match i.toNat with | 0 => a | 1 => b | 2 => c | _ => d) := by
  have : i = 0 ∨ i = 1 ∨ i = 2 ∨ i = 3 := by omega
  rcases this with rfl | rfl | rfl | rfl <;> rfl
def ag (p : Int) (q : Int × Int) : Int := q.1 + q.2 / p
def fstep (p : Int) (qs : List (Int × Int)) (s : Option Nat × Int) (k : Nat) : Option Nat × Int := if s.1 = none ∨ s.2 < ag p (qs.getD k (0, 0)) then (some k, ag p (qs.getD k (0, 0))) else s
def fstate (p : Int) (qs : List (Int × Int)) (n : Nat) : Option Nat × Int := (List.range n).foldl (fstep p qs) (none, 0)
def firstIdx (p : Int) (qs : List (Int × Int)) : Option Nat := (fstate p qs qs.length).1
theorem fstate_succ (p : Int) (qs : List (Int × Int)) (n : Nat) : fstate p qs (n + 1) = fstep p qs (fstate p qs n) n := by
  unfold fstate
  rw [List.range_succ, List.foldl_append]
  rfl
/-- the place that is chosen: a greatest one, greater than all ahead -/
def IsFirst (p : Int) (qs : List (Int × Int)) : Option Nat → Prop
  | none => qs = []
  | some j => j < qs.length ∧ ∀ i, i < qs.length → ag p (qs.getD i (0, 0)) ≤ ag p (qs.getD j (0, 0)) ∧ (i < j → ag p (qs.getD i (0, 0)) < ag p (qs.getD j (0, 0)))
theorem fstate_is (p : Int) (qs : List (Int × Int)) (n : Nat) : match (fstate p qs n).1 with
    | none => n = 0
    | some j => j < n ∧ (fstate p qs n).2 = ag p (qs.getD j (0, 0)) ∧ ∀ i, i < n → ag p (qs.getD i (0, 0)) ≤ ag p (qs.getD j (0, 0)) ∧ (i < j → ag p (qs.getD i (0, 0)) < ag p (qs.getD j (0, 0))) := by
  induction n with
  | zero => rfl
  | succ n ih =>
    rw [fstate_succ]
    unfold fstep
    by_cases c : (fstate p qs n).1 = none ∨ (fstate p qs n).2 < ag p (qs.getD n (0, 0))
    · rw [if_pos c]
      refine ⟨Nat.lt_succ_self n, rfl, fun i hi => ?_⟩
      by_cases e : i = n
      · subst e
        exact ⟨Int.le_refl _, fun h => absurd h (Nat.lt_irrefl _)⟩
      · have hin : i < n := by omega
        have key : ag p (qs.getD i (0, 0)) < ag p (qs.getD n (0, 0)) := by
          cases e1 : (fstate p qs n).1 with
          | none =>
            rw [e1] at ih
            dsimp only at ih
            omega
          | some j =>
            rw [e1] at ih c
            obtain ⟨_, h2, h3⟩ := ih
            rcases c with c | c
            · cases c
            · rw [h2] at c
              have := (h3 i hin).1
              omega
        exact ⟨Int.le_of_lt key, fun _ => key⟩
    · rw [if_neg c]
      cases e1 : (fstate p qs n).1 with
      | none => exact absurd (.inl e1) c
      | some j =>
        rw [e1] at ih
        obtain ⟨h1, h2, h3⟩ := ih
        refine ⟨by omega, h2, fun i hi => ?_⟩
        by_cases e : i = n
        · subst e
          have : ¬ (fstate p qs i).2 < ag p (qs.getD i (0, 0)) := fun h => c (.inr h)
          rw [h2] at this
          exact ⟨by omega, fun h => by omega⟩
        · exact h3 i (by omega)
theorem firstIdx_is (p : Int) (qs : List (Int × Int)) : IsFirst p qs (firstIdx p qs) := by
  have h := fstate_is p qs qs.length
  unfold firstIdx
  cases e : (fstate p qs qs.length).1 with
  | none =>
    rw [e] at h
    exact List.length_eq_zero_iff.mp h
  | some j =>
    rw [e] at h
    exact ⟨h.1, h.2.2⟩
def optV : Option Nat → V
  | none => .non
  | some j => .int (j : Int)
/-- at a: a list of pairs -/
structure Rows (K : PySem.W.Frag) (H : Hp) (a : Addr) (qs : List (Int × Int)) (ts : List Addr) : Prop where
  l : SqL K H a (ts.map V.ref)
  n : ts.length = qs.length
  t : ∀ (i : Nat) (t : Addr) (q : Int × Int), ts[i]? = some t → qs[i]? = some q → SqT K H t [.int q.1, .int q.2]
theorem Rows.ex {K : PySem.W.Frag} {H H' : Hp} {a : Addr} {qs : List (Int × Int)} {ts : List Addr} (e : Ex H H') (r : Rows K H a qs ts) : Rows K H' a qs ts := ⟨ex_l e r.l, r.n, fun i t q h1 h2 => ex_t e (r.t i t q h1 h2)⟩
theorem Rows.at_ {K : PySem.W.Frag} {H : Hp} {a : Addr} {qs : List (Int × Int)} {ts : List Addr} (r : Rows K H a qs ts) {i : Nat} (hi : i < qs.length) : ∃ t, (ts.map V.ref)[i]? = some (.ref t) ∧ SqT K H t [.int (qs.getD i (0, 0)).1, .int (qs.getD i (0, 0)).2] := by
  have h1 : i < ts.length := by rw [r.n]; exact hi
  refine ⟨ts[i], by rw [List.getElem?_map, List.getElem?_eq_getElem h1]; rfl, ?_⟩
  have e : qs.getD i (0, 0) = qs[i] := by rw [List.getD_eq_getElem?_getD, List.getElem?_eq_getElem hi]; rfl
  rw [e]
  exact r.t i _ _ (List.getElem?_eq_getElem h1) (List.getElem?_eq_getElem hi)
theorem Rows.snoc {K : PySem.W.Frag} {H H' : Hp} {l t : Addr} {qs : List (Int × Int)} {ts : List Addr} {a b : Int} (r : Rows K H l qs ts) (hl : H l = some (.lst (ts.map V.ref))) (e : Ex H H') (ht : H' t = some (.tup [.int a, .int b])) :
    Rows K (upd H' l (.lst (ts.map V.ref ++ [.ref t]))) l (qs ++ [(a, b)]) (ts ++ [t]) := by
  have hl' := e _ _ hl
  refine ⟨?_, ?_, fun i t' q h1 h2 => ?_⟩
  · rw [List.map_append]
    exact sq_of upd_same
  · rw [List.length_append, List.length_append, r.n]
    rfl
  · by_cases hi : i < qs.length
    · rw [List.getElem?_append_left (by rw [r.n]; exact hi)] at h1
      rw [List.getElem?_append_left hi] at h2
      exact sqT_upd (ex_t e (r.t i t' q h1 h2)) hl'
    · rw [List.getElem?_append_right (by rw [r.n]; omega)] at h1
      rw [List.getElem?_append_right (by omega)] at h2
      rw [r.n] at h1
      have ei : i - qs.length = 0 := by
        have := (List.getElem?_eq_some_iff.mp h2).1
        simp at this
        omega
      rw [ei] at h1 h2
      cases h1
      cases h2
      exact sqT_upd (st_of ht) hl'
theorem depth2 (qs : List (Int × Int)) : (PyData.canLayAll0 (qs.map fun q => PyData.tuple [.int q.1, .int q.2]) = true) ∧ PyData.depthAll (qs.map fun q => PyData.tuple [.int q.1, .int q.2]) ≤ 1 := by
  induction qs with
  | nil => exact ⟨rfl, by decide⟩
  | cons q qs ih =>
    refine ⟨?_, ?_⟩
    · simp only [List.map_cons, PyData.canLayAll0, PyData.canLay0, ih.1, Bool.and_self]
    · have := ih.2
      simp only [List.map_cons, PyData.depthAll, PyData.depth]
      omega
theorem Rows.dp {K : PySem.W.Frag} {H : Hp} {a : Addr} {qs : List (Int × Int)} {ts : List Addr} (r : Rows K H a qs ts) : Dp K H (.ref a) (.list (qs.map fun q => PyData.tuple [.int q.1, .int q.2])) := by
  refine .lst r.l ?_
  have n := r.n
  have t := r.t
  clear r
  induction qs generalizing ts with
  | nil =>
    have e : ts = [] := List.length_eq_zero_iff.mp n
    rw [e]
    exact .nil
  | cons q qs ih =>
    cases ts with
    | nil => cases n
    | cons t0 ts =>
      refine .cons (.tup (t 0 t0 q rfl rfl) (.cons (.int _) (.cons (.int _) .nil))) (ih (by simpa using n) fun i t' q' h1 h2 => t (i + 1) t' q' (by simpa using h1) (by simpa using h2))
theorem rv_neRows {K : PySem.W.Frag} {H : Hp} {a b : Addr} {qs : List (Int × Int)} {ts ts' : List Addr} (r : Rows K H a qs ts) (r' : Rows K H b qs ts') : RV (rNeD K) (.ref a) (.ref b) H (.bl false) := fun H1 e Q q => by
  have hs : SeqAt.shaped (.list (qs.map fun q => PyData.tuple [.int q.1, .int q.2])) = true := by
    unfold SeqAt.shaped
    have := depth2 qs
    refine Bool.and_eq_true_iff.mpr ⟨this.1, decide_eq_true ?_⟩
    simp only [PyData.depth]
    omega
  refine ⟨_, _, (r.ex e).dp, (r'.ex e).dp, hs, hs, ?_⟩
  rw [SeqAt.eqv_refl _ (Bool.and_eq_true_iff.mp hs).1]
  exact q H1 (Ex.refl H1)
abbrev figsS : Str := "0123456789"
abbrev signsS : Str := "abcdefghijklmnopqrstuvwxyz0123456789"
def isSign (c : Nat) : Bool := decide (c ∈ signsS.cps.toList)
def isName (s : Str) : Bool := decide (1 ≤ s.length) && decide (s.length ≤ 12) && s.cps.toList.all isSign
theorem len_app (a b : Str) : (a ++ b).length = a.length + b.length := by rw [TL.len_tl, TL.tl_append, List.length_append, ← TL.len_tl, ← TL.len_tl]
theorem joinL_nil : ∀ ps : List (List Nat), TL.joinL [] ps = ps.flatten
  | [] => rfl
  | [p] => by simp [TL.joinL]
  | p :: q :: r => by
    show p ++ ([] ++ TL.joinL [] (q :: r)) = _
    rw [joinL_nil (q :: r)]
    rfl
theorem isName_len {s : Str} (h : isName s = true) : 1 ≤ s.length ∧ s.length ≤ 12 := by
  unfold isName at h
  rw [Bool.and_eq_true, Bool.and_eq_true] at h
  exact ⟨of_decide_eq_true h.1.1, of_decide_eq_true h.1.2⟩
/-- a loop over a text's signs -/
theorem q_forS {K : PySem.W.Frag} {σ : L2.St} {H : Hp} {te : TE} {tu tz : TS} {D : Ends} {j : Nat} {x : Str} (h : Ev te σ H (.str x)) (Pv : Nat → L2.St → Hp → Prop) (h0 : ∀ H1, Ex H H1 → Pv 0 σ H1)
    (hs : ∀ i c σ' H', x.cps.toList[i]? = some c → Pv i σ' H' → tu { D with nx := Pv (i + 1), ct := Pv (i + 1), bk := tz D } (σ'.set j (some (.str ⟨#[c]⟩))) H') (hd : ∀ σ' H', Pv x.length σ' H' → tz D σ' H') : tSeq (tFor (iStr te) (gName j) tu) tz D σ H :=
  h H (Ex.refl H) _ fun H1 e => ⟨x, rfl, fun i m σ' H' => m = x.length - i ∧ i ≤ x.length ∧ Pv i σ' H', ⟨_, rfl, Nat.zero_le _, h0 H1 e⟩, by
    rintro i m σ' H' ⟨rfl, hi, p⟩
    by_cases hlt : i < x.length
    · refine .inr ⟨hlt, Pv (i + 1), fun σ2 H2 p2 => ⟨_, by omega, rfl, hlt, p2⟩, fun v H2 y => ?_⟩
      obtain ⟨e2, c, hc, ev⟩ := y
      subst e2 ev
      exact hs i c σ' _ (by rw [Array.getElem?_toList]; exact hc) p
    · have e2 : i = x.length := by omega
      subst e2
      exact .inl ⟨Nat.le_refl _, hd _ _ p⟩⟩
theorem rv_notInS {c : Nat} {z : Str} {H : Hp} : RV (fun x y H Q => ∃ (c : Nat) (z : Str), x = .str ⟨#[c]⟩ ∧ y = .str z ∧ Q (.bl (!decide (c ∈ z.cps.toList))) H) (.str ⟨#[c]⟩) (.str z) H (.bl (!decide (c ∈ z.cps.toList))) := fun H1 _ Q q => ⟨c, z, rfl, rfl, q H1 (Ex.refl H1)⟩
/-! ### the desk: plain data, and how the heap bears it -/
inductive Md where
  | rdy (s : Int) | slp (t : Int) | wtg (b : Str)
  deriving DecidableEq
structure Cl where
  nm : Str
  rk : Int
  md : Md
  deriving DecidableEq
structure Dk where
  pace : Int
  room : Int
  now : Int
  line : List Cl
def Md.st : Md → Str
  | .rdy _ => "ready"
  | .slp _ => "asleep"
  | .wtg _ => "waiting"
def Md.mark : Md → V
  | .rdy s => .int s
  | .slp t => .int t
  | .wtg b => .str b
def Md.isR : Md → Bool
  | .rdy _ => true
  | _ => false
def Md.isS : Md → Bool
  | .slp _ => true
  | _ => false
def Md.isW : Md → Bool
  | .wtg _ => true
  | _ => false
theorem st_ready : ∀ m : Md, decide (m.st = "ready") = m.isR
  | .rdy _ => (by decide +kernel : decide (("ready" : Str) = "ready") = true)
  | .slp _ => (by decide +kernel : decide (("asleep" : Str) = "ready") = false)
  | .wtg _ => (by decide +kernel : decide (("waiting" : Str) = "ready") = false)
theorem st_asleep : ∀ m : Md, decide (m.st = "asleep") = m.isS
  | .rdy _ => (by decide +kernel : decide (("ready" : Str) = "asleep") = false)
  | .slp _ => (by decide +kernel : decide (("asleep" : Str) = "asleep") = true)
  | .wtg _ => (by decide +kernel : decide (("waiting" : Str) = "asleep") = false)
theorem st_waiting : ∀ m : Md, decide (m.st = "waiting") = m.isW
  | .rdy _ => (by decide +kernel : decide (("ready" : Str) = "waiting") = false)
  | .slp _ => (by decide +kernel : decide (("asleep" : Str) = "waiting") = false)
  | .wtg _ => (by decide +kernel : decide (("waiting" : Str) = "waiting") = true)
def rfs (l g s m : V) : List (Str × V) := [("label", l), ("grade", g), ("stand", s), ("mark", m)]
def cfs (c : Cl) : List (Str × V) := rfs (.str c.nm) (.int c.rk) (.str c.md.st) c.md.mark
def dfs (d : Dk) (l : Addr) : List (Str × V) := [("pace", .int d.pace), ("room", .int d.room), ("now", .int d.now), ("line", .ref l)]
abbrev aC (K : PySem.W.Frag) : Addr := He.ga K "Caller"
abbrev aD (K : PySem.W.Frag) : Addr := He.ga K "Desk"
theorem ins_ne {C C' dx dx' l : Addr} {d : Dk} {a g s m : V} : HO.ins C dx (dfs d l) ≠ HO.ins C' dx' (rfs a g s m) := by
  intro q
  have h : dfs d l = rfs a g s m := by injection q
  have h2 : (("pace" : Str), V.int d.pace) = (("label" : Str), a) := (List.cons.inj h).1
  have h3 : ("pace" : Str) = "label" := congrArg (·.1) h2
  exact absurd h3 (by decide +kernel)
def CAt (K : PySem.W.Frag) (H : Hp) (a : Addr) (c : Cl) : Prop := ∃ dx, H a = some (.ins (aC K) dx (cfs c))
abbrev Pr : Type := Addr × Cl
/-- a desk at p, its line at l, its callers with their addresses -/
structure DkAt (K : PySem.W.Frag) (H : Hp) (p : Addr) (d : Dk) (l : Addr) (ps : List Pr) : Prop where
  ob : ∃ dx, H p = some (.ins (aD K) dx (dfs d l))
  ln : H l = some (.lst (ps.map fun q => V.ref q.1))
  eq : d.line = ps.map (·.2)
  at_ : ∀ q ∈ ps, CAt K H q.1 q.2
/-- what stands beside the desk, all kept -/
structure Fr (F H : Hp) (p l : Addr) (ps : List Pr) : Prop where
  ex : Ex F H
  p0 : F p = none
  l0 : F l = none
  c0 : ∀ q ∈ ps, F q.1 = none
def DeskAt (K : PySem.W.Frag) (F H : Hp) (p : Addr) (d : Dk) : Prop := ∃ l ps, DkAt K H p d l ps ∧ Fr F H p l ps
def MdOk (now : Int) : Md → Prop
  | .rdy s => 0 ≤ s ∧ s ≤ now
  | .slp t => now < t ∧ t ≤ now + 1000
  | .wtg b => isName b = true
def ClOk (now : Int) (c : Cl) : Prop := isName c.nm = true ∧ 0 ≤ c.rk ∧ c.rk ≤ 99 ∧ MdOk now c.md
structure Dk.Ok (d : Dk) : Prop where
  p1 : 1 ≤ d.pace
  p2 : d.pace ≤ 1000
  r1 : 1 ≤ d.room
  r2 : d.room ≤ 60
  n0 : 0 ≤ d.now
  len : (d.line.length : Int) ≤ d.room
  nd : (d.line.map (·.nm)).Nodup
  cl : ∀ c ∈ d.line, ClOk d.now c
theorem Dk.Ok.len60 {d : Dk} (h : d.Ok) : d.line.length ≤ 60 := by have := h.len; have := h.r2; omega
section
variable {K : PySem.W.Frag} {F H H' H1 : Hp} {p l a q : Addr} {d : Dk} {ps : List Pr} {c : Cl}
theorem CAt.ex (h : CAt K H a c) (e : Ex H H') : CAt K H' a c := let ⟨dx, h⟩ := h; ⟨dx, e _ _ h⟩
theorem DkAt.ex (h : DkAt K H p d l ps) (e : Ex H H') : DkAt K H' p d l ps := ⟨let ⟨dx, h⟩ := h.ob; ⟨dx, e _ _ h⟩, e _ _ h.ln, h.eq, fun q hq => (h.at_ q hq).ex e⟩
theorem Fr.mono (h : Fr F H p l ps) (e : Ex H H') : Fr F H' p l ps := ⟨h.ex.trans e, h.p0, h.l0, h.c0⟩
theorem DeskAt.ex (h : DeskAt K F H p d) (e : Ex H H') : DeskAt K F H' p d := let ⟨l, ps, a, b⟩ := h; ⟨l, ps, a.ex e, b.mono e⟩
theorem DeskAt.fr (h : DeskAt K F H p d) : Ex F H := let ⟨_, _, _, b⟩ := h; b.ex
theorem DkAt.len (h : DkAt K H p d l ps) : ps.length = d.line.length := by rw [h.eq, List.length_map]
/-- a new object joins what stands beside -/
theorem Fr.new {o : HO} (f : Fr F H p l ps) (h : DkAt K H p d l ps) (hq : H q = none) (e : Ex H H1) (h1 : H1 q = some o) : Fr (upd F q o) H1 p l ps := by
  have ne : ∀ b u, H b = some u → b ≠ q := fun b u hb => ne_of_none hb hq
  obtain ⟨dx, hp⟩ := h.ob
  refine ⟨fun b u hb => ?_, by rw [upd_ne (ne _ _ hp)]; exact f.p0, by rw [upd_ne (ne _ _ h.ln)]; exact f.l0, fun r hr => ?_⟩
  · by_cases hbq : b = q
    · rw [hbq, upd_same] at hb
      rw [hbq, h1, hb]
    · rw [upd_ne hbq] at hb
      exact e _ _ (f.ex _ _ hb)
  · obtain ⟨dc, hc⟩ := h.at_ r hr
    rw [upd_ne (ne _ _ hc)]
    exact f.c0 r hr
theorem DeskAt.new {o : HO} (h : DeskAt K F H p d) (hq : H q = none) (e : Ex H H1) (h1 : H1 q = some o) : DeskAt K (upd F q o) H1 p d := let ⟨l, ps, a, b⟩ := h; ⟨l, ps, a.ex e, b.new a hq e h1⟩
/-- an object beside the desk is written -/
theorem Fr.set {o u : HO} (f : Fr F H p l ps) (h : DkAt K H p d l ps) (hq : F q = some o) : Fr (upd F q u) (upd H q u) p l ps ∧ DkAt K (upd H q u) p d l ps := by
  have np : p ≠ q := fun e => by have := f.p0; rw [e, hq] at this; cases this
  have nl : l ≠ q := fun e => by have := f.l0; rw [e, hq] at this; cases this
  have nc : ∀ r ∈ ps, r.1 ≠ q := fun r hr e => by have := f.c0 r hr; rw [e, hq] at this; cases this
  refine ⟨⟨fun b v hb => ?_, by rw [upd_ne np]; exact f.p0, by rw [upd_ne nl]; exact f.l0, fun r hr => by rw [upd_ne (nc r hr)]; exact f.c0 r hr⟩, ⟨?_, by rw [upd_ne nl]; exact h.ln, h.eq, fun r hr => ?_⟩⟩
  · by_cases hbq : b = q
    · rw [hbq, upd_same] at hb ⊢
      exact hb
    · rw [upd_ne hbq] at hb ⊢
      exact f.ex _ _ hb
  · obtain ⟨dx, hp⟩ := h.ob
    exact ⟨dx, by rw [upd_ne np]; exact hp⟩
  · obtain ⟨dc, hc⟩ := h.at_ r hr
    exact ⟨dc, by rw [upd_ne (nc r hr)]; exact hc⟩
theorem DeskAt.set {o u : HO} (h : DeskAt K F H p d) (hq : F q = some o) : DeskAt K (upd F q u) (upd H q u) p d := let ⟨l, ps, a, b⟩ := h; ⟨l, ps, (b.set a hq).2, (b.set a hq).1⟩
theorem DkAt.mem_nm (h : DkAt K H p d l ps) {r r' : Pr} (h1 : r ∈ ps) (h2 : r' ∈ ps) (e : r.1 = r'.1) : r.2.nm = r'.2.nm := by
  obtain ⟨d1, e1⟩ := h.at_ r h1
  obtain ⟨d2, e2⟩ := h.at_ r' h2
  rw [e, e2] at e1
  have q := Option.some.inj e1
  have h : cfs r'.2 = cfs r.2 := by injection q
  have h2 : (("label" : Str), V.str r'.2.nm) = (("label" : Str), V.str r.2.nm) := (List.cons.inj h).1
  exact (V.str.inj (congrArg (·.2) h2)).symm
theorem nodup_pr {ps : List Pr} (h : (ps.map fun q => q.2.nm).Nodup) {r r' : Pr} (h1 : r ∈ ps) (h2 : r' ∈ ps) (e : r.2.nm = r'.2.nm) : r = r' := by
  induction ps with
  | nil => cases h1
  | cons q ps ih =>
    rw [List.map_cons, List.nodup_cons] at h
    rcases List.mem_cons.mp h1 with rfl | h1'
    · rcases List.mem_cons.mp h2 with rfl | h2'
      · rfl
      · exact absurd (e ▸ List.mem_map.mpr ⟨r', h2', rfl⟩) h.1
    · rcases List.mem_cons.mp h2 with rfl | h2'
      · exact absurd (e ▸ List.mem_map.mpr ⟨r, h1', rfl⟩) h.1
      · exact ih h.2 h1' h2'
theorem DkAt.nd (h : DkAt K H p d l ps) (o : (d.line.map (·.nm)).Nodup) : (ps.map fun q => q.2.nm).Nodup := by
  rw [h.eq, List.map_map] at o
  exact o
end
def putC (L : List Cl) (c : Cl) : List Cl := L.filter (fun o => !decide (o.nm = c.nm)) ++ [c]
def putP (ps : List Pr) (q : Pr) : List Pr := ps.filter (fun o => !decide (o.2.nm = q.2.nm)) ++ [q]
theorem putP_mem {ps : List Pr} {q r : Pr} (h : r ∈ ps) (n : r.2.nm ≠ q.2.nm) : r ∈ putP ps q := List.mem_append_left _ (List.mem_filter.mpr ⟨h, by simp [n]⟩)
theorem putP_self {ps : List Pr} {q : Pr} : q ∈ putP ps q := List.mem_append_right _ (List.mem_singleton.mpr rfl)
theorem putP_line (ps : List Pr) (q : Pr) : (putP ps q).map (·.2) = putC (ps.map (·.2)) q.2 := by
  unfold putP putC
  rw [List.map_append, List.filter_map]
  rfl
def Dk.put (d : Dk) (c : Cl) : Dk := { d with line := putC d.line c }
structure Dk.Wf (d : Dk) : Prop where
  p1 : 1 ≤ d.pace
  p2 : d.pace ≤ 1000
  len : d.line.length ≤ 60
  nd : (d.line.map (·.nm)).Nodup
theorem Dk.Ok.wf {d : Dk} (h : d.Ok) : d.Wf := ⟨h.p1, h.p2, h.len60, h.nd⟩
theorem putC_mem {L : List Cl} {c x : Cl} : x ∈ putC L c ↔ (x ∈ L ∧ x.nm ≠ c.nm) ∨ x = c := by
  unfold putC
  rw [List.mem_append, List.mem_filter, List.mem_singleton]
  simp
theorem putC_len {L : List Cl} {c c0 : Cl} (nd : (L.map (·.nm)).Nodup) (h0 : c0 ∈ L) (e : c0.nm = c.nm) : (putC L c).length = L.length := by
  unfold putC
  rw [List.length_append, List.length_singleton]
  induction L with
  | nil => cases h0
  | cons x L ih =>
    rw [List.map_cons, List.nodup_cons] at nd
    by_cases hx : x.nm = c.nm
    · rw [List.filter_cons, if_neg (by simp [hx])]
      have : L.filter (fun o => !decide (o.nm = c.nm)) = L := List.filter_eq_self.mpr fun o ho => by
        have : o.nm ≠ c.nm := fun q => nd.1 (by rw [hx, ← q]; exact List.mem_map.mpr ⟨o, ho, rfl⟩)
        simp [this]
      rw [this, List.length_cons]
    · rw [List.filter_cons, if_pos (by simp [hx]), List.length_cons, List.length_cons]
      rcases List.mem_cons.mp h0 with rfl | h0
      · exact absurd e hx
      · have := ih nd.2 h0
        omega
theorem filter_nodup {L : List Cl} {g : Cl → Bool} (nd : (L.map (·.nm)).Nodup) : ((L.filter g).map (·.nm)).Nodup := (List.filter_sublist.map _).nodup nd
theorem putC_nd {L : List Cl} {c : Cl} (nd : (L.map (·.nm)).Nodup) : ((putC L c).map (·.nm)).Nodup := by
  unfold putC
  rw [List.map_append, List.nodup_append]
  refine ⟨filter_nodup nd, by simp, fun a ha b hb => ?_⟩
  obtain ⟨x, hx, rfl⟩ := List.mem_map.mp ha
  have hx := (List.mem_filter.mp hx).2
  simp at hb hx
  rw [hb]
  exact hx
theorem Dk.Wf.put {d : Dk} (h : d.Wf) {c c0 : Cl} (h0 : c0 ∈ d.line) (e : c0.nm = c.nm) : (d.put c).Wf := ⟨h.p1, h.p2, by show (putC d.line c).length ≤ 60; rw [putC_len h.nd h0 e]; exact h.len, putC_nd h.nd⟩
theorem Dk.Ok.put {d : Dk} (ok : d.Ok) {c : Cl} {md : Md} (hc : c ∈ d.line) (hm : MdOk d.now md) : (d.put ⟨c.nm, c.rk, md⟩).Ok := by
  have hl : (putC d.line ⟨c.nm, c.rk, md⟩).length = d.line.length := putC_len ok.nd hc rfl
  refine ⟨ok.p1, ok.p2, ok.r1, ok.r2, ok.n0, by show ((putC d.line _).length : Int) ≤ d.room; rw [hl]; exact ok.len, putC_nd ok.nd, fun x hx => ?_⟩
  rcases putC_mem.mp hx with ⟨h, _⟩ | rfl
  · exact ok.cl x h
  · have := ok.cl c hc
    exact ⟨this.1, this.2.1, this.2.2.1, hm⟩
theorem nm_inj {L : List Cl} (nd : (L.map (·.nm)).Nodup) {a b : Cl} (ha : a ∈ L) (hb : b ∈ L) (e : a.nm = b.nm) : a = b := by
  induction L with
  | nil => cases ha
  | cons x L ih =>
    rw [List.map_cons, List.nodup_cons] at nd
    rcases List.mem_cons.mp ha with rfl | ha'
    · rcases List.mem_cons.mp hb with rfl | hb'
      · rfl
      · exact absurd (e ▸ List.mem_map.mpr ⟨b, hb', rfl⟩) nd.1
    · rcases List.mem_cons.mp hb with rfl | hb'
      · exact absurd (e ▸ List.mem_map.mpr ⟨a, ha', rfl⟩) nd.1
      · exact ih nd.2 ha' hb'
/-- the caller of a name -/
def Dk.get (d : Dk) (nm : Str) : Option Cl := d.line.find? fun c => decide (c.nm = nm)
def enterErr (d : Dk) (nm : Str) (rk : Int) : Option Str :=
  if isName nm = false then some "NoName" else if rk < 0 ∨ 99 < rk then some "NoRank" else if nm ∈ d.line.map (·.nm) then some "Known" else if d.room ≤ (d.line.length : Int) then some "Full" else none
def Dk.enter (d : Dk) (nm : Str) (rk : Int) : Dk := { d with line := d.line ++ [⟨nm, rk, .rdy d.now⟩] }
def Dk.leave (d : Dk) (nm : Str) : Dk := { d with line := d.line.filter fun o => !decide (o.nm = nm) }
def sleepErr (d : Dk) (nm : Str) (m : Int) : Option Str := match d.get nm with
  | none => some "Unknown"
  | some c => if m < 1 ∨ 1000 < m then some "NoSpan" else if c.md.isR = true then none else some "NotReady"
def waitErr (d : Dk) (nm b : Str) : Option Str := match d.get nm with
  | none => some "Unknown"
  | some c => if isName b = false then some "NoName" else if c.md.isR = true then none else some "NotReady"
def wakeErr (d : Dk) (nm : Str) : Option Str := match d.get nm with
  | none => some "Unknown"
  | some c => if c.md.isR = true then some "IsReady" else none
def rerankErr (d : Dk) (nm : Str) (rk : Int) : Option Str := match d.get nm with
  | none => some "Unknown"
  | some c => if rk < 0 ∨ 99 < rk then some "NoRank" else if c.md.isR = true then some "IsReady" else none
def Dk.setRk (d : Dk) (nm : Str) (rk : Int) : Dk := { d with line := d.line.map fun c => if c.nm = nm then ⟨c.nm, rk, c.md⟩ else c }
theorem Dk.get_some {d : Dk} {nm : Str} {c : Cl} (h : d.get nm = some c) : c ∈ d.line ∧ c.nm = nm := ⟨List.mem_of_find?_eq_some h, by simpa using List.find?_some h⟩
theorem Dk.get_none {d : Dk} {nm : Str} (h : d.get nm = none) : ∀ c ∈ d.line, c.nm ≠ nm := fun c hc => by
  have := List.find?_eq_none.mp h c hc
  simpa using this
theorem Dk.get_of {d : Dk} (nd : (d.line.map (·.nm)).Nodup) {c : Cl} (hc : c ∈ d.line) : d.get c.nm = some c := by
  cases h : d.get c.nm with
  | none => exact absurd rfl (Dk.get_none h c hc)
  | some c' =>
    obtain ⟨h1, h2⟩ := Dk.get_some h
    congr 1
    generalize d.line = L at *
    induction L with
    | nil => cases hc
    | cons x L ih =>
      rw [List.map_cons, List.nodup_cons] at nd
      rcases List.mem_cons.mp h1 with rfl | k1
      · rcases List.mem_cons.mp hc with rfl | k2
        · rfl
        · exact absurd (List.mem_map.mpr ⟨c, k2, h2.symm⟩) nd.1
      · rcases List.mem_cons.mp hc with rfl | k2
        · exact absurd (List.mem_map.mpr ⟨c', k1, h2⟩) nd.1
        · exact ih nd.2 k2 k1
theorem DkAt.get {K : PySem.W.Frag} {H : Hp} {p l : Addr} {d : Dk} {ps : List Pr} (D : DkAt K H p d l ps) {nm : Str} {c : Cl} (h : d.get nm = some c) : ∃ q ∈ ps, q.2 = c ∧ c.nm = nm := by
  obtain ⟨h1, h2⟩ := Dk.get_some h
  rw [D.eq] at h1
  obtain ⟨q, hq, e⟩ := List.mem_map.mp h1
  exact ⟨q, hq, e, h2⟩
theorem DkAt.get_of {K : PySem.W.Frag} {H : Hp} {p l : Addr} {d : Dk} {ps : List Pr} (D : DkAt K H p d l ps) (W : d.Wf) {q : Pr} (hq : q ∈ ps) : d.get q.2.nm = some q.2 := Dk.get_of W.nd (by rw [D.eq]; exact List.mem_map.mpr ⟨q, hq, rfl⟩)
theorem DkAt.get_none {K : PySem.W.Frag} {H : Hp} {p l : Addr} {d : Dk} {ps : List Pr} (D : DkAt K H p d l ps) {nm : Str} (h : ∀ q ∈ ps, q.2.nm ≠ nm) : d.get nm = none := by
  cases e : d.get nm with
  | none => rfl
  | some c =>
    obtain ⟨q, hq, h1, h2⟩ := D.get e
    exact absurd (by rw [h1, h2]) (h q hq)
theorem Fr.sub {F G H : Hp} {p l : Addr} {ps : List Pr} (f : Fr F H p l ps) (h : ∀ a o, G a = some o → F a = some o) : Fr G H p l ps := by
  have no : ∀ a, F a = none → G a = none := fun a ha => by
    cases e : G a with
    | none => rfl
    | some o => rw [h a o e] at ha; cases ha
  exact ⟨fun a o e => f.ex a o (h a o e), no _ f.p0, no _ f.l0, fun q hq => no _ (f.c0 q hq)⟩
theorem DeskAt.sub {K : PySem.W.Frag} {F G H : Hp} {p : Addr} {d : Dk} (D : DeskAt K F H p d) (h : ∀ a o, G a = some o → F a = some o) : DeskAt K G H p d := let ⟨l, ps, a, b⟩ := D; ⟨l, ps, a, b.sub h⟩
theorem upd_sub {F : Hp} {a : Addr} {x : HO} (h : F a = none) : ∀ b o, F b = some o → upd F a x b = some o := fun b o e => by rw [upd_ne (ne_of_none e h)]; exact e
theorem upd_mono {F G : Hp} {a : Addr} {x : HO} (h : ∀ b o, F b = some o → G b = some o) : ∀ b o, upd F a x b = some o → upd G a x b = some o := fun b o e => by
  by_cases c : b = a
  · rw [c, upd_same] at e ⊢
    exact e
  · rw [upd_ne c] at e ⊢
    exact h b o e
theorem ex_none {F H : Hp} {a : Addr} (e : Ex F H) (h : H a = none) : F a = none := by
  cases q : F a with
  | none => rfl
  | some o => rw [e _ _ q] at h; cases h
theorem decV (a b : Str) : decide (V.str a = V.str b) = decide (a = b) := decide_eq_decide.mpr ⟨V.str.inj, congrArg _⟩
section
variable {K : PySem.W.Frag} {mg : Str → Option Value} {σ : L2.St} {F H H' H1 : Hp} {p l a q : Addr} {d : Dk} {ps : List Pr} {c : Cl} {ta : TE}
theorem ev_pace (T : Txt K mg) (h : Ev ta σ H (.ref p)) (D : DkAt K H p d l ps) : Ev (tFld K ta "pace") σ H (.int d.pace) := ev_fldx h D.ob (c_Desk T) (n_Desk_pace T) rfl
theorem ev_room (T : Txt K mg) (h : Ev ta σ H (.ref p)) (D : DkAt K H p d l ps) : Ev (tFld K ta "room") σ H (.int d.room) := ev_fldx h D.ob (c_Desk T) (n_Desk_room T) rfl
theorem ev_now (T : Txt K mg) (h : Ev ta σ H (.ref p)) (D : DkAt K H p d l ps) : Ev (tFld K ta "now") σ H (.int d.now) := ev_fldx h D.ob (c_Desk T) (n_Desk_now T) rfl
theorem ev_line (T : Txt K mg) (h : Ev ta σ H (.ref p)) (D : DkAt K H p d l ps) : Ev (tFld K ta "line") σ H (.ref l) := ev_fldx h D.ob (c_Desk T) (n_Desk_line T) rfl
theorem ev_label (T : Txt K mg) (h : Ev ta σ H (.ref a)) (C : CAt K H a c) : Ev (tFld K ta "label") σ H (.str c.nm) := ev_fldx h C (c_Caller T) (n_Caller_label T) rfl
theorem ev_grade (T : Txt K mg) (h : Ev ta σ H (.ref a)) (C : CAt K H a c) : Ev (tFld K ta "grade") σ H (.int c.rk) := ev_fldx h C (c_Caller T) (n_Caller_grade T) rfl
theorem ev_stand (T : Txt K mg) (h : Ev ta σ H (.ref a)) (C : CAt K H a c) : Ev (tFld K ta "stand") σ H (.str c.md.st) := ev_fldx h C (c_Caller T) (n_Caller_stand T) rfl
theorem ev_mark (T : Txt K mg) (h : Ev ta σ H (.ref a)) (C : CAt K H a c) : Ev (tFld K ta "mark") σ H c.md.mark := ev_fldx h C (c_Caller T) (n_Caller_mark T) rfl
end
theorem q_makeA {σ : L2.St} {H : Hp} {tz : TS} {D : Ends} {i : Nat} {C : Addr} {sp : Sp} {E : XK} {tr : TA} (h : tr σ H fun vs H1 => ∀ x dx, H1 x = none → H1 dx = none → dx ≠ x → sp (.ref x :: (vs ++ [])) (upd (upd H1 dx (.own x)) x (.ins C dx [])) (fun v H2 => v = .non ∧ tz D (σ.set i (some (.ref x))) H2) E) :
    tSeq (tAsg (tMake C sp [] E tr) (gName i)) tz D σ H := h
theorem DeskAt.made {K : PySem.W.Frag} {H10 H11 : Hp} {x dx l : Addr} {d : Dk} {o1 o2 : HO} (nx : H10 x = none) (ndx : H10 dx = none) (D : DkAt K H11 x d l []) (nl : upd (upd H10 dx o1) x o2 l = none) (k11 : ∀ b o, upd (upd H10 dx o1) x o2 b = some o → b ≠ x → H11 b = some o) : DeskAt K H10 H11 x d := by
  have u10 : ∀ b o, H10 b = some o → upd (upd H10 dx o1) x o2 b = some o := fun b o hb => by rw [upd_ne (ne_of_none hb nx), upd_ne (ne_of_none hb ndx)]; exact hb
  exact ⟨l, [], D, ⟨fun b o hb => k11 b o (u10 b o hb) (ne_of_none hb nx), nx, ex_none (fun b o hb => u10 b o hb) nl, fun q hq => by cases hq⟩⟩
/-! ### desk_init -/
theorem sc_desk_init : FnScope ["self", "pace", "room"] ["self", "pace", "room"] (defScope s_desk_init) := ⟨rfl, rfl, rfl, by decide +kernel, rfl, by decide +kernel, by decide +kernel⟩
def sp_desk_init (K : PySem.W.Frag) : Sp := fun vs H Q E => ∃ (x dx : Addr) (pa ro : Int), vs = [.ref x, .int pa, .int ro] ∧ H x = some (.ins (aD K) dx []) ∧
  ((1 ≤ pa ∧ pa ≤ 1000 ∧ 1 ≤ ro ∧ ro ≤ 60) → ∀ (H' : Hp) (l : Addr), DkAt K H' x ⟨pa, ro, 0, []⟩ l [] → H l = none → (∀ b o, H b = some o → b ≠ x → H' b = some o) → Q .non H') ∧
  (¬ (1 ≤ pa ∧ pa ≤ 1000 ∧ 1 ≤ ro ∧ ro ≤ 60) → ∀ H', Ex H H' → E (.ref (He.ga K "NoDesk")) none H')
theorem ok_desk_init {P : Program} {w : World} {K : PySem.W.Frag} {mg : Str → Option Value} {base : Heap} (T : Txt K mg) : ∃ fd, FnOk P w K mg base (L2N.CX P w) 1 (He.ma K (He.ga K "Desk") "__init__") fd ["self", "pace", "room"] (sp_desk_init K) ∧ Binds K fd ["self", "pace", "room"] [] ∧ FunD K "__init__" "Desk.__init__" (defArgs s_desk_init) (defBody s_desk_init) (defScope s_desk_init) [] [] (He.ma K (He.ga K "Desk") "__init__") fd := by
  obtain ⟨fd, F⟩ := f_desk_init T
  obtain ⟨t_MOST_PACE, hk_MOST_PACE⟩ := k_MOST_PACE T
  obtain ⟨t_MOST_ROOM, hk_MOST_ROOM⟩ := k_MOST_ROOM T
  refine ⟨fd, okXN F sc_desk_init (fun vs H Q E h => ?_) (fun cdv A outer s H vs Q E hr h => ?_), FunD.bindsN F fun _ _ _ _ _ _ us hl => match us, hl with | [_, _, _], _ => rfl, F⟩
  · (repeat (obtain ⟨_, h⟩ := h)); subst_vars; rfl
  · obtain ⟨x, dx, pa, ro, rfl, hx, k, kE⟩ := h
    refine ⟨_, (pss_cons (ps_if (PW.pt (pw_or (pt_cmpR op_lt (pv 1) pe_int (nomark _)) (pw_or (pt_cmpR op_gt (pv 1) (pe_glob (v := .int 1000) rfl hk_MOST_PACE ⟨_, rfl⟩) (nomark _)) (pw_or (pt_cmpR op_lt (pv 2) pe_int (nomark _)) (pw_or1 (pt_cmpR op_gt (pv 2) (pe_glob (v := .int 60) rfl hk_MOST_ROOM ⟨_, rfl⟩) (nomark _))))))) (pss_one (L2N.ps_raise rfl (L2N.takes_of rfl rfl rfl rfl) (L2N.pmk_own PySem.F.excBase_ValueError (x_NoDesk T).1 (g_NoDesk T) (x_NoDesk T).2.1 (raises_own (x_NoDesk T).2.2.1 (x_NoDesk T).2.2.2) rfl)))
        pss_nil)
        (pss_cons (ps_fld (pv 0) (pv 1) rfl)
        (pss_cons (ps_fld (pv 0) (pv 2) rfl)
        (pss_cons (ps_fld (pv 0) pe_int rfl)
        (pss_one (ps_fld (pv 0) (pe_lst pa_nil) rfl)))))), ?_⟩
    refine' q_when ?h (fun hb H1 e1 => ?_) (fun hb H1 e1 => ?_)
    case h => tm_at "rr.ev"
    · refine kE (fun ⟨h1, h2, h3, h4⟩ => ?_) H1 e1
      rw [decide_eq_false (by omega), decide_eq_false (by omega), decide_eq_false (by omega), decide_eq_false (by omega)] at hb
      exact absurd hb (by decide)
    · rw [Bool.or_eq_false_iff, Bool.or_eq_false_iff, Bool.or_eq_false_iff] at hb
      obtain ⟨h1, h2, h3, h4⟩ := hb
      have h1 := of_decide_eq_false h1
      have h2 := of_decide_eq_false h2
      have h3 := of_decide_eq_false h3
      have h4 := of_decide_eq_false h4
      have hx1 := e1 _ _ hx
      refine ⟨_, rfl, _, rfl, x, aD K, dx, _, rfl, hx1, c_Desk T, n_Desk_pace T, (by show 0 < 1000; decide), ?_⟩
      refine ⟨_, rfl, _, rfl, x, aD K, dx, _, rfl, upd_same, c_Desk T, n_Desk_room T, (by show 1 < 1000; decide), ?_⟩
      refine ⟨_, rfl, x, aD K, dx, _, rfl, upd_same, c_Desk T, n_Desk_now T, (by show 2 < 1000; decide), ?_⟩
      refine ⟨(by decide), fun l hl => ?_⟩
      rw [upd_upd, upd_upd] at hl ⊢
      have nlx : l ≠ x := fun e => by rw [e, upd_same] at hl; cases hl
      rw [upd_ne nlx] at hl
      refine ⟨_, rfl, x, aD K, dx, _, rfl, (by rw [upd_ne nlx.symm]; exact upd_same), c_Desk T, n_Desk_line T, (by show 3 < 1000; decide), ?_⟩
      refine k (by omega) _ l ⟨⟨dx, upd_same⟩, by rw [upd_ne nlx]; exact upd_same, rfl, fun q hq => by cases hq⟩ ?_ fun b o e hb => ?_
      · cases q : H l with
        | none => rfl
        | some o => rw [e1 _ _ q] at hl; cases hl
      · have e2 := e1 _ _ e
        rw [upd_ne hb, upd_ne (ne_of_none e2 hl), upd_ne hb]
        exact e2
/-! ### L_mix -/
theorem sc_L_mix : FnScope ["_law_cell", "_law_prime", "_law_many"] ["_law_cell", "_law_prime", "_law_many"] (defScope s_L_mix) := ⟨rfl, rfl, rfl, by decide +kernel, rfl, by decide +kernel, by decide +kernel⟩
def sp_L_mix (_ : PySem.W.Frag) : Sp := fun vs H Q _ => ∃ (c p m : Int), vs = [.int c, .int p, .int m] ∧ 0 < p ∧ 0 < m ∧ RetV (.int (mix c p m)) H Q
theorem cv_L_mix {K : PySem.W.Frag} {H : Hp} {c p m : Int} (h1 : 0 < p) (h2 : 0 < m) : SpV (sp_L_mix K) ([.int c, .int p, .int m] ++ []) H (.int (mix c p m)) := spv_call fun _ _ _ _ k => ⟨c, p, m, rfl, h1, h2, k⟩
local macro_rules | `(tactic| tm_at "rr.cv") => `(tactic| refine' cv_L_mix ?_ ?_)
theorem ok_L_mix {P : Program} {w : World} {K : PySem.W.Frag} {mg : Str → Option Value} {base : Heap} (T : Txt K mg) : ∃ fd, FnOk P w K mg base (CX0) 1 (He.ga K "_law_mix") fd ["_law_cell", "_law_prime", "_law_many"] (sp_L_mix K) ∧ Binds K fd ["_law_cell", "_law_prime", "_law_many"] [] ∧ FunD K "_law_mix" "_law_mix" (defArgs s_L_mix) (defBody s_L_mix) (defScope s_L_mix) [] [] (He.ga K "_law_mix") fd := by
  obtain ⟨fd, F⟩ := f_L_mix T
  refine ⟨fd, ok0 F sc_L_mix (fun vs H Q E h => ?_) (fun cdv A outer s H vs Q E hr h => ?_), FunD.bindsN F fun _ _ _ _ _ _ us hl => match us, hl with | [_, _, _], _ => rfl, F⟩
  · (repeat (obtain ⟨_, h⟩ := h)); subst_vars; rfl
  · obtain ⟨c, p, m, rfl, h1, h2, k⟩ := h
    refine ⟨_, (pss_one (ps_ret (pe_op op_mod (pe_op op_mod (pe_op op_mul (pv 0) pe_int) (pv 1)) (pv 2)))), ?_⟩
    refine' s_ret ?h k
    case h => tm_at "rr.ev"
/-! ### L_pace_by -/
theorem sc_L_pace_by : FnScope ["_law_cell"] ["_law_cell"] (defScope s_L_pace_by) := ⟨rfl, rfl, rfl, by decide +kernel, rfl, by decide +kernel, by decide +kernel⟩
def paceBy (c : Int) : Int := match (mix c 10069 4).toNat with | 0 => 1 | 1 => 2 | 2 => 3 | _ => 1 + mix c 10067 1000
theorem paceBy_ok (c : Int) : 1 ≤ paceBy c ∧ paceBy c ≤ 1000 := by
  have h1 := mix_nonneg (c := c) (p := 10067) (m := 1000) (by decide)
  have h2 := mix_lt (c := c) (p := 10067) (m := 1000) (by decide)
  unfold paceBy
  split <;> omega
def sp_L_pace_by (_ : PySem.W.Frag) : Sp := fun vs H Q _ => ∃ (c : Int), vs = [.int c] ∧ RetV (.int (paceBy c)) H Q
theorem cv_L_pace_by {K : PySem.W.Frag} {H : Hp} {c : Int} : SpV (sp_L_pace_by K) ([.int c] ++ []) H (.int (paceBy c)) := spv_call fun _ _ _ _ k => ⟨c, rfl, k⟩
local macro_rules | `(tactic| tm_at "rr.cv") => `(tactic| exact cv_L_pace_by)
theorem ok_L_pace_by {P : Program} {w : World} {K : PySem.W.Frag} {mg : Str → Option Value} {base : Heap} (T : Txt K mg) : ∃ fd, FnOk P w K mg base (CX0) 2 (He.ga K "_law_pace_by") fd ["_law_cell"] (sp_L_pace_by K) ∧ Binds K fd ["_law_cell"] [] ∧ FunD K "_law_pace_by" "_law_pace_by" (defArgs s_L_pace_by) (defBody s_L_pace_by) (defScope s_L_pace_by) [] [] (He.ga K "_law_pace_by") fd := by
  obtain ⟨fd, F⟩ := f_L_pace_by T
  obtain ⟨d_L_mix, G_L_mix, b_L_mix, _⟩ := ok_L_mix (P := P) (w := w) (base := base) T
  refine ⟨fd, ok0 F sc_L_pace_by (fun vs H Q E h => ?_) (fun cdv A outer s H vs Q E hr h => ?_), FunD.bindsN F fun _ _ _ _ _ _ us hl => match us, hl with | [_], _ => rfl, F⟩
  · (repeat (obtain ⟨_, h⟩ := h)); subst_vars; rfl
  · obtain ⟨c, rfl, k⟩ := h
    refine ⟨_, (pss_one (ps_ret (pe_ix (ix_listK (K := K) rfl) (pe_lst (pa_cons pe_int (pa_cons pe_int (pa_cons pe_int (pa_cons (pe_op op_add pe_int (pe_call G_L_mix (hr.mono (by decide)) rfl (g_L_mix T) (kp_L_mix T) b_L_mix .nil pass0 (pa_cons (pv 0) (pa_cons pe_int (pa_cons pe_int pa_nil))))) pa_nil))))) (pe_call G_L_mix (hr.mono (by decide)) rfl (g_L_mix T) (kp_L_mix T) b_L_mix .nil pass0 (pa_cons (pv 0) (pa_cons pe_int (pa_cons pe_int pa_nil)))) (fun _ _ => rfl)))), ?_⟩
    have h0 := mix_nonneg (c := c) (p := 10069) (m := 4) (by decide)
    have h4 := mix_lt (c := c) (p := 10069) (m := 4) (by decide)
    refine s_ret (v := .int (paceBy c)) ?h k
    refine' ev_opL1 (el_lst ?a ?z) (fun H1 e1 => ?i) (fun p H1 h e => rv_ixL (sq_of h) ?x)
    case a => tm_at "rr.ev"
    case z => show 4 ≤ 100000; decide
    case i => tm_at "rr.ev"
    case x =>
      rw [pick4 h0 h4]
      unfold paceBy
      split <;> rfl
theorem inV_names (nm : Str) (L : List Cl) : inV (.str nm) (L.map fun c => V.str c.nm) = decide (nm ∈ L.map (·.nm)) := by
  unfold inV
  rw [List.any_map]
  induction L with
  | nil => rfl
  | cons c L ih =>
    rw [List.any_cons, ih, List.map_cons]
    by_cases h : nm = c.nm
    · subst h
      simp [Function.comp, eqV]
    · have h' : ¬ c.nm = nm := fun e => h e.symm
      simp [Function.comp, eqV, h, h']
theorem flat_names (L : List Cl) : (L.map fun c => V.str c.nm).all flatV = true := by
  rw [List.all_map]
  exact List.all_eq_true.mpr fun _ _ => rfl
/-- several become ready, one after the other -/
def Dk.rdyAll (d : Dk) (cs : List Cl) : Dk := cs.foldl (fun e c => e.put ⟨c.nm, c.rk, .rdy e.now⟩) d
theorem rdyAll_snoc (d : Dk) (cs : List Cl) (c : Cl) : d.rdyAll (cs ++ [c]) = (d.rdyAll cs).put ⟨c.nm, c.rk, .rdy (d.rdyAll cs).now⟩ := by
  unfold Dk.rdyAll
  rw [List.foldl_append]
  rfl
theorem put_now (d : Dk) (c : Cl) : (d.put c).now = d.now ∧ (d.put c).pace = d.pace ∧ (d.put c).room = d.room := ⟨rfl, rfl, rfl⟩
theorem rdyAll_now (cs : List Cl) : ∀ d : Dk, (d.rdyAll cs).now = d.now ∧ (d.rdyAll cs).pace = d.pace ∧ (d.rdyAll cs).room = d.room := by
  induction cs with
  | nil => intro d; exact ⟨rfl, rfl, rfl⟩
  | cons c cs ih => intro d; exact ih (d.put ⟨c.nm, c.rk, .rdy d.now⟩)
def isWtg (b : Str) (c : Cl) : Bool := decide (c.md = .wtg b)
def Dk.rung (d : Dk) (b : Str) : List Cl := d.line.filter (isWtg b)
def Dk.ring (d : Dk) (b : Str) : Dk := d.rdyAll (d.rung b)
def Md.since : Md → Int
  | .rdy s => s
  | _ => 0
def Dk.able (d : Dk) : List Cl := d.line.filter fun c => c.md.isR
def Dk.prs (d : Dk) : List (Int × Int) := d.able.map fun c => (c.rk, d.now - c.md.since)
def Dk.chosen (d : Dk) : Option Cl := (firstIdx d.pace d.prs).bind fun j => d.able[j]?
def Dk.tick (d : Dk) : Dk := { d with now := d.now + 1 }
def due (now : Int) (c : Cl) : Bool := match c.md with
  | .slp t => decide (t ≤ now)
  | _ => false
def Dk.waked (d : Dk) : Dk := d.tick.rdyAll (d.line.filter (due (d.now + 1)))
def Dk.turn (d : Dk) : Option Str × Dk := match d.chosen with
  | none => (none, d.waked)
  | some c => (some c.nm, d.waked.put ⟨c.nm, c.rk, .rdy (d.now + 1)⟩)
def optS : Option Str → V
  | none => .non
  | some s => .str s
/-- the desk behind some turns, and who ran -/
def Dk.runN (d : Dk) : Nat → List (Option Str) × Dk
  | 0 => ([], d)
  | n + 1 => ((d.runN n).1 ++ [(d.runN n).2.turn.1], (d.runN n).2.turn.2)
structure Wk (K : PySem.W.Frag) (F H : Hp) (p : Addr) (d : Dk) (ps0 dn : List Pr) : Prop where
  wf : (d.rdyAll (dn.map (·.2))).Wf
  at_ : ∃ l ps, DkAt K H p (d.rdyAll (dn.map (·.2))) l ps ∧ Fr F H p l ps ∧ (∀ r ∈ ps0, r ∉ dn → r ∈ ps) ∧ ∀ r ∈ dn, (r.1, (⟨r.2.nm, r.2.rk, .rdy d.now⟩ : Cl)) ∈ ps
theorem Wk.ex {K : PySem.W.Frag} {F H H' : Hp} {p : Addr} {d : Dk} {ps0 dn : List Pr} (h : Wk K F H p d ps0 dn) (e : Ex H H') : Wk K F H' p d ps0 dn := ⟨h.wf, let ⟨l, ps, a, b, c⟩ := h.at_; ⟨l, ps, a.ex e, b.mono e, c⟩⟩
theorem Wk.next {K : PySem.W.Frag} {F H H' : Hp} {p l l' : Addr} {d : Dk} {ps0 dn ps : List Pr} {q : Pr} (nd : (ps0.map fun q => q.2.nm).Nodup) (hq : q ∈ ps0) (hn : q ∉ dn) (hs : ∀ r ∈ dn, r ∈ ps0) (w : (d.rdyAll (dn.map (·.2))).Wf)
    (D : DkAt K H p (d.rdyAll (dn.map (·.2))) l ps) (h1 : ∀ r ∈ ps0, r ∉ dn → r ∈ ps) (h2 : ∀ r ∈ dn, (r.1, (⟨r.2.nm, r.2.rk, .rdy d.now⟩ : Cl)) ∈ ps)
    (D' : DkAt K H' p ((d.rdyAll (dn.map (·.2))).put ⟨q.2.nm, q.2.rk, .rdy d.now⟩) l' (putP ps (q.1, ⟨q.2.nm, q.2.rk, .rdy d.now⟩))) (f' : Fr F H' p l' (putP ps (q.1, ⟨q.2.nm, q.2.rk, .rdy d.now⟩))) : Wk K F H' p d ps0 (dn ++ [q]) := by
  have e2 : d.rdyAll ((dn ++ [q]).map (·.2)) = (d.rdyAll (dn.map (·.2))).put ⟨q.2.nm, q.2.rk, .rdy d.now⟩ := by
    rw [List.map_append]
    show d.rdyAll (_ ++ [q.2]) = _
    rw [rdyAll_snoc, (rdyAll_now _ _).1]
  have hin : q.2 ∈ (d.rdyAll (dn.map (·.2))).line := by rw [D.eq]; exact List.mem_map.mpr ⟨q, h1 q hq hn, rfl⟩
  refine ⟨by rw [e2]; exact w.put hin rfl, l', _, by rw [e2]; exact D', f', fun r hr hrn => ?_, fun r hr => ?_⟩
  · have h3 : r ∉ dn := fun h => hrn (List.mem_append_left _ h)
    refine putP_mem (h1 r hr h3) fun e => hrn (List.mem_append_right _ (List.mem_singleton.mpr (nodup_pr nd hr hq e)))
  · rcases List.mem_append.mp hr with hr | hr
    · exact putP_mem (h2 r hr) fun e => hn (by rw [← nodup_pr nd (hs r hr) hq e]; exact hr)
    · rw [List.mem_singleton] at hr
      rw [hr]
      exact putP_self
theorem Tups.rows {K : PySem.W.Frag} {H : Hp} {a : Addr} {qs : List (Int × Int)} {ts : List Addr} (r : Tups K H a (qs.map fun q => [.int q.1, .int q.2]) ts) : Rows K H a qs ts := ⟨r.l, by rw [r.n, List.length_map], fun i t q h1 h2 => r.t i t _ h1 (by rw [List.getElem?_map, h2]; rfl)⟩
theorem mark_rdy {m : Md} (h : m.isR = true) : m.mark = .int m.since := by
  cases m with
  | rdy s => rfl
  | slp s => cases h
  | wtg s => cases h
theorem DkAt.tick {K : PySem.W.Frag} {F H : Hp} {p l dx : Addr} {d : Dk} {ps : List Pr} (D : DkAt K H p d l ps) (f : Fr F H p l ps) (hp : H p = some (.ins (aD K) dx (dfs d l))) :
    DkAt K (upd H p (.ins (aD K) dx (putF "now" (.int (d.now + 1)) (dfs d l)))) p d.tick l ps ∧ Fr F (upd H p (.ins (aD K) dx (putF "now" (.int (d.now + 1)) (dfs d l)))) p l ps := by
  have ca : ∀ {b o}, b ≠ p → H b = some o → upd H p (.ins (aD K) dx (putF "now" (.int (d.now + 1)) (dfs d l))) b = some o := fun hb ho => by rw [upd_ne hb]; exact ho
  refine ⟨⟨⟨dx, upd_same⟩, ca (ne_of D.ln hp (by intro z; cases z)) D.ln, D.eq, fun q hq => ?_⟩, ⟨fun b o hb => ca (fun e => by have := f.p0; rw [← e, hb] at this; cases this) (f.ex _ _ hb), f.p0, f.l0, f.c0⟩⟩
  obtain ⟨dq, h⟩ := D.at_ q hq
  exact ⟨dq, ca (fun e => by rw [e, hp] at h; exact ins_ne (Option.some.inj h)) h⟩
theorem call2 {σ : L2.St} {H : Hp} {tl tp : TE} {sp : Sp} {E : XK} {Q : VK} (h : tl σ H fun x H1 => tp σ H1 fun y H2 => sp ([x, y] ++ []) H2 Q E) : tCall sp [] E (tCons tl (tCons tp tNil)) σ H Q := h
theorem rdyAll_wf : ∀ (cs : List Cl) (d : Dk), d.Wf → (∀ c ∈ cs, ∃ c0 ∈ d.line, c0.nm = c.nm) → (d.rdyAll cs).Wf
  | [], _, W, _ => W
  | c :: cs, d, W, h => by
    obtain ⟨c0, h0, e0⟩ := h c List.mem_cons_self
    refine rdyAll_wf cs (d.put ⟨c.nm, c.rk, .rdy d.now⟩) (W.put h0 e0) fun c' hc' => ?_
    obtain ⟨c1, h1, e1⟩ := h c' (List.mem_cons_of_mem _ hc')
    by_cases hn : c1.nm = c.nm
    · exact ⟨⟨c.nm, c.rk, .rdy d.now⟩, putC_mem.mpr (.inr rfl), by rw [← e1, hn]⟩
    · exact ⟨c1, putC_mem.mpr (.inl ⟨h1, hn⟩), e1⟩
theorem rdyAll_nm : ∀ (cs : List Cl) (d : Dk) (c : Cl), c ∈ d.line → ∃ c' ∈ (d.rdyAll cs).line, c'.nm = c.nm
  | [], _, c, h => ⟨c, h, rfl⟩
  | x :: cs, d, c, h => by
    by_cases hn : c.nm = x.nm
    · obtain ⟨c', h', e'⟩ := rdyAll_nm cs (d.put ⟨x.nm, x.rk, .rdy d.now⟩) ⟨x.nm, x.rk, .rdy d.now⟩ (putC_mem.mpr (.inr rfl))
      exact ⟨c', h', e'.trans hn.symm⟩
    · exact rdyAll_nm cs (d.put ⟨x.nm, x.rk, .rdy d.now⟩) c (putC_mem.mpr (.inl ⟨h, hn⟩))
theorem waked_wf {d : Dk} (W : d.Wf) : d.waked.Wf := rdyAll_wf _ d.tick ⟨W.p1, W.p2, W.len, W.nd⟩ fun c hc => ⟨c, (List.mem_filter.mp hc).1, rfl⟩
theorem chosen_mem {d : Dk} {c : Cl} (h : d.chosen = some c) : c ∈ d.line ∧ c.md.isR = true := by
  unfold Dk.chosen at h
  cases hf : firstIdx d.pace d.prs with
  | none => rw [hf] at h; cases h
  | some j =>
    rw [hf] at h
    have := List.mem_of_getElem? (show d.able[j]? = some c from h)
    exact List.mem_filter.mp this
theorem turn_wf {d : Dk} (W : d.Wf) : d.turn.2.Wf := by
  unfold Dk.turn
  cases h : d.chosen with
  | none => exact waked_wf W
  | some c =>
    obtain ⟨c', h', e'⟩ := rdyAll_nm (d.line.filter (due (d.now + 1))) d.tick c (chosen_mem h).1
    exact (waked_wf W).put h' e'
theorem runN_wf {d : Dk} (W : d.Wf) : ∀ n, (d.runN n).2.Wf
  | 0 => W
  | n + 1 => turn_wf (runN_wf W n)
theorem runN_len (d : Dk) : ∀ n, (d.runN n).1.length = n
  | 0 => rfl
  | n + 1 => by show ((d.runN n).1 ++ [_]).length = _; rw [List.length_append, runN_len d n]; rfl
/-! ### names of the law -/
def revS (z : Str) : Str := ⟨z.cps.toList.reverse.toArray⟩
def tRevS (te : TE) : TE := fun σ H Q => te σ H fun x H1 => ∃ z, x = .str z ∧ z.length ≤ sizeLine ∧ Q (.str (revS z)) H1
theorem rev_by (z : Str) (u : Tok) : PySem.Txt.sliceBy z none none (-1, u) = revS z := by
  refine TL.ext_tl ?_
  show (PySem.Txt.sliceBy z none none (-1, u)).cps.toList = z.cps.toList.reverse
  rw [step_rev_list]
  refine List.ext_getElem (by simp [Str.length]) fun i h1 h2 => ?_
  have hi : i < z.cps.size := by simpa [Str.length] using h1
  rw [List.getElem_map, List.getElem_range, List.getElem_reverse]
  have hs : z.length - 1 - i < z.cps.size := by show z.cps.size - 1 - i < z.cps.size; omega
  rw [Array.getElem_toList]
  simp only [Array.length_toList]
  show z.cps.getD (z.cps.size - 1 - i) 0 = _
  rw [Array.getD, dif_pos (show z.cps.size - 1 - i < z.cps.size by omega)]
  rfl
theorem pe_revS {X : Cx} {e : Expr} {te : TE} {k : Nat} {p1 p2 p3 pos : Pos} (he : PE X e te) : PE X (.Subscript e (.Slice none none (some (.UnaryOp .USub (.Constant (.int 1) k p1) p2)) p3) pos) (tRevS te) := by
  refine ⟨fun pins s σ H Q I h => ?_⟩
  refine Subscript_ (thn (he.run pins s σ H _ I h) fun v s1 ⟨x, H1, I1, r1, q1⟩ => ?_)
  obtain ⟨z, rfl, hz, q⟩ := q1
  obtain ⟨t, rfl⟩ := r1
  have hst : PO X (some (.UnaryOp .USub (.Constant (.int 1) k p1) p2)) (tPart (tUn (rU fun i => .int (-i)) (tC (.int 1)))) := po_some (pe_un un_neg pe_int)
  refine wpAny_Slice (thn (po_none.run pins s1 σ H1 (fun o H2 => o = none ∧ H2 = H1) I1 ⟨rfl, rfl⟩) fun vl s2 ⟨l, H2, I2, pl, el, e2⟩ => ?_)
  subst el e2
  refine thn (po_none.run pins s2 σ H2 (fun o H3 => o = none ∧ H3 = H2) I2 ⟨rfl, rfl⟩) fun vu s3 ⟨u, H3, I3, pu, eu, e3⟩ => ?_
  subst eu e3
  refine thn (hst.run pins s3 σ H3 (fun o H4 => o = some (-1) ∧ H4 = H3) I3 ⟨1, rfl, -1, rfl, rfl, rfl⟩) fun vs s4 ⟨o, H4, I4, ps, eo, e4⟩ => ?_
  subst eo e4
  have I5 : Inv X pins σ H4 { s4 with heap := s4.heap.push { cls := .type "slice", data := .fields #[vl, vu, vs] } } := I4.kept (t' := s4.toks) fun b ob q => Heap.get?_push_of_some _ q
  obtain ⟨os, hos, hcs, hds⟩ := Heap.IsSliceOf.new (h := s4.heap) vl vu vs
  obtain ⟨l', rfl, hl'⟩ := IsPart.raw pl
  obtain ⟨u', rfl, hu'⟩ := IsPart.raw pu
  obtain ⟨st', rfl, hst'⟩ := IsPart.raw ps
  cases l' with
  | some _ => cases hl'
  | none =>
  cases u' with
  | some _ => cases hu'
  | none =>
  cases st' with
  | none => cases hst'
  | some sk =>
  obtain ⟨sk, tk⟩ := sk
  have hsk : sk = -1 := Option.some.inj (show some sk = some (-1 : Int) from hst')
  subst hsk
  show wpAny (model X.prog X.w) X.A (subscriptTail e (.Slice none none (some (.UnaryOp .USub (.Constant (.int 1) k p1) p2)) p3) (.str z t) (.ref s4.heap.objs.size)) (EP X pins σ Q) X.xe _
  refine tail_any (ops := [.ref s4.heap.objs.size, .str z t]) (typeIs_str _ _ _) (PySem.F.slot_str_getitem.lookup) ?_ (by with_unfolding_all rfl)
  have hle := PySem.Txt.sliceBy_le z none none (-1, tk) (show (-1 : Int) ≠ 0 by decide)
  refine PySem.wpAny_getItem_str_slice (l := none) (u := none) (st := some (-1, tk)) ⟨os, hos, hcs, hds⟩ rfl (PySem.post_val_or_str ⟨Nat.le_trans hle hz, fun t' c => ?_⟩)
  have e9 := rev_by z tk
  unfold PySem.Txt.sliceBy at e9
  exact ⟨.str (revS z), H4, I5.tok c, ⟨t', by rw [← e9]⟩, q⟩
theorem ev_revS {σ : L2.St} {H : Hp} {te : TE} {z : Str} (h : Ev te σ H (.str z)) (hz : z.length ≤ 100000) : Ev (tRevS te) σ H (.str (revS z)) := fun H1 e Q q => h H1 e _ fun H2 e2 => ⟨z, rfl, sz_of hz, q H2 e2⟩
theorem ev_slS {σ : L2.St} {H : Hp} {te : TE} {tl th : TO} {z : Str} {lo hi : Option Int} (h : Ev te σ H (.str z)) (h1 : EvO tl σ H lo) (h2 : EvO th σ H hi) (hz : z.length ≤ 100000) : Ev (tSl rSlS te tl th) σ H (.str (cutS z lo hi)) := fun H1 e Q q =>
  h H1 e _ fun H2 e2 => h1 H2 (e.trans e2) _ fun H3 e3 => h2 H3 ((e.trans e2).trans e3) _ fun H4 e4 => ⟨z, rfl, sz_of hz, q H4 ((e2.trans e3).trans e4)⟩
theorem ev_join {K : PySem.W.Frag} {σ : L2.St} {H : Hp} {to te : TE} {a : Str} {ys : List Str} (h : Ev to σ H (.str a)) (h2 : EvL te σ H (ys.map V.str)) (hz : (ys.map (·.length)).sum + ys.length * a.length ≤ 16777216) :
    Ev (tM1 (fun x xs H Q => ∃ a p, ∃ ys : List Str, x = .str a ∧ xs = [.ref p] ∧ (SqL K H p (ys.map V.str) ∨ SqT K H p (ys.map V.str)) ∧ (ys.map (·.length)).sum + ys.length * a.length ≤ 16777216 ∧ Q (.str (Txt.join a ys)) H) to te) σ H (.str (Txt.join a ys)) := fun H1 e Q q =>
  h H1 e _ fun H2 e2 => ⟨⟨a, rfl⟩, h2 H2 (e.trans e2) _ fun p H3 hp e3 h3 => ⟨a, p, ys, rfl, rfl, .inl (sq_of h3), hz, q H3 (e2.trans e3)⟩⟩
theorem cutS_to {l : List Nat} {i : Int} (h0 : 0 ≤ i) (h1 : i.toNat ≤ l.length) : cutS (SX.S l) none (some i) = SX.S (l.take i.toNat) := by
  have hl : (SX.S l).length = l.length := SX.S_len l
  unfold cutS
  rw [hl]
  have e2 : HT.sIx l.length l.length (some i) = i.toNat := by
    show (if i < 0 then (i + (l.length : Int)).toNat else min i.toNat l.length) = i.toNat
    rw [if_neg (by omega)]
    omega
  rw [e2]
  rfl
theorem cutS_from {l : List Nat} {i : Int} (h0 : 0 ≤ i) (h1 : i.toNat ≤ l.length) : cutS (SX.S l) (some i) none = SX.S (l.drop i.toNat) := by
  have hl : (SX.S l).length = l.length := SX.S_len l
  unfold cutS
  rw [hl]
  have e2 : HT.sIx l.length 0 (some i) = i.toNat := by
    show (if i < 0 then (i + (l.length : Int)).toNat else min i.toNat l.length) = i.toNat
    rw [if_neg (by omega)]
    omega
  rw [e2]
  show SX.S ((l.drop i.toNat).take (l.length - i.toNat)) = _
  rw [List.take_of_length_le (by rw [List.length_drop]; omega)]
theorem at_getD {L : List Nat} {i : Int} (h0 : 0 ≤ i) (h1 : i < (L.length : Int)) : atI L i = some (L.getD i.toNat 0) := by
  unfold atI ixN
  rw [if_pos h0, if_pos h1]
  have : i.toNat < L.length := by omega
  show L[i.toNat]? = _
  rw [List.getD_eq_getElem?_getD, List.getElem?_eq_getElem this]
  rfl
def gat (L : List Nat) (i : Int) : Nat := L.getD i.toNat 0
def nmS (c : Int) : List Nat := if mix c 10259 5 = 0 then figsS.cps.toList else signsS.cps.toList
def nmNear (L : List Nat) (k c : Int) : Nat := gat L ((k + c % (L.length : Int)) / (L.length : Int))
def nmTell (L : List Nat) (k c : Int) : Nat := gat L ((k + c) % (L.length : Int))
def nmT1 (L : List Nat) (c : Int) (n : Nat) : List Nat := (List.range n).map fun j : Nat => gat L ((c / 72 + 7 * (j : Int)) % (L.length : Int))
def nmT2 (L : List Nat) (k c : Int) (n : Nat) : List Nat := (List.range n).map fun j : Nat => gat L ((c / 72 + 7 * (j : Int) + k * (j : Int)) % (L.length : Int))
def nameL (L : List Nat) (k c : Int) : List Nat :=
  if mix c 10303 2 = 0 then
    (nmT1 L c (2 + mix c 10313 11).toNat).take (mix c 10321 (2 + mix c 10313 11 - 1)).toNat ++ [nmNear L k c] ++ [nmTell L k c] ++ (nmT1 L c (2 + mix c 10313 11).toNat).drop (mix c 10321 (2 + mix c 10313 11 - 1) + 2).toNat
  else if k < (L.length : Int) ∧ mix (c + 3 * k) 10253 8 = 0 then [nmTell L k c]
  else if c / 36 % 2 = 1 then ([nmNear L k c] ++ [nmTell L k c] ++ nmT2 L k c (mix (c + k) 10007 11).toNat).reverse
  else [nmNear L k c] ++ [nmTell L k c] ++ nmT2 L k c (mix (c + k) 10007 11).toNat
def nameBy (k c : Int) : Str := SX.S (nameL (nmS c) k c)
theorem nmS_ok (c : Int) : ((nmS c).length = 10 ∨ (nmS c).length = 36) ∧ (nmS c).Nodup ∧ ∀ x ∈ nmS c, isSign x = true := by
  unfold nmS
  split
  · exact ⟨.inl (by decide +kernel), by decide +kernel, by decide +kernel⟩
  · exact ⟨.inr (by decide +kernel), by decide +kernel, by decide +kernel⟩
theorem gat_mem {L : List Nat} {i : Int} (h1 : i.toNat < L.length) : gat L i ∈ L := by
  unfold gat
  rw [List.getD_eq_getElem?_getD, List.getElem?_eq_getElem h1]
  exact List.getElem_mem h1
theorem gat_inj {L : List Nat} (nd : L.Nodup) {i j : Int} (hi0 : 0 ≤ i) (hj0 : 0 ≤ j) (hi : i.toNat < L.length) (hj : j.toNat < L.length) (e : gat L i = gat L j) : i = j := by
  unfold gat at e
  rw [List.getD_eq_getElem?_getD, List.getD_eq_getElem?_getD, List.getElem?_eq_getElem hi, List.getElem?_eq_getElem hj] at e
  have e : L[i.toNat] = L[j.toNat] := e
  have key := List.pairwise_iff_getElem.mp nd
  rcases Nat.lt_trichotomy i.toNat j.toNat with h | h | h
  · exact absurd e (key _ _ hi hj h)
  · omega
  · exact absurd e.symm (key _ _ hj hi h)
/-! ### L_name_by -/
theorem sc_L_name_by : FnScope ["_law_k", "_law_cell", "_law_some", "_law_many", "_law_near", "_law_tell", "_law_size", "_law_at", "_law_text", "_law_j"] ["_law_k", "_law_cell"] (defScope s_L_name_by) := ⟨rfl, rfl, rfl, by decide +kernel, rfl, by decide +kernel, by decide +kernel⟩
def sp_L_name_by (_ : PySem.W.Frag) : Sp := fun vs H Q _ => ∃ (k c : Int), vs = [.int k, .int c] ∧ 0 ≤ k ∧ k ≤ 80 ∧ RetV (.str (nameBy k c)) H Q
theorem cv_L_name_by {K : PySem.W.Frag} {H : Hp} {k c : Int} (h1 : 0 ≤ k) (h2 : k ≤ 80) : SpV (sp_L_name_by K) ([.int k, .int c] ++ []) H (.str (nameBy k c)) := spv_call fun _ _ _ _ q => ⟨k, c, rfl, h1, h2, q⟩
local macro_rules | `(tactic| tm_at "rr.cv") => `(tactic| refine' cv_L_name_by ?_ ?_)
theorem ok_L_name_by {P : Program} {w : World} {K : PySem.W.Frag} {mg : Str → Option Value} {base : Heap} (T : Txt K mg) : ∃ fd, FnOk P w K mg base (CX0) 2 (He.ga K "_law_name_by") fd ["_law_k", "_law_cell"] (sp_L_name_by K) ∧ Binds K fd ["_law_k", "_law_cell"] [] ∧ FunD K "_law_name_by" "_law_name_by" (defArgs s_L_name_by) (defBody s_L_name_by) (defScope s_L_name_by) [] [] (He.ga K "_law_name_by") fd := by
  obtain ⟨fd, F⟩ := f_L_name_by T
  obtain ⟨d_L_mix, G_L_mix, b_L_mix, _⟩ := ok_L_mix (P := P) (w := w) (base := base) T
  refine ⟨fd, ok0 F sc_L_name_by (fun vs H Q E h => ?_) (fun cdv A outer s H vs Q E hr h => ?_), FunD.bindsN F fun _ _ _ _ _ _ us hl => match us, hl with | [_, _], _ => rfl, F⟩
  · (repeat (obtain ⟨_, h⟩ := h)); subst_vars; rfl
  · obtain ⟨k, c, rfl, h0, h1, q⟩ := h
    refine ⟨_, (pss_cons (ps_set (i := 2) sc_L_name_by.nd rfl (Or.inr rfl) pe_str)
        (pss_cons (ps_if (pt_cmpR op_eq (pe_call G_L_mix (hr.mono (by decide)) rfl (g_L_mix T) (kp_L_mix T) b_L_mix .nil pass0 (pa_cons (pv 1) (pa_cons pe_int (pa_cons pe_int pa_nil)))) pe_int (nomark _)) (pss_one (ps_set (i := 2) sc_L_name_by.nd rfl (Or.inr rfl) pe_str))
        pss_nil)
        (pss_cons (ps_set (i := 3) sc_L_name_by.nd rfl (Or.inr rfl) (pe_callB call_len_str rfl (b_len T) (by decide +kernel) (pa_cons (pv 2) pa_nil)))
        (pss_cons (ps_set (i := 4) sc_L_name_by.nd rfl (Or.inl rfl) (pe_ix ix_str (pv 2) (pe_op op_fdiv (pe_op op_add (pv 0) (pe_op op_mod (pv 1) (pv 3))) (pv 3)) (fun _ _ => rfl)))
        (pss_cons (ps_set (i := 5) sc_L_name_by.nd rfl (Or.inl rfl) (pe_ix ix_str (pv 2) (pe_op op_mod (pe_op op_add (pv 0) (pv 1)) (pv 3)) (fun _ _ => rfl)))
        (pss_cons (ps_if (pt_cmpR op_eq (pe_call G_L_mix (hr.mono (by decide)) rfl (g_L_mix T) (kp_L_mix T) b_L_mix .nil pass0 (pa_cons (pv 1) (pa_cons pe_int (pa_cons pe_int pa_nil)))) pe_int (nomark _)) (pss_cons (ps_set (i := 6) sc_L_name_by.nd rfl (Or.inl rfl) (pe_op op_add pe_int (pe_call G_L_mix (hr.mono (by decide)) rfl (g_L_mix T) (kp_L_mix T) b_L_mix .nil pass0 (pa_cons (pv 1) (pa_cons pe_int (pa_cons pe_int pa_nil))))))
        (pss_cons (ps_set (i := 7) sc_L_name_by.nd rfl (Or.inl rfl) (pe_call G_L_mix (hr.mono (by decide)) rfl (g_L_mix T) (kp_L_mix T) b_L_mix .nil pass0 (pa_cons (pv 1) (pa_cons pe_int (pa_cons (pe_op op_sub (pv 6) pe_int) pa_nil)))))
        (pss_cons (ps_set (i := 8) sc_L_name_by.nd rfl (Or.inl rfl) (pe_join pe_str (pe_lc (own := [("_law_j", 9)]) (g := gName 9) (tt := tYes) rfl sc_L_name_by.nd (pi_range1 rfl (b_range T) (pa_cons (pv 6) pa_nil)) (blkOk_by (own := [("_law_j", 9)]) (N := ["_law_k", "_law_cell", "_law_some", "_law_many", "_law_near", "_law_tell", "_law_size", "_law_at", "_law_text", "_law_j"]) (sc := defScope s_L_name_by) (by decide +kernel)) (fun _ _ _ _ _ => (pg_name (i := 9) sc_L_name_by.nd rfl (Or.inl rfl))) (fun _ _ _ _ _ => pts_nil) (fun _ _ _ _ _ => (pe_ix ix_str (pv 2) (pe_op op_mod (pe_op op_add (pe_op op_fdiv (pv 1) pe_int) (pe_op op_mul pe_int (pv 9))) (pv 3)) (fun _ _ => rfl))))))
        (pss_one (ps_ret (pe_op op_add_str (pe_op op_add_str (pe_op op_add_str (pe_slice sl_str (pv 8) po_none (po_some (pv 7))) (pv 4)) (pv 5)) (pe_slice sl_str (pv 8) (po_some (pe_op op_add (pv 7) pe_int)) po_none)))))))
        pss_nil)
        (pss_cons (ps_if (PW.pt (pw_and (pt_cmpR op_lt (pv 0) (pv 3) (nomark _)) (pw_and1 (pt_cmpR op_eq (pe_call G_L_mix (hr.mono (by decide)) rfl (g_L_mix T) (kp_L_mix T) b_L_mix .nil pass0 (pa_cons (pe_op op_add (pv 1) (pe_op op_mul pe_int (pv 0))) (pa_cons pe_int (pa_cons pe_int pa_nil)))) pe_int (nomark _))))) (pss_one (ps_ret (pv 5)))
        pss_nil)
        (pss_cons (ps_set (i := 8) sc_L_name_by.nd rfl (Or.inl rfl) (pe_op op_add_str (pv 4) (pv 5)))
        (pss_cons (ps_for PassesOwn.never rfl (pi_range1 rfl (b_range T) (pa_cons (pe_call G_L_mix (hr.mono (by decide)) rfl (g_L_mix T) (kp_L_mix T) b_L_mix .nil pass0 (pa_cons (pe_op op_add (pv 1) (pv 0)) (pa_cons pe_int (pa_cons pe_int pa_nil)))) pa_nil)) (pg_name (i := 9) sc_L_name_by.nd rfl (Or.inl rfl))
        (pss_cons (ps_set (i := 7) sc_L_name_by.nd rfl (Or.inl rfl) (pe_op op_add (pe_op op_add (pe_op op_fdiv (pv 1) pe_int) (pe_op op_mul pe_int (pv 9))) (pe_op op_mul (pv 0) (pv 9))))
        (pss_one (ps_set (i := 8) sc_L_name_by.nd rfl (Or.inl rfl) (pe_op op_add_str (pv 8) (pe_ix ix_str (pv 2) (pe_op op_mod (pv 7) (pv 3)) (fun _ _ => rfl)))))))
        (pss_cons (ps_if (pt_cmpR op_eq (pe_op op_mod (pe_op op_fdiv (pv 1) pe_int) pe_int) pe_int (nomark _)) (pss_one (ps_ret (pe_revS (pv 8))))
        pss_nil)
        (pss_one (ps_ret (pv 8))))))))))))), ?_⟩
    refine' q_asg ev_c fun H1 e1 => ?_
    refine q_ifAsg (b := decide (mix c 10259 5 = 0)) (v := .str (SX.S (nmS c))) ?h (fun hb => ?h1) (fun hb => ?h2) fun H2 e2 => ?_
    case h => exact et_is (et_test (ev_op (ev_call (ea_cons (ev_var rfl) (ea_cons ev_c (ea_cons ev_c ea_nil))) (cv_L_mix (by decide) (by decide))) ev_c (rv_eq rfl))) (decide_eq_decide.mpr ⟨fun h => by injection h, fun h => by rw [h]⟩)
    case h1 =>
      refine ev_is ev_c ?_
      unfold nmS
      rw [if_pos (of_decide_eq_true hb), SX.S_tl]
    case h2 =>
      have : nmS c = signsS.cps.toList := by
        unfold nmS
        rw [if_neg (of_decide_eq_false hb)]
      rw [this, SX.S_tl]
      rfl
    have hok := nmS_ok c
    unfold nameBy at q
    generalize nmS c = L at *
    obtain ⟨hL, hnd, hsg⟩ := hok
    have hLl : (SX.S L).length = L.length := SX.S_len L
    have hLz : (SX.S L).length ≤ 100000 := by omega
    refine q_asg (v := .int (L.length : Int)) (ev_is (ev_cb (ea_cons (ev_var rfl) ea_nil) (rc_len_str (sz_of hLz))) (by rw [hLl])) fun H3 e3 => ?_
    have ixS : ∀ {i : Int} {H : Hp}, 0 ≤ i → i < (L.length : Int) → RV rIxS (.str (SX.S L)) (.int i) H (.str (SX.S [gat L i])) := fun h0 h1 => rv_ixS hLz (at_getD h0 h1)
    have cdv : 0 < (L.length : Int) := by omega
    have cdd : ∀ x, CDiv x (L.length : Int) := fun x => by unfold CDiv; omega
    have hn : 0 ≤ (k + c % (L.length : Int)) / (L.length : Int) ∧ (k + c % (L.length : Int)) / (L.length : Int) < (L.length : Int) := by
      rcases hL with hL | hL <;> rw [hL] <;> omega
    have ht : ∀ x : Int, 0 ≤ x % (L.length : Int) ∧ x % (L.length : Int) < (L.length : Int) := fun x => ⟨Int.emod_nonneg _ (by omega), Int.emod_lt_of_pos _ (by omega)⟩
    refine q_asg (v := .str (SX.S [nmNear L k c])) (ev_op (ev_var rfl) (ev_op (ev_op (ev_var rfl) (ev_op (ev_var rfl) (ev_var rfl) (rv_I cdv)) rv_I0) (ev_var rfl) (rv_I (cdd _))) (ixS hn.1 hn.2)) fun H4 e4 => ?_
    refine q_asg (v := .str (SX.S [nmTell L k c])) (ev_op (ev_var rfl) (ev_op (ev_op (ev_var rfl) (ev_var rfl) rv_I0) (ev_var rfl) (rv_I cdv)) (ixS (ht _).1 (ht _).2)) fun H5 e5 => ?_
    have q5 := fun H6 (e : Ex H5 H6) => q H6 ((((e1.trans e2).trans e3).trans e4).trans (e5.trans e))
    clear q e1 e2 e3 e4 e5
    unfold nameL at q5
    refine q_when (b := decide (mix c 10303 2 = 0)) ?h (fun hb H6 e6 => ?_) (fun hb H6 e6 => ?_)
    case h => exact et_is (et_test (ev_op (ev_call (ea_cons (ev_var rfl) (ea_cons ev_c (ea_cons ev_c ea_nil))) (cv_L_mix (by decide) (by decide))) ev_c (rv_eq rfl))) (decide_eq_decide.mpr ⟨fun h => by injection h, fun h => by rw [h]⟩)
    · rw [if_pos (of_decide_eq_true hb)] at q5
      have m0 := mix_nonneg (c := c) (p := 10313) (m := 11) (by decide)
      have m1 := mix_lt (c := c) (p := 10313) (m := 11) (by decide)
      generalize hM : mix c 10313 11 = M at *
      refine q_asg (v := .int (2 + M)) (ev_op ev_c (ev_is (ev_call (ea_cons (ev_var rfl) (ea_cons ev_c (ea_cons ev_c ea_nil))) (cv_L_mix (by decide) (by decide))) (by rw [hM])) rv_I0) fun H7 e7 => ?_
      have a0 := mix_nonneg (c := c) (p := 10321) (m := 2 + M - 1) (by omega)
      have a1 := mix_lt (c := c) (p := 10321) (m := 2 + M - 1) (by omega)
      refine q_asg (ev_call (ea_cons (ev_var rfl) (ea_cons ev_c (ea_cons (ev_op (ev_var rfl) ev_c rv_I0) ea_nil))) (cv_L_mix (by decide) (by omega))) fun H8 e8 => ?_
      generalize mix c 10321 (2 + M - 1) = A at *
      have hlen : (nmT1 L c (2 + M).toNat).length = (2 + M).toNat := by unfold nmT1; rw [List.length_map, List.length_range]
      refine q_asg (v := .str (SX.S (nmT1 L c (2 + M).toNat))) ?h fun H9 e9 => ?_
      case h =>
        refine ev_is (ev_join (K := K) (a := "") (ys := (List.range (2 + M).toNat).map fun j : Nat => SX.S [gat L ((c / 72 + 7 * (j : Int)) % (L.length : Int))]) ev_c ?l ?z) (congrArg V.str (TL.ext_tl ?e))
        case l =>
          have hg : ((List.range (2 + M).toNat).map fun j : Nat => SX.S [gat L ((c / 72 + 7 * (j : Int)) % (L.length : Int))]).map V.str = given (2 + M).toNat (fun _ => true) (fun j => .str (SX.S [gat L ((c / 72 + 7 * (j : Int)) % (L.length : Int))])) := by
            unfold given
            rw [filter_true, List.map_map]
            rfl
          rw [hg]
          refine' el_lcR1 (n := 2 + M) (fun _ => true) (fun j => .str (SX.S [gat L ((c / 72 + 7 * (j : Int)) % (L.length : Int))])) (ea_cons (ev_var rfl) ea_nil) (by omega) (fun _ => rfl) (fun i H9 e9 hi => et_yes) (fun i H9 e9 hi _ => ?_)
          exact ev_op (ev_var rfl) (ev_op (ev_op (ev_op (ev_var rfl) ev_c (rv_I ⟨by decide, by decide⟩)) (ev_op ev_c (ev_var rfl) (rv_I (cmul_l (by decide) (by decide)))) rv_I0) (ev_var rfl) (rv_I cdv)) (ixS (ht _).1 (ht _).2)
        case z =>
          rw [List.map_map, List.length_map, List.length_range, show ("" : Str).length = 0 from by decide +kernel]
          have : (List.range (2 + M).toNat).map ((fun x : Str => x.length) ∘ fun j : Nat => SX.S [gat L ((c / 72 + 7 * (j : Int)) % (L.length : Int))]) = (List.range (2 + M).toNat).map fun _ => 1 := List.map_congr_left fun j _ => SX.S_len _
          rw [this, List.map_const', List.sum_replicate_nat, List.length_range]
          omega
        case e =>
          rw [TL.join_eq, TL.tl_join, show TL.tl ("" : Str) = [] from by decide +kernel, joinL_nil, List.map_map]
          show _ = nmT1 L c (2 + M).toNat
          unfold nmT1
          generalize List.range (2 + M).toNat = R
          induction R with
          | nil => rfl
          | cons x R ih =>
            rw [List.map_cons, List.flatten_cons, List.map_cons, ih]
            rfl
      have hzz : (SX.S (nmT1 L c (2 + M).toNat)).length = (2 + M).toNat := by rw [SX.S_len, hlen]
      have hz1 : (SX.S (nmT1 L c (2 + M).toNat)).length ≤ 100000 := by rw [hzz]; omega
      refine s_ret (v := .str (SX.S ((nmT1 L c (2 + M).toNat).take A.toNat ++ [nmNear L k c] ++ [nmTell L k c] ++ (nmT1 L c (2 + M).toNat).drop (A + 2).toNat))) ?h9 fun H10 e10 => q5 H10 ((e6.trans e7).trans ((e8.trans e9).trans e10))
      case' h9 => rw [← SX.S_cat, ← SX.S_cat, ← SX.S_cat, ← cutS_to (i := A) (by omega) (by rw [hlen]; omega), ← cutS_from (i := A + 2) (by omega) (by rw [hlen]; omega)]
      have hc1 := cutS_length (SX.S (nmT1 L c (2 + M).toNat)) none (some A)
      have hc2 := cutS_length (SX.S (nmT1 L c (2 + M).toNat)) (some (A + 2)) none
      have hs1 : ∀ x, (SX.S [x]).length = 1 := fun x => SX.S_len [x]
      rw [hzz] at hc1 hc2
      refine ev_op (ev_op (ev_op (ev_slS (ev_var rfl) eo_none (eo_some (ev_var rfl)) hz1) (ev_var rfl) (rv_addS (sz_of ?_))) (ev_var rfl) (rv_addS (sz_of ?_))) (ev_slS (ev_var rfl) (eo_some (ev_op (ev_var rfl) ev_c rv_I0)) eo_none hz1) (rv_addS (sz_of ?_))
      all_goals
        simp only [len_app, hs1]
        omega
    rw [if_neg (of_decide_eq_false hb)] at q5
    refine q_when (b := decide (k < (L.length : Int) ∧ mix (c + 3 * k) 10253 8 = 0)) ?h7 (fun hb H7 e7 => ?_) (fun hb H7 e7 => ?_)
    case h7 =>
      refine' et_is (et_and (et_test (ev_op (ev_var rfl) (ev_var rfl) rv_I0)) (fun _ => et_test (ev_op (ev_call (ea_cons (ev_op (ev_var rfl) (ev_op ev_c (ev_var rfl) (rv_I (cmul_l (by decide) (by decide)))) rv_I0) (ea_cons ev_c (ea_cons ev_c ea_nil))) (cv_L_mix (by decide) (by decide))) ev_c (rv_eq rfl)))) ?_
      rw [Bool.decide_and]
      congr 1
      exact decide_eq_decide.mpr ⟨fun h => by injection h, fun h => by rw [h]⟩
    · rw [if_pos (of_decide_eq_true hb)] at q5
      exact s_ret (ev_var rfl) fun H8 e8 => q5 H8 ((e6.trans e7).trans e8)
    rw [if_neg (of_decide_eq_false hb)] at q5
    have hs1 : ∀ x, (SX.S [x]).length = 1 := fun x => SX.S_len [x]
    have m0 := mix_nonneg (c := c + k) (p := 10007) (m := 11) (by decide)
    have m1 := mix_lt (c := c + k) (p := 10007) (m := 11) (by decide)
    refine q_asg (v := .str (SX.S ([nmNear L k c] ++ [nmTell L k c] ++ nmT2 L k c 0))) ?h8 fun H8 e8 => ?_
    case h8 =>
      rw [show nmT2 L k c 0 = [] from rfl, List.append_nil, ← SX.S_cat]
      exact ev_op (ev_var rfl) (ev_var rfl) (rv_addS (sz_of (by simp only [hs1]; omega)))
    generalize hM : mix (c + k) 10007 11 = M at *
    refine q_forR1 (n := M) (ea_cons (ev_is (ev_call (ea_cons (ev_op (ev_var rfl) (ev_var rfl) rv_I0) (ea_cons ev_c (ea_cons ev_c ea_nil))) (cv_L_mix (by decide) (by decide))) (by rw [hM])) ea_nil) (by omega)
      (fun i σ' H' => Ex H8 H' ∧ ∃ v w, σ' = [some (.int k), some (.int c), some (.str (SX.S L)), some (.int (L.length : Int)), some (.str (SX.S [nmNear L k c])), some (.str (SX.S [nmTell L k c])), none, v, some (.str (SX.S ([nmNear L k c] ++ [nmTell L k c] ++ nmT2 L k c i))), w]) (fun H9 e9 => ⟨e9, none, none, rfl⟩) ?_ ?_
    · rintro i σ' H' hi ⟨e9, v, w, rfl⟩
      refine q_asg (v := .int (c / 72 + 7 * (i : Int) + k * (i : Int))) (ev_op (ev_op (ev_op (ev_var rfl) ev_c (rv_I ⟨by decide, by decide⟩)) (ev_op ev_c (ev_var rfl) (rv_I (cmul_l (by decide) (by decide)))) rv_I0) (ev_op (ev_var rfl) (ev_var rfl) (rv_I (cmul_l (by omega) (by omega)))) rv_I0) fun H10 e10 => ?_
      have hl2 : (nmT2 L k c i).length = i := by unfold nmT2; rw [List.length_map, List.length_range]
      refine s_asg (v := .str (SX.S ([nmNear L k c] ++ [nmTell L k c] ++ nmT2 L k c (i + 1)))) ?h fun H11 e11 => ⟨(e9.trans e10).trans e11, _, _, rfl⟩
      have : nmT2 L k c (i + 1) = nmT2 L k c i ++ [gat L ((c / 72 + 7 * (i : Int) + k * (i : Int)) % (L.length : Int))] := by
        unfold nmT2
        rw [List.range_succ, List.map_append]
        rfl
      rw [this, ← List.append_assoc, ← SX.S_cat ([nmNear L k c] ++ [nmTell L k c] ++ nmT2 L k c i)]
      refine' ev_op (ev_var rfl) (ev_op (ev_var rfl) (ev_op (ev_var rfl) (ev_var rfl) (rv_I cdv)) (ixS (ht _).1 (ht _).2)) (rv_addS (sz_of ?_))
      rw [SX.S_len, SX.S_len, List.length_append, List.length_append, hl2]
      simp only [List.length_singleton]
      omega
    · rintro σ' H' ⟨e9, v, w, rfl⟩
      have e69 := ((e6.trans e7).trans e8).trans e9
      have hl2 : (nmT2 L k c M.toNat).length = M.toNat := by unfold nmT2; rw [List.length_map, List.length_range]
      refine q_when (b := decide (c / 36 % 2 = 1)) ?h12 (fun hb H10 e10 => ?_) (fun hb H10 e10 => ?_)
      case h12 => exact et_is (et_test (ev_op (ev_op (ev_op (ev_var rfl) ev_c (rv_I ⟨by decide, by decide⟩)) ev_c (rv_I (by decide))) ev_c (rv_eq rfl))) (decide_eq_decide.mpr ⟨fun h => by injection h, fun h => by rw [h]⟩)
      · rw [if_pos (of_decide_eq_true hb)] at q5
        exact s_ret (ev_revS (ev_var rfl) (by rw [SX.S_len, List.length_append, List.length_append, hl2]; simp only [List.length_singleton]; omega)) fun H11 e11 => q5 H11 ((e69.trans e10).trans e11)
      · rw [if_neg (of_decide_eq_false hb)] at q5
        exact s_ret (ev_var rfl) fun H11 e11 => q5 H11 ((e69.trans e10).trans e11)
theorem near_mem {L : List Nat} (hL : L.length = 10 ∨ L.length = 36) {k c : Int} (h0 : 0 ≤ k) (h1 : k ≤ 80) : ((k + c % (L.length : Int)) / (L.length : Int)).toNat < L.length ∧ 0 ≤ (k + c % (L.length : Int)) / (L.length : Int) := by
  rcases hL with hL | hL <;> rw [hL] <;> omega
theorem mod_mem {L : List Nat} (hL : L.length = 10 ∨ L.length = 36) (x : Int) : (x % (L.length : Int)).toNat < L.length ∧ 0 ≤ x % (L.length : Int) := by
  rcases hL with hL | hL <;> rw [hL] <;> omega
theorem nmT1_len (L : List Nat) (c : Int) (n : Nat) : (nmT1 L c n).length = n := by unfold nmT1; rw [List.length_map, List.length_range]
theorem nmT2_len (L : List Nat) (k c : Int) (n : Nat) : (nmT2 L k c n).length = n := by unfold nmT2; rw [List.length_map, List.length_range]
theorem nameBy_ok {k c : Int} (h0 : 0 ≤ k) (h1 : k ≤ 80) : isName (nameBy k c) = true := by
  obtain ⟨hL, hnd, hsg⟩ := nmS_ok c
  unfold nameBy
  generalize nmS c = L at *
  have hn : nmNear L k c ∈ L := gat_mem (near_mem hL h0 h1).1
  have ht : nmTell L k c ∈ L := gat_mem (mod_mem hL _).1
  have t1 : ∀ n, ∀ x ∈ nmT1 L c n, x ∈ L := fun n x hx => by
    unfold nmT1 at hx
    obtain ⟨j, _, rfl⟩ := List.mem_map.mp hx
    exact gat_mem (mod_mem hL _).1
  have t2 : ∀ n, ∀ x ∈ nmT2 L k c n, x ∈ L := fun n x hx => by
    unfold nmT2 at hx
    obtain ⟨j, _, rfl⟩ := List.mem_map.mp hx
    exact gat_mem (mod_mem hL _).1
  have key : 1 ≤ (nameL L k c).length ∧ (nameL L k c).length ≤ 12 ∧ ∀ x ∈ nameL L k c, x ∈ L := by
    unfold nameL
    have m0 := mix_nonneg (c := c) (p := 10313) (m := 11) (by decide)
    have m1 := mix_lt (c := c) (p := 10313) (m := 11) (by decide)
    have a0 := mix_nonneg (c := c) (p := 10321) (m := 2 + mix c 10313 11 - 1) (by omega)
    have a1 := mix_lt (c := c) (p := 10321) (m := 2 + mix c 10313 11 - 1) (by omega)
    have b0 := mix_nonneg (c := c + k) (p := 10007) (m := 11) (by decide)
    have b1 := mix_lt (c := c + k) (p := 10007) (m := 11) (by decide)
    split
    · simp only [List.length_append, List.length_take, List.length_drop, nmT1_len, List.length_singleton]
      refine ⟨by omega, by omega, fun x hx => ?_⟩
      simp only [List.mem_append, List.mem_singleton] at hx
      rcases hx with ((hx | rfl) | rfl) | hx
      · exact t1 _ _ (List.mem_of_mem_take hx)
      · exact hn
      · exact ht
      · exact t1 _ _ (List.mem_of_mem_drop hx)
    · split
      · exact ⟨Nat.le_refl 1, (by show 1 ≤ 12; decide), fun x hx => by rw [List.mem_singleton] at hx; rw [hx]; exact ht⟩
      · have key : 1 ≤ ([nmNear L k c] ++ [nmTell L k c] ++ nmT2 L k c (mix (c + k) 10007 11).toNat).length ∧ ([nmNear L k c] ++ [nmTell L k c] ++ nmT2 L k c (mix (c + k) 10007 11).toNat).length ≤ 12 ∧ ∀ x ∈ [nmNear L k c] ++ [nmTell L k c] ++ nmT2 L k c (mix (c + k) 10007 11).toNat, x ∈ L := by
          simp only [List.length_append, nmT2_len, List.length_singleton]
          refine ⟨by omega, by omega, fun x hx => ?_⟩
          simp only [List.mem_append, List.mem_singleton] at hx
          rcases hx with (rfl | rfl) | hx
          · exact hn
          · exact ht
          · exact t2 _ _ hx
        split
        · rw [List.length_reverse]
          exact ⟨key.1, key.2.1, fun x hx => key.2.2 x (List.mem_reverse.mp hx)⟩
        · exact key
  unfold isName
  rw [SX.S_len, decide_eq_true key.1, decide_eq_true key.2.1]
  exact List.all_eq_true.mpr fun x hx => hsg x (key.2.2 x hx)
theorem pair_inj {L : List Nat} (hL : L.length = 10 ∨ L.length = 36) (nd : L.Nodup) {k k' c : Int} (h0 : 0 ≤ k) (h1 : k ≤ 80) (h0' : 0 ≤ k') (h1' : k' ≤ 80) (e1 : nmNear L k c = nmNear L k' c) (e2 : nmTell L k c = nmTell L k' c) : k = k' := by
  have n1 := near_mem (c := c) hL h0 h1
  have n2 := near_mem (c := c) hL h0' h1'
  have m1 := mod_mem hL (k + c)
  have m2 := mod_mem hL (k' + c)
  have i1 := gat_inj nd n1.2 n2.2 n1.1 n2.1 e1
  have i2 := gat_inj nd m1.2 m2.2 m1.1 m2.1 e2
  rcases hL with hL | hL <;> rw [hL] at i1 i2 <;> omega
theorem nameBy_inj {k k' c : Int} (h0 : 0 ≤ k) (h1 : k ≤ 80) (h0' : 0 ≤ k') (h1' : k' ≤ 80) (e : nameBy k c = nameBy k' c) : k = k' := by
  obtain ⟨hL, hnd, hsg⟩ := nmS_ok c
  unfold nameBy at e
  have e := SX.S_inj e
  generalize nmS c = L at *
  have two : ∀ {a b a' b' : Nat} {r r' : List Nat}, [a] ++ [b] ++ r = [a'] ++ [b'] ++ r' → a = a' ∧ b = b' := fun h => by
    simp only [List.singleton_append, List.cons_append, List.nil_append, List.cons.injEq] at h
    exact ⟨h.1, h.2.1⟩
  unfold nameL at e
  by_cases hA : mix c 10303 2 = 0
  · rw [if_pos hA, if_pos hA, List.append_assoc, List.append_assoc, List.append_assoc, List.append_assoc] at e
    have e := List.append_cancel_left e
    rw [← List.append_assoc, ← List.append_assoc] at e
    obtain ⟨a, b⟩ := two e
    exact pair_inj hL hnd h0 h1 h0' h1' a b
  rw [if_neg hA, if_neg hA] at e
  by_cases hk : k < (L.length : Int) ∧ mix (c + 3 * k) 10253 8 = 0
  · by_cases hk' : k' < (L.length : Int) ∧ mix (c + 3 * k') 10253 8 = 0
    · rw [if_pos hk, if_pos hk'] at e
      have e2 : nmTell L k c = nmTell L k' c := by injection e
      have m1 := mod_mem hL (k + c)
      have m2 := mod_mem hL (k' + c)
      have i2 := gat_inj hnd m1.2 m2.2 m1.1 m2.1 e2
      have hk1 := hk.1
      have hk2 := hk'.1
      rcases hL with hL | hL <;> rw [hL] at i2 hk1 hk2 <;> omega
    · rw [if_pos hk, if_neg hk'] at e
      have := congrArg List.length e
      by_cases hR : c / 36 % 2 = 1
      · rw [if_pos hR] at this
        simp only [List.length_append, List.length_reverse, List.length_singleton] at this
        omega
      · rw [if_neg hR] at this
        simp only [List.length_append, List.length_singleton] at this
        omega
  · by_cases hk' : k' < (L.length : Int) ∧ mix (c + 3 * k') 10253 8 = 0
    · rw [if_neg hk, if_pos hk'] at e
      have := congrArg List.length e
      by_cases hR : c / 36 % 2 = 1
      · rw [if_pos hR] at this
        simp only [List.length_append, List.length_reverse, List.length_singleton] at this
        omega
      · rw [if_neg hR] at this
        simp only [List.length_append, List.length_singleton] at this
        omega
    · rw [if_neg hk, if_neg hk'] at e
      by_cases hR : c / 36 % 2 = 1
      · rw [if_pos hR, if_pos hR] at e
        obtain ⟨a, b⟩ := two (List.reverse_inj.mp e)
        exact pair_inj hL hnd h0 h1 h0' h1' a b
      · rw [if_neg hR, if_neg hR] at e
        obtain ⟨a, b⟩ := two e
        exact pair_inj hL hnd h0 h1 h0' h1' a b
/-! ### L_rank_by -/
theorem sc_L_rank_by : FnScope ["_law_cell"] ["_law_cell"] (defScope s_L_rank_by) := ⟨rfl, rfl, rfl, by decide +kernel, rfl, by decide +kernel, by decide +kernel⟩
def rankBy (c : Int) : Int := match (mix c 10061 4).toNat with | 0 => mix c 10037 100 | 1 => 99 - mix c 10039 3 | 2 => 0 | _ => 97
theorem rankBy_ok (c : Int) : 0 ≤ rankBy c ∧ rankBy c ≤ 99 := by
  have h1 := mix_nonneg (c := c) (p := 10037) (m := 100) (by decide)
  have h2 := mix_lt (c := c) (p := 10037) (m := 100) (by decide)
  have h3 := mix_nonneg (c := c) (p := 10039) (m := 3) (by decide)
  have h4 := mix_lt (c := c) (p := 10039) (m := 3) (by decide)
  unfold rankBy
  split <;> omega
def sp_L_rank_by (_ : PySem.W.Frag) : Sp := fun vs H Q _ => ∃ (c : Int), vs = [.int c] ∧ RetV (.int (rankBy c)) H Q
theorem cv_L_rank_by {K : PySem.W.Frag} {H : Hp} {c : Int} : SpV (sp_L_rank_by K) ([.int c] ++ []) H (.int (rankBy c)) := spv_call fun _ _ _ _ k => ⟨c, rfl, k⟩
local macro_rules | `(tactic| tm_at "rr.cv") => `(tactic| exact cv_L_rank_by)
theorem ok_L_rank_by {P : Program} {w : World} {K : PySem.W.Frag} {mg : Str → Option Value} {base : Heap} (T : Txt K mg) : ∃ fd, FnOk P w K mg base (CX0) 2 (He.ga K "_law_rank_by") fd ["_law_cell"] (sp_L_rank_by K) ∧ Binds K fd ["_law_cell"] [] ∧ FunD K "_law_rank_by" "_law_rank_by" (defArgs s_L_rank_by) (defBody s_L_rank_by) (defScope s_L_rank_by) [] [] (He.ga K "_law_rank_by") fd := by
  obtain ⟨fd, F⟩ := f_L_rank_by T
  obtain ⟨d_L_mix, G_L_mix, b_L_mix, _⟩ := ok_L_mix (P := P) (w := w) (base := base) T
  refine ⟨fd, ok0 F sc_L_rank_by (fun vs H Q E h => ?_) (fun cdv A outer s H vs Q E hr h => ?_), FunD.bindsN F fun _ _ _ _ _ _ us hl => match us, hl with | [_], _ => rfl, F⟩
  · (repeat (obtain ⟨_, h⟩ := h)); subst_vars; rfl
  · obtain ⟨c, rfl, k⟩ := h
    refine ⟨_, (pss_one (ps_ret (pe_ix (ix_listK (K := K) rfl) (pe_lst (pa_cons (pe_call G_L_mix (hr.mono (by decide)) rfl (g_L_mix T) (kp_L_mix T) b_L_mix .nil pass0 (pa_cons (pv 0) (pa_cons pe_int (pa_cons pe_int pa_nil)))) (pa_cons (pe_op op_sub pe_int (pe_call G_L_mix (hr.mono (by decide)) rfl (g_L_mix T) (kp_L_mix T) b_L_mix .nil pass0 (pa_cons (pv 0) (pa_cons pe_int (pa_cons pe_int pa_nil))))) (pa_cons pe_int (pa_cons pe_int pa_nil))))) (pe_call G_L_mix (hr.mono (by decide)) rfl (g_L_mix T) (kp_L_mix T) b_L_mix .nil pass0 (pa_cons (pv 0) (pa_cons pe_int (pa_cons pe_int pa_nil)))) (fun _ _ => rfl)))), ?_⟩
    have h0 := mix_nonneg (c := c) (p := 10061) (m := 4) (by decide)
    have h4 := mix_lt (c := c) (p := 10061) (m := 4) (by decide)
    refine s_ret (v := .int (rankBy c)) ?h k
    refine' ev_opL1 (xs := [.int (mix c 10037 100), .int (99 - mix c 10039 3), .int 0, .int 97]) (el_lst ?a ?z) (fun H1 e1 => ?i) (fun p H1 h e => rv_ixL (sq_of h) ?x)
    case a => tm_at "rr.ev"
    case z => show 4 ≤ 100000; decide
    case i => tm_at "rr.ev"
    case x =>
      rw [pick4 h0 h4]
      unfold rankBy
      split <;> rfl
/-! ### is_name -/
theorem sc_is_name : FnScope ["text", "sign"] ["text"] (defScope s_is_name) := ⟨rfl, rfl, rfl, by decide +kernel, rfl, by decide +kernel, by decide +kernel⟩
def sp_is_name (_ : PySem.W.Frag) : Sp := fun vs H Q _ => ∃ (s : Str), vs = [.str s] ∧ s.length ≤ 100000 ∧ RetV (.bl (isName s)) H Q
theorem cv_is_name {K : PySem.W.Frag} {H : Hp} {s : Str} (h : s.length ≤ 100000) : SpV (sp_is_name K) ([.str s] ++ []) H (.bl (isName s)) := spv_call fun _ _ _ _ k => ⟨s, rfl, h, k⟩
local macro_rules | `(tactic| tm_at "rr.cv") => `(tactic| refine' cv_is_name ?_)
theorem ok_is_name {P : Program} {w : World} {K : PySem.W.Frag} {mg : Str → Option Value} {base : Heap} (T : Txt K mg) : ∃ fd, FnOk P w K mg base (CX0) 1 (He.ga K "is_name") fd ["text"] (sp_is_name K) ∧ Binds K fd ["text"] [] ∧ FunD K "is_name" "is_name" (defArgs s_is_name) (defBody s_is_name) (defScope s_is_name) [] [] (He.ga K "is_name") fd := by
  obtain ⟨fd, F⟩ := f_is_name T
  obtain ⟨t_SIGNS, hk_SIGNS⟩ := k_SIGNS T
  obtain ⟨t_MOST, hk_MOST⟩ := k_MOST T
  refine ⟨fd, ok0 F sc_is_name (fun vs H Q E h => ?_) (fun cdv A outer s H vs Q E hr h => ?_), FunD.bindsN F fun _ _ _ _ _ _ us hl => match us, hl with | [_], _ => rfl, F⟩
  · (repeat (obtain ⟨_, h⟩ := h)); subst_vars; rfl
  · obtain ⟨s, rfl, hz, k⟩ := h
    refine ⟨_, (pss_cons (ps_if (PW.pt (pw_or (pt_cmpR op_lt (pe_callB call_len_str rfl (b_len T) (by decide +kernel) (pa_cons (pv 0) pa_nil)) pe_int (nomark _)) (pw_or1 (pt_cmpR op_gt (pe_callB call_len_str rfl (b_len T) (by decide +kernel) (pa_cons (pv 0) pa_nil)) (pe_glob (v := .int 12) rfl hk_MOST ⟨_, rfl⟩) (nomark _))))) (pss_one (ps_ret pe_bl))
        pss_nil)
        (pss_cons (ps_for PassesOwn.never rfl (pi_str (pv 0)) (pg_name (i := 1) sc_is_name.nd rfl (Or.inl rfl))
        (pss_one (ps_if (pt_cmpR op_notIn_sign (pv 1) (pe_glob (v := .str "abcdefghijklmnopqrstuvwxyz0123456789") rfl hk_SIGNS ⟨_, rfl⟩) (by with_unfolding_all rfl)) (pss_one (ps_ret pe_bl))
        pss_nil)))
        (pss_one (ps_ret pe_bl)))), ?_⟩
    refine q_when (b := decide ((s.length : Int) < 1) || decide (12 < (s.length : Int))) ?h (fun hb H1 e1 => ?_) (fun hb H1 e1 => ?_)
    case h => exact et_or (et_test (ev_op (ev_cb (ea_cons (ev_var rfl) ea_nil) (rc_len_str (sz_of hz))) ev_c rv_I0)) fun _ => et_test (ev_op (ev_cb (ea_cons (ev_var rfl) ea_nil) (rc_len_str (sz_of hz))) ev_c rv_I0)
    · have e : isName s = false := by
        unfold isName
        rw [Bool.or_eq_true] at hb
        rcases hb with hb | hb
        · rw [decide_eq_false (by have := of_decide_eq_true hb; omega)]
          rfl
        · rw [decide_eq_false (p := s.length ≤ 12) (by have := of_decide_eq_true hb; omega), Bool.and_false]
          rfl
      rw [e] at k
      exact s_ret ev_c fun H2 e2 => k H2 (e1.trans e2)
    · rw [Bool.or_eq_false_iff] at hb
      have l1 := of_decide_eq_false hb.1
      have l2 := of_decide_eq_false hb.2
      have e : isName s = s.cps.toList.all isSign := by
        unfold isName
        rw [decide_eq_true (by omega), decide_eq_true (by omega)]
        rfl
      rw [e] at k
      refine q_forS (K := K) (x := s) (ev_var rfl) (fun i σ' H' => Ex H1 H' ∧ (∃ v, σ' = [some (.str s), v]) ∧ (s.cps.toList.take i).all isSign = true) (fun H2 e2 => ⟨e2, ⟨none, rfl⟩, rfl⟩) ?_ ?_
      · rintro i c σ' H' hc ⟨e2, ⟨v, rfl⟩, hall⟩
        refine s_when (b := !isSign c) ?h (fun hb H3 e3 => ?_) (fun hb H3 e3 => ?_)
        case h => exact et_test (ev_op (ev_var rfl) ev_c rv_notInS)
        · have e9 : s.cps.toList.all isSign = false := by
            rw [List.all_eq_false]
            exact ⟨c, List.mem_of_getElem? hc, by simpa using hb⟩
          rw [e9] at k
          exact s_ret ev_c fun H4 e4 => k H4 (((e1.trans e2).trans e3).trans e4)
        · refine ⟨e2.trans e3, ⟨_, rfl⟩, ?_⟩
          rw [List.take_succ, hc, List.all_append, hall]
          simpa using hb
      · rintro σ' H' ⟨e2, ⟨v, rfl⟩, hall⟩
        have e9 : s.cps.toList.take s.length = s.cps.toList := List.take_of_length_le (by rw [Array.length_toList]; exact Nat.le_refl _)
        rw [e9] at hall
        rw [hall] at k
        exact s_ret ev_c fun H4 e4 => k H4 ((e1.trans e2).trans e4)
/-! ### desk_names -/
theorem sc_desk_names : FnScope ["self", "caller"] ["self"] (defScope s_desk_names) := ⟨rfl, rfl, rfl, by decide +kernel, rfl, by decide +kernel, by decide +kernel⟩
def sp_desk_names (K : PySem.W.Frag) : Sp := fun vs H Q _ => ∃ (p : Addr) (d : Dk) (l : Addr) (ps : List Pr), vs = [.ref p] ∧ DkAt K H p d l ps ∧ d.line.length ≤ 1000 ∧ RetL (d.line.map fun c => V.str c.nm) H Q
theorem cv_names {K : PySem.W.Frag} {H : Hp} {p l : Addr} {d : Dk} {ps : List Pr} (h : DkAt K H p d l ps) (hz : d.line.length ≤ 1000) : SpL (sp_desk_names K) (.ref p :: ([] ++ [])) H (d.line.map fun c => V.str c.nm) := spl_call fun _ e _ _ k => ⟨p, d, l, ps, rfl, h.ex e, hz, k⟩
theorem ok_desk_names {P : Program} {w : World} {K : PySem.W.Frag} {mg : Str → Option Value} {base : Heap} (T : Txt K mg) : ∃ fd, FnOk P w K mg base (CX0) 1 (He.ma K (He.ga K "Desk") "names") fd ["self"] (sp_desk_names K) ∧ Binds K fd ["self"] [] ∧ FunD K "names" "Desk.names" (defArgs s_desk_names) (defBody s_desk_names) (defScope s_desk_names) [] [] (He.ma K (He.ga K "Desk") "names") fd := by
  obtain ⟨fd, F⟩ := f_desk_names T
  refine ⟨fd, ok0 F sc_desk_names (fun vs H Q E h => ?_) (fun cdv A outer s H vs Q E hr h => ?_), FunD.bindsN F fun _ _ _ _ _ _ us hl => match us, hl with | [_], _ => rfl, F⟩
  · (repeat (obtain ⟨_, h⟩ := h)); subst_vars; rfl
  · obtain ⟨p, d, l, ps, rfl, D, hz, k⟩ := h
    refine ⟨_, (pss_one (ps_ret (pe_lc (own := [("caller", 1)]) (g := gName 1) (tt := tYes) rfl sc_desk_names.nd (pi_listK (K := K) rfl (pe_fldK (K := K) rfl (pv 0) rfl)) (blkOk_by (own := [("caller", 1)]) (N := ["self", "caller"]) (sc := defScope s_desk_names) (by decide +kernel)) (fun _ _ _ _ _ => (pg_name (i := 1) sc_desk_names.nd rfl (Or.inl rfl))) (fun _ _ _ _ _ => pts_nil) (fun _ _ _ _ _ => (pe_fldK (K := K) rfl (pv 1) rfl))))), ?_⟩
    have e1 : (ps.filter fun _ => true).map (fun q => V.str q.2.nm) = d.line.map fun c => V.str c.nm := by
      rw [filter_true, D.eq, List.map_map]
      rfl
    rw [← e1] at k
    exact s_retL (el_lcM (K := K) (ps := ps) (uu := fun q => V.ref q.1) (fun _ => true) (fun q => V.str q.2.nm) (ev_line T (ev_var rfl) D) (sq_of D.ln) (by rw [D.len]; omega) (fun _ => rfl) (fun _ _ _ _ => et_yes) fun q hq H1 e1 _ => ev_label T (ev_var rfl) ((D.at_ q hq).ex e1)) k
/-! ### caller_init -/
theorem sc_caller_init : FnScope ["self", "label", "grade", "stand", "mark"] ["self", "label", "grade", "stand", "mark"] (defScope s_caller_init) := ⟨rfl, rfl, rfl, by decide +kernel, rfl, by decide +kernel, by decide +kernel⟩
def sp_caller_init (K : PySem.W.Frag) : Sp := fun vs H Q _ => ∃ (x dx : Addr) (a g s m : V), vs = [.ref x, a, g, s, m] ∧ H x = some (.ins (aC K) dx []) ∧ ∀ H' : Hp, H' x = some (.ins (aC K) dx (rfs a g s m)) → (∀ b o, H b = some o → b ≠ x → H' b = some o) → Q .non H'
theorem ok_caller_init {P : Program} {w : World} {K : PySem.W.Frag} {mg : Str → Option Value} {base : Heap} (T : Txt K mg) : ∃ fd, FnOk P w K mg base (CX0) 1 (He.ma K (He.ga K "Caller") "__init__") fd ["self", "label", "grade", "stand", "mark"] (sp_caller_init K) ∧ Binds K fd ["self", "label", "grade", "stand", "mark"] [] ∧ FunD K "__init__" "Caller.__init__" (defArgs s_caller_init) (defBody s_caller_init) (defScope s_caller_init) [] [] (He.ma K (He.ga K "Caller") "__init__") fd := by
  obtain ⟨fd, F⟩ := f_caller_init T
  refine ⟨fd, ok0 F sc_caller_init (fun vs H Q E h => ?_) (fun cdv A outer s H vs Q E hr h => ?_), FunD.bindsN F fun _ _ _ _ _ _ us hl => match us, hl with | [_, _, _, _, _], _ => rfl, F⟩
  · (repeat (obtain ⟨_, h⟩ := h)); subst_vars; rfl
  · obtain ⟨x, dx, a, g, s, m, rfl, hx, k⟩ := h
    refine ⟨_, (pss_cons (ps_fld (pv 0) (pv 1) rfl)
        (pss_cons (ps_fld (pv 0) (pv 2) rfl)
        (pss_cons (ps_fld (pv 0) (pv 3) rfl)
        (pss_one (ps_fld (pv 0) (pv 4) rfl))))), ?_⟩
    refine ⟨_, rfl, _, rfl, x, aC K, dx, _, rfl, hx, c_Caller T, n_Caller_label T, (by show 0 < 1000; decide), ?_⟩
    refine ⟨_, rfl, _, rfl, x, aC K, dx, _, rfl, upd_same, c_Caller T, n_Caller_grade T, (by show 1 < 1000; decide), ?_⟩
    refine ⟨_, rfl, _, rfl, x, aC K, dx, _, rfl, upd_same, c_Caller T, n_Caller_stand T, (by show 2 < 1000; decide), ?_⟩
    refine ⟨_, rfl, _, rfl, x, aC K, dx, _, rfl, upd_same, c_Caller T, n_Caller_mark T, (by show 3 < 1000; decide), ?_⟩
    rw [upd_upd, upd_upd, upd_upd]
    exact k _ upd_same fun b o e hb => by rw [upd_ne hb]; exact e
/-! ### desk_enter -/
theorem sc_desk_enter : FnScope ["self", "name", "rank"] ["self", "name", "rank"] (defScope s_desk_enter) := ⟨rfl, rfl, rfl, by decide +kernel, rfl, by decide +kernel, by decide +kernel⟩
def sp_desk_enter (K : PySem.W.Frag) : Sp := fun vs H Q E => ∃ (F : Hp) (p : Addr) (d : Dk) (nm : Str) (rk : Int), vs = [.ref p, .str nm, .int rk] ∧ DeskAt K F H p d ∧ d.Wf ∧ nm.length ≤ 100000 ∧
  (∀ e, enterErr d nm rk = some e → ∀ H', Ex H H' → E (.ref (He.ga K e)) none H') ∧ (enterErr d nm rk = none → ∀ H', DeskAt K F H' p (d.enter nm rk) → Q .non H')
theorem ok_desk_enter {P : Program} {w : World} {K : PySem.W.Frag} {mg : Str → Option Value} {base : Heap} (T : Txt K mg) : ∃ fd, FnOk P w K mg base (L2N.CX P w) 3 (He.ma K (He.ga K "Desk") "enter") fd ["self", "name", "rank"] (sp_desk_enter K) ∧ Binds K fd ["self", "name", "rank"] [] ∧ FunD K "enter" "Desk.enter" (defArgs s_desk_enter) (defBody s_desk_enter) (defScope s_desk_enter) [] [] (He.ma K (He.ga K "Desk") "enter") fd := by
  obtain ⟨fd, F⟩ := f_desk_enter T
  obtain ⟨d_is_name, G_is_name, b_is_name, _⟩ := ok_is_name (P := P) (w := w) (base := base) T
  obtain ⟨d_desk_names, G_desk_names, b_desk_names, _⟩ := ok_desk_names (P := P) (w := w) (base := base) T
  obtain ⟨d_caller_init, G_caller_init, b_caller_init, _⟩ := ok_caller_init (P := P) (w := w) (base := base) T
  obtain ⟨t_TOP, hk_TOP⟩ := k_TOP T
  refine ⟨fd, okXN F sc_desk_enter (fun vs H Q E h => ?_) (fun cdv A outer s H vs Q E hr h => ?_), FunD.bindsN F fun _ _ _ _ _ _ us hl => match us, hl with | [_, _, _], _ => rfl, F⟩
  · (repeat (obtain ⟨_, h⟩ := h)); subst_vars; rfl
  · obtain ⟨F, p, d, nm, rk, rfl, ⟨l, ps, D, f⟩, W, hz, kE, k⟩ := h
    refine ⟨_, (pss_cons (ps_if (pt_not (pt_val (pe_call G_is_name (hr.mono (by decide)) rfl (g_is_name T) (kp_is_name T) b_is_name .nil pass0 (pa_cons (pv 1) pa_nil)))) (pss_one (L2N.ps_raise rfl (L2N.takes_of rfl rfl rfl rfl) (L2N.pmk_own PySem.F.excBase_ValueError (x_NoName T).1 (g_NoName T) (x_NoName T).2.1 (raises_own (x_NoName T).2.2.1 (x_NoName T).2.2.2) rfl)))
        pss_nil)
        (pss_cons (ps_if (PW.pt (pw_or (pt_cmpR op_lt (pv 2) pe_int (nomark _)) (pw_or1 (pt_cmpR op_gt (pv 2) (pe_glob (v := .int 99) rfl hk_TOP ⟨_, rfl⟩) (nomark _))))) (pss_one (L2N.ps_raise rfl (L2N.takes_of rfl rfl rfl rfl) (L2N.pmk_own PySem.F.excBase_ValueError (x_NoRank T).1 (g_NoRank T) (x_NoRank T).2.1 (raises_own (x_NoRank T).2.2.1 (x_NoRank T).2.2.2) rfl)))
        pss_nil)
        (pss_cons (ps_if (pt_cmpR (op_inK (K := K) rfl) (pv 1) (pe_meth0 (pv 0) (c_Desk T) (m_desk_names T) G_desk_names (hr.mono (by decide)) b_desk_names .nil pass0) (by with_unfolding_all rfl)) (pss_one (L2N.ps_raise rfl (L2N.takes_of rfl rfl rfl rfl) (L2N.pmk_own PySem.F.excBase_ValueError (x_Known T).1 (g_Known T) (x_Known T).2.1 (raises_own (x_Known T).2.2.1 (x_Known T).2.2.2) rfl)))
        pss_nil)
        (pss_cons (ps_if (pt_cmpR op_ge (pe_callB (call_lenK (K := K) rfl) rfl (b_len T) (by decide +kernel) (pa_cons (pe_fldK (K := K) rfl (pv 0) rfl) pa_nil)) (pe_fldK (K := K) rfl (pv 0) rfl) (nomark _)) (pss_one (L2N.ps_raise rfl (L2N.takes_of rfl rfl rfl rfl) (L2N.pmk_own PySem.F.excBase_ValueError (x_Full T).1 (g_Full T) (x_Full T).2.1 (raises_own (x_Full T).2.2.1 (x_Full T).2.2.2) rfl)))
        pss_nil)
        (pss_one (ps_expr (pe_bm PySem.F.plainAttrs_list PySem.F.slot_list_append PySem.F.type_list_append mt_append (pe_fldK (K := K) rfl (pv 0) rfl) (pa_cons (pe_make (mk_Caller T) G_caller_init (hr.mono (by decide)) rfl (g_Caller T) b_caller_init .nil pass0 (pa_cons (pv 1) (pa_cons (pv 2) (pa_cons pe_str (pa_cons (pe_fldK (K := K) rfl (pv 0) rfl) pa_nil))))) pa_nil)))))))), ?_⟩
    unfold enterErr at kE k
    refine q_when (b := !isName nm) ?h (fun hb H1 e1 => ?_) (fun hb H1 e1 => ?_)
    case h => exact et_not (et_B (ev_call (ea_cons (ev_var rfl) ea_nil) (cv_is_name hz)))
    · exact kE _ (if_pos (by simpa using hb)) H1 e1
    have n1 : ¬ isName nm = false := by simpa using hb
    rw [if_neg n1] at k
    refine' q_when ?h (fun hb H2 e2 => ?_) (fun hb H2 e2 => ?_)
    case h => tm_at "rr.ev"
    · exact kE _ (by rw [if_neg n1, if_pos (by simpa using hb)]) H2 (e1.trans e2)
    have n2 : ¬ (rk < 0 ∨ 99 < rk) := by simpa using hb
    rw [if_neg n2] at k
    have hlen := W.len
    have D2 := D.ex (e1.trans e2)
    refine q_when (b := decide (nm ∈ d.line.map (·.nm))) ?h (fun hb H3 e3 => ?_) (fun hb H3 e3 => ?_)
    case h =>
      rw [← inV_names]
      obtain ⟨dx, hp⟩ := D2.ob
      exact et_test (ev_opL (ev_var rfl) (el_meth (ev_var rfl) hp rfl ea_nil (cv_names D2 (by omega))) fun r H1 h e => rv_isL (sq_of h) rfl (flat_names _))
    · exact kE _ (by rw [if_neg n1, if_neg n2, if_pos (of_decide_eq_true hb)]) H3 ((e1.trans e2).trans e3)
    have n3 := of_decide_eq_false hb
    rw [if_neg n3] at k
    have D3 := D2.ex e3
    have hln := D.len
    have hll : ((ps.map fun q => V.ref q.1).length : Int) = (d.line.length : Int) := by rw [List.length_map]; omega
    refine q_when (b := decide (d.room ≤ (d.line.length : Int))) ?h (fun hb H4 e4 => ?_) (fun hb H4 e4 => ?_)
    case h =>
      rw [← hll]
      exact et_test (ev_op (ev_cb (ea_cons (ev_line T (ev_var rfl) D3) ea_nil) (rc_lenS (sq_of D3.ln))) (ev_room T (ev_var rfl) D3) rv_I0)
    · exact kE _ (by rw [if_neg n1, if_neg n2, if_neg n3, if_pos (of_decide_eq_true hb)]) H4 (((e1.trans e2).trans e3).trans e4)
    have n4 := of_decide_eq_false hb
    rw [if_neg n4] at k
    have D4 := D3.ex e4
    have f4 := f.mono (((e1.trans e2).trans e3).trans e4)
    obtain ⟨dx, hp⟩ := D4.ob
    have hl := D4.ln
    refine ⟨_, rfl, p, aD K, dx, _, _, rfl, hp, c_Desk T, n_Desk_line T, rfl, .inl ⟨rfl, _, SqL.of hl⟩, ?_⟩
    refine ⟨_, rfl, _, rfl, _, rfl, p, aD K, dx, _, _, rfl, hp, c_Desk T, n_Desk_now T, rfl, fun x dc nx ndx nex => ?_⟩
    refine ⟨x, dc, _, _, _, _, rfl, upd_same, fun H5 h5 k5 => ⟨rfl, ?_⟩⟩
    have e5 : Ex H4 H5 := fun b o hb => k5 b o (by rw [upd_ne (ne_of_none hb nx), upd_ne (ne_of_none hb ndx)]; exact hb) (ne_of_none hb nx)
    refine ⟨l, _, .ref x, rfl, rfl, e5 _ _ hl, sz_lt (by rw [List.length_map]; omega), ?_⟩
    have nlx : l ≠ x := ne_of_none hl nx
    have D5 := D4.ex e5
    have f5 := f4.mono e5
    have ca : ∀ {b o}, b ≠ l → H5 b = some o → upd H5 l (.lst ((ps.map fun q => V.ref q.1) ++ [.ref x])) b = some o := fun hb ho => by rw [upd_ne hb]; exact ho
    obtain ⟨dx5, hp5⟩ := D5.ob
    have Fx : F x = none := by
      cases hF : F x with
      | none => rfl
      | some o => have := f4.ex _ _ hF; rw [nx] at this; cases this
    refine k rfl _ ⟨l, ps ++ [(x, ⟨nm, rk, .rdy d.now⟩)], ⟨⟨dx5, ca (ne_of hp5 D5.ln (by intro z; cases z)) hp5⟩, ?_, ?_, ?_⟩, ⟨fun b o hb => ca (fun e => by have := f.l0; rw [← e, hb] at this; cases this) (f5.ex _ _ hb), f.p0, f.l0, ?_⟩⟩
    · rw [upd_same, List.map_append]
      rfl
    · show d.line ++ _ = _
      rw [List.map_append, D.eq]
      rfl
    · intro q hq
      rcases List.mem_append.mp hq with hq | hq
      · obtain ⟨dq, h⟩ := D5.at_ q hq
        exact ⟨dq, ca (ne_of h D5.ln (by intro z; cases z)) h⟩
      · rw [List.mem_singleton] at hq
        rw [hq]
        exact ⟨dc, ca nlx.symm h5⟩
    · intro q hq
      rcases List.mem_append.mp hq with hq | hq
      · exact f.c0 q hq
      · rw [List.mem_singleton] at hq
        rw [hq]
        exact Fx
theorem chosen_none {d : Dk} (h : d.chosen = none) : d.able = [] := by
  unfold Dk.chosen at h
  have hf := firstIdx_is d.pace d.prs
  cases hj : firstIdx d.pace d.prs with
  | none =>
    rw [hj] at hf
    have hf : d.able.map _ = [] := hf
    exact List.map_eq_nil_iff.mp hf
  | some j =>
    rw [hj] at hf h
    have hlt : j < d.prs.length := hf.1
    have hl : d.prs.length = d.able.length := List.length_map ..
    have : d.able[j]? = none := h
    rw [List.getElem?_eq_none_iff] at this
    omega
theorem turn_none {d : Dk} (h : d.turn.1 = none) : d.able = [] := by
  unfold Dk.turn at h
  cases hc : d.chosen with
  | none => exact chosen_none hc
  | some c => rw [hc] at h; cases h
theorem turn_some {d : Dk} {nm : Str} (h : d.turn.1 = some nm) : ∃ c, d.chosen = some c ∧ c.nm = nm ∧ c ∈ d.able := by
  unfold Dk.turn at h
  cases hc : d.chosen with
  | none => rw [hc] at h; cases h
  | some c =>
    rw [hc] at h
    obtain ⟨a, b⟩ := chosen_mem hc
    exact ⟨c, rfl, Option.some.inj h, List.mem_filter.mpr ⟨a, b⟩⟩
theorem rdyAll_of : ∀ (cs : List Cl) (d : Dk) (x : Cl), x ∈ (d.rdyAll cs).line → (x ∈ d.line ∧ ∀ c ∈ cs, c.nm ≠ x.nm) ∨ ∃ c ∈ cs, x = ⟨c.nm, c.rk, .rdy d.now⟩
  | [], d, x, h => .inl ⟨h, fun c hc => by cases hc⟩
  | c :: cs, d, x, h => by
    rcases rdyAll_of cs (d.put ⟨c.nm, c.rk, .rdy d.now⟩) x h with ⟨h1, h2⟩ | ⟨c2, h1, h2⟩
    · rcases putC_mem.mp h1 with ⟨h3, h4⟩ | h3
      · refine .inl ⟨h3, fun y hy => ?_⟩
        rcases List.mem_cons.mp hy with rfl | hy
        · exact fun e => h4 e.symm
        · exact h2 y hy
      · exact .inr ⟨c, List.mem_cons_self .., h3⟩
    · exact .inr ⟨c2, List.mem_cons_of_mem _ h1, h2⟩
theorem rdyAll_len : ∀ (cs : List Cl) (d : Dk), (d.line.map (·.nm)).Nodup → (∀ c ∈ cs, ∃ c0 ∈ d.line, c0.nm = c.nm) → (d.rdyAll cs).line.length = d.line.length
  | [], _, _, _ => rfl
  | c :: cs, d, nd, h => by
    obtain ⟨c0, h0, e0⟩ := h c (List.mem_cons_self ..)
    have h1 : (putC d.line ⟨c.nm, c.rk, .rdy d.now⟩).length = d.line.length := putC_len nd h0 e0
    refine (rdyAll_len cs (d.put ⟨c.nm, c.rk, .rdy d.now⟩) (putC_nd nd) fun y hy => ?_).trans h1
    obtain ⟨y0, g0, f0⟩ := h y (List.mem_cons_of_mem _ hy)
    by_cases hn : y0.nm = c.nm
    · exact ⟨⟨c.nm, c.rk, .rdy d.now⟩, putC_mem.mpr (.inr rfl), hn.symm.trans f0⟩
    · exact ⟨y0, putC_mem.mpr (.inl ⟨g0, hn⟩), f0⟩
theorem waked_of {d : Dk} {x : Cl} (h : x ∈ d.waked.line) : (x ∈ d.line ∧ ¬ (∃ t, x.md = .slp t ∧ t ≤ d.now + 1)) ∨ ∃ c ∈ d.line, due (d.now + 1) c = true ∧ x = ⟨c.nm, c.rk, .rdy (d.now + 1)⟩ := by
  rcases rdyAll_of _ d.tick x h with ⟨h1, h2⟩ | ⟨c, h1, h2⟩
  · refine .inl ⟨h1, fun ⟨t, ht, hle⟩ => ?_⟩
    exact h2 x (List.mem_filter.mpr ⟨h1, by unfold due; rw [ht]; exact decide_eq_true hle⟩) rfl
  · obtain ⟨h3, h4⟩ := List.mem_filter.mp h1
    exact .inr ⟨c, h3, h4, h2⟩
theorem waked_ok {d : Dk} (ok : d.Ok) : d.waked.Ok ∧ d.waked.now = d.now + 1 ∧ d.waked.pace = d.pace ∧ d.waked.room = d.room := by
  obtain ⟨a, b, c⟩ := rdyAll_now (d.line.filter (due (d.now + 1))) d.tick
  have hsame : d.waked.now = d.now + 1 ∧ d.waked.pace = d.pace ∧ d.waked.room = d.room := ⟨a, b, c⟩
  have W := waked_wf ok.wf
  have n0 := ok.n0
  refine ⟨⟨by rw [hsame.2.1]; exact ok.p1, by rw [hsame.2.1]; exact ok.p2, by rw [hsame.2.2]; exact ok.r1, by rw [hsame.2.2]; exact ok.r2, by rw [hsame.1]; omega, ?_, W.nd, fun x hx => ?_⟩, hsame⟩
  · have : d.waked.line.length = d.line.length := rdyAll_len _ d.tick ok.nd fun c hc => ⟨c, (List.mem_filter.mp hc).1, rfl⟩
    rw [hsame.2.2, this]
    exact ok.len
  · rw [hsame.1]
    rcases waked_of hx with ⟨h1, h2⟩ | ⟨c, h1, h2, rfl⟩
    · obtain ⟨g1, g2, g3, g4⟩ := ok.cl x h1
      refine ⟨g1, g2, g3, ?_⟩
      cases em : x.md with
      | rdy s => rw [em] at g4; exact ⟨g4.1, by have := g4.2; omega⟩
      | slp t =>
        rw [em] at g4
        have h3 : ¬ t ≤ d.now + 1 := fun h => h2 ⟨t, em, h⟩
        exact ⟨by omega, by have := g4.2; omega⟩
      | wtg b => rw [em] at g4; exact g4
    · obtain ⟨g1, g2, g3, g4⟩ := ok.cl c h1
      exact ⟨g1, g2, g3, ⟨by omega, Int.le_refl _⟩⟩
theorem turn_same (d : Dk) : d.turn.2.now = d.now + 1 ∧ d.turn.2.pace = d.pace ∧ d.turn.2.room = d.room := by
  obtain ⟨a, b, c⟩ := rdyAll_now (d.line.filter (due (d.now + 1))) d.tick
  unfold Dk.turn
  cases d.chosen <;> exact ⟨a, b, c⟩
theorem turn_ok {d : Dk} (ok : d.Ok) : d.turn.2.Ok := by
  obtain ⟨w, hn, hp, hr⟩ := waked_ok ok
  have n0 := ok.n0
  unfold Dk.turn
  cases h : d.chosen with
  | none => exact w
  | some c =>
    obtain ⟨c', h', e'⟩ := rdyAll_nm (d.line.filter (due (d.now + 1))) d.tick c (chosen_mem h).1
    have hc := ok.cl c (chosen_mem h).1
    have W2 := w.wf.put (c := ⟨c.nm, c.rk, .rdy (d.now + 1)⟩) h' e'
    refine ⟨w.p1, w.p2, w.r1, w.r2, w.n0, ?_, W2.nd, fun x hx => ?_⟩
    · show ((putC d.waked.line _).length : Int) ≤ d.waked.room
      rw [putC_len (c := ⟨c.nm, c.rk, .rdy (d.now + 1)⟩) w.nd h' e']
      exact w.len
    · rcases putC_mem.mp hx with ⟨h1, h2⟩ | rfl
      · exact w.cl x h1
      · show ClOk d.waked.now _
        rw [hn]
        exact ⟨hc.1, hc.2.1, hc.2.2.1, by omega, Int.le_refl _⟩
theorem runN_ok {d : Dk} (ok : d.Ok) : ∀ n, (d.runN n).2.Ok ∧ (d.runN n).2.now = d.now + (n : Int) ∧ (d.runN n).2.pace = d.pace ∧ (d.runN n).2.room = d.room
  | 0 => ⟨ok, by show d.now = d.now + (0 : Int); omega, rfl, rfl⟩
  | n + 1 => by
    obtain ⟨a, b, c, e⟩ := runN_ok ok n
    obtain ⟨b', c', e'⟩ := turn_same (d.runN n).2
    refine ⟨turn_ok a, ?_, c'.trans c, e'.trans e⟩
    show (d.runN n).2.turn.2.now = _
    rw [b', b]
    omega
/-- who ran at a turn of a run -/
theorem runN_at (d : Dk) : ∀ (n i : Nat), i < n → (d.runN n).1[i]? = some (d.runN i).2.turn.1
  | 0, i, h => by omega
  | n + 1, i, h => by
    show ((d.runN n).1 ++ [(d.runN n).2.turn.1])[i]? = _
    by_cases hi : i < n
    · rw [List.getElem?_append_left (by rw [runN_len]; exact hi)]
      exact runN_at d n i hi
    · have : i = n := by omega
      subst this
      rw [List.getElem?_append_right (by rw [runN_len]; exact Nat.le_refl _), runN_len, Nat.sub_self]
      rfl
/-! ### who is chosen, and when: plain laws -/
def Dk.agd (d : Dk) (c : Cl) : Int := c.rk + (d.now - c.md.since) / d.pace
theorem prs_getD {d : Dk} {i : Nat} {c : Cl} (h : d.able[i]? = some c) : ag d.pace (d.prs.getD i (0, 0)) = d.agd c := by
  unfold Dk.prs ag Dk.agd
  rw [List.getD_eq_getElem?_getD, List.getElem?_map, h]
  rfl
theorem chosen_prio {d : Dk} {x : Cl} (h : d.chosen = some x) : ∃ j : Nat, d.able[j]? = some x ∧ ∀ (i : Nat) (c : Cl), d.able[i]? = some c → d.agd c ≤ d.agd x ∧ (i < j → d.agd c < d.agd x) := by
  unfold Dk.chosen at h
  have hf := firstIdx_is d.pace d.prs
  cases hj : firstIdx d.pace d.prs with
  | none => rw [hj] at h; cases h
  | some j =>
    rw [hj] at hf h
    have hx : d.able[j]? = some x := h
    refine ⟨j, hx, fun i c hc => ?_⟩
    have hl : d.prs.length = d.able.length := List.length_map ..
    have hi : i < d.prs.length := by rw [hl]; exact (List.getElem?_eq_some_iff.mp hc).1
    have key := hf.2 i hi
    rw [prs_getD hc, prs_getD hx] at key
    exact key
theorem turn_mem {d : Dk} {x : Cl} (h : x ∈ d.turn.2.line) : x ∈ d.waked.line ∨ ∃ c, d.chosen = some c ∧ x = ⟨c.nm, c.rk, .rdy (d.now + 1)⟩ := by
  unfold Dk.turn at h
  cases hc : d.chosen with
  | none => rw [hc] at h; exact .inl h
  | some c =>
    rw [hc] at h
    rcases putC_mem.mp h with ⟨h1, _⟩ | h1
    · exact .inl h1
    · exact .inr ⟨c, rfl, h1⟩
theorem turn_has {d : Dk} {c : Cl} (h : c ∈ d.line) : ∃ c' ∈ d.turn.2.line, c'.nm = c.nm := by
  obtain ⟨c', h', e'⟩ := rdyAll_nm (d.line.filter (due (d.now + 1))) d.tick c h
  unfold Dk.turn
  cases hc : d.chosen with
  | none => exact ⟨c', h', e'⟩
  | some x =>
    by_cases hn : c'.nm = x.nm
    · exact ⟨⟨x.nm, x.rk, .rdy (d.now + 1)⟩, putC_mem.mpr (.inr rfl), hn.symm.trans e'⟩
    · exact ⟨c', putC_mem.mpr (.inl ⟨h', hn⟩), e'⟩
theorem able_mem {d : Dk} {c : Cl} : c ∈ d.able ↔ c ∈ d.line ∧ c.md.isR = true := List.mem_filter
theorem able_put {d : Dk} (nm : Str) (rk t : Int) : (d.put ⟨nm, rk, .rdy t⟩).able = d.able.filter (fun o => !decide (o.nm = nm)) ++ [⟨nm, rk, .rdy t⟩] := by
  unfold Dk.able
  show (d.line.filter (fun o => !decide (o.nm = nm)) ++ [(⟨nm, rk, .rdy t⟩ : Cl)]).filter _ = _
  rw [List.filter_append, List.filter_filter, List.filter_filter]
  congr 1
  exact List.filter_congr fun x _ => Bool.and_comm _ _
theorem rdyAll_able : ∀ (cs : List Cl) (d : Dk), (d.line.map (·.nm)).Nodup → (∀ c ∈ cs, c ∈ d.line ∧ c.md.isR = false) → (cs.map (·.nm)).Nodup → ∃ ws, (d.rdyAll cs).able = d.able ++ ws ∧ ∀ w ∈ ws, w.md.since = d.now
  | [], d, _, _, _ => ⟨[], (List.append_nil _).symm, fun w hw => by cases hw⟩
  | c :: cs, d, nd, h, nc => by
    rw [List.map_cons, List.nodup_cons] at nc
    have hc := h c (List.mem_cons_self ..)
    obtain ⟨ws, h1, h2⟩ := rdyAll_able cs (d.put ⟨c.nm, c.rk, .rdy d.now⟩) (putC_nd nd) (fun x hx => ⟨putC_mem.mpr (.inl ⟨(h x (List.mem_cons_of_mem _ hx)).1, fun e => nc.1 (e ▸ List.mem_map.mpr ⟨x, hx, rfl⟩)⟩), (h x (List.mem_cons_of_mem _ hx)).2⟩) nc.2
    refine ⟨⟨c.nm, c.rk, .rdy d.now⟩ :: ws, ?_, fun w hw => ?_⟩
    · show ((d.put ⟨c.nm, c.rk, .rdy d.now⟩).rdyAll cs).able = _
      rw [h1, able_put, List.filter_eq_self.mpr fun x hx => ?_, List.append_assoc]
      · rfl
      · have hx := able_mem.mp hx
        have : x.nm ≠ c.nm := fun e => by
          have := nm_inj nd hx.1 hc.1 e
          rw [this, hc.2] at hx
          cases hx.2
        simp [this]
    · rcases List.mem_cons.mp hw with rfl | hw
      · rfl
      · exact h2 w hw
theorem turn_able {d : Dk} (ok : d.Ok) : ∃ ws, d.turn.2.able = d.able.filter (fun x => !decide (some x.nm = d.turn.1)) ++ ws ∧ ∀ w ∈ ws, w.md.since = d.now + 1 := by
  have hds : ∀ c ∈ d.line.filter (due (d.now + 1)), c ∈ d.tick.line ∧ c.md.isR = false := fun c hc => by
    obtain ⟨h1, h2⟩ := List.mem_filter.mp hc
    refine ⟨h1, ?_⟩
    unfold due at h2
    cases em : c.md with
    | rdy s => rw [em] at h2; cases h2
    | slp s => rfl
    | wtg s => rfl
  obtain ⟨ws, h1, h2⟩ := rdyAll_able (d.line.filter (due (d.now + 1))) d.tick ok.nd hds (filter_nodup ok.nd)
  have h1 : d.waked.able = d.able ++ ws := h1
  unfold Dk.turn
  cases h : d.chosen with
  | none =>
    refine ⟨ws, ?_, h2⟩
    show d.waked.able = _
    rw [h1, chosen_none h]
    rfl
  | some x =>
    refine ⟨ws.filter (fun o => !decide (o.nm = x.nm)) ++ [⟨x.nm, x.rk, .rdy (d.now + 1)⟩], ?_, fun w hw => ?_⟩
    · show (d.waked.put ⟨x.nm, x.rk, .rdy (d.now + 1)⟩).able = _
      rw [able_put, h1, List.filter_append, List.append_assoc]
      congr 1
      exact List.filter_congr fun o _ => by simp
    · rcases List.mem_append.mp hw with hw | hw
      · exact h2 w (List.mem_filter.mp hw).1
      · rw [List.mem_singleton] at hw
        rw [hw]
        rfl
theorem filter_lt {l : List Cl} {q : Cl → Bool} {x : Cl} (hx : x ∈ l) (hq : q x = false) : (l.filter q).length + 1 ≤ l.length := by
  induction l with
  | nil => cases hx
  | cons y l ih =>
    rw [List.filter_cons, List.length_cons]
    rcases List.mem_cons.mp hx with rfl | hx
    · rw [if_neg (by rw [hq]; decide)]
      exact Nat.succ_le_succ (List.length_filter_le _ _)
    · have := ih hx
      split
      · rw [List.length_cons]; omega
      · omega
def Sorted (L : List Cl) : Prop := L.Pairwise fun x y => x.md.since ≤ y.md.since
theorem since_le {d : Dk} (ok : d.Ok) {c : Cl} (h : c ∈ d.able) : c.md.since ≤ d.now := by
  obtain ⟨h1, h2⟩ := able_mem.mp h
  have := (ok.cl c h1).2.2.2
  cases em : c.md with
  | rdy s => rw [em] at this; exact this.2
  | slp s => rw [em] at h2; cases h2
  | wtg s => rw [em] at h2; cases h2
theorem sorted_app {L ws : List Cl} {q : Cl → Bool} {t : Int} (h : Sorted L) (hL : ∀ x ∈ L, x.md.since ≤ t) (hw : ∀ w ∈ ws, w.md.since = t) : Sorted (L.filter q ++ ws) := by
  refine List.pairwise_append.mpr ⟨h.sublist List.filter_sublist, ?_, fun x hx y hy => ?_⟩
  · clear h hL
    induction ws with
    | nil => exact List.Pairwise.nil
    | cons w ws ih =>
      refine List.Pairwise.cons (fun y hy => ?_) (ih fun z hz => hw z (List.mem_cons_of_mem _ hz))
      rw [hw w (List.mem_cons_self ..), hw y (List.mem_cons_of_mem _ hy)]
      exact Int.le_refl _
  · rw [hw y hy]
    exact hL x (List.mem_filter.mp hx).1
/-- who came later stands behind -/
theorem sorted_ix {L : List Cl} (h : Sorted L) {i j : Nat} {x y : Cl} (hi : L[i]? = some x) (hj : L[j]? = some y) (hl : x.md.since < y.md.since) : i < j := by
  obtain ⟨hi1, hi2⟩ := List.getElem?_eq_some_iff.mp hi
  obtain ⟨hj1, hj2⟩ := List.getElem?_eq_some_iff.mp hj
  rcases Nat.lt_trichotomy i j with c | c | c
  · exact c
  · subst c
    rw [hi2] at hj2
    rw [hj2] at hl
    omega
  · have := List.pairwise_iff_getElem.mp h j i hj1 hi1 c
    rw [hi2, hj2] at this
    omega
theorem sorted_turn {d : Dk} (ok : d.Ok) (h : Sorted d.able) : Sorted d.turn.2.able := by
  obtain ⟨ws, h1, h2⟩ := turn_able ok
  rw [h1]
  exact sorted_app h (fun x hx => by have := since_le ok hx; omega) h2
/-! ### several that entered at one time -/
def entD (pa ro no : Int) (f : Nat → Str) (g : Nat → Int) (i : Nat) : Dk := ⟨pa, ro, no, (List.range i).map fun k => ⟨f k, g k, .rdy no⟩⟩
section
variable {pa ro no : Int} {f : Nat → Str} {g : Nat → Int} {i : Nat}
theorem entD_step : (entD pa ro no f g i).enter (f i) (g i) = entD pa ro no f g (i + 1) := by
  unfold entD Dk.enter
  rw [List.range_succ, List.map_append]
  rfl
theorem entD_nms : (entD pa ro no f g i).line.map (·.nm) = (List.range i).map f := by
  show ((List.range i).map _).map _ = _
  rw [List.map_map]
  rfl
theorem nodup_map_range {α : Type} {f : Nat → α} {n : Nat} (h : ∀ j k, j < n → k < n → f j = f k → j = k) : ((List.range n).map f).Nodup := by
  refine List.pairwise_iff_getElem.mpr fun j k hj hk hjk e => ?_
  rw [List.length_map, List.length_range] at hj hk
  rw [List.getElem_map, List.getElem_map, List.getElem_range, List.getElem_range] at e
  have := h j k hj hk e
  omega
theorem entD_ok (p1 : 1 ≤ pa) (p2 : pa ≤ 1000) (r1 : 1 ≤ ro) (r2 : ro ≤ 60) (n0 : 0 ≤ no) (hi : (i : Int) ≤ ro) (hf : ∀ k, k < i → isName (f k) = true) (hg : ∀ k, k < i → 0 ≤ g k ∧ g k ≤ 99) (inj : ∀ j k, j < i → k < i → f j = f k → j = k) : (entD pa ro no f g i).Ok := by
  refine ⟨p1, p2, r1, r2, n0, ?_, ?_, fun c hc => ?_⟩
  · show (((List.range i).map _).length : Int) ≤ ro
    rw [List.length_map, List.length_range]
    exact hi
  · rw [entD_nms]
    exact nodup_map_range inj
  · obtain ⟨k, hk, rfl⟩ := List.mem_map.mp hc
    rw [List.mem_range] at hk
    exact ⟨hf k hk, (hg k hk).1, (hg k hk).2, n0, Int.le_refl _⟩
theorem entD_err (hi : (i : Int) < ro) (hf : isName (f i) = true) (hg : 0 ≤ g i ∧ g i ≤ 99) (inj : ∀ j, j < i → f j ≠ f i) : enterErr (entD pa ro no f g i) (f i) (g i) = none := by
  unfold enterErr
  rw [if_neg (by rw [hf]; decide), if_neg (by omega), if_neg ?_, if_neg ?_]
  · show ¬ ro ≤ (((List.range i).map _).length : Int)
    rw [List.length_map, List.length_range]
    omega
  · rw [entD_nms]
    intro h
    obtain ⟨j, hj, e⟩ := List.mem_map.mp h
    exact inj j (List.mem_range.mp hj) e
end
theorem nd_ix {α : Type} {l : List α} (nd : l.Nodup) {i j : Nat} {x : α} (hi : l[i]? = some x) (hj : l[j]? = some x) : i = j := by
  obtain ⟨h1, e1⟩ := List.getElem?_eq_some_iff.mp hi
  obtain ⟨h2, e2⟩ := List.getElem?_eq_some_iff.mp hj
  have key := List.pairwise_iff_getElem.mp nd
  rcases Nat.lt_trichotomy i j with h | h | h
  · exact absurd (e1.trans e2.symm) (key i j h1 h2 h)
  · exact h
  · exact absurd (e2.trans e1.symm) (key j i h2 h1 h)
theorem decI (a b : Int) : decide (V.int a = V.int b) = decide (a = b) := decide_eq_decide.mpr ⟨fun h => by cases h; rfl, fun h => by rw [h]⟩
theorem given_all (n : Nat) (v : Nat → V) : given n (fun _ => true) v = (List.range n).map v := by
  unfold given
  rw [filter_true]
/-- a pick of a written list -/
theorem pick_all {xs : List Int} {i : Int} {P : Int → Prop} (h0 : 0 ≤ i) (h1 : i < (xs.length : Int)) (h : ∀ x ∈ xs, P x) : ∃ v, P v ∧ atI (xs.map V.int) i = some (.int v) := by
  have hl : i.toNat < xs.length := by omega
  refine ⟨xs[i.toNat], h _ (List.getElem_mem hl), at_of (j := i.toNat) (by omega) ?_⟩
  rw [List.getElem?_map, List.getElem?_eq_getElem hl]
  rfl
/-! ### L_texts -/
theorem sc_L_texts : FnScope ["_law_found", "_law_due", "_law_k"] ["_law_found", "_law_due"] (defScope s_L_texts) := ⟨rfl, rfl, rfl, by decide +kernel, rfl, by decide +kernel, by decide +kernel⟩
theorem ev_callLL {σ : L2.St} {H : Hp} {ta tb : TE} {sp : Sp} {E : XK} {xs ys : List V} {z : V} (h1 : EvL ta σ H xs) (h2 : EvL tb σ H ys) (hs : ∀ p q H1, Ex H H1 → H1 p = some (.lst xs) → H1 q = some (.lst ys) → SpV sp ([.ref p, .ref q] ++ []) H1 z) : Ev (tCall sp [] E (tCons ta (tCons tb tNil))) σ H z := fun H1 e Q k =>
  h1 H1 e _ fun p H2 hp e2 hp2 => h2 H2 (e.trans e2) _ fun q H3 hq e3 hq3 => hs p q H3 ((e.trans e2).trans e3) (e3 _ _ hp2) hq3 H3 (Ex.refl H3) Q (fun H4 e4 => k H4 ((e2.trans e3).trans e4)) E
theorem rc_isi_str {K : PySem.W.Frag} {H : Hp} {s : Str} : RC (rIsi K) [.str s, .ty "str"] H (.bl true) := rc_isi (t' := .non) (.ty _) (fun H1 e => .base (.str s)) (kit_ty (by decide +kernel))
def sp_L_texts (_ : PySem.W.Frag) : Sp := fun vs H Q _ => ∃ (a b : Addr) (xs : List (Option Str)), vs = [.ref a, .ref b] ∧ H a = some (.lst (xs.map optS)) ∧ H b = some (.lst (xs.map optS)) ∧ xs.length ≤ 1000 ∧ RetV (.bl true) H Q
theorem ok_L_texts {P : Program} {w : World} {K : PySem.W.Frag} {mg : Str → Option Value} {base : Heap} (T : Txt K mg) : ∃ fd, FnOk P w K mg base (CX0) 1 (He.ga K "_law_texts") fd ["_law_found", "_law_due"] (sp_L_texts K) ∧ Binds K fd ["_law_found", "_law_due"] [] ∧ FunD K "_law_texts" "_law_texts" (defArgs s_L_texts) (defBody s_L_texts) (defScope s_L_texts) [] [] (He.ga K "_law_texts") fd := by
  obtain ⟨fd, F⟩ := f_L_texts T
  refine ⟨fd, ok0 F sc_L_texts (fun vs H Q E h => ?_) (fun cdv A outer s H vs Q E hr h => ?_), FunD.bindsN F fun _ _ _ _ _ _ us hl => match us, hl with | [_, _], _ => rfl, F⟩
  · (repeat (obtain ⟨_, h⟩ := h)); subst_vars; rfl
  · obtain ⟨a, b, xs, rfl, ha, hb0, hz, k⟩ := h
    refine ⟨_, (pss_cons (ps_if (PW.pt (pw_or (pt_not (pt_val (pe_callB (call_isiK' (K := K) rfl) rfl (b_isinstance T) (by decide +kernel) (pa_cons (pv 0) (pa_cons (pe_bltn (v := .ty "list") rfl (b_list T) (by decide +kernel) rfl) pa_nil))))) (pw_or1 (pt_cmpR op_ne (pe_callB (call_lenK (K := K) rfl) rfl (b_len T) (by decide +kernel) (pa_cons (pv 0) pa_nil)) (pe_callB (call_lenK (K := K) rfl) rfl (b_len T) (by decide +kernel) (pa_cons (pv 1) pa_nil)) (nomark _))))) (pss_one (ps_ret pe_bl))
        pss_nil)
        (pss_cons (ps_for PassesOwn.never rfl (pi_range1 rfl (b_range T) (pa_cons (pe_callB (call_lenK (K := K) rfl) rfl (b_len T) (by decide +kernel) (pa_cons (pv 1) pa_nil)) pa_nil)) (pg_name (i := 2) sc_L_texts.nd rfl (Or.inl rfl))
        (pss_one (ps_if (pt_cmpR op_isN (pe_ix (ix_listK (K := K) rfl) (pv 1) (pv 2) (fun _ _ => rfl)) pe_non (nomark _)) (pss_one (ps_if (pt_cmpR op_notN (pe_ix (ix_listK (K := K) rfl) (pv 0) (pv 2) (fun _ _ => rfl)) pe_non (nomark _)) (pss_one (ps_ret pe_bl))
        pss_nil))
        (pss_one (ps_if (PW.pt (pw_or (pt_not (pt_val (pe_callB (call_isiK' (K := K) rfl) rfl (b_isinstance T) (by decide +kernel) (pa_cons (pe_ix (ix_listK (K := K) rfl) (pv 0) (pv 2) (fun _ _ => rfl)) (pa_cons (pe_bltn (v := .ty "str") rfl (b_str T) (by decide +kernel) rfl) pa_nil))))) (pw_or1 (pt_cmpR op_ne (pe_ix (ix_listK (K := K) rfl) (pv 0) (pv 2) (fun _ _ => rfl)) (pe_ix (ix_listK (K := K) rfl) (pv 1) (pv 2) (fun _ _ => rfl)) (nomark _))))) (pss_one (ps_ret pe_bl))
        pss_nil)))))
        (pss_one (ps_ret pe_bl)))), ?_⟩
    have la : ((xs.map optS).length : Int) = (xs.length : Int) := by rw [List.length_map]
    refine q_when (b := false) ?h1 (fun hb H4 e4 => by cases hb) (fun hb H1 e1 => ?_)
    case h1 =>
      refine et_is (et_or (a := false) (b := false) (et_is (et_not (et_B (ev_cb (ea_cons (ev_var rfl) (ea_cons ev_c ea_nil)) (rc_isi_list ha)))) rfl) fun _ => et_is (et_test (ev_op (ev_cb (ea_cons (ev_var rfl) ea_nil) (rc_lenS (sq_of ha))) (ev_cb (ea_cons (ev_var rfl) ea_nil) (rc_lenS (sq_of hb0))) (rv_ne rfl))) (by simp)) rfl
    refine q_forR1 (n := ((xs.map optS).length : Int)) (ea_cons (ev_cb (ea_cons (ev_var rfl) ea_nil) (rc_lenS (sq_of (e1 _ _ hb0)))) ea_nil) (by rw [la]; omega)
      (fun i σ' H' => Ex H H' ∧ ∃ v, σ' = [some (.ref a), some (.ref b), v]) (fun H2 e2 => ⟨e1.trans e2, none, rfl⟩) ?_ ?_
    · rintro i σ' H' hi ⟨e2, v, rfl⟩
      rw [la] at hi
      obtain ⟨x, hx⟩ : ∃ x, xs[i]? = some x := ⟨_, List.getElem?_eq_getElem (by omega)⟩
      have hat : atI (xs.map optS) (i : Int) = some (optS x) := at_of rfl (by rw [List.getElem?_map, hx]; rfl)
      have fa : ∀ {H3}, Ex H' H3 → Ev (tOp (rIxL K) (tVar 0) (tVar 2)) [some (.ref a), some (.ref b), some (.int (i : Int))] H3 (optS x) := fun e => ev_op (ev_var rfl) (ev_var rfl) (rv_ixL (sq_of ((e2.trans e) _ _ ha)) hat)
      have fb : ∀ {H3}, Ex H' H3 → Ev (tOp (rIxL K) (tVar 1) (tVar 2)) [some (.ref a), some (.ref b), some (.int (i : Int))] H3 (optS x) := fun e => ev_op (ev_var rfl) (ev_var rfl) (rv_ixL (sq_of ((e2.trans e) _ _ hb0)) hat)
      cases x with
      | none =>
        refine s_if (b := true) (et_is (et_test (ev_op (fb (Ex.refl _)) ev_c rv_isN)) rfl) (fun _ H3 e3 => ?_) (fun h => by cases h)
        exact s_when (b := false) (et_is (et_test (ev_op (fa e3) ev_c rv_notN)) rfl) (fun h => by cases h) (fun _ H4 e4 => ⟨e2.trans (e3.trans e4), _, rfl⟩)
      | some s =>
        refine s_if (b := false) (et_is (et_test (ev_op (fb (Ex.refl _)) ev_c rv_isN)) rfl) (fun h => by cases h) (fun _ H3 e3 => ?_)
        refine s_when (b := false) (et_is (et_or (a := false) (b := false) (et_is (et_not (et_B (ev_cb (ea_cons (fa e3) (ea_cons ev_c ea_nil)) rc_isi_str))) rfl) fun _ => et_is (et_test (ev_op (fa e3) (fb e3) (rv_ne rfl))) (by simp)) rfl) (fun h => by cases h) (fun _ H4 e4 => ⟨e2.trans (e3.trans e4), _, rfl⟩)
    · rintro σ' H' ⟨e2, v, rfl⟩
      exact s_ret ev_c fun H3 e3 => k H3 (e2.trans e3)
/-! ### desk_those -/
theorem sc_desk_those : FnScope ["self", "stand", "caller"] ["self", "stand"] (defScope s_desk_those) := ⟨rfl, rfl, rfl, by decide +kernel, rfl, by decide +kernel, by decide +kernel⟩
def sp_desk_those (K : PySem.W.Frag) : Sp := fun vs H Q _ => ∃ (p : Addr) (d : Dk) (l : Addr) (ps : List Pr) (s : Str), vs = [.ref p, .str s] ∧ DkAt K H p d l ps ∧ ps.length ≤ 1000 ∧ RetL ((ps.filter fun q => decide (q.2.md.st = s)).map fun q => V.ref q.1) H Q
theorem cv_those {K : PySem.W.Frag} {H : Hp} {p l : Addr} {d : Dk} {ps : List Pr} {s : Str} (h : DkAt K H p d l ps) (hz : ps.length ≤ 1000) : SpL (sp_desk_those K) (.ref p :: ([.str s] ++ [])) H ((ps.filter fun q => decide (q.2.md.st = s)).map fun q => V.ref q.1) := spl_call fun _ e _ _ k => ⟨p, d, l, ps, s, rfl, h.ex e, hz, k⟩
theorem ok_desk_those {P : Program} {w : World} {K : PySem.W.Frag} {mg : Str → Option Value} {base : Heap} (T : Txt K mg) : ∃ fd, FnOk P w K mg base (CX0) 1 (He.ma K (He.ga K "Desk") "those") fd ["self", "stand"] (sp_desk_those K) ∧ Binds K fd ["self", "stand"] [] ∧ FunD K "those" "Desk.those" (defArgs s_desk_those) (defBody s_desk_those) (defScope s_desk_those) [] [] (He.ma K (He.ga K "Desk") "those") fd := by
  obtain ⟨fd, F⟩ := f_desk_those T
  refine ⟨fd, ok0 F sc_desk_those (fun vs H Q E h => ?_) (fun cdv A outer s H vs Q E hr h => ?_), FunD.bindsN F fun _ _ _ _ _ _ us hl => match us, hl with | [_, _], _ => rfl, F⟩
  · (repeat (obtain ⟨_, h⟩ := h)); subst_vars; rfl
  · obtain ⟨p, d, l, ps, s, rfl, D, hz, k⟩ := h
    refine ⟨_, (pss_one (ps_ret (pe_lc (own := [("caller", 2)]) (g := gName 2) rfl sc_desk_those.nd (pi_listK (K := K) rfl (pe_fldK (K := K) rfl (pv 0) rfl)) (blkOk_by (own := [("caller", 2)]) (N := ["self", "stand", "caller"]) (sc := defScope s_desk_those) (by decide +kernel)) (fun _ _ _ _ _ => (pg_name (i := 2) sc_desk_those.nd rfl (Or.inl rfl))) (fun _ _ _ _ _ => pts_one (pt_cmpR op_eq (pe_fldK (K := K) rfl (pv 2) rfl) (pv 1) (nomark _))) (fun _ _ _ _ _ => (pv 2))))), ?_⟩
    refine s_retL (el_lcM (K := K) (ps := ps) (uu := fun q => V.ref q.1) (fun q => decide (q.2.md.st = s)) (fun q => V.ref q.1) (ev_line T (ev_var rfl) D) (sq_of D.ln) (by omega) (fun _ => rfl) (fun q hq H1 e1 => ?_) fun q hq H1 e1 _ => ev_var rfl) k
    rw [← decV]
    exact et_test (ev_op (ev_stand T (ev_var rfl) ((D.at_ q hq).ex e1)) (ev_var rfl) (rv_eq rfl))
/-! ### desk_become -/
theorem sc_desk_become : FnScope ["self", "caller", "stand", "mark", "other"] ["self", "caller", "stand", "mark"] (defScope s_desk_become) := ⟨rfl, rfl, rfl, by decide +kernel, rfl, by decide +kernel, by decide +kernel⟩
theorem ev_lab {K : PySem.W.Frag} {mg : Str → Option Value} {σ : L2.St} {H : Hp} {ta : TE} {a : Addr} {nm : Str} (T : Txt K mg) (h : Ev ta σ H (.ref a)) (C : ∃ dx g s m, H a = some (.ins (aC K) dx (rfs (.str nm) g s m))) : Ev (tFld K ta "label") σ H (.str nm) := by
  obtain ⟨dx, g, s, m, C⟩ := C
  exact ev_fld h C (c_Caller T) (n_Caller_label T) rfl
def sp_desk_become (K : PySem.W.Frag) : Sp := fun vs H Q _ => ∃ (F : Hp) (p : Addr) (d : Dk) (l : Addr) (ps : List Pr) (q : Pr) (md : Md), vs = [.ref p, .ref q.1, .str md.st, md.mark] ∧ DkAt K H p d l ps ∧ Fr F H p l ps ∧ q ∈ ps ∧ d.Wf ∧
  ∀ (H' : Hp) (l' : Addr), DkAt K H' p (d.put ⟨q.2.nm, q.2.rk, md⟩) l' (putP ps (q.1, ⟨q.2.nm, q.2.rk, md⟩)) → Fr F H' p l' (putP ps (q.1, ⟨q.2.nm, q.2.rk, md⟩)) → Q .non H'
theorem ok_desk_become {P : Program} {w : World} {K : PySem.W.Frag} {mg : Str → Option Value} {base : Heap} (T : Txt K mg) : ∃ fd, FnOk P w K mg base (CX0) 1 (He.ma K (He.ga K "Desk") "become") fd ["self", "caller", "stand", "mark"] (sp_desk_become K) ∧ Binds K fd ["self", "caller", "stand", "mark"] [] ∧ FunD K "become" "Desk.become" (defArgs s_desk_become) (defBody s_desk_become) (defScope s_desk_become) [] [] (He.ma K (He.ga K "Desk") "become") fd := by
  obtain ⟨fd, F⟩ := f_desk_become T
  refine ⟨fd, ok0 F sc_desk_become (fun vs H Q E h => ?_) (fun cdv A outer s H vs Q E hr h => ?_), FunD.bindsN F fun _ _ _ _ _ _ us hl => match us, hl with | [_, _, _, _], _ => rfl, F⟩
  · (repeat (obtain ⟨_, h⟩ := h)); subst_vars; rfl
  · obtain ⟨F, p, d, l, ps, q, md, rfl, D, f, hq, W, k⟩ := h
    refine ⟨_, (pss_cons (ps_fld (pv 1) (pv 2) rfl)
        (pss_cons (ps_fld (pv 1) (pv 3) rfl)
        (pss_one (ps_fld (pv 0) (pe_op op_cat (pe_lc (own := [("other", 4)]) (g := gName 4) rfl sc_desk_become.nd (pi_listK (K := K) rfl (pe_fldK (K := K) rfl (pv 0) rfl)) (blkOk_by (own := [("other", 4)]) (N := ["self", "caller", "stand", "mark", "other"]) (sc := defScope s_desk_become) (by decide +kernel)) (fun _ _ _ _ _ => (pg_name (i := 4) sc_desk_become.nd rfl (Or.inl rfl))) (fun _ _ _ _ _ => pts_one (pt_cmpR op_ne (pe_fldK (K := K) rfl (pv 4) rfl) (pe_fldK (K := K) rfl (pv 1) rfl) (nomark _))) (fun _ _ _ _ _ => (pv 4))) (pe_lst (pa_cons (pv 1) pa_nil))) rfl)))), ?_⟩
    obtain ⟨dx, hc⟩ := D.at_ q hq
    obtain ⟨dd, hp⟩ := D.ob
    have hl := D.ln
    have npa : p ≠ q.1 := ne_of hp hc ins_ne
    have nla : l ≠ q.1 := ne_of hl hc (by intro z; cases z)
    have nlp : l ≠ p := ne_of hl hp (by intro z; cases z)
    refine ⟨_, rfl, _, rfl, q.1, aC K, dx, _, rfl, hc, c_Caller T, n_Caller_stand T, (by show 4 < 1000; decide), ?_⟩
    refine ⟨_, rfl, _, rfl, q.1, aC K, dx, _, rfl, upd_same, c_Caller T, n_Caller_mark T, (by show 4 < 1000; decide), ?_⟩
    rw [upd_upd]
    obtain ⟨c', ec'⟩ : ∃ c' : Cl, c' = ⟨q.2.nm, q.2.rk, md⟩ := ⟨_, rfl⟩
    have eP : putF "mark" md.mark (putF "stand" (.str md.st) (cfs q.2)) = cfs ⟨q.2.nm, q.2.rk, md⟩ := rfl
    rw [eP, ← ec']
    rw [← ec'] at k
    dsimp only
    have nmc : c'.nm = q.2.nm := by rw [ec']
    have nd := D.nd W.nd
    have hp2 : upd H q.1 (.ins (aC K) dx (cfs c')) p = some (.ins (aD K) dd (dfs d l)) := by rw [upd_ne npa]; exact hp
    have hl2 : upd H q.1 (.ins (aC K) dx (cfs c')) l = some (.lst (ps.map fun q => V.ref q.1)) := by rw [upd_ne nla]; exact hl
    have hoth : ∀ r ∈ ps, r.2.nm ≠ q.2.nm → CAt K (upd H q.1 (.ins (aC K) dx (cfs c'))) r.1 r.2 := fun r hr hn => by
      obtain ⟨dr, h⟩ := D.at_ r hr
      exact ⟨dr, by rw [upd_ne (fun e => hn (D.mem_nm hr hq e))]; exact h⟩
    have hlab : ∀ r ∈ ps, ∃ dx' g s m, upd H q.1 (.ins (aC K) dx (cfs c')) r.1 = some (.ins (aC K) dx' (rfs (.str r.2.nm) g s m)) := fun r hr => by
      by_cases e : r.2.nm = q.2.nm
      · have : r = q := nodup_pr nd hr hq e
        rw [this]
        exact ⟨dx, .int c'.rk, .str c'.md.st, c'.md.mark, by rw [upd_same, cfs, nmc]⟩
      · obtain ⟨dr, h⟩ := hoth r hr e
        exact ⟨dr, _, _, _, h⟩
    refine s_fldL (xs := ((ps.filter fun o => !decide (o.2.nm = c'.nm)).map fun o => V.ref o.1) ++ [.ref q.1]) ?h (ev_var rfl) hp2 (c_Desk T) (n_Desk_line T) (by show 4 < 1000; decide) fun r H3 hr e3 h3 => ?_
    case h =>
      have hlen := D.len
      have hW := W.len
      refine el_cat (el_lcM (K := K) (ps := ps) (uu := fun q => V.ref q.1) (fun o => !decide (o.2.nm = c'.nm)) (fun o => V.ref o.1) (ev_fld (ev_var rfl) hp2 (c_Desk T) (n_Desk_line T) rfl) (sq_of hl2) (by omega) (fun _ => rfl) (fun o ho H1 e1 => ?_) fun o ho H1 e1 _ => ev_var rfl) (el_lst (ea_cons (ev_var rfl) ea_nil) (by show 1 ≤ 100000; decide)) ?_
      · rw [← decV, nmc]
        obtain ⟨d1, g1, s1, m1, h1⟩ := hlab o ho
        obtain ⟨d2, g2, s2, m2, h2⟩ := hlab q hq
        exact et_test (ev_op (ev_lab T (ev_var rfl) ⟨d1, g1, s1, m1, e1 _ _ h1⟩) (ev_lab T (ev_var rfl) ⟨d2, g2, s2, m2, e1 _ _ h2⟩) (rv_ne rfl))
      · rw [List.length_map]
        have := List.length_filter_le (fun o : Pr => !decide (o.2.nm = c'.nm)) ps
        show _ + 1 ≤ 100000
        omega
    have nrp : r ≠ p := fun e => by rw [e] at hr; rw [hp2] at hr; cases hr
    have Frr : F r = none := by
      cases hF : F r with
      | none => rfl
      | some o =>
        have := f.ex _ _ hF
        rw [upd_ne (fun e => by have := f.c0 q hq; rw [← e, hF] at this; cases this), this] at hr
        cases hr
    have ca : ∀ {b o}, b ≠ p → upd H q.1 (.ins (aC K) dx (cfs c')) b = some o → upd H3 p (.ins (aD K) dd (putF "line" (.ref r) (dfs d l))) b = some o := fun hb ho => by rw [upd_ne hb]; exact e3 _ _ ho
    refine k _ r ⟨⟨dd, upd_same⟩, ?_, ?_, ?_⟩ ⟨fun b o hb => ?_, f.p0, Frr, ?_⟩
    · rw [upd_ne nrp, h3, putP, List.map_append]
      rfl
    · show putC d.line c' = _
      rw [putP_line, D.eq]
    · intro o ho
      rcases List.mem_append.mp ho with ho | ho
      · obtain ⟨h1, h2⟩ := List.mem_filter.mp ho
        have h2 : o.2.nm ≠ c'.nm := by simpa using h2
        rw [nmc] at h2
        obtain ⟨dr, h⟩ := hoth o h1 h2
        refine ⟨dr, ca (fun e => ?_) h⟩
        obtain ⟨dz, hz⟩ := D.at_ o h1
        rw [e, hp] at hz
        exact ins_ne (Option.some.inj hz)
      · rw [List.mem_singleton] at ho
        rw [ho]
        exact ⟨dx, ca npa.symm upd_same⟩
    · refine ca (fun e => by have := f.p0; rw [← e, hb] at this; cases this) ?_
      rw [upd_ne (fun e => by have := f.c0 q hq; rw [← e, hb] at this; cases this)]
      exact f.ex _ _ hb
    · intro o ho
      rcases List.mem_append.mp ho with ho | ho
      · exact f.c0 o (List.mem_filter.mp ho).1
      · rw [List.mem_singleton] at ho
        rw [ho]
        exact f.c0 q hq
/-! ### desk_ring -/
theorem sc_desk_ring : FnScope ["self", "bell", "found", "caller"] ["self", "bell"] (defScope s_desk_ring) := ⟨rfl, rfl, rfl, by decide +kernel, rfl, by decide +kernel, by decide +kernel⟩
/-- the ones at fs are made ready, in turn: behind i of them -/
structure Woken (K : PySem.W.Frag) (F H : Hp) (p : Addr) (d : Dk) (fs : List Pr) (i : Nat) : Prop where
  wf : (d.rdyAll ((fs.take i).map (·.2))).Wf
  at_ : ∃ l ps, DkAt K H p (d.rdyAll ((fs.take i).map (·.2))) l ps ∧ Fr F H p l ps ∧ (∀ r ∈ fs.drop i, r ∈ ps) ∧ ∀ r ∈ fs.take i, (r.1, (⟨r.2.nm, r.2.rk, .rdy d.now⟩ : Cl)) ∈ ps
theorem Woken.ex {K : PySem.W.Frag} {F H H' : Hp} {p : Addr} {d : Dk} {fs : List Pr} {i : Nat} (h : Woken K F H p d fs i) (e : Ex H H') : Woken K F H' p d fs i := ⟨h.wf, let ⟨l, ps, a, b, c⟩ := h.at_; ⟨l, ps, a.ex e, b.mono e, c⟩⟩
theorem Woken.next {K : PySem.W.Frag} {F H H' : Hp} {p l l' : Addr} {d : Dk} {fs ps : List Pr} {i : Nat} {q : Pr} (nd : (fs.map fun q => q.2.nm).Nodup) (hq : fs[i]? = some q) (w : (d.rdyAll ((fs.take i).map (·.2))).Wf)
    (D : DkAt K H p (d.rdyAll ((fs.take i).map (·.2))) l ps) (h1 : ∀ r ∈ fs.drop i, r ∈ ps) (h2 : ∀ r ∈ fs.take i, (r.1, (⟨r.2.nm, r.2.rk, .rdy d.now⟩ : Cl)) ∈ ps)
    (D' : DkAt K H' p ((d.rdyAll ((fs.take i).map (·.2))).put ⟨q.2.nm, q.2.rk, .rdy d.now⟩) l' (putP ps (q.1, ⟨q.2.nm, q.2.rk, .rdy d.now⟩))) (f' : Fr F H' p l' (putP ps (q.1, ⟨q.2.nm, q.2.rk, .rdy d.now⟩))) : Woken K F H' p d fs (i + 1) := by
  have hlt : i < fs.length := (List.getElem?_eq_some_iff.mp hq).1
  have hgt : fs[i] = q := (List.getElem?_eq_some_iff.mp hq).2
  have e1 : fs.take (i + 1) = fs.take i ++ [q] := by rw [List.take_succ, hq]; rfl
  have hqd : q ∈ fs.drop i := by rw [List.drop_eq_getElem_cons hlt, hgt]; exact List.mem_cons_self
  have hqp := h1 q hqd
  have e2 : d.rdyAll ((fs.take (i + 1)).map (·.2)) = (d.rdyAll ((fs.take i).map (·.2))).put ⟨q.2.nm, q.2.rk, .rdy d.now⟩ := by
    rw [e1, List.map_append]
    show d.rdyAll (_ ++ [q.2]) = _
    rw [rdyAll_snoc, (rdyAll_now _ _).1]
  have hin : q.2 ∈ (d.rdyAll ((fs.take i).map (·.2))).line := by rw [D.eq]; exact List.mem_map.mpr ⟨q, hqp, rfl⟩
  have ndd : ((fs.take i ++ fs.drop i).map fun q => q.2.nm).Nodup := by rw [List.take_append_drop]; exact nd
  rw [List.map_append, List.nodup_append] at ndd
  refine ⟨by rw [e2]; exact w.put hin rfl, l', _, by rw [e2]; exact D', f', fun r hr => ?_, fun r hr => ?_⟩
  · have hd : fs.drop i = q :: fs.drop (i + 1) := by rw [List.drop_eq_getElem_cons hlt, hgt]
    refine putP_mem (h1 r (by rw [hd]; exact List.mem_cons_of_mem _ hr)) fun e => ?_
    have := ndd.2.1
    rw [hd, List.map_cons, List.nodup_cons] at this
    exact this.1 (List.mem_map.mpr ⟨r, hr, e⟩)
  · rw [e1] at hr
    rcases List.mem_append.mp hr with hr | hr
    · exact putP_mem (h2 r hr) fun e => ndd.2.2 _ (List.mem_map.mpr ⟨r, hr, rfl⟩) _ (List.mem_map.mpr ⟨q, hqd, rfl⟩) e
    · rw [List.mem_singleton] at hr
      rw [hr]
      exact putP_self
def sp_desk_ring (K : PySem.W.Frag) : Sp := fun vs H Q E => ∃ (F : Hp) (p : Addr) (d : Dk) (b : Str), vs = [.ref p, .str b] ∧ DeskAt K F H p d ∧ d.Wf ∧ b.length ≤ 100000 ∧
  (isName b = false → ∀ H', Ex H H' → E (.ref (He.ga K "NoName")) none H') ∧
  (isName b = true → ∀ (q : Addr) (H' : Hp), F q = none → DeskAt K (upd F q (.lst ((d.rung b).map fun c => V.str c.nm))) H' p (d.ring b) → Q (.ref q) H')
theorem wtg_eq (m : Md) (b : Str) : (decide (m.st = "waiting") && decide (m.mark = .str b)) = decide (m = .wtg b) := by
  rw [st_waiting]
  cases m with
  | rdy s => simp [Md.isW]
  | slp s => simp [Md.isW]
  | wtg c => simp [Md.isW, Md.mark]
theorem ok_desk_ring {P : Program} {w : World} {K : PySem.W.Frag} {mg : Str → Option Value} {base : Heap} (T : Txt K mg) : ∃ fd, FnOk P w K mg base (L2N.CX P w) 2 (He.ma K (He.ga K "Desk") "ring") fd ["self", "bell"] (sp_desk_ring K) ∧ Binds K fd ["self", "bell"] [] ∧ FunD K "ring" "Desk.ring" (defArgs s_desk_ring) (defBody s_desk_ring) (defScope s_desk_ring) [] [] (He.ma K (He.ga K "Desk") "ring") fd := by
  obtain ⟨fd, F⟩ := f_desk_ring T
  obtain ⟨d_is_name, G_is_name, b_is_name, _⟩ := ok_is_name (P := P) (w := w) (base := base) T
  obtain ⟨d_desk_those, G_desk_those, b_desk_those, _⟩ := ok_desk_those (P := P) (w := w) (base := base) T
  obtain ⟨d_desk_become, G_desk_become, b_desk_become, _⟩ := ok_desk_become (P := P) (w := w) (base := base) T
  refine ⟨fd, okXN F sc_desk_ring (fun vs H Q E h => ?_) (fun cdv A outer s H vs Q E hr h => ?_), FunD.bindsN F fun _ _ _ _ _ _ us hl => match us, hl with | [_, _], _ => rfl, F⟩
  · (repeat (obtain ⟨_, h⟩ := h)); subst_vars; rfl
  · obtain ⟨F, p, d, b, rfl, ⟨l, ps, D, f⟩, W, hz, kE, k⟩ := h
    refine ⟨_, (pss_cons (ps_if (pt_not (pt_val (pe_call G_is_name (hr.mono (by decide)) rfl (g_is_name T) (kp_is_name T) b_is_name .nil pass0 (pa_cons (pv 1) pa_nil)))) (pss_one (L2N.ps_raise rfl (L2N.takes_of rfl rfl rfl rfl) (L2N.pmk_own PySem.F.excBase_ValueError (x_NoName T).1 (g_NoName T) (x_NoName T).2.1 (raises_own (x_NoName T).2.2.1 (x_NoName T).2.2.2) rfl)))
        pss_nil)
        (pss_cons (ps_setLc (i := 2) (own := [("caller", 3)]) (g := gName 3) rfl sc_desk_ring.nd rfl rfl (sw_true rfl rfl rfl (by decide +kernel)) (pi_listK (K := K) rfl (pe_meth (pv 0) (c_Desk T) (m_desk_those T) G_desk_those (hr.mono (by decide)) b_desk_those .nil pass0 (pa_cons pe_str pa_nil))) (blkOk_by (own := [("caller", 3)]) (N := ["self", "bell", "found", "caller"]) (sc := defScope s_desk_ring) (by decide +kernel)) (fun _ _ _ _ _ => (pg_name (i := 3) sc_desk_ring.nd rfl (Or.inl rfl))) (fun _ _ _ _ _ => pts_one (pt_cmpR op_eq (pe_fldK (K := K) rfl (pv 3) rfl) (pv 1) (nomark _))) (fun _ _ _ _ _ => (pv 3)))
        (pss_cons (ps_for (passes_of rfl) rfl (pi_listK (K := K) rfl (pv 2)) (pg_name (i := 3) sc_desk_ring.nd rfl (Or.inl rfl))
        (pss_one (ps_expr (pe_meth (pv 0) (c_Desk T) (m_desk_become T) G_desk_become (hr.mono (by decide)) b_desk_become .nil pass0 (pa_cons (pv 3) (pa_cons pe_str (pa_cons (pe_fldK (K := K) rfl (pv 0) rfl) pa_nil)))))))
        (pss_one (ps_ret (pe_lc (own := [("caller", 3)]) (g := gName 3) (tt := tYes) rfl sc_desk_ring.nd (pi_listK (K := K) rfl (pv 2)) (blkOk_by (own := [("caller", 3)]) (N := ["self", "bell", "found", "caller"]) (sc := defScope s_desk_ring) (by decide +kernel)) (fun _ _ _ _ _ => (pg_name (i := 3) sc_desk_ring.nd rfl (Or.inl rfl))) (fun _ _ _ _ _ => pts_nil) (fun _ _ _ _ _ => (pe_fldK (K := K) rfl (pv 3) rfl)))))))), ?_⟩
    refine q_when (b := !isName b) ?h (fun hb H1 e1 => ?_) (fun hb H1 e1 => ?_)
    case h => exact et_not (et_B (ev_call (ea_cons (ev_var rfl) ea_nil) (cv_is_name hz)))
    · exact kE (by simpa using hb) H1 e1
    have n1 : isName b = true := by simpa using hb
    have k := k n1
    have D1 := D.ex e1
    have hW := W.len
    have hln := D.len
    obtain ⟨dx, hp⟩ := D1.ob
    obtain ⟨fs, efs⟩ : ∃ fs, fs = ps.filter fun q => isWtg b q.2 := ⟨_, rfl⟩
    have hfsub : ∀ q ∈ fs, q ∈ ps := fun q hq => by rw [efs] at hq; exact (List.mem_filter.mp hq).1
    have hflen : fs.length ≤ ps.length := by rw [efs]; exact List.length_filter_le _ _
    have erung : d.rung b = fs.map (·.2) := by
      unfold Dk.rung
      rw [D.eq, List.filter_map, efs]
      rfl
    refine q_asgL (xs := fs.map fun q => V.ref q.1) ?h fun fa H2 hfa e2 h2 => ?_
    case h =>
      have hz2 : ((ps.filter fun q => decide (q.2.md.st = ("waiting" : Str))).map fun q => V.ref q.1).length ≤ 40000 := by
        rw [List.length_map]
        have := List.length_filter_le (fun q : Pr => decide (q.2.md.st = ("waiting" : Str))) ps
        omega
      have e9 : ((ps.filter fun q => decide (q.2.md.st = ("waiting" : Str))).filter fun q => decide (q.2.md.mark = .str b)) = fs := by
        rw [List.filter_filter, efs]
        apply List.filter_congr
        intro q _
        rw [Bool.and_comm, wtg_eq]
        rfl
      rw [← e9]
      refine el_lcNM (K := K) (ps := ps.filter fun q => decide (q.2.md.st = ("waiting" : Str))) (uu := fun q => V.ref q.1) (fun q => decide (q.2.md.mark = .str b)) (fun q => V.ref q.1) ?eh ?ez (fun _ => ?ew) (fun q hq H3 e3 => ?_) (fun q hq H3 e3 _ => ?ee)
      case eh => exact el_meth (ev_var rfl) hp rfl (ea_cons ev_c ea_nil) (cv_those D1 (by omega))
      case ez => rw [List.length_map] at hz2; exact hz2
      case ew => rfl
      case ee => exact ev_var rfl
      · obtain ⟨h1, h2⟩ := List.mem_filter.mp hq
        refine et_test (ev_op (ev_mark T (ev_var rfl) ((D1.at_ q h1).ex e3)) (ev_var rfl) (rv_eq ?_))
        have h3 : q.2.md.isW = true := by rw [← st_waiting]; exact h2
        cases em : q.2.md with
        | rdy s => rw [em] at h3; cases h3
        | slp s => rw [em] at h3; cases h3
        | wtg c => rfl
    have D2 := D1.ex e2
    have f2 := (f.mono e1).new D1 hfa e2 h2
    have nd := D.nd W.nd
    have ndf : (fs.map fun q => q.2.nm).Nodup := by rw [efs]; exact (List.filter_sublist.map _).nodup nd
    refine q_forLn (K := K) (xs := fs.map fun q => V.ref q.1) (ev_var rfl) (sq_of h2) (fun i σ' H' => (∃ v, σ' = [some (.ref p), some (.str b), some (.ref fa), v]) ∧ Woken K (upd F fa (.lst (fs.map fun q => V.ref q.1))) H' p d fs i)
      (fun H3 e3 => ⟨⟨none, rfl⟩, Woken.ex ⟨W, l, ps, D2, f2, fun r hr => hfsub r hr, fun r hr => by simp at hr⟩ e3⟩) (fun i σ' H' _ ⟨_, ⟨_, _, _, _, f3, _⟩⟩ => sq_of (f3.ex _ _ upd_same)) ?_ ?_
    · rintro i x σ' H' hi ⟨⟨v, rfl⟩, ⟨w3, l3, ps3, D3, f3, h3, h4⟩⟩
      rw [List.getElem?_map] at hi
      cases hq : fs[i]? with
      | none => rw [hq] at hi; cases hi
      | some q =>
        rw [hq] at hi
        cases hi
        obtain ⟨dx3, hp3⟩ := D3.ob
        have hlt : i < fs.length := (List.getElem?_eq_some_iff.mp hq).1
        have hqp : q ∈ ps3 := h3 q (by rw [List.drop_eq_getElem_cons hlt, (List.getElem?_eq_some_iff.mp hq).2]; exact List.mem_cons_self)
        have en := (rdyAll_now ((fs.take i).map (·.2)) d).1
        refine s_dmeth (ev_var rfl) hp3 rfl (ea_cons (ev_var rfl) (ea_cons ev_c (ea_cons (ev_now T (ev_var rfl) D3) ea_nil))) fun H4 e4 => ?_
        refine ⟨_, p, _, l3, ps3, q, .rdy d.now, by rw [en]; rfl, D3.ex e4, f3.mono e4, hqp, w3, fun H5 l5 D5 f5 => ⟨⟨_, rfl⟩, Woken.next ndf hq w3 D3 h3 h4 D5 f5⟩⟩
    · rintro σ' H' ⟨⟨v, rfl⟩, ⟨w3, l3, ps3, D3, f3, h3, h4⟩⟩
      rw [List.length_map, List.take_length] at w3 D3 h4
      have e9 : (fs.filter fun _ => true).map (fun q => V.str q.2.nm) = (d.rung b).map fun c => V.str c.nm := by
        rw [filter_true, erung, List.map_map]
        rfl
      refine s_retL (xs := (d.rung b).map fun c => V.str c.nm) ?h fun q H4 hq e4 h5 => ?_
      case h =>
        rw [← e9]
        exact el_lcM (K := K) (ps := fs) (uu := fun q => V.ref q.1) (fun _ => true) (fun q => V.str q.2.nm) (ev_var rfl) (sq_of (f3.ex _ _ upd_same)) (by omega) (fun _ => rfl) (fun _ _ _ _ => et_yes) fun r hr H5 e5 _ => ev_label T (c := ⟨r.2.nm, r.2.rk, .rdy d.now⟩) (ev_var rfl) ((D3.at_ _ (h4 r hr)).ex e5)
      have hF1 : (upd F fa (.lst (fs.map fun q => V.ref q.1))) q = none := ex_none f3.ex hq
      have hFa : F fa = none := ex_none (f.mono e1).ex hfa
      have hqn : F q = none := by
        by_cases c : q = fa
        · rw [c]; exact hFa
        · rw [upd_ne c] at hF1; exact hF1
      refine k q H4 hqn ⟨l3, ps3, ?_, (f3.new D3 hq e4 h5).sub (upd_mono (upd_sub hFa))⟩
      rw [Dk.ring, erung]
      exact D3.ex e4
/-! ### refusals told: which names an error may have, what changes -/
theorem enterErr_in {d : Dk} {nm : Str} {rk : Int} {e : Str} (h : enterErr d nm rk = some e) : e ∈ excNames := by
  unfold enterErr at h
  split at h
  · cases h; decide +kernel
  split at h
  · cases h; decide +kernel
  split at h
  · cases h; decide +kernel
  split at h
  · cases h; decide +kernel
  · cases h
theorem sleepErr_in {d : Dk} {nm : Str} {m : Int} {e : Str} (h : sleepErr d nm m = some e) : e ∈ excNames := by
  unfold sleepErr at h
  split at h
  · cases h; decide +kernel
  split at h
  · cases h; decide +kernel
  split at h
  · cases h
  · cases h; decide +kernel
theorem waitErr_in {d : Dk} {nm b e : Str} (h : waitErr d nm b = some e) : e ∈ excNames := by
  unfold waitErr at h
  split at h
  · cases h; decide +kernel
  split at h
  · cases h; decide +kernel
  split at h
  · cases h
  · cases h; decide +kernel
theorem wakeErr_in {d : Dk} {nm e : Str} (h : wakeErr d nm = some e) : e ∈ excNames := by
  unfold wakeErr at h
  split at h
  · cases h; decide +kernel
  split at h
  · cases h; decide +kernel
  · cases h
theorem rerankErr_in {d : Dk} {nm : Str} {rk : Int} {e : Str} (h : rerankErr d nm rk = some e) : e ∈ excNames := by
  unfold rerankErr at h
  split at h
  · cases h; decide +kernel
  split at h
  · cases h; decide +kernel
  split at h
  · cases h; decide +kernel
  · cases h
theorem Dk.get_put_self {d : Dk} (nd : (d.line.map (·.nm)).Nodup) (x : Cl) : (d.put x).get x.nm = some x := Dk.get_of (d := d.put x) (putC_nd nd) (putC_mem.mpr (.inr rfl))
theorem Dk.get_put_at {d : Dk} (nd : (d.line.map (·.nm)).Nodup) {x : Cl} {nm : Str} (h : x.nm = nm) : (d.put x).get nm = some x := h ▸ Dk.get_put_self nd x
theorem Dk.get_put_ne {d : Dk} (nd : (d.line.map (·.nm)).Nodup) {nm : Str} {c x : Cl} (h : d.get nm = some c) (hn : nm ≠ x.nm) : (d.put x).get nm = some c := by
  obtain ⟨h1, h2⟩ := Dk.get_some h
  subst h2
  exact Dk.get_of (d := d.put x) (putC_nd nd) (putC_mem.mpr (.inl ⟨h1, hn⟩))
/-! what evaluates while the desk changes: any heap that R knows may be behind it -/
def MvE (t : TE) (σ : L2.St) (H : Hp) (v : V) (R : Hp → Prop) : Prop := ∀ Q : VK, (∀ H', R H' → Q v H') → t σ H Q
def MvT (t : TT) (σ : L2.St) (H : Hp) (b : Bool) (R : Hp → Prop) : Prop := ∀ Q : Bool → Hp → Prop, (∀ H', R H' → Q b H') → t σ H Q
def MvS (sp : Sp) (vs : List V) (H : Hp) (v : V) (R : Hp → Prop) : Prop := ∀ (Q : VK) (E : XK), (∀ H', R H' → Q v H') → sp vs H Q E
section
variable {σ : L2.St} {H : Hp} {R R1 : Hp → Prop} {x y z : V} {a b : Bool} {ta tb : TE} {t u : TT} {D : Ends} {tu : TS} {tz : TS}
theorem mv_of (h : Ev ta σ H x) : MvE ta σ H x (Ex H) := fun Q q => h H (Ex.refl H) Q q
theorem mv_is (h : MvE ta σ H x R) (e : x = y) : MvE ta σ H y R := e ▸ h
theorem mt_is (h : MvT t σ H a R) (e : a = b) : MvT t σ H b R := e ▸ h
theorem mv_sub (h : MvE ta σ H x R) (s : ∀ H', R H' → R1 H') : MvE ta σ H x R1 := fun Q q => h Q fun H' r => q H' (s H' r)
theorem mt_sub (h : MvT t σ H a R) (s : ∀ H', R H' → R1 H') : MvT t σ H a R1 := fun Q q => h Q fun H' r => q H' (s H' r)
theorem mt_of (h : EvT t σ H b) : MvT t σ H b (Ex H) := fun Q q => h H (Ex.refl H) Q q
theorem mt_test (h : MvE ta σ H (.bl b) R) : MvT (tTest ta) σ H b R := fun Q q => h _ fun H' r => ⟨b, rfl, q H' r⟩
theorem mt_B (h : MvE ta σ H (.bl b) R) : MvT (tB ta) σ H b R := fun Q q => h _ fun H' r => ⟨b, rfl, q H' r⟩
theorem mt_not (h : MvT t σ H b R) : MvT (tNot t) σ H (!b) R := fun Q q => h _ q
theorem mt_or (h : MvT t σ H false R1) (h2 : ∀ H1, R1 H1 → MvT u σ H1 b R) : MvT (tOr t u) σ H b R := fun Q q => h _ fun H1 r => by
  show u σ H1 Q
  exact h2 H1 r Q q
theorem mt_and (h : MvT t σ H true R1) (h2 : ∀ H1, R1 H1 → MvT u σ H1 b R) : MvT (tAnd t u) σ H b R := fun Q q => h _ fun H1 r => by
  show u σ H1 Q
  exact h2 H1 r Q q
theorem mv_andV (h : MvE ta σ H (.bl true) R1) (h2 : ∀ H1, R1 H1 → MvE tb σ H1 x R) : MvE (tAndV ta tb) σ H x R := fun Q q => h _ fun H1 r => ⟨true, rfl, by
  show tb σ H1 Q
  exact h2 H1 r Q q⟩
theorem mv_op {r : R2} (ha : MvE ta σ H x R) (hb : ∀ H1, R H1 → Ev tb σ H1 y) (hr : ∀ H1, R H1 → RV r x y H1 z) (hR : ∀ H1 H2, R H1 → Ex H1 H2 → R H2) : MvE (tOp r ta tb) σ H z R := fun Q q =>
  ha _ fun H1 r1 => hb H1 r1 H1 (Ex.refl H1) _ fun H2 e2 => hr H1 r1 H2 e2 Q fun H3 e3 => q H3 (hR H1 H3 r1 (e2.trans e3))
theorem mv_call {sp : Sp} {E : XK} {tr : TA} {vs : List V} (h : EvA tr σ H vs) (hs : ∀ H1, Ex H H1 → MvS sp (vs ++ []) H1 x R) : MvE (tCall sp [] E tr) σ H x R := fun Q q => h H (Ex.refl H) _ fun H1 e1 => hs H1 e1 Q E q
theorem mq_when (h : MvT t σ H b R) (h1 : b = true → ∀ H1, R H1 → tu { D with nx := tz D } σ H1) (h2 : b = false → ∀ H1, R H1 → tz D σ H1) : tSeq (tIfS t tu tNext) tz D σ H := h _ fun H1 r => by
  cases b with
  | true => exact h1 rfl H1 r
  | false => exact h2 rfl H1 r
theorem ms_when (h : MvT t σ H b R) (h1 : b = true → ∀ H1, R H1 → tu D σ H1) (h2 : b = false → ∀ H1, R H1 → D.nx σ H1) : tIfS t tu tNext D σ H := h _ fun H1 r => by
  cases b with
  | true => exact h1 rfl H1 r
  | false => exact h2 rfl H1 r
theorem ms_ret (h : MvE ta σ H x R) (k : ∀ H1, R H1 → D.rt x H1) : tRet ta D σ H := h _ k
theorem mq_asg {i : Nat} (h : MvE ta σ H x R) (k : ∀ H1, R H1 → tz D (σ.set i (some x)) H1) : tSeq (tAsg ta (gName i)) tz D σ H := h _ k
end
/-! .. what comes, and what is behind it, by M -/
def MvX (t : TE) (σ : L2.St) (H : Hp) (M : VK) : Prop := ∀ Q : VK, (∀ v H', M v H' → Q v H') → t σ H Q
def MvY (sp : Sp) (vs : List V) (H : Hp) (M : VK) : Prop := ∀ (Q : VK) (E : XK), (∀ v H', M v H' → Q v H') → sp vs H Q E
section
variable {K : PySem.W.Frag} {σ : L2.St} {H : Hp} {R : Hp → Prop} {M : VK} {z : V} {ta t1 t2 : TE} {D : Ends} {tu : TS} {tz : TS} {sp : Sp} {E : XK} {tr : TA} {vs : List V}
theorem mx_call (h : EvA tr σ H vs) (hs : ∀ H1, Ex H H1 → MvY sp (vs ++ []) H1 M) : MvX (tCall sp [] E tr) σ H M := fun Q q => h H (Ex.refl H) _ fun H1 e1 => hs H1 e1 Q E q
theorem mx_meth {a C dx : Addr} {fs : List (Str × V)} {m : Str} (h : Ev ta σ H (.ref a)) (ho : H a = some (.ins C dx fs)) (hl : fs.lookup m = none) (ha : EvA tr σ H vs) (hs : ∀ H1, Ex H H1 → MvY sp (.ref a :: (vs ++ [])) H1 M) : MvX (tMeth C m sp [] E ta tr) σ H M := fun Q q =>
  h H (Ex.refl H) _ fun H1 e1 => ⟨a, dx, fs, rfl, e1 a _ ho, hl, ha H1 e1 _ fun H2 e2 => hs H2 (e1.trans e2) Q E q⟩
theorem mq_asgX {i : Nat} (h : MvX ta σ H M) (k : ∀ v H1, M v H1 → tz D (σ.set i (some v)) H1) : tSeq (tAsg ta (gName i)) tz D σ H := h _ k
theorem mv_call2 (h1 : MvX t1 σ H M) (h : ∀ v H1, M v H1 → ∀ Q : VK, (∀ H', R H' → Q z H') → t2 σ H1 fun y H2 => sp ([v, y] ++ []) H2 Q E) : MvE (tCall sp [] E (tCons t1 (tCons t2 tNil))) σ H z R := fun Q q => h1 _ fun v H1 m => h v H1 m Q q
theorem mq_forLn {tl : TE} {j : Nat} (h : MvX tl σ H M) (xs : List V) (Pv : Addr → Nat → L2.St → Hp → Prop) (h0 : ∀ v H1, M v H1 → ∃ a, v = .ref a ∧ Pv a 0 σ H1) (hl : ∀ a i σ' H', i ≤ xs.length → Pv a i σ' H' → SqL K H' a xs)
    (hs : ∀ a i x σ' H', xs[i]? = some x → Pv a i σ' H' → tu { D with nx := Pv a (i + 1), ct := Pv a (i + 1), bk := tz D } (σ'.set j (some x)) H') (hd : ∀ a σ' H', Pv a xs.length σ' H' → tz D σ' H') : tSeq (tFor (iList K tl) (gName j) tu) tz D σ H := h _ fun v H1 m => by
  obtain ⟨a, rfl, p⟩ := h0 v H1 m
  exact ⟨a, rfl, ⟨xs, hl a 0 _ _ (Nat.zero_le _) p⟩, for_list (D := { D with nx := tz D }) (Pv a) p (hl a) (hs a) (hd a)⟩
end
/-- l.append(e), e changing the desk -/
theorem mq_appX {K : PySem.W.Frag} {σ : L2.St} {H : Hp} {l : Addr} {j : Nat} {ys : List V} {te : TE} {M : VK} {D : Ends} {tz : TS} (hj : σ[j]? = some (some (.ref l))) (hl : H l = some (.lst ys)) (h : MvX te σ H M) (k : ∀ v H1, M v H1 → ∃ xs, H1 l = some (.lst xs) ∧ xs.length < 100000 ∧ tz D σ (upd H1 l (.lst (xs ++ [v])))) :
    tSeq (tDrop (tBM K "list" rAppend (tVar j) (tCons te tNil))) tz D σ H := ⟨_, hj, .inl ⟨rfl, _, SqL.of hl⟩, h _ fun v H1 m => let ⟨xs, hx, hz, kk⟩ := k v H1 m; ⟨l, xs, v, rfl, rfl, hx, sz_lt hz, kk⟩⟩
theorem all_str (nms : List Str) : (nms.map V.str).all flatV = true := by
  rw [List.all_map]
  exact List.all_eq_true.mpr fun _ _ => rfl
theorem ev_index {K : PySem.W.Frag} {σ : L2.St} {H : Hp} {ta te : TE} {r : Addr} {nms : List Str} {k : Nat} {nm : Str} (nd : nms.Nodup) (hk : nms[k]? = some nm) (ho : Ev ta σ H (.ref r)) (hr : H r = some (.lst (nms.map V.str))) (ha : Ev te σ H (.str nm)) : Ev (tBM K "list" (rIndex K) ta (tCons te tNil)) σ H (.int (k : Int)) := fun H1 e Q q =>
  ho H1 e _ fun H2 e2 => ⟨.inl ⟨rfl, _, SqL.of ((e.trans e2) _ _ hr)⟩, ha H2 (e.trans e2) _ fun H3 e3 => ⟨r, _, .str nm, k, .str nm, rfl, rfl, SqL.of ((e.trans (e2.trans e3)) _ _ hr), rfl, all_str nms, by rw [List.getElem?_map, hk]; rfl, by simp [eqV], fun m z hm hz => by
    rw [List.getElem?_map] at hz
    cases hx : nms[m]? with
    | none => rw [hx] at hz; cases hz
    | some y =>
      rw [hx] at hz
      cases hz
      have : y ≠ nm := fun e => by
        have := nd_ix nd (e ▸ hx) hk
        omega
      simp [eqV, this], q H3 (e2.trans e3)⟩⟩
theorem el_catL {σ : L2.St} {H : Hp} {p : Addr} {xs ys : List V} {ta tb : TE} (ha : EvL ta σ H xs) (hb : Ev tb σ H (.ref p)) (hp : H p = some (.lst ys)) (hz : xs.length + ys.length ≤ 100000) : EvL (tOp rCat ta tb) σ H (xs ++ ys) := fun H1 e Q q =>
  ha H1 e _ fun r H2 hr e2 h2 => hb H2 (e.trans e2) _ fun H3 e3 => ⟨r, p, xs, ys, rfl, rfl, e3 r _ h2, (e.trans (e2.trans e3)) _ _ hp, sz_of hz, fun s hs => q s _ (fresh_back (e2.trans e3) hs) ((e2.trans e3).trans (Ex.new hs)) upd_same⟩
/-! ### L_word -/
theorem sc_L_word : FnScope ["_law_e", "_law_found", "_law_one"] ["_law_e"] (defScope s_L_word) := ⟨rfl, rfl, rfl, by decide +kernel, rfl, by decide +kernel, by decide +kernel⟩
theorem ev_isE {K : PySem.W.Frag} {σ : L2.St} {H : Hp} {a : Addr} (KS : ExcKs K) {i : Nat} (hi : i < 9) (j : Nat) (hj : j < 9) (h0 : σ[0]? = some (some (.ref a))) : Ev (tCB (rIsE K (excAt K i) a) (tCons (tVar 0) (tCons (tC (.ref (excAt K j))) tNil))) σ H (.bl (decide (j = i))) :=
  ev_cb (ea_cons (ev_var h0) (ea_cons ev_c ea_nil)) fun H1 _ Q q => ⟨.ref (excAt K j), .ref (excAt K j), _, rfl, fun u r => r, KS.k i j hi hj, q H1 (Ex.refl H1)⟩
theorem ev_isV {K : PySem.W.Frag} {σ : L2.St} {H : Hp} {a : Addr} (KS : ExcKs K) {i : Nat} (hi : i < 9) (h0 : σ[0]? = some (some (.ref a))) : Ev (tCB (rIsE K (excAt K i) a) (tCons (tVar 0) (tCons (tC (.ty "ValueError")) tNil))) σ H (.bl true) :=
  ev_cb (ea_cons (ev_var h0) (ea_cons ev_c ea_nil)) fun H1 _ Q q => ⟨.ty "ValueError", .type "ValueError", _, rfl, fun u r => r, KS.v i hi, q H1 (Ex.refl H1)⟩
theorem el_catV {σ : L2.St} {H : Hp} {p : Addr} {xs ys : List V} {ta tb : TE} (ha : Ev ta σ H (.ref p)) (hp : H p = some (.lst xs)) (hb : EvL tb σ H ys) (hz : xs.length + ys.length ≤ 100000) : EvL (tOp rCat ta tb) σ H (xs ++ ys) := fun H1 e Q q =>
  ha H1 e _ fun H2 e2 => hb H2 (e.trans e2) _ fun r H3 hr e3 h3 => ⟨p, r, xs, ys, rfl, rfl, (e.trans (e2.trans e3)) _ _ hp, h3, sz_of hz, fun s hs => q s _ (fresh_back (e2.trans e3) hs) ((e2.trans e3).trans (Ex.new hs)) upd_same⟩
theorem el_lcH {K : PySem.W.Frag} {σ : L2.St} {H : Hp} {p : Addr} {xs : List V} {j : Nat} {tl te : TE} (f : V → V) (h : Ev tl σ H (.ref p)) (hp : SqL K H p xs) (hz : xs.length ≤ 1000) (he : ∀ x ∈ xs, ∀ H1, Ex H H1 → Ev te ((wipe σ [j]).set j (some x)) H1 (f x)) : EvL (tLcH K tl j te) σ H (xs.map f) := fun H1 e Q q =>
  h H1 e _ fun H2 e2 => ⟨p, xs, f, rfl, ex_l (e.trans e2) hp, hz, fun x hx H3 e3 Q2 q2 => he x hx H3 (e.trans (e2.trans e3)) H3 (Ex.refl H3) Q2 q2, fun D H3 hD e3 h3 => q D H3 (fresh_back e2 hD) (e2.trans e3) h3⟩
def intB : V → V
  | .bl b => .int (if b then 1 else 0)
  | _ => .non
theorem ok_L_word {P : Program} {w : World} {K : PySem.W.Frag} {mg : Str → Option Value} {base : Heap} (T : Txt K mg) : ∃ fd, FnE P w K mg base 1 (He.ga K "_law_word") fd "_law_e" ∧ Binds K fd ["_law_e"] [] ∧ FunD K "_law_word" "_law_word" (defArgs s_L_word) (defBody s_L_word) (defScope s_L_word) [] [] (He.ga K "_law_word") fd := by
  obtain ⟨fd, F⟩ := f_L_word T
  have KS := excK_ok T.ex
  refine ⟨fd, FnE.of F sc_L_word (fun cdv A outer s H p i Q hi hz hot hr h => ?_), FunD.bindsN F fun _ _ _ _ _ _ us hl => match us, hl with | [_], _ => rfl, F⟩
  · have hot1 : L2H.Hot1 (A.deeper (envOfC "_law_word" (defScope s_L_word) s.heap.objs.size (He.ga K "_law_word") cdv)) p := ⟨hot.1, hot.2⟩
    refine ⟨_, (pss_cons (ps_set (i := 1) sc_L_word.nd rfl (Or.inl rfl) (pe_lst (pa_cons (pe_callB (call_isH (a := p.1) (oe := p.2) (List.mem_singleton.mpr rfl) (KS.c i hi) hz (hot.2.imp fun _ h => h.1)) rfl (b_isinstance T) (by decide +kernel) (pa_cons (pv 0) (pa_cons (pe_glob (v := .ref (He.ga K "NoName")) rfl (g_NoName T) rfl) pa_nil))) (pa_cons (pe_callB (call_isH (a := p.1) (oe := p.2) (List.mem_singleton.mpr rfl) (KS.c i hi) hz (hot.2.imp fun _ h => h.1)) rfl (b_isinstance T) (by decide +kernel) (pa_cons (pv 0) (pa_cons (pe_glob (v := .ref (He.ga K "NoRank")) rfl (g_NoRank T) rfl) pa_nil))) (pa_cons (pe_callB (call_isH (a := p.1) (oe := p.2) (List.mem_singleton.mpr rfl) (KS.c i hi) hz (hot.2.imp fun _ h => h.1)) rfl (b_isinstance T) (by decide +kernel) (pa_cons (pv 0) (pa_cons (pe_glob (v := .ref (He.ga K "NoSpan")) rfl (g_NoSpan T) rfl) pa_nil))) (pa_cons (pe_callB (call_isH (a := p.1) (oe := p.2) (List.mem_singleton.mpr rfl) (KS.c i hi) hz (hot.2.imp fun _ h => h.1)) rfl (b_isinstance T) (by decide +kernel) (pa_cons (pv 0) (pa_cons (pe_glob (v := .ref (He.ga K "NoDesk")) rfl (g_NoDesk T) rfl) pa_nil))) pa_nil))))))
        (pss_cons (ps_set (i := 1) sc_L_word.nd rfl (Or.inl rfl) (pe_op op_cat (pv 1) (pe_lst (pa_cons (pe_callB (call_isH (a := p.1) (oe := p.2) (List.mem_singleton.mpr rfl) (KS.c i hi) hz (hot.2.imp fun _ h => h.1)) rfl (b_isinstance T) (by decide +kernel) (pa_cons (pv 0) (pa_cons (pe_glob (v := .ref (He.ga K "Known")) rfl (g_Known T) rfl) pa_nil))) (pa_cons (pe_callB (call_isH (a := p.1) (oe := p.2) (List.mem_singleton.mpr rfl) (KS.c i hi) hz (hot.2.imp fun _ h => h.1)) rfl (b_isinstance T) (by decide +kernel) (pa_cons (pv 0) (pa_cons (pe_glob (v := .ref (He.ga K "Unknown")) rfl (g_Unknown T) rfl) pa_nil))) (pa_cons (pe_callB (call_isH (a := p.1) (oe := p.2) (List.mem_singleton.mpr rfl) (KS.c i hi) hz (hot.2.imp fun _ h => h.1)) rfl (b_isinstance T) (by decide +kernel) (pa_cons (pv 0) (pa_cons (pe_glob (v := .ref (He.ga K "Full")) rfl (g_Full T) rfl) pa_nil))) (pa_cons (pe_callB (call_isH (a := p.1) (oe := p.2) (List.mem_singleton.mpr rfl) (KS.c i hi) hz (hot.2.imp fun _ h => h.1)) rfl (b_isinstance T) (by decide +kernel) (pa_cons (pv 0) (pa_cons (pe_glob (v := .ref (He.ga K "NotReady")) rfl (g_NotReady T) rfl) pa_nil))) pa_nil)))))))
        (pss_cons (ps_set (i := 1) sc_L_word.nd rfl (Or.inl rfl) (pe_op op_cat (pv 1) (pe_lst (pa_cons (pe_callB (call_isH (a := p.1) (oe := p.2) (List.mem_singleton.mpr rfl) (KS.c i hi) hz (hot.2.imp fun _ h => h.1)) rfl (b_isinstance T) (by decide +kernel) (pa_cons (pv 0) (pa_cons (pe_glob (v := .ref (He.ga K "IsReady")) rfl (g_IsReady T) rfl) pa_nil))) pa_nil))))
        (pss_cons (ps_if (PW.pt (pw_or (pt_not (pt_val (pe_callB (call_isH (a := p.1) (oe := p.2) (List.mem_singleton.mpr rfl) (KS.c i hi) hz (hot.2.imp fun _ h => h.1)) rfl (b_isinstance T) (by decide +kernel) (pa_cons (pv 0) (pa_cons (pe_bltn (v := .ty "ValueError") rfl (b_ValueError T) (by decide +kernel) rfl) pa_nil))))) (pw_or1 (pt_cmpR op_ne (pe_callB (cr_sumH ⟨p, hot1, List.mem_singleton.mpr rfl⟩) rfl (b_sum T) (by decide +kernel) (pa_cons (pe_lcH (x := "_law_one") (j := 2) ⟨p, hot1, List.mem_singleton.mpr rfl⟩ sc_L_word.nd (pv 1) (blkOk_by (own := [("_law_one", 2)]) (N := ["_law_e", "_law_found", "_law_one"]) (sc := defScope s_L_word) (by decide +kernel)) (fun _ _ _ _ _ => pg_name (i := 2) sc_L_word.nd rfl (Or.inl rfl)) (fun _ _ _ _ _ => (pe_callTy call_int1 rfl (b_int T) (by decide +kernel) (pa_cons (pv 2) pa_nil)))) pa_nil)) pe_int (nomark _))))) (pss_one (ps_ret pe_str))
        pss_nil)
        (pss_one (ps_ret (pe_ix (ix_listK (K := K) rfl) (pe_lst (pa_cons pe_str (pa_cons pe_str (pa_cons pe_str (pa_cons pe_str (pa_cons pe_str (pa_cons pe_str (pa_cons pe_str (pa_cons pe_str (pa_cons pe_str pa_nil)))))))))) (pe_bmK (K := K) rfl PySem.F.plainAttrs_list PySem.F.slot_list_index PySem.F.type_list_index (mt_indexK (K := K) rfl) (pv 1) (pa_cons pe_bl pa_nil)) (fun _ _ => rfl)))))))), ?_⟩
    refine q_asgL (xs := [.bl (decide (0 = i)), .bl (decide (1 = i)), .bl (decide (2 = i)), .bl (decide (3 = i))]) (el_lst (ea_cons (ev_isE KS hi 0 (by decide) rfl) (ea_cons (ev_isE KS hi 1 (by decide) rfl) (ea_cons (ev_isE KS hi 2 (by decide) rfl) (ea_cons (ev_isE KS hi 3 (by decide) rfl) ea_nil)))) (by show 4 ≤ 100000; decide)) fun f1 H1 n1 e1 h1 => ?_
    refine q_asgL (el_catV (xs := [.bl (decide (0 = i)), .bl (decide (1 = i)), .bl (decide (2 = i)), .bl (decide (3 = i))]) (ys := [.bl (decide (4 = i)), .bl (decide (5 = i)), .bl (decide (6 = i)), .bl (decide (7 = i))]) (ev_var rfl) h1 (el_lst (ea_cons (ev_isE KS hi 4 (by decide) rfl) (ea_cons (ev_isE KS hi 5 (by decide) rfl) (ea_cons (ev_isE KS hi 6 (by decide) rfl) (ea_cons (ev_isE KS hi 7 (by decide) rfl) ea_nil)))) (by show 4 ≤ 100000; decide)) (by show 8 ≤ 100000; decide)) fun f2 H2 n2 e2 h2 => ?_
    refine q_asgL (el_catV (ys := [.bl (decide (8 = i))]) (ev_var rfl) h2 (el_lst (ea_cons (ev_isE KS hi 8 (by decide) rfl) ea_nil) (by show 1 ≤ 100000; decide)) (by show 9 ≤ 100000; decide)) fun f3 H3 n3 e3 h3 => ?_
    have hB : H3 f3 = some (.lst ((List.range 9).map fun j => V.bl (decide (j = i)))) := h3
    clear h1 h2 h3
    have hsum : (((List.range 9).map fun j => V.bl (decide (j = i))).map intB) = ((List.range 9).map fun j => if decide (j = i) = true then (1 : Int) else 0).map V.int := by
      rw [List.map_map, List.map_map]
      rfl
    have hone : ((List.range 9).map fun j => if decide (j = i) = true then (1 : Int) else 0).sum = 1 := by
      have : ∀ i, i < 9 → ((List.range 9).map fun j => if decide (j = i) = true then (1 : Int) else 0).sum = 1 := by decide
      exact this i hi
    refine q_when (b := false) ?h4 (fun h => by cases h) fun _ H4 e4 => ?_
    case h4 =>
      refine et_is (et_or (a := false) (b := false) (et_is (et_not (et_B (ev_isV KS hi rfl))) rfl) fun _ => et_is (et_test (ev_op (ev_cbL (xs := ((List.range 9).map fun j => if decide (j = i) = true then (1 : Int) else 0).map V.int) ?hl fun q H5 hq => rc_sum (sq_of hq)) ev_c (rv_ne rfl))) ?hs) rfl
      case hl =>
        rw [← hsum]
        refine el_lcH intB (ev_var rfl) (sq_of hB) (by rw [List.length_map, List.length_range]; decide) fun x hx H5 e5 => ?_
        obtain ⟨j, _, rfl⟩ := List.mem_map.mp hx
        exact ev_cb (ea_cons (ev_var rfl) ea_nil) rc_int_bl
      case hs =>
        rw [hone]
        rfl
    have hw : atI (excWords.map V.str) (i : Int) = some (.str (excWords.getD i "")) := by
      refine at_of rfl ?_
      rw [List.getElem?_map, List.getElem?_eq_getElem (show i < excWords.length from hi), List.getD_eq_getElem?_getD, List.getElem?_eq_getElem (show i < excWords.length from hi)]
      rfl
    refine s_ret (v := .str (excWords.getD i "")) ?h5 fun H6 e6 => h H6 (((e1.trans e2).trans e3).trans (e4.trans e6))
    refine ev_opL1 (xs := excWords.map V.str) (el_lst (ea_cons ev_c (ea_cons ev_c (ea_cons ev_c (ea_cons ev_c (ea_cons ev_c (ea_cons ev_c (ea_cons ev_c (ea_cons ev_c (ea_cons ev_c ea_nil))))))))) (by show 9 ≤ 100000; decide)) (fun H6 e6 => ?_) (fun q H6 hq e => rv_ixL (sq_of hq) hw)
    intro H7 e7 Q' q'
    have hB7 := (e4.trans (e6.trans e7)) _ _ hB
    refine ⟨_, rfl, .inl ⟨rfl, _, SqL.of hB7⟩, f3, _, .bl true, i, .bl true, rfl, rfl, SqL.of hB7, rfl, ?_, ?_, rfl, fun m z hm hz => ?_, q' H7 (Ex.refl H7)⟩
    · rw [List.all_map]
      exact List.all_eq_true.mpr fun _ _ => rfl
    · rw [List.getElem?_map, List.getElem?_range hi]
      show some (V.bl (decide (i = i))) = _
      rw [decide_eq_true rfl]
    · rw [List.getElem?_map, List.getElem?_range (by omega)] at hz
      cases hz
      show eqV (V.bl (decide (m = i))) (V.bl true) = false
      rw [decide_eq_false (by omega)]
      rfl
/-! ### L_rings -/
theorem sc_L_rings : FnScope ["_law_desk", "_law_bell", "_law_e"] ["_law_desk", "_law_bell"] (defScope s_L_rings) := ⟨rfl, rfl, rfl, by decide +kernel, rfl, by decide +kernel, by decide +kernel⟩
def sp_L_rings (K : PySem.W.Frag) : Sp := fun vs H Q _ => ∃ (F : Hp) (p : Addr) (d : Dk) (b : Str), vs = [.ref p, .str b] ∧ DeskAt K F H p d ∧ d.Wf ∧ b.length ≤ 100000 ∧ (isName b = false → RetV (.str "name") H Q) ∧
  (isName b = true → ∀ (q : Addr) (H' : Hp), F q = none → DeskAt K (upd F q (.lst ((d.rung b).map fun c => V.str c.nm))) H' p (d.ring b) → Q (.ref q) H')
theorem my_rings {K : PySem.W.Frag} {F H : Hp} {p : Addr} {d : Dk} {b : Str} (D : DeskAt K F H p d) (W : d.Wf) (hz : b.length ≤ 100000) (hb : isName b = true) : MvY (sp_L_rings K) ([.ref p, .str b] ++ []) H fun v H' => ∃ q, v = .ref q ∧ F q = none ∧ DeskAt K (upd F q (.lst ((d.rung b).map fun c => V.str c.nm))) H' p (d.ring b) := fun Q _ k =>
  ⟨F, p, d, b, rfl, D, W, hz, fun h => (by rw [hb] at h; cases h), fun _ q H' hq D' => k _ H' ⟨q, rfl, hq, D'⟩⟩
theorem ok_L_rings {P : Program} {w : World} {K : PySem.W.Frag} {mg : Str → Option Value} {base : Heap} (T : Txt K mg) : ∃ fd, FnOk P w K mg base (CX0) 3 (He.ga K "_law_rings") fd ["_law_desk", "_law_bell"] (sp_L_rings K) ∧ Binds K fd ["_law_desk", "_law_bell"] [] ∧ FunD K "_law_rings" "_law_rings" (defArgs s_L_rings) (defBody s_L_rings) (defScope s_L_rings) [] [] (He.ga K "_law_rings") fd := by
  obtain ⟨fd, F⟩ := f_L_rings T
  obtain ⟨d_desk_ring, G_desk_ring, b_desk_ring, _⟩ := ok_desk_ring (P := P) (w := w) (base := base) T
  obtain ⟨d_L_word, G_L_word, b_L_word, _⟩ := ok_L_word (P := P) (w := w) (base := base) T
  refine ⟨fd, ok0 F sc_L_rings (fun vs H Q E h => ?_) (fun cdv A outer s H vs Q E hr h => ?_), FunD.bindsN F fun _ _ _ _ _ _ us hl => match us, hl with | [_, _], _ => rfl, F⟩
  · (repeat (obtain ⟨_, h⟩ := h)); subst_vars; rfl
  · obtain ⟨F, p, d, b, rfl, D, W, hz, kE, k⟩ := h
    refine ⟨_, (pss_one (L2N.ps_try_as (i := 2) rfl rfl sc_L_rings.nd rfl rfl ⟨rfl, by decide, .inl (g_NoName T)⟩ takes0N (fun W pn xe tk _ => (pss_one (ps_ret (pe_methS (pv 0) (c_Desk T) (m_desk_ring T) G_desk_ring (hr.mono (by decide)) b_desk_ring (fun σ => L2N.passAt tk σ) (pa_cons (pv 1) pa_nil)))))
        (fun a oe cls d pn hz hf => (pss_one (ps_ret (pe_word G_L_word (hr.mono (by decide)) rfl (g_L_word T) (kp_L_word T) b_L_word hz hf (pv 2))))))), ?_⟩
    obtain ⟨l, ps, DD, ff⟩ := id D
    obtain ⟨dx, hp⟩ := DD.ob
    refine ⟨_, rfl, p, dx, _, rfl, hp, rfl, ?_⟩
    refine ⟨_, rfl, ?_⟩
    refine ⟨F, p, d, b, rfl, D, W, hz, fun hn H1 e1 => ⟨true, ?_, fun _ a ha => s_ret (v := .str "name") (ev_is (ev_word rfl (by decide +kernel)) (by decide +kernel)) fun H2 e2 => kE hn H2 (e1.trans e2), fun h => by cases h⟩, fun hn q H1 hq D1 => k hn q H1 hq D1⟩
    exact (ks_x (excK_ok T.ex) (by decide +kernel) (by decide +kernel)).trans (by decide +kernel)
/-! ### desk_one -/
theorem sc_desk_one : FnScope ["self", "name", "caller"] ["self", "name"] (defScope s_desk_one) := ⟨rfl, rfl, rfl, by decide +kernel, rfl, by decide +kernel, by decide +kernel⟩
def sp_desk_one (K : PySem.W.Frag) : Sp := fun vs H Q E => ∃ (p : Addr) (d : Dk) (l : Addr) (ps : List Pr) (nm : Str), vs = [.ref p, .str nm] ∧ DkAt K H p d l ps ∧
  (∀ q ∈ ps, q.2.nm = nm → ∀ H', Ex H H' → Q (.ref q.1) H') ∧ ((∀ q ∈ ps, q.2.nm ≠ nm) → ∀ H', Ex H H' → E (.ref (He.ga K "Unknown")) none H')
theorem ok_desk_one {P : Program} {w : World} {K : PySem.W.Frag} {mg : Str → Option Value} {base : Heap} (T : Txt K mg) : ∃ fd, FnOk P w K mg base (L2N.CX P w) 1 (He.ma K (He.ga K "Desk") "one") fd ["self", "name"] (sp_desk_one K) ∧ Binds K fd ["self", "name"] [] ∧ FunD K "one" "Desk.one" (defArgs s_desk_one) (defBody s_desk_one) (defScope s_desk_one) [] [] (He.ma K (He.ga K "Desk") "one") fd := by
  obtain ⟨fd, F⟩ := f_desk_one T
  refine ⟨fd, okXN F sc_desk_one (fun vs H Q E h => ?_) (fun cdv A outer s H vs Q E hr h => ?_), FunD.bindsN F fun _ _ _ _ _ _ us hl => match us, hl with | [_, _], _ => rfl, F⟩
  · (repeat (obtain ⟨_, h⟩ := h)); subst_vars; rfl
  · obtain ⟨p, d, l, ps, nm, rfl, D, k, kE⟩ := h
    refine ⟨_, (pss_cons (ps_for (passes_of rfl) rfl (pi_listK (K := K) rfl (pe_fldK (K := K) rfl (pv 0) rfl)) (pg_name (i := 2) sc_desk_one.nd rfl (Or.inl rfl))
        (pss_one (ps_if (pt_cmpR op_eq (pe_fldK (K := K) rfl (pv 2) rfl) (pv 1) (nomark _)) (pss_one (ps_ret (pv 2)))
        pss_nil)))
        (pss_one (L2N.ps_raise rfl (L2N.takes_of rfl rfl rfl rfl) (L2N.pmk_own PySem.F.excBase_ValueError (x_Unknown T).1 (g_Unknown T) (x_Unknown T).2.1 (raises_own (x_Unknown T).2.2.1 (x_Unknown T).2.2.2) rfl)))), ?_⟩
    refine q_forLn (K := K) (xs := ps.map fun q => V.ref q.1) (ev_line T (ev_var rfl) D) (sq_of D.ln) (fun i σ' H' => Ex H H' ∧ (∃ v, σ' = [some (.ref p), some (.str nm), v]) ∧ ∀ q ∈ ps.take i, q.2.nm ≠ nm) (fun H1 e1 => ⟨e1, ⟨none, rfl⟩, fun q hq => by simp at hq⟩) (fun i σ' H' _ ⟨e1, _⟩ => sq_of (e1 _ _ D.ln)) ?_ ?_
    · rintro i x σ' H' hi ⟨e1, ⟨v, rfl⟩, hall⟩
      rw [List.getElem?_map] at hi
      cases hq : ps[i]? with
      | none => rw [hq] at hi; cases hi
      | some q =>
        rw [hq] at hi
        cases hi
        have hm := List.mem_of_getElem? hq
        refine s_when (b := decide (q.2.nm = nm)) ?h (fun hb H2 e2 => ?_) (fun hb H2 e2 => ?_)
        case h =>
          rw [← decV]
          exact et_test (ev_op (ev_label T (ev_var rfl) ((D.at_ q hm).ex e1)) (ev_var rfl) (rv_eq rfl))
        · exact s_ret (ev_var rfl) fun H3 e3 => k q hm (of_decide_eq_true hb) H3 ((e1.trans e2).trans e3)
        · refine ⟨e1.trans e2, ⟨_, rfl⟩, fun r hr => ?_⟩
          rw [List.take_succ, hq] at hr
          rcases List.mem_append.mp hr with hr | hr
          · exact hall r hr
          · simp at hr
            rw [hr]
            exact of_decide_eq_false hb
    · rintro σ' H' ⟨e1, ⟨v, rfl⟩, hall⟩
      refine kE (fun q hq => hall q ?_) H' e1
      rw [List.length_map, List.take_length]
      exact hq
/-! ### desk_need_ready -/
theorem sc_desk_need_ready : FnScope ["self", "caller"] ["self", "caller"] (defScope s_desk_need_ready) := ⟨rfl, rfl, rfl, by decide +kernel, rfl, by decide +kernel, by decide +kernel⟩
def sp_desk_need_ready (K : PySem.W.Frag) : Sp := fun vs H Q E => ∃ (p a : Addr) (c : Cl), vs = [.ref p, .ref a] ∧ CAt K H a c ∧ (c.md.isR = true → ∀ H', Ex H H' → Q .non H') ∧ (c.md.isR = false → ∀ H', Ex H H' → E (.ref (He.ga K "NotReady")) none H')
theorem ok_desk_need_ready {P : Program} {w : World} {K : PySem.W.Frag} {mg : Str → Option Value} {base : Heap} (T : Txt K mg) : ∃ fd, FnOk P w K mg base (L2N.CX P w) 1 (He.ma K (He.ga K "Desk") "need_ready") fd ["self", "caller"] (sp_desk_need_ready K) ∧ Binds K fd ["self", "caller"] [] ∧ FunD K "need_ready" "Desk.need_ready" (defArgs s_desk_need_ready) (defBody s_desk_need_ready) (defScope s_desk_need_ready) [] [] (He.ma K (He.ga K "Desk") "need_ready") fd := by
  obtain ⟨fd, F⟩ := f_desk_need_ready T
  refine ⟨fd, okXN F sc_desk_need_ready (fun vs H Q E h => ?_) (fun cdv A outer s H vs Q E hr h => ?_), FunD.bindsN F fun _ _ _ _ _ _ us hl => match us, hl with | [_, _], _ => rfl, F⟩
  · (repeat (obtain ⟨_, h⟩ := h)); subst_vars; rfl
  · obtain ⟨p, a, c, rfl, C, k, kE⟩ := h
    refine ⟨_, (pss_one (ps_if (pt_cmpR op_ne (pe_fldK (K := K) rfl (pv 1) rfl) pe_str (nomark _)) (pss_one (L2N.ps_raise rfl (L2N.takes_of rfl rfl rfl rfl) (L2N.pmk_own PySem.F.excBase_ValueError (x_NotReady T).1 (g_NotReady T) (x_NotReady T).2.1 (raises_own (x_NotReady T).2.2.1 (x_NotReady T).2.2.2) rfl)))
        pss_nil)), ?_⟩
    refine s_when (b := !c.md.isR) ?h (fun hb H1 e1 => ?_) (fun hb H1 e1 => ?_)
    case h =>
      rw [← st_ready, ← decV]
      exact et_test (ev_op (ev_stand T (ev_var rfl) C) ev_c (rv_ne rfl))
    · exact kE (by simpa using hb) H1 e1
    · exact k (by simpa using hb) H1 e1
/-! ### desk_wait -/
theorem sc_desk_wait : FnScope ["self", "name", "bell", "caller"] ["self", "name", "bell"] (defScope s_desk_wait) := ⟨rfl, rfl, rfl, by decide +kernel, rfl, by decide +kernel, by decide +kernel⟩
def sp_desk_wait (K : PySem.W.Frag) : Sp := fun vs H Q E => ∃ (F : Hp) (p : Addr) (d : Dk) (nm b : Str), vs = [.ref p, .str nm, .str b] ∧ DeskAt K F H p d ∧ d.Wf ∧ b.length ≤ 100000 ∧
  (∀ e, waitErr d nm b = some e → ∀ H', Ex H H' → E (.ref (He.ga K e)) none H') ∧ (∀ c, waitErr d nm b = none → d.get nm = some c → ∀ H', DeskAt K F H' p (d.put ⟨c.nm, c.rk, .wtg b⟩) → Q .non H')
theorem ok_desk_wait {P : Program} {w : World} {K : PySem.W.Frag} {mg : Str → Option Value} {base : Heap} (T : Txt K mg) : ∃ fd, FnOk P w K mg base (L2N.CX P w) 2 (He.ma K (He.ga K "Desk") "wait") fd ["self", "name", "bell"] (sp_desk_wait K) ∧ Binds K fd ["self", "name", "bell"] [] ∧ FunD K "wait" "Desk.wait" (defArgs s_desk_wait) (defBody s_desk_wait) (defScope s_desk_wait) [] [] (He.ma K (He.ga K "Desk") "wait") fd := by
  obtain ⟨fd, F⟩ := f_desk_wait T
  obtain ⟨d_desk_one, G_desk_one, b_desk_one, _⟩ := ok_desk_one (P := P) (w := w) (base := base) T
  obtain ⟨d_is_name, G_is_name, b_is_name, _⟩ := ok_is_name (P := P) (w := w) (base := base) T
  obtain ⟨d_desk_need_ready, G_desk_need_ready, b_desk_need_ready, _⟩ := ok_desk_need_ready (P := P) (w := w) (base := base) T
  obtain ⟨d_desk_become, G_desk_become, b_desk_become, _⟩ := ok_desk_become (P := P) (w := w) (base := base) T
  refine ⟨fd, okXN F sc_desk_wait (fun vs H Q E h => ?_) (fun cdv A outer s H vs Q E hr h => ?_), FunD.bindsN F fun _ _ _ _ _ _ us hl => match us, hl with | [_, _, _], _ => rfl, F⟩
  · (repeat (obtain ⟨_, h⟩ := h)); subst_vars; rfl
  · obtain ⟨F, p, d, nm, b, rfl, ⟨l, ps, D, f⟩, W, hz, kE, k⟩ := h
    refine ⟨_, (pss_cons (ps_set (i := 3) sc_desk_wait.nd rfl (Or.inl rfl) (pe_meth (pv 0) (c_Desk T) (m_desk_one T) G_desk_one (hr.mono (by decide)) b_desk_one .nil (L2N.passes_call (L2N.takes_of rfl rfl rfl rfl) (fun _ _ _ _ h => h)) (pa_cons (pv 1) pa_nil)))
        (pss_cons (ps_if (pt_not (pt_val (pe_call G_is_name (hr.mono (by decide)) rfl (g_is_name T) (kp_is_name T) b_is_name .nil pass0 (pa_cons (pv 2) pa_nil)))) (pss_one (L2N.ps_raise rfl (L2N.takes_of rfl rfl rfl rfl) (L2N.pmk_own PySem.F.excBase_ValueError (x_NoName T).1 (g_NoName T) (x_NoName T).2.1 (raises_own (x_NoName T).2.2.1 (x_NoName T).2.2.2) rfl)))
        pss_nil)
        (pss_cons (ps_expr (pe_meth (pv 0) (c_Desk T) (m_desk_need_ready T) G_desk_need_ready (hr.mono (by decide)) b_desk_need_ready .nil (L2N.passes_call (L2N.takes_of rfl rfl rfl rfl) (fun _ _ _ _ h => h)) (pa_cons (pv 3) pa_nil)))
        (pss_one (ps_expr (pe_meth (pv 0) (c_Desk T) (m_desk_become T) G_desk_become (hr.mono (by decide)) b_desk_become .nil pass0 (pa_cons (pv 3) (pa_cons pe_str (pa_cons (pv 2) pa_nil))))))))), ?_⟩
    unfold waitErr at kE k
    obtain ⟨dx, hp⟩ := D.ob
    refine q_meth (ev_var rfl) hp rfl (ea_cons (ev_var rfl) ea_nil) fun H1 e1 => ?_
    refine ⟨p, d, l, ps, nm, rfl, D.ex e1, fun q hq hn H2 e2 => ?_, fun hn H2 e2 => kE _ (by rw [D.get_none hn]) H2 (e1.trans e2)⟩
    subst hn
    rw [D.get_of W hq] at kE k
    dsimp only at kE k
    refine q_when (b := !isName b) ?h (fun hb H3 e3 => ?_) (fun hb H3 e3 => ?_)
    case h => exact et_not (et_B (ev_call (ea_cons (ev_var rfl) ea_nil) (cv_is_name hz)))
    · exact kE _ (if_pos (by simpa using hb)) H3 ((e1.trans e2).trans e3)
    have n1 : ¬ isName b = false := by simpa using hb
    rw [if_neg n1] at kE k
    have e13 := (e1.trans e2).trans e3
    refine q_dmeth (ev_var rfl) (e13 _ _ hp) rfl (ea_cons (ev_var rfl) ea_nil) fun H4 e4 => ?_
    refine ⟨p, q.1, q.2, rfl, (D.at_ q hq).ex (e13.trans e4), fun hr H5 e5 => ?_, fun hr H5 e5 => kE _ (if_neg (by rw [hr]; decide)) H5 ((e13.trans e4).trans e5)⟩
    have e15 := (e13.trans e4).trans e5
    have D5 := D.ex e15
    refine s_dmeth (ev_var rfl) (e15 _ _ hp) rfl (ea_cons (ev_var rfl) (ea_cons ev_c (ea_cons (ev_var rfl) ea_nil))) fun H6 e6 => ?_
    exact ⟨F, p, d, l, ps, q, .wtg b, rfl, D5.ex e6, f.mono (e15.trans e6), hq, W, fun H7 l7 D7 f7 => k q.2 (if_pos hr) rfl H7 ⟨l7, _, D7, f7⟩⟩
/-! ### L_waits -/
theorem sc_L_waits : FnScope ["_law_desk", "_law_name", "_law_bell", "_law_e"] ["_law_desk", "_law_name", "_law_bell"] (defScope s_L_waits) := ⟨rfl, rfl, rfl, by decide +kernel, rfl, by decide +kernel, by decide +kernel⟩
def sp_L_waits (K : PySem.W.Frag) : Sp := fun vs H Q _ => ∃ (F : Hp) (p : Addr) (d : Dk) (nm b : Str), vs = [.ref p, .str nm, .str b] ∧ DeskAt K F H p d ∧ d.Wf ∧ b.length ≤ 100000 ∧
  (∀ e, waitErr d nm b = some e → RetV (.str (wordOf e)) H Q) ∧ (∀ c H', waitErr d nm b = none → d.get nm = some c → DeskAt K F H' p (d.put ⟨c.nm, c.rk, .wtg b⟩) → Q (.str "") H')
theorem ms_waits_e {K : PySem.W.Frag} {F H : Hp} {p : Addr} {d : Dk} {nm b e : Str} (D : DeskAt K F H p d) (W : d.Wf) (hz : b.length ≤ 100000) (h : waitErr d nm b = some e) : MvS (sp_L_waits K) [.ref p, .str nm, .str b] H (.str (wordOf e)) fun H' => DeskAt K F H' p d := fun Q _ q =>
  ⟨F, p, d, nm, b, rfl, D, W, hz, fun e' h' => (by rw [h] at h'; cases h'; exact fun H' x => q H' (D.ex x)), fun c H' h' => by rw [h] at h'; cases h'⟩
theorem ms_waits {K : PySem.W.Frag} {F H : Hp} {p : Addr} {d : Dk} {nm b : Str} {c : Cl} (D : DeskAt K F H p d) (W : d.Wf) (hz : b.length ≤ 100000) (h : waitErr d nm b = none) (hc : d.get nm = some c) : MvS (sp_L_waits K) [.ref p, .str nm, .str b] H (.str "") fun H' => DeskAt K F H' p (d.put ⟨c.nm, c.rk, .wtg b⟩) := fun Q _ q =>
  ⟨F, p, d, nm, b, rfl, D, W, hz, fun e' h' => (by rw [h] at h'; cases h'), fun c' H' h' hc' x => by rw [hc] at hc'; cases hc'; exact q H' x⟩
theorem ok_L_waits {P : Program} {w : World} {K : PySem.W.Frag} {mg : Str → Option Value} {base : Heap} (T : Txt K mg) : ∃ fd, FnOk P w K mg base (CX0) 3 (He.ga K "_law_waits") fd ["_law_desk", "_law_name", "_law_bell"] (sp_L_waits K) ∧ Binds K fd ["_law_desk", "_law_name", "_law_bell"] [] ∧ FunD K "_law_waits" "_law_waits" (defArgs s_L_waits) (defBody s_L_waits) (defScope s_L_waits) [] [] (He.ga K "_law_waits") fd := by
  obtain ⟨fd, F⟩ := f_L_waits T
  obtain ⟨d_desk_wait, G_desk_wait, b_desk_wait, _⟩ := ok_desk_wait (P := P) (w := w) (base := base) T
  obtain ⟨d_L_word, G_L_word, b_L_word, _⟩ := ok_L_word (P := P) (w := w) (base := base) T
  refine ⟨fd, ok0 F sc_L_waits (fun vs H Q E h => ?_) (fun cdv A outer s H vs Q E hr h => ?_), FunD.bindsN F fun _ _ _ _ _ _ us hl => match us, hl with | [_, _, _], _ => rfl, F⟩
  · (repeat (obtain ⟨_, h⟩ := h)); subst_vars; rfl
  · obtain ⟨F, p, d, nm, b, rfl, D, W, hz, kE, k⟩ := h
    refine ⟨_, (pss_cut (L2N.ps_try_as (i := 3) rfl rfl sc_L_waits.nd rfl rfl ⟨rfl, by decide, .inl (g_DeskError T)⟩ takes0N (fun W pn xe tk _ => (pss_one (ps_expr (pe_methS (pv 0) (c_Desk T) (m_desk_wait T) G_desk_wait (hr.mono (by decide)) b_desk_wait (fun σ => L2N.passAt tk σ) (pa_cons (pv 1) (pa_cons (pv 2) pa_nil))))))
        (fun a oe cls d pn hz hf => (pss_one (ps_ret (pe_word G_L_word (hr.mono (by decide)) rfl (g_L_word T) (kp_L_word T) b_L_word hz hf (pv 3))))))
        (pss_one (ps_ret pe_str))), ?_⟩
    obtain ⟨l, ps, DD, ff⟩ := id D
    obtain ⟨dx, hp⟩ := DD.ob
    refine q_cut (M := fun σ' H' => ∃ v c, σ' = [some (.ref p), some (.str nm), some (.str b), v] ∧ waitErr d nm b = none ∧ d.get nm = some c ∧ DeskAt K F H' p (d.put ⟨c.nm, c.rk, .wtg b⟩)) ?_ ?_
    · refine ⟨_, rfl, p, dx, _, rfl, hp, rfl, ?_⟩
      refine ⟨_, rfl, _, rfl, ?_⟩
      exact ⟨F, p, d, nm, b, rfl, D, W, hz, fun e he H1 e1 => ⟨true, ks_d (excK_ok T.ex) (waitErr_in he), fun _ a ha => s_ret (ev_word rfl (waitErr_in he)) fun H2 e2 => kE e he H2 (e1.trans e2), fun h => by cases h⟩, fun c he hc H1 D1 => ⟨_, c, rfl, he, hc, D1⟩⟩
    · rintro σ' H' ⟨v, c, rfl, he, hc, D1⟩
      exact s_ret ev_c fun H2 e2 => k c H2 he hc (D1.ex e2)
/-! ### who waits for which bell -/
theorem Dk.Ok.setRk {d : Dk} (ok : d.Ok) {nm : Str} {rk : Int} (h : 0 ≤ rk ∧ rk ≤ 99) : (d.setRk nm rk).Ok := by
  refine ⟨ok.p1, ok.p2, ok.r1, ok.r2, ok.n0, ?_, ?_, fun x hx => ?_⟩
  · show ((d.line.map _).length : Int) ≤ d.room
    rw [List.length_map]
    exact ok.len
  · show ((d.line.map _).map fun c : Cl => c.nm).Nodup
    rw [List.map_map]
    have : ((fun c : Cl => c.nm) ∘ fun o : Cl => if o.nm = nm then (⟨o.nm, rk, o.md⟩ : Cl) else o) = fun c : Cl => c.nm := by
      funext o
      show (if o.nm = nm then (⟨o.nm, rk, o.md⟩ : Cl) else o).nm = o.nm
      split <;> rfl
    rw [this]
    exact ok.nd
  · obtain ⟨o, ho, rfl⟩ := List.mem_map.mp hx
    have := ok.cl o ho
    show ClOk d.now (if o.nm = nm then (⟨o.nm, rk, o.md⟩ : Cl) else o)
    split
    · exact ⟨this.1, h.1, h.2, this.2.2.2⟩
    · exact this
theorem rdyAll_okL : ∀ (cs : List Cl) (d : Dk), d.Ok → (∀ c ∈ cs, c ∈ d.line) → (cs.map (·.nm)).Nodup → (d.rdyAll cs).Ok
  | [], _, ok, _, _ => ok
  | c :: cs, d, ok, h, nc => by
    rw [List.map_cons, List.nodup_cons] at nc
    refine rdyAll_okL cs (d.put ⟨c.nm, c.rk, .rdy d.now⟩) (ok.put (h c (List.mem_cons_self ..)) ⟨ok.n0, Int.le_refl _⟩) (fun x hx => putC_mem.mpr (.inl ⟨h x (List.mem_cons_of_mem _ hx), fun e => nc.1 ?_⟩)) nc.2
    have e : x.nm = c.nm := e
    exact e ▸ List.mem_map.mpr ⟨x, hx, rfl⟩
theorem ring_okL {d : Dk} (ok : d.Ok) (b : Str) : (d.ring b).Ok := rdyAll_okL _ d ok (fun c hc => (List.mem_filter.mp hc).1) (filter_nodup ok.nd)
theorem rdyAll_nms : ∀ (cs : List Cl) (d : Dk), (cs.map (·.nm)).Nodup → (d.rdyAll cs).line.map (·.nm) = ((d.line.map (·.nm)).filter fun n => !decide (n ∈ cs.map (·.nm))) ++ cs.map (·.nm)
  | [], d, _ => by
    show d.line.map _ = _
    rw [List.map_nil, List.append_nil]
    exact (List.filter_eq_self.mpr fun x _ => by simp).symm
  | c :: cs, d, nc => by
    rw [List.map_cons, List.nodup_cons] at nc
    have ih := rdyAll_nms cs (d.put ⟨c.nm, c.rk, .rdy d.now⟩) nc.2
    show ((d.put ⟨c.nm, c.rk, .rdy d.now⟩).rdyAll cs).line.map _ = _
    rw [ih]
    show ((d.line.filter (fun o => !decide (o.nm = c.nm)) ++ [(⟨c.nm, c.rk, .rdy d.now⟩ : Cl)]).map (fun c : Cl => c.nm)).filter _ ++ _ = _
    have e1 : (d.line.filter fun o => !decide (o.nm = c.nm)).map (fun c : Cl => c.nm) = (d.line.map (fun c : Cl => c.nm)).filter fun n => !decide (n = c.nm) := by
      rw [List.filter_map]
      rfl
    rw [List.map_append, e1, List.map_singleton, List.filter_append, List.filter_filter, List.map_cons]
    have e2 : [c.nm].filter (fun n => !decide (n ∈ cs.map (·.nm))) = [c.nm] := List.filter_eq_self.mpr fun x hx => by
      rw [List.mem_singleton] at hx
      rw [hx, decide_eq_false nc.1]
      rfl
    show List.filter _ _ ++ [c.nm].filter _ ++ _ = _
    rw [e2, List.append_assoc]
    congr 1
    refine List.filter_congr fun n _ => ?_
    by_cases h : n = c.nm
    · simp [h]
    · simp [h]
theorem ring_nms {d : Dk} (ok : d.Ok) (b : Str) : (d.ring b).line.map (·.nm) = ((d.line.map (·.nm)).filter fun n => !decide (n ∈ (d.rung b).map (·.nm))) ++ (d.rung b).map (·.nm) := rdyAll_nms _ d (filter_nodup ok.nd)
/-- what a caller's bell tells -/
def mdIs (b : Str) (m : Md) : Prop := b = "" ∧ m.isR = true ∨ b ≠ "" ∧ m = .wtg b
structure BlOk (d : Dk) (nms bs : List Str) (rs : List Int) : Prop where
  len : bs.length = nms.length
  lenR : rs.length = nms.length
  nd : nms.Nodup
  at_ : ∀ (k : Nat) (nm b : Str) (r : Int), nms[k]? = some nm → bs[k]? = some b → rs[k]? = some r → ∃ c, d.get nm = some c ∧ c.rk = r ∧ mdIs b c.md
  in_ : ∀ c ∈ d.line, c.nm ∈ nms
section
variable {d : Dk} {nms bs : List Str} {rs : List Int}
theorem BlOk.put (ok : d.Ok) (S : BlOk d nms bs rs) {k : Nat} {nm : Str} {c : Cl} {md : Md} {b : Str} (hk : nms[k]? = some nm) (hc : d.get nm = some c) (h : mdIs b md) : BlOk (d.put ⟨c.nm, c.rk, md⟩) nms (bs.set k b) rs := by
  obtain ⟨hc1, hc2⟩ := Dk.get_some hc
  have hkl := (List.getElem?_eq_some_iff.mp hk).1
  refine ⟨by rw [List.length_set]; exact S.len, S.lenR, S.nd, fun j n v r hj hv hr => ?_, fun x hx => ?_⟩
  · by_cases hjk : j = k
    · subst hjk
      rw [hk] at hj
      cases hj
      obtain ⟨c', h1, h2, _⟩ := S.at_ j nm _ r hk (List.getElem?_eq_getElem (by rw [S.len]; exact hkl)) hr
      rw [hc] at h1
      cases h1
      rw [List.getElem?_set_self (by rw [S.len]; exact hkl)] at hv
      cases hv
      exact ⟨_, Dk.get_put_at ok.nd (x := ⟨c.nm, c.rk, md⟩) hc2, h2, h⟩
    · rw [List.getElem?_set_ne (Ne.symm hjk)] at hv
      obtain ⟨c', h1, h2⟩ := S.at_ j n v r hj hv hr
      refine ⟨c', Dk.get_put_ne ok.nd h1 fun e => hjk ?_, h2⟩
      have e : n = c.nm := e
      rw [e, hc2] at hj
      exact nd_ix S.nd hj hk
  · rcases putC_mem.mp hx with ⟨h1, _⟩ | rfl
    · exact S.in_ x h1
    · show c.nm ∈ nms
      rw [hc2]
      exact List.mem_of_getElem? hk
theorem BlOk.rerk (ok : d.Ok) (S : BlOk d nms bs rs) {k : Nat} {nm : Str} {rk : Int} (hk : nms[k]? = some nm) (h : 0 ≤ rk ∧ rk ≤ 99) : BlOk (d.setRk nm rk) nms bs (rs.set k rk) := by
  have ok2 := ok.setRk (nm := nm) h
  have hkl := (List.getElem?_eq_some_iff.mp hk).1
  refine ⟨S.len, by rw [List.length_set]; exact S.lenR, S.nd, fun j n v r hj hv hr => ?_, fun x hx => ?_⟩
  · obtain ⟨c, h1, h2, h3⟩ := S.at_ j n v _ hj hv (List.getElem?_eq_getElem (by rw [S.lenR]; exact (List.getElem?_eq_some_iff.mp hj).1))
    obtain ⟨hc1, rfl⟩ := Dk.get_some h1
    have hm : (if c.nm = nm then (⟨c.nm, rk, c.md⟩ : Cl) else c) ∈ (d.setRk nm rk).line := List.mem_map.mpr ⟨c, hc1, rfl⟩
    by_cases hjk : j = k
    · subst hjk
      rw [hk] at hj
      have hj := Option.some.inj hj
      rw [List.getElem?_set_self (by rw [S.lenR]; exact hkl)] at hr
      cases hr
      rw [if_pos hj.symm] at hm
      have hg := Dk.get_of ok2.nd hm
      exact ⟨⟨c.nm, rk, c.md⟩, hg, rfl, h3⟩
    · rw [List.getElem?_set_ne (Ne.symm hjk)] at hr
      rw [if_neg (fun e : c.nm = nm => hjk (nd_ix S.nd (e ▸ hj) hk))] at hm
      refine ⟨c, Dk.get_of ok2.nd hm, ?_, h3⟩
      rw [List.getElem?_eq_getElem (by rw [S.lenR]; exact (List.getElem?_eq_some_iff.mp hj).1)] at hr
      exact h2.trans (Option.some.inj hr)
  · obtain ⟨o, ho, rfl⟩ := List.mem_map.mp hx
    have := S.in_ o ho
    show (if o.nm = nm then (⟨o.nm, rk, o.md⟩ : Cl) else o).nm ∈ nms
    split <;> exact this
theorem wtg_of {b x : Str} {c : Cl} (h : mdIs x c.md) (hb : b ≠ "") : isWtg b c = decide (x = b) := by
  unfold isWtg
  refine decide_eq_decide.mpr ?_
  rcases h with ⟨rfl, h⟩ | ⟨h1, h2⟩
  · exact ⟨fun e => (by rw [e] at h; cases h), fun e => absurd e.symm hb⟩
  · rw [h2]
    exact ⟨fun e => (by cases e; rfl), fun e => by rw [e]⟩
theorem BlOk.ring (ok : d.Ok) (S : BlOk d nms bs rs) {b : Str} (hb : b ≠ "") : BlOk (d.ring b) nms (bs.map fun x => if x = b then "" else x) rs := by
  have ok2 := ring_okL ok b
  refine ⟨by rw [List.length_map]; exact S.len, S.lenR, S.nd, fun j n v r hj hv hr => ?_, fun x hx => ?_⟩
  · rw [List.getElem?_map] at hv
    obtain ⟨x, hx, rfl⟩ := Option.map_eq_some_iff.mp hv
    obtain ⟨c, h1, h2, h3⟩ := S.at_ j n x r hj hx hr
    obtain ⟨hc1, rfl⟩ := Dk.get_some h1
    have hw := wtg_of h3 hb
    obtain ⟨c', g1, g2⟩ := rdyAll_nm (d.rung b) d c hc1
    refine ⟨c', g2 ▸ Dk.get_of ok2.nd g1, ?_⟩
    rcases rdyAll_of (d.rung b) d c' g1 with ⟨g3, g4⟩ | ⟨c2, g3, rfl⟩
    · have := nm_inj ok.nd g3 hc1 g2
      subst this
      have hf : isWtg b c' = false := by
        cases hcc : isWtg b c' with
        | false => rfl
        | true => exact absurd rfl (g4 c' (List.mem_filter.mpr ⟨g3, hcc⟩))
      rw [hf] at hw
      rw [if_neg (of_decide_eq_false hw.symm)]
      exact ⟨h2, h3⟩
    · obtain ⟨g4, g5⟩ := List.mem_filter.mp g3
      have := nm_inj ok.nd g4 hc1 g2
      subst this
      rw [g5] at hw
      rw [if_pos (of_decide_eq_true hw.symm)]
      exact ⟨h2, .inl ⟨rfl, rfl⟩⟩
  · rcases rdyAll_of (d.rung b) d x hx with ⟨g3, _⟩ | ⟨c2, g3, rfl⟩
    · exact S.in_ x g3
    · exact S.in_ c2 (List.mem_filter.mp g3).1
theorem BlOk.turn (ok : d.Ok) (S : BlOk d nms bs rs) : BlOk d.turn.2 nms bs rs := by
  have tok := turn_ok ok
  refine ⟨S.len, S.lenR, S.nd, fun k nm b r hk hb hr => ?_, fun x hx => ?_⟩
  · obtain ⟨c, hc, hrk, hm⟩ := S.at_ k nm b r hk hb hr
    obtain ⟨hc1, rfl⟩ := Dk.get_some hc
    obtain ⟨c', h1, h2⟩ := turn_has hc1
    refine ⟨c', h2 ▸ Dk.get_of tok.nd h1, ?_⟩
    rcases turn_mem h1 with h3 | ⟨x, h3, rfl⟩
    · rcases waked_of h3 with ⟨h4, h5⟩ | ⟨c0, h4, h5, rfl⟩
      · have := nm_inj ok.nd h4 hc1 h2
        subst this
        exact ⟨hrk, hm⟩
      · have := nm_inj ok.nd h4 hc1 h2
        subst this
        unfold due at h5
        rcases hm with ⟨ha, hb⟩ | ⟨ha, hb⟩
        · cases em : c0.md with
          | rdy s => rw [em] at h5; cases h5
          | slp s => rw [em] at hb; cases hb
          | wtg s => rw [em] at h5; cases h5
        · rw [hb] at h5
          cases h5
    · have hx := chosen_mem h3
      have := nm_inj ok.nd hx.1 hc1 h2
      subst this
      refine ⟨hrk, ?_⟩
      rcases hm with ⟨ha, hb⟩ | ⟨ha, hb⟩
      · exact .inl ⟨ha, rfl⟩
      · rw [hb] at hx
        cases hx.2
  · rcases turn_mem hx with h3 | ⟨c, h3, rfl⟩
    · rcases waked_of h3 with ⟨h4, _⟩ | ⟨c0, h4, _, rfl⟩
      · exact S.in_ x h4
      · exact S.in_ c0 h4
    · exact S.in_ c (chosen_mem h3).1
theorem BlOk.runN (ok : d.Ok) (S : BlOk d nms bs rs) : ∀ n, BlOk (d.runN n).2 nms bs rs
  | 0 => S
  | n + 1 => BlOk.turn (runN_ok ok n).1 (S.runN ok n)
theorem BlOk.look (S : BlOk d nms bs rs) {k : Nat} (h : k < nms.length) : ∃ nm b r c, nms[k]? = some nm ∧ bs[k]? = some b ∧ rs[k]? = some r ∧ d.get nm = some c ∧ c.rk = r ∧ mdIs b c.md := by
  have h1 : nms[k]? = some nms[k] := List.getElem?_eq_getElem h
  have h2 : bs[k]? = some (bs[k]'(by rw [S.len]; exact h)) := List.getElem?_eq_getElem _
  have h3 : rs[k]? = some (rs[k]'(by rw [S.lenR]; exact h)) := List.getElem?_eq_getElem _
  obtain ⟨c, a, b, e⟩ := S.at_ k _ _ _ h1 h2 h3
  exact ⟨_, _, _, c, h1, h2, h3, a, b, e⟩
theorem BlOk.of (ok : d.Ok) (S : BlOk d nms bs rs) {c : Cl} (hc : c ∈ d.line) : ∃ (k : Nat) (b : Str), nms[k]? = some c.nm ∧ bs[k]? = some b ∧ mdIs b c.md := by
  obtain ⟨k, hk⟩ := List.getElem?_of_mem (S.in_ c hc)
  obtain ⟨nm, b, r, c', h1, h2, h3, h4, h5, h6⟩ := S.look (List.getElem?_eq_some_iff.mp hk).1
  rw [hk] at h1
  cases h1
  rw [Dk.get_of ok.nd hc] at h4
  cases h4
  exact ⟨k, b, hk, h2, h6⟩
end
theorem at_str {nms : List Str} {k : Nat} {nm : Str} (h : nms[k]? = some nm) : atI (nms.map V.str) (k : Int) = some (.str nm) := at_of rfl (by rw [List.getElem?_map, h]; rfl)
theorem at_int {ns : List Int} {k : Nat} {n : Int} (h : ns[k]? = some n) : atI (ns.map V.int) (k : Int) = some (.int n) := at_of rfl (by rw [List.getElem?_map, h]; rfl)
/-! ### L_all_wait -/
theorem sc_L_all_wait : FnScope ["_law_desk", "_law_names", "_law_bells", "_law_some", "_law_script", "_law_bell", "_law_k", "_law_odd"] ["_law_desk", "_law_names", "_law_bells", "_law_some", "_law_script"] (defScope s_L_all_wait) := ⟨rfl, rfl, rfl, by decide +kernel, rfl, by decide +kernel, by decide +kernel⟩
theorem pick_allS {xs : List Str} {i : Int} {P : Str → Prop} (h0 : 0 ≤ i) (h1 : i < (xs.length : Int)) (h : ∀ x ∈ xs, P x) : ∃ v, P v ∧ atI (xs.map V.str) i = some (.str v) := by
  have hl : i.toNat < xs.length := by omega
  refine ⟨xs[i.toNat], h _ (List.getElem_mem hl), at_of (j := i.toNat) (by omega) ?_⟩
  rw [List.getElem?_map, List.getElem?_eq_getElem hl]
  rfl
theorem name_q {s : Str} : isName (s ++ "?") = false := by
  cases h : isName (s ++ "?") with
  | false => rfl
  | true =>
    unfold isName at h
    rw [Bool.and_eq_true] at h
    have h2 := List.all_eq_true.mp h.2 63 (by
      have e : (s ++ "?").cps.toList = TL.tl s ++ TL.tl "?" := TL.tl_append s "?"
      rw [e]
      exact List.mem_append_right _ (by decide +kernel))
    exact absurd h2 (by decide +kernel)
theorem waitErr_name {d : Dk} {nm b : Str} {c : Cl} (hc : d.get nm = some c) (hb : isName b = false) : waitErr d nm b = some ("NoName" : Str) := by
  unfold waitErr
  rw [hc]
  exact if_pos hb
theorem waitErr_wait {d : Dk} {nm b : Str} {c : Cl} (hc : d.get nm = some c) (hb : isName b = true) (hm : c.md.isR = false) : waitErr d nm b = some ("NotReady" : Str) := by
  unfold waitErr
  rw [hc]
  show (if _ then _ else _) = _
  rw [if_neg (by rw [hb]; decide)]
  exact if_neg (by rw [hm]; decide)
theorem waitErr_none {d : Dk} {nm b : Str} {c : Cl} (hc : d.get nm = some c) (hb : isName b = true) (hm : c.md.isR = true) : waitErr d nm b = none := by
  unfold waitErr
  rw [hc]
  show (if _ then _ else _) = _
  rw [if_neg (by rw [hb]; decide)]
  exact if_pos hm
theorem mv_neC {ta : TE} {σ : L2.St} {H : Hp} {a b : Str} {c : Bool} {R : Hp → Prop} (h : MvE ta σ H (.str a) R) (hR : ∀ H1 H2, R H1 → Ex H1 H2 → R H2) (e : (!decide (V.str a = V.str b)) = c) : MvT (tTest (tOp rNe ta (tC (.str b)))) σ H c R := mt_is (mt_test (mv_op h (fun _ _ => ev_c) (fun _ _ => rv_ne rfl) hR)) e
def sp_L_all_wait (K : PySem.W.Frag) : Sp := fun vs H Q _ => ∃ (F1 F : Hp) (p : Addr) (d : Dk) (r ba sa a : Addr) (nms bs ss : List Str) (rs ns : List Int), vs = [.ref p, .ref r, .ref ba, .ref sa, .ref a] ∧ Ex F1 F ∧ F1 ba = none ∧ F1 r = some (.lst (nms.map V.str)) ∧ F1 sa = some (.lst (ss.map V.str)) ∧ SqL K F1 a (ns.map V.int) ∧ F ba = some (.lst (bs.map V.str)) ∧ DeskAt K F H p d ∧ d.Ok ∧ BlOk d nms bs rs ∧ (∀ b ∈ bs, b = "") ∧ ss.length = 4 ∧ (∀ s ∈ ss, isName s = true) ∧ nms.length ≤ 1000 ∧
  ∀ (F' H' : Hp) (d' : Dk) (bs' : List Str), Ex F1 F' → F' ba = some (.lst (bs'.map V.str)) → DeskAt K F' H' p d' → d'.Ok → BlOk d' nms bs' rs → Q (.bl true) H'
theorem ok_L_all_wait {P : Program} {w : World} {K : PySem.W.Frag} {mg : Str → Option Value} {base : Heap} (T : Txt K mg) : ∃ fd, FnOk P w K mg base (CX0) 4 (He.ga K "_law_all_wait") fd ["_law_desk", "_law_names", "_law_bells", "_law_some", "_law_script"] (sp_L_all_wait K) ∧ Binds K fd ["_law_desk", "_law_names", "_law_bells", "_law_some", "_law_script"] [] ∧ FunD K "_law_all_wait" "_law_all_wait" (defArgs s_L_all_wait) (defBody s_L_all_wait) (defScope s_L_all_wait) [] [] (He.ga K "_law_all_wait") fd := by
  obtain ⟨fd, F⟩ := f_L_all_wait T
  obtain ⟨d_L_texts, G_L_texts, b_L_texts, _⟩ := ok_L_texts (P := P) (w := w) (base := base) T
  obtain ⟨d_L_rings, G_L_rings, b_L_rings, _⟩ := ok_L_rings (P := P) (w := w) (base := base) T
  obtain ⟨d_L_mix, G_L_mix, b_L_mix, _⟩ := ok_L_mix (P := P) (w := w) (base := base) T
  obtain ⟨d_L_cell_at, G_L_cell_at, b_L_cell_at, _⟩ := ok_L_cell_at (P := P) (w := w) (base := base) T
  obtain ⟨d_L_waits, G_L_waits, b_L_waits, _⟩ := ok_L_waits (P := P) (w := w) (base := base) T
  refine ⟨fd, ok0 F sc_L_all_wait (fun vs H Q E h => ?_) (fun cdv A outer s H vs Q E hr h => ?_), FunD.bindsN F fun _ _ _ _ _ _ us hl => match us, hl with | [_, _, _, _, _], _ => rfl, F⟩
  · (repeat (obtain ⟨_, h⟩ := h)); subst_vars; rfl
  · obtain ⟨F1, F, p, d, r, ba, sa, a, nms, bs, ss, rs, ns, rfl, eF, hba1, hr1, hs1, hS1, hba, D, ok, S, hall, h4, hss, h20, k⟩ := h
    refine ⟨_, (pss_cons (ps_for PassesOwn.never rfl (pi_listK (K := K) rfl (pv 3)) (pg_name (i := 5) sc_L_all_wait.nd rfl (Or.inl rfl))
        (pss_one (ps_if (pt_not (pt_val (pe_call G_L_texts (hr.mono (by decide)) rfl (g_L_texts T) (kp_L_texts T) b_L_texts .nil pass0 (pa_cons (pe_call G_L_rings (hr.mono (by decide)) rfl (g_L_rings T) (kp_L_rings T) b_L_rings .nil pass0 (pa_cons (pv 0) (pa_cons (pv 5) pa_nil))) (pa_cons (pe_lst pa_nil) pa_nil))))) (pss_one (ps_ret pe_bl))
        pss_nil)))
        (pss_cons (ps_for PassesOwn.never rfl (pi_range1 rfl (b_range T) (pa_cons (pe_callB (call_lenK (K := K) rfl) rfl (b_len T) (by decide +kernel) (pa_cons (pv 1) pa_nil)) pa_nil)) (pg_name (i := 6) sc_L_all_wait.nd rfl (Or.inl rfl))
        (pss_cons (ps_set (i := 5) sc_L_all_wait.nd rfl (Or.inl rfl) (pe_ix (ix_listK (K := K) rfl) (pe_lst (pa_cons pe_str (pa_cons (pe_ix (ix_listK (K := K) rfl) (pv 3) pe_int (fun _ _ => rfl)) (pa_cons (pe_ix (ix_listK (K := K) rfl) (pv 3) pe_int (fun _ _ => rfl)) (pa_cons (pe_ix (ix_listK (K := K) rfl) (pv 3) pe_int (fun _ _ => rfl)) pa_nil))))) (pe_call G_L_mix (hr.mono (by decide)) rfl (g_L_mix T) (kp_L_mix T) b_L_mix .nil pass0 (pa_cons (pe_op op_add (pe_call G_L_cell_at (hr.mono (by decide)) rfl (g_L_cell_at T) (kp_L_cell_at T) b_L_cell_at .nil pass0 (pa_cons (pv 4) (pa_cons (pe_op op_add pe_int (pv 6)) pa_nil))) (pv 6)) (pa_cons pe_int (pa_cons pe_int pa_nil)))) (fun _ _ => rfl)))
        (pss_one (ps_if (pt_cmpR op_ne (pv 5) pe_str (nomark _)) (pss_cons (ps_asg (pv 5) (pg_sub (pv 2) (pv 6) set_list))
        (pss_cons (ps_set (i := 7) sc_L_all_wait.nd rfl (Or.inl rfl) (pe_ix (ix_listK (K := K) rfl) (pe_lst (pa_cons (pe_op op_add_str (pv 5) pe_str) (pa_cons (pe_op op_rep_str pe_str pe_int) pa_nil))) (pe_op op_mod (pv 6) pe_int) (fun _ _ => rfl)))
        (pss_cons (ps_if (PW.pt (pw_or (pt_cmpR op_ne (pe_call G_L_waits (hr.mono (by decide)) rfl (g_L_waits T) (kp_L_waits T) b_L_waits .nil pass0 (pa_cons (pv 0) (pa_cons (pe_ix (ix_listK (K := K) rfl) (pv 1) (pv 6) (fun _ _ => rfl)) (pa_cons (pv 7) pa_nil)))) pe_str (nomark _)) (pw_or1 (pt_cmpR op_ne (pe_call G_L_waits (hr.mono (by decide)) rfl (g_L_waits T) (kp_L_waits T) b_L_waits .nil pass0 (pa_cons (pv 0) (pa_cons (pe_ix (ix_listK (K := K) rfl) (pv 1) (pv 6) (fun _ _ => rfl)) (pa_cons (pv 5) pa_nil)))) pe_str (nomark _))))) (pss_one (ps_ret pe_bl))
        pss_nil)
        (pss_one (ps_if (PW.pt (pw_or (pt_cmpR op_ne (pe_call G_L_waits (hr.mono (by decide)) rfl (g_L_waits T) (kp_L_waits T) b_L_waits .nil pass0 (pa_cons (pv 0) (pa_cons (pe_ix (ix_listK (K := K) rfl) (pv 1) (pv 6) (fun _ _ => rfl)) (pa_cons (pe_ix (ix_listK (K := K) rfl) (pv 3) pe_int (fun _ _ => rfl)) pa_nil)))) pe_str (nomark _)) (pw_or1 (pt_cmpR op_ne (pe_call G_L_waits (hr.mono (by decide)) rfl (g_L_waits T) (kp_L_waits T) b_L_waits .nil pass0 (pa_cons (pv 0) (pa_cons (pe_ix (ix_listK (K := K) rfl) (pv 1) (pv 6) (fun _ _ => rfl)) (pa_cons pe_str pa_nil)))) pe_str (nomark _))))) (pss_one (ps_ret pe_bl))
        pss_nil)))))
        pss_nil))))
        (pss_one (ps_ret pe_bl)))), ?_⟩
    have hrung : ∀ b, d.rung b = [] := fun b => List.filter_eq_nil_iff.mpr fun c hc h => by
      obtain ⟨j, x, g1, g2, g3⟩ := S.of ok hc
      have hx := hall x (List.mem_of_getElem? g2)
      subst hx
      have h : c.md = .wtg b := of_decide_eq_true h
      rcases g3 with ⟨_, g⟩ | ⟨g, _⟩
      · rw [h] at g
        cases g
      · exact g rfl
    have hring : ∀ b, d.ring b = d := fun b => by
      unfold Dk.ring
      rw [hrung b]
      rfl
    have hs1F := eF _ _ hs1
    refine q_forLn (K := K) (xs := ss.map V.str) (ev_var rfl) (sq_of (D.fr _ _ hs1F))
      (fun i σ' H' => ∃ v5, σ' = [some (.ref p), some (.ref r), some (.ref ba), some (.ref sa), some (.ref a), v5, none, none] ∧ ∃ F', Ex F F' ∧ DeskAt K F' H' p d)
      (fun H1 e1 => ⟨none, rfl, F, Ex.refl F, D.ex e1⟩) (fun i σ' H' _ ⟨v5, _, F', eF', D'⟩ => sq_of (D'.fr _ _ (eF' _ _ hs1F))) ?_ ?_
    · rintro i x σ' H' hi ⟨v5, rfl, F', eF', D'⟩
      rw [List.getElem?_map] at hi
      obtain ⟨b, hb, rfl⟩ := Option.map_eq_some_iff.mp hi
      have hbn := hss b (List.mem_of_getElem? hb)
      have hbz := (isName_len hbn).2
      refine ms_when (b := false) (R := fun H1 => ∃ F', Ex F F' ∧ DeskAt K F' H1 p d) (mt_is (mt_not (b := true) (mt_B (mv_call2 (mx_call (vs := [.ref p, .str b]) (ea_cons (ev_var rfl) (ea_cons (ev_var rfl) ea_nil)) fun H3 e3 => my_rings (D'.ex e3) ok.wf (by omega) hbn) fun v H3 ⟨q, ev, hq, D3⟩ Q kk => ?_))) rfl) (fun h => by cases h) fun _ H4 ⟨F4, eF4, D4⟩ => ⟨_, rfl, F4, eF4, D4⟩
      subst ev
      rw [hrung b, hring b] at D3
      refine (el_lst (σ := [some (.ref p), some (.ref r), some (.ref ba), some (.ref sa), some (.ref a), some (.str b), none, none]) (H := H3) ea_nil (by decide)) H3 (Ex.refl H3) _ fun y H4 hy e4 h4 => ?_
      exact ⟨q, y, [], rfl, e4 _ _ (D3.fr _ _ upd_same), h4, by decide, fun H5 e5 => kk H5 ⟨_, eF'.trans (Ex.new hq), D3.ex (e4.trans e5)⟩⟩
    rintro σ' H1 ⟨v5, rfl, F2, eF2, D2⟩
    have la : ((nms.map V.str).length : Int) = (nms.length : Int) := by rw [List.length_map]
    obtain ⟨s0, s1, s2, s3, rfl⟩ : ∃ s0 s1 s2 s3, ss = [s0, s1, s2, s3] := by
      match ss, h4 with
      | [s0, s1, s2, s3], _ => exact ⟨s0, s1, s2, s3, rfl⟩
    have n3 := hss s3 (by simp)
    have n3z := (isName_len n3).2
    refine q_forR1 (n := ((nms.map V.str).length : Int)) (ea_cons (ev_cb (ea_cons (ev_var rfl) ea_nil) (rc_lenS (sq_of (D2.fr _ _ ((eF.trans eF2) _ _ hr1))))) ea_nil) (by rw [la]; omega)
      (fun i σ' H' => ∃ v5 v6 v7 F' d' bs', σ' = [some (.ref p), some (.ref r), some (.ref ba), some (.ref sa), some (.ref a), v5, v6, v7] ∧ Ex F1 F' ∧ F' ba = some (.lst (bs'.map V.str)) ∧ DeskAt K F' H' p d' ∧ d'.Ok ∧ BlOk d' nms bs' rs ∧ ∀ j, i ≤ j → bs'.getD j "" = "")
      (fun H3 e3 => ⟨_, _, _, F2, d, bs, rfl, eF.trans eF2, eF2 _ _ hba, D2.ex e3, ok, S, fun j _ => ?_⟩) ?_ ?_
    · rw [List.getD_eq_getElem?_getD]
      cases hx : bs[j]? with
      | none => rfl
      | some x => exact hall x (List.mem_of_getElem? hx)
    · rintro i σ' H' hi ⟨v5, v6, v7, F', d', bs', rfl, eF', hba', D', ok', S', hz'⟩
      rw [la] at hi
      obtain ⟨nm, b0, r0, c, h1, h2, h3, hc, hrk, hm⟩ := S'.look (k := i) (by omega)
      have hb0 : b0 = "" := by
        have := hz' i (Nat.le_refl _)
        rw [List.getD_eq_getElem?_getD, h2] at this
        exact this
      subst hb0
      have hcR : c.md.isR = true := by
        rcases hm with ⟨_, h⟩ | ⟨h, _⟩
        · exact h
        · exact absurd rfl h
      obtain ⟨hc1, hc2⟩ := Dk.get_some hc
      have an := at_str h1
      have hSH : SqL K H' a (ns.map V.int) := ex_l (eF'.trans D'.fr) hS1
      have hsH := D'.fr _ _ (eF' _ _ hs1)
      obtain ⟨bell, hbell, hat⟩ := pick_allS (xs := ["", s0, s1, s2]) (i := mix (cellAt ns (4 + (i : Int)) + (i : Int)) 10007 4) (P := fun s => s = "" ∨ isName s = true) (mix_nonneg (by decide)) (mix_lt (by decide)) (by
        intro x hx
        simp only [List.mem_cons, List.not_mem_nil, or_false] at hx
        rcases hx with rfl | rfl | rfl | rfl
        · exact .inl rfl
        · exact .inr (hss _ (by simp))
        · exact .inr (hss _ (by simp))
        · exact .inr (hss _ (by simp)))
      refine q_asg (v := .str bell) (ev_opL1 (xs := (["", s0, s1, s2] : List Str).map V.str) (el_lst (ea_cons ev_c (ea_cons (ev_op (ev_var rfl) ev_c (rv_ixL (sq_of hsH) rfl)) (ea_cons (ev_op (ev_var rfl) ev_c (rv_ixL (sq_of hsH) rfl)) (ea_cons (ev_op (ev_var rfl) ev_c (rv_ixL (sq_of hsH) rfl)) ea_nil)))) (by show 4 ≤ 100000; decide)) (fun H3 e3 => ev_call (ea_cons (ev_op (ev_call (ea_cons (ev_var rfl) (ea_cons (ev_op ev_c (ev_var rfl) rv_I0) ea_nil)) (cv_L_cell_at (ex_l e3 hSH) (by omega))) (ev_var rfl) rv_I0) (ea_cons ev_c (ea_cons ev_c ea_nil))) (cv_L_mix (by decide) (by decide))) (fun q H3 h3 e3 => rv_ixL (sq_of h3) hat)) fun H3 e3 => ?_
      have D3 := D'.ex e3
      have hbl : bell.length ≤ 12 := by
        rcases hbell with rfl | h
        · decide +kernel
        · exact (isName_len h).2
      refine s_when (b := !decide (V.str bell = V.str "")) (et_test (ev_op (ev_var rfl) ev_c (rv_ne rfl))) (fun hb H4 e4 => ?_) (fun hb H4 e4 => ⟨_, _, _, F', d', bs', rfl, eF', hba', D3.ex e4, ok', S', fun j hj => hz' j (by omega)⟩)
      have hbne : bell ≠ "" := by
        rw [decV] at hb
        simpa using hb
      have hbn : isName bell = true := hbell.resolve_left hbne
      have hil : i < bs'.length := by rw [S'.len]; omega
      refine q_setL (xs := bs'.map V.str) (l := ba) (j := i) (v := .str bell) ((D3.ex e4).fr _ _ hba') (ev_var rfl) (ev_var rfl) (ev_var rfl) (by rw [List.length_map]; exact hil) fun H5 e5 => ?_
      have D5 := (D3.ex (e4.trans e5)).set (u := .lst ((bs'.map V.str).set i (.str bell))) hba'
      have hset : (bs'.map V.str).set i (.str bell) = (bs'.set i bell).map V.str := (List.map_set ..).symm
      rw [hset] at D5 ⊢
      have eF5 : Ex F1 (upd F' ba (.lst ((bs'.set i bell).map V.str))) := Ex.mut eF' hba1
      have hb5 := upd_same (H := F') (a := ba) (o := .lst ((bs'.set i bell).map V.str))
      generalize upd F' ba (.lst ((bs'.set i bell).map V.str)) = F5 at *
      generalize upd H5 ba (.lst ((bs'.set i bell).map V.str)) = H6 at *
      obtain ⟨odd, hodd, hato⟩ := pick_allS (xs := [bell ++ "?", repS "b" (13 : Int).toNat]) (i := (i : Int) % 2) (P := fun s => isName s = false ∧ s.length ≤ 100) (by omega) (by show (i : Int) % 2 < 2; omega) (by
        intro x hx
        simp only [List.mem_cons, List.not_mem_nil, or_false] at hx
        rcases hx with rfl | rfl
        · refine ⟨name_q, ?_⟩
          rw [len_app]
          have : ("?" : Str).length = 1 := by decide +kernel
          omega
        · exact ⟨by decide +kernel, by decide +kernel⟩)
      refine q_asg (v := .str odd) (ev_opL1 (xs := ([bell ++ "?", repS "b" (13 : Int).toNat] : List Str).map V.str) (el_lst (ea_cons (ev_op (ev_var rfl) ev_c (rv_addS ?hz)) (ea_cons (ev_op ev_c ev_c (rv_repS (by decide) (by decide) (by decide +kernel) (by decide +kernel))) ea_nil)) (by show 2 ≤ 100000; decide)) (fun H7 e7 => ev_op (ev_var rfl) ev_c (rv_I (show (0 : Int) < 2 by decide))) (fun q H7 h7 e7 => rv_ixL (sq_of h7) hato)) fun H7 e7 => ?_
      case hz =>
        have : ("?" : Str).length = 1 := by decide +kernel
        rw [this]
        exact sz_of (by omega)
      have D7 := D5.ex e7
      have hnmF : ∀ {H8 dd}, DeskAt K F5 H8 p dd → SqL K H8 r (nms.map V.str) := fun D8 => sq_of (D8.fr _ _ (eF5 _ _ hr1))
      have hssF : ∀ {H8 dd}, DeskAt K F5 H8 p dd → SqL K H8 sa ([s0, s1, s2, s3].map V.str) := fun D8 => sq_of (D8.fr _ _ (eF5 _ _ hs1))
      have W2 : (d'.put ⟨c.nm, c.rk, .wtg bell⟩).Wf := ok'.wf.put hc1 rfl
      have hg2 : (d'.put ⟨c.nm, c.rk, .wtg bell⟩).get nm = some ⟨c.nm, c.rk, .wtg bell⟩ := Dk.get_put_at ok'.nd (x := ⟨c.nm, c.rk, .wtg bell⟩) hc2
      have S2 := S'.put ok' h1 hc (md := .wtg bell) (b := bell) (.inr ⟨hbne, rfl⟩)
      have ok2 : (d'.put ⟨c.nm, c.rk, .wtg bell⟩).Ok := ok'.put hc1 (show isName bell = true from hbn)
      have eM := waitErr_none hc hbn hcR
      have hR : ∀ {dd : Dk} (H1 H2 : Hp), DeskAt K F5 H1 p dd → Ex H1 H2 → DeskAt K F5 H2 p dd := fun _ _ D e => D.ex e
      have hd2 : ∀ {H1}, DeskAt K F5 H1 p d' → MvS (sp_L_waits K) ([.ref p, .str nm, .str bell] ++ []) H1 (.str "") fun H' => DeskAt K F5 H' p (d'.put ⟨c.nm, c.rk, .wtg bell⟩) := fun D1 => ms_waits D1 ok'.wf (by omega) eM hc
      generalize d'.put ⟨c.nm, c.rk, .wtg bell⟩ = d2 at *
      refine mq_when (b := false) (R := fun H' => DeskAt K F5 H' p d2) (mt_or (R1 := fun H' => DeskAt K F5 H' p d') (mv_neC (mv_call (vs := [.ref p, .str nm, .str odd]) (ea_cons (ev_var rfl) (ea_cons (ev_op (ev_var rfl) (ev_var rfl) (rv_ixL (hnmF D7) an)) (ea_cons (ev_var rfl) ea_nil))) fun H8 e8 => ms_waits_e (D7.ex e8) ok'.wf (by omega) (waitErr_name hc hodd.1)) hR (by decide +kernel)) fun H8 D8 => mv_neC (mv_call (vs := [.ref p, .str nm, .str bell]) (ea_cons (ev_var rfl) (ea_cons (ev_op (ev_var rfl) (ev_var rfl) (rv_ixL (hnmF D8) an)) (ea_cons (ev_var rfl) ea_nil))) fun H9 e9 => hd2 (D8.ex e9)) hR (by decide +kernel)) (fun h => by cases h) fun _ H8 D8 => ?_
      refine ms_when (b := false) (R := fun H' => DeskAt K F5 H' p d2) (mt_or (R1 := fun H' => DeskAt K F5 H' p d2) (mv_neC (mv_call (vs := [.ref p, .str nm, .str s3]) (ea_cons (ev_var rfl) (ea_cons (ev_op (ev_var rfl) (ev_var rfl) (rv_ixL (hnmF D8) an)) (ea_cons (ev_op (ev_var rfl) ev_c (rv_ixL (hssF D8) rfl)) ea_nil))) fun H9 e9 => ms_waits_e (D8.ex e9) W2 (by omega) (waitErr_wait hg2 n3 rfl)) hR (by decide +kernel)) fun H9 D9 => mv_neC (mv_call (vs := [.ref p, .str nm, .str ""]) (ea_cons (ev_var rfl) (ea_cons (ev_op (ev_var rfl) (ev_var rfl) (rv_ixL (hnmF D9) an)) (ea_cons ev_c ea_nil))) fun H9 e9 => ms_waits_e (D9.ex e9) W2 (by decide +kernel) (waitErr_name hg2 (by decide +kernel))) hR (by decide +kernel)) (fun h => by cases h) fun _ H9 D9 => ?_
      exact ⟨_, _, _, F5, d2, _, rfl, eF5, hb5, D9, ok2, S2, fun j hj => by
        rw [List.getD_eq_getElem?_getD, List.getElem?_set_ne (by omega), ← List.getD_eq_getElem?_getD]
        exact hz' j (by omega)⟩
    · rintro σ' H' ⟨v5, v6, v7, F', d', bs', rfl, eF', hba', D', ok', S', _⟩
      exact s_ret ev_c fun H2 e2 => k F' H2 d' bs' eF' hba' (D'.ex e2) ok' S'
/-! ### aged -/
theorem sc_aged : FnScope ["rank", "waited", "pace"] ["rank", "waited", "pace"] (defScope s_aged) := ⟨rfl, rfl, rfl, by decide +kernel, rfl, by decide +kernel, by decide +kernel⟩
def sp_aged (_ : PySem.W.Frag) : Sp := fun vs H Q _ => ∃ (r wt p : Int), vs = [.int r, .int wt, .int p] ∧ 0 < p ∧ p < 1073741824 ∧ RetV (.int (r + wt / p)) H Q
theorem cv_aged {K : PySem.W.Frag} {H : Hp} {r wt p : Int} (h1 : 0 < p) (h2 : p < 1073741824) : SpV (sp_aged K) ([.int r, .int wt, .int p] ++ []) H (.int (r + wt / p)) := spv_call fun _ _ _ _ k => ⟨r, wt, p, rfl, h1, h2, k⟩
local macro_rules | `(tactic| tm_at "rr.cv") => `(tactic| refine' cv_aged ?_ ?_)
theorem ok_aged {P : Program} {w : World} {K : PySem.W.Frag} {mg : Str → Option Value} {base : Heap} (T : Txt K mg) : ∃ fd, FnOk P w K mg base (CX0) 1 (He.ga K "aged") fd ["rank", "waited", "pace"] (sp_aged K) ∧ Binds K fd ["rank", "waited", "pace"] [] ∧ FunD K "aged" "aged" (defArgs s_aged) (defBody s_aged) (defScope s_aged) [] [] (He.ga K "aged") fd := by
  obtain ⟨fd, F⟩ := f_aged T
  refine ⟨fd, ok0 F sc_aged (fun vs H Q E h => ?_) (fun cdv A outer s H vs Q E hr h => ?_), FunD.bindsN F fun _ _ _ _ _ _ us hl => match us, hl with | [_, _, _], _ => rfl, F⟩
  · (repeat (obtain ⟨_, h⟩ := h)); subst_vars; rfl
  · obtain ⟨r, wt, p, rfl, h1, h2, k⟩ := h
    refine ⟨_, (pss_one (ps_ret (pe_op op_add (pv 0) (pe_op op_fdiv (pv 1) (pv 2))))), ?_⟩
    exact s_ret (ev_op (ev_var rfl) (ev_op (ev_var rfl) (ev_var rfl) (rv_I ⟨h1, h2⟩)) rv_I0) k
/-! ### first -/
theorem sc_first : FnScope ["rows", "pace", "best", "most", "k", "found"] ["rows", "pace"] (defScope s_first) := ⟨rfl, rfl, rfl, by decide +kernel, rfl, by decide +kernel, by decide +kernel⟩
def sp_first (K : PySem.W.Frag) : Sp := fun vs H Q _ => ∃ (a : Addr) (qs : List (Int × Int)) (ts : List Addr) (p : Int), vs = [.ref a, .int p] ∧ Rows K H a qs ts ∧ qs.length ≤ 1000 ∧ 0 < p ∧ p < 1073741824 ∧ RetV (optV (firstIdx p qs)) H Q
theorem cv_first {K : PySem.W.Frag} {H : Hp} {a : Addr} {qs : List (Int × Int)} {ts : List Addr} {p : Int} (h : Rows K H a qs ts) (h1 : qs.length ≤ 1000) (h2 : 0 < p) (h3 : p < 1073741824) : SpV (sp_first K) ([.ref a, .int p] ++ []) H (optV (firstIdx p qs)) :=
  spv_call fun _ e _ _ k => ⟨a, qs, ts, p, rfl, h.ex e, h1, h2, h3, k⟩
theorem ok_first {P : Program} {w : World} {K : PySem.W.Frag} {mg : Str → Option Value} {base : Heap} (T : Txt K mg) : ∃ fd, FnOk P w K mg base (CX0) 2 (He.ga K "first") fd ["rows", "pace"] (sp_first K) ∧ Binds K fd ["rows", "pace"] [] ∧ FunD K "first" "first" (defArgs s_first) (defBody s_first) (defScope s_first) [] [] (He.ga K "first") fd := by
  obtain ⟨fd, F⟩ := f_first T
  obtain ⟨d_aged, G_aged, b_aged, _⟩ := ok_aged (P := P) (w := w) (base := base) T
  refine ⟨fd, ok0 F sc_first (fun vs H Q E h => ?_) (fun cdv A outer s H vs Q E hr h => ?_), FunD.bindsN F fun _ _ _ _ _ _ us hl => match us, hl with | [_, _], _ => rfl, F⟩
  · (repeat (obtain ⟨_, h⟩ := h)); subst_vars; rfl
  · obtain ⟨a, qs, ts, p, rfl, hR, hz, hp, hp2, k⟩ := h
    refine ⟨_, (pss_cons (ps_set (i := 2) sc_first.nd rfl (Or.inl rfl) pe_non)
        (pss_cons (ps_set (i := 3) sc_first.nd rfl (Or.inl rfl) pe_int)
        (pss_cons (ps_for PassesOwn.never rfl (pi_range1 rfl (b_range T) (pa_cons (pe_callB (call_lenK (K := K) rfl) rfl (b_len T) (by decide +kernel) (pa_cons (pv 0) pa_nil)) pa_nil)) (pg_name (i := 4) sc_first.nd rfl (Or.inl rfl))
        (pss_cons (ps_set (i := 5) sc_first.nd rfl (Or.inl rfl) (pe_call G_aged (hr.mono (by decide)) rfl (g_aged T) (kp_aged T) b_aged .nil pass0 (pa_cons (pe_ix (ix_tupK (K := K) rfl) (pe_ix (ix_listK (K := K) rfl) (pv 0) (pv 4) (fun _ _ => rfl)) pe_int (fun _ _ => rfl)) (pa_cons (pe_ix (ix_tupK (K := K) rfl) (pe_ix (ix_listK (K := K) rfl) (pv 0) (pv 4) (fun _ _ => rfl)) pe_int (fun _ _ => rfl)) (pa_cons (pv 1) pa_nil)))))
        (pss_one (ps_if (PW.pt (pw_or (pt_cmpR op_isN (pv 2) pe_non (nomark _)) (pw_or1 (pt_cmpR op_gt (pv 5) (pv 3) (nomark _))))) (pss_cons (ps_set (i := 2) sc_first.nd rfl (Or.inl rfl) (pv 4))
        (pss_one (ps_set (i := 3) sc_first.nd rfl (Or.inl rfl) (pv 5))))
        pss_nil))))
        (pss_one (ps_ret (pv 2)))))), ?_⟩
    refine' q_asg ev_c fun H1 e1 => ?_
    refine' q_asg ev_c fun H2 e2 => ?_
    have hR2 := hR.ex (e1.trans e2)
    have hl : ((ts.map V.ref).length : Int) = (qs.length : Int) := by rw [List.length_map, hR.n]
    refine q_forR1 (n := ((ts.map V.ref).length : Int)) (ea_cons (ev_cb (ea_cons (ev_var rfl) ea_nil) (rc_lenS hR2.l)) ea_nil) (by omega)
      (fun i σ' H' => Ex H2 H' ∧ ∃ v4 v5 : Option V, σ' = [some (.ref a), some (.int p), some (optV (fstate p qs i).1), some (.int (fstate p qs i).2), v4, v5]) (fun H3 e3 => ⟨e3, none, none, rfl⟩) ?_ ?_
    · rintro i σ' H' hi ⟨e3, v4, v5, rfl⟩
      have hi' : i < qs.length := by omega
      have hR3 := hR2.ex e3
      obtain ⟨t, ht, hT⟩ := hR3.at_ hi'
      refine' q_asg (v := .int (ag p (qs.getD i (0, 0)))) ?h fun H4 e4 => ?_
      case h =>
        exact ev_call (ea_cons (ev_op (ev_op (ev_var rfl) (ev_var rfl) (rv_ixL hR3.l (at_of rfl ht))) ev_c (rv_ixT hT rfl)) (ea_cons (ev_op (ev_op (ev_var rfl) (ev_var rfl) (rv_ixL hR3.l (at_of rfl ht))) ev_c (rv_ixT hT rfl)) (ea_cons (ev_var rfl) ea_nil))) (cv_aged hp hp2)
      refine' s_when ?h (fun hb H5 e5 => ?_) (fun hb H5 e5 => ?_)
      case h => tm_at "rr.ev"
      · refine' q_asg (ev_var rfl) fun H6 e6 => ?_
        refine' s_asg (ev_var rfl) fun H7 e7 => ?_
        have c : (fstate p qs i).1 = none ∨ (fstate p qs i).2 < ag p (qs.getD i (0, 0)) := by
          cases e9 : (fstate p qs i).1 with
          | none => exact .inl rfl
          | some j =>
            rw [e9] at hb
            exact .inr (of_decide_eq_true (by simpa [optV] using hb))
        refine ⟨(((e3.trans e4).trans e5).trans e6).trans e7, some (.int i), some (.int (ag p (qs.getD i (0, 0)))), ?_⟩
        rw [fstate_succ, fstep, if_pos c]
        rfl
      · have c : ¬ ((fstate p qs i).1 = none ∨ (fstate p qs i).2 < ag p (qs.getD i (0, 0))) := by
          intro c
          rcases c with c | c
          · rw [c] at hb
            exact absurd hb (by simp [optV])
          · rw [decide_eq_true c] at hb
            exact absurd hb (by simp)
        refine ⟨(e3.trans e4).trans e5, some (.int i), some (.int (ag p (qs.getD i (0, 0)))), ?_⟩
        rw [fstate_succ, fstep, if_neg c]
        rfl
    · rintro σ' H' ⟨e3, v4, v5, rfl⟩
      have ez : ((ts.map V.ref).length : Int).toNat = qs.length := by omega
      rw [ez]
      exact s_ret (ev_var rfl) fun H4 e4 => k H4 (((e1.trans e2).trans e3).trans e4)
/-! ### desk_turn -/
theorem sc_desk_turn : FnScope ["self", "chosen", "able", "place", "caller"] ["self"] (defScope s_desk_turn) := ⟨rfl, rfl, rfl, by decide +kernel, rfl, by decide +kernel, by decide +kernel⟩
def sp_desk_turn (K : PySem.W.Frag) : Sp := fun vs H Q _ => ∃ (F : Hp) (p : Addr) (d : Dk), vs = [.ref p] ∧ DeskAt K F H p d ∧ d.Wf ∧ (∀ H', DeskAt K F H' p d.turn.2 → Q (optS d.turn.1) H')
theorem ok_desk_turn {P : Program} {w : World} {K : PySem.W.Frag} {mg : Str → Option Value} {base : Heap} (T : Txt K mg) : ∃ fd, FnOk P w K mg base (CX0) 3 (He.ma K (He.ga K "Desk") "turn") fd ["self"] (sp_desk_turn K) ∧ Binds K fd ["self"] [] ∧ FunD K "turn" "Desk.turn" (defArgs s_desk_turn) (defBody s_desk_turn) (defScope s_desk_turn) [] [] (He.ma K (He.ga K "Desk") "turn") fd := by
  obtain ⟨fd, F⟩ := f_desk_turn T
  obtain ⟨d_desk_those, G_desk_those, b_desk_those, _⟩ := ok_desk_those (P := P) (w := w) (base := base) T
  obtain ⟨d_first, G_first, b_first, _⟩ := ok_first (P := P) (w := w) (base := base) T
  obtain ⟨d_desk_become, G_desk_become, b_desk_become, _⟩ := ok_desk_become (P := P) (w := w) (base := base) T
  refine ⟨fd, ok0 F sc_desk_turn (fun vs H Q E h => ?_) (fun cdv A outer s H vs Q E hr h => ?_), FunD.bindsN F fun _ _ _ _ _ _ us hl => match us, hl with | [_], _ => rfl, F⟩
  · (repeat (obtain ⟨_, h⟩ := h)); subst_vars; rfl
  · obtain ⟨F, p, d, rfl, ⟨l, ps, D, f⟩, W, k⟩ := h
    refine ⟨_, (pss_cons (ps_set (i := 1) sc_desk_turn.nd rfl (Or.inl rfl) pe_non)
        (pss_cons (ps_set (i := 2) sc_desk_turn.nd rfl (Or.inl rfl) (pe_meth (pv 0) (c_Desk T) (m_desk_those T) G_desk_those (hr.mono (by decide)) b_desk_those .nil pass0 (pa_cons pe_str pa_nil)))
        (pss_cons (ps_set (i := 3) sc_desk_turn.nd rfl (Or.inl rfl) (pe_call G_first (hr.mono (by decide)) rfl (g_first T) (kp_first T) b_first .nil pass0 (pa_cons (pe_lc (own := [("caller", 4)]) (g := gName 4) (tt := tYes) rfl sc_desk_turn.nd (pi_listK (K := K) rfl (pv 2)) (blkOk_by (own := [("caller", 4)]) (N := ["self", "chosen", "able", "place", "caller"]) (sc := defScope s_desk_turn) (by decide +kernel)) (fun _ _ _ _ _ => (pg_name (i := 4) sc_desk_turn.nd rfl (Or.inl rfl))) (fun _ _ _ _ _ => pts_nil) (fun _ _ _ _ _ => (pe_tup (pa_cons (pe_fldK (K := K) rfl (pv 4) rfl) (pa_cons (pe_op op_sub (pe_fldK (K := K) rfl (pv 0) rfl) (pe_fldK (K := K) rfl (pv 4) rfl)) pa_nil))))) (pa_cons (pe_fldK (K := K) rfl (pv 0) rfl) pa_nil))))
        (pss_cons (ps_if (pt_cmpR op_notN (pv 3) pe_non (nomark _)) (pss_one (ps_set (i := 1) sc_desk_turn.nd rfl (Or.inl rfl) (pe_ix (ix_listK (K := K) rfl) (pv 2) (pv 3) (fun _ _ => rfl))))
        pss_nil)
        (pss_cons (ps_fld (pv 0) (pe_op op_add (pe_fldK (K := K) rfl (pv 0) rfl) pe_int) rfl)
        (pss_cons (ps_for PassesOwn.never rfl (pi_listK (K := K) rfl (pe_meth (pv 0) (c_Desk T) (m_desk_those T) G_desk_those (hr.mono (by decide)) b_desk_those .nil pass0 (pa_cons pe_str pa_nil))) (pg_name (i := 4) sc_desk_turn.nd rfl (Or.inl rfl))
        (pss_one (ps_if (pt_cmpR op_le (pe_fldK (K := K) rfl (pv 4) rfl) (pe_fldK (K := K) rfl (pv 0) rfl) (nomark _)) (pss_one (ps_expr (pe_meth (pv 0) (c_Desk T) (m_desk_become T) G_desk_become (hr.mono (by decide)) b_desk_become .nil pass0 (pa_cons (pv 4) (pa_cons pe_str (pa_cons (pe_fldK (K := K) rfl (pv 0) rfl) pa_nil))))))
        pss_nil)))
        (pss_cons (ps_if (pt_cmpR op_isN (pv 1) pe_non (nomark _)) (pss_one (ps_ret pe_non))
        pss_nil)
        (pss_cons (ps_expr (pe_meth (pv 0) (c_Desk T) (m_desk_become T) G_desk_become (hr.mono (by decide)) b_desk_become .nil pass0 (pa_cons (pv 1) (pa_cons pe_str (pa_cons (pe_fldK (K := K) rfl (pv 0) rfl) pa_nil)))))
        (pss_one (ps_ret (pe_fldK (K := K) rfl (pv 1) rfl))))))))))), ?_⟩
    have hW := W.len
    have hln := D.len
    have nd := D.nd W.nd
    refine q_asg ev_c fun H1 e1 => ?_
    have D1 := D.ex e1
    have f1 := f.mono e1
    obtain ⟨dx, hp1⟩ := D1.ob
    obtain ⟨rs, ers⟩ : ∃ rs, rs = ps.filter fun q => q.2.md.isR := ⟨_, rfl⟩
    have ers' : (ps.filter fun q => decide (q.2.md.st = ("ready" : Str))) = rs := by
      rw [ers]
      exact List.filter_congr fun q _ => st_ready _
    have hrsub : ∀ q ∈ rs, q ∈ ps ∧ q.2.md.isR = true := fun q hq => by rw [ers] at hq; exact ⟨(List.mem_filter.mp hq).1, (List.mem_filter.mp hq).2⟩
    have hrlen : rs.length ≤ ps.length := by rw [ers]; exact List.length_filter_le _ _
    have eable : d.able = rs.map (·.2) := by
      unfold Dk.able
      rw [D.eq, List.filter_map, ers]
      rfl
    have eprs : d.prs = rs.map fun q => (q.2.rk, d.now - q.2.md.since) := by
      unfold Dk.prs
      rw [eable, List.map_map]
      rfl
    refine q_asgL (xs := rs.map fun q => V.ref q.1) ?h fun fa H2 hfa e2 h2 => ?_
    case h =>
      rw [← ers']
      exact el_meth (ev_var rfl) hp1 rfl (ea_cons ev_c ea_nil) (cv_those D1 (by omega))
    have D2 := D1.ex e2
    have f2 := f1.new D1 hfa e2 h2
    have hp2 := e2 _ _ hp1
    refine q_asg (v := optV (firstIdx d.pace d.prs)) ?h fun H3 e3 => ?_
    case h =>
      intro H0 e0 Q q
      have rr := er_lc (K := K) (σ := [some (.ref p), some .non, some (.ref fa), none, none]) (H := H2) (tl := tVar 2) (j := 4) (ws := [4]) (ta := tCons (tFld K (tVar 4) "grade") (tCons (tOp (rI0 fun i j => .int (i - j)) (tFld K (tVar 0) "now") (tFld K (tVar 4) "mark")) tNil))
        (ps := rs) (uu := fun q => V.ref q.1) (fun q => [.int q.2.rk, .int (d.now - q.2.md.since)]) (ev_var rfl) (sq_of h2) (by omega) (fun _ => rfl) (fun q _ => by show 2 ≤ 1000; decide) (fun q hq H4 e4 => ?_)
      · refine call2 ?_
        refine rr H0 e0 _ fun r H4 ts hr e4 h4 t4 => ?_
        have h8 : rs.map (fun q => [V.int q.2.rk, V.int (d.now - q.2.md.since)]) = d.prs.map fun q => [V.int q.1, V.int q.2] := by rw [eprs, List.map_map]; rfl
        rw [h8] at t4
        obtain ⟨dx4, hp4⟩ := (D2.ex (e0.trans e4)).ob
        refine ⟨_, rfl, p, aD K, dx4, _, _, rfl, hp4, c_Desk T, n_Desk_pace T, rfl, ?_⟩
        have hp := W.p1
        have hp' := W.p2
        exact cv_first t4.rows (by rw [eprs, List.length_map]; omega) (by omega) (by omega) H4 (Ex.refl H4) Q (fun H5 e5 => q H5 (e4.trans e5)) E0
      · obtain ⟨h5, h6⟩ := hrsub q hq
        have hm := ev_mark (ta := tVar 4) (σ := (wipe [some (.ref p), some .non, some (.ref fa), none, none] [4]).set 4 (some (.ref q.1))) T (ev_var rfl) ((D2.at_ q h5).ex e4)
        rw [mark_rdy h6] at hm
        exact ea_cons (ev_grade T (ev_var rfl) ((D2.at_ q h5).ex e4)) (ea_cons (ev_op (ev_now T (ev_var rfl) (D2.ex e4)) hm rv_I0) ea_nil)
    have D3 := D2.ex e3
    have f3 := f2.mono e3
    have hp3 := e3 _ _ hp2
    obtain ⟨oq, eoq⟩ : ∃ oq : Option Pr, oq = (firstIdx d.pace d.prs).bind fun j => rs[j]? := ⟨_, rfl⟩
    have ech : d.chosen = oq.map (·.2) := by
      unfold Dk.chosen
      rw [eoq, eable]
      cases firstIdx d.pace d.prs with
      | none => rfl
      | some j => show (rs.map (·.2))[j]? = rs[j]?.map (·.2); rw [List.getElem?_map]
    have hoq : ∀ q, oq = some q → q ∈ ps ∧ q.2.md.isR = true := fun q hq => by
      rw [eoq] at hq
      cases hf : firstIdx d.pace d.prs with
      | none => rw [hf] at hq; cases hq
      | some j => rw [hf] at hq; exact hrsub q (List.mem_of_getElem? hq)
    refine q_ifAsg (b := !decide (optV (firstIdx d.pace d.prs) = .non)) (v := match oq with | none => .non | some q => .ref q.1) ?c (fun hb => ?h1) (fun hb => ?h2) (fun H4 e4 => ?_)
    case c => exact et_test (ev_op (ev_var rfl) ev_c rv_notN)
    case h1 =>
      cases hf : firstIdx d.pace d.prs with
      | none => rw [hf] at hb; exact absurd hb (by simp [optV])
      | some j =>
        have hj : j < rs.length := by
          have := firstIdx_is d.pace d.prs
          rw [hf, eprs] at this
          have := this.1
          rwa [List.length_map] at this
        rw [eoq, hf]
        show Ev _ _ _ (match rs[j]? with | none => V.non | some q => V.ref q.1)
        rw [List.getElem?_eq_getElem hj]
        exact ev_op (ev_var rfl) (ev_var rfl) (rv_ixL (sq_of (e3 _ _ h2)) (at_of rfl (by rw [List.getElem?_map, List.getElem?_eq_getElem hj]; rfl)))
    case h2 =>
      cases hf : firstIdx d.pace d.prs with
      | some j => rw [hf] at hb; exact absurd hb (by simp [optV])
      | none => rw [eoq, hf]; rfl
    have D4 := D3.ex e4
    have f4 := f3.mono e4
    have hp4 := e4 _ _ hp3
    refine q_fld (ev_op (ev_now T (ev_var rfl) D4) ev_c rv_I0) (ev_var rfl) hp4 (c_Desk T) (n_Desk_now T) (by show 4 < 1000; decide) fun H5 e5 => ?_
    obtain ⟨D5, f5⟩ := (D4.ex e5).tick (f4.mono e5) (e5 _ _ hp4)
    generalize upd H5 p (HO.ins (aD K) dx (putF "now" (V.int (d.now + 1)) (dfs d l))) = H6 at D5 f5 ⊢
    have Wt : d.tick.Wf := ⟨W.p1, W.p2, W.len, W.nd⟩
    obtain ⟨ss, ess⟩ : ∃ ss, ss = ps.filter fun q => q.2.md.isS := ⟨_, rfl⟩
    have ess' : (ps.filter fun q => decide (q.2.md.st = ("asleep" : Str))) = ss := by
      rw [ess]
      exact List.filter_congr fun q _ => st_asleep _
    have hssub : ∀ q ∈ ss, q ∈ ps ∧ q.2.md.isS = true := fun q hq => by rw [ess] at hq; exact ⟨(List.mem_filter.mp hq).1, (List.mem_filter.mp hq).2⟩
    have hslen : ss.length ≤ ps.length := by rw [ess]; exact List.length_filter_le _ _
    have nds : (ss.map fun q => q.2.nm).Nodup := by rw [ess]; exact (List.filter_sublist.map _).nodup nd
    obtain ⟨dx5, hp5⟩ := D5.ob
    refine q_forNLn (K := K) (xs := ss.map fun q => V.ref q.1) ?h (fun sa i σ' H' => (∃ v, σ' = [some (.ref p), some (match oq with | none => .non | some q => .ref q.1), some (.ref fa), some (optV (firstIdx d.pace d.prs)), v]) ∧ H6 sa = none ∧ Wk K (upd (upd F fa (.lst (rs.map fun q => V.ref q.1))) sa (.lst (ss.map fun q => V.ref q.1))) H' p d.tick ps ((ss.take i).filter fun q => due (d.now + 1) q.2))
      (fun sa H7 hsa e7 h7 => ⟨⟨none, rfl⟩, hsa, Wt, l, ps, D5.ex e7, f5.new D5 hsa e7 h7, fun r hr _ => hr, fun r hr => by simp at hr⟩) (fun sa i σ' H' _ ⟨_, _, ⟨_, _, _, _, f3, _⟩⟩ => sq_of (f3.ex _ _ upd_same)) ?_ ?_
    case h =>
      rw [← ess']
      exact el_meth (ev_var rfl) hp5 rfl (ea_cons ev_c ea_nil) (cv_those D5 (by omega))
    · rintro sa i x σ' H' hi ⟨⟨v, rfl⟩, hsa, ⟨w7, l7, ps7, D7, f7, h71, h72⟩⟩
      rw [List.getElem?_map] at hi
      cases hq : ss[i]? with
      | none => rw [hq] at hi; cases hi
      | some q =>
        rw [hq] at hi
        cases hi
        have hlt : i < ss.length := (List.getElem?_eq_some_iff.mp hq).1
        obtain ⟨hqp, hqs⟩ := hssub q (List.mem_of_getElem? hq)
        have hqn : q ∉ (ss.take i).filter fun q => due (d.now + 1) q.2 := fun h => by
          have h := (List.mem_filter.mp h).1
          have ndd : ((ss.take i ++ ss.drop i).map fun q => q.2.nm).Nodup := by rw [List.take_append_drop]; exact nds
          rw [List.map_append, List.nodup_append] at ndd
          exact ndd.2.2 _ (List.mem_map.mpr ⟨q, h, rfl⟩) _ (List.mem_map.mpr ⟨q, by rw [List.drop_eq_getElem_cons hlt, (List.getElem?_eq_some_iff.mp hq).2]; exact List.mem_cons_self, rfl⟩) rfl
        have hq7 := h71 q hqp hqn
        obtain ⟨t, ht⟩ : ∃ t, q.2.md = .slp t := by
          cases em : q.2.md with
          | rdy s => rw [em] at hqs; cases hqs
          | slp s => exact ⟨s, rfl⟩
          | wtg s => rw [em] at hqs; cases hqs
        have e1t : ss.take (i + 1) = ss.take i ++ [q] := by rw [List.take_succ, hq]; rfl
        have en := (rdyAll_now (((ss.take i).filter fun q => due (d.now + 1) q.2).map (·.2)) d.tick).1
        have hdue : due (d.now + 1) q.2 = decide (t ≤ d.now + 1) := by unfold due; rw [ht]
        refine s_when (b := decide (t ≤ d.now + 1)) ?h (fun hb H8 e8 => ?_) (fun hb H8 e8 => ?_)
        case h =>
          have hm := ev_mark (ta := tVar 4) (σ := [some (.ref p), some (match oq with | none => .non | some q => .ref q.1), some (.ref fa), some (optV (firstIdx d.pace d.prs)), some (.ref q.1)]) T (ev_var rfl) (D7.at_ q hq7)
          rw [ht] at hm
          have hn := ev_now (ta := tVar 0) (σ := [some (.ref p), some (match oq with | none => .non | some q => .ref q.1), some (.ref fa), some (optV (firstIdx d.pace d.prs)), some (.ref q.1)]) T (ev_var rfl) D7
          rw [en] at hn
          exact et_test (ev_op hm hn rv_I0)
        · obtain ⟨dx7, hp7⟩ := D7.ob
          have D8 := D7.ex e8
          refine s_dmeth (ev_var rfl) (e8 _ _ hp7) rfl (ea_cons (ev_var rfl) (ea_cons ev_c (ea_cons (ev_now T (ev_var rfl) D8) ea_nil))) fun H9 e9 => ?_
          refine ⟨_, p, _, l7, ps7, q, .rdy d.tick.now, by rw [en]; rfl, D8.ex e9, f7.mono (e8.trans e9), hq7, w7, fun Ha la Da fa' => ⟨⟨_, rfl⟩, hsa, ?_⟩⟩
          have e2t : (ss.take (i + 1)).filter (fun q => due (d.now + 1) q.2) = (ss.take i).filter (fun q => due (d.now + 1) q.2) ++ [q] := by
            rw [e1t, List.filter_append, List.filter_cons, if_pos (by rw [hdue]; exact hb)]
            rfl
          rw [e2t]
          exact Wk.next nd hqp hqn (fun r hr => (hssub r (List.mem_of_mem_take (List.mem_filter.mp hr).1)).1) w7 D7 h71 h72 Da fa'
        · have e2t : (ss.take (i + 1)).filter (fun q => due (d.now + 1) q.2) = (ss.take i).filter (fun q => due (d.now + 1) q.2) := by
            rw [e1t, List.filter_append, List.filter_cons, if_neg (by rw [hdue, hb]; decide)]
            simp
          refine ⟨⟨_, rfl⟩, hsa, ?_⟩
          rw [e2t]
          exact Wk.ex ⟨w7, l7, ps7, D7, f7, h71, h72⟩ e8
    · rintro sa σ' H' ⟨⟨v, rfl⟩, hsa, ⟨w7, l7, ps7, D7, f7, h71, h72⟩⟩
      rw [List.length_map, List.take_length] at w7 D7 h71 h72
      have hsaF : (upd F fa (.lst (rs.map fun q => V.ref q.1))) sa = none := ex_none f5.ex hsa
      have hFa : F fa = none := ex_none f1.ex hfa
      have fs7 : Fr F H' p l7 ps7 := f7.sub fun b o hb => upd_sub hsaF b o (upd_sub hFa b o hb)
      have ewk : d.tick.rdyAll ((ss.filter fun q => due (d.now + 1) q.2).map (·.2)) = d.waked := by
        unfold Dk.waked
        congr 1
        rw [D.eq, List.filter_map, ess, List.filter_filter]
        congr 1
        apply List.filter_congr
        intro q _
        show (due (d.now + 1) q.2 && q.2.md.isS) = due (d.now + 1) q.2
        unfold due
        cases q.2.md <;> simp [Md.isS]
      rw [ewk] at D7 w7
      unfold Dk.turn at k
      cases hoq' : oq with
      | none =>
        rw [ech, hoq'] at k
        refine q_when (b := true) ?h (fun _ H8 e8 => ?_) (fun hb _ _ => absurd hb (by decide))
        case h => exact et_test (ev_op (ev_var rfl) ev_c rv_isN)
        exact s_ret ev_c fun H9 e9 => k H9 ⟨l7, ps7, D7.ex (e8.trans e9), fs7.mono (e8.trans e9)⟩
      | some q =>
        rw [ech, hoq'] at k
        obtain ⟨hqp, hqr⟩ := hoq q hoq'
        refine q_when (b := false) ?h (fun hb _ _ => absurd hb (by decide)) (fun _ H8 e8 => ?_)
        case h => exact et_test (ev_op (ev_var rfl) ev_c rv_isN)
        have hqn : q ∉ ss.filter fun q => due (d.now + 1) q.2 := fun h => by
          have h := (hssub q (List.mem_filter.mp h).1).2
          cases em : q.2.md with
          | rdy s => rw [em] at h; cases h
          | slp s => rw [em] at hqr; cases hqr
          | wtg s => rw [em] at h; cases h
        have hq7 := h71 q hqp hqn
        obtain ⟨dx7, hp7⟩ := D7.ob
        have D8 := D7.ex e8
        have en : d.waked.now = d.now + 1 := (rdyAll_now _ _).1
        refine q_dmeth (ev_var rfl) (e8 _ _ hp7) rfl (ea_cons (ev_var rfl) (ea_cons ev_c (ea_cons (ev_now T (ev_var rfl) D8) ea_nil))) fun H9 e9 => ?_
        refine ⟨F, p, _, l7, ps7, q, .rdy (d.now + 1), by rw [en]; rfl, D8.ex e9, fs7.mono (e8.trans e9), hq7, w7, fun Ha la Da fa' => ?_⟩
        refine s_ret (v := .str q.2.nm) (ev_label T (c := ⟨q.2.nm, q.2.rk, .rdy (d.now + 1)⟩) (ev_var rfl) (Da.at_ _ putP_self)) fun Hb eb => ?_
        exact k Hb ⟨la, _, Da.ex eb, fa'.mono eb⟩
/-! ### desk_run -/
theorem sc_desk_run : FnScope ["self", "many", "k"] ["self", "many"] (defScope s_desk_run) := ⟨rfl, rfl, rfl, by decide +kernel, rfl, by decide +kernel, by decide +kernel⟩
def sp_desk_run (K : PySem.W.Frag) : Sp := fun vs H Q E => ∃ (F : Hp) (p : Addr) (d : Dk) (m : Int), vs = [.ref p, .int m] ∧ DeskAt K F H p d ∧ d.Wf ∧
  ((m < 0 ∨ 1000 < m) → ∀ H', Ex H H' → E (.ref (He.ga K "NoSpan")) none H') ∧
  (¬ (m < 0 ∨ 1000 < m) → ∀ (q : Addr) (H' : Hp), F q = none → DeskAt K (upd F q (.lst ((d.runN m.toNat).1.map optS))) H' p (d.runN m.toNat).2 → Q (.ref q) H')
/-- a comprehension over a range whose element is a turn of the desk at p -/
theorem turns_lc {K : PySem.W.Frag} {F H1 : Hp} {p : Addr} {d : Dk} {n : Nat} {tt : TT} {te : TE} {ws : List Nat} {σ : L2.St} {j : Nat} {Dl : Addr} {Qd : Hp → Prop} (W : d.Wf) (D : DeskAt K F H1 p d) (hD : H1 Dl = none) (hn : n ≤ 1000) (ht : ∀ σ H Q, tt σ H Q = Q true H)
    (hw : ∀ x, wipe ((wipe σ ws).set j (some x)) ws = wipe σ ws)
    (he : ∀ (i : Nat) (e : Dk) (G H : Hp) (Q : VK), e.Wf → DeskAt K G H p e → (∀ H', DeskAt K G H' p e.turn.2 → Q (optS e.turn.1) H') → te ((wipe σ ws).set j (some (.int ((0 : Int) + (i : Int))))) H Q)
    (hq : ∀ H', F Dl = none → DeskAt K (upd F Dl (.lst ((d.runN n).1.map optS))) H' p (d.runN n).2 → Qd H') :
    ∃ W : Nat → Nat → Hp → Prop, (∃ m, W 0 m (upd H1 Dl (.lst []))) ∧ ∀ i m H, W i m H →
      ((Itr 0 n).stop i H ∧ Qd H) ∨ ((Itr 0 n).go i H ∧ ∃ Nx : Hp → Prop, (∀ H', Nx H' → ∃ m', m' < m ∧ W (i + 1) m' H') ∧ ∀ x H', (Itr 0 n).yld i H x H' → gName j x (wipe σ ws) H' fun σ2 H2 => wipe σ2 ws = wipe σ ws ∧ tt σ2 H2 fun b H3 =>
        if b = true then te σ2 H3 fun y H4 => ∃ acc, H4 Dl = some (.lst acc) ∧ acc.length < sizeLine ∧ Nx (upd H4 Dl (.lst (acc ++ [y]))) else Nx H3) := by
  have hF : F Dl = none := ex_none D.fr hD
  refine lc_range (lo := 0) (n := n) (fun i H => DeskAt K (upd F Dl (.lst ((d.runN i).1.map optS))) H p (d.runN i).2) (D.new hD (Ex.new hD) upd_same) (fun i H hi D1 => ⟨hw _, ?_⟩) fun H D1 => hq H hF D1
  show tt _ H _
  rw [ht]
  refine iteT (B := DeskAt K (upd F Dl (.lst ((d.runN (i + 1)).1.map optS))) H p (d.runN (i + 1)).2) ?_
  refine he i _ _ H _ (runN_wf W i) D1 fun H4 D4 => ⟨_, D4.fr _ _ upd_same, sz_lt (by rw [List.length_map, runN_len]; omega), ?_⟩
  have := D4.set (u := .lst ((d.runN i).1.map optS ++ [optS (d.runN i).2.turn.1])) upd_same
  rw [upd_upd] at this
  show DeskAt K (upd F Dl (.lst (((d.runN i).1 ++ [(d.runN i).2.turn.1]).map optS))) _ p (d.runN i).2.turn.2
  rw [List.map_append]
  exact this
theorem ok_desk_run {P : Program} {w : World} {K : PySem.W.Frag} {mg : Str → Option Value} {base : Heap} (T : Txt K mg) : ∃ fd, FnOk P w K mg base (L2N.CX P w) 4 (He.ma K (He.ga K "Desk") "run") fd ["self", "many"] (sp_desk_run K) ∧ Binds K fd ["self", "many"] [] ∧ FunD K "run" "Desk.run" (defArgs s_desk_run) (defBody s_desk_run) (defScope s_desk_run) [] [] (He.ma K (He.ga K "Desk") "run") fd := by
  obtain ⟨fd, F⟩ := f_desk_run T
  obtain ⟨d_desk_turn, G_desk_turn, b_desk_turn, _⟩ := ok_desk_turn (P := P) (w := w) (base := base) T
  obtain ⟨t_MOST_TURNS, hk_MOST_TURNS⟩ := k_MOST_TURNS T
  refine ⟨fd, okXN F sc_desk_run (fun vs H Q E h => ?_) (fun cdv A outer s H vs Q E hr h => ?_), FunD.bindsN F fun _ _ _ _ _ _ us hl => match us, hl with | [_, _], _ => rfl, F⟩
  · (repeat (obtain ⟨_, h⟩ := h)); subst_vars; rfl
  · obtain ⟨F, p, d, m, rfl, D, W, kE, k⟩ := h
    refine ⟨_, (pss_cons (ps_if (PW.pt (pw_or (pt_cmpR op_lt (pv 1) pe_int (nomark _)) (pw_or1 (pt_cmpR op_gt (pv 1) (pe_glob (v := .int 1000) rfl hk_MOST_TURNS ⟨_, rfl⟩) (nomark _))))) (pss_one (L2N.ps_raise rfl (L2N.takes_of rfl rfl rfl rfl) (L2N.pmk_own PySem.F.excBase_ValueError (x_NoSpan T).1 (g_NoSpan T) (x_NoSpan T).2.1 (raises_own (x_NoSpan T).2.2.1 (x_NoSpan T).2.2.2) rfl)))
        pss_nil)
        (pss_one (ps_ret (pe_lc (own := [("k", 2)]) (g := gName 2) (tt := tYes) rfl sc_desk_run.nd (pi_range1 rfl (b_range T) (pa_cons (pv 1) pa_nil)) (blkOk_by (own := [("k", 2)]) (N := ["self", "many", "k"]) (sc := defScope s_desk_run) (by decide +kernel)) (fun _ _ _ _ _ => (pg_name (i := 2) sc_desk_run.nd rfl (Or.inl rfl))) (fun _ _ _ _ _ => pts_nil) (fun _ _ _ _ _ => (pe_meth0 (pv 0) (c_Desk T) (m_desk_turn T) G_desk_turn (hr.mono (by decide)) b_desk_turn .nil pass0)))))), ?_⟩
    refine' q_when ?h (fun hb H1 e1 => ?_) (fun hb H1 e1 => ?_)
    case h => tm_at "rr.ev"
    · exact kE (by simpa using hb) H1 e1
    have n1 : ¬ (m < 0 ∨ 1000 < m) := by simpa using hb
    have D1 := D.ex e1
    refine ⟨_, rfl, m, rfl, by omega, by omega, fun Dl hDl => ?_⟩
    refine turns_lc (n := m.toNat) (j := 2) W D1 hDl (by omega) (fun _ _ _ => rfl) (fun _ => rfl) (fun i e G H2 Q2 We De k2 => ?_) fun H2 hF D2 => k n1 Dl H2 hF D2
    obtain ⟨l, ps, De', fe⟩ := id De
    obtain ⟨dx, hp⟩ := De'.ob
    exact ⟨_, rfl, p, dx, _, rfl, hp, rfl, G, p, e, rfl, De, We, k2⟩
/-! ### L_rung -/
theorem sc_L_rung : FnScope ["_law_desk", "_law_names", "_law_bells", "_law_bell", "_law_line", "_law_due", "_law_told", "_law_name"] ["_law_desk", "_law_names", "_law_bells", "_law_bell"] (defScope s_L_rung) := ⟨rfl, rfl, rfl, by decide +kernel, rfl, by decide +kernel, by decide +kernel⟩
theorem inV_str (nm : Str) (L : List Str) : inV (.str nm) (L.map V.str) = decide (nm ∈ L) := by
  unfold inV
  rw [List.any_map]
  induction L with
  | nil => rfl
  | cons c L ih =>
    rw [List.any_cons, ih]
    by_cases h : nm = c
    · subst h
      simp [Function.comp, eqV]
    · have h' : ¬ c = nm := fun e => h e.symm
      simp [Function.comp, eqV, h, h']
def sp_L_rung (K : PySem.W.Frag) : Sp := fun vs H Q _ => ∃ (F : Hp) (p : Addr) (d : Dk) (r ba : Addr) (nms bs : List Str) (rs : List Int) (b : Str), vs = [.ref p, .ref r, .ref ba, .str b] ∧ DeskAt K F H p d ∧ d.Ok ∧ F r = some (.lst (nms.map V.str)) ∧ F ba = some (.lst (bs.map V.str)) ∧ BlOk d nms bs rs ∧ isName b = true ∧
  ∀ (F' H' : Hp), Ex F F' → DeskAt K F' H' p (d.ring b) → Q (.bl true) H'
theorem ok_L_rung {P : Program} {w : World} {K : PySem.W.Frag} {mg : Str → Option Value} {base : Heap} (T : Txt K mg) : ∃ fd, FnOk P w K mg base (CX0) 4 (He.ga K "_law_rung") fd ["_law_desk", "_law_names", "_law_bells", "_law_bell"] (sp_L_rung K) ∧ Binds K fd ["_law_desk", "_law_names", "_law_bells", "_law_bell"] [] ∧ FunD K "_law_rung" "_law_rung" (defArgs s_L_rung) (defBody s_L_rung) (defScope s_L_rung) [] [] (He.ga K "_law_rung") fd := by
  obtain ⟨fd, F⟩ := f_L_rung T
  obtain ⟨d_desk_names, G_desk_names, b_desk_names, _⟩ := ok_desk_names (P := P) (w := w) (base := base) T
  obtain ⟨d_L_rings, G_L_rings, b_L_rings, _⟩ := ok_L_rings (P := P) (w := w) (base := base) T
  obtain ⟨d_L_texts, G_L_texts, b_L_texts, _⟩ := ok_L_texts (P := P) (w := w) (base := base) T
  refine ⟨fd, ok0 F sc_L_rung (fun vs H Q E h => ?_) (fun cdv A outer s H vs Q E hr h => ?_), FunD.bindsN F fun _ _ _ _ _ _ us hl => match us, hl with | [_, _, _, _], _ => rfl, F⟩
  · (repeat (obtain ⟨_, h⟩ := h)); subst_vars; rfl
  · obtain ⟨F, p, d, r, ba, nms, bs, rs, b, rfl, D, ok, hr0, hb0, S, hb, k⟩ := h
    refine ⟨_, (pss_cons (ps_set (i := 4) sc_L_rung.nd rfl (Or.inl rfl) (pe_meth0 (pv 0) (c_Desk T) (m_desk_names T) G_desk_names (hr.mono (by decide)) b_desk_names .nil pass0))
        (pss_cons (ps_set (i := 5) sc_L_rung.nd rfl (Or.inr rfl) (pe_lc (own := [("_law_name", 7)]) (g := gName 7) rfl sc_L_rung.nd (pi_listK (K := K) rfl (pv 4)) (blkOk_by (own := [("_law_name", 7)]) (N := ["_law_desk", "_law_names", "_law_bells", "_law_bell", "_law_line", "_law_due", "_law_told", "_law_name"]) (sc := defScope s_L_rung) (by decide +kernel)) (fun _ _ _ _ _ => (pg_name (i := 7) sc_L_rung.nd rfl (Or.inl rfl))) (fun _ _ _ _ _ => pts_one (PW.pt (pw_and (pt_cmpR (op_inK (K := K) rfl) (pv 7) (pv 1) (by with_unfolding_all rfl)) (pw_and1 (pt_cmpR op_eq (pe_ix (ix_listK (K := K) rfl) (pv 2) (pe_bmK (K := K) rfl PySem.F.plainAttrs_list PySem.F.slot_list_index PySem.F.type_list_index (mt_indexK (K := K) rfl) (pv 1) (pa_cons (pv 7) pa_nil)) (fun _ _ => rfl)) (pv 3) (nomark _)))))) (fun _ _ _ _ _ => (pv 7))))
        (pss_cons (ps_set (i := 6) sc_L_rung.nd rfl (Or.inl rfl) (pe_call G_L_rings (hr.mono (by decide)) rfl (g_L_rings T) (kp_L_rings T) b_L_rings .nil pass0 (pa_cons (pv 0) (pa_cons (pv 3) pa_nil))))
        (pss_cons (ps_if (pt_not (pt_val (pe_call G_L_texts (hr.mono (by decide)) rfl (g_L_texts T) (kp_L_texts T) b_L_texts .nil pass0 (pa_cons (pv 6) (pa_cons (pv 5) pa_nil))))) (pss_one (ps_ret pe_bl))
        pss_nil)
        (pss_cons (ps_expr (pe_bm PySem.F.plainAttrs_list PySem.F.slot_list_append PySem.F.type_list_append mt_append (pv 6) (pa_cons pe_str pa_nil)))
        (pss_one (ps_ret (pe_call G_L_texts (hr.mono (by decide)) rfl (g_L_texts T) (kp_L_texts T) b_L_texts .nil pass0 (pa_cons (pe_meth0 (pv 0) (c_Desk T) (m_desk_names T) G_desk_names (hr.mono (by decide)) b_desk_names .nil pass0) (pa_cons (pe_op op_cat (pe_lc (own := [("_law_name", 7)]) (g := gName 7) rfl sc_L_rung.nd (pi_listK (K := K) rfl (pv 4)) (blkOk_by (own := [("_law_name", 7)]) (N := ["_law_desk", "_law_names", "_law_bells", "_law_bell", "_law_line", "_law_due", "_law_told", "_law_name"]) (sc := defScope s_L_rung) (by decide +kernel)) (fun _ _ _ _ _ => (pg_name (i := 7) sc_L_rung.nd rfl (Or.inl rfl))) (fun _ _ _ _ _ => pts_one (pt_cmpR (op_notInK (K := K) rfl) (pv 7) (pv 5) (by with_unfolding_all rfl))) (fun _ _ _ _ _ => (pv 7))) (pv 5)) pa_nil)))))))))), ?_⟩
    have hbz := (isName_len hb).2
    have hbne : b ≠ "" := fun e => by
      have := (isName_len hb).1
      rw [e] at this
      exact absurd this (by decide +kernel)
    obtain ⟨l, ps, DD, ff⟩ := id D
    obtain ⟨dx, hp⟩ := DD.ob
    have h60 := ok.len60
    refine q_asgL (xs := d.line.map fun c => V.str c.nm) (el_meth (ev_var rfl) hp rfl ea_nil (cv_names DD (by omega))) fun x1 H1 n1 e1 h1 => ?_
    have D1 := D.new n1 e1 h1
    have f1 : F x1 = none := ex_none D.fr n1
    refine q_asgL (xs := (d.rung b).map fun c => V.str c.nm) ?h2 fun x2 H2 n2 e2 h2 => ?_
    case h2 =>
      refine el_lcM (K := K) (ps := d.line) (uu := fun c => V.str c.nm) (isWtg b) (fun c => V.str c.nm) (ev_var rfl) (sq_of h1) (by omega) (fun _ => rfl) (fun c hc H3 e3 => ?_) fun c hc H3 e3 _ => ev_var rfl
      obtain ⟨j, x, g1, g2, g3⟩ := S.of ok hc
      have e13 := e1.trans e3
      refine et_is (et_and (a := true) (b := decide (x = b)) (et_is (et_test (ev_op (ev_var rfl) (ev_var rfl) (rv_isL (sq_of (e13 _ _ (D.fr _ _ hr0))) rfl (all_str nms)))) ?_) fun _ => et_is (et_test (ev_op (ev_op (ev_var rfl) (ev_index S.nd g1 (ev_var rfl) (e13 _ _ (D.fr _ _ hr0)) (ev_var rfl)) (rv_ixL (sq_of (e13 _ _ (D.fr _ _ hb0))) (at_str g2))) (ev_var rfl) (rv_eq rfl))) (decV x b)) ?_
      · rw [inV_str, decide_eq_true (List.mem_of_getElem? g1)]
      · rw [Bool.true_and, wtg_of g3 hbne]
    have D2 := D1.new n2 e2 h2
    have f2 : (upd F x1 (.lst (d.line.map fun c => V.str c.nm))) x2 = none := ex_none D1.fr n2
    have eF1 := Ex.new (o := .lst (d.line.map fun c => V.str c.nm)) f1
    have eF2 := Ex.new (o := .lst ((d.rung b).map fun c => V.str c.nm)) f2
    have hx1 := eF2 _ _ (upd_same (H := F) (a := x1) (o := .lst (d.line.map fun c => V.str c.nm)))
    have hx2 := upd_same (H := upd F x1 (.lst (d.line.map fun c => V.str c.nm))) (a := x2) (o := .lst ((d.rung b).map fun c => V.str c.nm))
    have eF := eF1.trans eF2
    generalize upd (upd F x1 (.lst (d.line.map fun c => V.str c.nm))) x2 (.lst ((d.rung b).map fun c => V.str c.nm)) = F2 at *
    refine mq_asgX (M := fun v H' => ∃ q, v = .ref q ∧ F2 q = none ∧ DeskAt K (upd F2 q (.lst ((d.rung b).map fun c => V.str c.nm))) H' p (d.ring b)) (mx_call (vs := [.ref p, .str b]) (ea_cons (ev_var rfl) (ea_cons (ev_var rfl) ea_nil)) fun H3 e3 => my_rings (D2.ex e3) ok.wf (by omega) hb) fun v H3 ⟨q, ev, hq, D3⟩ => ?_
    subst ev
    have emap : ∀ L : List Cl, (L.map fun c => V.str c.nm) = ((L.map (·.nm)).map some).map optS := fun L => by rw [List.map_map, List.map_map]; rfl
    have hrl : (d.rung b).length ≤ d.line.length := List.length_filter_le _ _
    have eq3 := Ex.new (o := .lst ((d.rung b).map fun c => V.str c.nm)) hq
    have hq3 := D3.fr _ _ upd_same
    have h23 := D3.fr _ _ (eq3 _ _ hx2)
    refine q_when (b := false) (et_is (et_not (et_B (ev_call (ea_cons (ev_var rfl) (ea_cons (ev_var rfl) ea_nil)) (spv_call fun H4 e4 Q E kk => ⟨q, x2, ((d.rung b).map (·.nm)).map some, rfl, by rw [← emap]; exact e4 _ _ hq3, by rw [← emap]; exact e4 _ _ h23, by rw [List.length_map, List.length_map]; omega, kk⟩)))) rfl) (fun h => by cases h) fun _ H4 e4 => ?_
    have D4 := D3.ex e4
    refine q_app (l := q) (xs := (d.rung b).map fun c => V.str c.nm) (v := .str "x") (e4 _ _ hq3) (ev_var rfl) ev_c (by rw [List.length_map]; omega) fun H5 e5 => ?_
    have D5 := (D4.ex e5).set (u := .lst ((d.rung b).map (fun c => V.str c.nm) ++ [.str "x"])) upd_same
    rw [upd_upd] at D5
    have eF5 : Ex F2 (upd F2 q (.lst ((d.rung b).map (fun c => V.str c.nm) ++ [.str "x"]))) := Ex.new hq
    generalize upd F2 q (.lst ((d.rung b).map (fun c => V.str c.nm) ++ [.str "x"])) = F5 at *
    generalize upd H5 q (.lst ((d.rung b).map (fun c => V.str c.nm) ++ [.str "x"])) = H6 at *
    have ok5 := ring_okL ok b
    have h605 := ok5.len60
    have hnms := ring_nms ok b
    have hl5 : ((d.ring b).line.map (·.nm)).length ≤ 60 := by rw [List.length_map]; exact h605
    have hx15 := D5.fr _ _ (eF5 _ _ hx1)
    have hx25 := D5.fr _ _ (eF5 _ _ hx2)
    obtain ⟨l5, ps5, DD5, ff5⟩ := id D5
    obtain ⟨dx5, hp5⟩ := DD5.ob
    have hlast : EvL (tOp rCat (tLc (iList K (tVar 4)) (gName 7) (tTest (tOp (rIn K true) (tVar 7) (tVar 5))) (tVar 7) [7]) (tVar 5)) [some (.ref p), some (.ref r), some (.ref ba), some (.str b), some (.ref x1), some (.ref x2), some (.ref q), none] H6 ((d.ring b).line.map fun c => V.str c.nm) := by
      have e9 : ((d.ring b).line.map fun c => V.str c.nm) = ((d.line.filter fun c => !decide (c.nm ∈ (d.rung b).map (·.nm))).map fun c => V.str c.nm) ++ (d.rung b).map fun c => V.str c.nm := by
        have := congrArg (List.map V.str) hnms
        rw [List.map_append, List.map_map, List.filter_map, List.map_map, List.map_map] at this
        exact this
      rw [e9]
      refine el_catL ?_ (ev_var rfl) hx25 (by rw [List.length_map, List.length_map]; have := List.length_filter_le (fun c : Cl => !decide (c.nm ∈ (d.rung b).map (·.nm))) d.line; omega)
      refine el_lcM (K := K) (a := x1) (j := 7) (ws := [7]) (σ := [some (.ref p), some (.ref r), some (.ref ba), some (.str b), some (.ref x1), some (.ref x2), some (.ref q), none]) (ps := d.line) (uu := fun c => V.str c.nm) (fun c => !decide (c.nm ∈ (d.rung b).map (·.nm))) (fun c => V.str c.nm) ?_ (sq_of hx15) (by omega) (fun _ => rfl) (fun c hc H7 e7 => ?_) (fun c hc H7 e7 _ => ?_)
      · exact ev_var rfl
      rotate_left
      · exact ev_var rfl
      rw [← inV_names]
      exact et_test (ev_op (ev_var rfl) (ev_var rfl) (rv_niL (sq_of (e7 _ _ hx25)) rfl (flat_names _)))
    refine s_ret (v := .bl true) (ev_callLL (el_meth (ev_var rfl) hp5 rfl ea_nil (cv_names DD5 (by omega))) hlast fun a1 a2 H7 e7 ha1 ha2 => spv_call fun H8 e8 Q E kk => ⟨a1, a2, ((d.ring b).line.map (·.nm)).map some, rfl, by rw [← emap]; exact e8 _ _ ha1, by rw [← emap]; exact e8 _ _ ha2, by rw [List.length_map]; omega, kk⟩) fun H7 e7 => k F5 H7 (eF.trans eF5) (D5.ex e7)
/-! ### desk_rerank -/
theorem sc_desk_rerank : FnScope ["self", "name", "rank", "caller"] ["self", "name", "rank"] (defScope s_desk_rerank) := ⟨rfl, rfl, rfl, by decide +kernel, rfl, by decide +kernel, by decide +kernel⟩
def sp_desk_rerank (K : PySem.W.Frag) : Sp := fun vs H Q E => ∃ (F : Hp) (p : Addr) (d : Dk) (nm : Str) (rk : Int), vs = [.ref p, .str nm, .int rk] ∧ DeskAt K F H p d ∧ d.Wf ∧
  (∀ e, rerankErr d nm rk = some e → ∀ H', Ex H H' → E (.ref (He.ga K e)) none H') ∧ (rerankErr d nm rk = none → ∀ H', DeskAt K F H' p (d.setRk nm rk) → Q .non H')
theorem ok_desk_rerank {P : Program} {w : World} {K : PySem.W.Frag} {mg : Str → Option Value} {base : Heap} (T : Txt K mg) : ∃ fd, FnOk P w K mg base (L2N.CX P w) 2 (He.ma K (He.ga K "Desk") "rerank") fd ["self", "name", "rank"] (sp_desk_rerank K) ∧ Binds K fd ["self", "name", "rank"] [] ∧ FunD K "rerank" "Desk.rerank" (defArgs s_desk_rerank) (defBody s_desk_rerank) (defScope s_desk_rerank) [] [] (He.ma K (He.ga K "Desk") "rerank") fd := by
  obtain ⟨fd, F⟩ := f_desk_rerank T
  obtain ⟨d_desk_one, G_desk_one, b_desk_one, _⟩ := ok_desk_one (P := P) (w := w) (base := base) T
  obtain ⟨t_TOP, hk_TOP⟩ := k_TOP T
  refine ⟨fd, okXN F sc_desk_rerank (fun vs H Q E h => ?_) (fun cdv A outer s H vs Q E hr h => ?_), FunD.bindsN F fun _ _ _ _ _ _ us hl => match us, hl with | [_, _, _], _ => rfl, F⟩
  · (repeat (obtain ⟨_, h⟩ := h)); subst_vars; rfl
  · obtain ⟨F, p, d, nm, rk, rfl, ⟨l, ps, D, f⟩, W, kE, k⟩ := h
    refine ⟨_, (pss_cons (ps_set (i := 3) sc_desk_rerank.nd rfl (Or.inl rfl) (pe_meth (pv 0) (c_Desk T) (m_desk_one T) G_desk_one (hr.mono (by decide)) b_desk_one .nil (L2N.passes_call (L2N.takes_of rfl rfl rfl rfl) (fun _ _ _ _ h => h)) (pa_cons (pv 1) pa_nil)))
        (pss_cons (ps_if (PW.pt (pw_or (pt_cmpR op_lt (pv 2) pe_int (nomark _)) (pw_or1 (pt_cmpR op_gt (pv 2) (pe_glob (v := .int 99) rfl hk_TOP ⟨_, rfl⟩) (nomark _))))) (pss_one (L2N.ps_raise rfl (L2N.takes_of rfl rfl rfl rfl) (L2N.pmk_own PySem.F.excBase_ValueError (x_NoRank T).1 (g_NoRank T) (x_NoRank T).2.1 (raises_own (x_NoRank T).2.2.1 (x_NoRank T).2.2.2) rfl)))
        pss_nil)
        (pss_cons (ps_if (pt_cmpR op_eq (pe_fldK (K := K) rfl (pv 3) rfl) pe_str (nomark _)) (pss_one (L2N.ps_raise rfl (L2N.takes_of rfl rfl rfl rfl) (L2N.pmk_own PySem.F.excBase_ValueError (x_IsReady T).1 (g_IsReady T) (x_IsReady T).2.1 (raises_own (x_IsReady T).2.2.1 (x_IsReady T).2.2.2) rfl)))
        pss_nil)
        (pss_one (ps_fld (pv 3) (pv 2) rfl))))), ?_⟩
    unfold rerankErr at kE k
    obtain ⟨dx, hp⟩ := D.ob
    refine q_meth (ev_var rfl) hp rfl (ea_cons (ev_var rfl) ea_nil) fun H1 e1 => ?_
    refine ⟨p, d, l, ps, nm, rfl, D.ex e1, fun q hq hn H2 e2 => ?_, fun hn H2 e2 => kE _ (by rw [D.get_none hn]) H2 (e1.trans e2)⟩
    subst hn
    rw [D.get_of W hq] at kE k
    dsimp only at kE k
    have e12 := e1.trans e2
    refine' q_when ?h (fun hb H3 e3 => ?_) (fun hb H3 e3 => ?_)
    case h => tm_at "rr.ev"
    · exact kE _ (if_pos (by simpa using hb)) H3 (e12.trans e3)
    have n1 : ¬ (rk < 0 ∨ 99 < rk) := by simpa using hb
    rw [if_neg n1] at kE k
    have e13 := e12.trans e3
    refine q_when (b := q.2.md.isR) ?h (fun hb H4 e4 => ?_) (fun hb H4 e4 => ?_)
    case h =>
      rw [← st_ready, ← decV]
      exact et_test (ev_op (ev_stand T (ev_var rfl) ((D.at_ q hq).ex e13)) ev_c (rv_eq rfl))
    · exact kE _ (if_pos hb) H4 (e13.trans e4)
    rw [if_neg (by rw [hb]; decide)] at k
    have e14 := e13.trans e4
    have D4 := D.ex e14
    have f4 := f.mono e14
    obtain ⟨dc, hc⟩ := D4.at_ q hq
    refine s_fld (ev_var rfl) (ev_var rfl) hc (c_Caller T) (n_Caller_grade T) (by show 4 < 1000; decide) fun H5 e5 => ?_
    have D5 := D4.ex e5
    have f5 := f4.mono e5
    have hc5 := e5 _ _ hc
    have ca : ∀ {b o}, b ≠ q.1 → H5 b = some o → upd H5 q.1 (.ins (aC K) dc (putF "grade" (.int rk) (cfs q.2))) b = some o := fun hb ho => by rw [upd_ne hb]; exact ho
    obtain ⟨dp, hp5⟩ := D5.ob
    have nd := D.nd W.nd
    refine k rfl _ ⟨l, ps.map fun r => if r.2.nm = q.2.nm then (r.1, ⟨r.2.nm, rk, r.2.md⟩) else r, ⟨⟨dp, ca (ne_of hp5 hc5 ins_ne) hp5⟩, ?_, ?_, fun r hr => ?_⟩, ⟨fun b o hb => ca (fun e => by have := f.c0 q hq; rw [← e, hb] at this; cases this) (f5.ex _ _ hb), f.p0, f.l0, fun r hr => ?_⟩⟩
    · rw [ca (ne_of D5.ln hc5 (by intro z; cases z)) D5.ln, List.map_map]
      congr 2
      apply List.map_congr_left
      intro r _
      show _ = V.ref (if r.2.nm = q.2.nm then (r.1, (⟨r.2.nm, rk, r.2.md⟩ : Cl)) else r).1
      split <;> rfl
    · show d.line.map _ = _
      rw [D.eq, List.map_map, List.map_map]
      apply List.map_congr_left
      intro r _
      show (if r.2.nm = q.2.nm then (⟨r.2.nm, rk, r.2.md⟩ : Cl) else r.2) = (if r.2.nm = q.2.nm then (r.1, (⟨r.2.nm, rk, r.2.md⟩ : Cl)) else r).2
      split <;> rfl
    · obtain ⟨r0, h0, e0⟩ := List.mem_map.mp hr
      by_cases c : r0.2.nm = q.2.nm
      · rw [if_pos c] at e0
        have e9 : r0 = q := nodup_pr nd h0 hq c
        rw [← e0, e9]
        exact ⟨dc, upd_same⟩
      · rw [if_neg c] at e0
        rw [← e0]
        obtain ⟨dr, h⟩ := D5.at_ r0 h0
        exact ⟨dr, ca (fun e => c (D5.mem_nm h0 hq e)) h⟩
    · obtain ⟨r0, h0, e0⟩ := List.mem_map.mp hr
      have e9 : r.1 = r0.1 := by rw [← e0]; split <;> rfl
      rw [e9]
      exact f.c0 r0 h0
/-! ### L_reranks -/
theorem sc_L_reranks : FnScope ["_law_desk", "_law_name", "_law_rank", "_law_e"] ["_law_desk", "_law_name", "_law_rank"] (defScope s_L_reranks) := ⟨rfl, rfl, rfl, by decide +kernel, rfl, by decide +kernel, by decide +kernel⟩
def sp_L_reranks (K : PySem.W.Frag) : Sp := fun vs H Q _ => ∃ (F : Hp) (p : Addr) (d : Dk) (nm : Str) (rk : Int), vs = [.ref p, .str nm, .int rk] ∧ DeskAt K F H p d ∧ d.Wf ∧
  (∀ e, rerankErr d nm rk = some e → RetV (.str (wordOf e)) H Q) ∧ (∀ H', rerankErr d nm rk = none → DeskAt K F H' p (d.setRk nm rk) → Q (.str "") H')
theorem ms_reranks_e {K : PySem.W.Frag} {F H : Hp} {p : Addr} {d : Dk} {nm e : Str} {rk : Int} (D : DeskAt K F H p d) (W : d.Wf) (h : rerankErr d nm rk = some e) : MvS (sp_L_reranks K) [.ref p, .str nm, .int rk] H (.str (wordOf e)) fun H' => DeskAt K F H' p d := fun Q _ q =>
  ⟨F, p, d, nm, rk, rfl, D, W, fun e' h' => (by rw [h] at h'; cases h'; exact fun H' x => q H' (D.ex x)), fun H' h' => by rw [h] at h'; cases h'⟩
theorem ms_reranks {K : PySem.W.Frag} {F H : Hp} {p : Addr} {d : Dk} {nm : Str} {rk : Int} (D : DeskAt K F H p d) (W : d.Wf) (h : rerankErr d nm rk = none) : MvS (sp_L_reranks K) [.ref p, .str nm, .int rk] H (.str "") fun H' => DeskAt K F H' p (d.setRk nm rk) := fun Q _ q =>
  ⟨F, p, d, nm, rk, rfl, D, W, fun e' h' => (by rw [h] at h'; cases h'), fun H' h' x => q H' x⟩
theorem ok_L_reranks {P : Program} {w : World} {K : PySem.W.Frag} {mg : Str → Option Value} {base : Heap} (T : Txt K mg) : ∃ fd, FnOk P w K mg base (CX0) 3 (He.ga K "_law_reranks") fd ["_law_desk", "_law_name", "_law_rank"] (sp_L_reranks K) ∧ Binds K fd ["_law_desk", "_law_name", "_law_rank"] [] ∧ FunD K "_law_reranks" "_law_reranks" (defArgs s_L_reranks) (defBody s_L_reranks) (defScope s_L_reranks) [] [] (He.ga K "_law_reranks") fd := by
  obtain ⟨fd, F⟩ := f_L_reranks T
  obtain ⟨d_desk_rerank, G_desk_rerank, b_desk_rerank, _⟩ := ok_desk_rerank (P := P) (w := w) (base := base) T
  obtain ⟨d_L_word, G_L_word, b_L_word, _⟩ := ok_L_word (P := P) (w := w) (base := base) T
  refine ⟨fd, ok0 F sc_L_reranks (fun vs H Q E h => ?_) (fun cdv A outer s H vs Q E hr h => ?_), FunD.bindsN F fun _ _ _ _ _ _ us hl => match us, hl with | [_, _, _], _ => rfl, F⟩
  · (repeat (obtain ⟨_, h⟩ := h)); subst_vars; rfl
  · obtain ⟨F, p, d, nm, rk, rfl, D, W, kE, k⟩ := h
    refine ⟨_, (pss_cut (L2N.ps_try_as (i := 3) rfl rfl sc_L_reranks.nd rfl rfl ⟨rfl, by decide, .inl (g_DeskError T)⟩ takes0N (fun W pn xe tk _ => (pss_one (ps_expr (pe_methS (pv 0) (c_Desk T) (m_desk_rerank T) G_desk_rerank (hr.mono (by decide)) b_desk_rerank (fun σ => L2N.passAt tk σ) (pa_cons (pv 1) (pa_cons (pv 2) pa_nil))))))
        (fun a oe cls d pn hz hf => (pss_one (ps_ret (pe_word G_L_word (hr.mono (by decide)) rfl (g_L_word T) (kp_L_word T) b_L_word hz hf (pv 3))))))
        (pss_one (ps_ret pe_str))), ?_⟩
    obtain ⟨l, ps, DD, ff⟩ := id D
    obtain ⟨dx, hp⟩ := DD.ob
    refine q_cut (M := fun σ' H' => ∃ v, σ' = [some (.ref p), some (.str nm), some (.int rk), v] ∧ rerankErr d nm rk = none ∧ DeskAt K F H' p (d.setRk nm rk)) ?_ ?_
    · refine ⟨_, rfl, p, dx, _, rfl, hp, rfl, ?_⟩
      refine ⟨_, rfl, _, rfl, ?_⟩
      exact ⟨F, p, d, nm, rk, rfl, D, W, fun e he H1 e1 => ⟨true, ks_d (excK_ok T.ex) (rerankErr_in he), fun _ a ha => s_ret (ev_word rfl (rerankErr_in he)) fun H2 e2 => kE e he H2 (e1.trans e2), fun h => by cases h⟩, fun he H1 D1 => ⟨_, rfl, he, D1⟩⟩
    · rintro σ' H' ⟨v, rfl, he, D1⟩
      exact s_ret ev_c fun H2 e2 => k H2 he (D1.ex e2)
/-! ### L_got -/
theorem sc_L_got : FnScope ["_law_desk", "_law_names", "_law_bells", "_law_ranks", "_law_k", "_law_rank", "_law_due"] ["_law_desk", "_law_names", "_law_bells", "_law_ranks", "_law_k", "_law_rank"] (defScope s_L_got) := ⟨rfl, rfl, rfl, by decide +kernel, rfl, by decide +kernel, by decide +kernel⟩
def sp_L_got (K : PySem.W.Frag) : Sp := fun vs H Q _ => ∃ (F1 F : Hp) (p : Addr) (d : Dk) (r ba ra : Addr) (nms bs : List Str) (rs : List Int) (j : Nat) (rk : Int), vs = [.ref p, .ref r, .ref ba, .ref ra, .int (j : Int), .int rk] ∧ Ex F1 F ∧ F1 ra = none ∧ DeskAt K F H p d ∧ d.Ok ∧ F r = some (.lst (nms.map V.str)) ∧ F ba = some (.lst (bs.map V.str)) ∧ F ra = some (.lst (rs.map V.int)) ∧ ba ≠ ra ∧ BlOk d nms bs rs ∧ j < nms.length ∧
  ∀ (F' H' : Hp) (d' : Dk) (rs' : List Int), Ex F1 F' → F' ba = some (.lst (bs.map V.str)) → F' ra = some (.lst (rs'.map V.int)) → DeskAt K F' H' p d' → d'.Ok → BlOk d' nms bs rs' → Q (.bl true) H'
def dueS (b : Str) (rk : Int) : Str := if rk < 0 ∨ 99 < rk then "rank" else if b = "" then "ready" else ""
theorem ok_L_got {P : Program} {w : World} {K : PySem.W.Frag} {mg : Str → Option Value} {base : Heap} (T : Txt K mg) : ∃ fd, FnOk P w K mg base (CX0) 4 (He.ga K "_law_got") fd ["_law_desk", "_law_names", "_law_bells", "_law_ranks", "_law_k", "_law_rank"] (sp_L_got K) ∧ Binds K fd ["_law_desk", "_law_names", "_law_bells", "_law_ranks", "_law_k", "_law_rank"] [] ∧ FunD K "_law_got" "_law_got" (defArgs s_L_got) (defBody s_L_got) (defScope s_L_got) [] [] (He.ga K "_law_got") fd := by
  obtain ⟨fd, F⟩ := f_L_got T
  obtain ⟨d_L_reranks, G_L_reranks, b_L_reranks, _⟩ := ok_L_reranks (P := P) (w := w) (base := base) T
  refine ⟨fd, ok0 F sc_L_got (fun vs H Q E h => ?_) (fun cdv A outer s H vs Q E hr h => ?_), FunD.bindsN F fun _ _ _ _ _ _ us hl => match us, hl with | [_, _, _, _, _, _], _ => rfl, F⟩
  · (repeat (obtain ⟨_, h⟩ := h)); subst_vars; rfl
  · obtain ⟨F1, F, p, d, r, ba, ra, nms, bs, rs, j, rk, rfl, eF, hra1, D, ok, hr0, hb0, hk0, nba, S, hj, k⟩ := h
    refine ⟨_, (pss_cons (ps_set (i := 6) sc_L_got.nd rfl (Or.inl rfl) pe_str)
        (pss_cons (ps_if (pt_cmpR op_eq (pe_ix (ix_listK (K := K) rfl) (pv 2) (pv 4) (fun _ _ => rfl)) pe_str (nomark _)) (pss_one (ps_set (i := 6) sc_L_got.nd rfl (Or.inl rfl) pe_str))
        pss_nil)
        (pss_cons (ps_if (PW.pt (pw_or (pt_cmpR op_lt (pv 5) pe_int (nomark _)) (pw_or1 (pt_cmpR op_gt (pv 5) pe_int (nomark _))))) (pss_one (ps_set (i := 6) sc_L_got.nd rfl (Or.inl rfl) pe_str))
        pss_nil)
        (pss_cons (ps_if (pt_cmpR op_ne (pe_call G_L_reranks (hr.mono (by decide)) rfl (g_L_reranks T) (kp_L_reranks T) b_L_reranks .nil pass0 (pa_cons (pv 0) (pa_cons (pe_ix (ix_listK (K := K) rfl) (pv 1) (pv 4) (fun _ _ => rfl)) (pa_cons (pv 5) pa_nil)))) (pv 6) (nomark _)) (pss_one (ps_ret pe_bl))
        pss_nil)
        (pss_cons (ps_if (pt_cmpR op_eq (pv 6) pe_str (nomark _)) (pss_one (ps_asg (pv 5) (pg_sub (pv 3) (pv 4) set_list)))
        pss_nil)
        (pss_one (ps_ret pe_bl))))))), ?_⟩
    obtain ⟨nm, b, r0, c, h1, h2, h3, hc, hrk, hm⟩ := S.look hj
    obtain ⟨hc1, hc2⟩ := Dk.get_some hc
    refine q_asg ev_c fun H1 e1 => ?_
    refine q_ifAsg (b := decide (b = "")) (v := .str (if b = "" then "ready" else "")) (et_is (et_test (ev_op (ev_op (ev_var rfl) (ev_var rfl) (rv_ixL (sq_of (e1 _ _ (D.fr _ _ hb0))) (at_str h2))) ev_c (rv_eq rfl))) (decV b "")) (fun hb => by rw [if_pos (of_decide_eq_true hb)]; exact ev_c) (fun hb => by rw [if_neg (of_decide_eq_false hb)]; rfl) fun H2 e2 => ?_
    refine q_ifAsg (b := decide (rk < 0) || decide (99 < rk)) (v := .str (dueS b rk)) (et_or (et_test (ev_op (ev_var rfl) ev_c rv_I0)) fun _ => et_test (ev_op (ev_var rfl) ev_c rv_I0)) (fun hb => ?g1) (fun hb => ?g2) fun H3 e3 => ?_
    case g1 =>
      rw [show dueS b rk = "rank" from if_pos (by simpa only [Bool.or_eq_true, decide_eq_true_eq] using hb)]
      exact ev_c
    case g2 =>
      rw [show dueS b rk = (if b = "" then ("ready" : Str) else "") from if_neg (by simpa only [Bool.or_eq_false_iff, decide_eq_false_iff_not, ← not_or] using hb)]
      rfl
    have e13 := (e1.trans e2).trans e3
    have D3 := D.ex e13
    have an := at_str h1
    have hargs : ∀ {H4 : Hp}, Ex H3 H4 → EvA (tCons (tVar 0) (tCons (tOp (rIxL K) (tVar 1) (tVar 4)) (tCons (tVar 5) tNil))) [some (.ref p), some (.ref r), some (.ref ba), some (.ref ra), some (.int (j : Int)), some (.int rk), some (.str (dueS b rk))] H4 [.ref p, .str nm, .int rk] := fun {H4} e4 => ea_cons (ev_var rfl) (ea_cons (ev_op (ev_var rfl) (ev_var rfl) (rv_ixL (sq_of ((e13.trans e4) _ _ (D.fr _ _ hr0))) an)) (ea_cons (ev_var rfl) ea_nil))
    by_cases hE : rk < 0 ∨ 99 < rk
    · have hErr : rerankErr d nm rk = some ("NoRank" : Str) := by
        unfold rerankErr
        rw [hc]
        exact if_pos hE
      have hd : dueS b rk = "rank" := if_pos hE
      rw [hd] at hargs ⊢
      refine mq_when (b := false) (mt_is (mt_test (mv_op (R := fun H' => DeskAt K F H' p d) (mv_call (hargs (Ex.refl _)) fun H4 e4 => ms_reranks_e (D3.ex e4) ok.wf hErr) (fun _ _ => ev_var rfl) (fun _ _ => rv_ne rfl) fun _ _ D e => D.ex e)) (by decide +kernel)) (fun h => by cases h) fun _ H4 D4 => ?_
      refine q_when (b := false) (et_is (et_test (ev_op (ev_var rfl) ev_c (rv_eq rfl))) (by decide +kernel)) (fun h => by cases h) fun _ H5 e5 => ?_
      exact s_ret ev_c fun H6 e6 => k F H6 d rs eF hb0 hk0 (D4.ex (e5.trans e6)) ok S
    · by_cases hb : b = ""
      · subst hb
        have hmR : c.md.isR = true := by
          rcases hm with ⟨_, h⟩ | ⟨h, _⟩
          · exact h
          · exact absurd rfl h
        have hErr : rerankErr d nm rk = some ("IsReady" : Str) := by
          unfold rerankErr
          rw [hc]
          show (if _ then _ else _) = _
          rw [if_neg hE]
          exact if_pos hmR
        have hd : dueS "" rk = "ready" := (if_neg hE).trans (if_pos rfl)
        rw [hd] at hargs ⊢
        refine mq_when (b := false) (mt_is (mt_test (mv_op (R := fun H' => DeskAt K F H' p d) (mv_call (hargs (Ex.refl _)) fun H4 e4 => ms_reranks_e (D3.ex e4) ok.wf hErr) (fun _ _ => ev_var rfl) (fun _ _ => rv_ne rfl) fun _ _ D e => D.ex e)) (by decide +kernel)) (fun h => by cases h) fun _ H4 D4 => ?_
        refine q_when (b := false) (et_is (et_test (ev_op (ev_var rfl) ev_c (rv_eq rfl))) (by decide +kernel)) (fun h => by cases h) fun _ H5 e5 => ?_
        exact s_ret ev_c fun H6 e6 => k F H6 d rs eF hb0 hk0 (D4.ex (e5.trans e6)) ok S
      · have hmR : c.md.isR = false := by
          rcases hm with ⟨h, _⟩ | ⟨_, h⟩
          · exact absurd h hb
          · rw [h]
            rfl
        have hErr : rerankErr d nm rk = none := by
          unfold rerankErr
          rw [hc]
          show (if _ then _ else _) = _
          rw [if_neg hE]
          exact if_neg (by rw [hmR]; decide)
        have hd : dueS b rk = "" := (if_neg hE).trans (if_neg hb)
        rw [hd] at hargs ⊢
        refine mq_when (b := false) (mt_is (mt_test (mv_op (R := fun H' => DeskAt K F H' p (d.setRk nm rk)) (mv_call (hargs (Ex.refl _)) fun H4 e4 => ms_reranks (D3.ex e4) ok.wf hErr) (fun _ _ => ev_var rfl) (fun _ _ => rv_ne rfl) fun _ _ D e => D.ex e)) (by decide +kernel)) (fun h => by cases h) fun _ H4 D4 => ?_
        have hE2 : 0 ≤ rk ∧ rk ≤ 99 := by omega
        have S4 := S.rerk ok h1 hE2
        have ok4 := ok.setRk (nm := nm) hE2
        refine q_when (b := true) (et_is (et_test (ev_op (ev_var rfl) ev_c (rv_eq rfl))) (by decide +kernel)) (fun _ H5 e5 => ?_) (fun h => by cases h)
        refine s_setL (xs := rs.map V.int) (l := ra) (j := j) (v := .int rk) ((D4.ex e5).fr _ _ hk0) (ev_var rfl) (ev_var rfl) (ev_var rfl) (by rw [List.length_map, S.lenR]; exact hj) fun H6 e6 => ?_
        have D6 := (D4.ex (e5.trans e6)).set (u := .lst ((rs.map V.int).set j (.int rk))) hk0
        have hset : (rs.map V.int).set j (.int rk) = (rs.set j rk).map V.int := (List.map_set ..).symm
        rw [hset] at D6 ⊢
        dsimp only
        refine s_ret ev_c fun H7 e7 => ?_
        exact k _ H7 _ _ (Ex.mut eF hra1) (by rw [upd_ne nba]; exact hb0) upd_same (D6.ex e7) ok4 S4
/-! ### desk_rank -/
theorem sc_desk_rank : FnScope ["self", "name"] ["self", "name"] (defScope s_desk_rank) := ⟨rfl, rfl, rfl, by decide +kernel, rfl, by decide +kernel, by decide +kernel⟩
def sp_desk_rank (K : PySem.W.Frag) : Sp := fun vs H Q E => ∃ (p : Addr) (d : Dk) (l : Addr) (ps : List Pr) (nm : Str), vs = [.ref p, .str nm] ∧ DkAt K H p d l ps ∧ d.Wf ∧ (d.get nm = none → ∀ H', Ex H H' → E (.ref (He.ga K "Unknown")) none H') ∧ ∀ c, d.get nm = some c → RetV (.int c.rk) H Q
theorem cv_rank {K : PySem.W.Frag} {H : Hp} {p l : Addr} {d : Dk} {ps : List Pr} {c : Cl} {nm : Str} (h : DkAt K H p d l ps) (W : d.Wf) (hc : d.get nm = some c) : SpV (sp_desk_rank K) (.ref p :: ([.str nm] ++ [])) H (.int c.rk) :=
  spv_meth fun _ e _ _ k => ⟨p, d, l, ps, nm, rfl, h.ex e, W, fun hn => (by rw [hn] at hc; cases hc), fun c' h' => by rw [hc] at h'; cases h'; exact k⟩
theorem ok_desk_rank {P : Program} {w : World} {K : PySem.W.Frag} {mg : Str → Option Value} {base : Heap} (T : Txt K mg) : ∃ fd, FnOk P w K mg base (L2N.CX P w) 2 (He.ma K (He.ga K "Desk") "rank") fd ["self", "name"] (sp_desk_rank K) ∧ Binds K fd ["self", "name"] [] ∧ FunD K "rank" "Desk.rank" (defArgs s_desk_rank) (defBody s_desk_rank) (defScope s_desk_rank) [] [] (He.ma K (He.ga K "Desk") "rank") fd := by
  obtain ⟨fd, F⟩ := f_desk_rank T
  obtain ⟨d_desk_one, G_desk_one, b_desk_one, _⟩ := ok_desk_one (P := P) (w := w) (base := base) T
  refine ⟨fd, okXN F sc_desk_rank (fun vs H Q E h => ?_) (fun cdv A outer s H vs Q E hr h => ?_), FunD.bindsN F fun _ _ _ _ _ _ us hl => match us, hl with | [_, _], _ => rfl, F⟩
  · (repeat (obtain ⟨_, h⟩ := h)); subst_vars; rfl
  · obtain ⟨p, d, l, ps, nm, rfl, D, W, kE, k⟩ := h
    refine ⟨_, (pss_one (ps_ret (pe_fldK (K := K) rfl (pe_meth (pv 0) (c_Desk T) (m_desk_one T) G_desk_one (hr.mono (by decide)) b_desk_one .nil (L2N.passes_call (L2N.takes_of rfl rfl rfl rfl) (fun _ _ _ _ h => h)) (pa_cons (pv 1) pa_nil)) rfl))), ?_⟩
    obtain ⟨dx, hp⟩ := D.ob
    refine ⟨_, rfl, p, dx, _, rfl, hp, rfl, _, rfl, p, d, l, ps, nm, rfl, D, fun q hq hn H1 e1 => ?_, fun hn H1 e1 => kE (D.get_none hn) H1 e1⟩
    subst hn
    obtain ⟨dc, hc⟩ := (D.at_ q hq).ex e1
    exact ⟨q.1, aC K, dc, _, _, rfl, hc, c_Caller T, n_Caller_grade T, rfl, k q.2 (D.get_of W hq) H1 e1⟩
/-! ### desk_left -/
theorem sc_desk_left : FnScope ["self", "name", "caller"] ["self", "name"] (defScope s_desk_left) := ⟨rfl, rfl, rfl, by decide +kernel, rfl, by decide +kernel, by decide +kernel⟩
def leftV (d : Dk) (c : Cl) : V := match c.md with
  | .slp t => .int (t - d.now)
  | _ => .non
def sp_desk_left (K : PySem.W.Frag) : Sp := fun vs H Q E => ∃ (p : Addr) (d : Dk) (l : Addr) (ps : List Pr) (nm : Str), vs = [.ref p, .str nm] ∧ DkAt K H p d l ps ∧ d.Wf ∧ (d.get nm = none → ∀ H', Ex H H' → E (.ref (He.ga K "Unknown")) none H') ∧ ∀ c, d.get nm = some c → RetV (leftV d c) H Q
theorem cv_left {K : PySem.W.Frag} {H : Hp} {p l : Addr} {d : Dk} {ps : List Pr} {c : Cl} {nm : Str} (h : DkAt K H p d l ps) (W : d.Wf) (hc : d.get nm = some c) : SpV (sp_desk_left K) (.ref p :: ([.str nm] ++ [])) H (leftV d c) :=
  spv_meth fun _ e _ _ k => ⟨p, d, l, ps, nm, rfl, h.ex e, W, fun hn => (by rw [hn] at hc; cases hc), fun c' h' => by rw [hc] at h'; cases h'; exact k⟩
theorem ok_desk_left {P : Program} {w : World} {K : PySem.W.Frag} {mg : Str → Option Value} {base : Heap} (T : Txt K mg) : ∃ fd, FnOk P w K mg base (L2N.CX P w) 2 (He.ma K (He.ga K "Desk") "left") fd ["self", "name"] (sp_desk_left K) ∧ Binds K fd ["self", "name"] [] ∧ FunD K "left" "Desk.left" (defArgs s_desk_left) (defBody s_desk_left) (defScope s_desk_left) [] [] (He.ma K (He.ga K "Desk") "left") fd := by
  obtain ⟨fd, F⟩ := f_desk_left T
  obtain ⟨d_desk_one, G_desk_one, b_desk_one, _⟩ := ok_desk_one (P := P) (w := w) (base := base) T
  refine ⟨fd, okXN F sc_desk_left (fun vs H Q E h => ?_) (fun cdv A outer s H vs Q E hr h => ?_), FunD.bindsN F fun _ _ _ _ _ _ us hl => match us, hl with | [_, _], _ => rfl, F⟩
  · (repeat (obtain ⟨_, h⟩ := h)); subst_vars; rfl
  · obtain ⟨p, d, l, ps, nm, rfl, D, W, kE, k⟩ := h
    refine ⟨_, (pss_cons (ps_set (i := 2) sc_desk_left.nd rfl (Or.inl rfl) (pe_meth (pv 0) (c_Desk T) (m_desk_one T) G_desk_one (hr.mono (by decide)) b_desk_one .nil (L2N.passes_call (L2N.takes_of rfl rfl rfl rfl) (fun _ _ _ _ h => h)) (pa_cons (pv 1) pa_nil)))
        (pss_cons (ps_if (pt_cmpR op_eq (pe_fldK (K := K) rfl (pv 2) rfl) pe_str (nomark _)) (pss_one (ps_ret (pe_op op_sub (pe_fldK (K := K) rfl (pv 2) rfl) (pe_fldK (K := K) rfl (pv 0) rfl))))
        pss_nil)
        (pss_one (ps_ret pe_non)))), ?_⟩
    obtain ⟨dx, hp⟩ := D.ob
    refine q_meth (ev_var rfl) hp rfl (ea_cons (ev_var rfl) ea_nil) fun H1 e1 => ?_
    refine ⟨p, d, l, ps, nm, rfl, D.ex e1, fun q hq hn H2 e2 => ?_, fun hn H2 e2 => kE (D.get_none hn) H2 (e1.trans e2)⟩
    subst hn
    have k := k q.2 (D.get_of W hq)
    have e12 := e1.trans e2
    have C2 := (D.at_ q hq).ex e12
    unfold leftV at k
    refine q_when (b := q.2.md.isS) ?h (fun hb H3 e3 => ?_) (fun hb H3 e3 => ?_)
    case h =>
      rw [← st_asleep, ← decV]
      exact et_test (ev_op (ev_stand T (ev_var rfl) C2) ev_c (rv_eq rfl))
    · obtain ⟨t, ht⟩ : ∃ t, q.2.md = .slp t := by
        cases em : q.2.md with
        | rdy s => rw [em] at hb; cases hb
        | slp s => exact ⟨s, rfl⟩
        | wtg s => rw [em] at hb; cases hb
      rw [ht] at k
      have e13 := e12.trans e3
      have hm := ev_mark (ta := tVar 2) (σ := [some (.ref p), some (.str q.2.nm), some (.ref q.1)]) T (ev_var rfl) ((D.at_ q hq).ex e13)
      rw [ht] at hm
      exact s_ret (ev_op hm (ev_now T (ev_var rfl) (D.ex e13)) rv_I0) fun H5 e5 => k H5 (e13.trans e5)
    · refine s_ret ev_c fun H5 e5 => ?_
      have := k H5 ((e12.trans e3).trans e5)
      cases em : q.2.md with
      | rdy s => rw [em] at this; exact this
      | slp s => rw [em] at hb; cases hb
      | wtg s => rw [em] at this; exact this
/-! ### L_whole -/
theorem sc_L_whole : FnScope ["_law_found"] ["_law_found"] (defScope s_L_whole) := ⟨rfl, rfl, rfl, by decide +kernel, rfl, by decide +kernel, by decide +kernel⟩
def sp_L_whole (_ : PySem.W.Frag) : Sp := fun vs H Q _ => ∃ (i : Int), vs = [.int i] ∧ RetV (.bl true) H Q
theorem cv_L_whole {K : PySem.W.Frag} {H : Hp} {i : Int} : SpV (sp_L_whole K) ([.int i] ++ []) H (.bl true) := spv_call fun _ _ _ _ k => ⟨i, rfl, k⟩
local macro_rules | `(tactic| tm_at "rr.cv") => `(tactic| exact cv_L_whole)
theorem ok_L_whole {P : Program} {w : World} {K : PySem.W.Frag} {mg : Str → Option Value} {base : Heap} (T : Txt K mg) : ∃ fd, FnOk P w K mg base (CX0) 1 (He.ga K "_law_whole") fd ["_law_found"] (sp_L_whole K) ∧ Binds K fd ["_law_found"] [] ∧ FunD K "_law_whole" "_law_whole" (defArgs s_L_whole) (defBody s_L_whole) (defScope s_L_whole) [] [] (He.ga K "_law_whole") fd := by
  obtain ⟨fd, F⟩ := f_L_whole T
  refine ⟨fd, ok0 F sc_L_whole (fun vs H Q E h => ?_) (fun cdv A outer s H vs Q E hr h => ?_), FunD.bindsN F fun _ _ _ _ _ _ us hl => match us, hl with | [_], _ => rfl, F⟩
  · (repeat (obtain ⟨_, h⟩ := h)); subst_vars; rfl
  · obtain ⟨i, rfl, k⟩ := h
    refine ⟨_, (pss_one (ps_ret (pe_and (pe_callB (call_isiK' (K := K) rfl) rfl (b_isinstance T) (by decide +kernel) (pa_cons (pv 0) (pa_cons (pe_bltn (v := .ty "int") rfl (b_int T) (by decide +kernel) rfl) pa_nil))) (pe_one (pe_not (pe_callB (call_isiK' (K := K) rfl) rfl (b_isinstance T) (by decide +kernel) (pa_cons (pv 0) (pa_cons (pe_bltn (v := .ty "bool") rfl (b_bool T) (by decide +kernel) rfl) pa_nil)))))))), ?_⟩
    exact s_ret (ev_andV (ev_cb (ea_cons (ev_var rfl) (ea_cons ev_c ea_nil)) rc_isi_int) fun _ => ev_notV (ev_cb (ea_cons (ev_var rfl) (ea_cons ev_c ea_nil)) rc_isi_int_bool)) k
/-! ### desk_state -/
theorem sc_desk_state : FnScope ["self", "name"] ["self", "name"] (defScope s_desk_state) := ⟨rfl, rfl, rfl, by decide +kernel, rfl, by decide +kernel, by decide +kernel⟩
def sp_desk_state (K : PySem.W.Frag) : Sp := fun vs H Q E => ∃ (p : Addr) (d : Dk) (l : Addr) (ps : List Pr) (nm : Str), vs = [.ref p, .str nm] ∧ DkAt K H p d l ps ∧ d.Wf ∧ (d.get nm = none → ∀ H', Ex H H' → E (.ref (He.ga K "Unknown")) none H') ∧ ∀ c, d.get nm = some c → RetV (.str c.md.st) H Q
theorem cv_state {K : PySem.W.Frag} {H : Hp} {p l : Addr} {d : Dk} {ps : List Pr} {c : Cl} {nm : Str} (h : DkAt K H p d l ps) (W : d.Wf) (hc : d.get nm = some c) : SpV (sp_desk_state K) (.ref p :: ([.str nm] ++ [])) H (.str c.md.st) :=
  spv_meth fun _ e _ _ k => ⟨p, d, l, ps, nm, rfl, h.ex e, W, fun hn => (by rw [hn] at hc; cases hc), fun c' h' => by rw [hc] at h'; cases h'; exact k⟩
theorem ok_desk_state {P : Program} {w : World} {K : PySem.W.Frag} {mg : Str → Option Value} {base : Heap} (T : Txt K mg) : ∃ fd, FnOk P w K mg base (L2N.CX P w) 2 (He.ma K (He.ga K "Desk") "state") fd ["self", "name"] (sp_desk_state K) ∧ Binds K fd ["self", "name"] [] ∧ FunD K "state" "Desk.state" (defArgs s_desk_state) (defBody s_desk_state) (defScope s_desk_state) [] [] (He.ma K (He.ga K "Desk") "state") fd := by
  obtain ⟨fd, F⟩ := f_desk_state T
  obtain ⟨d_desk_one, G_desk_one, b_desk_one, _⟩ := ok_desk_one (P := P) (w := w) (base := base) T
  refine ⟨fd, okXN F sc_desk_state (fun vs H Q E h => ?_) (fun cdv A outer s H vs Q E hr h => ?_), FunD.bindsN F fun _ _ _ _ _ _ us hl => match us, hl with | [_, _], _ => rfl, F⟩
  · (repeat (obtain ⟨_, h⟩ := h)); subst_vars; rfl
  · obtain ⟨p, d, l, ps, nm, rfl, D, W, kE, k⟩ := h
    refine ⟨_, (pss_one (ps_ret (pe_fldK (K := K) rfl (pe_meth (pv 0) (c_Desk T) (m_desk_one T) G_desk_one (hr.mono (by decide)) b_desk_one .nil (L2N.passes_call (L2N.takes_of rfl rfl rfl rfl) (fun _ _ _ _ h => h)) (pa_cons (pv 1) pa_nil)) rfl))), ?_⟩
    obtain ⟨dx, hp⟩ := D.ob
    refine ⟨_, rfl, p, dx, _, rfl, hp, rfl, _, rfl, p, d, l, ps, nm, rfl, D, fun q hq hn H1 e1 => ?_, fun hn H1 e1 => kE (D.get_none hn) H1 e1⟩
    subst hn
    obtain ⟨dc, hc⟩ := (D.at_ q hq).ex e1
    exact ⟨q.1, aC K, dc, _, _, rfl, hc, c_Caller T, n_Caller_stand T, rfl, k q.2 (D.get_of W hq) H1 e1⟩
/-! ### desk_bell -/
theorem sc_desk_bell : FnScope ["self", "name", "caller"] ["self", "name"] (defScope s_desk_bell) := ⟨rfl, rfl, rfl, by decide +kernel, rfl, by decide +kernel, by decide +kernel⟩
def bellV (c : Cl) : V := match c.md with
  | .wtg b => .str b
  | _ => .non
def sp_desk_bell (K : PySem.W.Frag) : Sp := fun vs H Q E => ∃ (p : Addr) (d : Dk) (l : Addr) (ps : List Pr) (nm : Str), vs = [.ref p, .str nm] ∧ DkAt K H p d l ps ∧ d.Wf ∧ (d.get nm = none → ∀ H', Ex H H' → E (.ref (He.ga K "Unknown")) none H') ∧ ∀ c, d.get nm = some c → RetV (bellV c) H Q
theorem cv_bell {K : PySem.W.Frag} {H : Hp} {p l : Addr} {d : Dk} {ps : List Pr} {c : Cl} {nm : Str} (h : DkAt K H p d l ps) (W : d.Wf) (hc : d.get nm = some c) : SpV (sp_desk_bell K) (.ref p :: ([.str nm] ++ [])) H (bellV c) :=
  spv_meth fun _ e _ _ k => ⟨p, d, l, ps, nm, rfl, h.ex e, W, fun hn => (by rw [hn] at hc; cases hc), fun c' h' => by rw [hc] at h'; cases h'; exact k⟩
theorem ok_desk_bell {P : Program} {w : World} {K : PySem.W.Frag} {mg : Str → Option Value} {base : Heap} (T : Txt K mg) : ∃ fd, FnOk P w K mg base (L2N.CX P w) 2 (He.ma K (He.ga K "Desk") "bell") fd ["self", "name"] (sp_desk_bell K) ∧ Binds K fd ["self", "name"] [] ∧ FunD K "bell" "Desk.bell" (defArgs s_desk_bell) (defBody s_desk_bell) (defScope s_desk_bell) [] [] (He.ma K (He.ga K "Desk") "bell") fd := by
  obtain ⟨fd, F⟩ := f_desk_bell T
  obtain ⟨d_desk_one, G_desk_one, b_desk_one, _⟩ := ok_desk_one (P := P) (w := w) (base := base) T
  refine ⟨fd, okXN F sc_desk_bell (fun vs H Q E h => ?_) (fun cdv A outer s H vs Q E hr h => ?_), FunD.bindsN F fun _ _ _ _ _ _ us hl => match us, hl with | [_, _], _ => rfl, F⟩
  · (repeat (obtain ⟨_, h⟩ := h)); subst_vars; rfl
  · obtain ⟨p, d, l, ps, nm, rfl, D, W, kE, k⟩ := h
    refine ⟨_, (pss_cons (ps_set (i := 2) sc_desk_bell.nd rfl (Or.inl rfl) (pe_meth (pv 0) (c_Desk T) (m_desk_one T) G_desk_one (hr.mono (by decide)) b_desk_one .nil (L2N.passes_call (L2N.takes_of rfl rfl rfl rfl) (fun _ _ _ _ h => h)) (pa_cons (pv 1) pa_nil)))
        (pss_cons (ps_if (pt_cmpR op_eq (pe_fldK (K := K) rfl (pv 2) rfl) pe_str (nomark _)) (pss_one (ps_ret (pe_fldK (K := K) rfl (pv 2) rfl)))
        pss_nil)
        (pss_one (ps_ret pe_non)))), ?_⟩
    obtain ⟨dx, hp⟩ := D.ob
    refine q_meth (ev_var rfl) hp rfl (ea_cons (ev_var rfl) ea_nil) fun H1 e1 => ?_
    refine ⟨p, d, l, ps, nm, rfl, D.ex e1, fun q hq hn H2 e2 => ?_, fun hn H2 e2 => kE (D.get_none hn) H2 (e1.trans e2)⟩
    subst hn
    have k := k q.2 (D.get_of W hq)
    have e12 := e1.trans e2
    have C2 := (D.at_ q hq).ex e12
    unfold bellV at k
    refine q_when (b := q.2.md.isW) ?h (fun hb H3 e3 => ?_) (fun hb H3 e3 => ?_)
    case h =>
      rw [← st_waiting, ← decV]
      exact et_test (ev_op (ev_stand T (ev_var rfl) C2) ev_c (rv_eq rfl))
    · obtain ⟨t, ht⟩ : ∃ t, q.2.md = .wtg t := by
        cases em : q.2.md with
        | rdy s => rw [em] at hb; cases hb
        | slp s => rw [em] at hb; cases hb
        | wtg s => exact ⟨s, rfl⟩
      rw [ht] at k
      have e13 := e12.trans e3
      have hm := ev_mark (ta := tVar 2) (σ := [some (.ref p), some (.str q.2.nm), some (.ref q.1)]) T (ev_var rfl) ((D.at_ q hq).ex e13)
      rw [ht] at hm
      exact s_ret hm fun H5 e5 => k H5 (e13.trans e5)
    · refine s_ret ev_c fun H5 e5 => ?_
      have := k H5 ((e12.trans e3).trans e5)
      cases em : q.2.md with
      | rdy s => rw [em] at this; exact this
      | slp s => rw [em] at this; exact this
      | wtg s => rw [em] at hb; cases hb
/-! ### desk_waited -/
theorem sc_desk_waited : FnScope ["self", "name", "caller"] ["self", "name"] (defScope s_desk_waited) := ⟨rfl, rfl, rfl, by decide +kernel, rfl, by decide +kernel, by decide +kernel⟩
def waitedErr (d : Dk) (nm : Str) : Option Str := match d.get nm with
  | none => some "Unknown"
  | some c => if c.md.isR = true then none else some "NotReady"
def sp_desk_waited (K : PySem.W.Frag) : Sp := fun vs H Q E => ∃ (p : Addr) (d : Dk) (l : Addr) (ps : List Pr) (nm : Str), vs = [.ref p, .str nm] ∧ DkAt K H p d l ps ∧ d.Wf ∧ (∀ e, waitedErr d nm = some e → ∀ H', Ex H H' → E (.ref (He.ga K e)) none H') ∧
  ∀ c, d.get nm = some c → c.md.isR = true → RetV (.int (d.now - c.md.since)) H Q
theorem cv_waited {K : PySem.W.Frag} {H : Hp} {p l : Addr} {d : Dk} {ps : List Pr} {c : Cl} {nm : Str} (h : DkAt K H p d l ps) (W : d.Wf) (hc : d.get nm = some c) (hr : c.md.isR = true) : SpV (sp_desk_waited K) (.ref p :: ([.str nm] ++ [])) H (.int (d.now - c.md.since)) :=
  spv_meth fun _ e _ _ k => ⟨p, d, l, ps, nm, rfl, h.ex e, W, fun er hn => (by unfold waitedErr at hn; rw [hc] at hn; dsimp only at hn; rw [if_pos hr] at hn; cases hn), fun c' h' _ => by rw [hc] at h'; cases h'; exact k⟩
theorem ok_desk_waited {P : Program} {w : World} {K : PySem.W.Frag} {mg : Str → Option Value} {base : Heap} (T : Txt K mg) : ∃ fd, FnOk P w K mg base (L2N.CX P w) 2 (He.ma K (He.ga K "Desk") "waited") fd ["self", "name"] (sp_desk_waited K) ∧ Binds K fd ["self", "name"] [] ∧ FunD K "waited" "Desk.waited" (defArgs s_desk_waited) (defBody s_desk_waited) (defScope s_desk_waited) [] [] (He.ma K (He.ga K "Desk") "waited") fd := by
  obtain ⟨fd, F⟩ := f_desk_waited T
  obtain ⟨d_desk_one, G_desk_one, b_desk_one, _⟩ := ok_desk_one (P := P) (w := w) (base := base) T
  obtain ⟨d_desk_need_ready, G_desk_need_ready, b_desk_need_ready, _⟩ := ok_desk_need_ready (P := P) (w := w) (base := base) T
  refine ⟨fd, okXN F sc_desk_waited (fun vs H Q E h => ?_) (fun cdv A outer s H vs Q E hr h => ?_), FunD.bindsN F fun _ _ _ _ _ _ us hl => match us, hl with | [_, _], _ => rfl, F⟩
  · (repeat (obtain ⟨_, h⟩ := h)); subst_vars; rfl
  · obtain ⟨p, d, l, ps, nm, rfl, D, W, kE, k⟩ := h
    refine ⟨_, (pss_cons (ps_set (i := 2) sc_desk_waited.nd rfl (Or.inl rfl) (pe_meth (pv 0) (c_Desk T) (m_desk_one T) G_desk_one (hr.mono (by decide)) b_desk_one .nil (L2N.passes_call (L2N.takes_of rfl rfl rfl rfl) (fun _ _ _ _ h => h)) (pa_cons (pv 1) pa_nil)))
        (pss_cons (ps_expr (pe_meth (pv 0) (c_Desk T) (m_desk_need_ready T) G_desk_need_ready (hr.mono (by decide)) b_desk_need_ready .nil (L2N.passes_call (L2N.takes_of rfl rfl rfl rfl) (fun _ _ _ _ h => h)) (pa_cons (pv 2) pa_nil)))
        (pss_one (ps_ret (pe_op op_sub (pe_fldK (K := K) rfl (pv 0) rfl) (pe_fldK (K := K) rfl (pv 2) rfl)))))), ?_⟩
    unfold waitedErr at kE
    obtain ⟨dx, hp⟩ := D.ob
    refine q_meth (ev_var rfl) hp rfl (ea_cons (ev_var rfl) ea_nil) fun H1 e1 => ?_
    refine ⟨p, d, l, ps, nm, rfl, D.ex e1, fun q hq hn H2 e2 => ?_, fun hn H2 e2 => kE _ (by rw [D.get_none hn]) H2 (e1.trans e2)⟩
    subst hn
    rw [D.get_of W hq] at kE
    have k := k q.2 (D.get_of W hq)
    have e12 := e1.trans e2
    refine q_dmeth (ev_var rfl) (e12 _ _ hp) rfl (ea_cons (ev_var rfl) ea_nil) fun H3 e3 => ?_
    refine ⟨p, q.1, q.2, rfl, (D.at_ q hq).ex (e12.trans e3), fun hr H4 e4 => ?_, fun hr H4 e4 => kE _ (if_neg (by rw [hr]; decide)) H4 ((e12.trans e3).trans e4)⟩
    have e14 := (e12.trans e3).trans e4
    have hm := ev_mark (ta := tVar 2) (σ := [some (.ref p), some (.str q.2.nm), some (.ref q.1)]) T (ev_var rfl) ((D.at_ q hq).ex e14)
    rw [mark_rdy hr] at hm
    exact s_ret (ev_op (ev_now T (ev_var rfl) (D.ex e14)) hm rv_I0) fun H5 e5 => k hr H5 (e14.trans e5)
/-! ### limit -/
theorem sc_limit : FnScope ["rank", "pace", "room"] ["rank", "pace", "room"] (defScope s_limit) := ⟨rfl, rfl, rfl, by decide +kernel, rfl, by decide +kernel, by decide +kernel⟩
def sp_limit (_ : PySem.W.Frag) : Sp := fun vs H Q _ => ∃ (r p m : Int), vs = [.int r, .int p, .int m] ∧ 0 < p ∧ p ≤ 1000 ∧ RetV (.int (p * (99 - r) + m)) H Q
theorem cv_limit {K : PySem.W.Frag} {H : Hp} {r p m : Int} (h1 : 0 < p) (h2 : p ≤ 1000) : SpV (sp_limit K) ([.int r, .int p, .int m] ++ []) H (.int (p * (99 - r) + m)) := spv_call fun _ _ _ _ k => ⟨r, p, m, rfl, h1, h2, k⟩
local macro_rules | `(tactic| tm_at "rr.cv") => `(tactic| refine' cv_limit ?_ ?_)
theorem ok_limit {P : Program} {w : World} {K : PySem.W.Frag} {mg : Str → Option Value} {base : Heap} (T : Txt K mg) : ∃ fd, FnOk P w K mg base (CX0) 1 (He.ga K "limit") fd ["rank", "pace", "room"] (sp_limit K) ∧ Binds K fd ["rank", "pace", "room"] [] ∧ FunD K "limit" "limit" (defArgs s_limit) (defBody s_limit) (defScope s_limit) [] [] (He.ga K "limit") fd := by
  obtain ⟨fd, F⟩ := f_limit T
  obtain ⟨t_TOP, hk_TOP⟩ := k_TOP T
  refine ⟨fd, ok0 F sc_limit (fun vs H Q E h => ?_) (fun cdv A outer s H vs Q E hr h => ?_), FunD.bindsN F fun _ _ _ _ _ _ us hl => match us, hl with | [_, _, _], _ => rfl, F⟩
  · (repeat (obtain ⟨_, h⟩ := h)); subst_vars; rfl
  · obtain ⟨r, p, m, rfl, h1, h2, k⟩ := h
    refine ⟨_, (pss_one (ps_ret (pe_op op_add (pe_op op_mul (pv 1) (pe_op op_sub (pe_glob (v := .int 99) rfl hk_TOP ⟨_, rfl⟩) (pv 0))) (pv 2)))), ?_⟩
    exact s_ret (ev_op (ev_op (ev_var rfl) (ev_op ev_c (ev_var rfl) rv_I0) (rv_I (cmul_l (by omega) (by omega)))) (ev_var rfl) rv_I0) k
/-! ### desk_within -/
theorem sc_desk_within : FnScope ["self", "name", "caller"] ["self", "name"] (defScope s_desk_within) := ⟨rfl, rfl, rfl, by decide +kernel, rfl, by decide +kernel, by decide +kernel⟩
def sp_desk_within (K : PySem.W.Frag) : Sp := fun vs H Q E => ∃ (p : Addr) (d : Dk) (l : Addr) (ps : List Pr) (nm : Str), vs = [.ref p, .str nm] ∧ DkAt K H p d l ps ∧ d.Wf ∧ (∀ e, waitedErr d nm = some e → ∀ H', Ex H H' → E (.ref (He.ga K e)) none H') ∧
  ∀ c, d.get nm = some c → c.md.isR = true → RetV (.int (d.pace * (99 - c.rk) + d.room - (d.now - c.md.since))) H Q
theorem cv_within {K : PySem.W.Frag} {H : Hp} {p l : Addr} {d : Dk} {ps : List Pr} {c : Cl} {nm : Str} (h : DkAt K H p d l ps) (W : d.Wf) (hc : d.get nm = some c) (hr : c.md.isR = true) : SpV (sp_desk_within K) (.ref p :: ([.str nm] ++ [])) H (.int (d.pace * (99 - c.rk) + d.room - (d.now - c.md.since))) :=
  spv_meth fun _ e _ _ k => ⟨p, d, l, ps, nm, rfl, h.ex e, W, fun er hn => (by unfold waitedErr at hn; rw [hc] at hn; dsimp only at hn; rw [if_pos hr] at hn; cases hn), fun c' h' _ => by rw [hc] at h'; cases h'; exact k⟩
theorem ok_desk_within {P : Program} {w : World} {K : PySem.W.Frag} {mg : Str → Option Value} {base : Heap} (T : Txt K mg) : ∃ fd, FnOk P w K mg base (L2N.CX P w) 2 (He.ma K (He.ga K "Desk") "within") fd ["self", "name"] (sp_desk_within K) ∧ Binds K fd ["self", "name"] [] ∧ FunD K "within" "Desk.within" (defArgs s_desk_within) (defBody s_desk_within) (defScope s_desk_within) [] [] (He.ma K (He.ga K "Desk") "within") fd := by
  obtain ⟨fd, F⟩ := f_desk_within T
  obtain ⟨d_desk_one, G_desk_one, b_desk_one, _⟩ := ok_desk_one (P := P) (w := w) (base := base) T
  obtain ⟨d_desk_need_ready, G_desk_need_ready, b_desk_need_ready, _⟩ := ok_desk_need_ready (P := P) (w := w) (base := base) T
  obtain ⟨d_limit, G_limit, b_limit, _⟩ := ok_limit (P := P) (w := w) (base := base) T
  refine ⟨fd, okXN F sc_desk_within (fun vs H Q E h => ?_) (fun cdv A outer s H vs Q E hr h => ?_), FunD.bindsN F fun _ _ _ _ _ _ us hl => match us, hl with | [_, _], _ => rfl, F⟩
  · (repeat (obtain ⟨_, h⟩ := h)); subst_vars; rfl
  · obtain ⟨p, d, l, ps, nm, rfl, D, W, kE, k⟩ := h
    refine ⟨_, (pss_cons (ps_set (i := 2) sc_desk_within.nd rfl (Or.inl rfl) (pe_meth (pv 0) (c_Desk T) (m_desk_one T) G_desk_one (hr.mono (by decide)) b_desk_one .nil (L2N.passes_call (L2N.takes_of rfl rfl rfl rfl) (fun _ _ _ _ h => h)) (pa_cons (pv 1) pa_nil)))
        (pss_cons (ps_expr (pe_meth (pv 0) (c_Desk T) (m_desk_need_ready T) G_desk_need_ready (hr.mono (by decide)) b_desk_need_ready .nil (L2N.passes_call (L2N.takes_of rfl rfl rfl rfl) (fun _ _ _ _ h => h)) (pa_cons (pv 2) pa_nil)))
        (pss_one (ps_ret (pe_op op_sub (pe_call G_limit (hr.mono (by decide)) rfl (g_limit T) (kp_limit T) b_limit .nil pass0 (pa_cons (pe_fldK (K := K) rfl (pv 2) rfl) (pa_cons (pe_fldK (K := K) rfl (pv 0) rfl) (pa_cons (pe_fldK (K := K) rfl (pv 0) rfl) pa_nil)))) (pe_op op_sub (pe_fldK (K := K) rfl (pv 0) rfl) (pe_fldK (K := K) rfl (pv 2) rfl))))))), ?_⟩
    unfold waitedErr at kE
    obtain ⟨dx, hp⟩ := D.ob
    refine q_meth (ev_var rfl) hp rfl (ea_cons (ev_var rfl) ea_nil) fun H1 e1 => ?_
    refine ⟨p, d, l, ps, nm, rfl, D.ex e1, fun q hq hn H2 e2 => ?_, fun hn H2 e2 => kE _ (by rw [D.get_none hn]) H2 (e1.trans e2)⟩
    subst hn
    rw [D.get_of W hq] at kE
    have k := k q.2 (D.get_of W hq)
    have e12 := e1.trans e2
    refine q_dmeth (ev_var rfl) (e12 _ _ hp) rfl (ea_cons (ev_var rfl) ea_nil) fun H3 e3 => ?_
    refine ⟨p, q.1, q.2, rfl, (D.at_ q hq).ex (e12.trans e3), fun hr H4 e4 => ?_, fun hr H4 e4 => kE _ (if_neg (by rw [hr]; decide)) H4 ((e12.trans e3).trans e4)⟩
    have e14 := (e12.trans e3).trans e4
    have D4 := D.ex e14
    have C4 := (D.at_ q hq).ex e14
    have hm := ev_mark (ta := tVar 2) (σ := [some (.ref p), some (.str q.2.nm), some (.ref q.1)]) T (ev_var rfl) C4
    rw [mark_rdy hr] at hm
    have hp1 := W.p1
    have hp2 := W.p2
    exact s_ret (ev_op (ev_call (ea_cons (ev_grade T (ev_var rfl) C4) (ea_cons (ev_pace T (ev_var rfl) D4) (ea_cons (ev_room T (ev_var rfl) D4) ea_nil))) (cv_limit (by omega) hp2)) (ev_op (ev_now T (ev_var rfl) D4) hm rv_I0) rv_I0) fun H5 e5 => k hr H5 (e14.trans e5)
/-! ### desk_sleep -/
theorem sc_desk_sleep : FnScope ["self", "name", "many", "caller"] ["self", "name", "many"] (defScope s_desk_sleep) := ⟨rfl, rfl, rfl, by decide +kernel, rfl, by decide +kernel, by decide +kernel⟩
def sp_desk_sleep (K : PySem.W.Frag) : Sp := fun vs H Q E => ∃ (F : Hp) (p : Addr) (d : Dk) (nm : Str) (m : Int), vs = [.ref p, .str nm, .int m] ∧ DeskAt K F H p d ∧ d.Wf ∧
  (∀ e, sleepErr d nm m = some e → ∀ H', Ex H H' → E (.ref (He.ga K e)) none H') ∧ (∀ c, sleepErr d nm m = none → d.get nm = some c → ∀ H', DeskAt K F H' p (d.put ⟨c.nm, c.rk, .slp (d.now + m)⟩) → Q .non H')
theorem ok_desk_sleep {P : Program} {w : World} {K : PySem.W.Frag} {mg : Str → Option Value} {base : Heap} (T : Txt K mg) : ∃ fd, FnOk P w K mg base (L2N.CX P w) 2 (He.ma K (He.ga K "Desk") "sleep") fd ["self", "name", "many"] (sp_desk_sleep K) ∧ Binds K fd ["self", "name", "many"] [] ∧ FunD K "sleep" "Desk.sleep" (defArgs s_desk_sleep) (defBody s_desk_sleep) (defScope s_desk_sleep) [] [] (He.ma K (He.ga K "Desk") "sleep") fd := by
  obtain ⟨fd, F⟩ := f_desk_sleep T
  obtain ⟨d_desk_one, G_desk_one, b_desk_one, _⟩ := ok_desk_one (P := P) (w := w) (base := base) T
  obtain ⟨d_desk_need_ready, G_desk_need_ready, b_desk_need_ready, _⟩ := ok_desk_need_ready (P := P) (w := w) (base := base) T
  obtain ⟨d_desk_become, G_desk_become, b_desk_become, _⟩ := ok_desk_become (P := P) (w := w) (base := base) T
  obtain ⟨t_MOST_TURNS, hk_MOST_TURNS⟩ := k_MOST_TURNS T
  refine ⟨fd, okXN F sc_desk_sleep (fun vs H Q E h => ?_) (fun cdv A outer s H vs Q E hr h => ?_), FunD.bindsN F fun _ _ _ _ _ _ us hl => match us, hl with | [_, _, _], _ => rfl, F⟩
  · (repeat (obtain ⟨_, h⟩ := h)); subst_vars; rfl
  · obtain ⟨F, p, d, nm, m, rfl, ⟨l, ps, D, f⟩, W, kE, k⟩ := h
    refine ⟨_, (pss_cons (ps_set (i := 3) sc_desk_sleep.nd rfl (Or.inl rfl) (pe_meth (pv 0) (c_Desk T) (m_desk_one T) G_desk_one (hr.mono (by decide)) b_desk_one .nil (L2N.passes_call (L2N.takes_of rfl rfl rfl rfl) (fun _ _ _ _ h => h)) (pa_cons (pv 1) pa_nil)))
        (pss_cons (ps_if (PW.pt (pw_or (pt_cmpR op_lt (pv 2) pe_int (nomark _)) (pw_or1 (pt_cmpR op_gt (pv 2) (pe_glob (v := .int 1000) rfl hk_MOST_TURNS ⟨_, rfl⟩) (nomark _))))) (pss_one (L2N.ps_raise rfl (L2N.takes_of rfl rfl rfl rfl) (L2N.pmk_own PySem.F.excBase_ValueError (x_NoSpan T).1 (g_NoSpan T) (x_NoSpan T).2.1 (raises_own (x_NoSpan T).2.2.1 (x_NoSpan T).2.2.2) rfl)))
        pss_nil)
        (pss_cons (ps_expr (pe_meth (pv 0) (c_Desk T) (m_desk_need_ready T) G_desk_need_ready (hr.mono (by decide)) b_desk_need_ready .nil (L2N.passes_call (L2N.takes_of rfl rfl rfl rfl) (fun _ _ _ _ h => h)) (pa_cons (pv 3) pa_nil)))
        (pss_one (ps_expr (pe_meth (pv 0) (c_Desk T) (m_desk_become T) G_desk_become (hr.mono (by decide)) b_desk_become .nil pass0 (pa_cons (pv 3) (pa_cons pe_str (pa_cons (pe_op op_add (pe_fldK (K := K) rfl (pv 0) rfl) (pv 2)) pa_nil))))))))), ?_⟩
    unfold sleepErr at kE k
    obtain ⟨dx, hp⟩ := D.ob
    refine q_meth (ev_var rfl) hp rfl (ea_cons (ev_var rfl) ea_nil) fun H1 e1 => ?_
    refine ⟨p, d, l, ps, nm, rfl, D.ex e1, fun q hq hn H2 e2 => ?_, fun hn H2 e2 => kE _ (by rw [D.get_none hn]) H2 (e1.trans e2)⟩
    subst hn
    rw [D.get_of W hq] at kE k
    dsimp only at kE k
    refine' q_when ?h (fun hb H3 e3 => ?_) (fun hb H3 e3 => ?_)
    case h => tm_at "rr.ev"
    · exact kE _ (if_pos (by simpa using hb)) H3 ((e1.trans e2).trans e3)
    have n1 : ¬ (m < 1 ∨ 1000 < m) := by simpa using hb
    rw [if_neg n1] at kE k
    have e13 := (e1.trans e2).trans e3
    refine q_dmeth (ev_var rfl) (e13 _ _ hp) rfl (ea_cons (ev_var rfl) ea_nil) fun H4 e4 => ?_
    refine ⟨p, q.1, q.2, rfl, (D.at_ q hq).ex (e13.trans e4), fun hr H5 e5 => ?_, fun hr H5 e5 => kE _ (if_neg (by rw [hr]; decide)) H5 ((e13.trans e4).trans e5)⟩
    have e15 := (e13.trans e4).trans e5
    have D5 := D.ex e15
    refine s_dmeth (ev_var rfl) (e15 _ _ hp) rfl (ea_cons (ev_var rfl) (ea_cons ev_c (ea_cons (ev_op (ev_now T (ev_var rfl) D5) (ev_var rfl) rv_I0) ea_nil))) fun H6 e6 => ?_
    exact ⟨F, p, d, l, ps, q, .slp (d.now + m), rfl, D5.ex e6, f.mono (e15.trans e6), hq, W, fun H7 l7 D7 f7 => k q.2 (if_pos hr) rfl H7 ⟨l7, _, D7, f7⟩⟩
/-! ### L_no_wait -/
theorem sc_L_no_wait : FnScope ["_law_desk", "_law_name", "_law_way", "_law_e"] ["_law_desk", "_law_name", "_law_way"] (defScope s_L_no_wait) := ⟨rfl, rfl, rfl, by decide +kernel, rfl, by decide +kernel, by decide +kernel⟩
theorem waited_not {d : Dk} {nm : Str} {c : Cl} (hc : d.get nm = some c) (hr : c.md.isR = false) : waitedErr d nm = some ("NotReady" : Str) := by
  unfold waitedErr
  rw [hc]
  exact if_neg (by rw [hr]; decide)
def sp_L_no_wait (K : PySem.W.Frag) : Sp := fun vs H Q _ => ∃ (F : Hp) (p : Addr) (d : Dk) (nm : Str) (c : Cl) (w : Int), vs = [.ref p, .str nm, .int w] ∧ DeskAt K F H p d ∧ d.Wf ∧ d.get nm = some c ∧ c.md.isR = false ∧ RetV (.bl true) H Q
theorem cv_no_wait {K : PySem.W.Frag} {F H : Hp} {p : Addr} {d : Dk} {nm : Str} {c : Cl} {w : Int} (D : DeskAt K F H p d) (W : d.Wf) (hc : d.get nm = some c) (hm : c.md.isR = false) : SpV (sp_L_no_wait K) ([.ref p, .str nm, .int w] ++ []) H (.bl true) := spv_call fun _ e _ _ k => ⟨F, p, d, nm, c, w, rfl, D.ex e, W, hc, hm, k⟩
theorem ok_L_no_wait {P : Program} {w : World} {K : PySem.W.Frag} {mg : Str → Option Value} {base : Heap} (T : Txt K mg) : ∃ fd, FnOk P w K mg base (CX0) 3 (He.ga K "_law_no_wait") fd ["_law_desk", "_law_name", "_law_way"] (sp_L_no_wait K) ∧ Binds K fd ["_law_desk", "_law_name", "_law_way"] [] ∧ FunD K "_law_no_wait" "_law_no_wait" (defArgs s_L_no_wait) (defBody s_L_no_wait) (defScope s_L_no_wait) [] [] (He.ga K "_law_no_wait") fd := by
  obtain ⟨fd, F⟩ := f_L_no_wait T
  obtain ⟨d_desk_waited, G_desk_waited, b_desk_waited, _⟩ := ok_desk_waited (P := P) (w := w) (base := base) T
  obtain ⟨d_desk_within, G_desk_within, b_desk_within, _⟩ := ok_desk_within (P := P) (w := w) (base := base) T
  obtain ⟨d_desk_sleep, G_desk_sleep, b_desk_sleep, _⟩ := ok_desk_sleep (P := P) (w := w) (base := base) T
  obtain ⟨d_L_word, G_L_word, b_L_word, _⟩ := ok_L_word (P := P) (w := w) (base := base) T
  refine ⟨fd, ok0 F sc_L_no_wait (fun vs H Q E h => ?_) (fun cdv A outer s H vs Q E hr h => ?_), FunD.bindsN F fun _ _ _ _ _ _ us hl => match us, hl with | [_, _, _], _ => rfl, F⟩
  · (repeat (obtain ⟨_, h⟩ := h)); subst_vars; rfl
  · obtain ⟨F, p, d, nm, c, w, rfl, D, W, hc, hm, k⟩ := h
    refine ⟨_, (pss_cut (L2N.ps_try_as (i := 3) rfl rfl sc_L_no_wait.nd rfl rfl ⟨rfl, by decide, .inl (g_NotReady T)⟩ takes0N (fun W pn xe tk _ => (pss_one (ps_if (pt_cmpR op_eq (pv 2) pe_int (nomark _)) (pss_one (ps_expr (pe_methS (pv 0) (c_Desk T) (m_desk_waited T) G_desk_waited (hr.mono (by decide)) b_desk_waited (fun σ => L2N.passAt tk σ) (pa_cons (pv 1) pa_nil))))
        (pss_one (ps_if (pt_cmpR op_eq (pv 2) pe_int (nomark _)) (pss_one (ps_expr (pe_methS (pv 0) (c_Desk T) (m_desk_within T) G_desk_within (hr.mono (by decide)) b_desk_within (fun σ => L2N.passAt tk σ) (pa_cons (pv 1) pa_nil))))
        (pss_one (ps_expr (pe_methS (pv 0) (c_Desk T) (m_desk_sleep T) G_desk_sleep (hr.mono (by decide)) b_desk_sleep (fun σ => L2N.passAt tk σ) (pa_cons (pv 1) (pa_cons pe_int pa_nil))))))))))
        (fun a oe cls d pn hz hf => (pss_one (ps_ret (pe_cmpR op_eq (pe_word G_L_word (hr.mono (by decide)) rfl (g_L_word T) (kp_L_word T) b_L_word hz hf (pv 3)) pe_str (nomark _))))))
        (pss_one (ps_ret pe_bl))), ?_⟩
    obtain ⟨l, ps, DD, ff⟩ := id D
    obtain ⟨dx, hp⟩ := DD.ob
    have hE := waited_not hc hm
    have hW : sleepErr d nm 1 = some ("NotReady" : Str) := by
      unfold sleepErr
      rw [hc]
      show (if (1 : Int) < 1 ∨ (1000 : Int) < 1 then _ else _) = _
      rw [if_neg (by omega)]
      exact if_neg (by rw [hm]; decide)
    have hx : PySem.W.exmOne K (.ref (He.ga K "NotReady")) (.ref (He.ga K "NotReady")) = some true := (ks_x (excK_ok T.ex) (by decide +kernel) (by decide +kernel)).trans (by decide +kernel)
    have hw : ∀ {σ : L2.St} {H : Hp} {a : Addr}, σ[3]? = some (some (.ref a)) → Ev (tOp rEq (tWord K a (.ref (He.ga K "NotReady")) none 3) (tC (.str "awake"))) σ H (.bl true) := fun h => ev_is (ev_op (ev_word h (by decide +kernel)) ev_c (rv_eq rfl)) (by decide +kernel)
    refine q_cut (M := fun _ _ => False) ?_ (fun _ _ h => h.elim)
    refine s_if (b := decide (w = 0)) (et_is (et_test (ev_op (ev_var rfl) ev_c (rv_eq rfl))) (decI _ _)) (fun hb H1 e1 => ?_) (fun hb H1 e1 => ?_)
    · refine ⟨_, rfl, p, dx, _, rfl, e1 _ _ hp, rfl, ?_⟩
      refine ⟨_, rfl, ?_⟩
      exact ⟨p, d, l, ps, nm, rfl, DD.ex e1, W, fun e he H2 e2 => (by rw [hE] at he; cases he; exact ⟨true, hx, fun _ a ha => s_ret (hw rfl) fun H3 e3 => k H3 ((e1.trans e2).trans e3), fun h => by cases h⟩), fun c' hc' hr' => by rw [hc] at hc'; cases hc'; rw [hm] at hr'; cases hr'⟩
    refine s_if (b := decide (w = 1)) (et_is (et_test (ev_op (ev_var rfl) ev_c (rv_eq rfl))) (decI _ _)) (fun hb H2 e2 => ?_) (fun hb H2 e2 => ?_)
    · refine ⟨_, rfl, p, dx, _, rfl, (e1.trans e2) _ _ hp, rfl, ?_⟩
      refine ⟨_, rfl, ?_⟩
      exact ⟨p, d, l, ps, nm, rfl, DD.ex (e1.trans e2), W, fun e he H3 e3 => (by rw [hE] at he; cases he; exact ⟨true, hx, fun _ a ha => s_ret (hw rfl) fun H4 e4 => k H4 ((e1.trans e2).trans (e3.trans e4)), fun h => by cases h⟩), fun c' hc' hr' => by rw [hc] at hc'; cases hc'; rw [hm] at hr'; cases hr'⟩
    · refine ⟨_, rfl, p, dx, _, rfl, (e1.trans e2) _ _ hp, rfl, ?_⟩
      refine ⟨_, rfl, ?_⟩
      exact ⟨F, p, d, nm, 1, rfl, D.ex (e1.trans e2), W, fun e he H3 e3 => (by rw [hW] at he; cases he; exact ⟨true, hx, fun _ a ha => s_ret (hw rfl) fun H4 e4 => k H4 ((e1.trans e2).trans (e3.trans e4)), fun h => by cases h⟩), fun c' he => by rw [hW] at he; cases he⟩
/-! ### L_stands -/
theorem sc_L_stands : FnScope ["_law_desk", "_law_names", "_law_bells", "_law_ranks", "_law_k", "_law_rank"] ["_law_desk", "_law_names", "_law_bells", "_law_ranks"] (defScope s_L_stands) := ⟨rfl, rfl, rfl, by decide +kernel, rfl, by decide +kernel, by decide +kernel⟩
def sp_L_stands (K : PySem.W.Frag) : Sp := fun vs H Q _ => ∃ (F : Hp) (p : Addr) (d : Dk) (r ba ra : Addr) (nms bs : List Str) (rs : List Int), vs = [.ref p, .ref r, .ref ba, .ref ra] ∧ DeskAt K F H p d ∧ d.Ok ∧ F r = some (.lst (nms.map V.str)) ∧ F ba = some (.lst (bs.map V.str)) ∧ F ra = some (.lst (rs.map V.int)) ∧ BlOk d nms bs rs ∧ nms.length ≤ 1000 ∧ RetV (.bl true) H Q
theorem pick2 {a b : V} {c : Bool} : atI [a, b] (if c then 1 else 0) = some (if c = true then b else a) := by cases c <;> rfl
theorem ok_L_stands {P : Program} {w : World} {K : PySem.W.Frag} {mg : Str → Option Value} {base : Heap} (T : Txt K mg) : ∃ fd, FnOk P w K mg base (CX0) 4 (He.ga K "_law_stands") fd ["_law_desk", "_law_names", "_law_bells", "_law_ranks"] (sp_L_stands K) ∧ Binds K fd ["_law_desk", "_law_names", "_law_bells", "_law_ranks"] [] ∧ FunD K "_law_stands" "_law_stands" (defArgs s_L_stands) (defBody s_L_stands) (defScope s_L_stands) [] [] (He.ga K "_law_stands") fd := by
  obtain ⟨fd, F⟩ := f_L_stands T
  obtain ⟨d_desk_rank, G_desk_rank, b_desk_rank, _⟩ := ok_desk_rank (P := P) (w := w) (base := base) T
  obtain ⟨d_desk_left, G_desk_left, b_desk_left, _⟩ := ok_desk_left (P := P) (w := w) (base := base) T
  obtain ⟨d_L_whole, G_L_whole, b_L_whole, _⟩ := ok_L_whole (P := P) (w := w) (base := base) T
  obtain ⟨d_desk_state, G_desk_state, b_desk_state, _⟩ := ok_desk_state (P := P) (w := w) (base := base) T
  obtain ⟨d_desk_bell, G_desk_bell, b_desk_bell, _⟩ := ok_desk_bell (P := P) (w := w) (base := base) T
  obtain ⟨d_L_no_wait, G_L_no_wait, b_L_no_wait, _⟩ := ok_L_no_wait (P := P) (w := w) (base := base) T
  refine ⟨fd, ok0 F sc_L_stands (fun vs H Q E h => ?_) (fun cdv A outer s H vs Q E hr h => ?_), FunD.bindsN F fun _ _ _ _ _ _ us hl => match us, hl with | [_, _, _, _], _ => rfl, F⟩
  · (repeat (obtain ⟨_, h⟩ := h)); subst_vars; rfl
  · obtain ⟨F, p, d, r, ba, ra, nms, bs, rs, rfl, D, ok, hr0, hb0, hk0, S, h20, k⟩ := h
    refine ⟨_, (pss_cons (ps_for PassesOwn.never rfl (pi_range1 rfl (b_range T) (pa_cons (pe_callB (call_lenK (K := K) rfl) rfl (b_len T) (by decide +kernel) (pa_cons (pv 1) pa_nil)) pa_nil)) (pg_name (i := 4) sc_L_stands.nd rfl (Or.inl rfl))
        (pss_cons (ps_set (i := 5) sc_L_stands.nd rfl (Or.inl rfl) (pe_meth (pv 0) (c_Desk T) (m_desk_rank T) G_desk_rank (hr.mono (by decide)) b_desk_rank .nil passLN (pa_cons (pe_ix (ix_listK (K := K) rfl) (pv 1) (pv 4) (fun _ _ => rfl)) pa_nil)))
        (pss_cons (ps_if (PW.pt (pw_or (pt_not (pt_val (pe_call G_L_whole (hr.mono (by decide)) rfl (g_L_whole T) (kp_L_whole T) b_L_whole .nil pass0 (pa_cons (pv 5) pa_nil)))) (pw_or (pt_cmpR op_ne (pv 5) (pe_ix (ix_listK (K := K) rfl) (pv 3) (pv 4) (fun _ _ => rfl)) (nomark _)) (pw_or1 (pt_cmpR op_notN (pe_meth (pv 0) (c_Desk T) (m_desk_left T) G_desk_left (hr.mono (by decide)) b_desk_left .nil passLN (pa_cons (pe_ix (ix_listK (K := K) rfl) (pv 1) (pv 4) (fun _ _ => rfl)) pa_nil)) pe_non (nomark _)))))) (pss_one (ps_ret pe_bl))
        pss_nil)
        (pss_cons (ps_if (pt_cmpR op_ne (pe_meth (pv 0) (c_Desk T) (m_desk_state T) G_desk_state (hr.mono (by decide)) b_desk_state .nil passLN (pa_cons (pe_ix (ix_listK (K := K) rfl) (pv 1) (pv 4) (fun _ _ => rfl)) pa_nil)) (pe_ix (ix_listK (K := K) rfl) (pe_lst (pa_cons pe_str (pa_cons pe_str pa_nil))) (pe_callTy call_int1 rfl (b_int T) (by decide +kernel) (pa_cons (pe_cmpR op_eq (pe_ix (ix_listK (K := K) rfl) (pv 2) (pv 4) (fun _ _ => rfl)) pe_str (nomark _)) pa_nil)) (fun _ _ => rfl)) (nomark _)) (pss_one (ps_ret pe_bl))
        pss_nil)
        (pss_cons (ps_if (PW.pt (pw_and (pt_cmpR op_eq (pe_ix (ix_listK (K := K) rfl) (pv 2) (pv 4) (fun _ _ => rfl)) pe_str (nomark _)) (pw_and1 (pt_cmpR op_notN (pe_meth (pv 0) (c_Desk T) (m_desk_bell T) G_desk_bell (hr.mono (by decide)) b_desk_bell .nil passLN (pa_cons (pe_ix (ix_listK (K := K) rfl) (pv 1) (pv 4) (fun _ _ => rfl)) pa_nil)) pe_non (nomark _))))) (pss_one (ps_ret pe_bl))
        pss_nil)
        (pss_cons (ps_if (PW.pt (pw_and (pt_cmpR op_ne (pe_ix (ix_listK (K := K) rfl) (pv 2) (pv 4) (fun _ _ => rfl)) pe_str (nomark _)) (pw_and1 (pt_cmpR op_ne (pe_meth (pv 0) (c_Desk T) (m_desk_bell T) G_desk_bell (hr.mono (by decide)) b_desk_bell .nil passLN (pa_cons (pe_ix (ix_listK (K := K) rfl) (pv 1) (pv 4) (fun _ _ => rfl)) pa_nil)) (pe_ix (ix_listK (K := K) rfl) (pv 2) (pv 4) (fun _ _ => rfl)) (nomark _))))) (pss_one (ps_ret pe_bl))
        pss_nil)
        (pss_one (ps_if (PW.pt (pw_and (pt_cmpR op_ne (pe_ix (ix_listK (K := K) rfl) (pv 2) (pv 4) (fun _ _ => rfl)) pe_str (nomark _)) (pw_and1 (pt_not (pt_val (pe_call G_L_no_wait (hr.mono (by decide)) rfl (g_L_no_wait T) (kp_L_no_wait T) b_L_no_wait .nil pass0 (pa_cons (pv 0) (pa_cons (pe_ix (ix_listK (K := K) rfl) (pv 1) (pv 4) (fun _ _ => rfl)) (pa_cons (pe_op op_mod (pv 4) pe_int) pa_nil))))))))) (pss_one (ps_ret pe_bl))
        pss_nil))))))))
        (pss_one (ps_ret pe_bl))), ?_⟩
    have hr0H := D.fr _ _ hr0
    have hb0H := D.fr _ _ hb0
    have hk0H := D.fr _ _ hk0
    obtain ⟨l, ps, DD, ff⟩ := id D
    obtain ⟨dx, hp⟩ := DD.ob
    have la : ((nms.map V.str).length : Int) = (nms.length : Int) := by rw [List.length_map]
    refine q_forR1 (n := ((nms.map V.str).length : Int)) (ea_cons (ev_cb (ea_cons (ev_var rfl) ea_nil) (rc_lenS (sq_of hr0H))) ea_nil) (by rw [la]; omega)
      (fun i σ' H' => Ex H H' ∧ ∃ v w, σ' = [some (.ref p), some (.ref r), some (.ref ba), some (.ref ra), v, w]) (fun H2 e2 => ⟨e2, none, none, rfl⟩) ?_ ?_
    · rintro i σ' H' hi ⟨e1, v, w, rfl⟩
      rw [la] at hi
      obtain ⟨nm, b, rk, c, h1, h2, h3, hc, hrk, hm⟩ := S.look (k := i) (by omega)
      have an := at_str h1
      have ab := at_str h2
      have ar := at_int h3
      refine q_asg (v := .int rk) (ev_is (ev_meth (ev_var rfl) (e1 _ _ hp) rfl (ea_cons (ev_op (ev_var rfl) (ev_var rfl) (rv_ixL (sq_of (e1 _ _ hr0H)) an)) ea_nil) (cv_rank (DD.ex e1) ok.wf hc)) (by rw [hrk])) fun H2 e2 => ?_
      have e12 := e1.trans e2
      have hl : leftV d c = .non := by
        unfold leftV
        rcases hm with ⟨_, h⟩ | ⟨_, h⟩
        · cases em : c.md with
          | rdy s => rfl
          | slp s => rw [em] at h; cases h
          | wtg s => rfl
        · rw [h]
      refine q_when (b := false) ?h1 (fun h => by cases h) fun _ H3 e3 => ?_
      case h1 => exact et_is (et_or (a := false) (b := false) (et_is (et_not (et_B (ev_call (ea_cons (ev_var rfl) ea_nil) cv_L_whole))) rfl) fun _ => et_is (et_or (a := false) (b := false) (et_is (et_test (ev_op (ev_var rfl) (ev_op (ev_var rfl) (ev_var rfl) (rv_ixL (sq_of (e12 _ _ hk0H)) ar)) (rv_ne rfl))) (by simp)) fun _ => et_is (et_test (ev_op (ev_is (ev_meth (ev_var rfl) (e12 _ _ hp) rfl (ea_cons (ev_op (ev_var rfl) (ev_var rfl) (rv_ixL (sq_of (e12 _ _ hr0H)) an)) ea_nil) (cv_left (DD.ex e12) ok.wf hc)) hl) ev_c rv_notN)) rfl) rfl) rfl
      have e13 := e12.trans e3
      have hst : V.str c.md.st = (if decide (b = "") = true then V.str "ready" else V.str "waiting") := by
        rcases hm with ⟨rfl, h⟩ | ⟨h, h'⟩
        · cases em : c.md with
          | rdy s => rfl
          | slp s => rw [em] at h; cases h
          | wtg s => rw [em] at h; cases h
        · rw [h', decide_eq_false h]
          rfl
      refine q_when (b := false) ?h2 (fun h => by cases h) fun _ H4 e4 => ?_
      case h2 =>
        refine et_is (et_test (ev_op (ev_is (ev_meth (ev_var rfl) (e13 _ _ hp) rfl (ea_cons (ev_op (ev_var rfl) (ev_var rfl) (rv_ixL (sq_of (e13 _ _ hr0H)) an)) ea_nil) (cv_state (DD.ex e13) ok.wf hc)) hst) (ev_opL1 (xs := [.str "waiting", .str "ready"]) (el_lst (ea_cons ev_c (ea_cons ev_c ea_nil)) (by show 2 ≤ 100000; decide)) (fun H5 e5 => ev_cb (ea_cons (ev_is (ev_op (ev_op (ev_var rfl) (ev_var rfl) (rv_ixL (sq_of ((e13.trans e5) _ _ hb0H)) ab)) ev_c (rv_eq rfl)) (congrArg V.bl (decV b ""))) ea_nil) rc_int_bl) (fun q H5 h5 e5 => rv_ixL (sq_of h5) pick2)) (rv_ne ?_))) ?_
        · cases decide (b = "") <;> rfl
        · simp
      have e14 := e13.trans e4
      have hbl : b = "" → bellV c = .non := fun hb => by
        unfold bellV
        rcases hm with ⟨_, h⟩ | ⟨h, _⟩
        · cases em : c.md with
          | rdy s => rfl
          | slp s => rfl
          | wtg s => rw [em] at h; cases h
        · exact absurd hb h
      have hbl2 : b ≠ "" → bellV c = .str b := fun hb => by
        unfold bellV
        rcases hm with ⟨h, _⟩ | ⟨_, h⟩
        · exact absurd h hb
        · rw [h]
      have hmd : b ≠ "" → c.md.isR = false := fun hb => by
        rcases hm with ⟨h, _⟩ | ⟨_, h⟩
        · exact absurd h hb
        · rw [h]
          rfl
      refine q_when (b := false) ?h3 (fun h => by cases h) fun _ H5 e5 => ?_
      case h3 =>
        refine et_is (et_and (a := decide (b = "")) (b := false) (et_is (et_test (ev_op (ev_op (ev_var rfl) (ev_var rfl) (rv_ixL (sq_of (e14 _ _ hb0H)) ab)) ev_c (rv_eq rfl))) (decV b "")) fun hb => ?_) (Bool.and_false _)
        exact et_is (et_test (ev_op (ev_is (ev_meth (ev_var rfl) (e14 _ _ hp) rfl (ea_cons (ev_op (ev_var rfl) (ev_var rfl) (rv_ixL (sq_of (e14 _ _ hr0H)) an)) ea_nil) (cv_bell (DD.ex e14) ok.wf hc)) (hbl (of_decide_eq_true hb))) ev_c rv_notN)) rfl
      have e15 := e14.trans e5
      have neq : (!decide (V.str b = V.str "")) = true → b ≠ "" := fun h => by
        rw [decV] at h
        simpa using h
      refine q_when (b := false) ?h4 (fun h => by cases h) fun _ H6 e6 => ?_
      case h4 =>
        refine et_is (et_and (a := !decide (V.str b = V.str "")) (b := false) (et_test (ev_op (ev_op (ev_var rfl) (ev_var rfl) (rv_ixL (sq_of (e15 _ _ hb0H)) ab)) ev_c (rv_ne rfl))) fun hb => ?_) (Bool.and_false _)
        exact et_is (et_test (ev_op (ev_is (ev_meth (ev_var rfl) (e15 _ _ hp) rfl (ea_cons (ev_op (ev_var rfl) (ev_var rfl) (rv_ixL (sq_of (e15 _ _ hr0H)) an)) ea_nil) (cv_bell (DD.ex e15) ok.wf hc)) (hbl2 (neq hb))) (ev_op (ev_var rfl) (ev_var rfl) (rv_ixL (sq_of (e15 _ _ hb0H)) ab)) (rv_ne rfl))) (by simp)
      have e16 := e15.trans e6
      refine s_when (b := false) ?h5 (fun h => by cases h) fun _ H7 e7 => ⟨e16.trans e7, _, _, rfl⟩
      case h5 =>
        refine et_is (et_and (a := !decide (V.str b = V.str "")) (b := false) (et_test (ev_op (ev_op (ev_var rfl) (ev_var rfl) (rv_ixL (sq_of (e16 _ _ hb0H)) ab)) ev_c (rv_ne rfl))) fun hb => ?_) (Bool.and_false _)
        exact et_is (et_not (et_B (ev_call (vs := [.ref p, .str nm, .int ((i : Int) % 3)]) (ea_cons (ev_var rfl) (ea_cons (ev_op (ev_var rfl) (ev_var rfl) (rv_ixL (sq_of (e16 _ _ hr0H)) an)) (ea_cons (ev_op (ev_var rfl) ev_c (rv_I (show (0 : Int) < 3 by decide))) ea_nil))) (cv_no_wait (D.ex e16) ok.wf hc (hmd (neq hb)))))) rfl
    · rintro σ' H' ⟨e1, v, w, rfl⟩
      exact s_ret ev_c fun H2 e2 => k H2 (e1.trans e2)
/-! ### law -/
theorem sc_law : FnScope ["_law_script", "_law_shift", "_law_many", "_law_desk", "_law_names", "_law_ranks", "_law_bells", "_law_some", "_law_k", "_law_name", "_law_cell", "_law_way", "_law_odd", "_law_rank", "_law_bell"] ["_law_script"] (defScope s_law) := ⟨rfl, rfl, rfl, by decide +kernel, rfl, by decide +kernel, by decide +kernel⟩
def manyOf (ns : List Int) : Int := if cellAt ns 1 / 5 % 6 = 1 then 20 else 1 + cellAt ns 1 % 5
theorem manyOf_ok (ns : List Int) : 1 ≤ manyOf ns ∧ manyOf ns ≤ 20 := by
  unfold manyOf
  split <;> omega
theorem cut_cells {ns : List Int} {lo hi : Int} : ∃ cs : List Int, cutV (ns.map V.int) (some lo) (some hi) = cs.map V.int ∧ cs.length ≤ ns.length := by
  unfold cutV
  exact ⟨(ns.drop _).take _, by rw [List.map_take, List.map_drop], by rw [List.length_take, List.length_drop]; omega⟩
theorem ms_rings_e {K : PySem.W.Frag} {F H : Hp} {p : Addr} {d : Dk} {b : Str} (D : DeskAt K F H p d) (W : d.Wf) (hz : b.length ≤ 100000) (hb : isName b = false) : MvS (sp_L_rings K) ([.ref p, .str b] ++ []) H (.str "name") fun H' => DeskAt K F H' p d := fun Q _ k =>
  ⟨F, p, d, b, rfl, D, W, hz, fun _ H' e => k H' (D.ex e), fun h => by rw [hb] at h; cases h⟩
theorem BlOk.new {pa no : Int} {f : Nat → Str} {g : Nat → Int} {n : Nat} (ok : (entD pa 60 no f g n).Ok) (inj : ∀ j k, j < n → k < n → f j = f k → j = k) : BlOk (entD pa 60 no f g n) ((List.range n).map f) ((List.range n).map fun _ => "") ((List.range n).map g) := by
  refine ⟨by rw [List.length_map, List.length_map], by rw [List.length_map, List.length_map], nodup_map_range inj, fun k nm b r hk hb hr => ?_, fun c hc => ?_⟩
  · rw [List.getElem?_map] at hk hb hr
    obtain ⟨j, hj, rfl⟩ := Option.map_eq_some_iff.mp hk
    rw [hj] at hb hr
    cases hb
    cases hr
    have hm : (⟨f j, g j, .rdy no⟩ : Cl) ∈ (entD pa 60 no f g n).line := List.mem_map.mpr ⟨j, List.mem_of_getElem? hj, rfl⟩
    exact ⟨_, Dk.get_of ok.nd hm, rfl, .inl ⟨rfl, rfl⟩⟩
  · obtain ⟨k, hk, rfl⟩ := List.mem_map.mp hc
    exact List.mem_map.mpr ⟨k, hk, rfl⟩
def sp_law (K : PySem.W.Frag) : Sp := fun vs H Q _ => ∃ (a : Addr) (ns : List Int), vs = [.ref a] ∧ SqL K H a (ns.map V.int) ∧ ns.length ≤ 63 ∧ ∀ H', Q (.bl true) H'
theorem ok_law {P : Program} {w : World} {K : PySem.W.Frag} {mg : Str → Option Value} {base : Heap} (T : Txt K mg) : ∃ fd, FnOk P w K mg base (CX0) 5 (He.ga K "law") fd ["_law_script"] (sp_law K) ∧ Binds K fd ["_law_script"] [] ∧ FunD K "law" "law" (defArgs s_law) (defBody s_law) (defScope s_law) [] [] (He.ga K "law") fd := by
  obtain ⟨fd, F⟩ := f_law T
  obtain ⟨d_L_cell_at, G_L_cell_at, b_L_cell_at, _⟩ := ok_L_cell_at (P := P) (w := w) (base := base) T
  obtain ⟨d_desk_init, G_desk_init, b_desk_init, _⟩ := ok_desk_init (P := P) (w := w) (base := base) T
  obtain ⟨d_L_pace_by, G_L_pace_by, b_L_pace_by, _⟩ := ok_L_pace_by (P := P) (w := w) (base := base) T
  obtain ⟨d_L_name_by, G_L_name_by, b_L_name_by, _⟩ := ok_L_name_by (P := P) (w := w) (base := base) T
  obtain ⟨d_L_rank_by, G_L_rank_by, b_L_rank_by, _⟩ := ok_L_rank_by (P := P) (w := w) (base := base) T
  obtain ⟨d_desk_enter, G_desk_enter, b_desk_enter, _⟩ := ok_desk_enter (P := P) (w := w) (base := base) T
  obtain ⟨d_L_all_wait, G_L_all_wait, b_L_all_wait, _⟩ := ok_L_all_wait (P := P) (w := w) (base := base) T
  obtain ⟨d_desk_run, G_desk_run, b_desk_run, _⟩ := ok_desk_run (P := P) (w := w) (base := base) T
  obtain ⟨d_L_mix, G_L_mix, b_L_mix, _⟩ := ok_L_mix (P := P) (w := w) (base := base) T
  obtain ⟨d_L_rung, G_L_rung, b_L_rung, _⟩ := ok_L_rung (P := P) (w := w) (base := base) T
  obtain ⟨d_L_rings, G_L_rings, b_L_rings, _⟩ := ok_L_rings (P := P) (w := w) (base := base) T
  obtain ⟨d_L_got, G_L_got, b_L_got, _⟩ := ok_L_got (P := P) (w := w) (base := base) T
  obtain ⟨d_L_stands, G_L_stands, b_L_stands, _⟩ := ok_L_stands (P := P) (w := w) (base := base) T
  refine ⟨fd, ok0 F sc_law (fun vs H Q E h => ?_) (fun cdv A outer s H vs Q E hr h => ?_), FunD.bindsN F fun _ _ _ _ _ _ us hl => match us, hl with | [_], _ => rfl, F⟩
  · (repeat (obtain ⟨_, h⟩ := h)); subst_vars; rfl
  · obtain ⟨a, ns, rfl, hS, hns, k⟩ := h
    refine ⟨_, (pss_cons (ps_set (i := 1) sc_law.nd rfl (Or.inr rfl) (pe_call G_L_cell_at (hr.mono (by decide)) rfl (g_L_cell_at T) (kp_L_cell_at T) b_L_cell_at .nil pass0 (pa_cons (pv 0) (pa_cons pe_int pa_nil))))
        (pss_cons (ps_set (i := 2) sc_law.nd rfl (Or.inl rfl) (pe_op op_add pe_int (pe_op op_mod (pe_call G_L_cell_at (hr.mono (by decide)) rfl (g_L_cell_at T) (kp_L_cell_at T) b_L_cell_at .nil pass0 (pa_cons (pv 0) (pa_cons pe_int pa_nil))) pe_int)))
        (pss_cons (ps_if (pt_cmpR op_eq (pe_op op_mod (pe_op op_fdiv (pe_call G_L_cell_at (hr.mono (by decide)) rfl (g_L_cell_at T) (kp_L_cell_at T) b_L_cell_at .nil pass0 (pa_cons (pv 0) (pa_cons pe_int pa_nil))) pe_int) pe_int) pe_int (nomark _)) (pss_one (ps_set (i := 2) sc_law.nd rfl (Or.inl rfl) pe_int))
        pss_nil)
        (pss_cons (ps_set (i := 3) sc_law.nd rfl (Or.inl rfl) (pe_make (mk_Desk T) G_desk_init (hr.mono (by decide)) rfl (g_Desk T) b_desk_init .nil passLN (pa_cons (pe_call G_L_pace_by (hr.mono (by decide)) rfl (g_L_pace_by T) (kp_L_pace_by T) b_L_pace_by .nil pass0 (pa_cons (pe_call G_L_cell_at (hr.mono (by decide)) rfl (g_L_cell_at T) (kp_L_cell_at T) b_L_cell_at .nil pass0 (pa_cons (pv 0) (pa_cons pe_int pa_nil))) pa_nil)) (pa_cons pe_int pa_nil))))
        (pss_cons (ps_setLc (i := 4) (own := [("_law_k", 8)]) (g := gName 8) (tt := tYes) rfl sc_law.nd rfl rfl (sw_true rfl rfl rfl (by decide +kernel)) (pi_range1 rfl (b_range T) (pa_cons (pv 2) pa_nil)) (blkOk_by (own := [("_law_k", 8)]) (N := ["_law_script", "_law_shift", "_law_many", "_law_desk", "_law_names", "_law_ranks", "_law_bells", "_law_some", "_law_k", "_law_name", "_law_cell", "_law_way", "_law_odd", "_law_rank", "_law_bell"]) (sc := defScope s_law) (by decide +kernel)) (fun _ _ _ _ _ => (pg_name (i := 8) sc_law.nd rfl (Or.inl rfl))) (fun _ _ _ _ _ => pts_nil) (fun _ _ _ _ _ => (pe_call G_L_name_by (hr.mono (by decide)) rfl (g_L_name_by T) (kp_L_name_by T) b_L_name_by .nil pass0 (pa_cons (pv 8) (pa_cons (pv 1) pa_nil)))))
        (pss_cons (ps_setLc (i := 5) (own := [("_law_k", 8)]) (g := gName 8) (tt := tYes) rfl sc_law.nd rfl rfl (sw_true rfl rfl rfl (by decide +kernel)) (pi_range1 rfl (b_range T) (pa_cons (pv 2) pa_nil)) (blkOk_by (own := [("_law_k", 8)]) (N := ["_law_script", "_law_shift", "_law_many", "_law_desk", "_law_names", "_law_ranks", "_law_bells", "_law_some", "_law_k", "_law_name", "_law_cell", "_law_way", "_law_odd", "_law_rank", "_law_bell"]) (sc := defScope s_law) (by decide +kernel)) (fun _ _ _ _ _ => (pg_name (i := 8) sc_law.nd rfl (Or.inl rfl))) (fun _ _ _ _ _ => pts_nil) (fun _ _ _ _ _ => (pe_call G_L_rank_by (hr.mono (by decide)) rfl (g_L_rank_by T) (kp_L_rank_by T) b_L_rank_by .nil pass0 (pa_cons (pe_op op_add (pv 1) (pe_op op_mul pe_int (pv 8))) pa_nil))))
        (pss_cons (ps_setLc (i := 6) (own := [("_law_k", 8)]) (g := gName 8) (tt := tYes) rfl sc_law.nd rfl rfl (sw_true rfl rfl rfl (by decide +kernel)) (pi_range1 rfl (b_range T) (pa_cons (pv 2) pa_nil)) (blkOk_by (own := [("_law_k", 8)]) (N := ["_law_script", "_law_shift", "_law_many", "_law_desk", "_law_names", "_law_ranks", "_law_bells", "_law_some", "_law_k", "_law_name", "_law_cell", "_law_way", "_law_odd", "_law_rank", "_law_bell"]) (sc := defScope s_law) (by decide +kernel)) (fun _ _ _ _ _ => (pg_name (i := 8) sc_law.nd rfl (Or.inl rfl))) (fun _ _ _ _ _ => pts_nil) (fun _ _ _ _ _ => pe_str))
        (pss_cons (ps_set (i := 7) sc_law.nd rfl (Or.inr rfl) (pe_lc (own := [("_law_k", 8)]) (g := gName 8) (tt := tYes) rfl sc_law.nd (pi_range1 rfl (b_range T) (pa_cons pe_int pa_nil)) (blkOk_by (own := [("_law_k", 8)]) (N := ["_law_script", "_law_shift", "_law_many", "_law_desk", "_law_names", "_law_ranks", "_law_bells", "_law_some", "_law_k", "_law_name", "_law_cell", "_law_way", "_law_odd", "_law_rank", "_law_bell"]) (sc := defScope s_law) (by decide +kernel)) (fun _ _ _ _ _ => (pg_name (i := 8) sc_law.nd rfl (Or.inl rfl))) (fun _ _ _ _ _ => pts_nil) (fun _ _ _ _ _ => (pe_call G_L_name_by (hr.mono (by decide)) rfl (g_L_name_by T) (kp_L_name_by T) b_L_name_by .nil pass0 (pa_cons (pv 8) (pa_cons (pe_op op_add (pe_op op_fdiv (pv 1) pe_int) pe_int) pa_nil))))))
        (pss_cons (ps_for PassesOwn.never rfl (pi_range1 rfl (b_range T) (pa_cons (pv 2) pa_nil)) (pg_name (i := 8) sc_law.nd rfl (Or.inl rfl))
        (pss_one (ps_expr (pe_meth (pv 3) (c_Desk T) (m_desk_enter T) G_desk_enter (hr.mono (by decide)) b_desk_enter .nil passLN (pa_cons (pe_ix (ix_listK (K := K) rfl) (pv 4) (pv 8) (fun _ _ => rfl)) (pa_cons (pe_ix (ix_listK (K := K) rfl) (pv 5) (pv 8) (fun _ _ => rfl)) pa_nil))))))
        (pss_cons (ps_if (pt_not (pt_val (pe_call G_L_all_wait (hr.mono (by decide)) rfl (g_L_all_wait T) (kp_L_all_wait T) b_L_all_wait .nil pass0 (pa_cons (pv 3) (pa_cons (pv 4) (pa_cons (pv 6) (pa_cons (pv 7) (pa_cons (pv 0) pa_nil)))))))) (pss_one (ps_ret pe_bl))
        pss_nil)
        (pss_cons (ps_for PassesOwn.never rfl (pi_listK (K := K) rfl (pe_meth (pv 3) (c_Desk T) (m_desk_run T) G_desk_run (hr.mono (by decide)) b_desk_run .nil passLN (pa_cons (pe_op op_mod (pe_call G_L_cell_at (hr.mono (by decide)) rfl (g_L_cell_at T) (kp_L_cell_at T) b_L_cell_at .nil pass0 (pa_cons (pv 0) (pa_cons pe_int pa_nil))) pe_int) pa_nil))) (pg_name (i := 9) sc_law.nd rfl (Or.inl rfl))
        (pss_one (ps_if (PW.pt (pw_and (pt_cmpR op_notN (pv 9) pe_non (nomark _)) (pw_and1 (pt_cmpR op_ne (pe_ix (ix_listK (K := K) rfl) (pv 6) (pe_bmK (K := K) rfl PySem.F.plainAttrs_list PySem.F.slot_list_index PySem.F.type_list_index (mt_indexK (K := K) rfl) (pv 4) (pa_cons (pv 9) pa_nil)) (fun _ _ => rfl)) pe_str (nomark _))))) (pss_one (ps_ret pe_bl))
        pss_nil)))
        (pss_cons (ps_for PassesOwn.never rfl (pi_listK (K := K) rfl (pe_slice (sl_listK (K := K) rfl) (pv 0) (po_some pe_int) (po_some pe_int))) (pg_name (i := 10) sc_law.nd rfl (Or.inl rfl))
        (pss_cons (ps_set (i := 11) sc_law.nd rfl (Or.inr rfl) (pe_call G_L_mix (hr.mono (by decide)) rfl (g_L_mix T) (kp_L_mix T) b_L_mix .nil pass0 (pa_cons (pv 10) (pa_cons pe_int (pa_cons pe_int pa_nil)))))
        (pss_cut (ps_if (pt_cmpR op_lt (pv 11) pe_int (nomark _)) (pss_cons (ps_if (pt_not (pt_val (pe_call G_L_rung (hr.mono (by decide)) rfl (g_L_rung T) (kp_L_rung T) b_L_rung .nil pass0 (pa_cons (pv 3) (pa_cons (pv 4) (pa_cons (pv 6) (pa_cons (pe_ix (ix_listK (K := K) rfl) (pv 7) (pv 11) (fun _ _ => rfl)) pa_nil))))))) (pss_one (ps_ret pe_bl))
        pss_nil)
        (pss_one (ps_setLc (i := 6) (own := [("_law_bell", 14)]) (g := gName 14) (tt := tYes) rfl sc_law.nd rfl rfl (sw_true rfl rfl rfl (by decide +kernel)) (pi_listK (K := K) rfl (pv 6)) (blkOk_by (own := [("_law_bell", 14)]) (N := ["_law_script", "_law_shift", "_law_many", "_law_desk", "_law_names", "_law_ranks", "_law_bells", "_law_some", "_law_k", "_law_name", "_law_cell", "_law_way", "_law_odd", "_law_rank", "_law_bell"]) (sc := defScope s_law) (by decide +kernel)) (fun _ _ _ _ _ => (pg_name (i := 14) sc_law.nd rfl (Or.inl rfl))) (fun _ _ _ _ _ => pts_nil) (fun _ _ _ _ _ => (pe_ix (ix_listK (K := K) rfl) (pe_lst (pa_cons (pv 14) (pa_cons pe_str pa_nil))) (pe_callTy call_int1 rfl (b_int T) (by decide +kernel) (pa_cons (pe_cmpR op_eq (pv 14) (pe_ix (ix_listK (K := K) rfl) (pv 7) (pv 11) (fun _ _ => rfl)) (nomark _)) pa_nil)) (fun _ _ => rfl))))))
        (pss_one (ps_if (pt_cmpR op_eq (pv 11) pe_int (nomark _)) (pss_cons (ps_set (i := 12) sc_law.nd rfl (Or.inl rfl) (pe_ix (ix_listK (K := K) rfl) (pe_lst (pa_cons pe_str (pa_cons pe_str (pa_cons (pe_op op_rep_str pe_str pe_int) (pa_cons pe_str pa_nil))))) (pe_call G_L_mix (hr.mono (by decide)) rfl (g_L_mix T) (kp_L_mix T) b_L_mix .nil pass0 (pa_cons (pv 10) (pa_cons pe_int (pa_cons pe_int pa_nil)))) (fun _ _ => rfl)))
        (pss_one (ps_if (pt_cmpR op_ne (pe_call G_L_rings (hr.mono (by decide)) rfl (g_L_rings T) (kp_L_rings T) b_L_rings .nil pass0 (pa_cons (pv 3) (pa_cons (pv 12) pa_nil))) pe_str (nomark _)) (pss_one (ps_ret pe_bl))
        pss_nil)))
        (pss_cons (ps_set (i := 13) sc_law.nd rfl (Or.inl rfl) (pe_ix (ix_listK (K := K) rfl) (pe_lst (pa_cons (pe_call G_L_mix (hr.mono (by decide)) rfl (g_L_mix T) (kp_L_mix T) b_L_mix .nil pass0 (pa_cons (pv 10) (pa_cons pe_int (pa_cons pe_int pa_nil)))) (pa_cons pe_int (pa_cons pe_int (pa_cons pe_int (pa_cons (pe_un un_neg pe_int) pa_nil)))))) (pe_call G_L_mix (hr.mono (by decide)) rfl (g_L_mix T) (kp_L_mix T) b_L_mix .nil pass0 (pa_cons (pv 10) (pa_cons pe_int (pa_cons pe_int pa_nil)))) (fun _ _ => rfl)))
        (pss_one (ps_if (pt_not (pt_val (pe_call G_L_got (hr.mono (by decide)) rfl (g_L_got T) (kp_L_got T) b_L_got .nil pass0 (pa_cons (pv 3) (pa_cons (pv 4) (pa_cons (pv 6) (pa_cons (pv 5) (pa_cons (pe_call G_L_mix (hr.mono (by decide)) rfl (g_L_mix T) (kp_L_mix T) b_L_mix .nil pass0 (pa_cons (pv 10) (pa_cons pe_int (pa_cons (pv 2) pa_nil)))) (pa_cons (pv 13) pa_nil))))))))) (pss_one (ps_ret pe_bl))
        pss_nil))))))
        (pss_one (ps_if (pt_not (pt_val (pe_call G_L_stands (hr.mono (by decide)) rfl (g_L_stands T) (kp_L_stands T) b_L_stands .nil pass0 (pa_cons (pv 3) (pa_cons (pv 4) (pa_cons (pv 6) (pa_cons (pv 5) pa_nil))))))) (pss_one (ps_ret pe_bl))
        pss_nil)))))
        (pss_one (ps_ret pe_bl)))))))))))))), ?_⟩
    refine' q_asg ?h fun H1 e1 => ?_
    case h => tm_at "rr.ev"
    have hS := ex_l e1 hS
    refine' q_asg ?h fun H2 e2 => ?_
    case h => tm_at "rr.ev"
    have hS := ex_l e2 hS
    refine q_ifAsg (b := decide (cellAt ns 1 / 5 % 6 = 1)) (v := .int (manyOf ns)) (et_mix0 ?h1) (fun hb => ?h2) (fun hb => ?h3) fun H3 e3 => ?_
    case h1 => tm_at "rr.ev"
    case h2 =>
      rw [show manyOf ns = 20 from if_pos (of_decide_eq_true hb)]
      exact ev_c
    case h3 =>
      rw [show manyOf ns = 1 + cellAt ns 1 % 5 from if_neg (of_decide_eq_false hb)]
      rfl
    have hS := ex_l e3 hS
    have hpa := paceBy_ok (cellAt ns 2)
    obtain ⟨m1, m2⟩ := manyOf_ok ns
    generalize manyOf ns = many at *
    generalize hpad : paceBy (cellAt ns 2) = pa at hpa
    refine q_makeA ((ea_cons (x := .int pa) ?h4 (ea_cons ev_c ea_nil)) H3 (Ex.refl H3) _ fun H4 e4 => fun p dx np ndx nex => ⟨p, dx, pa, 60, rfl, upd_same, fun _ H5 l D nl k5 => ⟨rfl, ?_⟩, fun h => absurd ⟨hpa.1, hpa.2, by decide, by decide⟩ h⟩)
    case h4 =>
      rw [← hpad]
      tm_at "rr.ev"
    have D5 := DeskAt.made np ndx D nl k5
    have hS4 := ex_l e4 hS
    clear D k5
    generalize hsh : cellAt ns 0 = sh at *
    obtain ⟨n, rfl⟩ : ∃ n : Nat, many = (n : Int) := ⟨many.toNat, by omega⟩
    have hn20 : n ≤ 20 := by omega
    have hlen : ((n : Int)).toNat = n := by omega
    refine q_asgL (xs := ((List.range n).map fun k : Nat => nameBy (k : Int) sh).map V.str) ?h5 fun r H6 nr e6 hr6 => ?_
    case h5 =>
      rw [List.map_map]
      show EvL _ _ _ ((List.range n).map fun k : Nat => V.str (nameBy (k : Int) sh))
      rw [← given_all, ← hlen]
      refine el_lcR1 (n := (n : Int)) (fun _ => true) (fun k : Nat => V.str (nameBy (k : Int) sh)) (ea_cons (ev_var rfl) ea_nil) (by omega) (fun _ => rfl) (fun i H9 e9 hi => et_yes) (fun i H9 e9 hi _ => ?_)
      exact ev_call (ea_cons (ev_var rfl) (ea_cons (ev_var rfl) ea_nil)) (cv_L_name_by (by omega) (by omega))
    have D6 := D5.new nr e6 hr6
    have nr4 : H4 r = none := ex_none D5.fr nr
    have hS6 := ex_l (Ex.new (o := .lst (((List.range n).map fun k : Nat => nameBy (k : Int) sh).map V.str)) nr4) hS4
    have hr1 : (upd H4 r (.lst (((List.range n).map fun k : Nat => nameBy (k : Int) sh).map V.str))) r = some (.lst (((List.range n).map fun k : Nat => nameBy (k : Int) sh).map V.str)) := upd_same
    generalize upd H4 r (.lst (((List.range n).map fun k : Nat => nameBy (k : Int) sh).map V.str)) = F1 at *
    refine q_asgL (xs := ((List.range n).map fun k : Nat => rankBy (sh + 11 * (k : Int))).map V.int) ?h6 fun ra H7 nra e7 hra7 => ?_
    case h6 =>
      rw [List.map_map]
      show EvL _ _ _ ((List.range n).map fun k : Nat => V.int (rankBy (sh + 11 * (k : Int))))
      rw [← given_all, ← hlen]
      refine el_lcR1 (n := (n : Int)) (fun _ => true) (fun k : Nat => V.int (rankBy (sh + 11 * (k : Int)))) (ea_cons (ev_var rfl) ea_nil) (by omega) (fun _ => rfl) (fun i H9 e9 hi => et_yes) (fun i H9 e9 hi _ => ?_)
      refine ev_call (ea_cons (ev_op (ev_var rfl) (ev_op ev_c (ev_var rfl) (rv_I ?_)) rv_I0) ea_nil) cv_L_rank_by
      unfold CMul
      omega
    have D7 := D6.new nra e7 hra7
    have ra1 : F1 ra = none := ex_none D6.fr nra
    refine q_asgL (xs := ((List.range n).map fun _ : Nat => ("" : Str)).map V.str) ?h7 fun ba H8 nba e8 hba8 => ?_
    case h7 =>
      rw [List.map_map]
      show EvL _ _ _ ((List.range n).map fun _ : Nat => V.str "")
      rw [← given_all, ← hlen]
      exact el_lcR1 (n := (n : Int)) (fun _ => true) (fun _ => V.str "") (ea_cons (ev_var rfl) ea_nil) (by omega) (fun _ => rfl) (fun i H9 e9 hi => et_yes) (fun i H9 e9 hi _ => ev_c)
    have D8 := D7.new nba e8 hba8
    have ba2 := ex_none D7.fr nba
    refine q_asgL (xs := ([nameBy 0 (sh / 3 + 1), nameBy 1 (sh / 3 + 1), nameBy 2 (sh / 3 + 1), nameBy 3 (sh / 3 + 1)] : List Str).map V.str) ?h8 fun sa H9 nsa e9 hsa9 => ?_
    case h8 =>
      have key : (given (4 : Int).toNat (fun _ => true) fun k : Nat => V.str (nameBy (k : Int) (sh / 3 + 1))) = ([nameBy 0 (sh / 3 + 1), nameBy 1 (sh / 3 + 1), nameBy 2 (sh / 3 + 1), nameBy 3 (sh / 3 + 1)] : List Str).map V.str := by
        rw [given_all]
        rfl
      rw [← key]
      refine el_lcR1 (n := 4) (fun _ => true) (fun k : Nat => V.str (nameBy (k : Int) (sh / 3 + 1))) (ea_cons ev_c ea_nil) (by omega) (fun _ => rfl) (fun i H9 e9 hi => et_yes) (fun i H9 e9 hi _ => ?_)
      refine ev_call (ea_cons (ev_var rfl) (ea_cons (ev_op (ev_op (ev_var rfl) ev_c (rv_I ?_)) ev_c rv_I0) ea_nil)) (cv_L_name_by (by omega) (by omega))
      unfold CDiv
      omega
    have D9 := D8.new nsa e9 hsa9
    have sa3 := ex_none D8.fr nsa
    have hss : ∀ s ∈ ([nameBy 0 (sh / 3 + 1), nameBy 1 (sh / 3 + 1), nameBy 2 (sh / 3 + 1), nameBy 3 (sh / 3 + 1)] : List Str), isName s = true := fun s hs => by
      simp only [List.mem_cons, List.not_mem_nil, or_false] at hs
      rcases hs with rfl | rfl | rfl | rfl <;> exact nameBy_ok (by omega) (by omega)
    have hss4 : ([nameBy 0 (sh / 3 + 1), nameBy 1 (sh / 3 + 1), nameBy 2 (sh / 3 + 1), nameBy 3 (sh / 3 + 1)] : List Str).length = 4 := rfl
    generalize ([nameBy 0 (sh / 3 + 1), nameBy 1 (sh / 3 + 1), nameBy 2 (sh / 3 + 1), nameBy 3 (sh / 3 + 1)] : List Str) = ss at *
    have inj : ∀ j k : Nat, j < n → k < n → nameBy (j : Int) sh = nameBy (k : Int) sh → j = k := fun j k hj hk e => by
      have := nameBy_inj (by omega) (by omega) (by omega) (by omega) e
      omega
    have hnmo : ∀ k : Nat, k < n → isName (nameBy (k : Int) sh) = true := fun k hk => nameBy_ok (by omega) (by omega)
    have hrko : ∀ k : Nat, k < n → 0 ≤ rankBy (sh + 11 * (k : Int)) ∧ rankBy (sh + 11 * (k : Int)) ≤ 99 := fun k _ => rankBy_ok _
    have okD : ∀ i, i ≤ n → (entD pa 60 0 (fun k : Nat => nameBy (k : Int) sh) (fun k : Nat => rankBy (sh + 11 * (k : Int))) i).Ok := fun i hi => entD_ok hpa.1 hpa.2 (by decide) (by decide) (by decide) (by omega) (fun k hk => hnmo k (by omega)) (fun k hk => hrko k (by omega)) (fun j k hj hk e => inj j k (by omega) (by omega) e)
    have ok7 := okD n (Nat.le_refl _)
    have S7 := BlOk.new ok7 inj
    have hErr : ∀ i, i < n → enterErr (entD pa 60 0 (fun k : Nat => nameBy (k : Int) sh) (fun k : Nat => rankBy (sh + 11 * (k : Int))) i) (nameBy (i : Int) sh) (rankBy (sh + 11 * (i : Int))) = none := fun i hi => entD_err (pa := pa) (no := 0) (ro := 60) (f := fun k : Nat => nameBy (k : Int) sh) (g := fun k : Nat => rankBy (sh + 11 * (k : Int))) (i := i) (by omega) (hnmo i hi) (hrko i hi) (fun j hj e => by have := inj j i (by omega) hi e; omega)
    have hstep : ∀ i, (entD pa 60 0 (fun k : Nat => nameBy (k : Int) sh) (fun k : Nat => rankBy (sh + 11 * (k : Int))) i).enter (nameBy (i : Int) sh) (rankBy (sh + 11 * (i : Int))) = entD pa 60 0 (fun k : Nat => nameBy (k : Int) sh) (fun k : Nat => rankBy (sh + 11 * (k : Int))) (i + 1) := fun i => entD_step (f := fun k : Nat => nameBy (k : Int) sh) (g := fun k : Nat => rankBy (sh + 11 * (k : Int)))
    have hnk : ∀ k : Nat, k < n → ((List.range n).map fun k : Nat => nameBy (k : Int) sh)[k]? = some (nameBy (k : Int) sh) := fun k hk => by rw [List.getElem?_map, List.getElem?_range hk]; rfl
    have hrk : ∀ k : Nat, k < n → ((List.range n).map fun k : Nat => rankBy (sh + 11 * (k : Int)))[k]? = some (rankBy (sh + 11 * (k : Int))) := fun k hk => by rw [List.getElem?_map, List.getElem?_range hk]; rfl
    have hnl : ((List.range n).map fun k : Nat => nameBy (k : Int) sh).length = n := by rw [List.length_map, List.length_range]
    have hb0 : ∀ b ∈ ((List.range n).map fun _ : Nat => ("" : Str)), b = "" := fun b hb => by
      obtain ⟨_, _, rfl⟩ := List.mem_map.mp hb
      rfl
    generalize hnms : ((List.range n).map fun k : Nat => nameBy (k : Int) sh) = nms at *
    generalize hrks : ((List.range n).map fun k : Nat => rankBy (sh + 11 * (k : Int))) = rks at *
    generalize ((List.range n).map fun _ : Nat => ("" : Str)) = bs0 at *
    generalize hFB : upd F1 sa (.lst (ss.map V.str)) = FB at *
    have nra_ba : ba ≠ ra := fun e => by rw [e, upd_same] at ba2; cases ba2
    have nsa_ba : sa ≠ ba := fun e => by rw [e, upd_same] at sa3; cases sa3
    have sa2 : upd F1 ra (.lst (rks.map V.int)) sa = none := by have h := sa3; rw [upd_ne nsa_ba] at h; exact h
    have nsa_ra : sa ≠ ra := fun e => by rw [e, upd_same] at sa2; cases sa2
    have sa1 : F1 sa = none := by have h := sa2; rw [upd_ne nsa_ra] at h; exact h
    have ba1 : F1 ba = none := by have h := ba2; rw [upd_ne nra_ba] at h; exact h
    have hraB : FB ra = none := by rw [← hFB, upd_ne nsa_ra.symm]; exact ra1
    have hbaB : FB ba = none := by rw [← hFB, upd_ne nsa_ba.symm]; exact ba1
    have hrB : FB r = some (.lst (nms.map V.str)) := hFB ▸ Ex.new sa1 _ _ hr1
    have hsB : FB sa = some (.lst (ss.map V.str)) := hFB ▸ upd_same
    have hSB : SqL K FB a (ns.map V.int) := hFB ▸ ex_l (Ex.new sa1) hS6
    have eB : Ex FB (upd (upd (upd F1 ra (.lst (rks.map V.int))) ba (.lst (bs0.map V.str))) sa (.lst (ss.map V.str))) := hFB ▸ upd_mono ((Ex.new ra1).trans (Ex.new ba2))
    have hra4 : (upd (upd (upd F1 ra (.lst (rks.map V.int))) ba (.lst (bs0.map V.str))) sa (.lst (ss.map V.str))) ra = some (.lst (rks.map V.int)) := by rw [upd_ne nsa_ra.symm, upd_ne nra_ba.symm]; exact upd_same
    have hba4 : (upd (upd (upd F1 ra (.lst (rks.map V.int))) ba (.lst (bs0.map V.str))) sa (.lst (ss.map V.str))) ba = some (.lst (bs0.map V.str)) := by rw [upd_ne nsa_ba.symm]; exact upd_same
    generalize upd (upd (upd F1 ra (.lst (rks.map V.int))) ba (.lst (bs0.map V.str))) sa (.lst (ss.map V.str)) = F4 at *
    clear D5 D6 D7 D8 hr6 hra7 hba8 hsa9 e6 e7 e8 e9 nr nra nba nsa sa1 sa2 sa3 ba1 ba2 ra1 hr1 hS6 hS4 hS
    refine q_forR1 (n := (n : Int)) (ea_cons (ev_var rfl) ea_nil) (by omega)
      (fun i σ' H' => ∃ v8, σ' = [some (.ref a), some (.int sh), some (.int (n : Int)), some (.ref p), some (.ref r), some (.ref ra), some (.ref ba), some (.ref sa), v8, none, none, none, none, none, none] ∧ DeskAt K F4 H' p (entD pa 60 0 (fun k : Nat => nameBy (k : Int) sh) (fun k : Nat => rankBy (sh + 11 * (k : Int))) i))
      (fun H7 e7 => ⟨none, rfl, D9.ex e7⟩) ?_ ?_
    · rintro i σ' H' hi ⟨v8, rfl, Di⟩
      have hi : i < n := by omega
      obtain ⟨l, ps, DD, ff⟩ := id Di
      obtain ⟨dx, hp⟩ := DD.ob
      have hnl13 := (isName_len (hnmo i hi)).2
      refine s_dmeth (vs := [.str (nameBy (i : Int) sh), .int (rankBy (sh + 11 * (i : Int)))]) (ev_var rfl) hp rfl (ea_cons (ev_op (ev_var rfl) (ev_var rfl) (rv_ixL (sq_of (Di.fr _ _ (eB _ _ hrB))) (at_str (hnk i hi)))) (ea_cons (ev_op (ev_var rfl) (ev_var rfl) (rv_ixL (sq_of (Di.fr _ _ hra4)) (at_int (hrk i hi)))) ea_nil)) fun H8 e8 => ?_
      have hE := hErr i hi
      exact ⟨F4, p, _, nameBy (i : Int) sh, rankBy (sh + 11 * (i : Int)), rfl, Di.ex e8, (okD i (by omega)).wf, by omega, fun e he => (by rw [hE] at he; cases he), fun _ H9 D9 => ⟨_, rfl, hstep i ▸ D9⟩⟩
    rintro σ' H7 ⟨v8, rfl, D7⟩
    rw [hlen] at D7
    clear D9 okD hErr hstep
    generalize entD pa 60 0 (fun k : Nat => nameBy (k : Int) sh) (fun k : Nat => rankBy (sh + 11 * (k : Int))) n = d0 at *
    refine mq_when (b := false) (R := fun H' => ∃ F' d' bs', Ex (upd FB ra (.lst (rks.map V.int))) F' ∧ F' ba = some (.lst (bs'.map V.str)) ∧ DeskAt K F' H' p d' ∧ d'.Ok ∧ BlOk d' nms bs' rks) (mt_is (mt_not (b := true) (mt_B (mv_call (vs := [.ref p, .ref r, .ref ba, .ref sa, .ref a]) (ea_cons (ev_var rfl) (ea_cons (ev_var rfl) (ea_cons (ev_var rfl) (ea_cons (ev_var rfl) (ea_cons (ev_var rfl) ea_nil))))) fun H9 e9 Q E q => ⟨upd FB ra (.lst (rks.map V.int)), F4, p, d0, r, ba, sa, a, nms, bs0, ss, rks, ns, rfl, ?g1, (by rw [upd_ne nra_ba]; exact hbaB), Ex.new hraB _ _ hrB, Ex.new hraB _ _ hsB, ex_l (Ex.new hraB) hSB, hba4, D7.ex e9, ok7, S7, hb0, hss4, hss, by omega, fun F' H' d' bs' eF' hba' D' ok' S' => q H' ⟨F', d', bs', eF', hba', D', ok', S'⟩⟩))) rfl) (fun h => by cases h) fun _ H8 ⟨F5, d5, bs5, eF5, hba5, D8, ok5, S5⟩ => ?_
    case g1 =>
      intro b o hb
      by_cases hbr : b = ra
      · rw [hbr, upd_same] at hb
        rw [hbr, hra4]
        exact hb
      · rw [upd_ne hbr] at hb
        exact eB _ _ hb
    have hra5 := eF5 _ _ upd_same
    have eB5 : Ex FB F5 := (Ex.new hraB).trans eF5
    clear eF5 D7 S7 ok7 hba4 hra4 eB
    obtain ⟨l8, ps8, DD8, ff8⟩ := id D8
    obtain ⟨dx8, hp8⟩ := DD8.ob
    have t0 : 0 ≤ cellAt ns 3 % 31 := by omega
    have t1 : cellAt ns 3 % 31 < 31 := by omega
    refine mq_forLn (K := K) (M := fun v H' => ∃ q, v = .ref q ∧ F5 q = none ∧ DeskAt K (upd F5 q (.lst ((d5.runN (cellAt ns 3 % 31).toNat).1.map optS))) H' p (d5.runN (cellAt ns 3 % 31).toNat).2) (mx_meth (vs := [.int (cellAt ns 3 % 31)]) (ev_var rfl) hp8 rfl (ea_cons (ev_op (ev_call (ea_cons (ev_var rfl) (ea_cons ev_c ea_nil)) (cv_L_cell_at (ex_l (eB5.trans D8.fr) hSB) (by decide))) ev_c (rv_I (show (0 : Int) < 31 by decide))) ea_nil) fun H9 e9 Q E q => ⟨F5, p, d5, _, rfl, D8.ex e9, ok5.wf, fun h => absurd h (by omega), fun _ q1 H10 hq1 D10 => q _ H10 ⟨q1, rfl, hq1, D10⟩⟩) ((d5.runN (cellAt ns 3 % 31).toNat).1.map optS)
      (fun q i σ' H' => ∃ v9, σ' = [some (.ref a), some (.int sh), some (.int (n : Int)), some (.ref p), some (.ref r), some (.ref ra), some (.ref ba), some (.ref sa), v8, v9, none, none, none, none, none] ∧ F5 q = none ∧ DeskAt K (upd F5 q (.lst ((d5.runN (cellAt ns 3 % 31).toNat).1.map optS))) H' p (d5.runN (cellAt ns 3 % 31).toNat).2)
      (fun v H9 ⟨q, ev, hq, D9⟩ => ⟨q, ev, none, rfl, hq, D9⟩) (fun q i σ' H' _ ⟨v9, _, _, D9⟩ => sq_of (D9.fr _ _ upd_same)) ?_ ?_
    · rintro q i x σ' H' hi ⟨v9, rfl, hq, D9⟩
      have eq5 := Ex.new (o := .lst ((d5.runN (cellAt ns 3 % 31).toNat).1.map optS)) hq
      rw [List.getElem?_map] at hi
      obtain ⟨z, hz, rfl⟩ := Option.map_eq_some_iff.mp hi
      have hil := (List.getElem?_eq_some_iff.mp hz).1
      rw [runN_len] at hil
      rw [runN_at d5 _ i hil] at hz
      have hz := Option.some.inj hz
      refine s_when (b := false) ?h1 (fun h => by cases h) fun _ H10 e10 => ⟨_, rfl, hq, D9.ex e10⟩
      case h1 =>
        cases z with
        | none => exact et_is (et_and (a := false) (b := false) (et_is (et_test (ev_op (ev_var rfl) ev_c rv_notN)) rfl) fun h => by cases h) rfl
        | some nm =>
          obtain ⟨c, g1, rfl, g3⟩ := turn_some hz
          obtain ⟨g4, g5⟩ := able_mem.mp g3
          obtain ⟨j, b, j1, j2, j3⟩ := (S5.runN ok5 i).of (runN_ok ok5 i).1 g4
          have hb : b = "" := by
            rcases j3 with ⟨h, _⟩ | ⟨_, h⟩
            · exact h
            · rw [h] at g5
              cases g5
          subst hb
          exact et_is (et_and (a := true) (b := false) (et_is (et_test (ev_op (ev_var rfl) ev_c rv_notN)) rfl) fun _ => et_is (et_test (ev_op (ev_op (ev_var rfl) (ev_index S5.nd j1 (ev_var rfl) (D9.fr _ _ (eq5 _ _ (eB5 _ _ hrB))) (ev_var rfl)) (rv_ixL (sq_of (D9.fr _ _ (eq5 _ _ hba5))) (at_str j2))) ev_c (rv_ne rfl))) (by decide +kernel)) rfl
    rintro q σ' H9 ⟨v9, rfl, hq, D9⟩
    have eq5 := Ex.new (o := .lst ((d5.runN (cellAt ns 3 % 31).toNat).1.map optS)) hq
    have eB6 := eB5.trans eq5
    have hra6 := eq5 _ _ hra5
    have hba6 := eq5 _ _ hba5
    have ok6 := (runN_ok ok5 (cellAt ns 3 % 31).toNat).1
    have S6 := S5.runN ok5 (cellAt ns 3 % 31).toNat
    clear hp8 DD8 D8 S5
    generalize (d5.runN (cellAt ns 3 % 31).toNat).2 = d6 at *
    generalize upd F5 q (.lst ((d5.runN (cellAt ns 3 % 31).toNat).1.map optS)) = F6 at *
    clear eq5 hq eB5 hra5 hba5 ok5
    obtain ⟨cs, hcs, hcl⟩ := cut_cells (ns := ns) (lo := 4) (hi := 12)
    have hsl : EvL (tSl (rSlL K) (tVar 0) (tPart (tC (.int 4))) (tPart (tC (.int 12)))) [some (.ref a), some (.int sh), some (.int (n : Int)), some (.ref p), some (.ref r), some (.ref ra), some (.ref ba), some (.ref sa), v8, v9, none, none, none, none, none] H9 (cs.map V.int) := by
      rw [← hcs]
      exact el_sl (ev_var rfl) (eo_some ev_c) (eo_some ev_c) (ex_l (eB6.trans D9.fr) hSB)
    refine q_forNLn (K := K) hsl (fun z i σ' H' => ∃ ba' v10 v11 v12 v13 F' d' bs' rs', σ' = [some (.ref a), some (.int sh), some (.int (n : Int)), some (.ref p), some (.ref r), some (.ref ra), some (.ref ba'), some (.ref sa), v8, v9, v10, v11, v12, v13, none] ∧ Ex (upd FB z (.lst (cs.map V.int))) F' ∧ FB z = none ∧ z ≠ ra ∧ F' ba' = some (.lst (bs'.map V.str)) ∧ F' ra = some (.lst (rs'.map V.int)) ∧ ba' ≠ ra ∧ DeskAt K F' H' p d' ∧ d'.Ok ∧ BlOk d' nms bs' rs')
      (fun z H10 nz e10 hz => ⟨ba, none, none, none, none, _, d6, bs5, rks, rfl, upd_mono eB6, ex_none (eB6.trans D9.fr) nz, ?_, Ex.new (ex_none D9.fr nz) _ _ hba6, Ex.new (ex_none D9.fr nz) _ _ hra6, nra_ba, D9.new nz e10 hz, ok6, S6⟩) (fun z i σ' H' _ ⟨ba', _, _, _, _, F', d', bs', rs', _, eF', _, _, _, _, _, D', _⟩ => sq_of (D'.fr _ _ (eF' _ _ upd_same))) ?_ ?_
    · intro e
      rw [e, D9.fr _ _ hra6] at nz
      cases nz
    · rintro z i x σ' H' hi ⟨ba', v10, v11, v12, v13, F', d', bs', rs', rfl, eF', hzB, nza, hba', hra', nba', D', ok', S'⟩
      have hraZ : (upd FB z (.lst (cs.map V.int))) ra = none := by rw [upd_ne nza.symm]; exact hraB
      have eBZ := Ex.new (o := .lst (cs.map V.int)) hzB
      have hrF := eF' _ _ (eBZ _ _ hrB)
      have hsF := eF' _ _ (eBZ _ _ hsB)
      rw [List.getElem?_map] at hi
      obtain ⟨cell, hcell, rfl⟩ := Option.map_eq_some_iff.mp hi
      have w0 := mix_nonneg (c := cell) (p := 10009) (m := 7) (by decide)
      have w1 := mix_lt (c := cell) (p := 10009) (m := 7) (by decide)
      refine q_asg (v := .int (mix cell 10009 7)) (ev_call (ea_cons (ev_var rfl) (ea_cons ev_c (ea_cons ev_c ea_nil))) (cv_L_mix (by decide) (by decide))) fun H1 e1 => ?_
      have D1 := D'.ex e1
      generalize hway : mix cell 10009 7 = way at *
      refine q_cut (M := fun σ' H' => ∃ ba' v12 v13 F' d' bs' rs', σ' = [some (.ref a), some (.int sh), some (.int (n : Int)), some (.ref p), some (.ref r), some (.ref ra), some (.ref ba'), some (.ref sa), v8, v9, some (.int cell), some (.int way), v12, v13, none] ∧ Ex (upd FB z (.lst (cs.map V.int))) F' ∧ F' ba' = some (.lst (bs'.map V.str)) ∧ F' ra = some (.lst (rs'.map V.int)) ∧ ba' ≠ ra ∧ DeskAt K F' H' p d' ∧ d'.Ok ∧ BlOk d' nms bs' rs') ?_ ?_
      · refine s_if (b := decide (way < 4)) (et_test (ev_op (ev_var rfl) ev_c rv_I0)) (fun hb H2 e2 => ?_) (fun hb H2 e2 => ?_)
        · have hb := of_decide_eq_true hb
          have D2 := D1.ex e2
          obtain ⟨b, hbn, hbat⟩ := pick_allS (xs := ss) (i := way) (P := fun s => isName s = true) w0 (by rw [hss4]; omega) hss
          have hbne : b ≠ "" := fun e => by
            rw [e] at hbn
            exact absurd hbn (by decide +kernel)
          refine mq_when (b := false) (R := fun H' => ∃ F2, Ex F' F2 ∧ DeskAt K F2 H' p (d'.ring b)) (mt_is (mt_not (b := true) (mt_B (mv_call (vs := [.ref p, .ref r, .ref ba', .str b]) (ea_cons (ev_var rfl) (ea_cons (ev_var rfl) (ea_cons (ev_var rfl) (ea_cons (ev_op (ev_var rfl) (ev_var rfl) (rv_ixL (sq_of (D2.fr _ _ hsF)) hbat)) ea_nil)))) fun H3 e3 Q E kk => ⟨F', p, d', r, ba', nms, bs', rs', b, rfl, D2.ex e3, ok', hrF, hba', S', hbn, fun F2 H4 eF2 D4 => kk H4 ⟨F2, eF2, D4⟩⟩))) rfl) (fun h => by cases h) fun _ H3 ⟨F2, eF2, D3⟩ => ?_
          have S3 := S'.ring ok' hbne
          have ok3 := ring_okL ok' b
          refine s_asgL (xs := (bs'.map fun x => if x = b then ("" : Str) else x).map V.str) ?h1 fun ba2 H4 n4 e4 h4 => ⟨ba2, v12, v13, _, _, _, rs', rfl, (eF'.trans eF2).trans (Ex.new (ex_none D3.fr n4)), upd_same, Ex.new (ex_none D3.fr n4) _ _ (eF2 _ _ hra'), ?h2, D3.new n4 e4 h4, ok3, S3⟩
          case h2 =>
            intro e
            rw [e, D3.fr _ _ (eF2 _ _ hra')] at n4
            cases n4
          case h1 =>
            have e9 : (bs'.map fun x => if x = b then ("" : Str) else x).map V.str = (bs'.filter fun _ => true).map fun x => V.str (if x = b then ("" : Str) else x) := by
              rw [filter_true, List.map_map]
              rfl
            rw [e9]
            have hbl := S'.len
            refine el_lcM (K := K) (ps := bs') (uu := V.str) (fun _ => true) (fun x => V.str (if x = b then ("" : Str) else x)) (ev_var rfl) (sq_of (D3.fr _ _ (eF2 _ _ hba'))) (by omega) (fun _ => rfl) (fun _ _ _ _ => et_yes) fun x hx H4 e4 _ => ?_
            refine ev_opL1 (xs := [.str x, .str ""]) (el_lst (ea_cons (ev_var rfl) (ea_cons ev_c ea_nil)) (by show 2 ≤ 100000; decide)) (fun H5 e5 => ev_cb (ea_cons (ev_is (ev_op (ev_var rfl) (ev_op (ev_var rfl) (ev_var rfl) (rv_ixL (sq_of ((e4.trans e5) _ _ (D3.fr _ _ (eF2 _ _ hsF)))) hbat)) (rv_eq rfl)) (congrArg V.bl (decV x b))) ea_nil) rc_int_bl) (fun q H5 h5 e5 => rv_ixL (sq_of h5) (pick2.trans ?_))
            by_cases hxb : x = b
            · rw [if_pos hxb, if_pos (decide_eq_true hxb)]
            · rw [if_neg hxb, if_neg (by rw [decide_eq_false hxb]; decide)]
        · have D2 := D1.ex e2
          refine s_if (b := decide (way = 4)) (et_mix0 (ev_var rfl)) (fun hb H3 e3 => ?_) (fun hb H3 e3 => ?_)
          · obtain ⟨odd, hodd, hato⟩ := pick_allS (xs := ["", "A bell", repS "x" (13 : Int).toNat, "b-"]) (i := mix cell 10099 4) (P := fun s => isName s = false ∧ s.length ≤ 100) (mix_nonneg (by decide)) (mix_lt (by decide)) (by decide +kernel)
            refine q_asg (v := .str odd) (ev_opL1 (xs := (["", "A bell", repS "x" (13 : Int).toNat, "b-"] : List Str).map V.str) (el_lst (ea_cons ev_c (ea_cons ev_c (ea_cons (ev_op ev_c ev_c (rv_repS (by decide) (by decide) (by decide +kernel) (by decide +kernel))) (ea_cons ev_c ea_nil)))) (by show 4 ≤ 100000; decide)) (fun H7 e7 => ev_call (ea_cons (ev_var rfl) (ea_cons ev_c (ea_cons ev_c ea_nil))) (cv_L_mix (by decide) (by decide))) (fun q H7 h7 e7 => rv_ixL (sq_of h7) hato)) fun H4 e4 => ?_
            refine ms_when (b := false) (R := fun H' => DeskAt K F' H' p d') (mv_neC (mv_call (vs := [.ref p, .str odd]) (ea_cons (ev_var rfl) (ea_cons (ev_var rfl) ea_nil)) fun H5 e5 => ms_rings_e (D2.ex (e3.trans (e4.trans e5))) ok'.wf (by omega) hodd.1) (fun _ _ D e => D.ex e) (by decide +kernel)) (fun h => by cases h) fun _ H5 D5 => ⟨ba', _, v13, F', d', bs', rs', rfl, eF', hba', hra', nba', D5, ok', S'⟩
          · have r0 := mix_nonneg (c := cell) (p := 10103) (m := 100) (by decide)
            obtain ⟨rk, _, hatr⟩ := pick_all (xs := [mix cell 10103 100, 0, 99, 100, -1]) (i := mix cell 10111 5) (P := fun _ => True) (mix_nonneg (by decide)) (mix_lt (by decide)) (fun _ _ => trivial)
            refine q_asg (v := .int rk) (ev_opL1 (xs := ([mix cell 10103 100, 0, 99, 100, -1] : List Int).map V.int) (el_lst (ea_cons (ev_call (ea_cons (ev_var rfl) (ea_cons ev_c (ea_cons ev_c ea_nil))) (cv_L_mix (by decide) (by decide))) (ea_cons ev_c (ea_cons ev_c (ea_cons ev_c (ea_cons (ev_un ev_c ru_neg) ea_nil))))) (by show 5 ≤ 100000; decide)) (fun H7 e7 => ev_call (ea_cons (ev_var rfl) (ea_cons ev_c (ea_cons ev_c ea_nil))) (cv_L_mix (by decide) (by decide))) (fun q H7 h7 e7 => rv_ixL (sq_of h7) hatr)) fun H4 e4 => ?_
            have k0 := mix_nonneg (c := cell) (p := 10133) (m := (n : Int)) (by omega)
            have k1 := mix_lt (c := cell) (p := 10133) (m := (n : Int)) (by omega)
            obtain ⟨wk, hwk⟩ : ∃ wk : Nat, mix cell 10133 (n : Int) = (wk : Int) := ⟨(mix cell 10133 (n : Int)).toNat, by omega⟩
            refine ms_when (b := false) (R := fun H' => ∃ F2 d2 rs2, Ex (upd FB z (.lst (cs.map V.int))) F2 ∧ F2 ba' = some (.lst (bs'.map V.str)) ∧ F2 ra = some (.lst (rs2.map V.int)) ∧ DeskAt K F2 H' p d2 ∧ d2.Ok ∧ BlOk d2 nms bs' rs2) (mt_is (mt_not (b := true) (mt_B (mv_call (vs := [.ref p, .ref r, .ref ba', .ref ra, .int (wk : Int), .int rk]) (ea_cons (ev_var rfl) (ea_cons (ev_var rfl) (ea_cons (ev_var rfl) (ea_cons (ev_var rfl) (ea_cons (ev_is (ev_call (ea_cons (ev_var rfl) (ea_cons ev_c (ea_cons (ev_var rfl) ea_nil))) (cv_L_mix (by decide) (by omega))) (by rw [hwk])) (ea_cons (ev_var rfl) ea_nil)))))) fun H5 e5 Q E kk => ⟨_, F', p, d', r, ba', ra, nms, bs', rs', wk, rk, rfl, eF', hraZ, D2.ex (e3.trans (e4.trans e5)), ok', hrF, hba', hra', nba', S', by omega, fun F2 H6 d2 rs2 eF2 hb2 hr2 D6 ok6 S6 => kk H6 ⟨F2, d2, rs2, eF2, hb2, hr2, D6, ok6, S6⟩⟩))) rfl) (fun h => by cases h) fun _ H5 ⟨F2, d2, rs2, eF2, hb2, hr2, D5, ok2, S2⟩ => ⟨ba', v12, _, F2, d2, bs', rs2, rfl, eF2, hb2, hr2, nba', D5, ok2, S2⟩
      · rintro σ' H2 ⟨ba2, v12, v13, F2, d2, bs2, rs2, rfl, eF2, hba2, hra2, nba2, D2, ok2, S2⟩
        refine s_when (b := false) (et_is (et_not (et_B (ev_call (vs := [.ref p, .ref r, .ref ba2, .ref ra]) (ea_cons (ev_var rfl) (ea_cons (ev_var rfl) (ea_cons (ev_var rfl) (ea_cons (ev_var rfl) ea_nil)))) (spv_call fun H10 e10 Q E kk => ⟨F2, p, d2, r, ba2, ra, nms, bs2, rs2, rfl, D2.ex e10, ok2, eF2 _ _ (eBZ _ _ hrB), hba2, hra2, S2, by omega, kk⟩)))) rfl) (fun h => by cases h) fun _ H10 e10 => ?_
        exact ⟨ba2, _, _, _, _, F2, d2, bs2, rs2, rfl, eF2, hzB, nza, hba2, hra2, nba2, D2.ex e10, ok2, S2⟩
    · rintro z σ' H' _
      exact s_ret ev_c fun H9 e9 => k H9
end Rr
namespace Rr
open PySem PySem.Spec PyProof.Rows L2
def loose0 : List PySem.Str := ["_wall", "Caller", "DeskError", "NoName", "NoRank", "NoSpan", "NoDesk", "Known", "Unknown", "Full", "NotReady", "IsReady", "SIGNS", "MOST", "is_name", "TOP", "aged", "limit", "first", "MOST_PACE", "MOST_ROOM", "MOST_TURNS", "Desk", "_law_whole", "_law_cell_at", "_law_mix", "_law_name_by", "_law_texts", "_law_pace_by", "_law_rank_by"]
def loose1 : List PySem.Str := ["_law_word", "_law_waits", "_law_no_wait", "_law_rings", "_law_reranks", "_law_stands", "_law_rung", "_law_got", "_law_all_wait"]
def loose : List PySem.Str := loose0 ++ loose1
abbrev R : PySem.W.OpenRow := PySem.W.OpenLaw.row PySem.Challenge.rw_rrdesk_k07_bells
abbrev hk : PySem.W.Hook := hookE 6 fa fn excK
def ob (s : PySem.W.SharedT) : He.AlD × Bool := obsEG 6 fa fn excK (HandSHeadRun.getT s)
theorem ob_eq (s : PySem.W.SharedT) : ob s = hk.obs s.abs := obsEG_eq (HandSHeadRun.getT_eq s)
theorem run (w : World) : HandSHeadRun.RunEq R (PySem.W.view R.prog [45]) hk ob 6000 loose w := by
  intro os
  kernel_rfl
theorem facts {P : Program} {w : World} {K : PySem.W.Frag} {h : Heap} {mg : Str → Option Value} {f : Addr} (X : K.In h) (G : h.Ns mainGlobals mg) (hfa : mg ("law" : Str) = some (.ref f)) (c : He.SaysD fa fn K) (cx : excK K = true) :
    ∃ fd : FuncData, (∀ (s : Shared) (v : Value), BindsTo s fd ⟨[v], []⟩ [("_law_script", v)]) ∧ ∀ base : Heap, K.In base → base.Ns mainGlobals mg → FnOk P w K mg base CX0 5 f fd ["_law_script"] (sp_law K) := by
  have T : Txt K mg := ⟨c, ⟨h, X, G⟩, cx⟩
  have e := hfa.symm.trans (g_law T)
  cases e
  obtain ⟨fd, F⟩ := f_law T
  have b := FunD.bindsA (ps := ["_law_script"]) F fun _ _ _ _ _ _ us hl => match us, hl with | [_], _ => rfl
  refine ⟨fd, fun s v => b s [v] rfl, fun base _ _ => ?_⟩
  obtain ⟨fd', G', _, F'⟩ := ok_law (P := P) (w := w) (base := base) T
  exact (funD_same F F') ▸ G'
end Rr
open PySem PySem.W PySem.Calls PyProof.Rows
set_option maxRecDepth 100000 in
set_option maxHeartbeats 0 in
theorem PySem.Challenge.cw_rrdesk_k07_bells_holds : PySem.Challenge.rw_rrdesk_k07_bells.Holds := by
  w_on; o_law
  refine HandSHeadRun.head_any (r := OpenLaw.row PySem.Challenge.rw_rrdesk_k07_bells) (q := view (OpenLaw.row PySem.Challenge.rw_rrdesk_k07_bells).prog [45]) (H := Rr.hk) (ob := Rr.ob) (M := 6000) (loose := Rr.loose) (d := HandSHeadRun.topDef (OpenLaw.row PySem.Challenge.rw_rrdesk_k07_bells).prog 45) (kwd := []) Rr.ob_eq
    (by kernel_rfl) (fun s => by kernel_rfl) Rr.run (by kernel_rfl) (by kernel_rfl) (by kernel_rfl) (by rfl) (by first | assumption | decide +kernel) (by decide +kernel) ⟨rfl, rfl, rfl, rfl, rfl, by decide +kernel⟩ ?hw ?hc
  case hw => w_witness2
  case hc =>
    refine L2.walk_ofE (l := PySem.Challenge.rw_rrdesk_k07_bells) (n := 63) (k := 5) (x := "_law_script") (CX := L2.CX0) rfl (by decide) (by kernel_rfl) ⟨rfl, by decide, by decide⟩ ?F (fun _ _ _ _ z => z)
    intro w mg fa h Y G hmg0
    obtain ⟨K, KX, c, cx⟩ := Y
    have hmg : mg ("law" : PySem.Str) = some (.ref fa) := by
      have e : (HandSHeadRun.topDef (OpenLaw.row PySem.Challenge.rw_rrdesk_k07_bells).prog 45).name = ("law" : PySem.Str) := by kernel_rfl
      rw [← e]
      exact hmg0
    obtain ⟨fd, hb, hF⟩ := Rr.facts (P := (PySem.Challenge.rw_rrdesk_k07_bells).prog) (w := w) KX G hmg c cx
    exact ⟨K, fd, Rr.sp_law K, KX, hb, fun H a ns hl _ hS => ⟨a, ns, rfl, hS, hl, fun _ => rfl⟩, hF⟩

#print axioms PySem.Challenge.cw_rrdesk_k07_bells_holds

