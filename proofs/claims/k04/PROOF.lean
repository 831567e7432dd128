import PyProof.Rows.All
import PyProof.Rows.StrRev
import Wide.All
import OpenK.AllK
import Wide.FinOn
import KE.KStateDown
import HandS.Base
import HandS.Call
import HandS.List
import HandS.Comp
import HandS.Ends
import HandS.Dict
import HandS.Iter
import HandS.Text
import HandS.More
import HandS.Codes
import HandS.Conv
import HandS.Exc
import HandS.TryOnly
import HandS.ExcOwn
import HandS.Words
import HandS.WordsList
import HandS.WordsExc
import HandS.Defaults
import HandS.IsInst
import HandS.Style
import HandS.SortKw
import HandS.ExcValue
import KE.SortKeyHeap
import HandS.Evl
import HandS.Head0
import HandS.Head1
import HandS.Head2
import HandS.HeadEnd
import HandS.HeadHook1
import HandS.HeadHook2
import HandS.ExcCtx
import HandS.HotCalls
import HandS.ExcIs
import HandS.Hot
import PySem.Challenge.RW_rrdesk_k04_entering
set_option Elab.async false
set_option linter.all false
set_option maxRecDepth 100000
set_option maxHeartbeats 4000000
namespace Rr
open PySem PySem.Spec PyProof.Rows L2 Evl
/-! ### where an exception is handled: the end of a list, sums, comprehensions, isinstance -/
section
variable {prog : Program} {w : World} {A : Around} {E : Value → Shared → Prop} {s : Shared} {t l x1 : Addr} {i : Nat} {vs : Array Value}
theorem end_hot {Q : Option Value → Shared → Prop} (hot : HotX.HotAt A x1 s.heap) (nx : x1 ≠ t) (hi : s.heap.IsListIter t l i) (hl : s.heap.IsList l vs) (hn : vs[i]? = none) (q : ∀ h', (∀ b o, b ≠ t → s.heap.get? b = some o → h'.get? b = some o) → Q none { s with heap := h' }) : wpAny (model prog w) A (pyNext (.ref t)) Q E s := by
  obtain ⟨o1, g1, c1, d1⟩ := id hi
  obtain ⟨o2, g2, _, n2, d2⟩ := hl
  obtain ⟨hh, o3, v3, g3, d3, k3⟩ := hot
  have ht := hi.typeIs
  unfold pyNext
  refine wpAny_bind (wpAny_attempt (wpAny_callSpecial?_slot (name := Str.ofString "__next__") ht slot_listiter_next (wpAny_call_entry slot_listiter_next ht entry_listiter_next ?_ (args_listiter_next _))))
  show wpAny _ _ (field (.ref t) 0 >>= _) _ _ s
  refine wpAny_bind (wpAny_field g1 d1 (x := .ref l) rfl ?_)
  show wpAny _ _ (if (Value.ref l == Value.none) = true then _ else _) _ _ s
  rw [if_neg (fun h : (Value.ref l == Value.none) = true => Bool.noConfusion h)]
  show wpAny _ _ (field (.ref t) 1 >>= _) _ _ s
  refine wpAny_bind (wpAny_field g1 d1 (x := .int i 0) rfl ?_)
  show wpAny _ _ (seqItems? (.ref l) >>= _) _ _ s
  refine wpAny_bind (wpAny_seqItems g2 d2 ?_)
  simp only [Int.toNat_natCast, hn]
  refine wpAny_bind (wpAny_rule (wpAny_bind (wpAny_setField g1 d1 (by simp) ?_)))
  show wpAny _ _ (newExc (.type "StopIteration") [] >>= _) _ _ _
  refine wpAny_bind ?_
  simp only [newExc, newTuple]
  refine wpAny_bind (wpAny_newObj_type ?_ (by size_fits))
  refine wpAny_bind (m := firstArgMember _ _) (wpAny_of_eq (a := Value.none) (by first | rfl | (simp only [firstArgMember]; rfl)) ?_)
  refine wpAny_newObj_type ?_ (by size_fits)
  have g4 : (s.heap.update t (Obj.mapFields (·.setIfInBounds 0 Value.none))).get? x1 = some o3 := by rw [Heap.get?_update_other _ _ nx.symm]; exact g3
  refine HotX.raiseNew_hot ⟨hh, o3, v3, Heap.get?_push_of_some _ (Heap.get?_push_of_some _ g4), d3, k3⟩ (Nat.ne_of_lt (Heap.lt_size (Heap.get?_push_of_some _ g4))) (Heap.get?_push_size _ rfl) rfl (by first | (simp; done) | (simp; omega) | (simp only [Array.size_append]; simp; omega)) ?_
  refine wpAny_bind (wpAny_isInstance (T := "StopIteration") (b := true) ⟨_, Heap.get?_update_self _ (Heap.get?_push_size _ rfl) rfl, rfl⟩ isSubtype_stop ?_)
  refine wpAny_pure (q _ fun b o hb e => ?_)
  have e2 : (s.heap.update t (Obj.mapFields (·.setIfInBounds 0 Value.none))).get? b = some o := by rw [Heap.get?_update_other _ _ (Ne.symm hb)]; exact e
  rw [Heap.get?_update_other _ _ (Nat.ne_of_gt (Heap.lt_size (Heap.get?_push_of_some _ e2)))]
  exact Heap.get?_push_of_some _ (Heap.get?_push_of_some _ e2)
/-- a walk over a list there -/
theorem walk_hot {o1 : Obj} {v1 : Array Value} (hh : A.handled = some (.ref x1)) (d1 : o1.data = .fields v1) (k1 : v1[2]? = some .none) (nl : l ≠ t) (nx : x1 ≠ t) : Walks prog w A t [t, l, x1] [t] vs.size (fun j v => vs[j]? = some v) (fun j h => h.IsListIter t l j ∧ h.IsList l vs ∧ h.get? x1 = some o1) where
  sub := fun b hb => by rw [List.mem_singleton] at hb; rw [hb]; exact List.mem_cons_self ..
  frame := fun j h h' st k => ⟨st.1.at fun o e => k t (by simp) o e, st.2.1.at fun o e => k l (by simp) o e, k x1 (by simp) _ st.2.2⟩
  item := fun j s' Q E' hj st hQ => by
    refine wpAny_pyNext_list_item st.1 st.2.1 (x := vs[j]) (by simp [hj]) fun h' hi' hs' => ?_
    refine hQ _ h' s'.toks (by simp [hj]) ⟨hi', st.2.1.extBut hs'.extBut nl, (hs'.2 x1 nx).trans st.2.2⟩ fun b o hb e => hs'.extBut b o (fun z => hb (by simp [z])) e
  done := fun s' Q E' st hQ => end_hot ⟨hh, o1, v1, st.2.2, d1, k1⟩ nx st.1 st.2.1 (by simp) fun h' he => hQ h' s'.toks fun b o hb e => he b o (fun z => hb (by simp [z])) e
  self := fun _ _ _ _ st hQ => wpAny_pyIter_listiter st.1 hQ
theorem sum_hot {its : List Value} {ns : List Int} {Q : Value → Shared → Prop} (hot : HotX.HotAt A x1 s.heap) (hl : s.heap.IsList l its.toArray) (hi : IntsAre its ns)
    (q : ∀ h' tk t', (∀ b o, s.heap.get? b = some o → h'.get? b = some o) → Q (.int ns.sum t') { s with heap := h', toks := tk }) : wpAny (model prog w) A (call (.builtin "sum") [.ref l]) Q E s := by
  obtain ⟨hh, o3, v3, g3, d3, k3⟩ := hot
  obtain ⟨xs, ex⟩ := hi.allInts.items
  have en : numsOf (intItems xs).toList = ns := by rw [← ex]; exact hi.numsOf
  rw [nums_intItems] at en
  rw [ex] at hl
  have hx1 := Heap.lt_size g3
  refine call_sum_walkG (iter_intList hl fun s2 e2 st fp nl => ?_)
  subst e2
  refine ⟨_, _, _, _, _, _, numAt xs, rfl, walk_hot (A := A.in1) (x1 := x1) (l := l) (vs := intItems xs) hh d3 k3 nl (Nat.ne_of_lt hx1), ⟨st.1, st.2, Heap.get?_push_of_some _ g3⟩, fun b hb => ?_, (fun _ _ => intItems_at), fun h' tk t' hk => ?_⟩
  · have hz : (s.heap.push { cls := .type "list_iterator", data := .fields #[.ref l, .int 0 0] }).objs.size = s.heap.objs.size + 1 := Heap.size_push ..
    simp only [List.mem_cons, List.not_mem_nil, or_false] at hb
    rcases hb with rfl | rfl | rfl
    · exact fp _ (by simp)
    · exact fp _ (by simp)
    · show _ < (s.heap.push _).objs.size
      rw [hz]
      exact Nat.lt_succ_of_lt hx1
  · have := q h' tk t' (old_kept hk)
    rw [← en] at this
    rw [show (intItems xs).size = xs.size from by simp [intItems], preSum_eq, List.take_of_length_le (by simp)]
    exact this
end
section
variable {X : Cx}
theorem cr_sumH (hc : L2H.HotC X) : CallR X (.builtin "sum") (rSum X.K) := by
  intro pins s σ H vs us Q I r h
  obtain ⟨a, ns, rfl, hs, q⟩ := h
  obtain ⟨its, rv, hl, _⟩ := I.list hs
  obtain ⟨x1, hot⟩ := hc.at I
  rw [Vals.ref1 r]
  exact sum_hot hot hl.isList rv.ints fun h' tk t' hk => ⟨.int _, H, I.kept hk, ⟨_, rfl⟩, q⟩
/-- isinstance(e, c) of the exception that is handled -/
theorem call_isH {a D : Addr} {oe : Obj} (hp : (a, oe) ∈ X.pn) (C : ExcC X.K D) (hz : Zc (.ref D) none oe) (hf : ∃ vs, oe.data = .fields vs) : CallR X (.builtin "isinstance") (rIsE X.K D a) := by
  intro pins s σ H xs us Q I r h
  obtain ⟨c, cv, b, rfl, hcv, e, q⟩ := h
  obtain ⟨u1, u2, rfl, r1, r2⟩ := vals2 r
  obtain rfl : u1 = Value.ref a := r1
  obtain rfl := hcv _ r2
  obtain ⟨g, _⟩ := I.pin (a, oe) (List.mem_append_left _ hp)
  have J : PySem.W.InstAt s.heap a oe D none := by
    obtain ⟨vs, hv⟩ := hf
    cases oe with
    | mk oc od dt sl =>
      obtain ⟨h1, h2⟩ := hz
      dsimp only at h1 h2 hv
      subst h1 h2 hv
      exact ⟨g, rfl, rfl, trivial⟩
  exact PySem.W.kia_one (PySem.W.handS_kitx_exc C.hg C.hk C.hs C.hd C.ha C.hn C.ht C.hm) I.kIn J e (fun z => nomatch z) fun tk => ⟨.bl b, H, I.kept (t' := tk) fun _ _ z => z, rfl, q⟩
end
/-- [elt for x in l] where an exception is handled: l a list that stands; the elements' values by f -/
def tLcH (K : PySem.W.Frag) (tl : TE) (j : Nat) (te : TE) : TE := fun σ H Q => tl σ H fun y H1 => ∃ (a : Addr) (xs : List V) (f : V → V), y = .ref a ∧ SqL K H1 a xs ∧ xs.length ≤ 1000 ∧
  (∀ x ∈ xs, ∀ H2, Ex H1 H2 → ∀ Q2 : VK, (∀ H3, Ex H2 H3 → Q2 (f x) H3) → te ((wipe σ [j]).set j (some x)) H2 Q2) ∧ ∀ D H2, H1 D = none → Ex H1 H2 → H2 D = some (.lst (xs.map f)) → Q (.ref D) H2
theorem wipe_set_get {σ : L2.St} {j k : Nat} {v : V} {w : V} (e : (wipe σ [j])[k]? = some (some w)) : ((wipe σ [j]).set j (some v))[k]? = some (some w) := by
  by_cases h : k = j
  · subst h
    exact absurd rfl (show ¬ k = k from fun _ => by
      have := (wipe_some e).2
      simp at this)
  · rw [List.getElem?_set_ne (Ne.symm h)]
    exact e
theorem pe_lcH {X : Cx} {elt iter : Expr} {x : Str} {px pos : Pos} {scope : Scope} {j : Nat} {tl te : TE} (hot : L2H.HotC X) (hN : X.N.Nodup) (hi : PE X iter tl) (ok : BlkOk X.N X.env.scope scope [(x, j)])
    (hg : ∀ (s : Shared) (H : Hp) (C : Addr) (cl : List (Str × Addr)) (fp : List Addr), PG (X.blk s H scope (compEnvC scope cl C X.env) fp) (.Name x px) (gName j)) (he : ∀ (s : Shared) (H : Hp) (C : Addr) (cl : List (Str × Addr)) (fp : List Addr), PE (X.blk s H scope (compEnvC scope cl C X.env) fp) elt te)
    (hs : ∀ y, foldedSetIterable iter X.env y = pure y := by intro _; rfl) : PE X (.ListComp elt [⟨.Name x px, iter, [], 0⟩] scope pos) (tLcH X.K tl j te) := by
  refine ⟨fun pins s σ H Q I h => ?_⟩
  rw [eval_ListComp]
  obtain ⟨p, hp1, hp2⟩ := hot
  have hfree : ∀ y ∈ scope.names, y.2 = .free → ∃ c, X.env.cells.lookup y.1 = some c := fun y hy e => (ok.free y hy e).elim (fun z => I.ok.has _ (.inl z)) fun z => I.ok.has _ (.inr z)
  refine wpAny_comprehension_free (use := none) rfl hs (closure_ok hfree) ok.kind (fun y hy e => by rw [ok.uniq y hy, e]) (thn (hi.run pins s σ H _ I h) fun lv s1 ⟨y, H1, I1, ry, a, xs, f, ey, hS, hz, hev, hQ⟩ => ?_)
  subst ey
  obtain rfl : lv = Value.ref a := ry
  obtain ⟨its, rv, hl, _⟩ := I1.list hS
  refine wpAny_pyIter_list hl.isList ?_
  generalize hit : s1.heap.objs.size = it
  generalize hs2 : ({ s1 with heap := s1.heap.push { cls := .type "list_iterator", data := .fields #[.ref a, .int 0 0] } } : Shared) = s2
  have hs2h : s2.heap = s1.heap.push { cls := .type "list_iterator", data := .fields #[.ref a, .int 0 0] } := by rw [← hs2]
  have I2 : Inv X pins σ H1 s2 := by rw [← hs2]; exact I1.kept (t' := s1.toks) fun b o e => Heap.get?_push_of_some _ e
  have hn1 : H1 it = none := I1.hok.fresh (Nat.le_of_eq hit)
  have f1 : FpOk X pins H1 it := I1.fpOk (Nat.le_of_eq hit) hn1
  have hi2 : s2.heap.IsListIter it a 0 := by rw [hs2h, ← hit]; exact ⟨_, Heap.get?_push_size _ rfl, rfl, rfl⟩
  have hlt : it < s2.heap.objs.size := let ⟨_, e, _⟩ := hi2; Heap.lt_size e
  refine wpAny_newObj_type (newEnv_comp ?_) (by show 0 ≤ sizeLine; decide)
  generalize hD : s2.heap.objs.size = D
  have hDn : H1 D = none := I2.hok.fresh (Nat.le_of_eq hD)
  generalize hs3 : ({ s2 with heap := s2.heap.push { cls := .type "list", data := .seq ([] : List Value).toArray } } : Shared) = s3
  have h3 : s3.heap = s2.heap.push { cls := .type "list", data := .seq ([] : List Value).toArray } := by rw [← hs3]
  have I3 : Inv X pins σ (upd H1 D (.lst [])) s3 := by
    rw [← hs3]
    exact I2.laid (t' := s2.toks) (fun b o e => Heap.get?_push_of_some _ e) (Nat.le_of_eq hD) ⟨Nat.zero_le _, [], 0, .nil, by rw [← hD]; exact Heap.get?_push_size _ rfl⟩
  have nDi : it ≠ D := by rw [← hD]; exact Nat.ne_of_lt hlt
  have fi3 : FpOk X pins (upd H1 D (.lst [])) it := ⟨by rw [upd_ne nDi]; exact hn1, f1.2⟩
  have hlt3 : it < s3.heap.objs.size := by rw [h3, Heap.size_push]; exact Nat.lt_succ_of_lt hlt
  have f3 : ∀ b ∈ [it], FpOk X pins (upd H1 D (.lst [])) b ∧ b < s3.heap.objs.size := fun b hb => by
    rw [List.mem_singleton] at hb
    rw [hb]
    exact ⟨fi3, hlt3⟩
  have P3 := I3.pin p (List.mem_append_left _ hp2)
  have I4 := block_start I3 ok hN f3
  have pg := hg s3 (upd H1 D (.lst [])) s3.heap.objs.size (cellsFrom (s3.heap.objs.size + 1) scope.names (cloFrom X.env.cells scope.names [])) [it]
  have pe := he s3 (upd H1 D (.lst [])) s3.heap.objs.size (cellsFrom (s3.heap.objs.size + 1) scope.names (cloFrom X.env.cells scope.names [])) [it]
  show codeAny _ _ (.compStart (.ListComp elt [⟨.Name x px, iter, [], 0⟩] scope pos) 0 (.ref it) (.ref D) (compEnvC scope (cellsFrom (s3.heap.objs.size + 1) scope.names (cloFrom X.env.cells scope.names [])) s3.heap.objs.size X.env)) (compPost (model X.prog X.w) X.A X.xe none _ (.ref D) s3.heap.objs.size) { s3 with heap := pushCells (s3.heap.push { cls := .type "dict", data := .dict #[] }) scope.names }
  generalize hce : compEnvC scope (cellsFrom (s3.heap.objs.size + 1) scope.names (cloFrom X.env.cells scope.names [])) s3.heap.objs.size X.env = ce at I4 pg pe ⊢
  have cL : ce.locals = s3.heap.objs.size := by subst hce; rfl
  generalize hs4 : ({ s3 with heap := pushCells (s3.heap.push { cls := .type "dict", data := .dict #[] }) scope.names } : Shared) = s4 at I4 ⊢
  have k34 : ∀ b o, s3.heap.get? b = some o → s4.heap.get? b = some o := fun b o e => by rw [← hs4]; exact pushCells_keeps _ _ _ _ (Heap.get?_push_of_some _ e)
  have hi4 : s4.heap.IsListIter it a 0 := hi2.at fun o e => k34 _ _ (by rw [h3]; exact Heap.get?_push_of_some _ e)
  have npx : p.1 ≠ it := fun z => by
    have := fi3.2.2.2.2.2 p (List.mem_append_left _ hp2)
    exact this z
  have npl : p.1 ≠ ce.locals := by rw [cL]; exact Nat.ne_of_lt (Heap.lt_size P3.1)
  have J4 : Inv (X.blk s3 (upd H1 D (.lst [])) scope ce [it]) [p] (wipe σ [j]) (upd H1 D (.lst [])) s4 := I4.pins_of fun q hq => by
    rw [List.mem_singleton] at hq
    rw [hq]
    refine ⟨k34 _ _ P3.1, P3.2.1, npl, fun hm => ?_, P3.2.2.2.2⟩
    exact (List.mem_cons.mp (I3.stkSub _ hm)).elim P3.2.2.1 P3.2.2.2.1
  have eD : Ex H1 (upd H1 D (.lst [])) := Ex.new hDn
  generalize hH3 : upd H1 D (.lst []) = H3 at *
  have hD3 : H3 D = some (.lst []) := by rw [← hH3]; exact upd_same
  have hotB : ∀ {H' : Hp} {s' : Shared} {ps : List (Addr × Obj)}, Inv (X.blk s3 H3 scope ce [it]) (p :: ps) (wipe σ [j]) H' s' → HotX.HotAt X.A p.1 s'.heap := fun I' => by
    obtain ⟨hh, v1, d1, k1⟩ := hp1
    exact ⟨hh, p.2, v1, (I'.pin p (List.mem_append_right _ (List.mem_cons_self ..))).1, d1, k1⟩
  have loop : codeAny (model X.prog X.w) X.A (.compLoop (.ListComp elt [⟨.Name x px, iter, [], 0⟩] scope pos) 0 (.ref it) (.ref D) ce) (compPost (model X.prog X.w) X.A X.xe none (fun v s' => EP X pins σ Q v s') (.ref D) s3.heap.objs.size) s4 := by
    refine compLoop_any (fun n s' => ∃ (i : Nat) (H' : Hp), n = xs.length - i ∧ i ≤ xs.length ∧ Inv (X.blk s3 H3 scope ce [it]) [p] (wipe σ [j]) H' s' ∧ s'.heap.IsListIter it a i ∧ H' it = none ∧ Ex H1 H' ∧ H' D = some (.lst ((xs.take i).map f))) ?_ xs.length ⟨0, H3, rfl, Nat.zero_le _, J4, hi4, fi3.1, eD, hD3⟩
    rintro n s5 ⟨i, H5, rfl, hi, I5, st5, n5, e5, hD5⟩
    obtain ⟨its5, rv5, hl5, _⟩ := I5.list (ex_l e5 hS)
    have nL : it ≠ ce.locals := (I5.ok.exf it (List.mem_singleton.mpr rfl)).1
    have nC : ∀ y c, ce.cells.lookup y = some c → c ≠ it := fun y c e => (I5.ok.exf it (List.mem_singleton.mpr rfl)).2 y c e
    have nP : ∀ q ∈ ([] : List (Addr × Obj)) ++ [p], q.1 ≠ it := fun q hq => by
      rw [List.nil_append, List.mem_singleton] at hq
      rw [hq]
      exact npx
    by_cases hlt5 : i < xs.length
    · obtain ⟨v, hv⟩ : ∃ v, xs[i]? = some v := ⟨_, List.getElem?_eq_getElem hlt5⟩
      obtain ⟨u, hu, ru⟩ := rv5.get hv
      refine wpAny_pyNext_list_item st5 hl5.isList (x := u) (by simpa using hu) fun h6 st6 sb6 => ?_
      have I6 : Inv (X.blk s3 H3 scope ce [it]) [p] (wipe σ [j]) H5 { s5 with heap := h6 } := I5.turned (t' := s5.toks) (fun b o hb e => (sb6.2 b hb).trans e) n5 nL (.inl (List.mem_singleton.mpr rfl)) nC nP
      obtain ⟨oi, ei, ci, di⟩ := id st6
      have nfs : it ∉ (X.blk s3 H3 scope ce [it]).fs := I5.ok.exfs it (List.mem_singleton.mpr rfl)
      have I7 : Inv (X.blk s3 H3 scope ce [it]) [p, (it, oi)] (wipe σ [j]) H5 { s5 with heap := h6 } := I6.pins_of fun q hq => by
        rcases List.mem_cons.mp hq with rfl | hq
        · exact I6.pin q (List.mem_append_right _ (List.mem_cons_self ..))
        · rw [List.mem_singleton] at hq
          rw [hq]
          exact ⟨ei, n5, nL, nfs, fun w z => by rw [di] at z; cases z⟩
      refine go_of (s := { s5 with heap := h6 }) ei ci di (by decide) ?_
      refine thnF (pg.run _ { s5 with heap := h6 } _ H5 v u (fun σ' H' => σ' = (wipe σ [j]).set j (some v) ∧ H' = H5) I7 ru ⟨rfl, rfl⟩) fun _ s8 ⟨σ8, H8, I8, e8, eH8⟩ => ?_
      subst e8 eH8
      refine thnF ((pts_nil (X := X.blk s3 H3 scope ce [it])).run _ s8 _ H8 (fun b H' => b = true ∧ H' = H8) I8 ⟨rfl, rfl⟩) fun b s9 ⟨H9, I9, eb, eH9⟩ => ?_
      subst eb eH9
      rw [if_pos rfl]
      refine thnF (pe.run _ s9 _ H9 _ I9 (hev v (List.mem_of_getElem? hv) H9 e5 (fun r H' => r = f v ∧ Ex H9 H') fun H' e' => ⟨rfl, e'⟩)) fun z s10 ⟨yv, H10, I10, r10, ey, e10⟩ => ?_
      subst ey
      refine app_ok (X := X.blk s3 H3 scope ce [it]) I10 (e10 _ _ hD5) (sz_lt (by rw [List.length_map]; have := List.length_take_le i xs; omega)) r10 fun s11 I11 => ?_
      have P11 := I11.pin (it, oi) (List.mem_append_right _ (List.mem_cons_of_mem _ (List.mem_cons_self ..)))
      refine ⟨xs.length - (i + 1), by omega, i + 1, _, rfl, hlt5, ?_, ⟨oi, P11.1, ci, di⟩, P11.2.1, ?_, ?_⟩
      · refine (I11.pins_of (pins' := [p]) fun q hq => I11.pin q (List.mem_append_right _ (by rw [List.mem_singleton] at hq; rw [hq]; exact List.mem_cons_self ..))).weak ?_ fun k w e => ?_
        · rw [List.length_set]
        · exact wipe_set_get e
      · exact Ex.mut (e5.trans e10) hDn
      · rw [upd_same, List.take_succ, hv, List.map_append]
        rfl
    · have ex : i = xs.length := by omega
      subst ex
      have hot5 := hotB I5
      refine end_hot hot5 npx st5 hl5.isList (by simp; exact Nat.le_of_eq rv5.length.symm) fun h6 k6 => ?_
      have I6 : Inv (X.blk s3 H3 scope ce [it]) [p] (wipe σ [j]) H5 { s5 with heap := h6 } := I5.turned (t' := s5.toks) (fun b o hb e => k6 b o hb e) n5 nL (.inl (List.mem_singleton.mpr rfl)) nC nP
      have I7 : Inv X pins σ H5 { s5 with heap := h6 } := I3.call' (s' := { s5 with heap := h6 }) (ch := [it]) I6.os I6.base I6.hok I6.bare fun b hb => by
        rw [List.mem_singleton] at hb
        rw [hb]
        exact ⟨fi3.2.2.2.1, fi3.2.1, fi3.2.2.2.2.1, fi3.2.2.2.2.2⟩
      have nCl : H5 s3.heap.objs.size = none := by
        have z : H5 ce.locals = none := I6.free
        rw [cL] at z
        exact z
      obtain ⟨m, hm, _⟩ := I6.loc
      have hm : h6.Ns ce.locals m := hm
      rw [cL] at hm
      refine ⟨m, hm, fun h7 sb7 => ?_⟩
      obtain ⟨f0, f1', f2, f3', f4, f5⟩ : FpOk X pins H5 s3.heap.objs.size := I3.fpOk (Nat.le_refl _) nCl
      rw [List.take_length] at hD5
      exact ⟨.ref D, H5, I7.turned (t' := s5.toks) (fun b o hb e => (sb7.2 b hb).trans e) f0 f1' f3' f4 f5, rfl, hQ D H5 hDn e5 hD5⟩
  exact codeAny_compStart_list loop (wpAny_pyIter_listiter hi4 loop)
/-! ### a def that is asked about the exception that is handled -/
def excNames : List Str := ["NoName", "NoRank", "NoSpan", "NoDesk", "Known", "Unknown", "Full", "NotReady", "IsReady"]
def excWords : List Str := ["name", "rank", "span", "desk", "known", "unknown", "full", "awake", "ready"]
abbrev excAt (K : PySem.W.Frag) (i : Nat) : Addr := He.ga K (excNames.getD i "")
def excB (K : PySem.W.Frag) (D : Addr) : Bool := decide (PySem.W.findIn K (.ref D) "__getattribute__" = some (some (.builtin "BaseException.__getattribute__"))) && (decide (PySem.W.findIn K (.ref D) "__getattr__" = some none) && (decide (PySem.W.subIn K (.ref D) (.type "BaseException") = some true) && (PySem.W.hasDictIn K D && (decide (PySem.W.findIn K (.ref D) "__class__" = some (some (.builtin "object.__class__"))) &&
  (decide (PySem.W.specialIn K (.builtin "object.__class__") "__get__" = some (some (.builtin "getset_descriptor.__get__"))) && (decide (PySem.W.takesIn K (.builtin "object.__class__") = some true) && decide (PySem.W.mroIn K D (.type "object") = some true)))))))
theorem excB_ok {K : PySem.W.Frag} {D : Addr} (h : excB K D = true) : ExcC K D := by
  obtain ⟨h1, h⟩ := He.ba h
  obtain ⟨h2, h⟩ := He.ba h
  obtain ⟨h3, h⟩ := He.ba h
  obtain ⟨h4, h⟩ := He.ba h
  obtain ⟨h5, h⟩ := He.ba h
  obtain ⟨h6, h⟩ := He.ba h
  obtain ⟨h7, h8⟩ := He.ba h
  exact ⟨of_decide_eq_true h1, of_decide_eq_true h2, of_decide_eq_true h3, h4, of_decide_eq_true h5, of_decide_eq_true h6, of_decide_eq_true h7, of_decide_eq_true h8⟩
/-- what is asked of the classes of exceptions, beside the facts of the head -/
def excK (K : PySem.W.Frag) : Bool := (List.range 9).all fun i => excB K (excAt K i) && (decide (PySem.W.kitOne K (.ref (excAt K i)) (.type "ValueError") = some true) && decide (PySem.W.exmOne K (.ref (excAt K i)) (.ref (He.ga K "DeskError")) = some true) && (List.range 9).all fun j => decide (PySem.W.kitOne K (.ref (excAt K i)) (.ref (excAt K j)) = some (decide (j = i))) && decide (PySem.W.exmOne K (.ref (excAt K i)) (.ref (excAt K j)) = some (decide (j = i))))
structure ExcKs (K : PySem.W.Frag) : Prop where
  c : ∀ i, i < 9 → ExcC K (excAt K i)
  v : ∀ i, i < 9 → PySem.W.kitOne K (.ref (excAt K i)) (.type "ValueError") = some true
  d : ∀ i, i < 9 → PySem.W.exmOne K (.ref (excAt K i)) (.ref (He.ga K "DeskError")) = some true
  k : ∀ i j, i < 9 → j < 9 → PySem.W.kitOne K (.ref (excAt K i)) (.ref (excAt K j)) = some (decide (j = i))
  x : ∀ i j, i < 9 → j < 9 → PySem.W.exmOne K (.ref (excAt K i)) (.ref (excAt K j)) = some (decide (j = i))
theorem excK_ok {K : PySem.W.Frag} (h : excK K = true) : ExcKs K := by
  have key : ∀ i, i < 9 → ExcC K (excAt K i) ∧ PySem.W.kitOne K (.ref (excAt K i)) (.type "ValueError") = some true ∧ PySem.W.exmOne K (.ref (excAt K i)) (.ref (He.ga K "DeskError")) = some true ∧ ∀ j, j < 9 → PySem.W.kitOne K (.ref (excAt K i)) (.ref (excAt K j)) = some (decide (j = i)) ∧ PySem.W.exmOne K (.ref (excAt K i)) (.ref (excAt K j)) = some (decide (j = i)) := fun i hi => by
    obtain ⟨h1, h2⟩ := He.ba (List.all_eq_true.mp h i (List.mem_range.mpr hi))
    obtain ⟨h2, h3⟩ := He.ba h2
    obtain ⟨h2, h4⟩ := He.ba h2
    refine ⟨excB_ok h1, of_decide_eq_true h2, of_decide_eq_true h4, fun j hj => ?_⟩
    obtain ⟨h5, h6⟩ := He.ba (List.all_eq_true.mp h3 j (List.mem_range.mpr hj))
    exact ⟨of_decide_eq_true h5, of_decide_eq_true h6⟩
  exact ⟨fun i hi => (key i hi).1, fun i hi => (key i hi).2.1, fun i hi => (key i hi).2.2.1, fun i j hi hj => ((key i hi).2.2.2 j hj).1, fun i j hi hj => ((key i hi).2.2.2 j hj).2⟩
/-- the hook: the facts, and one test more -/
def hookE (n : Nat) (fa : List He.Fa) (fn : List He.DefD) (ex : PySem.W.Frag → Bool) : PySem.W.Hook where
  α := He.AlD × Bool
  obs := fun s => (He.obsDG n fa fn s.heap.get?, ex (He.frG s.heap.get? (He.asD s.heap.get? n)))
  val := fun _ => (He.valD fn, true)
  says := fun _ h => ∃ K : PySem.W.Frag, K.In h ∧ He.SaysD fa fn K ∧ ex K = true
  of := fun _ _ e => ⟨_, He.frG_in, congrArg (fun z : He.AlD × Bool => z.1) e, congrArg (fun z : He.AlD × Bool => z.2) e⟩
  keeps := fun _ _ _ ⟨K, hK, c⟩ k => ⟨K, PySem.W.Frag.In.keeps hK k, c⟩
def obsEG (n : Nat) (fa : List He.Fa) (fn : List He.DefD) (ex : PySem.W.Frag → Bool) (g : Addr → Option Obj) : He.AlD × Bool := (He.obsDG n fa fn g, ex (He.frG g (He.asD g n)))
theorem obsEG_eq {n : Nat} {fa : List He.Fa} {fn : List He.DefD} {ex : PySem.W.Frag → Bool} {g : Addr → Option Obj} {s : Shared} (h : ∀ a, g a = s.heap.get? a) : obsEG n fa fn ex g = (hookE n fa fn ex).obs s := by
  have e : g = s.heap.get? := funext h
  rw [e] <;> rfl
/-- what such a def promises: of the i-th class it tells the i-th word -/
structure FnE (P : Program) (w : World) (K : PySem.W.Frag) (mg : Str → Option Value) (base : Heap) (k : Nat) (f : Addr) (fd : FuncData) (x : Str) : Prop where
  run : ∀ (A : Around) (outer : List Env) (s : Shared) (H : Hp) (args : Args) (p : Addr × Obj) (i : Nat) (Q : VK), i < 9 → Zc (.ref (excAt K i)) none p.2 → L2H.RoomH k A → L2H.Hot1 A p → L2H.PinOk outer H s p → Env0 P w K mg base A outer s H → BindsTo s fd args [(x, .ref p.1)] → RetV (.str (excWords.getD i "")) H Q →
    codeAny (model P w) A (.call (.ref f) args) (CR CX0 outer P w H s Q E0) s
theorem FnE.of {P : Program} {w : World} {K : PySem.W.Frag} {mg : Str → Option Value} {base : Heap} {x y qual : Str} {params : Arguments} {body : List Stmt} {scope : Scope} {f : Addr} {fd : FuncData} {N : List Str} {k : Nat} (F : FunD K x qual params body scope [] [] f fd) (S : FnScope N [y] scope)
    (hb : ∀ (cdv : Value) (A : Around) (outer : List Env) (s : Shared) (H : Hp) (p : Addr × Obj) (i : Nat) (Q : VK), i < 9 → Zc (.ref (excAt K i)) none p.2 → L2H.Hot1 A p → L2H.RoomH k (A.deeper (envOfC qual scope s.heap.objs.size f cdv)) → RetV (.str (excWords.getD i "")) H Q →
      ∃ t, PSs (L2H.cxH CX0 P w K mg base N qual scope f cdv A outer s H E0 p) body t ∧ t { nx := fun _ H' => Q .non H', rt := Q } (L2.start N [.ref p.1]) H) : FnE P w K mg base (k + 1) f fd y := by
  obtain ⟨oc, od, dV, kV, doc, pm, an, cdv, ct, osl, rfl, lk, hcd, _, _⟩ := F.ex
  refine ⟨fun A outer s H args p i Q hi hz hr hot pin e0 bd hq => ?_⟩
  have KX : K.In s.heap := e0.mod.kin.keeps fun b o e => (e0.bs b o e).1
  have lim : s.heap.NoLimit := e0.mod.nolimit.keeps fun b o e => (e0.bs b o e).1
  have hk : ∀ q ∈ [(y, Value.ref p.1)], scope.names.lookup q.1 = some .local ∨ (scope.names.lookup q.1 = some .cell ∧ ((cellsFrom (s.heap.objs.size + 1) scope.names []).lookup q.1).isSome = true) := fun q hq => by
    rw [List.mem_singleton] at hq
    rw [hq]
    exact (S.par y (List.mem_singleton.mpr rfl)).imp id fun z => ⟨z, PySem.W.cellsFrom_some _ _ _ (.inl z)⟩
  refine codeAny_call_function hr.depth (KX _ _ lk) rfl S.co S.gen rfl (PySem.W.codeRec_of KX hcd) (bd _ _ _ _ ?_)
  refine wpAny_newFunctionEnv_cells S.kind hk fun env he s1 ic => ?_
  subst he
  refine ⟨lim.keeps ic.toInCall.keep, codeAny_func ?_⟩
  obtain ⟨t, ht, hd⟩ := hb cdv A outer s H p i Q hi hz hot (hr.deeper _) hq
  have I := L2H.inv_startH (CX := CX0) (E := E0) (us := [Value.ref p.1]) (vs := [V.ref p.1]) S pin e0 rfl (.cons rfl .nil) ic
  refine wpAny_mono (ht.run [] s1 _ H _ I hd) (fun fl s' hs => ?_) fun e s' hs => hs
  cases fl with
  | ret u =>
    obtain ⟨v, σ', H', J, rv, q⟩ := hs
    exact ⟨v, H', J.os, J.bare, J.base, J.hok, rv, q⟩
  | next =>
    obtain ⟨σ', H', J, q⟩ := hs
    exact ⟨.non, H', J.os, J.bare, J.base, J.hok, rfl, q⟩
  | brk => exact False.elim hs.choose_spec.choose_spec.2
  | cont => exact False.elim hs.choose_spec.choose_spec.2
/-- word(e) in an except suite -/
def tWord (K : PySem.W.Frag) (a : Addr) (cls : Value) (d : Option Addr) (j : Nat) : TE := fun σ H Q => σ[j]? = some (some (.ref a)) ∧ ∃ i, i < 9 ∧ cls = .ref (excAt K i) ∧ d = none ∧ RetV (.str (excWords.getD i "")) H Q
theorem pe_word {X : Cx} {k j : Nat} {f a : Addr} {fd : FuncData} {x y n : Str} {q q2 pos : Pos} {oe : Obj} {cls : Value} {d : Option Addr} {pn : List (Addr × Obj)} (F : FnE X.prog X.w X.K X.mg X.base k f fd y) (hr : Room k X.A) (hg : Gl X x) (hm : X.mg x = some (.ref f)) (hk : PySem.W.keepIn X.K (.ref f) = true) (hb : L2.Binds X.K fd [y] [])
    (hz : L2N.Zn cls d oe) (hf : ∃ vs, oe.data = .fields vs) (hv : PE (X.suite a ((a, oe) :: pn)) (.Name n q2) (tVar j)) (hdb : (x == ("__debug__" : Str)) = false := by decide) : PE (X.suite a ((a, oe) :: pn)) (.Call (.Name x q) [.Name n q2] [] pos) (tWord X.K a cls d j) := by
  refine ⟨fun pins s σ H Q I h => ?_⟩
  obtain ⟨hj, i, hi, rfl, rfl, hq⟩ := h
  refine wpAny_Call_Name_kw (ld_glob I hg hm ?_ hdb)
  have ha : PA (X.suite a ((a, oe) :: pn)) [.Name n q2] (tCons (tVar j) tNil) := pa_cons hv pa_nil
  refine PySem.W.callWith_K (h₀ := X.base) I.ok.mod.kin hk (thn (ha.run pos pins s σ H (fun vs H1 => vs = [V.ref a] ∧ H1 = H) I ⟨_, hj, rfl, rfl⟩) fun us s1 ⟨vs, H1, I1, r, ev, eH⟩ => ⟨I1.kIn, ?_⟩)
  subst ev eH
  obtain ⟨u, rfl, ru⟩ := vals1 r
  obtain rfl : u = Value.ref a := ru
  obtain ⟨vs, hv⟩ := hf
  have P1 := I1.pin (a, oe) (List.mem_append_left _ (List.mem_cons_self ..))
  have b := hb s1 [Value.ref a] I1.kIn rfl
  refine wpAny_call (codeAny_mono (F.run (X.A.mark (some (.ref a))) X.stack s1 H1 ⟨[Value.ref a], []⟩ (a, oe) i Q hi hz.zc ⟨hr.dp, hr.un⟩ ⟨rfl, vs, hv, hz.2.2 vs hv⟩ ⟨P1.1, P1.2.1, fun hm => (List.mem_cons.mp (I1.stkSub a hm)).elim P1.2.2.1 P1.2.2.2.1, P1.2.2.2.2⟩ I1.env0 b hq) fun r s' hs => ?_)
  cases r with
  | error e => exact False.elim hs
  | ok fl =>
    cases fl with
    | ret u => exact I1.after hs
    | next => exact False.elim hs
    | brk => exact False.elim hs
    | cont => exact False.elim hs
/-! names of classes, their words -/
def exIx (e : Str) : Nat := excNames.idxOf e
def wordOf (e : Str) : Str := excWords.getD (exIx e) ""
theorem exIx_ok {e : Str} (h : e ∈ excNames) : exIx e < 9 ∧ excNames.getD (exIx e) "" = e := by
  have key : ∀ x ∈ excNames, exIx x < 9 ∧ excNames.getD (exIx x) "" = x := by decide +kernel
  exact key e h
def wordO : Option Str → Str
  | none => ""
  | some e => wordOf e
theorem ks_d {K : PySem.W.Frag} (KS : ExcKs K) {e : Str} (h : e ∈ excNames) : PySem.W.exmOne K (.ref (He.ga K e)) (.ref (He.ga K "DeskError")) = some true := by
  have q := exIx_ok h
  have := KS.d _ q.1
  unfold excAt at this
  rw [q.2] at this
  exact this
theorem ks_x {K : PySem.W.Frag} (KS : ExcKs K) {e f : Str} (h : e ∈ excNames) (h2 : f ∈ excNames) : PySem.W.exmOne K (.ref (He.ga K e)) (.ref (He.ga K f)) = some (decide (f = e)) := by
  have q := exIx_ok h
  have q2 := exIx_ok h2
  have := KS.x _ _ q.1 q2.1
  unfold excAt at this
  rw [q.2, q2.2] at this
  rw [this]
  refine congrArg some (decide_eq_decide.mpr ⟨fun z => ?_, fun z => by rw [z]⟩)
  rw [← q.2, ← q2.2, z]
theorem ev_word {K : PySem.W.Frag} {σ : L2.St} {H : Hp} {a : Addr} {j : Nat} {e : Str} (hj : σ[j]? = some (some (.ref a))) (h : e ∈ excNames) : Ev (tWord K a (.ref (He.ga K e)) none j) σ H (.str (wordOf e)) := fun H1 _ Q q => by
  have z := exIx_ok h
  exact ⟨hj, exIx e, z.1, by unfold excAt; rw [z.2], rfl, fun H2 e2 => q H2 e2⟩
/-! a def that may raise: the context of what it raises is None -/
theorem okXN {P : Program} {w : World} {K : PySem.W.Frag} {mg : Str → Option Value} {base : Heap} {x qual : Str} {params : Arguments} {body : List Stmt} {scope : Scope} {f : Addr} {fd : FuncData} {N ps : List Str} {k : Nat} {sp : Sp} (F : FunD K x qual params body scope [] [] f fd) (S : FnScope N ps scope) (len : ∀ vs H Q E, sp vs H Q E → vs.length = ps.length)
    (hb : ∀ (cdv : Value) (A : Around) (outer : List Env) (s : Shared) (H : Hp) (vs : List V) (Q : VK) (E : XK), Room k (A.deeper (envOfC qual scope s.heap.objs.size f cdv)) → sp vs H Q E →
      ∃ t, PSs (cxOf (L2N.CX P w) P w K mg base N qual scope f cdv A outer s H E) body t ∧ t { nx := fun _ H' => Q .non H', rt := Q } (start N vs) H) : FnOk P w K mg base (L2N.CX P w) (k + 1) f fd ps sp := F.ok S len hb
theorem passLN {X : Cx} : Passes (L2N.CX X.prog X.w) X E0 := fun _ _ _ _ _ _ _ h => by
  obtain ⟨_, _, _, _, _, _, _, _, _, _, _, _, z⟩ := h
  exact z.elim
theorem takes0N {X : Cx} : L2N.Takes X (fun _ _ _ _ => False) := fun _ _ x => by
  obtain ⟨_, _, _, _, _, _, _, _, _, _, _, _, _, _, _, _, z⟩ := x
  exact z.elim

def top (i : Nat) : Stmt := PySem.Challenge.pw_rrdesk_k04_entering.main.body.getD i (.Pass ⟨0, 0, 0, 0⟩)
abbrev s_caller_init : Stmt := inClass (top 2) 0
abbrev s_is_name : Stmt := top 17
abbrev s_limit : Stmt := top 21
abbrev s_desk_init : Stmt := inClass (top 26) 0
abbrev s_desk_one : Stmt := inClass (top 26) 1
abbrev s_desk_become : Stmt := inClass (top 26) 2
abbrev s_desk_enter : Stmt := inClass (top 26) 4
abbrev s_desk_leave : Stmt := inClass (top 26) 5
abbrev s_desk_sleep : Stmt := inClass (top 26) 6
abbrev s_desk_wait : Stmt := inClass (top 26) 7
abbrev s_desk_wake : Stmt := inClass (top 26) 8
abbrev s_desk_rerank : Stmt := inClass (top 26) 10
abbrev s_desk_need_ready : Stmt := inClass (top 26) 11
abbrev s_desk_names : Stmt := inClass (top 26) 16
abbrev s_desk_state : Stmt := inClass (top 26) 19
abbrev s_desk_rank : Stmt := inClass (top 26) 20
abbrev s_desk_waited : Stmt := inClass (top 26) 21
abbrev s_desk_within : Stmt := inClass (top 26) 22
abbrev s_desk_left : Stmt := inClass (top 26) 23
abbrev s_desk_bell : Stmt := inClass (top 26) 24
abbrev s_L_whole : Stmt := top 28
abbrev s_L_cell_at : Stmt := top 29
abbrev s_L_mix : Stmt := top 30
abbrev s_L_name_by : Stmt := top 31
abbrev s_L_texts : Stmt := top 32
abbrev s_L_word : Stmt := top 33
abbrev s_L_no_desk : Stmt := top 34
abbrev s_L_enters : Stmt := top 35
abbrev s_L_unknown : Stmt := top 36
abbrev s_L_due : Stmt := top 37
abbrev s_L_stands : Stmt := top 38
abbrev s_L_step : Stmt := top 39
abbrev s_law : Stmt := top 40
def dd_caller_init : He.DefD := ⟨("Caller", some "__init__"), "__init__", "Caller.__init__", defArgs s_caller_init, defBody s_caller_init, defScope s_caller_init, [], []⟩
def dd_is_name : He.DefD := ⟨("is_name", none), "is_name", "is_name", defArgs s_is_name, defBody s_is_name, defScope s_is_name, [], []⟩
def dd_limit : He.DefD := ⟨("limit", none), "limit", "limit", defArgs s_limit, defBody s_limit, defScope s_limit, [], []⟩
def dd_desk_init : He.DefD := ⟨("Desk", some "__init__"), "__init__", "Desk.__init__", defArgs s_desk_init, defBody s_desk_init, defScope s_desk_init, [], []⟩
def dd_desk_one : He.DefD := ⟨("Desk", some "one"), "one", "Desk.one", defArgs s_desk_one, defBody s_desk_one, defScope s_desk_one, [], []⟩
def dd_desk_become : He.DefD := ⟨("Desk", some "become"), "become", "Desk.become", defArgs s_desk_become, defBody s_desk_become, defScope s_desk_become, [], []⟩
def dd_desk_enter : He.DefD := ⟨("Desk", some "enter"), "enter", "Desk.enter", defArgs s_desk_enter, defBody s_desk_enter, defScope s_desk_enter, [], []⟩
def dd_desk_leave : He.DefD := ⟨("Desk", some "leave"), "leave", "Desk.leave", defArgs s_desk_leave, defBody s_desk_leave, defScope s_desk_leave, [], []⟩
def dd_desk_sleep : He.DefD := ⟨("Desk", some "sleep"), "sleep", "Desk.sleep", defArgs s_desk_sleep, defBody s_desk_sleep, defScope s_desk_sleep, [], []⟩
def dd_desk_wait : He.DefD := ⟨("Desk", some "wait"), "wait", "Desk.wait", defArgs s_desk_wait, defBody s_desk_wait, defScope s_desk_wait, [], []⟩
def dd_desk_wake : He.DefD := ⟨("Desk", some "wake"), "wake", "Desk.wake", defArgs s_desk_wake, defBody s_desk_wake, defScope s_desk_wake, [], []⟩
def dd_desk_rerank : He.DefD := ⟨("Desk", some "rerank"), "rerank", "Desk.rerank", defArgs s_desk_rerank, defBody s_desk_rerank, defScope s_desk_rerank, [], []⟩
def dd_desk_need_ready : He.DefD := ⟨("Desk", some "need_ready"), "need_ready", "Desk.need_ready", defArgs s_desk_need_ready, defBody s_desk_need_ready, defScope s_desk_need_ready, [], []⟩
def dd_desk_names : He.DefD := ⟨("Desk", some "names"), "names", "Desk.names", defArgs s_desk_names, defBody s_desk_names, defScope s_desk_names, [], []⟩
def dd_desk_state : He.DefD := ⟨("Desk", some "state"), "state", "Desk.state", defArgs s_desk_state, defBody s_desk_state, defScope s_desk_state, [], []⟩
def dd_desk_rank : He.DefD := ⟨("Desk", some "rank"), "rank", "Desk.rank", defArgs s_desk_rank, defBody s_desk_rank, defScope s_desk_rank, [], []⟩
def dd_desk_waited : He.DefD := ⟨("Desk", some "waited"), "waited", "Desk.waited", defArgs s_desk_waited, defBody s_desk_waited, defScope s_desk_waited, [], []⟩
def dd_desk_within : He.DefD := ⟨("Desk", some "within"), "within", "Desk.within", defArgs s_desk_within, defBody s_desk_within, defScope s_desk_within, [], []⟩
def dd_desk_left : He.DefD := ⟨("Desk", some "left"), "left", "Desk.left", defArgs s_desk_left, defBody s_desk_left, defScope s_desk_left, [], []⟩
def dd_desk_bell : He.DefD := ⟨("Desk", some "bell"), "bell", "Desk.bell", defArgs s_desk_bell, defBody s_desk_bell, defScope s_desk_bell, [], []⟩
def dd_L_whole : He.DefD := ⟨("_law_whole", none), "_law_whole", "_law_whole", defArgs s_L_whole, defBody s_L_whole, defScope s_L_whole, [], []⟩
def dd_L_cell_at : He.DefD := ⟨("_law_cell_at", none), "_law_cell_at", "_law_cell_at", defArgs s_L_cell_at, defBody s_L_cell_at, defScope s_L_cell_at, [], []⟩
def dd_L_mix : He.DefD := ⟨("_law_mix", none), "_law_mix", "_law_mix", defArgs s_L_mix, defBody s_L_mix, defScope s_L_mix, [], []⟩
def dd_L_name_by : He.DefD := ⟨("_law_name_by", none), "_law_name_by", "_law_name_by", defArgs s_L_name_by, defBody s_L_name_by, defScope s_L_name_by, [], []⟩
def dd_L_texts : He.DefD := ⟨("_law_texts", none), "_law_texts", "_law_texts", defArgs s_L_texts, defBody s_L_texts, defScope s_L_texts, [], []⟩
def dd_L_word : He.DefD := ⟨("_law_word", none), "_law_word", "_law_word", defArgs s_L_word, defBody s_L_word, defScope s_L_word, [], []⟩
def dd_L_no_desk : He.DefD := ⟨("_law_no_desk", none), "_law_no_desk", "_law_no_desk", defArgs s_L_no_desk, defBody s_L_no_desk, defScope s_L_no_desk, [], []⟩
def dd_L_enters : He.DefD := ⟨("_law_enters", none), "_law_enters", "_law_enters", defArgs s_L_enters, defBody s_L_enters, defScope s_L_enters, [], []⟩
def dd_L_unknown : He.DefD := ⟨("_law_unknown", none), "_law_unknown", "_law_unknown", defArgs s_L_unknown, defBody s_L_unknown, defScope s_L_unknown, [], []⟩
def dd_L_due : He.DefD := ⟨("_law_due", none), "_law_due", "_law_due", defArgs s_L_due, defBody s_L_due, defScope s_L_due, [], []⟩
def dd_L_stands : He.DefD := ⟨("_law_stands", none), "_law_stands", "_law_stands", defArgs s_L_stands, defBody s_L_stands, defScope s_L_stands, [], []⟩
def dd_L_step : He.DefD := ⟨("_law_step", none), "_law_step", "_law_step", defArgs s_L_step, defBody s_L_step, defScope s_L_step, [], []⟩
def dd_law : He.DefD := ⟨("law", none), "law", "law", defArgs s_law, defBody s_law, defScope s_law, [], []⟩
def fn : List He.DefD := [dd_caller_init, dd_is_name, dd_limit, dd_desk_init, dd_desk_one, dd_desk_become, dd_desk_enter, dd_desk_leave, dd_desk_sleep, dd_desk_wait, dd_desk_wake, dd_desk_rerank, dd_desk_need_ready, dd_desk_names, dd_desk_state, dd_desk_rank, dd_desk_waited, dd_desk_within, dd_desk_left, dd_desk_bell, dd_L_whole, dd_L_cell_at, dd_L_mix, dd_L_name_by, dd_L_texts, dd_L_word, dd_L_no_desk, dd_L_enters, dd_L_unknown, dd_L_due, dd_L_stands, dd_L_step, dd_law]
def fa0 : List He.Fa := [.glo "is_name", .glo "limit", .meth "Desk" "one", .meth "Desk" "become", .meth "Desk" "enter", .meth "Desk" "leave", .meth "Desk" "sleep", .meth "Desk" "wait", .meth "Desk" "wake", .meth "Desk" "rerank", .meth "Desk" "need_ready", .meth "Desk" "names", .meth "Desk" "state", .meth "Desk" "rank", .meth "Desk" "waited", .meth "Desk" "within", .meth "Desk" "left", .meth "Desk" "bell", .glo "_law_whole", .glo "_law_cell_at", .glo "_law_mix", .glo "_law_name_by", .glo "_law_texts", .glo "_law_word", .glo "_law_no_desk", .glo "_law_enters", .glo "_law_unknown", .glo "_law_due", .glo "_law_stands", .glo "_law_step"]
def fa1 : List He.Fa := [.glo "law", .glo "Caller", .cls "Caller", .mkr "Caller", .noat "Caller" "label", .noat "Caller" "grade", .noat "Caller" "stand", .noat "Caller" "mark", .glo "Desk", .cls "Desk", .mkr "Desk", .noat "Desk" "pace", .noat "Desk" "room", .noat "Desk" "now", .noat "Desk" "line", .glo "DeskError", .exc "DeskError", .glo "NoName", .exc "NoName", .glo "NoRank", .exc "NoRank", .glo "NoSpan", .exc "NoSpan", .glo "NoDesk", .exc "NoDesk", .glo "Known", .exc "Known", .glo "Unknown", .exc "Unknown", .glo "Full"]
def fa2 : List He.Fa := [.exc "Full", .glo "NotReady", .exc "NotReady", .glo "IsReady", .exc "IsReady", .exm "Full" "DeskError" true, .exm "IsReady" "DeskError" true, .exm "Known" "DeskError" true, .exm "NoDesk" "DeskError" true, .exm "NoName" "DeskError" true, .exm "NoRank" "DeskError" true, .exm "NoSpan" "DeskError" true, .exm "NotReady" "DeskError" true, .exm "Unknown" "DeskError" true, .exm "Full" "Unknown" false, .exm "IsReady" "Unknown" false, .exm "Known" "Unknown" false, .exm "NoDesk" "Unknown" false, .exm "NoName" "Unknown" false, .exm "NoRank" "Unknown" false, .exm "NoSpan" "Unknown" false, .exm "NotReady" "Unknown" false, .exm "Unknown" "Unknown" true, .str "SIGNS" "abcdefghijklmnopqrstuvwxyz0123456789", .int "MOST" 12, .int "TOP" 99, .int "MOST_PACE" 1000, .int "MOST_ROOM" 60, .int "MOST_TURNS" 1000, .free "len"]
def fa3 : List He.Fa := [.free "range", .free "str", .free "int", .free "isinstance", .free "sum", .free "list", .free "bool", .free "ValueError"]
def fa : List He.Fa := fa0 ++ fa1 ++ fa2 ++ fa3
structure Txt (K : PySem.W.Frag) (mg : Str → Option Value) : Prop where
  says : He.SaysD fa fn K
  inn : ∃ h : Heap, K.In h ∧ h.Ns mainGlobals mg
  ex : excK K = true
section
variable {K : PySem.W.Frag} {mg : Str → Option Value} (T : Txt K mg)
include T
theorem g_is_name : mg "is_name" = some (.ref (He.ga K "is_name")) := (let ⟨_, X, G⟩ := T.inn; He.glo_ok X G (T.says.fact 0 (f := .glo "is_name") rfl))
theorem g_limit : mg "limit" = some (.ref (He.ga K "limit")) := (let ⟨_, X, G⟩ := T.inn; He.glo_ok X G (T.says.fact 1 (f := .glo "limit") rfl))
theorem m_desk_one : Meth K (He.ga K "Desk") "one" (He.ma K (He.ga K "Desk") "one") := He.meth_ok (T.says.fact 2 (f := .meth "Desk" "one") rfl)
theorem m_desk_become : Meth K (He.ga K "Desk") "become" (He.ma K (He.ga K "Desk") "become") := He.meth_ok (T.says.fact 3 (f := .meth "Desk" "become") rfl)
theorem m_desk_enter : Meth K (He.ga K "Desk") "enter" (He.ma K (He.ga K "Desk") "enter") := He.meth_ok (T.says.fact 4 (f := .meth "Desk" "enter") rfl)
theorem m_desk_leave : Meth K (He.ga K "Desk") "leave" (He.ma K (He.ga K "Desk") "leave") := He.meth_ok (T.says.fact 5 (f := .meth "Desk" "leave") rfl)
theorem m_desk_sleep : Meth K (He.ga K "Desk") "sleep" (He.ma K (He.ga K "Desk") "sleep") := He.meth_ok (T.says.fact 6 (f := .meth "Desk" "sleep") rfl)
theorem m_desk_wait : Meth K (He.ga K "Desk") "wait" (He.ma K (He.ga K "Desk") "wait") := He.meth_ok (T.says.fact 7 (f := .meth "Desk" "wait") rfl)
theorem m_desk_wake : Meth K (He.ga K "Desk") "wake" (He.ma K (He.ga K "Desk") "wake") := He.meth_ok (T.says.fact 8 (f := .meth "Desk" "wake") rfl)
theorem m_desk_rerank : Meth K (He.ga K "Desk") "rerank" (He.ma K (He.ga K "Desk") "rerank") := He.meth_ok (T.says.fact 9 (f := .meth "Desk" "rerank") rfl)
theorem m_desk_need_ready : Meth K (He.ga K "Desk") "need_ready" (He.ma K (He.ga K "Desk") "need_ready") := He.meth_ok (T.says.fact 10 (f := .meth "Desk" "need_ready") rfl)
theorem m_desk_names : Meth K (He.ga K "Desk") "names" (He.ma K (He.ga K "Desk") "names") := He.meth_ok (T.says.fact 11 (f := .meth "Desk" "names") rfl)
theorem m_desk_state : Meth K (He.ga K "Desk") "state" (He.ma K (He.ga K "Desk") "state") := He.meth_ok (T.says.fact 12 (f := .meth "Desk" "state") rfl)
theorem m_desk_rank : Meth K (He.ga K "Desk") "rank" (He.ma K (He.ga K "Desk") "rank") := He.meth_ok (T.says.fact 13 (f := .meth "Desk" "rank") rfl)
theorem m_desk_waited : Meth K (He.ga K "Desk") "waited" (He.ma K (He.ga K "Desk") "waited") := He.meth_ok (T.says.fact 14 (f := .meth "Desk" "waited") rfl)
theorem m_desk_within : Meth K (He.ga K "Desk") "within" (He.ma K (He.ga K "Desk") "within") := He.meth_ok (T.says.fact 15 (f := .meth "Desk" "within") rfl)
theorem m_desk_left : Meth K (He.ga K "Desk") "left" (He.ma K (He.ga K "Desk") "left") := He.meth_ok (T.says.fact 16 (f := .meth "Desk" "left") rfl)
theorem m_desk_bell : Meth K (He.ga K "Desk") "bell" (He.ma K (He.ga K "Desk") "bell") := He.meth_ok (T.says.fact 17 (f := .meth "Desk" "bell") rfl)
theorem g_L_whole : mg "_law_whole" = some (.ref (He.ga K "_law_whole")) := (let ⟨_, X, G⟩ := T.inn; He.glo_ok X G (T.says.fact 18 (f := .glo "_law_whole") rfl))
theorem g_L_cell_at : mg "_law_cell_at" = some (.ref (He.ga K "_law_cell_at")) := (let ⟨_, X, G⟩ := T.inn; He.glo_ok X G (T.says.fact 19 (f := .glo "_law_cell_at") rfl))
theorem g_L_mix : mg "_law_mix" = some (.ref (He.ga K "_law_mix")) := (let ⟨_, X, G⟩ := T.inn; He.glo_ok X G (T.says.fact 20 (f := .glo "_law_mix") rfl))
theorem g_L_name_by : mg "_law_name_by" = some (.ref (He.ga K "_law_name_by")) := (let ⟨_, X, G⟩ := T.inn; He.glo_ok X G (T.says.fact 21 (f := .glo "_law_name_by") rfl))
theorem g_L_texts : mg "_law_texts" = some (.ref (He.ga K "_law_texts")) := (let ⟨_, X, G⟩ := T.inn; He.glo_ok X G (T.says.fact 22 (f := .glo "_law_texts") rfl))
theorem g_L_word : mg "_law_word" = some (.ref (He.ga K "_law_word")) := (let ⟨_, X, G⟩ := T.inn; He.glo_ok X G (T.says.fact 23 (f := .glo "_law_word") rfl))
theorem g_L_no_desk : mg "_law_no_desk" = some (.ref (He.ga K "_law_no_desk")) := (let ⟨_, X, G⟩ := T.inn; He.glo_ok X G (T.says.fact 24 (f := .glo "_law_no_desk") rfl))
theorem g_L_enters : mg "_law_enters" = some (.ref (He.ga K "_law_enters")) := (let ⟨_, X, G⟩ := T.inn; He.glo_ok X G (T.says.fact 25 (f := .glo "_law_enters") rfl))
theorem g_L_unknown : mg "_law_unknown" = some (.ref (He.ga K "_law_unknown")) := (let ⟨_, X, G⟩ := T.inn; He.glo_ok X G (T.says.fact 26 (f := .glo "_law_unknown") rfl))
theorem g_L_due : mg "_law_due" = some (.ref (He.ga K "_law_due")) := (let ⟨_, X, G⟩ := T.inn; He.glo_ok X G (T.says.fact 27 (f := .glo "_law_due") rfl))
theorem g_L_stands : mg "_law_stands" = some (.ref (He.ga K "_law_stands")) := (let ⟨_, X, G⟩ := T.inn; He.glo_ok X G (T.says.fact 28 (f := .glo "_law_stands") rfl))
theorem g_L_step : mg "_law_step" = some (.ref (He.ga K "_law_step")) := (let ⟨_, X, G⟩ := T.inn; He.glo_ok X G (T.says.fact 29 (f := .glo "_law_step") rfl))
theorem g_law : mg "law" = some (.ref (He.ga K "law")) := (let ⟨_, X, G⟩ := T.inn; He.glo_ok X G (T.says.fact 30 (f := .glo "law") rfl))
theorem g_Caller : mg "Caller" = some (.ref (He.ga K "Caller")) := (let ⟨_, X, G⟩ := T.inn; He.glo_ok X G (T.says.fact 31 (f := .glo "Caller") rfl))
theorem c_Caller : Cls K (He.ga K "Caller") := He.cls_ok (T.says.fact 32 (f := .cls "Caller") rfl)
theorem mk_Caller : Mk K (He.ga K "Caller") (He.ma K (He.ga K "Caller") "__init__") := He.mkr_ok (T.says.fact 33 (f := .mkr "Caller") rfl)
theorem n_Caller_label : NoAttr K (He.ga K "Caller") "label" := He.noat_ok (T.says.fact 34 (f := .noat "Caller" "label") rfl)
theorem n_Caller_grade : NoAttr K (He.ga K "Caller") "grade" := He.noat_ok (T.says.fact 35 (f := .noat "Caller" "grade") rfl)
theorem n_Caller_stand : NoAttr K (He.ga K "Caller") "stand" := He.noat_ok (T.says.fact 36 (f := .noat "Caller" "stand") rfl)
theorem n_Caller_mark : NoAttr K (He.ga K "Caller") "mark" := He.noat_ok (T.says.fact 37 (f := .noat "Caller" "mark") rfl)
theorem g_Desk : mg "Desk" = some (.ref (He.ga K "Desk")) := (let ⟨_, X, G⟩ := T.inn; He.glo_ok X G (T.says.fact 38 (f := .glo "Desk") rfl))
theorem c_Desk : Cls K (He.ga K "Desk") := He.cls_ok (T.says.fact 39 (f := .cls "Desk") rfl)
theorem mk_Desk : Mk K (He.ga K "Desk") (He.ma K (He.ga K "Desk") "__init__") := He.mkr_ok (T.says.fact 40 (f := .mkr "Desk") rfl)
theorem n_Desk_pace : NoAttr K (He.ga K "Desk") "pace" := He.noat_ok (T.says.fact 41 (f := .noat "Desk" "pace") rfl)
theorem n_Desk_room : NoAttr K (He.ga K "Desk") "room" := He.noat_ok (T.says.fact 42 (f := .noat "Desk" "room") rfl)
theorem n_Desk_now : NoAttr K (He.ga K "Desk") "now" := He.noat_ok (T.says.fact 43 (f := .noat "Desk" "now") rfl)
theorem n_Desk_line : NoAttr K (He.ga K "Desk") "line" := He.noat_ok (T.says.fact 44 (f := .noat "Desk" "line") rfl)
theorem g_DeskError : mg "DeskError" = some (.ref (He.ga K "DeskError")) := (let ⟨_, X, G⟩ := T.inn; He.glo_ok X G (T.says.fact 45 (f := .glo "DeskError") rfl))
theorem x_DeskError : PySem.W.excIn K (He.ga K "DeskError") He.veBase "ValueError.__new__" = true ∧ PySem.W.keepIn K (.ref (He.ga K "DeskError")) = true ∧ PySem.W.subIn K (.ref (He.ga K "DeskError")) (.type "BaseException") = some true ∧ PySem.W.typeIn K (.ref (He.ga K "DeskError")) = some (.type "type") := He.exc_ok (T.says.fact 46 (f := .exc "DeskError") rfl)
theorem g_NoName : mg "NoName" = some (.ref (He.ga K "NoName")) := (let ⟨_, X, G⟩ := T.inn; He.glo_ok X G (T.says.fact 47 (f := .glo "NoName") rfl))
theorem x_NoName : PySem.W.excIn K (He.ga K "NoName") He.veBase "ValueError.__new__" = true ∧ PySem.W.keepIn K (.ref (He.ga K "NoName")) = true ∧ PySem.W.subIn K (.ref (He.ga K "NoName")) (.type "BaseException") = some true ∧ PySem.W.typeIn K (.ref (He.ga K "NoName")) = some (.type "type") := He.exc_ok (T.says.fact 48 (f := .exc "NoName") rfl)
theorem g_NoRank : mg "NoRank" = some (.ref (He.ga K "NoRank")) := (let ⟨_, X, G⟩ := T.inn; He.glo_ok X G (T.says.fact 49 (f := .glo "NoRank") rfl))
theorem x_NoRank : PySem.W.excIn K (He.ga K "NoRank") He.veBase "ValueError.__new__" = true ∧ PySem.W.keepIn K (.ref (He.ga K "NoRank")) = true ∧ PySem.W.subIn K (.ref (He.ga K "NoRank")) (.type "BaseException") = some true ∧ PySem.W.typeIn K (.ref (He.ga K "NoRank")) = some (.type "type") := He.exc_ok (T.says.fact 50 (f := .exc "NoRank") rfl)
theorem g_NoSpan : mg "NoSpan" = some (.ref (He.ga K "NoSpan")) := (let ⟨_, X, G⟩ := T.inn; He.glo_ok X G (T.says.fact 51 (f := .glo "NoSpan") rfl))
theorem x_NoSpan : PySem.W.excIn K (He.ga K "NoSpan") He.veBase "ValueError.__new__" = true ∧ PySem.W.keepIn K (.ref (He.ga K "NoSpan")) = true ∧ PySem.W.subIn K (.ref (He.ga K "NoSpan")) (.type "BaseException") = some true ∧ PySem.W.typeIn K (.ref (He.ga K "NoSpan")) = some (.type "type") := He.exc_ok (T.says.fact 52 (f := .exc "NoSpan") rfl)
theorem g_NoDesk : mg "NoDesk" = some (.ref (He.ga K "NoDesk")) := (let ⟨_, X, G⟩ := T.inn; He.glo_ok X G (T.says.fact 53 (f := .glo "NoDesk") rfl))
theorem x_NoDesk : PySem.W.excIn K (He.ga K "NoDesk") He.veBase "ValueError.__new__" = true ∧ PySem.W.keepIn K (.ref (He.ga K "NoDesk")) = true ∧ PySem.W.subIn K (.ref (He.ga K "NoDesk")) (.type "BaseException") = some true ∧ PySem.W.typeIn K (.ref (He.ga K "NoDesk")) = some (.type "type") := He.exc_ok (T.says.fact 54 (f := .exc "NoDesk") rfl)
theorem g_Known : mg "Known" = some (.ref (He.ga K "Known")) := (let ⟨_, X, G⟩ := T.inn; He.glo_ok X G (T.says.fact 55 (f := .glo "Known") rfl))
theorem x_Known : PySem.W.excIn K (He.ga K "Known") He.veBase "ValueError.__new__" = true ∧ PySem.W.keepIn K (.ref (He.ga K "Known")) = true ∧ PySem.W.subIn K (.ref (He.ga K "Known")) (.type "BaseException") = some true ∧ PySem.W.typeIn K (.ref (He.ga K "Known")) = some (.type "type") := He.exc_ok (T.says.fact 56 (f := .exc "Known") rfl)
theorem g_Unknown : mg "Unknown" = some (.ref (He.ga K "Unknown")) := (let ⟨_, X, G⟩ := T.inn; He.glo_ok X G (T.says.fact 57 (f := .glo "Unknown") rfl))
theorem x_Unknown : PySem.W.excIn K (He.ga K "Unknown") He.veBase "ValueError.__new__" = true ∧ PySem.W.keepIn K (.ref (He.ga K "Unknown")) = true ∧ PySem.W.subIn K (.ref (He.ga K "Unknown")) (.type "BaseException") = some true ∧ PySem.W.typeIn K (.ref (He.ga K "Unknown")) = some (.type "type") := He.exc_ok (T.says.fact 58 (f := .exc "Unknown") rfl)
theorem g_Full : mg "Full" = some (.ref (He.ga K "Full")) := (let ⟨_, X, G⟩ := T.inn; He.glo_ok X G (T.says.fact 59 (f := .glo "Full") rfl))
theorem x_Full : PySem.W.excIn K (He.ga K "Full") He.veBase "ValueError.__new__" = true ∧ PySem.W.keepIn K (.ref (He.ga K "Full")) = true ∧ PySem.W.subIn K (.ref (He.ga K "Full")) (.type "BaseException") = some true ∧ PySem.W.typeIn K (.ref (He.ga K "Full")) = some (.type "type") := He.exc_ok (T.says.fact 60 (f := .exc "Full") rfl)
theorem g_NotReady : mg "NotReady" = some (.ref (He.ga K "NotReady")) := (let ⟨_, X, G⟩ := T.inn; He.glo_ok X G (T.says.fact 61 (f := .glo "NotReady") rfl))
theorem x_NotReady : PySem.W.excIn K (He.ga K "NotReady") He.veBase "ValueError.__new__" = true ∧ PySem.W.keepIn K (.ref (He.ga K "NotReady")) = true ∧ PySem.W.subIn K (.ref (He.ga K "NotReady")) (.type "BaseException") = some true ∧ PySem.W.typeIn K (.ref (He.ga K "NotReady")) = some (.type "type") := He.exc_ok (T.says.fact 62 (f := .exc "NotReady") rfl)
theorem g_IsReady : mg "IsReady" = some (.ref (He.ga K "IsReady")) := (let ⟨_, X, G⟩ := T.inn; He.glo_ok X G (T.says.fact 63 (f := .glo "IsReady") rfl))
theorem x_IsReady : PySem.W.excIn K (He.ga K "IsReady") He.veBase "ValueError.__new__" = true ∧ PySem.W.keepIn K (.ref (He.ga K "IsReady")) = true ∧ PySem.W.subIn K (.ref (He.ga K "IsReady")) (.type "BaseException") = some true ∧ PySem.W.typeIn K (.ref (He.ga K "IsReady")) = some (.type "type") := He.exc_ok (T.says.fact 64 (f := .exc "IsReady") rfl)
theorem e_Full_DeskError : PySem.W.exmOne K (.ref (He.ga K "Full")) (.ref (He.ga K "DeskError")) = some true := He.exm_ok (T.says.fact 65 (f := .exm "Full" "DeskError" true) rfl)
theorem e_IsReady_DeskError : PySem.W.exmOne K (.ref (He.ga K "IsReady")) (.ref (He.ga K "DeskError")) = some true := He.exm_ok (T.says.fact 66 (f := .exm "IsReady" "DeskError" true) rfl)
theorem e_Known_DeskError : PySem.W.exmOne K (.ref (He.ga K "Known")) (.ref (He.ga K "DeskError")) = some true := He.exm_ok (T.says.fact 67 (f := .exm "Known" "DeskError" true) rfl)
theorem e_NoDesk_DeskError : PySem.W.exmOne K (.ref (He.ga K "NoDesk")) (.ref (He.ga K "DeskError")) = some true := He.exm_ok (T.says.fact 68 (f := .exm "NoDesk" "DeskError" true) rfl)
theorem e_NoName_DeskError : PySem.W.exmOne K (.ref (He.ga K "NoName")) (.ref (He.ga K "DeskError")) = some true := He.exm_ok (T.says.fact 69 (f := .exm "NoName" "DeskError" true) rfl)
theorem e_NoRank_DeskError : PySem.W.exmOne K (.ref (He.ga K "NoRank")) (.ref (He.ga K "DeskError")) = some true := He.exm_ok (T.says.fact 70 (f := .exm "NoRank" "DeskError" true) rfl)
theorem e_NoSpan_DeskError : PySem.W.exmOne K (.ref (He.ga K "NoSpan")) (.ref (He.ga K "DeskError")) = some true := He.exm_ok (T.says.fact 71 (f := .exm "NoSpan" "DeskError" true) rfl)
theorem e_NotReady_DeskError : PySem.W.exmOne K (.ref (He.ga K "NotReady")) (.ref (He.ga K "DeskError")) = some true := He.exm_ok (T.says.fact 72 (f := .exm "NotReady" "DeskError" true) rfl)
theorem e_Unknown_DeskError : PySem.W.exmOne K (.ref (He.ga K "Unknown")) (.ref (He.ga K "DeskError")) = some true := He.exm_ok (T.says.fact 73 (f := .exm "Unknown" "DeskError" true) rfl)
theorem e_Full_Unknown : PySem.W.exmOne K (.ref (He.ga K "Full")) (.ref (He.ga K "Unknown")) = some false := He.exm_ok (T.says.fact 74 (f := .exm "Full" "Unknown" false) rfl)
theorem e_IsReady_Unknown : PySem.W.exmOne K (.ref (He.ga K "IsReady")) (.ref (He.ga K "Unknown")) = some false := He.exm_ok (T.says.fact 75 (f := .exm "IsReady" "Unknown" false) rfl)
theorem e_Known_Unknown : PySem.W.exmOne K (.ref (He.ga K "Known")) (.ref (He.ga K "Unknown")) = some false := He.exm_ok (T.says.fact 76 (f := .exm "Known" "Unknown" false) rfl)
theorem e_NoDesk_Unknown : PySem.W.exmOne K (.ref (He.ga K "NoDesk")) (.ref (He.ga K "Unknown")) = some false := He.exm_ok (T.says.fact 77 (f := .exm "NoDesk" "Unknown" false) rfl)
theorem e_NoName_Unknown : PySem.W.exmOne K (.ref (He.ga K "NoName")) (.ref (He.ga K "Unknown")) = some false := He.exm_ok (T.says.fact 78 (f := .exm "NoName" "Unknown" false) rfl)
theorem e_NoRank_Unknown : PySem.W.exmOne K (.ref (He.ga K "NoRank")) (.ref (He.ga K "Unknown")) = some false := He.exm_ok (T.says.fact 79 (f := .exm "NoRank" "Unknown" false) rfl)
theorem e_NoSpan_Unknown : PySem.W.exmOne K (.ref (He.ga K "NoSpan")) (.ref (He.ga K "Unknown")) = some false := He.exm_ok (T.says.fact 80 (f := .exm "NoSpan" "Unknown" false) rfl)
theorem e_NotReady_Unknown : PySem.W.exmOne K (.ref (He.ga K "NotReady")) (.ref (He.ga K "Unknown")) = some false := He.exm_ok (T.says.fact 81 (f := .exm "NotReady" "Unknown" false) rfl)
theorem e_Unknown_Unknown : PySem.W.exmOne K (.ref (He.ga K "Unknown")) (.ref (He.ga K "Unknown")) = some true := He.exm_ok (T.says.fact 82 (f := .exm "Unknown" "Unknown" true) rfl)
theorem k_SIGNS : ∃ t, mg "SIGNS" = some (.str "abcdefghijklmnopqrstuvwxyz0123456789" t) := let ⟨_, X, G⟩ := T.inn; He.str_ok X G (T.says.fact 83 (f := .str "SIGNS" "abcdefghijklmnopqrstuvwxyz0123456789") rfl)
theorem k_MOST : ∃ t, mg "MOST" = some (.int 12 t) := let ⟨_, X, G⟩ := T.inn; He.int_ok X G (T.says.fact 84 (f := .int "MOST" 12) rfl)
theorem k_TOP : ∃ t, mg "TOP" = some (.int 99 t) := let ⟨_, X, G⟩ := T.inn; He.int_ok X G (T.says.fact 85 (f := .int "TOP" 99) rfl)
theorem k_MOST_PACE : ∃ t, mg "MOST_PACE" = some (.int 1000 t) := let ⟨_, X, G⟩ := T.inn; He.int_ok X G (T.says.fact 86 (f := .int "MOST_PACE" 1000) rfl)
theorem k_MOST_ROOM : ∃ t, mg "MOST_ROOM" = some (.int 60 t) := let ⟨_, X, G⟩ := T.inn; He.int_ok X G (T.says.fact 87 (f := .int "MOST_ROOM" 60) rfl)
theorem k_MOST_TURNS : ∃ t, mg "MOST_TURNS" = some (.int 1000 t) := let ⟨_, X, G⟩ := T.inn; He.int_ok X G (T.says.fact 88 (f := .int "MOST_TURNS" 1000) rfl)
theorem b_len : mg "len" = none := let ⟨_, X, G⟩ := T.inn; He.free_ok X G (T.says.fact 89 (f := .free "len") rfl)
theorem b_range : mg "range" = none := let ⟨_, X, G⟩ := T.inn; He.free_ok X G (T.says.fact 90 (f := .free "range") rfl)
theorem b_str : mg "str" = none := let ⟨_, X, G⟩ := T.inn; He.free_ok X G (T.says.fact 91 (f := .free "str") rfl)
theorem b_int : mg "int" = none := let ⟨_, X, G⟩ := T.inn; He.free_ok X G (T.says.fact 92 (f := .free "int") rfl)
theorem b_isinstance : mg "isinstance" = none := let ⟨_, X, G⟩ := T.inn; He.free_ok X G (T.says.fact 93 (f := .free "isinstance") rfl)
theorem b_sum : mg "sum" = none := let ⟨_, X, G⟩ := T.inn; He.free_ok X G (T.says.fact 94 (f := .free "sum") rfl)
theorem b_list : mg "list" = none := let ⟨_, X, G⟩ := T.inn; He.free_ok X G (T.says.fact 95 (f := .free "list") rfl)
theorem b_bool : mg "bool" = none := let ⟨_, X, G⟩ := T.inn; He.free_ok X G (T.says.fact 96 (f := .free "bool") rfl)
theorem b_ValueError : mg "ValueError" = none := let ⟨_, X, G⟩ := T.inn; He.free_ok X G (T.says.fact 97 (f := .free "ValueError") rfl)
theorem f_caller_init : ∃ fd, FunD K "__init__" "Caller.__init__" (defArgs s_caller_init) (defBody s_caller_init) (defScope s_caller_init) [] [] (He.ma K (He.ga K "Caller") "__init__") fd := T.says.def_ 0 (d := dd_caller_init) rfl
theorem f_is_name : ∃ fd, FunD K "is_name" "is_name" (defArgs s_is_name) (defBody s_is_name) (defScope s_is_name) [] [] (He.ga K "is_name") fd := T.says.def_ 1 (d := dd_is_name) rfl
theorem kp_is_name : PySem.W.keepIn K (.ref (He.ga K "is_name")) = true := let ⟨_, F⟩ := f_is_name T; F.kp
theorem f_limit : ∃ fd, FunD K "limit" "limit" (defArgs s_limit) (defBody s_limit) (defScope s_limit) [] [] (He.ga K "limit") fd := T.says.def_ 2 (d := dd_limit) rfl
theorem kp_limit : PySem.W.keepIn K (.ref (He.ga K "limit")) = true := let ⟨_, F⟩ := f_limit T; F.kp
theorem f_desk_init : ∃ fd, FunD K "__init__" "Desk.__init__" (defArgs s_desk_init) (defBody s_desk_init) (defScope s_desk_init) [] [] (He.ma K (He.ga K "Desk") "__init__") fd := T.says.def_ 3 (d := dd_desk_init) rfl
theorem f_desk_one : ∃ fd, FunD K "one" "Desk.one" (defArgs s_desk_one) (defBody s_desk_one) (defScope s_desk_one) [] [] (He.ma K (He.ga K "Desk") "one") fd := T.says.def_ 4 (d := dd_desk_one) rfl
theorem f_desk_become : ∃ fd, FunD K "become" "Desk.become" (defArgs s_desk_become) (defBody s_desk_become) (defScope s_desk_become) [] [] (He.ma K (He.ga K "Desk") "become") fd := T.says.def_ 5 (d := dd_desk_become) rfl
theorem f_desk_enter : ∃ fd, FunD K "enter" "Desk.enter" (defArgs s_desk_enter) (defBody s_desk_enter) (defScope s_desk_enter) [] [] (He.ma K (He.ga K "Desk") "enter") fd := T.says.def_ 6 (d := dd_desk_enter) rfl
theorem f_desk_leave : ∃ fd, FunD K "leave" "Desk.leave" (defArgs s_desk_leave) (defBody s_desk_leave) (defScope s_desk_leave) [] [] (He.ma K (He.ga K "Desk") "leave") fd := T.says.def_ 7 (d := dd_desk_leave) rfl
theorem f_desk_sleep : ∃ fd, FunD K "sleep" "Desk.sleep" (defArgs s_desk_sleep) (defBody s_desk_sleep) (defScope s_desk_sleep) [] [] (He.ma K (He.ga K "Desk") "sleep") fd := T.says.def_ 8 (d := dd_desk_sleep) rfl
theorem f_desk_wait : ∃ fd, FunD K "wait" "Desk.wait" (defArgs s_desk_wait) (defBody s_desk_wait) (defScope s_desk_wait) [] [] (He.ma K (He.ga K "Desk") "wait") fd := T.says.def_ 9 (d := dd_desk_wait) rfl
theorem f_desk_wake : ∃ fd, FunD K "wake" "Desk.wake" (defArgs s_desk_wake) (defBody s_desk_wake) (defScope s_desk_wake) [] [] (He.ma K (He.ga K "Desk") "wake") fd := T.says.def_ 10 (d := dd_desk_wake) rfl
theorem f_desk_rerank : ∃ fd, FunD K "rerank" "Desk.rerank" (defArgs s_desk_rerank) (defBody s_desk_rerank) (defScope s_desk_rerank) [] [] (He.ma K (He.ga K "Desk") "rerank") fd := T.says.def_ 11 (d := dd_desk_rerank) rfl
theorem f_desk_need_ready : ∃ fd, FunD K "need_ready" "Desk.need_ready" (defArgs s_desk_need_ready) (defBody s_desk_need_ready) (defScope s_desk_need_ready) [] [] (He.ma K (He.ga K "Desk") "need_ready") fd := T.says.def_ 12 (d := dd_desk_need_ready) rfl
theorem f_desk_names : ∃ fd, FunD K "names" "Desk.names" (defArgs s_desk_names) (defBody s_desk_names) (defScope s_desk_names) [] [] (He.ma K (He.ga K "Desk") "names") fd := T.says.def_ 13 (d := dd_desk_names) rfl
theorem f_desk_state : ∃ fd, FunD K "state" "Desk.state" (defArgs s_desk_state) (defBody s_desk_state) (defScope s_desk_state) [] [] (He.ma K (He.ga K "Desk") "state") fd := T.says.def_ 14 (d := dd_desk_state) rfl
theorem f_desk_rank : ∃ fd, FunD K "rank" "Desk.rank" (defArgs s_desk_rank) (defBody s_desk_rank) (defScope s_desk_rank) [] [] (He.ma K (He.ga K "Desk") "rank") fd := T.says.def_ 15 (d := dd_desk_rank) rfl
theorem f_desk_waited : ∃ fd, FunD K "waited" "Desk.waited" (defArgs s_desk_waited) (defBody s_desk_waited) (defScope s_desk_waited) [] [] (He.ma K (He.ga K "Desk") "waited") fd := T.says.def_ 16 (d := dd_desk_waited) rfl
theorem f_desk_within : ∃ fd, FunD K "within" "Desk.within" (defArgs s_desk_within) (defBody s_desk_within) (defScope s_desk_within) [] [] (He.ma K (He.ga K "Desk") "within") fd := T.says.def_ 17 (d := dd_desk_within) rfl
theorem f_desk_left : ∃ fd, FunD K "left" "Desk.left" (defArgs s_desk_left) (defBody s_desk_left) (defScope s_desk_left) [] [] (He.ma K (He.ga K "Desk") "left") fd := T.says.def_ 18 (d := dd_desk_left) rfl
theorem f_desk_bell : ∃ fd, FunD K "bell" "Desk.bell" (defArgs s_desk_bell) (defBody s_desk_bell) (defScope s_desk_bell) [] [] (He.ma K (He.ga K "Desk") "bell") fd := T.says.def_ 19 (d := dd_desk_bell) rfl
theorem f_L_whole : ∃ fd, FunD K "_law_whole" "_law_whole" (defArgs s_L_whole) (defBody s_L_whole) (defScope s_L_whole) [] [] (He.ga K "_law_whole") fd := T.says.def_ 20 (d := dd_L_whole) rfl
theorem kp_L_whole : PySem.W.keepIn K (.ref (He.ga K "_law_whole")) = true := let ⟨_, F⟩ := f_L_whole T; F.kp
theorem f_L_cell_at : ∃ fd, FunD K "_law_cell_at" "_law_cell_at" (defArgs s_L_cell_at) (defBody s_L_cell_at) (defScope s_L_cell_at) [] [] (He.ga K "_law_cell_at") fd := T.says.def_ 21 (d := dd_L_cell_at) rfl
theorem kp_L_cell_at : PySem.W.keepIn K (.ref (He.ga K "_law_cell_at")) = true := let ⟨_, F⟩ := f_L_cell_at T; F.kp
theorem f_L_mix : ∃ fd, FunD K "_law_mix" "_law_mix" (defArgs s_L_mix) (defBody s_L_mix) (defScope s_L_mix) [] [] (He.ga K "_law_mix") fd := T.says.def_ 22 (d := dd_L_mix) rfl
theorem kp_L_mix : PySem.W.keepIn K (.ref (He.ga K "_law_mix")) = true := let ⟨_, F⟩ := f_L_mix T; F.kp
theorem f_L_name_by : ∃ fd, FunD K "_law_name_by" "_law_name_by" (defArgs s_L_name_by) (defBody s_L_name_by) (defScope s_L_name_by) [] [] (He.ga K "_law_name_by") fd := T.says.def_ 23 (d := dd_L_name_by) rfl
theorem kp_L_name_by : PySem.W.keepIn K (.ref (He.ga K "_law_name_by")) = true := let ⟨_, F⟩ := f_L_name_by T; F.kp
theorem f_L_texts : ∃ fd, FunD K "_law_texts" "_law_texts" (defArgs s_L_texts) (defBody s_L_texts) (defScope s_L_texts) [] [] (He.ga K "_law_texts") fd := T.says.def_ 24 (d := dd_L_texts) rfl
theorem kp_L_texts : PySem.W.keepIn K (.ref (He.ga K "_law_texts")) = true := let ⟨_, F⟩ := f_L_texts T; F.kp
theorem f_L_word : ∃ fd, FunD K "_law_word" "_law_word" (defArgs s_L_word) (defBody s_L_word) (defScope s_L_word) [] [] (He.ga K "_law_word") fd := T.says.def_ 25 (d := dd_L_word) rfl
theorem kp_L_word : PySem.W.keepIn K (.ref (He.ga K "_law_word")) = true := let ⟨_, F⟩ := f_L_word T; F.kp
theorem f_L_no_desk : ∃ fd, FunD K "_law_no_desk" "_law_no_desk" (defArgs s_L_no_desk) (defBody s_L_no_desk) (defScope s_L_no_desk) [] [] (He.ga K "_law_no_desk") fd := T.says.def_ 26 (d := dd_L_no_desk) rfl
theorem kp_L_no_desk : PySem.W.keepIn K (.ref (He.ga K "_law_no_desk")) = true := let ⟨_, F⟩ := f_L_no_desk T; F.kp
theorem f_L_enters : ∃ fd, FunD K "_law_enters" "_law_enters" (defArgs s_L_enters) (defBody s_L_enters) (defScope s_L_enters) [] [] (He.ga K "_law_enters") fd := T.says.def_ 27 (d := dd_L_enters) rfl
theorem kp_L_enters : PySem.W.keepIn K (.ref (He.ga K "_law_enters")) = true := let ⟨_, F⟩ := f_L_enters T; F.kp
theorem f_L_unknown : ∃ fd, FunD K "_law_unknown" "_law_unknown" (defArgs s_L_unknown) (defBody s_L_unknown) (defScope s_L_unknown) [] [] (He.ga K "_law_unknown") fd := T.says.def_ 28 (d := dd_L_unknown) rfl
theorem kp_L_unknown : PySem.W.keepIn K (.ref (He.ga K "_law_unknown")) = true := let ⟨_, F⟩ := f_L_unknown T; F.kp
theorem f_L_due : ∃ fd, FunD K "_law_due" "_law_due" (defArgs s_L_due) (defBody s_L_due) (defScope s_L_due) [] [] (He.ga K "_law_due") fd := T.says.def_ 29 (d := dd_L_due) rfl
theorem kp_L_due : PySem.W.keepIn K (.ref (He.ga K "_law_due")) = true := let ⟨_, F⟩ := f_L_due T; F.kp
theorem f_L_stands : ∃ fd, FunD K "_law_stands" "_law_stands" (defArgs s_L_stands) (defBody s_L_stands) (defScope s_L_stands) [] [] (He.ga K "_law_stands") fd := T.says.def_ 30 (d := dd_L_stands) rfl
theorem kp_L_stands : PySem.W.keepIn K (.ref (He.ga K "_law_stands")) = true := let ⟨_, F⟩ := f_L_stands T; F.kp
theorem f_L_step : ∃ fd, FunD K "_law_step" "_law_step" (defArgs s_L_step) (defBody s_L_step) (defScope s_L_step) [] [] (He.ga K "_law_step") fd := T.says.def_ 31 (d := dd_L_step) rfl
theorem kp_L_step : PySem.W.keepIn K (.ref (He.ga K "_law_step")) = true := let ⟨_, F⟩ := f_L_step T; F.kp
theorem f_law : ∃ fd, FunD K "law" "law" (defArgs s_law) (defBody s_law) (defScope s_law) [] [] (He.ga K "law") fd := T.says.def_ 32 (d := dd_law) rfl
theorem kp_law : PySem.W.keepIn K (.ref (He.ga K "law")) = true := let ⟨_, F⟩ := f_law T; F.kp
end
/-! ### words of this text, over Evl: what every def's proof uses -/
section
variable {P : Program} {w : World} {K : PySem.W.Frag} {mg : Str → Option Value} {base : Heap} {x qual : Str} {params : Arguments} {body : List Stmt} {scope : Scope} {f : Addr} {fd : FuncData}
theorem ok0 {N ps : List Str} {k : Nat} {sp : Sp} (F : FunD K x qual params body scope [] [] f fd) (S : FnScope N ps scope) (len : ∀ vs H Q E, sp vs H Q E → vs.length = ps.length)
    (hbody : ∀ (cdv : Value) (A : Around) (outer : List Env) (s : Shared) (H : Hp) (vs : List V) (Q : VK) (E : XK), Room k (A.deeper (envOfC qual scope s.heap.objs.size f cdv)) → sp vs H Q E →
      ∃ t, PSs (cxOf CX0 P w K mg base N qual scope f cdv A outer s H E).nox body t ∧ t { nx := fun _ H' => Q .non H', rt := Q } (start N vs) H) : FnOk P w K mg base CX0 (k + 1) f fd ps sp :=
  F.ok S len fun cdv A outer s H vs Q E hr h => let ⟨t, a, b⟩ := hbody cdv A outer s H vs Q E hr h; ⟨t, PSs.nox a, b⟩
theorem okX {N ps : List Str} {k : Nat} {sp : Sp} (F : FunD K x qual params body scope [] [] f fd) (S : FnScope N ps scope) (len : ∀ vs H Q E, sp vs H Q E → vs.length = ps.length)
    (hbody : ∀ (cdv : Value) (A : Around) (outer : List Env) (s : Shared) (H : Hp) (vs : List V) (Q : VK) (E : XK), Room k (A.deeper (envOfC qual scope s.heap.objs.size f cdv)) → sp vs H Q E →
      ∃ t, PSs (cxOf (L2.CX P w) P w K mg base N qual scope f cdv A outer s H E) body t ∧ t { nx := fun _ H' => Q .non H', rt := Q } (start N vs) H) : FnOk P w K mg base (L2.CX P w) (k + 1) f fd ps sp :=
  F.ok S len hbody
end
theorem funD_same {K : PySem.W.Frag} {x qual : Str} {params : Arguments} {body : List Stmt} {scope : Scope} {f : Addr} {fd fd' : FuncData} (F : FunD K x qual params body scope [] [] f fd) (F' : FunD K x qual params body scope [] [] f fd') : fd' = fd := by
  obtain ⟨_, _, _, _, _, _, _, _, _, _, _, h, _⟩ := F.ex
  obtain ⟨_, _, _, _, _, _, _, _, _, _, _, h', _⟩ := F'.ex
  rw [h] at h'
  injection h' with h'
  injection h' with _ _ h'
  injection h' with h'
  exact h'.symm
/-! ### evaluation -/
section
variable {K : PySem.W.Frag} {σ : L2.St} {H H' : Hp} {ta tb te tx : TE} {t u : TT} {x y z v : V} {D : Ends}
theorem rc_len_str {z : Str} (h : z.length ≤ sizeLine) : RC (fun xs H Q => ∃ z, xs = [.str z] ∧ z.length ≤ sizeLine ∧ Q (.int z.length) H) [.str z] H (.int z.length) := fun H1 _ Q q => ⟨z, rfl, h, q H1 (Ex.refl H1)⟩
theorem rc_max2 {i j : Int} : RC (fun xs H Q => ∃ i j, xs = [.int i, .int j] ∧ Q (.int (if j > i then j else i)) H) [.int i, .int j] H (.int (if j > i then j else i)) := fun H1 _ Q q => ⟨i, j, rfl, q H1 (Ex.refl H1)⟩
theorem rc_min2 {i j : Int} : RC (fun xs H Q => ∃ i j, xs = [.int i, .int j] ∧ Q (.int (if j < i then j else i)) H) [.int i, .int j] H (.int (if j < i then j else i)) := fun H1 _ Q q => ⟨i, j, rfl, q H1 (Ex.refl H1)⟩
theorem rc_len {p : Addr} {xs : List V} (h : SqL K H p xs) : RC (fun vs H Q => ∃ p ys, vs = [.ref p] ∧ (SqL K H p ys ∨ SqT K H p ys) ∧ Q (.int ys.length) H) [.ref p] H (.int (xs.length : Int)) := fun H1 e Q q => ⟨p, xs, rfl, .inl (ex_l e h), q H1 (Ex.refl H1)⟩
theorem rc_isi {c t' : V} {ty u : Value} {b : Bool} (hc : ClsV c u) (ht : ∀ H1, Ex H H1 → TyX K H1 x ty) (hk : PySem.W.kitOne K ty u = some b) : RC (rIsi K) [x, c] H (.bl b) := fun H1 e Q q => ⟨x, c, ty, u, b, rfl, hc, ht H1 e, hk, q H1 (Ex.refl H1)⟩
theorem rc_isi_int {i : Int} : RC (rIsi K) [.int i, .ty "int"] H (.bl true) := rc_isi (t' := .non) (.ty _) (fun _ _ => .base (.int i)) (kit_ty (by decide +kernel))
theorem rc_isi_int_bool {i : Int} : RC (rIsi K) [.int i, .ty "bool"] H (.bl false) := rc_isi (t' := .non) (.ty _) (fun _ _ => .base (.int i)) (kit_ty (by decide +kernel))
theorem rc_sum {a : Addr} {ns : List Int} (h : SqL K H a (ns.map V.int)) : RC (rSum K) [.ref a] H (.int ns.sum) := fun H1 e Q q => ⟨a, ns, rfl, ex_l e h, q H1 (Ex.refl H1)⟩
theorem ev_cbL {r : List V → Hp → VK → Prop} {xs : List V} (h : EvL ta σ H xs) (hr : ∀ p H1, H1 p = some (.lst xs) → RC r [.ref p] H1 z) : Ev (tCB r (tCons ta tNil)) σ H z := fun H1 e Q q =>
  h H1 e _ fun p H2 _ e2 hp => hr p H2 hp H2 (Ex.refl H2) Q fun H3 e3 => q H3 (e2.trans e3)
theorem el_lcR2 {ta : TA} {j : Nat} {vs : List Nat} {lo n : Int} (f : Nat → Bool) (v : Nat → V) (h : EvA ta σ H [.int lo, .int n]) (hn : -40000 ≤ lo ∧ lo ≤ 40000 ∧ n ≤ lo + 40000 ∧ -40000 ≤ n) (hw : ∀ x, wipe ((wipe σ vs).set j (some x)) vs = wipe σ vs)
    (ht : ∀ (i : Nat) H1, Ex H H1 → lo + (i : Int) < n → EvT t ((wipe σ vs).set j (some (.int (lo + (i : Int))))) H1 (f i)) (he : ∀ (i : Nat) H1, Ex H H1 → lo + (i : Int) < n → f i = true → Ev te ((wipe σ vs).set j (some (.int (lo + (i : Int))))) H1 (v i)) :
    EvL (tLc (iRng2 ta) (gName j) t te vs) σ H (given (n - lo).toNat f v) := fun H0 e Q q => h H0 e _ fun H1 e1 => ⟨lo, n, rfl, by omega, fun Dl hD =>
  lc_range (lo := lo) (n := (n - lo).toNat) (Cw H1 f v Dl) ⟨hD, Ex.new hD, upd_same⟩ (fun i H' hi p => ⟨hw _, cw_turn p (by omega) (ht i H1 (e.trans e1) (by omega)) (fun hf => he i H1 (e.trans e1) (by omega) hf)⟩) (fun H' p => q Dl H' (fresh_back e1 p.1) (e1.trans p.2.1) p.2.2)⟩
theorem et_yes : EvT tYes σ H true := fun H1 _ _ q => q H1 (Ex.refl H1)
theorem spv_call {sp : Sp} {vs : List V} (h : ∀ H1, Ex H H1 → ∀ Q E, RetV z H1 Q → sp vs H1 Q E) : SpV sp (vs ++ []) H z := fun H1 e Q q E => by
  rw [List.append_nil]
  exact h H1 e Q E q
theorem cmul_r {i j : Int} (h1 : -(2 ^ 64) < j) (h2 : j < 2 ^ 64) : CMul i j := .inr ⟨h1, h2⟩
theorem cmul_l {i j : Int} (h1 : -(2 ^ 64) < i) (h2 : i < 2 ^ 64) : CMul i j := .inl ⟨h1, h2⟩
end
section
variable {K : PySem.W.Frag} {σ : L2.St} {H H' : Hp} {ta tb te tx : TE} {t u : TT} {x y z v : V} {D : Ends}
theorem rv_isN : RV (fun x y H Q => y = .non ∧ Q (.bl (decide (x = .non))) H) x .non H (.bl (decide (x = .non))) := fun H1 _ Q q => ⟨rfl, q H1 (Ex.refl H1)⟩
theorem rv_notN : RV (fun x y H Q => y = .non ∧ Q (.bl (!decide (x = .non))) H) x .non H (.bl (!decide (x = .non))) := fun H1 _ Q q => ⟨rfl, q H1 (Ex.refl H1)⟩
theorem rv_addS {i j : Str} (h : i.length + j.length ≤ sizeLine) : RV (fun x y H Q => ∃ i j, x = .str i ∧ y = .str j ∧ i.length + j.length ≤ sizeLine ∧ Q (.str (i ++ j)) H) (.str i) (.str j) H (.str (i ++ j)) := fun H1 _ Q q => ⟨i, j, rfl, rfl, h, q H1 (Ex.refl H1)⟩
theorem rc_int_int {i : Int} : RC (fun xs H Q => (∃ i, xs = [.int i] ∧ Q (.int i) H) ∨ ∃ k, xs = [.bl k] ∧ Q (.int (if k then 1 else 0)) H) [.int i] H (.int i) := fun H1 _ Q q => .inl ⟨i, rfl, q H1 (Ex.refl H1)⟩
theorem rc_int_bl {k : Bool} : RC (fun xs H Q => (∃ i, xs = [.int i] ∧ Q (.int i) H) ∨ ∃ k, xs = [.bl k] ∧ Q (.int (if k then 1 else 0)) H) [.bl k] H (.int (if k then 1 else 0)) := fun H1 _ Q q => .inr ⟨k, rfl, q H1 (Ex.refl H1)⟩
theorem ev_fld {a C dx : Addr} {fs : List (Str × V)} {f : Str} (h : Ev ta σ H (.ref a)) (ho : H a = some (.ins C dx fs)) (hc : Cls K C) (hn : NoAttr K C f) (hl : fs.lookup f = some v) : Ev (tFld K ta f) σ H v := fun H1 e Q q =>
  h H1 e _ fun H2 e2 => ⟨a, C, dx, fs, v, rfl, e2 a _ (e a _ ho), hc, hn, hl, q H2 e2⟩
theorem ev_meth {a C dx : Addr} {fs : List (Str × V)} {m : Str} {sp : Sp} {E : XK} {tr : TA} {vs : List V} (h : Ev ta σ H (.ref a)) (ho : H a = some (.ins C dx fs)) (hl : fs.lookup m = none) (ha : EvA tr σ H vs) (hs : SpV sp (.ref a :: (vs ++ [])) H z) : Ev (tMeth C m sp [] E ta tr) σ H z := fun H1 e Q q =>
  h H1 e _ fun H2 e2 => ⟨a, dx, fs, rfl, e2 a _ (e a _ ho), hl, ha H2 (e.trans e2) _ fun H3 e3 => hs H3 ((e.trans e2).trans e3) Q (fun H4 e4 => q H4 ((e2.trans e3).trans e4)) E⟩
end
section
variable {K : PySem.W.Frag} {σ : L2.St} {H H' : Hp} {ta tb te tx : TE} {t u : TT} {x y z v : V} {D : Ends} {tz tu : TS} {sp : Sp} {E : XK} {tr : TA} {vs : List V}
/-- name = f(..), whatever the promise hands back -/
theorem q_call {i : Nat} (h : EvA tr σ H vs) (k : ∀ H1, Ex H H1 → sp (vs ++ []) H1 (fun x H2 => tz D (σ.set i (some x)) H2) E) : tSeq (tAsg (tCall sp [] E tr) (gName i)) tz D σ H := h H (Ex.refl H) _ fun H1 e1 => k H1 e1
theorem s_call {i : Nat} (h : EvA tr σ H vs) (k : ∀ H1, Ex H H1 → sp (vs ++ []) H1 (fun x H2 => D.nx (σ.set i (some x)) H2) E) : tAsg (tCall sp [] E tr) (gName i) D σ H := h H (Ex.refl H) _ fun H1 e1 => k H1 e1
theorem s_retC (h : EvA tr σ H vs) (k : ∀ H1, Ex H H1 → sp (vs ++ []) H1 D.rt E) : tRet (tCall sp [] E tr) D σ H := h H (Ex.refl H) _ fun H1 e1 => k H1 e1
/-- .. a method of the instance at a -/
theorem q_meth {i : Nat} {a C dx : Addr} {fs : List (Str × V)} {m : Str} (h : Ev ta σ H (.ref a)) (ho : H a = some (.ins C dx fs)) (hl : fs.lookup m = none) (ha : EvA tr σ H vs) (k : ∀ H1, Ex H H1 → sp (.ref a :: (vs ++ [])) H1 (fun x H2 => tz D (σ.set i (some x)) H2) E) :
    tSeq (tAsg (tMeth C m sp [] E ta tr) (gName i)) tz D σ H := h H (Ex.refl H) _ fun H1 e1 => ⟨a, dx, fs, rfl, e1 a _ ho, hl, ha H1 e1 _ fun H2 e2 => k H2 (e1.trans e2)⟩
theorem s_methA {i : Nat} {a C dx : Addr} {fs : List (Str × V)} {m : Str} (h : Ev ta σ H (.ref a)) (ho : H a = some (.ins C dx fs)) (hl : fs.lookup m = none) (ha : EvA tr σ H vs) (k : ∀ H1, Ex H H1 → sp (.ref a :: (vs ++ [])) H1 (fun x H2 => D.nx (σ.set i (some x)) H2) E) :
    tAsg (tMeth C m sp [] E ta tr) (gName i) D σ H := h H (Ex.refl H) _ fun H1 e1 => ⟨a, dx, fs, rfl, e1 a _ ho, hl, ha H1 e1 _ fun H2 e2 => k H2 (e1.trans e2)⟩
theorem q_dmeth {a C dx : Addr} {fs : List (Str × V)} {m : Str} (h : Ev ta σ H (.ref a)) (ho : H a = some (.ins C dx fs)) (hl : fs.lookup m = none) (ha : EvA tr σ H vs) (k : ∀ H1, Ex H H1 → sp (.ref a :: (vs ++ [])) H1 (fun _ H2 => tz D σ H2) E) :
    tSeq (tDrop (tMeth C m sp [] E ta tr)) tz D σ H := h H (Ex.refl H) _ fun H1 e1 => ⟨a, dx, fs, rfl, e1 a _ ho, hl, ha H1 e1 _ fun H2 e2 => k H2 (e1.trans e2)⟩
theorem s_dmeth {a C dx : Addr} {fs : List (Str × V)} {m : Str} (h : Ev ta σ H (.ref a)) (ho : H a = some (.ins C dx fs)) (hl : fs.lookup m = none) (ha : EvA tr σ H vs) (k : ∀ H1, Ex H H1 → sp (.ref a :: (vs ++ [])) H1 (fun _ H2 => D.nx σ H2) E) :
    tDrop (tMeth C m sp [] E ta tr) D σ H := h H (Ex.refl H) _ fun H1 e1 => ⟨a, dx, fs, rfl, e1 a _ ho, hl, ha H1 e1 _ fun H2 e2 => k H2 (e1.trans e2)⟩
theorem s_retM {a C dx : Addr} {fs : List (Str × V)} {m : Str} (h : Ev ta σ H (.ref a)) (ho : H a = some (.ins C dx fs)) (hl : fs.lookup m = none) (ha : EvA tr σ H vs) (k : ∀ H1, Ex H H1 → sp (.ref a :: (vs ++ [])) H1 D.rt E) :
    tRet (tMeth C m sp [] E ta tr) D σ H := h H (Ex.refl H) _ fun H1 e1 => ⟨a, dx, fs, rfl, e1 a _ ho, hl, ha H1 e1 _ fun H2 e2 => k H2 (e1.trans e2)⟩
theorem rd_upd {a l : Addr} {u o o' : HO} (h : Rd H a u) (hl : H l = some o) (hd : o ≠ u) (hf : ∀ ob, o ≠ .frz ob u) : Rd (upd H l o') a u := by
  rcases h with h | ⟨ob, h⟩
  · exact .inl (by rw [upd_ne (fun e => by rw [e, hl] at h; exact hd (Option.some.inj h))]; exact h)
  · exact .inr ⟨ob, by rw [upd_ne (fun e => by rw [e, hl] at h; exact hf ob (Option.some.inj h))]; exact h⟩
theorem sqT_upd {a l : Addr} {xs ys : List V} {o : HO} (h : SqT K H a xs) (hl : H l = some (.lst ys)) : SqT K (upd H l o) a xs := by
  rcases h with h | h
  · exact .inl (rd_upd h hl (by intro q; cases q) (by intro _ q; cases q))
  · exact .inr h
end
section
variable {K : PySem.W.Frag} {σ : L2.St} {H H' : Hp} {ta tb te tx tv tl : TE} {t u : TT} {x y z v : V} {D : Ends} {tz tu : TS} {sp : Sp} {E : XK} {tr : TA} {vs : List V}
theorem ev_fldx {a C : Addr} {fs : List (Str × V)} {f : Str} (h : Ev ta σ H (.ref a)) (ho : ∃ dx, H a = some (.ins C dx fs)) (hc : Cls K C) (hn : NoAttr K C f) (hl : fs.lookup f = some v) : Ev (tFld K ta f) σ H v := let ⟨_, ho⟩ := ho; ev_fld h ho hc hn hl
theorem s_fld {a C dx : Addr} {fs : List (Str × V)} {f : Str} (h : Ev tv σ H y) (ha : Ev ta σ H (.ref a)) (ho : H a = some (.ins C dx fs)) (hc : Cls K C) (hn : NoAttr K C f) (hl : fs.length < 1000) (k : ∀ H1, Ex H H1 → D.nx σ (upd H1 a (.ins C dx (putF f y fs)))) : sFld K ta tv f D σ H :=
  h H (Ex.refl H) _ fun H1 e1 => ha H1 e1 _ fun H2 e2 => ⟨a, C, dx, fs, rfl, e2 a _ (e1 a _ ho), hc, hn, hl, k H2 (e1.trans e2)⟩
theorem q_fld {a C dx : Addr} {fs : List (Str × V)} {f : Str} (h : Ev tv σ H y) (ha : Ev ta σ H (.ref a)) (ho : H a = some (.ins C dx fs)) (hc : Cls K C) (hn : NoAttr K C f) (hl : fs.length < 1000) (k : ∀ H1, Ex H H1 → tz D σ (upd H1 a (.ins C dx (putF f y fs)))) : tSeq (sFld K ta tv f) tz D σ H :=
  s_fld (D := { D with nx := tz D }) h ha ho hc hn hl k
theorem s_fldL {a C dx : Addr} {fs : List (Str × V)} {f : Str} {xs : List V} (h : EvL tv σ H xs) (ha : Ev ta σ H (.ref a)) (ho : H a = some (.ins C dx fs)) (hc : Cls K C) (hn : NoAttr K C f) (hl : fs.length < 1000) (k : ∀ q H1, H q = none → Ex H H1 → H1 q = some (.lst xs) → D.nx σ (upd H1 a (.ins C dx (putF f (.ref q) fs)))) : sFld K ta tv f D σ H :=
  h H (Ex.refl H) _ fun q H1 hq e1 h1 => ha H1 e1 _ fun H2 e2 => ⟨a, C, dx, fs, rfl, e2 a _ (e1 a _ ho), hc, hn, hl, k q H2 hq (e1.trans e2) (e2 q _ h1)⟩
theorem el_cat {xs ys : List V} (ha : EvL ta σ H xs) (hb : EvL tb σ H ys) (hz : xs.length + ys.length ≤ 100000) : EvL (tOp rCat ta tb) σ H (xs ++ ys) := fun H1 e Q q =>
  ha H1 e _ fun p H2 hp e2 h2 => hb H2 (e.trans e2) _ fun r H3 hr e3 h3 => ⟨p, r, xs, ys, rfl, rfl, e3 p _ h2, h3, sz_of hz, fun s hs => q s _ (fresh_back (e2.trans e3) hs) ((e2.trans e3).trans (Ex.new hs)) upd_same⟩
theorem el_meth {a C dx : Addr} {fs : List (Str × V)} {m : Str} {xs : List V} (h : Ev ta σ H (.ref a)) (ho : H a = some (.ins C dx fs)) (hl : fs.lookup m = none) (ha : EvA tr σ H vs) (hs : SpL sp (.ref a :: (vs ++ [])) H xs) : EvL (tMeth C m sp [] E ta tr) σ H xs := fun H1 e Q q =>
  h H1 e _ fun H2 e2 => ⟨a, dx, fs, rfl, e2 a _ (e a _ ho), hl, ha H2 (e.trans e2) _ fun H3 e3 => hs H3 ((e.trans e2).trans e3) Q (fun p H4 hp e4 h4 => q p H4 (fresh_back (e2.trans e3) hp) ((e2.trans e3).trans e4) h4) E⟩
theorem given_take {α : Type} (ps : List α) (g : α → Bool) (w : α → V) (n : Nat) (hn : n ≤ ps.length) : given n (fun i => (ps[i]?.map g).getD false) (fun i => (ps[i]?.map w).getD .non) = ((ps.take n).filter g).map w := by
  induction n with
  | zero => rfl
  | succ n ih =>
    have hlt : n < ps.length := hn
    have e1 : ps[n]? = some ps[n] := List.getElem?_eq_getElem hlt
    have e2 : ps.take (n + 1) = ps.take n ++ [ps[n]] := by rw [List.take_succ, e1]; rfl
    rw [e2, List.filter_append, List.map_append, ← ih (by omega)]
    cases hg : g ps[n] with
    | true =>
      rw [given_yes (by rw [e1]; exact hg), e1, List.filter_cons, if_pos hg]
      rfl
    | false =>
      rw [given_no (by rw [e1]; exact hg), List.filter_cons, if_neg (by rw [hg]; decide)]
      simp
theorem given_list {α : Type} (ps : List α) (g : α → Bool) (w : α → V) : given ps.length (fun i => (ps[i]?.map g).getD false) (fun i => (ps[i]?.map w).getD .non) = (ps.filter g).map w := by
  rw [given_take ps g w ps.length (Nat.le_refl _), List.take_length]
/-- a comprehension over a list of things told by u, kept by g, made by w -/
theorem el_lcM {α : Type} {ps : List α} {uu : α → V} {a : Addr} {j : Nat} {ws : List Nat} (g : α → Bool) (w : α → V) (h : Ev tl σ H (.ref a)) (hx : SqL K H a (ps.map uu)) (hz : ps.length ≤ 40000) (hw : ∀ x, wipe ((wipe σ ws).set j (some x)) ws = wipe σ ws)
    (ht : ∀ q ∈ ps, ∀ H1, Ex H H1 → EvT t ((wipe σ ws).set j (some (uu q))) H1 (g q)) (he : ∀ q ∈ ps, ∀ H1, Ex H H1 → g q = true → Ev te ((wipe σ ws).set j (some (uu q))) H1 (w q)) : EvL (tLc (iList K tl) (gName j) t te ws) σ H ((ps.filter g).map w) := by
  have key := el_lcL (K := K) (t := t) (te := te) (fun i => (ps[i]?.map g).getD false) (fun i => (ps[i]?.map w).getD .non) h hx (by rw [List.length_map]; exact hz) hw
    (fun i x H1 e1 hi => by
      rw [List.getElem?_map] at hi
      cases hq : ps[i]? with
      | none => rw [hq] at hi; cases hi
      | some q =>
        rw [hq] at hi
        cases hi
        exact ht q (List.mem_of_getElem? hq) H1 e1)
    (fun i x H1 e1 hi hf => by
      rw [List.getElem?_map] at hi
      cases hq : ps[i]? with
      | none => rw [hq] at hi; cases hi
      | some q =>
        rw [hq] at hi hf
        cases hi
        exact he q (List.mem_of_getElem? hq) H1 e1 hf)
  rw [List.length_map, given_list] at key
  exact key
theorem el_lcNM {α : Type} {ps : List α} {uu : α → V} {j : Nat} {ws : List Nat} (g : α → Bool) (w : α → V) (h : EvL tl σ H (ps.map uu)) (hz : ps.length ≤ 40000) (hw : ∀ x, wipe ((wipe σ ws).set j (some x)) ws = wipe σ ws)
    (ht : ∀ q ∈ ps, ∀ H1, Ex H H1 → EvT t ((wipe σ ws).set j (some (uu q))) H1 (g q)) (he : ∀ q ∈ ps, ∀ H1, Ex H H1 → g q = true → Ev te ((wipe σ ws).set j (some (uu q))) H1 (w q)) : EvL (tLc (iList K tl) (gName j) t te ws) σ H ((ps.filter g).map w) := by
  have key := el_lcNL (K := K) (t := t) (te := te) (fun i => (ps[i]?.map g).getD false) (fun i => (ps[i]?.map w).getD .non) h (by rw [List.length_map]; exact hz) hw
    (fun i x H1 e1 hi => by
      rw [List.getElem?_map] at hi
      cases hq : ps[i]? with
      | none => rw [hq] at hi; cases hi
      | some q =>
        rw [hq] at hi
        cases hi
        exact ht q (List.mem_of_getElem? hq) H1 e1)
    (fun i x H1 e1 hi hf => by
      rw [List.getElem?_map] at hi
      cases hq : ps[i]? with
      | none => rw [hq] at hi; cases hi
      | some q =>
        rw [hq] at hi hf
        cases hi
        exact he q (List.mem_of_getElem? hq) H1 e1 hf)
  rw [List.length_map, given_list] at key
  exact key
theorem filter_true {α : Type} (l : List α) : l.filter (fun _ => true) = l := List.filter_eq_self.mpr fun _ _ => rfl
theorem spl_call {xs : List V} (h : ∀ H1, Ex H H1 → ∀ Q E, RetL xs H1 Q → sp vs H1 Q E) : SpL sp vs H xs := fun H1 e Q q E => h H1 e Q E q
theorem spv_meth (h : ∀ H1, Ex H H1 → ∀ Q E, RetV z H1 Q → sp vs H1 Q E) : SpV sp vs H z := fun H1 e Q q E => h H1 e Q E q
end
/-! the rules that speak of the written part, said of K itself (within a comprehension the context is another one, K is not) -/
section
variable {X : Cx} {K : PySem.W.Frag} {e o : Expr} {te ta : TE} {pos : Pos} {f : Str}
theorem pe_fldK (h : X.K = K) (he : PE X e ta) (hb : attributeBase e f X.env (eval e X.env) = eval e X.env) : PE X (.Attribute e f pos) (tFld K ta f) := h ▸ pe_fld he hb
theorem ix_listK (h : X.K = K) : IxR X (rIxL K) := h ▸ ix_list
theorem ix_tupK (h : X.K = K) : IxR X (rIxT K) := h ▸ ix_tup
theorem call_lenK (h : X.K = K) : CallR X (.builtin "len") (rLenS K) := h ▸ call_len_seq
theorem call_listK (h : X.K = K) : CallR X (.type "list") (rListS K) := h ▸ call_list_of
theorem op_inK (h : X.K = K) : OpR X (compareOp .In) (rIn K false) := h ▸ op_in_seq
theorem op_notInK (h : X.K = K) : OpR X (compareOp .NotIn) (rIn K true) := h ▸ op_notIn_seq
theorem op_eqK (h : X.K = K) (hu : X.A.units + 64 < cLine) : OpR X (compareOp .Eq) (rEqD K) := h ▸ op_eqD hu
theorem op_neK (h : X.K = K) (hu : X.A.units + 64 < cLine) : OpR X (compareOp .NotEq) (rNeD K) := h ▸ op_neD hu
theorem call_isiK' (h : X.K = K) : CallR X (.builtin "isinstance") (rIsi K) := h ▸ call_isi
theorem sl_listK (h : X.K = K) : SlR X (rSlL K) := h ▸ sl_list
theorem sl_tupK (h : X.K = K) : SlR X (rSlT K) := h ▸ sl_tup
theorem cr_sumK (h : X.K = K) (hc : X.calm = true) : CallR X (.builtin "sum") (rSum K) := h ▸ cr_sum hc
theorem pi_listK {tg : Expr} (h : X.K = K) (he : PE X e te) : PI X tg e (iList K te) := h ▸ pi_list he
theorem pi_tupK {tg : Expr} (h : X.K = K) (he : PE X e te) : PI X tg e (iTup K te) := h ▸ pi_tup he
theorem mt_indexK (h : X.K = K) : MtR X "list.index" (rIndex K) := h ▸ mt_index
end
section
variable {K : PySem.W.Frag} {H : Hp}
theorem rc_lenS {p : Addr} {xs : List V} (h : SqL K H p xs) : RC (rLenS K) [.ref p] H (.int (xs.length : Int)) := fun H1 e Q q => ⟨p, xs, rfl, .inl (ex_l e h), q H1 (Ex.refl H1)⟩
end
theorem pe_bmK {X : Cx} {K : PySem.W.Frag} {o e : Expr} {es : List Expr} {to : TE} {t : TA} {name : Str} {apos cpos : Pos} {T id : String} {r : V → List V → Hp → VK → Prop} (hK : X.K = K) (pa : PlainAttrs T) (slot : Slot T name id) (hty : typeOf (.builtin id) = pure (.type "method_descriptor")) (hm : MtR X id r) (ho : PE X o to) (ha : PA X (e :: es) t)
    (h1 : attributeBase o name X.env (eval o X.env) = eval o X.env := by rfl)
    (h2 : ((backTo cpos (starEach (e :: es) X.env)).all (fun x => !x.1) && (backToKw cpos (keywordEach [] X.env)).all (fun x => x.1.isSome)
      && decide ((e :: es).length + ([] : List Keyword).length + (if ([] : List Keyword).isEmpty then 0 else 1) < 30)) = true := by rfl)
    (h3 : (apos.endLine == cpos.line) = true := by rfl) (h4 : starEach (e :: es) X.env = (false, eval e X.env) :: starEach es X.env := by rfl) (h5 : (backTo cpos (starEach es X.env)).any (·.1) = false := by rfl) :
    PE X (.Call (.Attribute o name apos) (e :: es) [] cpos) (tBM K T r to t) := hK ▸ pe_bm pa slot hty hm ho ha h1 h2 h3 h4 h5
def repS (z : Str) (n : Nat) : Str := ⟨(List.replicate n z.cps).foldl (· ++ ·) #[]⟩
theorem rep_size (z : Array Nat) : ∀ (n : Nat) (acc : Array Nat), ((List.replicate n z).foldl (· ++ ·) acc).size = acc.size + n * z.size
  | 0, acc => by simp
  | n + 1, acc => by
    rw [List.replicate_succ, List.foldl_cons, rep_size z n, Array.size_append, Nat.succ_mul]
    omega
theorem repS_len (z : Str) (n : Nat) : (repS z n).length = n * z.length := by
  have := rep_size z.cps n #[]
  rw [show (#[] : Array Nat).size = 0 from rfl, Nat.zero_add] at this
  exact this
def rRepS : R2 := fun x y H Q => ∃ (z : Str) (n : Int), x = .str z ∧ y = .int n ∧ 2 ≤ n ∧ n ≤ 100 ∧ 1 ≤ z.length ∧ z.length ≤ 100 ∧ Q (.str (repS z n.toNat)) H
theorem op_rep_str {X : Cx} : OpR X (binaryOp .Mult) rRepS := by
  intro pins s σ H x y v u Q I rx ry h
  obtain ⟨z, n, rfl, rfl, h1, h2, h3, h4, q⟩ := h
  obtain ⟨t, rfl⟩ := rx
  obtain ⟨t', rfl⟩ := ry
  have hm : z.length * n.toNat ≤ 100 * 100 := Nat.mul_le_mul h4 (by omega)
  have hm2 : (z.length : Int) * n ≤ 100 * 100 := by
    have : ((z.length * n.toNat : Nat) : Int) = (z.length : Int) * n := by rw [Int.natCast_mul]; congr 1; omega
    omega
  refine P.mul_str (by rw [decide_eq_false (by omega), decide_eq_false (by omega)]; rfl) (fun _ _ h => ?_) (fun _ _ => ?_) ?_
  · have : (z.length : Int) ≤ (2 ^ 63 - 1) / n := (Int.le_ediv_iff_mul_le (by omega)).mpr (by omega)
    omega
  · exact decide_eq_false (by have : (10000 : Nat) ≤ sizeLine := by decide
                              omega)
  · rw [if_neg (by omega), if_neg (by simp; omega)]
    refine ⟨?_, .str (repS z n.toNat), H, I.tok _, ⟨_, rfl⟩, q⟩
    have : (repS z n.toNat).length ≤ sizeLine := by
      rw [repS_len, Nat.mul_comm]
      exact sz_of (by omega)
    exact this
theorem rv_repS {z : Str} {n : Int} {H : Hp} (h1 : 2 ≤ n) (h2 : n ≤ 100) (h3 : 1 ≤ z.length) (h4 : z.length ≤ 100) : RV rRepS (.str z) (.int n) H (.str (repS z n.toNat)) := fun H1 _ Q q => ⟨z, n, rfl, rfl, h1, h2, h3, h4, q H1 (Ex.refl H1)⟩
theorem rc_isi_list {K : PySem.W.Frag} {H : Hp} {a : Addr} {xs : List V} (h : H a = some (.lst xs)) : RC (rIsi K) [.ref a, .ty "list"] H (.bl true) := rc_isi (t' := .non) (.ty _) (fun H1 e => .base (.lst (e _ _ h))) (kit_ty (by decide +kernel))
local macro_rules | `(tactic| tm_at "rr.side") => `(tactic| (first | assumption | rfl | decide | (unfold CMul; omega) | (unfold CDiv; omega) | (unfold CPow; omega) | omega | (dsimp only; omega) | (dsimp only; decide)))
local macro_rules | `(tactic| tm_at "rr.step") => `(tactic| (first | exact ev_c | exact ev_var rfl | exact ea_nil | refine' ea_cons ?_ ?_ | refine' ev_op ?_ ?_ rv_I0 | refine' ev_op ?_ ?_ (rv_I ?_) | refine' ev_op ?_ ?_ (rv_eq ?_) | refine' ev_op ?_ ?_ (rv_ne ?_) | refine' ev_call ?_ ?_ | tm_at "rr.cv" | refine' et_test ?_ | refine' et_B ?_ | refine' et_and ?_ (fun _ => ?_) | refine' et_or ?_ (fun _ => ?_) | refine' et_not ?_ | refine' ev_andV ?_ (fun _ => ?_) | refine' ev_orV ?_ (fun _ => ?_) | refine' ev_notV ?_ | exact et_yes | refine' ev_cb ?_ rc_max2 | refine' ev_cb ?_ rc_min2 | refine' ev_cb ?_ rc_int_bl | refine' ev_cb ?_ (rc_lenS ?_) | refine' ev_un ?_ ru_neg | refine' ev_op ?_ ?_ rv_isN | refine' ev_op ?_ ?_ rv_notN | refine' ev_op ?_ ?_ (rv_addS ?_)))
local macro_rules | `(tactic| tm_at "rr.ev") => `(tactic| ((repeat' tm_at "rr.step"); all_goals (try tm_at "rr.side")))
theorem ev_joinA {K : PySem.W.Frag} {σ : L2.St} {H : Hp} {p : Addr} {to te : TE} {a : Str} {ys : List Str} (h : Ev to σ H (.str a)) (h2 : Ev te σ H (.ref p)) (hp : SqL K H p (ys.map V.str)) (hz : (ys.map (·.length)).sum + ys.length * a.length ≤ 16777216) :
    Ev (tM1 (fun x xs H Q => ∃ a p, ∃ ys : List Str, x = .str a ∧ xs = [.ref p] ∧ (SqL K H p (ys.map V.str) ∨ SqT K H p (ys.map V.str)) ∧ (ys.map (·.length)).sum + ys.length * a.length ≤ 16777216 ∧ Q (.str (Txt.join a ys)) H) to te) σ H (.str (Txt.join a ys)) := fun H1 e Q q =>
  h H1 e _ fun H2 e2 => ⟨⟨a, rfl⟩, h2 H2 (e.trans e2) _ fun H3 e3 => ⟨a, p, ys, rfl, rfl, .inl (ex_l ((e.trans e2).trans e3) hp), hz, q H3 (e2.trans e3)⟩⟩
theorem ev_joinL {K : PySem.W.Frag} {σ : L2.St} {H : Hp} {to te : TE} {a : Str} {ys : List Str} (h : Ev to σ H (.str a)) (h2 : EvL te σ H (ys.map V.str)) (hz : (ys.map (·.length)).sum + ys.length * a.length ≤ 16777216) :
    Ev (tM1 (fun x xs H Q => ∃ a p, ∃ ys : List Str, x = .str a ∧ xs = [.ref p] ∧ (SqL K H p (ys.map V.str) ∨ SqT K H p (ys.map V.str)) ∧ (ys.map (·.length)).sum + ys.length * a.length ≤ 16777216 ∧ Q (.str (Txt.join a ys)) H) to te) σ H (.str (Txt.join a ys)) := fun H1 e Q q =>
  h H1 e _ fun H2 e2 => ⟨⟨a, rfl⟩, h2 H2 (e.trans e2) _ fun p H3 hp e3 h3 => ⟨a, p, ys, rfl, rfl, .inl (sq_of h3), hz, q H3 (e2.trans e3)⟩⟩
/-! ### lists of tuples -/
/-- at a: a list of tuples -/
structure Tups (K : PySem.W.Frag) (H : Hp) (a : Addr) (vss : List (List V)) (ts : List Addr) : Prop where
  l : SqL K H a (ts.map V.ref)
  n : ts.length = vss.length
  t : ∀ (i : Nat) (t : Addr) (vs : List V), ts[i]? = some t → vss[i]? = some vs → SqT K H t vs
section
variable {K : PySem.W.Frag} {σ : L2.St} {H H' : Hp} {tl : TE} {l t a : Addr} {vss : List (List V)} {ts : List Addr} {vs : List V} {ta : TA}
theorem Tups.ex (r : Tups K H a vss ts) (e : Ex H H') : Tups K H' a vss ts := ⟨ex_l e r.l, r.n, fun i t vs h1 h2 => ex_t e (r.t i t vs h1 h2)⟩
theorem Tups.at_ (r : Tups K H a vss ts) {i : Nat} (h : vss[i]? = some vs) : ∃ t, (ts.map V.ref)[i]? = some (.ref t) ∧ SqT K H t vs := by
  have hi := (List.getElem?_eq_some_iff.mp h).1
  have h1 : i < ts.length := by rw [r.n]; exact hi
  exact ⟨ts[i], by rw [List.getElem?_map, List.getElem?_eq_getElem h1]; rfl, r.t i _ _ (List.getElem?_eq_getElem h1) h⟩
theorem Tups.snoc (r : Tups K H l vss ts) (hl : H l = some (.lst (ts.map V.ref))) (e : Ex H H') (ht : H' t = some (.tup vs)) : Tups K (upd H' l (.lst (ts.map V.ref ++ [.ref t]))) l (vss ++ [vs]) (ts ++ [t]) := by
  have hl' := e _ _ hl
  refine ⟨?_, ?_, fun i t' q h1 h2 => ?_⟩
  · rw [List.map_append]
    exact sq_of upd_same
  · rw [List.length_append, List.length_append, r.n]
    rfl
  · by_cases hi : i < vss.length
    · rw [List.getElem?_append_left (by rw [r.n]; exact hi)] at h1
      rw [List.getElem?_append_left hi] at h2
      exact sqT_upd (ex_t e (r.t i t' q h1 h2)) hl'
    · rw [List.getElem?_append_right (by rw [r.n]; omega)] at h1
      rw [List.getElem?_append_right (by omega)] at h2
      rw [r.n] at h1
      have ei : i - vss.length = 0 := by
        have := (List.getElem?_eq_some_iff.mp h2).1
        simp at this
        omega
      rw [ei] at h1 h2
      cases h1
      cases h2
      exact sqT_upd (st_of ht) hl'
/-- a new list of tuples comes -/
def EvR (K : PySem.W.Frag) (te : TE) (σ : L2.St) (H : Hp) (vss : List (List V)) : Prop := ∀ H1, Ex H H1 → ∀ Q : VK, (∀ p H2 ts, H1 p = none → Ex H1 H2 → H2 p = some (.lst (ts.map V.ref)) → Tups K H2 p vss ts → Q (.ref p) H2) → te σ H1 Q
theorem er_lc {α : Type} {ps : List α} {uu : α → V} {j : Nat} {ws : List Nat} (w : α → List V) (h : Ev tl σ H (.ref a)) (hx : SqL K H a (ps.map uu)) (hz : ps.length ≤ 40000) (hw : ∀ x, wipe ((wipe σ ws).set j (some x)) ws = wipe σ ws)
    (hl : ∀ q ∈ ps, (w q).length ≤ 1000) (he : ∀ q ∈ ps, ∀ H1, Ex H H1 → EvA ta ((wipe σ ws).set j (some (uu q))) H1 (w q)) : EvR K (tLc (iList K tl) (gName j) tYes (tTup ta) ws) σ H (ps.map w) := fun H0 e Q q => h H0 e _ fun H1 e1 => ⟨a, rfl, ⟨_, ex_l (e.trans e1) hx⟩, fun Dl hD =>
  lc_list (xs := ps.map uu) (fun i H' => Ex H1 H' ∧ ∃ ts : List Addr, H' Dl = some (.lst (ts.map V.ref)) ∧ Tups K H' Dl ((ps.take i).map w) ts) ⟨Ex.new hD, [], upd_same, sq_of upd_same, rfl, fun i t vs h _ => by simp at h⟩ (fun i H' _ p => ex_l ((e.trans e1).trans p.1) hx)
    (fun i x H' hi ⟨p1, ts, p2, p3⟩ => ⟨hw x, by
      refine iteT (B := Ex H1 H' ∧ ∃ ts : List Addr, H' Dl = some (.lst (ts.map V.ref)) ∧ Tups K H' Dl ((ps.take (i + 1)).map w) ts) ?_
      rw [List.getElem?_map] at hi
      cases hq : ps[i]? with
      | none => rw [hq] at hi; cases hi
      | some r =>
        rw [hq] at hi
        cases hi
        have hm := List.mem_of_getElem? hq
        refine he r hm H1 (e.trans e1) H' p1 _ fun H3 e3 => ⟨sz_of (by have := hl r hm; omega), fun t ht => ?_⟩
        have hlt := (List.getElem?_eq_some_iff.mp hq).1
        have p4 : (upd H3 t (.tup (w r))) Dl = some (.lst (ts.map V.ref)) := by rw [upd_ne (ne_of_none (e3 _ _ p2) ht)]; exact e3 _ _ p2
        refine ⟨_, p4, sz_lt (by rw [List.length_map, p3.n, List.length_map]; have := List.length_take_le i ps; omega), Ex.mut ((p1.trans e3).trans (Ex.new ht)) hD, ts ++ [t], by rw [List.map_append]; exact upd_same, ?_⟩
        have e9 : (ps.take (i + 1)).map w = (ps.take i).map w ++ [w r] := by rw [List.take_succ, hq, List.map_append]; rfl
        rw [e9]
        exact p3.snoc p2 (e3.trans (Ex.new ht)) upd_same⟩)
    (fun H' ⟨p1, ts, p2, p3⟩ => q Dl H' ts (fresh_back e1 hD) (e1.trans p1) p2 (by rw [List.length_map, List.take_length] at p3; exact p3))⟩
end
/-! a method that may raise, called within a try: what is wished of the exception knows the names -/
def tMethS (C : Addr) (m : Str) (sp : Sp) (E : L2.St → XK) (ta : TE) (t : TA) : TE := fun σ H Q => ta σ H fun x H1 => ∃ a dx fs, x = .ref a ∧ H1 a = some (.ins C dx fs) ∧ fs.lookup m = none ∧ t σ H1 fun vs H2 => sp (.ref a :: vs) H2 Q (E σ)
theorem pe_methS {X : Cx} {CX : CXT} {k : Nat} {f C : Addr} {fd : FuncData} {ps : List Str} {sp : Sp} {E : L2.St → XK} {m : Str} {pos apos : Pos} {e o : Expr} {es : List Expr} {ta : TE} {t : TA} {pl : Sem Bool} (he : PE X o ta) (c : Cls X.K C) (hm : Meth X.K C m f) (F : FnOk X.prog X.w X.K X.mg X.base CX k f fd ps sp) (hr : Room k X.A) (hb : L2.Binds X.K fd ps []) (hx : ∀ σ, PassesAt CX X σ (E σ)) (ha : PA X (e :: es) t)
    (hst : starEach (e :: es) X.env = (false, eval e X.env) :: starEach es X.env := by rfl) (hpl : (backTo pos (starEach es X.env)).any (·.1) = false := by rfl)
    (ht : eval (.Call (.Attribute o m apos) (e :: es) [] pos) X.env = (do
      let ov ← eval o X.env
      standAt apos.atName
      let (f, first) ← holding [ov] (getMethod ov m pl)
      callWith pos f first (backTo pos (starEach (e :: es) X.env)) (backToKw pos (keywordEach [] X.env))) := by rfl) :
    PE X (.Call (.Attribute o m apos) (e :: es) [] pos) (tMethS C m sp E ta t) := by
  refine ⟨fun pins s σ H Q I h => ?_⟩
  refine PySem.W.methodCall_KW (pl := pl) (thn (he.run pins s σ H _ I h) fun u s1 ⟨x, H1, I1, rx, a, dx, fs, ex, ea, l, q⟩ => ?_) ht
  subst ex
  obtain rfl : u = Value.ref a := rx
  refine getmeth_ok I1 ea c hm l ?_
  refine PySem.W.callWith_K (first := [.ref a]) (h₀ := X.base) I.ok.mod.kin hm.kp (thn (ha.run pos pins s1 σ H1 _ I1 q) fun us s2 ⟨vs, H2, I2, r, q2⟩ => ⟨I2.kIn, ?_⟩) hst hpl
  exact run_fnS (us := .ref a :: us) (vs := .ref a :: vs) F hr hb (hx σ) I2 (.cons rfl r) q2
/-! a class made within a try, whose __init__ may raise -/
def tMakeS (C : Addr) (sp : Sp) (E : L2.St → XK) (t : TA) : TE := fun σ H Q => t σ H fun vs H1 => ∀ x dx, H1 x = none → H1 dx = none → dx ≠ x →
  sp (.ref x :: vs) (upd (upd H1 dx (.own x)) x (.ins C dx [])) (fun v H2 => v = .non ∧ Q (.ref x) H2) (E σ)
theorem run_makeS {X : Cx} {CX : CXT} {k : Nat} {f C : Addr} {fd : FuncData} {ps : List Str} {sp : Sp} {E : XK} {pins : List (Addr × Obj)} {σ : L2.St} {H : Hp} {s : Shared} {Q : VK} {us : List Value} {vs : List V} (M : Mk X.K C f) (F : FnOk X.prog X.w X.K X.mg X.base CX k f fd ps sp) (hr : Room (k + 1) X.A) (hb : L2.Binds X.K fd ps [])
    (hx : PassesAt CX X σ E) (I : Inv X pins σ H s) (r : Vals vs us) (h : ∀ x dx, H x = none → H dx = none → dx ≠ x → sp (.ref x :: vs) (upd (upd H dx (.own x)) x (.ins C dx [])) (fun v H2 => v = .non ∧ Q (.ref x) H2) E) :
    wpAny (model X.prog X.w) X.A (call (.ref C) us) (EP X pins σ Q) X.xe s := by
  have hq := h (s.heap.objs.size + 1) s.heap.objs.size (I.hok.fresh (Nat.le_succ _)) (I.hok.fresh (Nat.le_refl _)) (Nat.ne_of_lt (Nat.lt_succ_self _))
  have I2 := Inv.made (C := C) I
  have r2 : Vals (V.ref (s.heap.objs.size + 1) :: vs) (Value.ref (s.heap.objs.size + 1) :: us) := .cons rfl r
  have hl : (Value.ref (s.heap.objs.size + 1) :: us).length = ps.length := by
    have e := r2.length
    rw [F.len _ _ _ _ hq] at e
    exact e.symm
  have b := hb _ (Value.ref (s.heap.objs.size + 1) :: us) I2.kIn (by rw [List.append_nil]; exact hl)
  rw [List.append_nil] at b
  refine wpAny_call (make_map (f := f) I.kIn M.makes M.init (beq_iff_eq.mp M.fn) (codeAny_mono (F.run _ X.stack _ _ ⟨Value.ref (s.heap.objs.size + 1) :: us, []⟩ (Value.ref (s.heap.objs.size + 1) :: us) _ _ E (hr.make C us []) (I2.env0.make C us []) b r2 hq) fun r s' h2 => ?_))
  cases r with
  | error e => exact hx pins _ _ e s' I2 h2
  | ok fl =>
    cases fl with
    | ret u =>
      obtain ⟨v, H', I3, rv, ev, q3⟩ := I2.after h2
      subst ev
      exact ⟨rv, ⟨V.ref (s.heap.objs.size + 1), H', I3, rfl, q3⟩⟩
    | next => exact False.elim h2
    | brk => exact False.elim h2
    | cont => exact False.elim h2
theorem pe_makeS {X : Cx} {CX : CXT} {k : Nat} {f C : Addr} {fd : FuncData} {ps : List Str} {sp : Sp} {E : L2.St → XK} {x : Str} {p pos : Pos} {e : Expr} {es : List Expr} {t : TA} (M : Mk X.K C f) (F : FnOk X.prog X.w X.K X.mg X.base CX k f fd ps sp) (hr : Room (k + 1) X.A) (hg : Gl X x) (hm : X.mg x = some (.ref C)) (hb : L2.Binds X.K fd ps []) (hx : ∀ σ, PassesAt CX X σ (E σ))
    (ha : PA X (e :: es) t) (hdb : (x == ("__debug__" : Str)) = false := by decide) (he : starEach (e :: es) X.env = (false, eval e X.env) :: starEach es X.env := by rfl) (hpl : (backTo pos (starEach es X.env)).any (·.1) = false := by rfl) :
    PE X (.Call (.Name x p) (e :: es) [] pos) (tMakeS C sp E t) := by
  refine ⟨fun pins s σ H Q I h => ?_⟩
  refine wpAny_Call_Name_kw (ld_glob I hg hm ?_ hdb)
  refine PySem.W.callWith_K (h₀ := X.base) I.ok.mod.kin M.kp (thn (ha.run pos pins s σ H _ I h) fun us s1 ⟨vs, H1, I1, r, q⟩ => ⟨I1.kIn, ?_⟩) he hpl
  exact run_makeS M F hr hb (hx σ) I1 r q

/-! ### L_cell_at -/
theorem sc_L_cell_at : FnScope ["_law_script", "_law_k"] ["_law_script", "_law_k"] (defScope s_L_cell_at) := ⟨rfl, rfl, rfl, by decide +kernel, rfl, by decide +kernel, by decide +kernel⟩
def cellAt (ns : List Int) (k : Int) : Int := if k < (ns.length : Int) then ns.getD k.toNat 0 else 0
def sp_L_cell_at (K : PySem.W.Frag) : Sp := fun vs H Q _ => ∃ (a : Addr) (ns : List Int) (i : Int), vs = [.ref a, .int i] ∧ SqL K H a (ns.map V.int) ∧ 0 ≤ i ∧ RetV (.int (cellAt ns i)) H Q
theorem cv_L_cell_at {K : PySem.W.Frag} {H : Hp} {a : Addr} {ns : List Int} {i : Int} (h : SqL K H a (ns.map V.int)) (h0 : 0 ≤ i) : SpV (sp_L_cell_at K) ([.ref a, .int i] ++ []) H (.int (cellAt ns i)) :=
  spv_call fun _ e _ _ k => ⟨a, ns, i, rfl, ex_l e h, h0, k⟩
local macro_rules | `(tactic| tm_at "rr.cv") => `(tactic| refine' cv_L_cell_at (by assumption) ?_)
theorem ok_L_cell_at {P : Program} {w : World} {K : PySem.W.Frag} {mg : Str → Option Value} {base : Heap} (T : Txt K mg) : ∃ fd, FnOk P w K mg base (CX0) 1 (He.ga K "_law_cell_at") fd ["_law_script", "_law_k"] (sp_L_cell_at K) ∧ Binds K fd ["_law_script", "_law_k"] [] ∧ FunD K "_law_cell_at" "_law_cell_at" (defArgs s_L_cell_at) (defBody s_L_cell_at) (defScope s_L_cell_at) [] [] (He.ga K "_law_cell_at") fd := by
  obtain ⟨fd, F⟩ := f_L_cell_at T
  refine ⟨fd, ok0 F sc_L_cell_at (fun vs H Q E h => ?_) (fun cdv A outer s H vs Q E hr h => ?_), FunD.bindsN F fun _ _ _ _ _ _ us hl => match us, hl with | [_, _], _ => rfl, F⟩
  · (repeat (obtain ⟨_, h⟩ := h)); subst_vars; rfl
  · obtain ⟨a, ns, i, rfl, hS, h0, k⟩ := h
    refine ⟨_, (pss_cons (ps_if (pt_cmpR op_lt (pv 1) (pe_callB (call_lenK (K := K) rfl) rfl (b_len T) (by decide +kernel) (pa_cons (pv 0) pa_nil)) (nomark _)) (pss_one (ps_ret (pe_ix (ix_listK (K := K) rfl) (pv 0) (pv 1) (fun _ _ => rfl))))
        pss_nil)
        (pss_one (ps_ret pe_int))), ?_⟩
    refine q_when (et_test (ev_op (ev_var rfl) (ev_cb (ea_cons (ev_var rfl) ea_nil) (rc_lenS hS)) rv_I0)) (fun hb H1 e1 => ?_) (fun hb H1 e1 => ?_)
    · have hlt : i < ((ns.map V.int).length : Int) := of_decide_eq_true hb
      rw [List.length_map] at hlt
      have ev : cellAt ns i = ns.getD i.toNat 0 := if_pos hlt
      have hv : atI (ns.map V.int) i = some (.int (cellAt ns i)) := by
        rw [ev]
        refine at_of (j := i.toNat) (by omega) ?_
        rw [List.getElem?_map, List.getD_eq_getElem?_getD]
        have : i.toNat < ns.length := by omega
        rw [List.getElem?_eq_getElem this] <;> rfl
      exact s_ret (ev_op (ev_var rfl) (ev_var rfl) (rv_ixL (ex_l e1 hS) hv)) fun H2 e2 => k H2 (e1.trans e2)
    · have hlt : ¬ i < ((ns.map V.int).length : Int) := of_decide_eq_false hb
      rw [List.length_map] at hlt
      have ev : cellAt ns i = 0 := if_neg hlt
      rw [ev] at k
      exact s_ret ev_c fun H2 e2 => k H2 (e1.trans e2)
def mix (c p m : Int) : Int := c * 48271 % p % m
theorem mix_nonneg {c p m : Int} (h : 0 < m) : 0 ≤ mix c p m := Int.emod_nonneg _ (by omega)
theorem mix_lt {c p m : Int} (h : 0 < m) : mix c p m < m := Int.emod_lt_of_pos _ h
theorem et_mix0 {σ : L2.St} {H : Hp} {te : TE} {x : Int} {a : Int} (h : Ev te σ H (.int x)) : EvT (tTest (tOp rEq te (tC (.int a)))) σ H (decide (x = a)) := et_is (et_test (ev_op h ev_c (rv_eq rfl))) (decide_eq_decide.mpr ⟨fun h => by injection h, fun h => by rw [h]⟩)
theorem pick4 {a b c d : V} {i : Int} (h0 : 0 ≤ i) (h4 : i < 4) : atI [a, b, c, d] i = some (match i.toNat with | 0 => a | 1 => b | 2 => c | _ => d) := by
  have : i = 0 ∨ i = 1 ∨ i = 2 ∨ i = 3 := by omega
  rcases this with rfl | rfl | rfl | rfl <;> rfl
abbrev figsS : Str := "0123456789"
abbrev signsS : Str := "abcdefghijklmnopqrstuvwxyz0123456789"
def isSign (c : Nat) : Bool := decide (c ∈ signsS.cps.toList)
def isName (s : Str) : Bool := decide (1 ≤ s.length) && decide (s.length ≤ 12) && s.cps.toList.all isSign
theorem len_app (a b : Str) : (a ++ b).length = a.length + b.length := by rw [TL.len_tl, TL.tl_append, List.length_append, ← TL.len_tl, ← TL.len_tl]
theorem joinL_nil : ∀ ps : List (List Nat), TL.joinL [] ps = ps.flatten
  | [] => rfl
  | [p] => by simp [TL.joinL]
  | p :: q :: r => by
    show p ++ ([] ++ TL.joinL [] (q :: r)) = _
    rw [joinL_nil (q :: r)]
    rfl
theorem isName_len {s : Str} (h : isName s = true) : 1 ≤ s.length ∧ s.length ≤ 12 := by
  unfold isName at h
  rw [Bool.and_eq_true, Bool.and_eq_true] at h
  exact ⟨of_decide_eq_true h.1.1, of_decide_eq_true h.1.2⟩
/-- a loop over a text's signs -/
theorem q_forS {K : PySem.W.Frag} {σ : L2.St} {H : Hp} {te : TE} {tu tz : TS} {D : Ends} {j : Nat} {x : Str} (h : Ev te σ H (.str x)) (Pv : Nat → L2.St → Hp → Prop) (h0 : ∀ H1, Ex H H1 → Pv 0 σ H1)
    (hs : ∀ i c σ' H', x.cps.toList[i]? = some c → Pv i σ' H' → tu { D with nx := Pv (i + 1), ct := Pv (i + 1), bk := tz D } (σ'.set j (some (.str ⟨#[c]⟩))) H') (hd : ∀ σ' H', Pv x.length σ' H' → tz D σ' H') : tSeq (tFor (iStr te) (gName j) tu) tz D σ H :=
  h H (Ex.refl H) _ fun H1 e => ⟨x, rfl, fun i m σ' H' => m = x.length - i ∧ i ≤ x.length ∧ Pv i σ' H', ⟨_, rfl, Nat.zero_le _, h0 H1 e⟩, by
    rintro i m σ' H' ⟨rfl, hi, p⟩
    by_cases hlt : i < x.length
    · refine .inr ⟨hlt, Pv (i + 1), fun σ2 H2 p2 => ⟨_, by omega, rfl, hlt, p2⟩, fun v H2 y => ?_⟩
      obtain ⟨e2, c, hc, ev⟩ := y
      subst e2 ev
      exact hs i c σ' _ (by rw [Array.getElem?_toList]; exact hc) p
    · have e2 : i = x.length := by omega
      subst e2
      exact .inl ⟨Nat.le_refl _, hd _ _ p⟩⟩
theorem rv_notInS {c : Nat} {z : Str} {H : Hp} : RV (fun x y H Q => ∃ (c : Nat) (z : Str), x = .str ⟨#[c]⟩ ∧ y = .str z ∧ Q (.bl (!decide (c ∈ z.cps.toList))) H) (.str ⟨#[c]⟩) (.str z) H (.bl (!decide (c ∈ z.cps.toList))) := fun H1 _ Q q => ⟨c, z, rfl, rfl, q H1 (Ex.refl H1)⟩
/-! ### the desk: plain data, and how the heap bears it -/
inductive Md where
  | rdy (s : Int) | slp (t : Int) | wtg (b : Str)
  deriving DecidableEq
structure Cl where
  nm : Str
  rk : Int
  md : Md
  deriving DecidableEq
structure Dk where
  pace : Int
  room : Int
  now : Int
  line : List Cl
def Md.st : Md → Str
  | .rdy _ => "ready"
  | .slp _ => "asleep"
  | .wtg _ => "waiting"
def Md.mark : Md → V
  | .rdy s => .int s
  | .slp t => .int t
  | .wtg b => .str b
def Md.isR : Md → Bool
  | .rdy _ => true
  | _ => false
def Md.isS : Md → Bool
  | .slp _ => true
  | _ => false
def Md.isW : Md → Bool
  | .wtg _ => true
  | _ => false
def Md.since : Md → Int
  | .rdy s => s
  | _ => 0
theorem mark_rdy {m : Md} (h : m.isR = true) : m.mark = .int m.since := by
  cases m with
  | rdy s => rfl
  | slp s => cases h
  | wtg s => cases h
def optS : Option Str → V
  | none => .non
  | some s => .str s
theorem st_ready : ∀ m : Md, decide (m.st = "ready") = m.isR
  | .rdy _ => (by decide +kernel : decide (("ready" : Str) = "ready") = true)
  | .slp _ => (by decide +kernel : decide (("asleep" : Str) = "ready") = false)
  | .wtg _ => (by decide +kernel : decide (("waiting" : Str) = "ready") = false)
theorem st_asleep : ∀ m : Md, decide (m.st = "asleep") = m.isS
  | .rdy _ => (by decide +kernel : decide (("ready" : Str) = "asleep") = false)
  | .slp _ => (by decide +kernel : decide (("asleep" : Str) = "asleep") = true)
  | .wtg _ => (by decide +kernel : decide (("waiting" : Str) = "asleep") = false)
theorem st_waiting : ∀ m : Md, decide (m.st = "waiting") = m.isW
  | .rdy _ => (by decide +kernel : decide (("ready" : Str) = "waiting") = false)
  | .slp _ => (by decide +kernel : decide (("asleep" : Str) = "waiting") = false)
  | .wtg _ => (by decide +kernel : decide (("waiting" : Str) = "waiting") = true)
def rfs (l g s m : V) : List (Str × V) := [("label", l), ("grade", g), ("stand", s), ("mark", m)]
def cfs (c : Cl) : List (Str × V) := rfs (.str c.nm) (.int c.rk) (.str c.md.st) c.md.mark
def dfs (d : Dk) (l : Addr) : List (Str × V) := [("pace", .int d.pace), ("room", .int d.room), ("now", .int d.now), ("line", .ref l)]
abbrev aC (K : PySem.W.Frag) : Addr := He.ga K "Caller"
abbrev aD (K : PySem.W.Frag) : Addr := He.ga K "Desk"
theorem ins_ne {C C' dx dx' l : Addr} {d : Dk} {a g s m : V} : HO.ins C dx (dfs d l) ≠ HO.ins C' dx' (rfs a g s m) := by
  intro q
  have h : dfs d l = rfs a g s m := by injection q
  have h2 : (("pace" : Str), V.int d.pace) = (("label" : Str), a) := (List.cons.inj h).1
  have h3 : ("pace" : Str) = "label" := congrArg (·.1) h2
  exact absurd h3 (by decide +kernel)
def CAt (K : PySem.W.Frag) (H : Hp) (a : Addr) (c : Cl) : Prop := ∃ dx, H a = some (.ins (aC K) dx (cfs c))
abbrev Pr : Type := Addr × Cl
/-- a desk at p, its line at l, its callers with their addresses -/
structure DkAt (K : PySem.W.Frag) (H : Hp) (p : Addr) (d : Dk) (l : Addr) (ps : List Pr) : Prop where
  ob : ∃ dx, H p = some (.ins (aD K) dx (dfs d l))
  ln : H l = some (.lst (ps.map fun q => V.ref q.1))
  eq : d.line = ps.map (·.2)
  at_ : ∀ q ∈ ps, CAt K H q.1 q.2
/-- what stands beside the desk, all kept -/
structure Fr (F H : Hp) (p l : Addr) (ps : List Pr) : Prop where
  ex : Ex F H
  p0 : F p = none
  l0 : F l = none
  c0 : ∀ q ∈ ps, F q.1 = none
def DeskAt (K : PySem.W.Frag) (F H : Hp) (p : Addr) (d : Dk) : Prop := ∃ l ps, DkAt K H p d l ps ∧ Fr F H p l ps
def MdOk (now : Int) : Md → Prop
  | .rdy s => 0 ≤ s ∧ s ≤ now
  | .slp t => now < t ∧ t ≤ now + 1000
  | .wtg b => isName b = true
def ClOk (now : Int) (c : Cl) : Prop := isName c.nm = true ∧ 0 ≤ c.rk ∧ c.rk ≤ 99 ∧ MdOk now c.md
structure Dk.Ok (d : Dk) : Prop where
  p1 : 1 ≤ d.pace
  p2 : d.pace ≤ 1000
  r1 : 1 ≤ d.room
  r2 : d.room ≤ 60
  n0 : 0 ≤ d.now
  len : (d.line.length : Int) ≤ d.room
  nd : (d.line.map (·.nm)).Nodup
  cl : ∀ c ∈ d.line, ClOk d.now c
theorem Dk.Ok.len60 {d : Dk} (h : d.Ok) : d.line.length ≤ 60 := by have := h.len; have := h.r2; omega
section
variable {K : PySem.W.Frag} {F H H' H1 : Hp} {p l a q : Addr} {d : Dk} {ps : List Pr} {c : Cl}
theorem CAt.ex (h : CAt K H a c) (e : Ex H H') : CAt K H' a c := let ⟨dx, h⟩ := h; ⟨dx, e _ _ h⟩
theorem DkAt.ex (h : DkAt K H p d l ps) (e : Ex H H') : DkAt K H' p d l ps := ⟨let ⟨dx, h⟩ := h.ob; ⟨dx, e _ _ h⟩, e _ _ h.ln, h.eq, fun q hq => (h.at_ q hq).ex e⟩
theorem Fr.mono (h : Fr F H p l ps) (e : Ex H H') : Fr F H' p l ps := ⟨h.ex.trans e, h.p0, h.l0, h.c0⟩
theorem DeskAt.ex (h : DeskAt K F H p d) (e : Ex H H') : DeskAt K F H' p d := let ⟨l, ps, a, b⟩ := h; ⟨l, ps, a.ex e, b.mono e⟩
theorem DeskAt.fr (h : DeskAt K F H p d) : Ex F H := let ⟨_, _, _, b⟩ := h; b.ex
theorem DkAt.len (h : DkAt K H p d l ps) : ps.length = d.line.length := by rw [h.eq, List.length_map]
/-- a new object joins what stands beside -/
theorem Fr.new {o : HO} (f : Fr F H p l ps) (h : DkAt K H p d l ps) (hq : H q = none) (e : Ex H H1) (h1 : H1 q = some o) : Fr (upd F q o) H1 p l ps := by
  have ne : ∀ b u, H b = some u → b ≠ q := fun b u hb => ne_of_none hb hq
  obtain ⟨dx, hp⟩ := h.ob
  refine ⟨fun b u hb => ?_, by rw [upd_ne (ne _ _ hp)]; exact f.p0, by rw [upd_ne (ne _ _ h.ln)]; exact f.l0, fun r hr => ?_⟩
  · by_cases hbq : b = q
    · rw [hbq, upd_same] at hb
      rw [hbq, h1, hb]
    · rw [upd_ne hbq] at hb
      exact e _ _ (f.ex _ _ hb)
  · obtain ⟨dc, hc⟩ := h.at_ r hr
    rw [upd_ne (ne _ _ hc)]
    exact f.c0 r hr
theorem DeskAt.new {o : HO} (h : DeskAt K F H p d) (hq : H q = none) (e : Ex H H1) (h1 : H1 q = some o) : DeskAt K (upd F q o) H1 p d := let ⟨l, ps, a, b⟩ := h; ⟨l, ps, a.ex e, b.new a hq e h1⟩
/-- an object beside the desk is written -/
theorem Fr.set {o u : HO} (f : Fr F H p l ps) (h : DkAt K H p d l ps) (hq : F q = some o) : Fr (upd F q u) (upd H q u) p l ps ∧ DkAt K (upd H q u) p d l ps := by
  have np : p ≠ q := fun e => by have := f.p0; rw [e, hq] at this; cases this
  have nl : l ≠ q := fun e => by have := f.l0; rw [e, hq] at this; cases this
  have nc : ∀ r ∈ ps, r.1 ≠ q := fun r hr e => by have := f.c0 r hr; rw [e, hq] at this; cases this
  refine ⟨⟨fun b v hb => ?_, by rw [upd_ne np]; exact f.p0, by rw [upd_ne nl]; exact f.l0, fun r hr => by rw [upd_ne (nc r hr)]; exact f.c0 r hr⟩, ⟨?_, by rw [upd_ne nl]; exact h.ln, h.eq, fun r hr => ?_⟩⟩
  · by_cases hbq : b = q
    · rw [hbq, upd_same] at hb ⊢
      exact hb
    · rw [upd_ne hbq] at hb ⊢
      exact f.ex _ _ hb
  · obtain ⟨dx, hp⟩ := h.ob
    exact ⟨dx, by rw [upd_ne np]; exact hp⟩
  · obtain ⟨dc, hc⟩ := h.at_ r hr
    exact ⟨dc, by rw [upd_ne (nc r hr)]; exact hc⟩
theorem DeskAt.set {o u : HO} (h : DeskAt K F H p d) (hq : F q = some o) : DeskAt K (upd F q u) (upd H q u) p d := let ⟨l, ps, a, b⟩ := h; ⟨l, ps, (b.set a hq).2, (b.set a hq).1⟩
theorem DkAt.mem_nm (h : DkAt K H p d l ps) {r r' : Pr} (h1 : r ∈ ps) (h2 : r' ∈ ps) (e : r.1 = r'.1) : r.2.nm = r'.2.nm := by
  obtain ⟨d1, e1⟩ := h.at_ r h1
  obtain ⟨d2, e2⟩ := h.at_ r' h2
  rw [e, e2] at e1
  have q := Option.some.inj e1
  have h : cfs r'.2 = cfs r.2 := by injection q
  have h2 : (("label" : Str), V.str r'.2.nm) = (("label" : Str), V.str r.2.nm) := (List.cons.inj h).1
  exact (V.str.inj (congrArg (·.2) h2)).symm
theorem nodup_pr {ps : List Pr} (h : (ps.map fun q => q.2.nm).Nodup) {r r' : Pr} (h1 : r ∈ ps) (h2 : r' ∈ ps) (e : r.2.nm = r'.2.nm) : r = r' := by
  induction ps with
  | nil => cases h1
  | cons q ps ih =>
    rw [List.map_cons, List.nodup_cons] at h
    rcases List.mem_cons.mp h1 with rfl | h1'
    · rcases List.mem_cons.mp h2 with rfl | h2'
      · rfl
      · exact absurd (e ▸ List.mem_map.mpr ⟨r', h2', rfl⟩) h.1
    · rcases List.mem_cons.mp h2 with rfl | h2'
      · exact absurd (e ▸ List.mem_map.mpr ⟨r, h1', rfl⟩) h.1
      · exact ih h.2 h1' h2'
theorem DkAt.nd (h : DkAt K H p d l ps) (o : (d.line.map (·.nm)).Nodup) : (ps.map fun q => q.2.nm).Nodup := by
  rw [h.eq, List.map_map] at o
  exact o
end
def putC (L : List Cl) (c : Cl) : List Cl := L.filter (fun o => !decide (o.nm = c.nm)) ++ [c]
def putP (ps : List Pr) (q : Pr) : List Pr := ps.filter (fun o => !decide (o.2.nm = q.2.nm)) ++ [q]
theorem putP_mem {ps : List Pr} {q r : Pr} (h : r ∈ ps) (n : r.2.nm ≠ q.2.nm) : r ∈ putP ps q := List.mem_append_left _ (List.mem_filter.mpr ⟨h, by simp [n]⟩)
theorem putP_self {ps : List Pr} {q : Pr} : q ∈ putP ps q := List.mem_append_right _ (List.mem_singleton.mpr rfl)
theorem putP_line (ps : List Pr) (q : Pr) : (putP ps q).map (·.2) = putC (ps.map (·.2)) q.2 := by
  unfold putP putC
  rw [List.map_append, List.filter_map]
  rfl
def Dk.put (d : Dk) (c : Cl) : Dk := { d with line := putC d.line c }
structure Dk.Wf (d : Dk) : Prop where
  p1 : 1 ≤ d.pace
  p2 : d.pace ≤ 1000
  len : d.line.length ≤ 60
  nd : (d.line.map (·.nm)).Nodup
theorem Dk.Ok.wf {d : Dk} (h : d.Ok) : d.Wf := ⟨h.p1, h.p2, h.len60, h.nd⟩
theorem putC_mem {L : List Cl} {c x : Cl} : x ∈ putC L c ↔ (x ∈ L ∧ x.nm ≠ c.nm) ∨ x = c := by
  unfold putC
  rw [List.mem_append, List.mem_filter, List.mem_singleton]
  simp
theorem putC_len {L : List Cl} {c c0 : Cl} (nd : (L.map (·.nm)).Nodup) (h0 : c0 ∈ L) (e : c0.nm = c.nm) : (putC L c).length = L.length := by
  unfold putC
  rw [List.length_append, List.length_singleton]
  induction L with
  | nil => cases h0
  | cons x L ih =>
    rw [List.map_cons, List.nodup_cons] at nd
    by_cases hx : x.nm = c.nm
    · rw [List.filter_cons, if_neg (by simp [hx])]
      have : L.filter (fun o => !decide (o.nm = c.nm)) = L := List.filter_eq_self.mpr fun o ho => by
        have : o.nm ≠ c.nm := fun q => nd.1 (by rw [hx, ← q]; exact List.mem_map.mpr ⟨o, ho, rfl⟩)
        simp [this]
      rw [this, List.length_cons]
    · rw [List.filter_cons, if_pos (by simp [hx]), List.length_cons, List.length_cons]
      rcases List.mem_cons.mp h0 with rfl | h0
      · exact absurd e hx
      · have := ih nd.2 h0
        omega
theorem filter_nodup {L : List Cl} {g : Cl → Bool} (nd : (L.map (·.nm)).Nodup) : ((L.filter g).map (·.nm)).Nodup := (List.filter_sublist.map _).nodup nd
theorem putC_nd {L : List Cl} {c : Cl} (nd : (L.map (·.nm)).Nodup) : ((putC L c).map (·.nm)).Nodup := by
  unfold putC
  rw [List.map_append, List.nodup_append]
  refine ⟨filter_nodup nd, by simp, fun a ha b hb => ?_⟩
  obtain ⟨x, hx, rfl⟩ := List.mem_map.mp ha
  have hx := (List.mem_filter.mp hx).2
  simp at hb hx
  rw [hb]
  exact hx
theorem Dk.Wf.put {d : Dk} (h : d.Wf) {c c0 : Cl} (h0 : c0 ∈ d.line) (e : c0.nm = c.nm) : (d.put c).Wf := ⟨h.p1, h.p2, by show (putC d.line c).length ≤ 60; rw [putC_len h.nd h0 e]; exact h.len, putC_nd h.nd⟩
theorem Dk.Ok.put {d : Dk} (ok : d.Ok) {c : Cl} {md : Md} (hc : c ∈ d.line) (hm : MdOk d.now md) : (d.put ⟨c.nm, c.rk, md⟩).Ok := by
  have hl : (putC d.line ⟨c.nm, c.rk, md⟩).length = d.line.length := putC_len ok.nd hc rfl
  refine ⟨ok.p1, ok.p2, ok.r1, ok.r2, ok.n0, by show ((putC d.line _).length : Int) ≤ d.room; rw [hl]; exact ok.len, putC_nd ok.nd, fun x hx => ?_⟩
  rcases putC_mem.mp hx with ⟨h, _⟩ | rfl
  · exact ok.cl x h
  · have := ok.cl c hc
    exact ⟨this.1, this.2.1, this.2.2.1, hm⟩
theorem nm_inj {L : List Cl} (nd : (L.map (·.nm)).Nodup) {a b : Cl} (ha : a ∈ L) (hb : b ∈ L) (e : a.nm = b.nm) : a = b := by
  induction L with
  | nil => cases ha
  | cons x L ih =>
    rw [List.map_cons, List.nodup_cons] at nd
    rcases List.mem_cons.mp ha with rfl | ha'
    · rcases List.mem_cons.mp hb with rfl | hb'
      · rfl
      · exact absurd (e ▸ List.mem_map.mpr ⟨b, hb', rfl⟩) nd.1
    · rcases List.mem_cons.mp hb with rfl | hb'
      · exact absurd (e ▸ List.mem_map.mpr ⟨a, ha', rfl⟩) nd.1
      · exact ih nd.2 ha' hb'
/-- the caller of a name -/
def Dk.get (d : Dk) (nm : Str) : Option Cl := d.line.find? fun c => decide (c.nm = nm)
def enterErr (d : Dk) (nm : Str) (rk : Int) : Option Str :=
  if isName nm = false then some "NoName" else if rk < 0 ∨ 99 < rk then some "NoRank" else if nm ∈ d.line.map (·.nm) then some "Known" else if d.room ≤ (d.line.length : Int) then some "Full" else none
def Dk.enter (d : Dk) (nm : Str) (rk : Int) : Dk := { d with line := d.line ++ [⟨nm, rk, .rdy d.now⟩] }
def Dk.leave (d : Dk) (nm : Str) : Dk := { d with line := d.line.filter fun o => !decide (o.nm = nm) }
def sleepErr (d : Dk) (nm : Str) (m : Int) : Option Str := match d.get nm with
  | none => some "Unknown"
  | some c => if m < 1 ∨ 1000 < m then some "NoSpan" else if c.md.isR = true then none else some "NotReady"
def waitErr (d : Dk) (nm b : Str) : Option Str := match d.get nm with
  | none => some "Unknown"
  | some c => if isName b = false then some "NoName" else if c.md.isR = true then none else some "NotReady"
def wakeErr (d : Dk) (nm : Str) : Option Str := match d.get nm with
  | none => some "Unknown"
  | some c => if c.md.isR = true then some "IsReady" else none
def rerankErr (d : Dk) (nm : Str) (rk : Int) : Option Str := match d.get nm with
  | none => some "Unknown"
  | some c => if rk < 0 ∨ 99 < rk then some "NoRank" else if c.md.isR = true then some "IsReady" else none
def Dk.setRk (d : Dk) (nm : Str) (rk : Int) : Dk := { d with line := d.line.map fun c => if c.nm = nm then ⟨c.nm, rk, c.md⟩ else c }
theorem Dk.get_some {d : Dk} {nm : Str} {c : Cl} (h : d.get nm = some c) : c ∈ d.line ∧ c.nm = nm := ⟨List.mem_of_find?_eq_some h, by simpa using List.find?_some h⟩
theorem Dk.get_none {d : Dk} {nm : Str} (h : d.get nm = none) : ∀ c ∈ d.line, c.nm ≠ nm := fun c hc => by
  have := List.find?_eq_none.mp h c hc
  simpa using this
theorem Dk.get_of {d : Dk} (nd : (d.line.map (·.nm)).Nodup) {c : Cl} (hc : c ∈ d.line) : d.get c.nm = some c := by
  cases h : d.get c.nm with
  | none => exact absurd rfl (Dk.get_none h c hc)
  | some c' =>
    obtain ⟨h1, h2⟩ := Dk.get_some h
    congr 1
    generalize d.line = L at *
    induction L with
    | nil => cases hc
    | cons x L ih =>
      rw [List.map_cons, List.nodup_cons] at nd
      rcases List.mem_cons.mp h1 with rfl | k1
      · rcases List.mem_cons.mp hc with rfl | k2
        · rfl
        · exact absurd (List.mem_map.mpr ⟨c, k2, h2.symm⟩) nd.1
      · rcases List.mem_cons.mp hc with rfl | k2
        · exact absurd (List.mem_map.mpr ⟨c', k1, h2⟩) nd.1
        · exact ih nd.2 k2 k1
theorem DkAt.get {K : PySem.W.Frag} {H : Hp} {p l : Addr} {d : Dk} {ps : List Pr} (D : DkAt K H p d l ps) {nm : Str} {c : Cl} (h : d.get nm = some c) : ∃ q ∈ ps, q.2 = c ∧ c.nm = nm := by
  obtain ⟨h1, h2⟩ := Dk.get_some h
  rw [D.eq] at h1
  obtain ⟨q, hq, e⟩ := List.mem_map.mp h1
  exact ⟨q, hq, e, h2⟩
theorem DkAt.get_of {K : PySem.W.Frag} {H : Hp} {p l : Addr} {d : Dk} {ps : List Pr} (D : DkAt K H p d l ps) (W : d.Wf) {q : Pr} (hq : q ∈ ps) : d.get q.2.nm = some q.2 := Dk.get_of W.nd (by rw [D.eq]; exact List.mem_map.mpr ⟨q, hq, rfl⟩)
theorem DkAt.get_none {K : PySem.W.Frag} {H : Hp} {p l : Addr} {d : Dk} {ps : List Pr} (D : DkAt K H p d l ps) {nm : Str} (h : ∀ q ∈ ps, q.2.nm ≠ nm) : d.get nm = none := by
  cases e : d.get nm with
  | none => rfl
  | some c =>
    obtain ⟨q, hq, h1, h2⟩ := D.get e
    exact absurd (by rw [h1, h2]) (h q hq)
theorem Fr.sub {F G H : Hp} {p l : Addr} {ps : List Pr} (f : Fr F H p l ps) (h : ∀ a o, G a = some o → F a = some o) : Fr G H p l ps := by
  have no : ∀ a, F a = none → G a = none := fun a ha => by
    cases e : G a with
    | none => rfl
    | some o => rw [h a o e] at ha; cases ha
  exact ⟨fun a o e => f.ex a o (h a o e), no _ f.p0, no _ f.l0, fun q hq => no _ (f.c0 q hq)⟩
theorem DeskAt.sub {K : PySem.W.Frag} {F G H : Hp} {p : Addr} {d : Dk} (D : DeskAt K F H p d) (h : ∀ a o, G a = some o → F a = some o) : DeskAt K G H p d := let ⟨l, ps, a, b⟩ := D; ⟨l, ps, a, b.sub h⟩
theorem upd_sub {F : Hp} {a : Addr} {x : HO} (h : F a = none) : ∀ b o, F b = some o → upd F a x b = some o := fun b o e => by rw [upd_ne (ne_of_none e h)]; exact e
theorem upd_mono {F G : Hp} {a : Addr} {x : HO} (h : ∀ b o, F b = some o → G b = some o) : ∀ b o, upd F a x b = some o → upd G a x b = some o := fun b o e => by
  by_cases c : b = a
  · rw [c, upd_same] at e ⊢
    exact e
  · rw [upd_ne c] at e ⊢
    exact h b o e
theorem ex_none {F H : Hp} {a : Addr} (e : Ex F H) (h : H a = none) : F a = none := by
  cases q : F a with
  | none => rfl
  | some o => rw [e _ _ q] at h; cases h
theorem decV (a b : Str) : decide (V.str a = V.str b) = decide (a = b) := decide_eq_decide.mpr ⟨V.str.inj, congrArg _⟩
section
variable {K : PySem.W.Frag} {mg : Str → Option Value} {σ : L2.St} {F H H' H1 : Hp} {p l a q : Addr} {d : Dk} {ps : List Pr} {c : Cl} {ta : TE}
theorem ev_pace (T : Txt K mg) (h : Ev ta σ H (.ref p)) (D : DkAt K H p d l ps) : Ev (tFld K ta "pace") σ H (.int d.pace) := ev_fldx h D.ob (c_Desk T) (n_Desk_pace T) rfl
theorem ev_room (T : Txt K mg) (h : Ev ta σ H (.ref p)) (D : DkAt K H p d l ps) : Ev (tFld K ta "room") σ H (.int d.room) := ev_fldx h D.ob (c_Desk T) (n_Desk_room T) rfl
theorem ev_now (T : Txt K mg) (h : Ev ta σ H (.ref p)) (D : DkAt K H p d l ps) : Ev (tFld K ta "now") σ H (.int d.now) := ev_fldx h D.ob (c_Desk T) (n_Desk_now T) rfl
theorem ev_line (T : Txt K mg) (h : Ev ta σ H (.ref p)) (D : DkAt K H p d l ps) : Ev (tFld K ta "line") σ H (.ref l) := ev_fldx h D.ob (c_Desk T) (n_Desk_line T) rfl
theorem ev_label (T : Txt K mg) (h : Ev ta σ H (.ref a)) (C : CAt K H a c) : Ev (tFld K ta "label") σ H (.str c.nm) := ev_fldx h C (c_Caller T) (n_Caller_label T) rfl
theorem ev_grade (T : Txt K mg) (h : Ev ta σ H (.ref a)) (C : CAt K H a c) : Ev (tFld K ta "grade") σ H (.int c.rk) := ev_fldx h C (c_Caller T) (n_Caller_grade T) rfl
theorem ev_stand (T : Txt K mg) (h : Ev ta σ H (.ref a)) (C : CAt K H a c) : Ev (tFld K ta "stand") σ H (.str c.md.st) := ev_fldx h C (c_Caller T) (n_Caller_stand T) rfl
theorem ev_mark (T : Txt K mg) (h : Ev ta σ H (.ref a)) (C : CAt K H a c) : Ev (tFld K ta "mark") σ H c.md.mark := ev_fldx h C (c_Caller T) (n_Caller_mark T) rfl
end
theorem q_makeA {σ : L2.St} {H : Hp} {tz : TS} {D : Ends} {i : Nat} {C : Addr} {sp : Sp} {E : XK} {tr : TA} (h : tr σ H fun vs H1 => ∀ x dx, H1 x = none → H1 dx = none → dx ≠ x → sp (.ref x :: (vs ++ [])) (upd (upd H1 dx (.own x)) x (.ins C dx [])) (fun v H2 => v = .non ∧ tz D (σ.set i (some (.ref x))) H2) E) :
    tSeq (tAsg (tMake C sp [] E tr) (gName i)) tz D σ H := h
theorem DeskAt.made {K : PySem.W.Frag} {H10 H11 : Hp} {x dx l : Addr} {d : Dk} {o1 o2 : HO} (nx : H10 x = none) (ndx : H10 dx = none) (D : DkAt K H11 x d l []) (nl : upd (upd H10 dx o1) x o2 l = none) (k11 : ∀ b o, upd (upd H10 dx o1) x o2 b = some o → b ≠ x → H11 b = some o) : DeskAt K H10 H11 x d := by
  have u10 : ∀ b o, H10 b = some o → upd (upd H10 dx o1) x o2 b = some o := fun b o hb => by rw [upd_ne (ne_of_none hb nx), upd_ne (ne_of_none hb ndx)]; exact hb
  exact ⟨l, [], D, ⟨fun b o hb => k11 b o (u10 b o hb) (ne_of_none hb nx), nx, ex_none (fun b o hb => u10 b o hb) nl, fun q hq => by cases hq⟩⟩
theorem DkAt.setNow {K : PySem.W.Frag} {F H : Hp} {p l dx : Addr} {d : Dk} {ps : List Pr} {n : Int} (D : DkAt K H p d l ps) (f : Fr F H p l ps) (hp : H p = some (.ins (aD K) dx (dfs d l))) :
    DkAt K (upd H p (.ins (aD K) dx (putF "now" (.int n) (dfs d l)))) p { d with now := n } l ps ∧ Fr F (upd H p (.ins (aD K) dx (putF "now" (.int n) (dfs d l)))) p l ps := by
  have ca : ∀ {b o}, b ≠ p → H b = some o → upd H p (.ins (aD K) dx (putF "now" (.int n) (dfs d l))) b = some o := fun hb ho => by rw [upd_ne hb]; exact ho
  refine ⟨⟨⟨dx, upd_same⟩, ca (ne_of D.ln hp (by intro z; cases z)) D.ln, D.eq, fun q hq => ?_⟩, ⟨fun b o hb => ca (fun e => by have := f.p0; rw [← e, hb] at this; cases this) (f.ex _ _ hb), f.p0, f.l0, f.c0⟩⟩
  obtain ⟨dq, h⟩ := D.at_ q hq
  exact ⟨dq, ca (fun e => by rw [e, hp] at h; exact ins_ne (Option.some.inj h)) h⟩
/-! ### desk_init -/
theorem sc_desk_init : FnScope ["self", "pace", "room"] ["self", "pace", "room"] (defScope s_desk_init) := ⟨rfl, rfl, rfl, by decide +kernel, rfl, by decide +kernel, by decide +kernel⟩
def sp_desk_init (K : PySem.W.Frag) : Sp := fun vs H Q E => ∃ (x dx : Addr) (pa ro : Int), vs = [.ref x, .int pa, .int ro] ∧ H x = some (.ins (aD K) dx []) ∧
  ((1 ≤ pa ∧ pa ≤ 1000 ∧ 1 ≤ ro ∧ ro ≤ 60) → ∀ (H' : Hp) (l : Addr), DkAt K H' x ⟨pa, ro, 0, []⟩ l [] → H l = none → (∀ b o, H b = some o → b ≠ x → H' b = some o) → Q .non H') ∧
  (¬ (1 ≤ pa ∧ pa ≤ 1000 ∧ 1 ≤ ro ∧ ro ≤ 60) → ∀ H', Ex H H' → E (.ref (He.ga K "NoDesk")) none H')
theorem ok_desk_init {P : Program} {w : World} {K : PySem.W.Frag} {mg : Str → Option Value} {base : Heap} (T : Txt K mg) : ∃ fd, FnOk P w K mg base (L2N.CX P w) 1 (He.ma K (He.ga K "Desk") "__init__") fd ["self", "pace", "room"] (sp_desk_init K) ∧ Binds K fd ["self", "pace", "room"] [] ∧ FunD K "__init__" "Desk.__init__" (defArgs s_desk_init) (defBody s_desk_init) (defScope s_desk_init) [] [] (He.ma K (He.ga K "Desk") "__init__") fd := by
  obtain ⟨fd, F⟩ := f_desk_init T
  obtain ⟨t_MOST_PACE, hk_MOST_PACE⟩ := k_MOST_PACE T
  obtain ⟨t_MOST_ROOM, hk_MOST_ROOM⟩ := k_MOST_ROOM T
  refine ⟨fd, okXN F sc_desk_init (fun vs H Q E h => ?_) (fun cdv A outer s H vs Q E hr h => ?_), FunD.bindsN F fun _ _ _ _ _ _ us hl => match us, hl with | [_, _, _], _ => rfl, F⟩
  · (repeat (obtain ⟨_, h⟩ := h)); subst_vars; rfl
  · obtain ⟨x, dx, pa, ro, rfl, hx, k, kE⟩ := h
    refine ⟨_, (pss_cons (ps_if (PW.pt (pw_or (pt_cmpR op_lt (pv 1) pe_int (nomark _)) (pw_or (pt_cmpR op_gt (pv 1) (pe_glob (v := .int 1000) rfl hk_MOST_PACE ⟨_, rfl⟩) (nomark _)) (pw_or (pt_cmpR op_lt (pv 2) pe_int (nomark _)) (pw_or1 (pt_cmpR op_gt (pv 2) (pe_glob (v := .int 60) rfl hk_MOST_ROOM ⟨_, rfl⟩) (nomark _))))))) (pss_one (L2N.ps_raise rfl (L2N.takes_of rfl rfl rfl rfl) (L2N.pmk_own PySem.F.excBase_ValueError (x_NoDesk T).1 (g_NoDesk T) (x_NoDesk T).2.1 (raises_own (x_NoDesk T).2.2.1 (x_NoDesk T).2.2.2) rfl)))
        pss_nil)
        (pss_cons (ps_fld (pv 0) (pv 1) rfl)
        (pss_cons (ps_fld (pv 0) (pv 2) rfl)
        (pss_cons (ps_fld (pv 0) pe_int rfl)
        (pss_one (ps_fld (pv 0) (pe_lst pa_nil) rfl)))))), ?_⟩
    refine' q_when ?h (fun hb H1 e1 => ?_) (fun hb H1 e1 => ?_)
    case h => tm_at "rr.ev"
    · refine kE (fun ⟨h1, h2, h3, h4⟩ => ?_) H1 e1
      rw [decide_eq_false (by omega), decide_eq_false (by omega), decide_eq_false (by omega), decide_eq_false (by omega)] at hb
      exact absurd hb (by decide)
    · rw [Bool.or_eq_false_iff, Bool.or_eq_false_iff, Bool.or_eq_false_iff] at hb
      obtain ⟨h1, h2, h3, h4⟩ := hb
      have h1 := of_decide_eq_false h1
      have h2 := of_decide_eq_false h2
      have h3 := of_decide_eq_false h3
      have h4 := of_decide_eq_false h4
      have hx1 := e1 _ _ hx
      refine ⟨_, rfl, _, rfl, x, aD K, dx, _, rfl, hx1, c_Desk T, n_Desk_pace T, (by show 0 < 1000; decide), ?_⟩
      refine ⟨_, rfl, _, rfl, x, aD K, dx, _, rfl, upd_same, c_Desk T, n_Desk_room T, (by show 1 < 1000; decide), ?_⟩
      refine ⟨_, rfl, x, aD K, dx, _, rfl, upd_same, c_Desk T, n_Desk_now T, (by show 2 < 1000; decide), ?_⟩
      refine ⟨(by decide), fun l hl => ?_⟩
      rw [upd_upd, upd_upd] at hl ⊢
      have nlx : l ≠ x := fun e => by rw [e, upd_same] at hl; cases hl
      rw [upd_ne nlx] at hl
      refine ⟨_, rfl, x, aD K, dx, _, rfl, (by rw [upd_ne nlx.symm]; exact upd_same), c_Desk T, n_Desk_line T, (by show 3 < 1000; decide), ?_⟩
      refine k (by omega) _ l ⟨⟨dx, upd_same⟩, by rw [upd_ne nlx]; exact upd_same, rfl, fun q hq => by cases hq⟩ ?_ fun b o e hb => ?_
      · cases q : H l with
        | none => rfl
        | some o => rw [e1 _ _ q] at hl; cases hl
      · have e2 := e1 _ _ e
        rw [upd_ne hb, upd_ne (ne_of_none e2 hl), upd_ne hb]
        exact e2
/-! ### L_mix -/
theorem sc_L_mix : FnScope ["_law_cell", "_law_prime", "_law_many"] ["_law_cell", "_law_prime", "_law_many"] (defScope s_L_mix) := ⟨rfl, rfl, rfl, by decide +kernel, rfl, by decide +kernel, by decide +kernel⟩
def sp_L_mix (_ : PySem.W.Frag) : Sp := fun vs H Q _ => ∃ (c p m : Int), vs = [.int c, .int p, .int m] ∧ 0 < p ∧ 0 < m ∧ RetV (.int (mix c p m)) H Q
theorem cv_L_mix {K : PySem.W.Frag} {H : Hp} {c p m : Int} (h1 : 0 < p) (h2 : 0 < m) : SpV (sp_L_mix K) ([.int c, .int p, .int m] ++ []) H (.int (mix c p m)) := spv_call fun _ _ _ _ k => ⟨c, p, m, rfl, h1, h2, k⟩
local macro_rules | `(tactic| tm_at "rr.cv") => `(tactic| refine' cv_L_mix ?_ ?_)
theorem ok_L_mix {P : Program} {w : World} {K : PySem.W.Frag} {mg : Str → Option Value} {base : Heap} (T : Txt K mg) : ∃ fd, FnOk P w K mg base (CX0) 1 (He.ga K "_law_mix") fd ["_law_cell", "_law_prime", "_law_many"] (sp_L_mix K) ∧ Binds K fd ["_law_cell", "_law_prime", "_law_many"] [] ∧ FunD K "_law_mix" "_law_mix" (defArgs s_L_mix) (defBody s_L_mix) (defScope s_L_mix) [] [] (He.ga K "_law_mix") fd := by
  obtain ⟨fd, F⟩ := f_L_mix T
  refine ⟨fd, ok0 F sc_L_mix (fun vs H Q E h => ?_) (fun cdv A outer s H vs Q E hr h => ?_), FunD.bindsN F fun _ _ _ _ _ _ us hl => match us, hl with | [_, _, _], _ => rfl, F⟩
  · (repeat (obtain ⟨_, h⟩ := h)); subst_vars; rfl
  · obtain ⟨c, p, m, rfl, h1, h2, k⟩ := h
    refine ⟨_, (pss_one (ps_ret (pe_op op_mod (pe_op op_mod (pe_op op_mul (pv 0) pe_int) (pv 1)) (pv 2)))), ?_⟩
    refine' s_ret ?h k
    case h => tm_at "rr.ev"
theorem inV_names (nm : Str) (L : List Cl) : inV (.str nm) (L.map fun c => V.str c.nm) = decide (nm ∈ L.map (·.nm)) := by
  unfold inV
  rw [List.any_map]
  induction L with
  | nil => rfl
  | cons c L ih =>
    rw [List.any_cons, ih, List.map_cons]
    by_cases h : nm = c.nm
    · subst h
      simp [Function.comp, eqV]
    · have h' : ¬ c.nm = nm := fun e => h e.symm
      simp [Function.comp, eqV, h, h']
theorem flat_names (L : List Cl) : (L.map fun c => V.str c.nm).all flatV = true := by
  rw [List.all_map]
  exact List.all_eq_true.mpr fun _ _ => rfl
/-- several become ready, one after the other -/
def Dk.rdyAll (d : Dk) (cs : List Cl) : Dk := cs.foldl (fun e c => e.put ⟨c.nm, c.rk, .rdy e.now⟩) d
theorem rdyAll_snoc (d : Dk) (cs : List Cl) (c : Cl) : d.rdyAll (cs ++ [c]) = (d.rdyAll cs).put ⟨c.nm, c.rk, .rdy (d.rdyAll cs).now⟩ := by
  unfold Dk.rdyAll
  rw [List.foldl_append]
  rfl
theorem put_now (d : Dk) (c : Cl) : (d.put c).now = d.now ∧ (d.put c).pace = d.pace ∧ (d.put c).room = d.room := ⟨rfl, rfl, rfl⟩
theorem rdyAll_now (cs : List Cl) : ∀ d : Dk, (d.rdyAll cs).now = d.now ∧ (d.rdyAll cs).pace = d.pace ∧ (d.rdyAll cs).room = d.room := by
  induction cs with
  | nil => intro d; exact ⟨rfl, rfl, rfl⟩
  | cons c cs ih => intro d; exact ih (d.put ⟨c.nm, c.rk, .rdy d.now⟩)
def isWtg (b : Str) (c : Cl) : Bool := decide (c.md = .wtg b)
def Dk.rung (d : Dk) (b : Str) : List Cl := d.line.filter (isWtg b)
def Dk.ring (d : Dk) (b : Str) : Dk := d.rdyAll (d.rung b)
/-! ### names of the law -/
def revS (z : Str) : Str := ⟨z.cps.toList.reverse.toArray⟩
def tRevS (te : TE) : TE := fun σ H Q => te σ H fun x H1 => ∃ z, x = .str z ∧ z.length ≤ sizeLine ∧ Q (.str (revS z)) H1
theorem rev_by (z : Str) (u : Tok) : PySem.Txt.sliceBy z none none (-1, u) = revS z := by
  refine TL.ext_tl ?_
  show (PySem.Txt.sliceBy z none none (-1, u)).cps.toList = z.cps.toList.reverse
  rw [step_rev_list]
  refine List.ext_getElem (by simp [Str.length]) fun i h1 h2 => ?_
  have hi : i < z.cps.size := by simpa [Str.length] using h1
  rw [List.getElem_map, List.getElem_range, List.getElem_reverse]
  have hs : z.length - 1 - i < z.cps.size := by show z.cps.size - 1 - i < z.cps.size; omega
  rw [Array.getElem_toList]
  simp only [Array.length_toList]
  show z.cps.getD (z.cps.size - 1 - i) 0 = _
  rw [Array.getD, dif_pos (show z.cps.size - 1 - i < z.cps.size by omega)]
  rfl
theorem pe_revS {X : Cx} {e : Expr} {te : TE} {k : Nat} {p1 p2 p3 pos : Pos} (he : PE X e te) : PE X (.Subscript e (.Slice none none (some (.UnaryOp .USub (.Constant (.int 1) k p1) p2)) p3) pos) (tRevS te) := by
  refine ⟨fun pins s σ H Q I h => ?_⟩
  refine Subscript_ (thn (he.run pins s σ H _ I h) fun v s1 ⟨x, H1, I1, r1, q1⟩ => ?_)
  obtain ⟨z, rfl, hz, q⟩ := q1
  obtain ⟨t, rfl⟩ := r1
  have hst : PO X (some (.UnaryOp .USub (.Constant (.int 1) k p1) p2)) (tPart (tUn (rU fun i => .int (-i)) (tC (.int 1)))) := po_some (pe_un un_neg pe_int)
  refine wpAny_Slice (thn (po_none.run pins s1 σ H1 (fun o H2 => o = none ∧ H2 = H1) I1 ⟨rfl, rfl⟩) fun vl s2 ⟨l, H2, I2, pl, el, e2⟩ => ?_)
  subst el e2
  refine thn (po_none.run pins s2 σ H2 (fun o H3 => o = none ∧ H3 = H2) I2 ⟨rfl, rfl⟩) fun vu s3 ⟨u, H3, I3, pu, eu, e3⟩ => ?_
  subst eu e3
  refine thn (hst.run pins s3 σ H3 (fun o H4 => o = some (-1) ∧ H4 = H3) I3 ⟨1, rfl, -1, rfl, rfl, rfl⟩) fun vs s4 ⟨o, H4, I4, ps, eo, e4⟩ => ?_
  subst eo e4
  have I5 : Inv X pins σ H4 { s4 with heap := s4.heap.push { cls := .type "slice", data := .fields #[vl, vu, vs] } } := I4.kept (t' := s4.toks) fun b ob q => Heap.get?_push_of_some _ q
  obtain ⟨os, hos, hcs, hds⟩ := Heap.IsSliceOf.new (h := s4.heap) vl vu vs
  obtain ⟨l', rfl, hl'⟩ := IsPart.raw pl
  obtain ⟨u', rfl, hu'⟩ := IsPart.raw pu
  obtain ⟨st', rfl, hst'⟩ := IsPart.raw ps
  cases l' with
  | some _ => cases hl'
  | none =>
  cases u' with
  | some _ => cases hu'
  | none =>
  cases st' with
  | none => cases hst'
  | some sk =>
  obtain ⟨sk, tk⟩ := sk
  have hsk : sk = -1 := Option.some.inj (show some sk = some (-1 : Int) from hst')
  subst hsk
  show wpAny (model X.prog X.w) X.A (subscriptTail e (.Slice none none (some (.UnaryOp .USub (.Constant (.int 1) k p1) p2)) p3) (.str z t) (.ref s4.heap.objs.size)) (EP X pins σ Q) X.xe _
  refine tail_any (ops := [.ref s4.heap.objs.size, .str z t]) (typeIs_str _ _ _) (PySem.F.slot_str_getitem.lookup) ?_ (by with_unfolding_all rfl)
  have hle := PySem.Txt.sliceBy_le z none none (-1, tk) (show (-1 : Int) ≠ 0 by decide)
  refine PySem.wpAny_getItem_str_slice (l := none) (u := none) (st := some (-1, tk)) ⟨os, hos, hcs, hds⟩ rfl (PySem.post_val_or_str ⟨Nat.le_trans hle hz, fun t' c => ?_⟩)
  have e9 := rev_by z tk
  unfold PySem.Txt.sliceBy at e9
  exact ⟨.str (revS z), H4, I5.tok c, ⟨t', by rw [← e9]⟩, q⟩
theorem ev_revS {σ : L2.St} {H : Hp} {te : TE} {z : Str} (h : Ev te σ H (.str z)) (hz : z.length ≤ 100000) : Ev (tRevS te) σ H (.str (revS z)) := fun H1 e Q q => h H1 e _ fun H2 e2 => ⟨z, rfl, sz_of hz, q H2 e2⟩
theorem ev_slS {σ : L2.St} {H : Hp} {te : TE} {tl th : TO} {z : Str} {lo hi : Option Int} (h : Ev te σ H (.str z)) (h1 : EvO tl σ H lo) (h2 : EvO th σ H hi) (hz : z.length ≤ 100000) : Ev (tSl rSlS te tl th) σ H (.str (cutS z lo hi)) := fun H1 e Q q =>
  h H1 e _ fun H2 e2 => h1 H2 (e.trans e2) _ fun H3 e3 => h2 H3 ((e.trans e2).trans e3) _ fun H4 e4 => ⟨z, rfl, sz_of hz, q H4 ((e2.trans e3).trans e4)⟩
theorem ev_join {K : PySem.W.Frag} {σ : L2.St} {H : Hp} {to te : TE} {a : Str} {ys : List Str} (h : Ev to σ H (.str a)) (h2 : EvL te σ H (ys.map V.str)) (hz : (ys.map (·.length)).sum + ys.length * a.length ≤ 16777216) :
    Ev (tM1 (fun x xs H Q => ∃ a p, ∃ ys : List Str, x = .str a ∧ xs = [.ref p] ∧ (SqL K H p (ys.map V.str) ∨ SqT K H p (ys.map V.str)) ∧ (ys.map (·.length)).sum + ys.length * a.length ≤ 16777216 ∧ Q (.str (Txt.join a ys)) H) to te) σ H (.str (Txt.join a ys)) := fun H1 e Q q =>
  h H1 e _ fun H2 e2 => ⟨⟨a, rfl⟩, h2 H2 (e.trans e2) _ fun p H3 hp e3 h3 => ⟨a, p, ys, rfl, rfl, .inl (sq_of h3), hz, q H3 (e2.trans e3)⟩⟩
theorem cutS_to {l : List Nat} {i : Int} (h0 : 0 ≤ i) (h1 : i.toNat ≤ l.length) : cutS (SX.S l) none (some i) = SX.S (l.take i.toNat) := by
  have hl : (SX.S l).length = l.length := SX.S_len l
  unfold cutS
  rw [hl]
  have e2 : HT.sIx l.length l.length (some i) = i.toNat := by
    show (if i < 0 then (i + (l.length : Int)).toNat else min i.toNat l.length) = i.toNat
    rw [if_neg (by omega)]
    omega
  rw [e2]
  rfl
theorem cutS_from {l : List Nat} {i : Int} (h0 : 0 ≤ i) (h1 : i.toNat ≤ l.length) : cutS (SX.S l) (some i) none = SX.S (l.drop i.toNat) := by
  have hl : (SX.S l).length = l.length := SX.S_len l
  unfold cutS
  rw [hl]
  have e2 : HT.sIx l.length 0 (some i) = i.toNat := by
    show (if i < 0 then (i + (l.length : Int)).toNat else min i.toNat l.length) = i.toNat
    rw [if_neg (by omega)]
    omega
  rw [e2]
  show SX.S ((l.drop i.toNat).take (l.length - i.toNat)) = _
  rw [List.take_of_length_le (by rw [List.length_drop]; omega)]
theorem at_getD {L : List Nat} {i : Int} (h0 : 0 ≤ i) (h1 : i < (L.length : Int)) : atI L i = some (L.getD i.toNat 0) := by
  unfold atI ixN
  rw [if_pos h0, if_pos h1]
  have : i.toNat < L.length := by omega
  show L[i.toNat]? = _
  rw [List.getD_eq_getElem?_getD, List.getElem?_eq_getElem this]
  rfl
def gat (L : List Nat) (i : Int) : Nat := L.getD i.toNat 0
def nmS (c : Int) : List Nat := if mix c 10259 5 = 0 then figsS.cps.toList else signsS.cps.toList
def nmNear (L : List Nat) (k c : Int) : Nat := gat L ((k + c % (L.length : Int)) / (L.length : Int))
def nmTell (L : List Nat) (k c : Int) : Nat := gat L ((k + c) % (L.length : Int))
def nmT1 (L : List Nat) (c : Int) (n : Nat) : List Nat := (List.range n).map fun j : Nat => gat L ((c / 72 + 7 * (j : Int)) % (L.length : Int))
def nmT2 (L : List Nat) (k c : Int) (n : Nat) : List Nat := (List.range n).map fun j : Nat => gat L ((c / 72 + 7 * (j : Int) + k * (j : Int)) % (L.length : Int))
def nameL (L : List Nat) (k c : Int) : List Nat :=
  if mix c 10303 2 = 0 then
    (nmT1 L c (2 + mix c 10313 11).toNat).take (mix c 10321 (2 + mix c 10313 11 - 1)).toNat ++ [nmNear L k c] ++ [nmTell L k c] ++ (nmT1 L c (2 + mix c 10313 11).toNat).drop (mix c 10321 (2 + mix c 10313 11 - 1) + 2).toNat
  else if k < (L.length : Int) ∧ mix (c + 3 * k) 10253 8 = 0 then [nmTell L k c]
  else if c / 36 % 2 = 1 then ([nmNear L k c] ++ [nmTell L k c] ++ nmT2 L k c (mix (c + k) 10007 11).toNat).reverse
  else [nmNear L k c] ++ [nmTell L k c] ++ nmT2 L k c (mix (c + k) 10007 11).toNat
def nameBy (k c : Int) : Str := SX.S (nameL (nmS c) k c)
theorem nmS_ok (c : Int) : ((nmS c).length = 10 ∨ (nmS c).length = 36) ∧ (nmS c).Nodup ∧ ∀ x ∈ nmS c, isSign x = true := by
  unfold nmS
  split
  · exact ⟨.inl (by decide +kernel), by decide +kernel, by decide +kernel⟩
  · exact ⟨.inr (by decide +kernel), by decide +kernel, by decide +kernel⟩
theorem gat_mem {L : List Nat} {i : Int} (h1 : i.toNat < L.length) : gat L i ∈ L := by
  unfold gat
  rw [List.getD_eq_getElem?_getD, List.getElem?_eq_getElem h1]
  exact List.getElem_mem h1
theorem gat_inj {L : List Nat} (nd : L.Nodup) {i j : Int} (hi0 : 0 ≤ i) (hj0 : 0 ≤ j) (hi : i.toNat < L.length) (hj : j.toNat < L.length) (e : gat L i = gat L j) : i = j := by
  unfold gat at e
  rw [List.getD_eq_getElem?_getD, List.getD_eq_getElem?_getD, List.getElem?_eq_getElem hi, List.getElem?_eq_getElem hj] at e
  have e : L[i.toNat] = L[j.toNat] := e
  have key := List.pairwise_iff_getElem.mp nd
  rcases Nat.lt_trichotomy i.toNat j.toNat with h | h | h
  · exact absurd e (key _ _ hi hj h)
  · omega
  · exact absurd e.symm (key _ _ hj hi h)
/-! ### L_name_by -/
theorem sc_L_name_by : FnScope ["_law_k", "_law_cell", "_law_some", "_law_many", "_law_near", "_law_tell", "_law_size", "_law_at", "_law_text", "_law_j"] ["_law_k", "_law_cell"] (defScope s_L_name_by) := ⟨rfl, rfl, rfl, by decide +kernel, rfl, by decide +kernel, by decide +kernel⟩
def sp_L_name_by (_ : PySem.W.Frag) : Sp := fun vs H Q _ => ∃ (k c : Int), vs = [.int k, .int c] ∧ 0 ≤ k ∧ k ≤ 80 ∧ RetV (.str (nameBy k c)) H Q
theorem cv_L_name_by {K : PySem.W.Frag} {H : Hp} {k c : Int} (h1 : 0 ≤ k) (h2 : k ≤ 80) : SpV (sp_L_name_by K) ([.int k, .int c] ++ []) H (.str (nameBy k c)) := spv_call fun _ _ _ _ q => ⟨k, c, rfl, h1, h2, q⟩
local macro_rules | `(tactic| tm_at "rr.cv") => `(tactic| refine' cv_L_name_by ?_ ?_)
theorem ok_L_name_by {P : Program} {w : World} {K : PySem.W.Frag} {mg : Str → Option Value} {base : Heap} (T : Txt K mg) : ∃ fd, FnOk P w K mg base (CX0) 2 (He.ga K "_law_name_by") fd ["_law_k", "_law_cell"] (sp_L_name_by K) ∧ Binds K fd ["_law_k", "_law_cell"] [] ∧ FunD K "_law_name_by" "_law_name_by" (defArgs s_L_name_by) (defBody s_L_name_by) (defScope s_L_name_by) [] [] (He.ga K "_law_name_by") fd := by
  obtain ⟨fd, F⟩ := f_L_name_by T
  obtain ⟨d_L_mix, G_L_mix, b_L_mix, _⟩ := ok_L_mix (P := P) (w := w) (base := base) T
  refine ⟨fd, ok0 F sc_L_name_by (fun vs H Q E h => ?_) (fun cdv A outer s H vs Q E hr h => ?_), FunD.bindsN F fun _ _ _ _ _ _ us hl => match us, hl with | [_, _], _ => rfl, F⟩
  · (repeat (obtain ⟨_, h⟩ := h)); subst_vars; rfl
  · obtain ⟨k, c, rfl, h0, h1, q⟩ := h
    refine ⟨_, (pss_cons (ps_set (i := 2) sc_L_name_by.nd rfl (Or.inr rfl) pe_str)
        (pss_cons (ps_if (pt_cmpR op_eq (pe_call G_L_mix (hr.mono (by decide)) rfl (g_L_mix T) (kp_L_mix T) b_L_mix .nil pass0 (pa_cons (pv 1) (pa_cons pe_int (pa_cons pe_int pa_nil)))) pe_int (nomark _)) (pss_one (ps_set (i := 2) sc_L_name_by.nd rfl (Or.inr rfl) pe_str))
        pss_nil)
        (pss_cons (ps_set (i := 3) sc_L_name_by.nd rfl (Or.inr rfl) (pe_callB call_len_str rfl (b_len T) (by decide +kernel) (pa_cons (pv 2) pa_nil)))
        (pss_cons (ps_set (i := 4) sc_L_name_by.nd rfl (Or.inl rfl) (pe_ix ix_str (pv 2) (pe_op op_fdiv (pe_op op_add (pv 0) (pe_op op_mod (pv 1) (pv 3))) (pv 3)) (fun _ _ => rfl)))
        (pss_cons (ps_set (i := 5) sc_L_name_by.nd rfl (Or.inl rfl) (pe_ix ix_str (pv 2) (pe_op op_mod (pe_op op_add (pv 0) (pv 1)) (pv 3)) (fun _ _ => rfl)))
        (pss_cons (ps_if (pt_cmpR op_eq (pe_call G_L_mix (hr.mono (by decide)) rfl (g_L_mix T) (kp_L_mix T) b_L_mix .nil pass0 (pa_cons (pv 1) (pa_cons pe_int (pa_cons pe_int pa_nil)))) pe_int (nomark _)) (pss_cons (ps_set (i := 6) sc_L_name_by.nd rfl (Or.inl rfl) (pe_op op_add pe_int (pe_call G_L_mix (hr.mono (by decide)) rfl (g_L_mix T) (kp_L_mix T) b_L_mix .nil pass0 (pa_cons (pv 1) (pa_cons pe_int (pa_cons pe_int pa_nil))))))
        (pss_cons (ps_set (i := 7) sc_L_name_by.nd rfl (Or.inl rfl) (pe_call G_L_mix (hr.mono (by decide)) rfl (g_L_mix T) (kp_L_mix T) b_L_mix .nil pass0 (pa_cons (pv 1) (pa_cons pe_int (pa_cons (pe_op op_sub (pv 6) pe_int) pa_nil)))))
        (pss_cons (ps_set (i := 8) sc_L_name_by.nd rfl (Or.inl rfl) (pe_join pe_str (pe_lc (own := [("_law_j", 9)]) (g := gName 9) (tt := tYes) rfl sc_L_name_by.nd (pi_range1 rfl (b_range T) (pa_cons (pv 6) pa_nil)) (blkOk_by (own := [("_law_j", 9)]) (N := ["_law_k", "_law_cell", "_law_some", "_law_many", "_law_near", "_law_tell", "_law_size", "_law_at", "_law_text", "_law_j"]) (sc := defScope s_L_name_by) (by decide +kernel)) (fun _ _ _ _ _ => (pg_name (i := 9) sc_L_name_by.nd rfl (Or.inl rfl))) (fun _ _ _ _ _ => pts_nil) (fun _ _ _ _ _ => (pe_ix ix_str (pv 2) (pe_op op_mod (pe_op op_add (pe_op op_fdiv (pv 1) pe_int) (pe_op op_mul pe_int (pv 9))) (pv 3)) (fun _ _ => rfl))))))
        (pss_one (ps_ret (pe_op op_add_str (pe_op op_add_str (pe_op op_add_str (pe_slice sl_str (pv 8) po_none (po_some (pv 7))) (pv 4)) (pv 5)) (pe_slice sl_str (pv 8) (po_some (pe_op op_add (pv 7) pe_int)) po_none)))))))
        pss_nil)
        (pss_cons (ps_if (PW.pt (pw_and (pt_cmpR op_lt (pv 0) (pv 3) (nomark _)) (pw_and1 (pt_cmpR op_eq (pe_call G_L_mix (hr.mono (by decide)) rfl (g_L_mix T) (kp_L_mix T) b_L_mix .nil pass0 (pa_cons (pe_op op_add (pv 1) (pe_op op_mul pe_int (pv 0))) (pa_cons pe_int (pa_cons pe_int pa_nil)))) pe_int (nomark _))))) (pss_one (ps_ret (pv 5)))
        pss_nil)
        (pss_cons (ps_set (i := 8) sc_L_name_by.nd rfl (Or.inl rfl) (pe_op op_add_str (pv 4) (pv 5)))
        (pss_cons (ps_for PassesOwn.never rfl (pi_range1 rfl (b_range T) (pa_cons (pe_call G_L_mix (hr.mono (by decide)) rfl (g_L_mix T) (kp_L_mix T) b_L_mix .nil pass0 (pa_cons (pe_op op_add (pv 1) (pv 0)) (pa_cons pe_int (pa_cons pe_int pa_nil)))) pa_nil)) (pg_name (i := 9) sc_L_name_by.nd rfl (Or.inl rfl))
        (pss_cons (ps_set (i := 7) sc_L_name_by.nd rfl (Or.inl rfl) (pe_op op_add (pe_op op_add (pe_op op_fdiv (pv 1) pe_int) (pe_op op_mul pe_int (pv 9))) (pe_op op_mul (pv 0) (pv 9))))
        (pss_one (ps_set (i := 8) sc_L_name_by.nd rfl (Or.inl rfl) (pe_op op_add_str (pv 8) (pe_ix ix_str (pv 2) (pe_op op_mod (pv 7) (pv 3)) (fun _ _ => rfl)))))))
        (pss_cons (ps_if (pt_cmpR op_eq (pe_op op_mod (pe_op op_fdiv (pv 1) pe_int) pe_int) pe_int (nomark _)) (pss_one (ps_ret (pe_revS (pv 8))))
        pss_nil)
        (pss_one (ps_ret (pv 8))))))))))))), ?_⟩
    refine' q_asg ev_c fun H1 e1 => ?_
    refine q_ifAsg (b := decide (mix c 10259 5 = 0)) (v := .str (SX.S (nmS c))) ?h (fun hb => ?h1) (fun hb => ?h2) fun H2 e2 => ?_
    case h => exact et_is (et_test (ev_op (ev_call (ea_cons (ev_var rfl) (ea_cons ev_c (ea_cons ev_c ea_nil))) (cv_L_mix (by decide) (by decide))) ev_c (rv_eq rfl))) (decide_eq_decide.mpr ⟨fun h => by injection h, fun h => by rw [h]⟩)
    case h1 =>
      refine ev_is ev_c ?_
      unfold nmS
      rw [if_pos (of_decide_eq_true hb), SX.S_tl]
    case h2 =>
      have : nmS c = signsS.cps.toList := by
        unfold nmS
        rw [if_neg (of_decide_eq_false hb)]
      rw [this, SX.S_tl]
      rfl
    have hok := nmS_ok c
    unfold nameBy at q
    generalize nmS c = L at *
    obtain ⟨hL, hnd, hsg⟩ := hok
    have hLl : (SX.S L).length = L.length := SX.S_len L
    have hLz : (SX.S L).length ≤ 100000 := by omega
    refine q_asg (v := .int (L.length : Int)) (ev_is (ev_cb (ea_cons (ev_var rfl) ea_nil) (rc_len_str (sz_of hLz))) (by rw [hLl])) fun H3 e3 => ?_
    have ixS : ∀ {i : Int} {H : Hp}, 0 ≤ i → i < (L.length : Int) → RV rIxS (.str (SX.S L)) (.int i) H (.str (SX.S [gat L i])) := fun h0 h1 => rv_ixS hLz (at_getD h0 h1)
    have cdv : 0 < (L.length : Int) := by omega
    have cdd : ∀ x, CDiv x (L.length : Int) := fun x => by unfold CDiv; omega
    have hn : 0 ≤ (k + c % (L.length : Int)) / (L.length : Int) ∧ (k + c % (L.length : Int)) / (L.length : Int) < (L.length : Int) := by
      rcases hL with hL | hL <;> rw [hL] <;> omega
    have ht : ∀ x : Int, 0 ≤ x % (L.length : Int) ∧ x % (L.length : Int) < (L.length : Int) := fun x => ⟨Int.emod_nonneg _ (by omega), Int.emod_lt_of_pos _ (by omega)⟩
    refine q_asg (v := .str (SX.S [nmNear L k c])) (ev_op (ev_var rfl) (ev_op (ev_op (ev_var rfl) (ev_op (ev_var rfl) (ev_var rfl) (rv_I cdv)) rv_I0) (ev_var rfl) (rv_I (cdd _))) (ixS hn.1 hn.2)) fun H4 e4 => ?_
    refine q_asg (v := .str (SX.S [nmTell L k c])) (ev_op (ev_var rfl) (ev_op (ev_op (ev_var rfl) (ev_var rfl) rv_I0) (ev_var rfl) (rv_I cdv)) (ixS (ht _).1 (ht _).2)) fun H5 e5 => ?_
    have q5 := fun H6 (e : Ex H5 H6) => q H6 ((((e1.trans e2).trans e3).trans e4).trans (e5.trans e))
    clear q e1 e2 e3 e4 e5
    unfold nameL at q5
    refine q_when (b := decide (mix c 10303 2 = 0)) ?h (fun hb H6 e6 => ?_) (fun hb H6 e6 => ?_)
    case h => exact et_is (et_test (ev_op (ev_call (ea_cons (ev_var rfl) (ea_cons ev_c (ea_cons ev_c ea_nil))) (cv_L_mix (by decide) (by decide))) ev_c (rv_eq rfl))) (decide_eq_decide.mpr ⟨fun h => by injection h, fun h => by rw [h]⟩)
    · rw [if_pos (of_decide_eq_true hb)] at q5
      have m0 := mix_nonneg (c := c) (p := 10313) (m := 11) (by decide)
      have m1 := mix_lt (c := c) (p := 10313) (m := 11) (by decide)
      generalize hM : mix c 10313 11 = M at *
      refine q_asg (v := .int (2 + M)) (ev_op ev_c (ev_is (ev_call (ea_cons (ev_var rfl) (ea_cons ev_c (ea_cons ev_c ea_nil))) (cv_L_mix (by decide) (by decide))) (by rw [hM])) rv_I0) fun H7 e7 => ?_
      have a0 := mix_nonneg (c := c) (p := 10321) (m := 2 + M - 1) (by omega)
      have a1 := mix_lt (c := c) (p := 10321) (m := 2 + M - 1) (by omega)
      refine q_asg (ev_call (ea_cons (ev_var rfl) (ea_cons ev_c (ea_cons (ev_op (ev_var rfl) ev_c rv_I0) ea_nil))) (cv_L_mix (by decide) (by omega))) fun H8 e8 => ?_
      generalize mix c 10321 (2 + M - 1) = A at *
      have hlen : (nmT1 L c (2 + M).toNat).length = (2 + M).toNat := by unfold nmT1; rw [List.length_map, List.length_range]
      refine q_asg (v := .str (SX.S (nmT1 L c (2 + M).toNat))) ?h fun H9 e9 => ?_
      case h =>
        refine ev_is (ev_join (K := K) (a := "") (ys := (List.range (2 + M).toNat).map fun j : Nat => SX.S [gat L ((c / 72 + 7 * (j : Int)) % (L.length : Int))]) ev_c ?l ?z) (congrArg V.str (TL.ext_tl ?e))
        case l =>
          have hg : ((List.range (2 + M).toNat).map fun j : Nat => SX.S [gat L ((c / 72 + 7 * (j : Int)) % (L.length : Int))]).map V.str = given (2 + M).toNat (fun _ => true) (fun j => .str (SX.S [gat L ((c / 72 + 7 * (j : Int)) % (L.length : Int))])) := by
            unfold given
            rw [filter_true, List.map_map]
            rfl
          rw [hg]
          refine' el_lcR1 (n := 2 + M) (fun _ => true) (fun j => .str (SX.S [gat L ((c / 72 + 7 * (j : Int)) % (L.length : Int))])) (ea_cons (ev_var rfl) ea_nil) (by omega) (fun _ => rfl) (fun i H9 e9 hi => et_yes) (fun i H9 e9 hi _ => ?_)
          exact ev_op (ev_var rfl) (ev_op (ev_op (ev_op (ev_var rfl) ev_c (rv_I ⟨by decide, by decide⟩)) (ev_op ev_c (ev_var rfl) (rv_I (cmul_l (by decide) (by decide)))) rv_I0) (ev_var rfl) (rv_I cdv)) (ixS (ht _).1 (ht _).2)
        case z =>
          rw [List.map_map, List.length_map, List.length_range, show ("" : Str).length = 0 from by decide +kernel]
          have : (List.range (2 + M).toNat).map ((fun x : Str => x.length) ∘ fun j : Nat => SX.S [gat L ((c / 72 + 7 * (j : Int)) % (L.length : Int))]) = (List.range (2 + M).toNat).map fun _ => 1 := List.map_congr_left fun j _ => SX.S_len _
          rw [this, List.map_const', List.sum_replicate_nat, List.length_range]
          omega
        case e =>
          rw [TL.join_eq, TL.tl_join, show TL.tl ("" : Str) = [] from by decide +kernel, joinL_nil, List.map_map]
          show _ = nmT1 L c (2 + M).toNat
          unfold nmT1
          generalize List.range (2 + M).toNat = R
          induction R with
          | nil => rfl
          | cons x R ih =>
            rw [List.map_cons, List.flatten_cons, List.map_cons, ih]
            rfl
      have hzz : (SX.S (nmT1 L c (2 + M).toNat)).length = (2 + M).toNat := by rw [SX.S_len, hlen]
      have hz1 : (SX.S (nmT1 L c (2 + M).toNat)).length ≤ 100000 := by rw [hzz]; omega
      refine s_ret (v := .str (SX.S ((nmT1 L c (2 + M).toNat).take A.toNat ++ [nmNear L k c] ++ [nmTell L k c] ++ (nmT1 L c (2 + M).toNat).drop (A + 2).toNat))) ?h9 fun H10 e10 => q5 H10 ((e6.trans e7).trans ((e8.trans e9).trans e10))
      case' h9 => rw [← SX.S_cat, ← SX.S_cat, ← SX.S_cat, ← cutS_to (i := A) (by omega) (by rw [hlen]; omega), ← cutS_from (i := A + 2) (by omega) (by rw [hlen]; omega)]
      have hc1 := cutS_length (SX.S (nmT1 L c (2 + M).toNat)) none (some A)
      have hc2 := cutS_length (SX.S (nmT1 L c (2 + M).toNat)) (some (A + 2)) none
      have hs1 : ∀ x, (SX.S [x]).length = 1 := fun x => SX.S_len [x]
      rw [hzz] at hc1 hc2
      refine ev_op (ev_op (ev_op (ev_slS (ev_var rfl) eo_none (eo_some (ev_var rfl)) hz1) (ev_var rfl) (rv_addS (sz_of ?_))) (ev_var rfl) (rv_addS (sz_of ?_))) (ev_slS (ev_var rfl) (eo_some (ev_op (ev_var rfl) ev_c rv_I0)) eo_none hz1) (rv_addS (sz_of ?_))
      all_goals
        simp only [len_app, hs1]
        omega
    rw [if_neg (of_decide_eq_false hb)] at q5
    refine q_when (b := decide (k < (L.length : Int) ∧ mix (c + 3 * k) 10253 8 = 0)) ?h7 (fun hb H7 e7 => ?_) (fun hb H7 e7 => ?_)
    case h7 =>
      refine' et_is (et_and (et_test (ev_op (ev_var rfl) (ev_var rfl) rv_I0)) (fun _ => et_test (ev_op (ev_call (ea_cons (ev_op (ev_var rfl) (ev_op ev_c (ev_var rfl) (rv_I (cmul_l (by decide) (by decide)))) rv_I0) (ea_cons ev_c (ea_cons ev_c ea_nil))) (cv_L_mix (by decide) (by decide))) ev_c (rv_eq rfl)))) ?_
      rw [Bool.decide_and]
      congr 1
      exact decide_eq_decide.mpr ⟨fun h => by injection h, fun h => by rw [h]⟩
    · rw [if_pos (of_decide_eq_true hb)] at q5
      exact s_ret (ev_var rfl) fun H8 e8 => q5 H8 ((e6.trans e7).trans e8)
    rw [if_neg (of_decide_eq_false hb)] at q5
    have hs1 : ∀ x, (SX.S [x]).length = 1 := fun x => SX.S_len [x]
    have m0 := mix_nonneg (c := c + k) (p := 10007) (m := 11) (by decide)
    have m1 := mix_lt (c := c + k) (p := 10007) (m := 11) (by decide)
    refine q_asg (v := .str (SX.S ([nmNear L k c] ++ [nmTell L k c] ++ nmT2 L k c 0))) ?h8 fun H8 e8 => ?_
    case h8 =>
      rw [show nmT2 L k c 0 = [] from rfl, List.append_nil, ← SX.S_cat]
      exact ev_op (ev_var rfl) (ev_var rfl) (rv_addS (sz_of (by simp only [hs1]; omega)))
    generalize hM : mix (c + k) 10007 11 = M at *
    refine q_forR1 (n := M) (ea_cons (ev_is (ev_call (ea_cons (ev_op (ev_var rfl) (ev_var rfl) rv_I0) (ea_cons ev_c (ea_cons ev_c ea_nil))) (cv_L_mix (by decide) (by decide))) (by rw [hM])) ea_nil) (by omega)
      (fun i σ' H' => Ex H8 H' ∧ ∃ v w, σ' = [some (.int k), some (.int c), some (.str (SX.S L)), some (.int (L.length : Int)), some (.str (SX.S [nmNear L k c])), some (.str (SX.S [nmTell L k c])), none, v, some (.str (SX.S ([nmNear L k c] ++ [nmTell L k c] ++ nmT2 L k c i))), w]) (fun H9 e9 => ⟨e9, none, none, rfl⟩) ?_ ?_
    · rintro i σ' H' hi ⟨e9, v, w, rfl⟩
      refine q_asg (v := .int (c / 72 + 7 * (i : Int) + k * (i : Int))) (ev_op (ev_op (ev_op (ev_var rfl) ev_c (rv_I ⟨by decide, by decide⟩)) (ev_op ev_c (ev_var rfl) (rv_I (cmul_l (by decide) (by decide)))) rv_I0) (ev_op (ev_var rfl) (ev_var rfl) (rv_I (cmul_l (by omega) (by omega)))) rv_I0) fun H10 e10 => ?_
      have hl2 : (nmT2 L k c i).length = i := by unfold nmT2; rw [List.length_map, List.length_range]
      refine s_asg (v := .str (SX.S ([nmNear L k c] ++ [nmTell L k c] ++ nmT2 L k c (i + 1)))) ?h fun H11 e11 => ⟨(e9.trans e10).trans e11, _, _, rfl⟩
      have : nmT2 L k c (i + 1) = nmT2 L k c i ++ [gat L ((c / 72 + 7 * (i : Int) + k * (i : Int)) % (L.length : Int))] := by
        unfold nmT2
        rw [List.range_succ, List.map_append]
        rfl
      rw [this, ← List.append_assoc, ← SX.S_cat ([nmNear L k c] ++ [nmTell L k c] ++ nmT2 L k c i)]
      refine' ev_op (ev_var rfl) (ev_op (ev_var rfl) (ev_op (ev_var rfl) (ev_var rfl) (rv_I cdv)) (ixS (ht _).1 (ht _).2)) (rv_addS (sz_of ?_))
      rw [SX.S_len, SX.S_len, List.length_append, List.length_append, hl2]
      simp only [List.length_singleton]
      omega
    · rintro σ' H' ⟨e9, v, w, rfl⟩
      have e69 := ((e6.trans e7).trans e8).trans e9
      have hl2 : (nmT2 L k c M.toNat).length = M.toNat := by unfold nmT2; rw [List.length_map, List.length_range]
      refine q_when (b := decide (c / 36 % 2 = 1)) ?h12 (fun hb H10 e10 => ?_) (fun hb H10 e10 => ?_)
      case h12 => exact et_is (et_test (ev_op (ev_op (ev_op (ev_var rfl) ev_c (rv_I ⟨by decide, by decide⟩)) ev_c (rv_I (by decide))) ev_c (rv_eq rfl))) (decide_eq_decide.mpr ⟨fun h => by injection h, fun h => by rw [h]⟩)
      · rw [if_pos (of_decide_eq_true hb)] at q5
        exact s_ret (ev_revS (ev_var rfl) (by rw [SX.S_len, List.length_append, List.length_append, hl2]; simp only [List.length_singleton]; omega)) fun H11 e11 => q5 H11 ((e69.trans e10).trans e11)
      · rw [if_neg (of_decide_eq_false hb)] at q5
        exact s_ret (ev_var rfl) fun H11 e11 => q5 H11 ((e69.trans e10).trans e11)
/-! ### is_name -/
theorem sc_is_name : FnScope ["text", "sign"] ["text"] (defScope s_is_name) := ⟨rfl, rfl, rfl, by decide +kernel, rfl, by decide +kernel, by decide +kernel⟩
def sp_is_name (_ : PySem.W.Frag) : Sp := fun vs H Q _ => ∃ (s : Str), vs = [.str s] ∧ s.length ≤ 100000 ∧ RetV (.bl (isName s)) H Q
theorem cv_is_name {K : PySem.W.Frag} {H : Hp} {s : Str} (h : s.length ≤ 100000) : SpV (sp_is_name K) ([.str s] ++ []) H (.bl (isName s)) := spv_call fun _ _ _ _ k => ⟨s, rfl, h, k⟩
local macro_rules | `(tactic| tm_at "rr.cv") => `(tactic| refine' cv_is_name ?_)
theorem ok_is_name {P : Program} {w : World} {K : PySem.W.Frag} {mg : Str → Option Value} {base : Heap} (T : Txt K mg) : ∃ fd, FnOk P w K mg base (CX0) 1 (He.ga K "is_name") fd ["text"] (sp_is_name K) ∧ Binds K fd ["text"] [] ∧ FunD K "is_name" "is_name" (defArgs s_is_name) (defBody s_is_name) (defScope s_is_name) [] [] (He.ga K "is_name") fd := by
  obtain ⟨fd, F⟩ := f_is_name T
  obtain ⟨t_SIGNS, hk_SIGNS⟩ := k_SIGNS T
  obtain ⟨t_MOST, hk_MOST⟩ := k_MOST T
  refine ⟨fd, ok0 F sc_is_name (fun vs H Q E h => ?_) (fun cdv A outer s H vs Q E hr h => ?_), FunD.bindsN F fun _ _ _ _ _ _ us hl => match us, hl with | [_], _ => rfl, F⟩
  · (repeat (obtain ⟨_, h⟩ := h)); subst_vars; rfl
  · obtain ⟨s, rfl, hz, k⟩ := h
    refine ⟨_, (pss_cons (ps_if (PW.pt (pw_or (pt_cmpR op_lt (pe_callB call_len_str rfl (b_len T) (by decide +kernel) (pa_cons (pv 0) pa_nil)) pe_int (nomark _)) (pw_or1 (pt_cmpR op_gt (pe_callB call_len_str rfl (b_len T) (by decide +kernel) (pa_cons (pv 0) pa_nil)) (pe_glob (v := .int 12) rfl hk_MOST ⟨_, rfl⟩) (nomark _))))) (pss_one (ps_ret pe_bl))
        pss_nil)
        (pss_cons (ps_for PassesOwn.never rfl (pi_str (pv 0)) (pg_name (i := 1) sc_is_name.nd rfl (Or.inl rfl))
        (pss_one (ps_if (pt_cmpR op_notIn_sign (pv 1) (pe_glob (v := .str "abcdefghijklmnopqrstuvwxyz0123456789") rfl hk_SIGNS ⟨_, rfl⟩) (by with_unfolding_all rfl)) (pss_one (ps_ret pe_bl))
        pss_nil)))
        (pss_one (ps_ret pe_bl)))), ?_⟩
    refine q_when (b := decide ((s.length : Int) < 1) || decide (12 < (s.length : Int))) ?h (fun hb H1 e1 => ?_) (fun hb H1 e1 => ?_)
    case h => exact et_or (et_test (ev_op (ev_cb (ea_cons (ev_var rfl) ea_nil) (rc_len_str (sz_of hz))) ev_c rv_I0)) fun _ => et_test (ev_op (ev_cb (ea_cons (ev_var rfl) ea_nil) (rc_len_str (sz_of hz))) ev_c rv_I0)
    · have e : isName s = false := by
        unfold isName
        rw [Bool.or_eq_true] at hb
        rcases hb with hb | hb
        · rw [decide_eq_false (by have := of_decide_eq_true hb; omega)]
          rfl
        · rw [decide_eq_false (p := s.length ≤ 12) (by have := of_decide_eq_true hb; omega), Bool.and_false]
          rfl
      rw [e] at k
      exact s_ret ev_c fun H2 e2 => k H2 (e1.trans e2)
    · rw [Bool.or_eq_false_iff] at hb
      have l1 := of_decide_eq_false hb.1
      have l2 := of_decide_eq_false hb.2
      have e : isName s = s.cps.toList.all isSign := by
        unfold isName
        rw [decide_eq_true (by omega), decide_eq_true (by omega)]
        rfl
      rw [e] at k
      refine q_forS (K := K) (x := s) (ev_var rfl) (fun i σ' H' => Ex H1 H' ∧ (∃ v, σ' = [some (.str s), v]) ∧ (s.cps.toList.take i).all isSign = true) (fun H2 e2 => ⟨e2, ⟨none, rfl⟩, rfl⟩) ?_ ?_
      · rintro i c σ' H' hc ⟨e2, ⟨v, rfl⟩, hall⟩
        refine s_when (b := !isSign c) ?h (fun hb H3 e3 => ?_) (fun hb H3 e3 => ?_)
        case h => exact et_test (ev_op (ev_var rfl) ev_c rv_notInS)
        · have e9 : s.cps.toList.all isSign = false := by
            rw [List.all_eq_false]
            exact ⟨c, List.mem_of_getElem? hc, by simpa using hb⟩
          rw [e9] at k
          exact s_ret ev_c fun H4 e4 => k H4 (((e1.trans e2).trans e3).trans e4)
        · refine ⟨e2.trans e3, ⟨_, rfl⟩, ?_⟩
          rw [List.take_succ, hc, List.all_append, hall]
          simpa using hb
      · rintro σ' H' ⟨e2, ⟨v, rfl⟩, hall⟩
        have e9 : s.cps.toList.take s.length = s.cps.toList := List.take_of_length_le (by rw [Array.length_toList]; exact Nat.le_refl _)
        rw [e9] at hall
        rw [hall] at k
        exact s_ret ev_c fun H4 e4 => k H4 ((e1.trans e2).trans e4)
/-! ### desk_names -/
theorem sc_desk_names : FnScope ["self", "caller"] ["self"] (defScope s_desk_names) := ⟨rfl, rfl, rfl, by decide +kernel, rfl, by decide +kernel, by decide +kernel⟩
def sp_desk_names (K : PySem.W.Frag) : Sp := fun vs H Q _ => ∃ (p : Addr) (d : Dk) (l : Addr) (ps : List Pr), vs = [.ref p] ∧ DkAt K H p d l ps ∧ d.line.length ≤ 1000 ∧ RetL (d.line.map fun c => V.str c.nm) H Q
theorem cv_names {K : PySem.W.Frag} {H : Hp} {p l : Addr} {d : Dk} {ps : List Pr} (h : DkAt K H p d l ps) (hz : d.line.length ≤ 1000) : SpL (sp_desk_names K) (.ref p :: ([] ++ [])) H (d.line.map fun c => V.str c.nm) := spl_call fun _ e _ _ k => ⟨p, d, l, ps, rfl, h.ex e, hz, k⟩
theorem ok_desk_names {P : Program} {w : World} {K : PySem.W.Frag} {mg : Str → Option Value} {base : Heap} (T : Txt K mg) : ∃ fd, FnOk P w K mg base (CX0) 1 (He.ma K (He.ga K "Desk") "names") fd ["self"] (sp_desk_names K) ∧ Binds K fd ["self"] [] ∧ FunD K "names" "Desk.names" (defArgs s_desk_names) (defBody s_desk_names) (defScope s_desk_names) [] [] (He.ma K (He.ga K "Desk") "names") fd := by
  obtain ⟨fd, F⟩ := f_desk_names T
  refine ⟨fd, ok0 F sc_desk_names (fun vs H Q E h => ?_) (fun cdv A outer s H vs Q E hr h => ?_), FunD.bindsN F fun _ _ _ _ _ _ us hl => match us, hl with | [_], _ => rfl, F⟩
  · (repeat (obtain ⟨_, h⟩ := h)); subst_vars; rfl
  · obtain ⟨p, d, l, ps, rfl, D, hz, k⟩ := h
    refine ⟨_, (pss_one (ps_ret (pe_lc (own := [("caller", 1)]) (g := gName 1) (tt := tYes) rfl sc_desk_names.nd (pi_listK (K := K) rfl (pe_fldK (K := K) rfl (pv 0) rfl)) (blkOk_by (own := [("caller", 1)]) (N := ["self", "caller"]) (sc := defScope s_desk_names) (by decide +kernel)) (fun _ _ _ _ _ => (pg_name (i := 1) sc_desk_names.nd rfl (Or.inl rfl))) (fun _ _ _ _ _ => pts_nil) (fun _ _ _ _ _ => (pe_fldK (K := K) rfl (pv 1) rfl))))), ?_⟩
    have e1 : (ps.filter fun _ => true).map (fun q => V.str q.2.nm) = d.line.map fun c => V.str c.nm := by
      rw [filter_true, D.eq, List.map_map]
      rfl
    rw [← e1] at k
    exact s_retL (el_lcM (K := K) (ps := ps) (uu := fun q => V.ref q.1) (fun _ => true) (fun q => V.str q.2.nm) (ev_line T (ev_var rfl) D) (sq_of D.ln) (by rw [D.len]; omega) (fun _ => rfl) (fun _ _ _ _ => et_yes) fun q hq H1 e1 _ => ev_label T (ev_var rfl) ((D.at_ q hq).ex e1)) k
/-! ### caller_init -/
theorem sc_caller_init : FnScope ["self", "label", "grade", "stand", "mark"] ["self", "label", "grade", "stand", "mark"] (defScope s_caller_init) := ⟨rfl, rfl, rfl, by decide +kernel, rfl, by decide +kernel, by decide +kernel⟩
def sp_caller_init (K : PySem.W.Frag) : Sp := fun vs H Q _ => ∃ (x dx : Addr) (a g s m : V), vs = [.ref x, a, g, s, m] ∧ H x = some (.ins (aC K) dx []) ∧ ∀ H' : Hp, H' x = some (.ins (aC K) dx (rfs a g s m)) → (∀ b o, H b = some o → b ≠ x → H' b = some o) → Q .non H'
theorem ok_caller_init {P : Program} {w : World} {K : PySem.W.Frag} {mg : Str → Option Value} {base : Heap} (T : Txt K mg) : ∃ fd, FnOk P w K mg base (CX0) 1 (He.ma K (He.ga K "Caller") "__init__") fd ["self", "label", "grade", "stand", "mark"] (sp_caller_init K) ∧ Binds K fd ["self", "label", "grade", "stand", "mark"] [] ∧ FunD K "__init__" "Caller.__init__" (defArgs s_caller_init) (defBody s_caller_init) (defScope s_caller_init) [] [] (He.ma K (He.ga K "Caller") "__init__") fd := by
  obtain ⟨fd, F⟩ := f_caller_init T
  refine ⟨fd, ok0 F sc_caller_init (fun vs H Q E h => ?_) (fun cdv A outer s H vs Q E hr h => ?_), FunD.bindsN F fun _ _ _ _ _ _ us hl => match us, hl with | [_, _, _, _, _], _ => rfl, F⟩
  · (repeat (obtain ⟨_, h⟩ := h)); subst_vars; rfl
  · obtain ⟨x, dx, a, g, s, m, rfl, hx, k⟩ := h
    refine ⟨_, (pss_cons (ps_fld (pv 0) (pv 1) rfl)
        (pss_cons (ps_fld (pv 0) (pv 2) rfl)
        (pss_cons (ps_fld (pv 0) (pv 3) rfl)
        (pss_one (ps_fld (pv 0) (pv 4) rfl))))), ?_⟩
    refine ⟨_, rfl, _, rfl, x, aC K, dx, _, rfl, hx, c_Caller T, n_Caller_label T, (by show 0 < 1000; decide), ?_⟩
    refine ⟨_, rfl, _, rfl, x, aC K, dx, _, rfl, upd_same, c_Caller T, n_Caller_grade T, (by show 1 < 1000; decide), ?_⟩
    refine ⟨_, rfl, _, rfl, x, aC K, dx, _, rfl, upd_same, c_Caller T, n_Caller_stand T, (by show 2 < 1000; decide), ?_⟩
    refine ⟨_, rfl, _, rfl, x, aC K, dx, _, rfl, upd_same, c_Caller T, n_Caller_mark T, (by show 3 < 1000; decide), ?_⟩
    rw [upd_upd, upd_upd, upd_upd]
    exact k _ upd_same fun b o e hb => by rw [upd_ne hb]; exact e
/-! ### desk_enter -/
theorem sc_desk_enter : FnScope ["self", "name", "rank"] ["self", "name", "rank"] (defScope s_desk_enter) := ⟨rfl, rfl, rfl, by decide +kernel, rfl, by decide +kernel, by decide +kernel⟩
def sp_desk_enter (K : PySem.W.Frag) : Sp := fun vs H Q E => ∃ (F : Hp) (p : Addr) (d : Dk) (nm : Str) (rk : Int), vs = [.ref p, .str nm, .int rk] ∧ DeskAt K F H p d ∧ d.Wf ∧ nm.length ≤ 100000 ∧
  (∀ e, enterErr d nm rk = some e → ∀ H', Ex H H' → E (.ref (He.ga K e)) none H') ∧ (enterErr d nm rk = none → ∀ H', DeskAt K F H' p (d.enter nm rk) → Q .non H')
theorem ok_desk_enter {P : Program} {w : World} {K : PySem.W.Frag} {mg : Str → Option Value} {base : Heap} (T : Txt K mg) : ∃ fd, FnOk P w K mg base (L2N.CX P w) 3 (He.ma K (He.ga K "Desk") "enter") fd ["self", "name", "rank"] (sp_desk_enter K) ∧ Binds K fd ["self", "name", "rank"] [] ∧ FunD K "enter" "Desk.enter" (defArgs s_desk_enter) (defBody s_desk_enter) (defScope s_desk_enter) [] [] (He.ma K (He.ga K "Desk") "enter") fd := by
  obtain ⟨fd, F⟩ := f_desk_enter T
  obtain ⟨d_is_name, G_is_name, b_is_name, _⟩ := ok_is_name (P := P) (w := w) (base := base) T
  obtain ⟨d_desk_names, G_desk_names, b_desk_names, _⟩ := ok_desk_names (P := P) (w := w) (base := base) T
  obtain ⟨d_caller_init, G_caller_init, b_caller_init, _⟩ := ok_caller_init (P := P) (w := w) (base := base) T
  obtain ⟨t_TOP, hk_TOP⟩ := k_TOP T
  refine ⟨fd, okXN F sc_desk_enter (fun vs H Q E h => ?_) (fun cdv A outer s H vs Q E hr h => ?_), FunD.bindsN F fun _ _ _ _ _ _ us hl => match us, hl with | [_, _, _], _ => rfl, F⟩
  · (repeat (obtain ⟨_, h⟩ := h)); subst_vars; rfl
  · obtain ⟨F, p, d, nm, rk, rfl, ⟨l, ps, D, f⟩, W, hz, kE, k⟩ := h
    refine ⟨_, (pss_cons (ps_if (pt_not (pt_val (pe_call G_is_name (hr.mono (by decide)) rfl (g_is_name T) (kp_is_name T) b_is_name .nil pass0 (pa_cons (pv 1) pa_nil)))) (pss_one (L2N.ps_raise rfl (L2N.takes_of rfl rfl rfl rfl) (L2N.pmk_own PySem.F.excBase_ValueError (x_NoName T).1 (g_NoName T) (x_NoName T).2.1 (raises_own (x_NoName T).2.2.1 (x_NoName T).2.2.2) rfl)))
        pss_nil)
        (pss_cons (ps_if (PW.pt (pw_or (pt_cmpR op_lt (pv 2) pe_int (nomark _)) (pw_or1 (pt_cmpR op_gt (pv 2) (pe_glob (v := .int 99) rfl hk_TOP ⟨_, rfl⟩) (nomark _))))) (pss_one (L2N.ps_raise rfl (L2N.takes_of rfl rfl rfl rfl) (L2N.pmk_own PySem.F.excBase_ValueError (x_NoRank T).1 (g_NoRank T) (x_NoRank T).2.1 (raises_own (x_NoRank T).2.2.1 (x_NoRank T).2.2.2) rfl)))
        pss_nil)
        (pss_cons (ps_if (pt_cmpR (op_inK (K := K) rfl) (pv 1) (pe_meth0 (pv 0) (c_Desk T) (m_desk_names T) G_desk_names (hr.mono (by decide)) b_desk_names .nil pass0) (by with_unfolding_all rfl)) (pss_one (L2N.ps_raise rfl (L2N.takes_of rfl rfl rfl rfl) (L2N.pmk_own PySem.F.excBase_ValueError (x_Known T).1 (g_Known T) (x_Known T).2.1 (raises_own (x_Known T).2.2.1 (x_Known T).2.2.2) rfl)))
        pss_nil)
        (pss_cons (ps_if (pt_cmpR op_ge (pe_callB (call_lenK (K := K) rfl) rfl (b_len T) (by decide +kernel) (pa_cons (pe_fldK (K := K) rfl (pv 0) rfl) pa_nil)) (pe_fldK (K := K) rfl (pv 0) rfl) (nomark _)) (pss_one (L2N.ps_raise rfl (L2N.takes_of rfl rfl rfl rfl) (L2N.pmk_own PySem.F.excBase_ValueError (x_Full T).1 (g_Full T) (x_Full T).2.1 (raises_own (x_Full T).2.2.1 (x_Full T).2.2.2) rfl)))
        pss_nil)
        (pss_one (ps_expr (pe_bm PySem.F.plainAttrs_list PySem.F.slot_list_append PySem.F.type_list_append mt_append (pe_fldK (K := K) rfl (pv 0) rfl) (pa_cons (pe_make (mk_Caller T) G_caller_init (hr.mono (by decide)) rfl (g_Caller T) b_caller_init .nil pass0 (pa_cons (pv 1) (pa_cons (pv 2) (pa_cons pe_str (pa_cons (pe_fldK (K := K) rfl (pv 0) rfl) pa_nil))))) pa_nil)))))))), ?_⟩
    unfold enterErr at kE k
    refine q_when (b := !isName nm) ?h (fun hb H1 e1 => ?_) (fun hb H1 e1 => ?_)
    case h => exact et_not (et_B (ev_call (ea_cons (ev_var rfl) ea_nil) (cv_is_name hz)))
    · exact kE _ (if_pos (by simpa using hb)) H1 e1
    have n1 : ¬ isName nm = false := by simpa using hb
    rw [if_neg n1] at k
    refine' q_when ?h (fun hb H2 e2 => ?_) (fun hb H2 e2 => ?_)
    case h => tm_at "rr.ev"
    · exact kE _ (by rw [if_neg n1, if_pos (by simpa using hb)]) H2 (e1.trans e2)
    have n2 : ¬ (rk < 0 ∨ 99 < rk) := by simpa using hb
    rw [if_neg n2] at k
    have hlen := W.len
    have D2 := D.ex (e1.trans e2)
    refine q_when (b := decide (nm ∈ d.line.map (·.nm))) ?h (fun hb H3 e3 => ?_) (fun hb H3 e3 => ?_)
    case h =>
      rw [← inV_names]
      obtain ⟨dx, hp⟩ := D2.ob
      exact et_test (ev_opL (ev_var rfl) (el_meth (ev_var rfl) hp rfl ea_nil (cv_names D2 (by omega))) fun r H1 h e => rv_isL (sq_of h) rfl (flat_names _))
    · exact kE _ (by rw [if_neg n1, if_neg n2, if_pos (of_decide_eq_true hb)]) H3 ((e1.trans e2).trans e3)
    have n3 := of_decide_eq_false hb
    rw [if_neg n3] at k
    have D3 := D2.ex e3
    have hln := D.len
    have hll : ((ps.map fun q => V.ref q.1).length : Int) = (d.line.length : Int) := by rw [List.length_map]; omega
    refine q_when (b := decide (d.room ≤ (d.line.length : Int))) ?h (fun hb H4 e4 => ?_) (fun hb H4 e4 => ?_)
    case h =>
      rw [← hll]
      exact et_test (ev_op (ev_cb (ea_cons (ev_line T (ev_var rfl) D3) ea_nil) (rc_lenS (sq_of D3.ln))) (ev_room T (ev_var rfl) D3) rv_I0)
    · exact kE _ (by rw [if_neg n1, if_neg n2, if_neg n3, if_pos (of_decide_eq_true hb)]) H4 (((e1.trans e2).trans e3).trans e4)
    have n4 := of_decide_eq_false hb
    rw [if_neg n4] at k
    have D4 := D3.ex e4
    have f4 := f.mono (((e1.trans e2).trans e3).trans e4)
    obtain ⟨dx, hp⟩ := D4.ob
    have hl := D4.ln
    refine ⟨_, rfl, p, aD K, dx, _, _, rfl, hp, c_Desk T, n_Desk_line T, rfl, .inl ⟨rfl, _, SqL.of hl⟩, ?_⟩
    refine ⟨_, rfl, _, rfl, _, rfl, p, aD K, dx, _, _, rfl, hp, c_Desk T, n_Desk_now T, rfl, fun x dc nx ndx nex => ?_⟩
    refine ⟨x, dc, _, _, _, _, rfl, upd_same, fun H5 h5 k5 => ⟨rfl, ?_⟩⟩
    have e5 : Ex H4 H5 := fun b o hb => k5 b o (by rw [upd_ne (ne_of_none hb nx), upd_ne (ne_of_none hb ndx)]; exact hb) (ne_of_none hb nx)
    refine ⟨l, _, .ref x, rfl, rfl, e5 _ _ hl, sz_lt (by rw [List.length_map]; omega), ?_⟩
    have nlx : l ≠ x := ne_of_none hl nx
    have D5 := D4.ex e5
    have f5 := f4.mono e5
    have ca : ∀ {b o}, b ≠ l → H5 b = some o → upd H5 l (.lst ((ps.map fun q => V.ref q.1) ++ [.ref x])) b = some o := fun hb ho => by rw [upd_ne hb]; exact ho
    obtain ⟨dx5, hp5⟩ := D5.ob
    have Fx : F x = none := by
      cases hF : F x with
      | none => rfl
      | some o => have := f4.ex _ _ hF; rw [nx] at this; cases this
    refine k rfl _ ⟨l, ps ++ [(x, ⟨nm, rk, .rdy d.now⟩)], ⟨⟨dx5, ca (ne_of hp5 D5.ln (by intro z; cases z)) hp5⟩, ?_, ?_, ?_⟩, ⟨fun b o hb => ca (fun e => by have := f.l0; rw [← e, hb] at this; cases this) (f5.ex _ _ hb), f.p0, f.l0, ?_⟩⟩
    · rw [upd_same, List.map_append]
      rfl
    · show d.line ++ _ = _
      rw [List.map_append, D.eq]
      rfl
    · intro q hq
      rcases List.mem_append.mp hq with hq | hq
      · obtain ⟨dq, h⟩ := D5.at_ q hq
        exact ⟨dq, ca (ne_of h D5.ln (by intro z; cases z)) h⟩
      · rw [List.mem_singleton] at hq
        rw [hq]
        exact ⟨dc, ca nlx.symm h5⟩
    · intro q hq
      rcases List.mem_append.mp hq with hq | hq
      · exact f.c0 q hq
      · rw [List.mem_singleton] at hq
        rw [hq]
        exact Fx
theorem near_mem {L : List Nat} (hL : L.length = 10 ∨ L.length = 36) {k c : Int} (h0 : 0 ≤ k) (h1 : k ≤ 80) : ((k + c % (L.length : Int)) / (L.length : Int)).toNat < L.length ∧ 0 ≤ (k + c % (L.length : Int)) / (L.length : Int) := by
  rcases hL with hL | hL <;> rw [hL] <;> omega
theorem mod_mem {L : List Nat} (hL : L.length = 10 ∨ L.length = 36) (x : Int) : (x % (L.length : Int)).toNat < L.length ∧ 0 ≤ x % (L.length : Int) := by
  rcases hL with hL | hL <;> rw [hL] <;> omega
theorem nmT1_len (L : List Nat) (c : Int) (n : Nat) : (nmT1 L c n).length = n := by unfold nmT1; rw [List.length_map, List.length_range]
theorem nmT2_len (L : List Nat) (k c : Int) (n : Nat) : (nmT2 L k c n).length = n := by unfold nmT2; rw [List.length_map, List.length_range]
theorem nameBy_ok {k c : Int} (h0 : 0 ≤ k) (h1 : k ≤ 80) : isName (nameBy k c) = true := by
  obtain ⟨hL, hnd, hsg⟩ := nmS_ok c
  unfold nameBy
  generalize nmS c = L at *
  have hn : nmNear L k c ∈ L := gat_mem (near_mem hL h0 h1).1
  have ht : nmTell L k c ∈ L := gat_mem (mod_mem hL _).1
  have t1 : ∀ n, ∀ x ∈ nmT1 L c n, x ∈ L := fun n x hx => by
    unfold nmT1 at hx
    obtain ⟨j, _, rfl⟩ := List.mem_map.mp hx
    exact gat_mem (mod_mem hL _).1
  have t2 : ∀ n, ∀ x ∈ nmT2 L k c n, x ∈ L := fun n x hx => by
    unfold nmT2 at hx
    obtain ⟨j, _, rfl⟩ := List.mem_map.mp hx
    exact gat_mem (mod_mem hL _).1
  have key : 1 ≤ (nameL L k c).length ∧ (nameL L k c).length ≤ 12 ∧ ∀ x ∈ nameL L k c, x ∈ L := by
    unfold nameL
    have m0 := mix_nonneg (c := c) (p := 10313) (m := 11) (by decide)
    have m1 := mix_lt (c := c) (p := 10313) (m := 11) (by decide)
    have a0 := mix_nonneg (c := c) (p := 10321) (m := 2 + mix c 10313 11 - 1) (by omega)
    have a1 := mix_lt (c := c) (p := 10321) (m := 2 + mix c 10313 11 - 1) (by omega)
    have b0 := mix_nonneg (c := c + k) (p := 10007) (m := 11) (by decide)
    have b1 := mix_lt (c := c + k) (p := 10007) (m := 11) (by decide)
    split
    · simp only [List.length_append, List.length_take, List.length_drop, nmT1_len, List.length_singleton]
      refine ⟨by omega, by omega, fun x hx => ?_⟩
      simp only [List.mem_append, List.mem_singleton] at hx
      rcases hx with ((hx | rfl) | rfl) | hx
      · exact t1 _ _ (List.mem_of_mem_take hx)
      · exact hn
      · exact ht
      · exact t1 _ _ (List.mem_of_mem_drop hx)
    · split
      · exact ⟨Nat.le_refl 1, (by show 1 ≤ 12; decide), fun x hx => by rw [List.mem_singleton] at hx; rw [hx]; exact ht⟩
      · have key : 1 ≤ ([nmNear L k c] ++ [nmTell L k c] ++ nmT2 L k c (mix (c + k) 10007 11).toNat).length ∧ ([nmNear L k c] ++ [nmTell L k c] ++ nmT2 L k c (mix (c + k) 10007 11).toNat).length ≤ 12 ∧ ∀ x ∈ [nmNear L k c] ++ [nmTell L k c] ++ nmT2 L k c (mix (c + k) 10007 11).toNat, x ∈ L := by
          simp only [List.length_append, nmT2_len, List.length_singleton]
          refine ⟨by omega, by omega, fun x hx => ?_⟩
          simp only [List.mem_append, List.mem_singleton] at hx
          rcases hx with (rfl | rfl) | hx
          · exact hn
          · exact ht
          · exact t2 _ _ hx
        split
        · rw [List.length_reverse]
          exact ⟨key.1, key.2.1, fun x hx => key.2.2 x (List.mem_reverse.mp hx)⟩
        · exact key
  unfold isName
  rw [SX.S_len, decide_eq_true key.1, decide_eq_true key.2.1]
  exact List.all_eq_true.mpr fun x hx => hsg x (key.2.2 x hx)
theorem pair_inj {L : List Nat} (hL : L.length = 10 ∨ L.length = 36) (nd : L.Nodup) {k k' c : Int} (h0 : 0 ≤ k) (h1 : k ≤ 80) (h0' : 0 ≤ k') (h1' : k' ≤ 80) (e1 : nmNear L k c = nmNear L k' c) (e2 : nmTell L k c = nmTell L k' c) : k = k' := by
  have n1 := near_mem (c := c) hL h0 h1
  have n2 := near_mem (c := c) hL h0' h1'
  have m1 := mod_mem hL (k + c)
  have m2 := mod_mem hL (k' + c)
  have i1 := gat_inj nd n1.2 n2.2 n1.1 n2.1 e1
  have i2 := gat_inj nd m1.2 m2.2 m1.1 m2.1 e2
  rcases hL with hL | hL <;> rw [hL] at i1 i2 <;> omega
theorem nameBy_inj {k k' c : Int} (h0 : 0 ≤ k) (h1 : k ≤ 80) (h0' : 0 ≤ k') (h1' : k' ≤ 80) (e : nameBy k c = nameBy k' c) : k = k' := by
  obtain ⟨hL, hnd, hsg⟩ := nmS_ok c
  unfold nameBy at e
  have e := SX.S_inj e
  generalize nmS c = L at *
  have two : ∀ {a b a' b' : Nat} {r r' : List Nat}, [a] ++ [b] ++ r = [a'] ++ [b'] ++ r' → a = a' ∧ b = b' := fun h => by
    simp only [List.singleton_append, List.cons_append, List.nil_append, List.cons.injEq] at h
    exact ⟨h.1, h.2.1⟩
  unfold nameL at e
  by_cases hA : mix c 10303 2 = 0
  · rw [if_pos hA, if_pos hA, List.append_assoc, List.append_assoc, List.append_assoc, List.append_assoc] at e
    have e := List.append_cancel_left e
    rw [← List.append_assoc, ← List.append_assoc] at e
    obtain ⟨a, b⟩ := two e
    exact pair_inj hL hnd h0 h1 h0' h1' a b
  rw [if_neg hA, if_neg hA] at e
  by_cases hk : k < (L.length : Int) ∧ mix (c + 3 * k) 10253 8 = 0
  · by_cases hk' : k' < (L.length : Int) ∧ mix (c + 3 * k') 10253 8 = 0
    · rw [if_pos hk, if_pos hk'] at e
      have e2 : nmTell L k c = nmTell L k' c := by injection e
      have m1 := mod_mem hL (k + c)
      have m2 := mod_mem hL (k' + c)
      have i2 := gat_inj hnd m1.2 m2.2 m1.1 m2.1 e2
      have hk1 := hk.1
      have hk2 := hk'.1
      rcases hL with hL | hL <;> rw [hL] at i2 hk1 hk2 <;> omega
    · rw [if_pos hk, if_neg hk'] at e
      have := congrArg List.length e
      by_cases hR : c / 36 % 2 = 1
      · rw [if_pos hR] at this
        simp only [List.length_append, List.length_reverse, List.length_singleton] at this
        omega
      · rw [if_neg hR] at this
        simp only [List.length_append, List.length_singleton] at this
        omega
  · by_cases hk' : k' < (L.length : Int) ∧ mix (c + 3 * k') 10253 8 = 0
    · rw [if_neg hk, if_pos hk'] at e
      have := congrArg List.length e
      by_cases hR : c / 36 % 2 = 1
      · rw [if_pos hR] at this
        simp only [List.length_append, List.length_reverse, List.length_singleton] at this
        omega
      · rw [if_neg hR] at this
        simp only [List.length_append, List.length_singleton] at this
        omega
    · rw [if_neg hk, if_neg hk'] at e
      by_cases hR : c / 36 % 2 = 1
      · rw [if_pos hR, if_pos hR] at e
        obtain ⟨a, b⟩ := two (List.reverse_inj.mp e)
        exact pair_inj hL hnd h0 h1 h0' h1' a b
      · rw [if_neg hR, if_neg hR] at e
        obtain ⟨a, b⟩ := two e
        exact pair_inj hL hnd h0 h1 h0' h1' a b
/-! ### several that entered at one time -/
def entD (pa ro no : Int) (f : Nat → Str) (g : Nat → Int) (i : Nat) : Dk := ⟨pa, ro, no, (List.range i).map fun k => ⟨f k, g k, .rdy no⟩⟩
section
variable {pa ro no : Int} {f : Nat → Str} {g : Nat → Int} {i : Nat}
theorem entD_step : (entD pa ro no f g i).enter (f i) (g i) = entD pa ro no f g (i + 1) := by
  unfold entD Dk.enter
  rw [List.range_succ, List.map_append]
  rfl
theorem entD_nms : (entD pa ro no f g i).line.map (·.nm) = (List.range i).map f := by
  show ((List.range i).map _).map _ = _
  rw [List.map_map]
  rfl
theorem nodup_map_range {α : Type} {f : Nat → α} {n : Nat} (h : ∀ j k, j < n → k < n → f j = f k → j = k) : ((List.range n).map f).Nodup := by
  refine List.pairwise_iff_getElem.mpr fun j k hj hk hjk e => ?_
  rw [List.length_map, List.length_range] at hj hk
  rw [List.getElem_map, List.getElem_map, List.getElem_range, List.getElem_range] at e
  have := h j k hj hk e
  omega
theorem entD_ok (p1 : 1 ≤ pa) (p2 : pa ≤ 1000) (r1 : 1 ≤ ro) (r2 : ro ≤ 60) (n0 : 0 ≤ no) (hi : (i : Int) ≤ ro) (hf : ∀ k, k < i → isName (f k) = true) (hg : ∀ k, k < i → 0 ≤ g k ∧ g k ≤ 99) (inj : ∀ j k, j < i → k < i → f j = f k → j = k) : (entD pa ro no f g i).Ok := by
  refine ⟨p1, p2, r1, r2, n0, ?_, ?_, fun c hc => ?_⟩
  · show (((List.range i).map _).length : Int) ≤ ro
    rw [List.length_map, List.length_range]
    exact hi
  · rw [entD_nms]
    exact nodup_map_range inj
  · obtain ⟨k, hk, rfl⟩ := List.mem_map.mp hc
    rw [List.mem_range] at hk
    exact ⟨hf k hk, (hg k hk).1, (hg k hk).2, n0, Int.le_refl _⟩
theorem entD_err (hi : (i : Int) < ro) (hf : isName (f i) = true) (hg : 0 ≤ g i ∧ g i ≤ 99) (inj : ∀ j, j < i → f j ≠ f i) : enterErr (entD pa ro no f g i) (f i) (g i) = none := by
  unfold enterErr
  rw [if_neg (by rw [hf]; decide), if_neg (by omega), if_neg ?_, if_neg ?_]
  · show ¬ ro ≤ (((List.range i).map _).length : Int)
    rw [List.length_map, List.length_range]
    omega
  · rw [entD_nms]
    intro h
    obtain ⟨j, hj, e⟩ := List.mem_map.mp h
    exact inj j (List.mem_range.mp hj) e
end
theorem nd_ix {α : Type} {l : List α} (nd : l.Nodup) {i j : Nat} {x : α} (hi : l[i]? = some x) (hj : l[j]? = some x) : i = j := by
  obtain ⟨h1, e1⟩ := List.getElem?_eq_some_iff.mp hi
  obtain ⟨h2, e2⟩ := List.getElem?_eq_some_iff.mp hj
  have key := List.pairwise_iff_getElem.mp nd
  rcases Nat.lt_trichotomy i j with h | h | h
  · exact absurd (e1.trans e2.symm) (key i j h1 h2 h)
  · exact h
  · exact absurd (e2.trans e1.symm) (key j i h2 h1 h)
theorem decI (a b : Int) : decide (V.int a = V.int b) = decide (a = b) := decide_eq_decide.mpr ⟨fun h => by cases h; rfl, fun h => by rw [h]⟩
theorem given_all (n : Nat) (v : Nat → V) : given n (fun _ => true) v = (List.range n).map v := by
  unfold given
  rw [filter_true]
/-- a pick of a written list -/
theorem pick_all {xs : List Int} {i : Int} {P : Int → Prop} (h0 : 0 ≤ i) (h1 : i < (xs.length : Int)) (h : ∀ x ∈ xs, P x) : ∃ v, P v ∧ atI (xs.map V.int) i = some (.int v) := by
  have hl : i.toNat < xs.length := by omega
  refine ⟨xs[i.toNat], h _ (List.getElem_mem hl), at_of (j := i.toNat) (by omega) ?_⟩
  rw [List.getElem?_map, List.getElem?_eq_getElem hl]
  rfl
/-! ### L_texts -/
theorem sc_L_texts : FnScope ["_law_found", "_law_due_here", "_law_k"] ["_law_found", "_law_due_here"] (defScope s_L_texts) := ⟨rfl, rfl, rfl, by decide +kernel, rfl, by decide +kernel, by decide +kernel⟩
theorem ev_callLL {σ : L2.St} {H : Hp} {ta tb : TE} {sp : Sp} {E : XK} {xs ys : List V} {z : V} (h1 : EvL ta σ H xs) (h2 : EvL tb σ H ys) (hs : ∀ p q H1, Ex H H1 → H1 p = some (.lst xs) → H1 q = some (.lst ys) → SpV sp ([.ref p, .ref q] ++ []) H1 z) : Ev (tCall sp [] E (tCons ta (tCons tb tNil))) σ H z := fun H1 e Q k =>
  h1 H1 e _ fun p H2 hp e2 hp2 => h2 H2 (e.trans e2) _ fun q H3 hq e3 hq3 => hs p q H3 ((e.trans e2).trans e3) (e3 _ _ hp2) hq3 H3 (Ex.refl H3) Q (fun H4 e4 => k H4 ((e2.trans e3).trans e4)) E
theorem rc_isi_str {K : PySem.W.Frag} {H : Hp} {s : Str} : RC (rIsi K) [.str s, .ty "str"] H (.bl true) := rc_isi (t' := .non) (.ty _) (fun H1 e => .base (.str s)) (kit_ty (by decide +kernel))
def sp_L_texts (_ : PySem.W.Frag) : Sp := fun vs H Q _ => ∃ (a b : Addr) (xs : List (Option Str)), vs = [.ref a, .ref b] ∧ H a = some (.lst (xs.map optS)) ∧ H b = some (.lst (xs.map optS)) ∧ xs.length ≤ 1000 ∧ RetV (.bl true) H Q
theorem ok_L_texts {P : Program} {w : World} {K : PySem.W.Frag} {mg : Str → Option Value} {base : Heap} (T : Txt K mg) : ∃ fd, FnOk P w K mg base (CX0) 1 (He.ga K "_law_texts") fd ["_law_found", "_law_due_here"] (sp_L_texts K) ∧ Binds K fd ["_law_found", "_law_due_here"] [] ∧ FunD K "_law_texts" "_law_texts" (defArgs s_L_texts) (defBody s_L_texts) (defScope s_L_texts) [] [] (He.ga K "_law_texts") fd := by
  obtain ⟨fd, F⟩ := f_L_texts T
  refine ⟨fd, ok0 F sc_L_texts (fun vs H Q E h => ?_) (fun cdv A outer s H vs Q E hr h => ?_), FunD.bindsN F fun _ _ _ _ _ _ us hl => match us, hl with | [_, _], _ => rfl, F⟩
  · (repeat (obtain ⟨_, h⟩ := h)); subst_vars; rfl
  · obtain ⟨a, b, xs, rfl, ha, hb0, hz, k⟩ := h
    refine ⟨_, (pss_cons (ps_if (PW.pt (pw_or (pt_not (pt_val (pe_callB (call_isiK' (K := K) rfl) rfl (b_isinstance T) (by decide +kernel) (pa_cons (pv 0) (pa_cons (pe_bltn (v := .ty "list") rfl (b_list T) (by decide +kernel) rfl) pa_nil))))) (pw_or1 (pt_cmpR op_ne (pe_callB (call_lenK (K := K) rfl) rfl (b_len T) (by decide +kernel) (pa_cons (pv 0) pa_nil)) (pe_callB (call_lenK (K := K) rfl) rfl (b_len T) (by decide +kernel) (pa_cons (pv 1) pa_nil)) (nomark _))))) (pss_one (ps_ret pe_bl))
        pss_nil)
        (pss_cons (ps_for PassesOwn.never rfl (pi_range1 rfl (b_range T) (pa_cons (pe_callB (call_lenK (K := K) rfl) rfl (b_len T) (by decide +kernel) (pa_cons (pv 1) pa_nil)) pa_nil)) (pg_name (i := 2) sc_L_texts.nd rfl (Or.inl rfl))
        (pss_one (ps_if (pt_cmpR op_isN (pe_ix (ix_listK (K := K) rfl) (pv 1) (pv 2) (fun _ _ => rfl)) pe_non (nomark _)) (pss_one (ps_if (pt_cmpR op_notN (pe_ix (ix_listK (K := K) rfl) (pv 0) (pv 2) (fun _ _ => rfl)) pe_non (nomark _)) (pss_one (ps_ret pe_bl))
        pss_nil))
        (pss_one (ps_if (PW.pt (pw_or (pt_not (pt_val (pe_callB (call_isiK' (K := K) rfl) rfl (b_isinstance T) (by decide +kernel) (pa_cons (pe_ix (ix_listK (K := K) rfl) (pv 0) (pv 2) (fun _ _ => rfl)) (pa_cons (pe_bltn (v := .ty "str") rfl (b_str T) (by decide +kernel) rfl) pa_nil))))) (pw_or1 (pt_cmpR op_ne (pe_ix (ix_listK (K := K) rfl) (pv 0) (pv 2) (fun _ _ => rfl)) (pe_ix (ix_listK (K := K) rfl) (pv 1) (pv 2) (fun _ _ => rfl)) (nomark _))))) (pss_one (ps_ret pe_bl))
        pss_nil)))))
        (pss_one (ps_ret pe_bl)))), ?_⟩
    have la : ((xs.map optS).length : Int) = (xs.length : Int) := by rw [List.length_map]
    refine q_when (b := false) ?h1 (fun hb H4 e4 => by cases hb) (fun hb H1 e1 => ?_)
    case h1 =>
      refine et_is (et_or (a := false) (b := false) (et_is (et_not (et_B (ev_cb (ea_cons (ev_var rfl) (ea_cons ev_c ea_nil)) (rc_isi_list ha)))) rfl) fun _ => et_is (et_test (ev_op (ev_cb (ea_cons (ev_var rfl) ea_nil) (rc_lenS (sq_of ha))) (ev_cb (ea_cons (ev_var rfl) ea_nil) (rc_lenS (sq_of hb0))) (rv_ne rfl))) (by simp)) rfl
    refine q_forR1 (n := ((xs.map optS).length : Int)) (ea_cons (ev_cb (ea_cons (ev_var rfl) ea_nil) (rc_lenS (sq_of (e1 _ _ hb0)))) ea_nil) (by rw [la]; omega)
      (fun i σ' H' => Ex H H' ∧ ∃ v, σ' = [some (.ref a), some (.ref b), v]) (fun H2 e2 => ⟨e1.trans e2, none, rfl⟩) ?_ ?_
    · rintro i σ' H' hi ⟨e2, v, rfl⟩
      rw [la] at hi
      obtain ⟨x, hx⟩ : ∃ x, xs[i]? = some x := ⟨_, List.getElem?_eq_getElem (by omega)⟩
      have hat : atI (xs.map optS) (i : Int) = some (optS x) := at_of rfl (by rw [List.getElem?_map, hx]; rfl)
      have fa : ∀ {H3}, Ex H' H3 → Ev (tOp (rIxL K) (tVar 0) (tVar 2)) [some (.ref a), some (.ref b), some (.int (i : Int))] H3 (optS x) := fun e => ev_op (ev_var rfl) (ev_var rfl) (rv_ixL (sq_of ((e2.trans e) _ _ ha)) hat)
      have fb : ∀ {H3}, Ex H' H3 → Ev (tOp (rIxL K) (tVar 1) (tVar 2)) [some (.ref a), some (.ref b), some (.int (i : Int))] H3 (optS x) := fun e => ev_op (ev_var rfl) (ev_var rfl) (rv_ixL (sq_of ((e2.trans e) _ _ hb0)) hat)
      cases x with
      | none =>
        refine s_if (b := true) (et_is (et_test (ev_op (fb (Ex.refl _)) ev_c rv_isN)) rfl) (fun _ H3 e3 => ?_) (fun h => by cases h)
        exact s_when (b := false) (et_is (et_test (ev_op (fa e3) ev_c rv_notN)) rfl) (fun h => by cases h) (fun _ H4 e4 => ⟨e2.trans (e3.trans e4), _, rfl⟩)
      | some s =>
        refine s_if (b := false) (et_is (et_test (ev_op (fb (Ex.refl _)) ev_c rv_isN)) rfl) (fun h => by cases h) (fun _ H3 e3 => ?_)
        refine s_when (b := false) (et_is (et_or (a := false) (b := false) (et_is (et_not (et_B (ev_cb (ea_cons (fa e3) (ea_cons ev_c ea_nil)) rc_isi_str))) rfl) fun _ => et_is (et_test (ev_op (fa e3) (fb e3) (rv_ne rfl))) (by simp)) rfl) (fun h => by cases h) (fun _ H4 e4 => ⟨e2.trans (e3.trans e4), _, rfl⟩)
    · rintro σ' H' ⟨e2, v, rfl⟩
      exact s_ret ev_c fun H3 e3 => k H3 (e2.trans e3)
/-! ### L_whole -/
theorem sc_L_whole : FnScope ["_law_found"] ["_law_found"] (defScope s_L_whole) := ⟨rfl, rfl, rfl, by decide +kernel, rfl, by decide +kernel, by decide +kernel⟩
def sp_L_whole (_ : PySem.W.Frag) : Sp := fun vs H Q _ => ∃ (i : Int), vs = [.int i] ∧ RetV (.bl true) H Q
theorem cv_L_whole {K : PySem.W.Frag} {H : Hp} {i : Int} : SpV (sp_L_whole K) ([.int i] ++ []) H (.bl true) := spv_call fun _ _ _ _ k => ⟨i, rfl, k⟩
local macro_rules | `(tactic| tm_at "rr.cv") => `(tactic| exact cv_L_whole)
theorem ok_L_whole {P : Program} {w : World} {K : PySem.W.Frag} {mg : Str → Option Value} {base : Heap} (T : Txt K mg) : ∃ fd, FnOk P w K mg base (CX0) 1 (He.ga K "_law_whole") fd ["_law_found"] (sp_L_whole K) ∧ Binds K fd ["_law_found"] [] ∧ FunD K "_law_whole" "_law_whole" (defArgs s_L_whole) (defBody s_L_whole) (defScope s_L_whole) [] [] (He.ga K "_law_whole") fd := by
  obtain ⟨fd, F⟩ := f_L_whole T
  refine ⟨fd, ok0 F sc_L_whole (fun vs H Q E h => ?_) (fun cdv A outer s H vs Q E hr h => ?_), FunD.bindsN F fun _ _ _ _ _ _ us hl => match us, hl with | [_], _ => rfl, F⟩
  · (repeat (obtain ⟨_, h⟩ := h)); subst_vars; rfl
  · obtain ⟨i, rfl, k⟩ := h
    refine ⟨_, (pss_one (ps_ret (pe_and (pe_callB (call_isiK' (K := K) rfl) rfl (b_isinstance T) (by decide +kernel) (pa_cons (pv 0) (pa_cons (pe_bltn (v := .ty "int") rfl (b_int T) (by decide +kernel) rfl) pa_nil))) (pe_one (pe_not (pe_callB (call_isiK' (K := K) rfl) rfl (b_isinstance T) (by decide +kernel) (pa_cons (pv 0) (pa_cons (pe_bltn (v := .ty "bool") rfl (b_bool T) (by decide +kernel) rfl) pa_nil)))))))), ?_⟩
    exact s_ret (ev_andV (ev_cb (ea_cons (ev_var rfl) (ea_cons ev_c ea_nil)) rc_isi_int) fun _ => ev_notV (ev_cb (ea_cons (ev_var rfl) (ea_cons ev_c ea_nil)) rc_isi_int_bool)) k
/-! ### desk_one -/
theorem sc_desk_one : FnScope ["self", "name", "caller"] ["self", "name"] (defScope s_desk_one) := ⟨rfl, rfl, rfl, by decide +kernel, rfl, by decide +kernel, by decide +kernel⟩
def sp_desk_one (K : PySem.W.Frag) : Sp := fun vs H Q E => ∃ (p : Addr) (d : Dk) (l : Addr) (ps : List Pr) (nm : Str), vs = [.ref p, .str nm] ∧ DkAt K H p d l ps ∧
  (∀ q ∈ ps, q.2.nm = nm → ∀ H', Ex H H' → Q (.ref q.1) H') ∧ ((∀ q ∈ ps, q.2.nm ≠ nm) → ∀ H', Ex H H' → E (.ref (He.ga K "Unknown")) none H')
theorem ok_desk_one {P : Program} {w : World} {K : PySem.W.Frag} {mg : Str → Option Value} {base : Heap} (T : Txt K mg) : ∃ fd, FnOk P w K mg base (L2N.CX P w) 1 (He.ma K (He.ga K "Desk") "one") fd ["self", "name"] (sp_desk_one K) ∧ Binds K fd ["self", "name"] [] ∧ FunD K "one" "Desk.one" (defArgs s_desk_one) (defBody s_desk_one) (defScope s_desk_one) [] [] (He.ma K (He.ga K "Desk") "one") fd := by
  obtain ⟨fd, F⟩ := f_desk_one T
  refine ⟨fd, okXN F sc_desk_one (fun vs H Q E h => ?_) (fun cdv A outer s H vs Q E hr h => ?_), FunD.bindsN F fun _ _ _ _ _ _ us hl => match us, hl with | [_, _], _ => rfl, F⟩
  · (repeat (obtain ⟨_, h⟩ := h)); subst_vars; rfl
  · obtain ⟨p, d, l, ps, nm, rfl, D, k, kE⟩ := h
    refine ⟨_, (pss_cons (ps_for (passes_of rfl) rfl (pi_listK (K := K) rfl (pe_fldK (K := K) rfl (pv 0) rfl)) (pg_name (i := 2) sc_desk_one.nd rfl (Or.inl rfl))
        (pss_one (ps_if (pt_cmpR op_eq (pe_fldK (K := K) rfl (pv 2) rfl) (pv 1) (nomark _)) (pss_one (ps_ret (pv 2)))
        pss_nil)))
        (pss_one (L2N.ps_raise rfl (L2N.takes_of rfl rfl rfl rfl) (L2N.pmk_own PySem.F.excBase_ValueError (x_Unknown T).1 (g_Unknown T) (x_Unknown T).2.1 (raises_own (x_Unknown T).2.2.1 (x_Unknown T).2.2.2) rfl)))), ?_⟩
    refine q_forLn (K := K) (xs := ps.map fun q => V.ref q.1) (ev_line T (ev_var rfl) D) (sq_of D.ln) (fun i σ' H' => Ex H H' ∧ (∃ v, σ' = [some (.ref p), some (.str nm), v]) ∧ ∀ q ∈ ps.take i, q.2.nm ≠ nm) (fun H1 e1 => ⟨e1, ⟨none, rfl⟩, fun q hq => by simp at hq⟩) (fun i σ' H' _ ⟨e1, _⟩ => sq_of (e1 _ _ D.ln)) ?_ ?_
    · rintro i x σ' H' hi ⟨e1, ⟨v, rfl⟩, hall⟩
      rw [List.getElem?_map] at hi
      cases hq : ps[i]? with
      | none => rw [hq] at hi; cases hi
      | some q =>
        rw [hq] at hi
        cases hi
        have hm := List.mem_of_getElem? hq
        refine s_when (b := decide (q.2.nm = nm)) ?h (fun hb H2 e2 => ?_) (fun hb H2 e2 => ?_)
        case h =>
          rw [← decV]
          exact et_test (ev_op (ev_label T (ev_var rfl) ((D.at_ q hm).ex e1)) (ev_var rfl) (rv_eq rfl))
        · exact s_ret (ev_var rfl) fun H3 e3 => k q hm (of_decide_eq_true hb) H3 ((e1.trans e2).trans e3)
        · refine ⟨e1.trans e2, ⟨_, rfl⟩, fun r hr => ?_⟩
          rw [List.take_succ, hq] at hr
          rcases List.mem_append.mp hr with hr | hr
          · exact hall r hr
          · simp at hr
            rw [hr]
            exact of_decide_eq_false hb
    · rintro σ' H' ⟨e1, ⟨v, rfl⟩, hall⟩
      refine kE (fun q hq => hall q ?_) H' e1
      rw [List.length_map, List.take_length]
      exact hq
/-! ### desk_rank -/
theorem sc_desk_rank : FnScope ["self", "name"] ["self", "name"] (defScope s_desk_rank) := ⟨rfl, rfl, rfl, by decide +kernel, rfl, by decide +kernel, by decide +kernel⟩
def sp_desk_rank (K : PySem.W.Frag) : Sp := fun vs H Q E => ∃ (p : Addr) (d : Dk) (l : Addr) (ps : List Pr) (nm : Str), vs = [.ref p, .str nm] ∧ DkAt K H p d l ps ∧ d.Wf ∧ (d.get nm = none → ∀ H', Ex H H' → E (.ref (He.ga K "Unknown")) none H') ∧ ∀ c, d.get nm = some c → RetV (.int c.rk) H Q
theorem cv_rank {K : PySem.W.Frag} {H : Hp} {p l : Addr} {d : Dk} {ps : List Pr} {c : Cl} {nm : Str} (h : DkAt K H p d l ps) (W : d.Wf) (hc : d.get nm = some c) : SpV (sp_desk_rank K) (.ref p :: ([.str nm] ++ [])) H (.int c.rk) :=
  spv_meth fun _ e _ _ k => ⟨p, d, l, ps, nm, rfl, h.ex e, W, fun hn => (by rw [hn] at hc; cases hc), fun c' h' => by rw [hc] at h'; cases h'; exact k⟩
theorem ok_desk_rank {P : Program} {w : World} {K : PySem.W.Frag} {mg : Str → Option Value} {base : Heap} (T : Txt K mg) : ∃ fd, FnOk P w K mg base (L2N.CX P w) 2 (He.ma K (He.ga K "Desk") "rank") fd ["self", "name"] (sp_desk_rank K) ∧ Binds K fd ["self", "name"] [] ∧ FunD K "rank" "Desk.rank" (defArgs s_desk_rank) (defBody s_desk_rank) (defScope s_desk_rank) [] [] (He.ma K (He.ga K "Desk") "rank") fd := by
  obtain ⟨fd, F⟩ := f_desk_rank T
  obtain ⟨d_desk_one, G_desk_one, b_desk_one, _⟩ := ok_desk_one (P := P) (w := w) (base := base) T
  refine ⟨fd, okXN F sc_desk_rank (fun vs H Q E h => ?_) (fun cdv A outer s H vs Q E hr h => ?_), FunD.bindsN F fun _ _ _ _ _ _ us hl => match us, hl with | [_, _], _ => rfl, F⟩
  · (repeat (obtain ⟨_, h⟩ := h)); subst_vars; rfl
  · obtain ⟨p, d, l, ps, nm, rfl, D, W, kE, k⟩ := h
    refine ⟨_, (pss_one (ps_ret (pe_fldK (K := K) rfl (pe_meth (pv 0) (c_Desk T) (m_desk_one T) G_desk_one (hr.mono (by decide)) b_desk_one .nil (L2N.passes_call (L2N.takes_of rfl rfl rfl rfl) (fun _ _ _ _ h => h)) (pa_cons (pv 1) pa_nil)) rfl))), ?_⟩
    obtain ⟨dx, hp⟩ := D.ob
    refine ⟨_, rfl, p, dx, _, rfl, hp, rfl, _, rfl, p, d, l, ps, nm, rfl, D, fun q hq hn H1 e1 => ?_, fun hn H1 e1 => kE (D.get_none hn) H1 e1⟩
    subst hn
    obtain ⟨dc, hc⟩ := (D.at_ q hq).ex e1
    exact ⟨q.1, aC K, dc, _, _, rfl, hc, c_Caller T, n_Caller_grade T, rfl, k q.2 (D.get_of W hq) H1 e1⟩
/-! ### desk_need_ready -/
theorem sc_desk_need_ready : FnScope ["self", "caller"] ["self", "caller"] (defScope s_desk_need_ready) := ⟨rfl, rfl, rfl, by decide +kernel, rfl, by decide +kernel, by decide +kernel⟩
def sp_desk_need_ready (K : PySem.W.Frag) : Sp := fun vs H Q E => ∃ (p a : Addr) (c : Cl), vs = [.ref p, .ref a] ∧ CAt K H a c ∧ (c.md.isR = true → ∀ H', Ex H H' → Q .non H') ∧ (c.md.isR = false → ∀ H', Ex H H' → E (.ref (He.ga K "NotReady")) none H')
theorem ok_desk_need_ready {P : Program} {w : World} {K : PySem.W.Frag} {mg : Str → Option Value} {base : Heap} (T : Txt K mg) : ∃ fd, FnOk P w K mg base (L2N.CX P w) 1 (He.ma K (He.ga K "Desk") "need_ready") fd ["self", "caller"] (sp_desk_need_ready K) ∧ Binds K fd ["self", "caller"] [] ∧ FunD K "need_ready" "Desk.need_ready" (defArgs s_desk_need_ready) (defBody s_desk_need_ready) (defScope s_desk_need_ready) [] [] (He.ma K (He.ga K "Desk") "need_ready") fd := by
  obtain ⟨fd, F⟩ := f_desk_need_ready T
  refine ⟨fd, okXN F sc_desk_need_ready (fun vs H Q E h => ?_) (fun cdv A outer s H vs Q E hr h => ?_), FunD.bindsN F fun _ _ _ _ _ _ us hl => match us, hl with | [_, _], _ => rfl, F⟩
  · (repeat (obtain ⟨_, h⟩ := h)); subst_vars; rfl
  · obtain ⟨p, a, c, rfl, C, k, kE⟩ := h
    refine ⟨_, (pss_one (ps_if (pt_cmpR op_ne (pe_fldK (K := K) rfl (pv 1) rfl) pe_str (nomark _)) (pss_one (L2N.ps_raise rfl (L2N.takes_of rfl rfl rfl rfl) (L2N.pmk_own PySem.F.excBase_ValueError (x_NotReady T).1 (g_NotReady T) (x_NotReady T).2.1 (raises_own (x_NotReady T).2.2.1 (x_NotReady T).2.2.2) rfl)))
        pss_nil)), ?_⟩
    refine s_when (b := !c.md.isR) ?h (fun hb H1 e1 => ?_) (fun hb H1 e1 => ?_)
    case h =>
      rw [← st_ready, ← decV]
      exact et_test (ev_op (ev_stand T (ev_var rfl) C) ev_c (rv_ne rfl))
    · exact kE (by simpa using hb) H1 e1
    · exact k (by simpa using hb) H1 e1
/-! ### desk_waited -/
theorem sc_desk_waited : FnScope ["self", "name", "caller"] ["self", "name"] (defScope s_desk_waited) := ⟨rfl, rfl, rfl, by decide +kernel, rfl, by decide +kernel, by decide +kernel⟩
def waitedErr (d : Dk) (nm : Str) : Option Str := match d.get nm with
  | none => some "Unknown"
  | some c => if c.md.isR = true then none else some "NotReady"
def sp_desk_waited (K : PySem.W.Frag) : Sp := fun vs H Q E => ∃ (p : Addr) (d : Dk) (l : Addr) (ps : List Pr) (nm : Str), vs = [.ref p, .str nm] ∧ DkAt K H p d l ps ∧ d.Wf ∧ (∀ e, waitedErr d nm = some e → ∀ H', Ex H H' → E (.ref (He.ga K e)) none H') ∧
  ∀ c, d.get nm = some c → c.md.isR = true → RetV (.int (d.now - c.md.since)) H Q
theorem cv_waited {K : PySem.W.Frag} {H : Hp} {p l : Addr} {d : Dk} {ps : List Pr} {c : Cl} {nm : Str} (h : DkAt K H p d l ps) (W : d.Wf) (hc : d.get nm = some c) (hr : c.md.isR = true) : SpV (sp_desk_waited K) (.ref p :: ([.str nm] ++ [])) H (.int (d.now - c.md.since)) :=
  spv_meth fun _ e _ _ k => ⟨p, d, l, ps, nm, rfl, h.ex e, W, fun er hn => (by unfold waitedErr at hn; rw [hc] at hn; dsimp only at hn; rw [if_pos hr] at hn; cases hn), fun c' h' _ => by rw [hc] at h'; cases h'; exact k⟩
theorem ok_desk_waited {P : Program} {w : World} {K : PySem.W.Frag} {mg : Str → Option Value} {base : Heap} (T : Txt K mg) : ∃ fd, FnOk P w K mg base (L2N.CX P w) 2 (He.ma K (He.ga K "Desk") "waited") fd ["self", "name"] (sp_desk_waited K) ∧ Binds K fd ["self", "name"] [] ∧ FunD K "waited" "Desk.waited" (defArgs s_desk_waited) (defBody s_desk_waited) (defScope s_desk_waited) [] [] (He.ma K (He.ga K "Desk") "waited") fd := by
  obtain ⟨fd, F⟩ := f_desk_waited T
  obtain ⟨d_desk_one, G_desk_one, b_desk_one, _⟩ := ok_desk_one (P := P) (w := w) (base := base) T
  obtain ⟨d_desk_need_ready, G_desk_need_ready, b_desk_need_ready, _⟩ := ok_desk_need_ready (P := P) (w := w) (base := base) T
  refine ⟨fd, okXN F sc_desk_waited (fun vs H Q E h => ?_) (fun cdv A outer s H vs Q E hr h => ?_), FunD.bindsN F fun _ _ _ _ _ _ us hl => match us, hl with | [_, _], _ => rfl, F⟩
  · (repeat (obtain ⟨_, h⟩ := h)); subst_vars; rfl
  · obtain ⟨p, d, l, ps, nm, rfl, D, W, kE, k⟩ := h
    refine ⟨_, (pss_cons (ps_set (i := 2) sc_desk_waited.nd rfl (Or.inl rfl) (pe_meth (pv 0) (c_Desk T) (m_desk_one T) G_desk_one (hr.mono (by decide)) b_desk_one .nil (L2N.passes_call (L2N.takes_of rfl rfl rfl rfl) (fun _ _ _ _ h => h)) (pa_cons (pv 1) pa_nil)))
        (pss_cons (ps_expr (pe_meth (pv 0) (c_Desk T) (m_desk_need_ready T) G_desk_need_ready (hr.mono (by decide)) b_desk_need_ready .nil (L2N.passes_call (L2N.takes_of rfl rfl rfl rfl) (fun _ _ _ _ h => h)) (pa_cons (pv 2) pa_nil)))
        (pss_one (ps_ret (pe_op op_sub (pe_fldK (K := K) rfl (pv 0) rfl) (pe_fldK (K := K) rfl (pv 2) rfl)))))), ?_⟩
    unfold waitedErr at kE
    obtain ⟨dx, hp⟩ := D.ob
    refine q_meth (ev_var rfl) hp rfl (ea_cons (ev_var rfl) ea_nil) fun H1 e1 => ?_
    refine ⟨p, d, l, ps, nm, rfl, D.ex e1, fun q hq hn H2 e2 => ?_, fun hn H2 e2 => kE _ (by rw [D.get_none hn]) H2 (e1.trans e2)⟩
    subst hn
    rw [D.get_of W hq] at kE
    have k := k q.2 (D.get_of W hq)
    have e12 := e1.trans e2
    refine q_dmeth (ev_var rfl) (e12 _ _ hp) rfl (ea_cons (ev_var rfl) ea_nil) fun H3 e3 => ?_
    refine ⟨p, q.1, q.2, rfl, (D.at_ q hq).ex (e12.trans e3), fun hr H4 e4 => ?_, fun hr H4 e4 => kE _ (if_neg (by rw [hr]; decide)) H4 ((e12.trans e3).trans e4)⟩
    have e14 := (e12.trans e3).trans e4
    have hm := ev_mark (ta := tVar 2) (σ := [some (.ref p), some (.str q.2.nm), some (.ref q.1)]) T (ev_var rfl) ((D.at_ q hq).ex e14)
    rw [mark_rdy hr] at hm
    exact s_ret (ev_op (ev_now T (ev_var rfl) (D.ex e14)) hm rv_I0) fun H5 e5 => k hr H5 (e14.trans e5)
/-! ### desk_state -/
theorem sc_desk_state : FnScope ["self", "name"] ["self", "name"] (defScope s_desk_state) := ⟨rfl, rfl, rfl, by decide +kernel, rfl, by decide +kernel, by decide +kernel⟩
def sp_desk_state (K : PySem.W.Frag) : Sp := fun vs H Q E => ∃ (p : Addr) (d : Dk) (l : Addr) (ps : List Pr) (nm : Str), vs = [.ref p, .str nm] ∧ DkAt K H p d l ps ∧ d.Wf ∧ (d.get nm = none → ∀ H', Ex H H' → E (.ref (He.ga K "Unknown")) none H') ∧ ∀ c, d.get nm = some c → RetV (.str c.md.st) H Q
theorem cv_state {K : PySem.W.Frag} {H : Hp} {p l : Addr} {d : Dk} {ps : List Pr} {c : Cl} {nm : Str} (h : DkAt K H p d l ps) (W : d.Wf) (hc : d.get nm = some c) : SpV (sp_desk_state K) (.ref p :: ([.str nm] ++ [])) H (.str c.md.st) :=
  spv_meth fun _ e _ _ k => ⟨p, d, l, ps, nm, rfl, h.ex e, W, fun hn => (by rw [hn] at hc; cases hc), fun c' h' => by rw [hc] at h'; cases h'; exact k⟩
theorem ok_desk_state {P : Program} {w : World} {K : PySem.W.Frag} {mg : Str → Option Value} {base : Heap} (T : Txt K mg) : ∃ fd, FnOk P w K mg base (L2N.CX P w) 2 (He.ma K (He.ga K "Desk") "state") fd ["self", "name"] (sp_desk_state K) ∧ Binds K fd ["self", "name"] [] ∧ FunD K "state" "Desk.state" (defArgs s_desk_state) (defBody s_desk_state) (defScope s_desk_state) [] [] (He.ma K (He.ga K "Desk") "state") fd := by
  obtain ⟨fd, F⟩ := f_desk_state T
  obtain ⟨d_desk_one, G_desk_one, b_desk_one, _⟩ := ok_desk_one (P := P) (w := w) (base := base) T
  refine ⟨fd, okXN F sc_desk_state (fun vs H Q E h => ?_) (fun cdv A outer s H vs Q E hr h => ?_), FunD.bindsN F fun _ _ _ _ _ _ us hl => match us, hl with | [_, _], _ => rfl, F⟩
  · (repeat (obtain ⟨_, h⟩ := h)); subst_vars; rfl
  · obtain ⟨p, d, l, ps, nm, rfl, D, W, kE, k⟩ := h
    refine ⟨_, (pss_one (ps_ret (pe_fldK (K := K) rfl (pe_meth (pv 0) (c_Desk T) (m_desk_one T) G_desk_one (hr.mono (by decide)) b_desk_one .nil (L2N.passes_call (L2N.takes_of rfl rfl rfl rfl) (fun _ _ _ _ h => h)) (pa_cons (pv 1) pa_nil)) rfl))), ?_⟩
    obtain ⟨dx, hp⟩ := D.ob
    refine ⟨_, rfl, p, dx, _, rfl, hp, rfl, _, rfl, p, d, l, ps, nm, rfl, D, fun q hq hn H1 e1 => ?_, fun hn H1 e1 => kE (D.get_none hn) H1 e1⟩
    subst hn
    obtain ⟨dc, hc⟩ := (D.at_ q hq).ex e1
    exact ⟨q.1, aC K, dc, _, _, rfl, hc, c_Caller T, n_Caller_stand T, rfl, k q.2 (D.get_of W hq) H1 e1⟩
/-! ### refusals told: which names an error may have, what changes -/
theorem enterErr_in {d : Dk} {nm : Str} {rk : Int} {e : Str} (h : enterErr d nm rk = some e) : e ∈ excNames := by
  unfold enterErr at h
  split at h
  · cases h; decide +kernel
  split at h
  · cases h; decide +kernel
  split at h
  · cases h; decide +kernel
  split at h
  · cases h; decide +kernel
  · cases h
theorem sleepErr_in {d : Dk} {nm : Str} {m : Int} {e : Str} (h : sleepErr d nm m = some e) : e ∈ excNames := by
  unfold sleepErr at h
  split at h
  · cases h; decide +kernel
  split at h
  · cases h; decide +kernel
  split at h
  · cases h
  · cases h; decide +kernel
theorem waitErr_in {d : Dk} {nm b e : Str} (h : waitErr d nm b = some e) : e ∈ excNames := by
  unfold waitErr at h
  split at h
  · cases h; decide +kernel
  split at h
  · cases h; decide +kernel
  split at h
  · cases h
  · cases h; decide +kernel
theorem wakeErr_in {d : Dk} {nm e : Str} (h : wakeErr d nm = some e) : e ∈ excNames := by
  unfold wakeErr at h
  split at h
  · cases h; decide +kernel
  split at h
  · cases h; decide +kernel
  · cases h
theorem rerankErr_in {d : Dk} {nm : Str} {rk : Int} {e : Str} (h : rerankErr d nm rk = some e) : e ∈ excNames := by
  unfold rerankErr at h
  split at h
  · cases h; decide +kernel
  split at h
  · cases h; decide +kernel
  split at h
  · cases h; decide +kernel
  · cases h
theorem Dk.get_put_self {d : Dk} (nd : (d.line.map (·.nm)).Nodup) (x : Cl) : (d.put x).get x.nm = some x := Dk.get_of (d := d.put x) (putC_nd nd) (putC_mem.mpr (.inr rfl))
theorem Dk.get_put_at {d : Dk} (nd : (d.line.map (·.nm)).Nodup) {x : Cl} {nm : Str} (h : x.nm = nm) : (d.put x).get nm = some x := h ▸ Dk.get_put_self nd x
theorem Dk.get_put_ne {d : Dk} (nd : (d.line.map (·.nm)).Nodup) {nm : Str} {c x : Cl} (h : d.get nm = some c) (hn : nm ≠ x.nm) : (d.put x).get nm = some c := by
  obtain ⟨h1, h2⟩ := Dk.get_some h
  subst h2
  exact Dk.get_of (d := d.put x) (putC_nd nd) (putC_mem.mpr (.inl ⟨h1, hn⟩))
/-! what evaluates while the desk changes: any heap that R knows may be behind it -/
def MvE (t : TE) (σ : L2.St) (H : Hp) (v : V) (R : Hp → Prop) : Prop := ∀ Q : VK, (∀ H', R H' → Q v H') → t σ H Q
def MvT (t : TT) (σ : L2.St) (H : Hp) (b : Bool) (R : Hp → Prop) : Prop := ∀ Q : Bool → Hp → Prop, (∀ H', R H' → Q b H') → t σ H Q
def MvS (sp : Sp) (vs : List V) (H : Hp) (v : V) (R : Hp → Prop) : Prop := ∀ (Q : VK) (E : XK), (∀ H', R H' → Q v H') → sp vs H Q E
section
variable {σ : L2.St} {H : Hp} {R R1 : Hp → Prop} {x y z : V} {a b : Bool} {ta tb : TE} {t u : TT} {D : Ends} {tu : TS} {tz : TS}
theorem mv_of (h : Ev ta σ H x) : MvE ta σ H x (Ex H) := fun Q q => h H (Ex.refl H) Q q
theorem mv_is (h : MvE ta σ H x R) (e : x = y) : MvE ta σ H y R := e ▸ h
theorem mt_is (h : MvT t σ H a R) (e : a = b) : MvT t σ H b R := e ▸ h
theorem mv_sub (h : MvE ta σ H x R) (s : ∀ H', R H' → R1 H') : MvE ta σ H x R1 := fun Q q => h Q fun H' r => q H' (s H' r)
theorem mt_sub (h : MvT t σ H a R) (s : ∀ H', R H' → R1 H') : MvT t σ H a R1 := fun Q q => h Q fun H' r => q H' (s H' r)
theorem mt_of (h : EvT t σ H b) : MvT t σ H b (Ex H) := fun Q q => h H (Ex.refl H) Q q
theorem mt_test (h : MvE ta σ H (.bl b) R) : MvT (tTest ta) σ H b R := fun Q q => h _ fun H' r => ⟨b, rfl, q H' r⟩
theorem mt_B (h : MvE ta σ H (.bl b) R) : MvT (tB ta) σ H b R := fun Q q => h _ fun H' r => ⟨b, rfl, q H' r⟩
theorem mt_not (h : MvT t σ H b R) : MvT (tNot t) σ H (!b) R := fun Q q => h _ q
theorem mt_or (h : MvT t σ H false R1) (h2 : ∀ H1, R1 H1 → MvT u σ H1 b R) : MvT (tOr t u) σ H b R := fun Q q => h _ fun H1 r => by
  show u σ H1 Q
  exact h2 H1 r Q q
theorem mt_and (h : MvT t σ H true R1) (h2 : ∀ H1, R1 H1 → MvT u σ H1 b R) : MvT (tAnd t u) σ H b R := fun Q q => h _ fun H1 r => by
  show u σ H1 Q
  exact h2 H1 r Q q
theorem mv_andV (h : MvE ta σ H (.bl true) R1) (h2 : ∀ H1, R1 H1 → MvE tb σ H1 x R) : MvE (tAndV ta tb) σ H x R := fun Q q => h _ fun H1 r => ⟨true, rfl, by
  show tb σ H1 Q
  exact h2 H1 r Q q⟩
theorem mv_op {r : R2} (ha : MvE ta σ H x R) (hb : ∀ H1, R H1 → Ev tb σ H1 y) (hr : ∀ H1, R H1 → RV r x y H1 z) (hR : ∀ H1 H2, R H1 → Ex H1 H2 → R H2) : MvE (tOp r ta tb) σ H z R := fun Q q =>
  ha _ fun H1 r1 => hb H1 r1 H1 (Ex.refl H1) _ fun H2 e2 => hr H1 r1 H2 e2 Q fun H3 e3 => q H3 (hR H1 H3 r1 (e2.trans e3))
theorem mv_call {sp : Sp} {E : XK} {tr : TA} {vs : List V} (h : EvA tr σ H vs) (hs : ∀ H1, Ex H H1 → MvS sp (vs ++ []) H1 x R) : MvE (tCall sp [] E tr) σ H x R := fun Q q => h H (Ex.refl H) _ fun H1 e1 => hs H1 e1 Q E q
theorem mq_when (h : MvT t σ H b R) (h1 : b = true → ∀ H1, R H1 → tu { D with nx := tz D } σ H1) (h2 : b = false → ∀ H1, R H1 → tz D σ H1) : tSeq (tIfS t tu tNext) tz D σ H := h _ fun H1 r => by
  cases b with
  | true => exact h1 rfl H1 r
  | false => exact h2 rfl H1 r
theorem ms_when (h : MvT t σ H b R) (h1 : b = true → ∀ H1, R H1 → tu D σ H1) (h2 : b = false → ∀ H1, R H1 → D.nx σ H1) : tIfS t tu tNext D σ H := h _ fun H1 r => by
  cases b with
  | true => exact h1 rfl H1 r
  | false => exact h2 rfl H1 r
theorem ms_ret (h : MvE ta σ H x R) (k : ∀ H1, R H1 → D.rt x H1) : tRet ta D σ H := h _ k
theorem mq_asg {i : Nat} (h : MvE ta σ H x R) (k : ∀ H1, R H1 → tz D (σ.set i (some x)) H1) : tSeq (tAsg ta (gName i)) tz D σ H := h _ k
end
/-! .. what comes, and what is behind it, by M -/
def MvX (t : TE) (σ : L2.St) (H : Hp) (M : VK) : Prop := ∀ Q : VK, (∀ v H', M v H' → Q v H') → t σ H Q
def MvY (sp : Sp) (vs : List V) (H : Hp) (M : VK) : Prop := ∀ (Q : VK) (E : XK), (∀ v H', M v H' → Q v H') → sp vs H Q E
section
variable {K : PySem.W.Frag} {σ : L2.St} {H : Hp} {R : Hp → Prop} {M : VK} {z : V} {ta t1 t2 : TE} {D : Ends} {tu : TS} {tz : TS} {sp : Sp} {E : XK} {tr : TA} {vs : List V}
theorem mx_call (h : EvA tr σ H vs) (hs : ∀ H1, Ex H H1 → MvY sp (vs ++ []) H1 M) : MvX (tCall sp [] E tr) σ H M := fun Q q => h H (Ex.refl H) _ fun H1 e1 => hs H1 e1 Q E q
theorem mx_meth {a C dx : Addr} {fs : List (Str × V)} {m : Str} (h : Ev ta σ H (.ref a)) (ho : H a = some (.ins C dx fs)) (hl : fs.lookup m = none) (ha : EvA tr σ H vs) (hs : ∀ H1, Ex H H1 → MvY sp (.ref a :: (vs ++ [])) H1 M) : MvX (tMeth C m sp [] E ta tr) σ H M := fun Q q =>
  h H (Ex.refl H) _ fun H1 e1 => ⟨a, dx, fs, rfl, e1 a _ ho, hl, ha H1 e1 _ fun H2 e2 => hs H2 (e1.trans e2) Q E q⟩
theorem mq_asgX {i : Nat} (h : MvX ta σ H M) (k : ∀ v H1, M v H1 → tz D (σ.set i (some v)) H1) : tSeq (tAsg ta (gName i)) tz D σ H := h _ k
theorem mv_call2 (h1 : MvX t1 σ H M) (h : ∀ v H1, M v H1 → ∀ Q : VK, (∀ H', R H' → Q z H') → t2 σ H1 fun y H2 => sp ([v, y] ++ []) H2 Q E) : MvE (tCall sp [] E (tCons t1 (tCons t2 tNil))) σ H z R := fun Q q => h1 _ fun v H1 m => h v H1 m Q q
theorem mq_forLn {tl : TE} {j : Nat} (h : MvX tl σ H M) (xs : List V) (Pv : Addr → Nat → L2.St → Hp → Prop) (h0 : ∀ v H1, M v H1 → ∃ a, v = .ref a ∧ Pv a 0 σ H1) (hl : ∀ a i σ' H', i ≤ xs.length → Pv a i σ' H' → SqL K H' a xs)
    (hs : ∀ a i x σ' H', xs[i]? = some x → Pv a i σ' H' → tu { D with nx := Pv a (i + 1), ct := Pv a (i + 1), bk := tz D } (σ'.set j (some x)) H') (hd : ∀ a σ' H', Pv a xs.length σ' H' → tz D σ' H') : tSeq (tFor (iList K tl) (gName j) tu) tz D σ H := h _ fun v H1 m => by
  obtain ⟨a, rfl, p⟩ := h0 v H1 m
  exact ⟨a, rfl, ⟨xs, hl a 0 _ _ (Nat.zero_le _) p⟩, for_list (D := { D with nx := tz D }) (Pv a) p (hl a) (hs a) (hd a)⟩
end
/-- l.append(e), e changing the desk -/
theorem mq_appX {K : PySem.W.Frag} {σ : L2.St} {H : Hp} {l : Addr} {j : Nat} {ys : List V} {te : TE} {M : VK} {D : Ends} {tz : TS} (hj : σ[j]? = some (some (.ref l))) (hl : H l = some (.lst ys)) (h : MvX te σ H M) (k : ∀ v H1, M v H1 → ∃ xs, H1 l = some (.lst xs) ∧ xs.length < 100000 ∧ tz D σ (upd H1 l (.lst (xs ++ [v])))) :
    tSeq (tDrop (tBM K "list" rAppend (tVar j) (tCons te tNil))) tz D σ H := ⟨_, hj, .inl ⟨rfl, _, SqL.of hl⟩, h _ fun v H1 m => let ⟨xs, hx, hz, kk⟩ := k v H1 m; ⟨l, xs, v, rfl, rfl, hx, sz_lt hz, kk⟩⟩
theorem inV_str (nm : Str) (L : List Str) : inV (.str nm) (L.map V.str) = decide (nm ∈ L) := by
  unfold inV
  rw [List.any_map]
  induction L with
  | nil => rfl
  | cons c L ih =>
    rw [List.any_cons, ih]
    by_cases h : nm = c
    · subst h
      simp [Function.comp, eqV]
    · have h' : ¬ c = nm := fun e => h e.symm
      simp [Function.comp, eqV, h, h']
theorem pick_allS {xs : List Str} {i : Int} {P : Str → Prop} (h0 : 0 ≤ i) (h1 : i < (xs.length : Int)) (h : ∀ x ∈ xs, P x) : ∃ v, P v ∧ atI (xs.map V.str) i = some (.str v) := by
  have hl : i.toNat < xs.length := by omega
  refine ⟨xs[i.toNat], h _ (List.getElem_mem hl), at_of (j := i.toNat) (by omega) ?_⟩
  rw [List.getElem?_map, List.getElem?_eq_getElem hl]
  rfl
theorem name_q {s : Str} : isName (s ++ "?") = false := by
  cases h : isName (s ++ "?") with
  | false => rfl
  | true =>
    unfold isName at h
    rw [Bool.and_eq_true] at h
    have h2 := List.all_eq_true.mp h.2 63 (by
      have e : (s ++ "?").cps.toList = TL.tl s ++ TL.tl "?" := TL.tl_append s "?"
      rw [e]
      exact List.mem_append_right _ (by decide +kernel))
    exact absurd h2 (by decide +kernel)
theorem ev_callLV {σ : L2.St} {H : Hp} {ta tb : TE} {sp : Sp} {E : XK} {xs : List V} {b : Addr} {z : V} (h1 : EvL ta σ H xs) (h2 : Ev tb σ H (.ref b)) (hs : ∀ p H1, Ex H H1 → H1 p = some (.lst xs) → SpV sp ([.ref p, .ref b] ++ []) H1 z) : Ev (tCall sp [] E (tCons ta (tCons tb tNil))) σ H z := fun H1 e Q k =>
  h1 H1 e _ fun p H2 hp e2 hp2 => h2 H2 (e.trans e2) _ fun H3 e3 => hs p H3 ((e.trans e2).trans e3) (e3 _ _ hp2) H3 (Ex.refl H3) Q (fun H4 e4 => k H4 ((e2.trans e3).trans e4)) E
theorem all_str (nms : List Str) : (nms.map V.str).all flatV = true := by
  rw [List.all_map]
  exact List.all_eq_true.mpr fun _ _ => rfl
theorem ev_index {K : PySem.W.Frag} {σ : L2.St} {H : Hp} {ta te : TE} {r : Addr} {nms : List Str} {k : Nat} {nm : Str} (nd : nms.Nodup) (hk : nms[k]? = some nm) (ho : Ev ta σ H (.ref r)) (hr : H r = some (.lst (nms.map V.str))) (ha : Ev te σ H (.str nm)) : Ev (tBM K "list" (rIndex K) ta (tCons te tNil)) σ H (.int (k : Int)) := fun H1 e Q q =>
  ho H1 e _ fun H2 e2 => ⟨.inl ⟨rfl, _, SqL.of ((e.trans e2) _ _ hr)⟩, ha H2 (e.trans e2) _ fun H3 e3 => ⟨r, _, .str nm, k, .str nm, rfl, rfl, SqL.of ((e.trans (e2.trans e3)) _ _ hr), rfl, all_str nms, by rw [List.getElem?_map, hk]; rfl, by simp [eqV], fun m z hm hz => by
    rw [List.getElem?_map] at hz
    cases hx : nms[m]? with
    | none => rw [hx] at hz; cases hz
    | some y =>
      rw [hx] at hz
      cases hz
      have : y ≠ nm := fun e => by
        have := nd_ix nd (e ▸ hx) hk
        omega
      simp [eqV, this], q H3 (e2.trans e3)⟩⟩
theorem el_catL {σ : L2.St} {H : Hp} {p : Addr} {xs ys : List V} {ta tb : TE} (ha : EvL ta σ H xs) (hb : Ev tb σ H (.ref p)) (hp : H p = some (.lst ys)) (hz : xs.length + ys.length ≤ 100000) : EvL (tOp rCat ta tb) σ H (xs ++ ys) := fun H1 e Q q =>
  ha H1 e _ fun r H2 hr e2 h2 => hb H2 (e.trans e2) _ fun H3 e3 => ⟨r, p, xs, ys, rfl, rfl, e3 r _ h2, (e.trans (e2.trans e3)) _ _ hp, sz_of hz, fun s hs => q s _ (fresh_back (e2.trans e3) hs) ((e2.trans e3).trans (Ex.new hs)) upd_same⟩
/-! ### the law's line: names with their ranks -/
abbrev Rk : Type := Addr × (Str × Int)
def LpAt (H : Hp) (l : Addr) (qs : List Rk) : Prop := H l = some (.lst (qs.map fun q => V.ref q.1)) ∧ ∀ q ∈ qs, H q.1 = some (.tup [.str q.2.1, .int q.2.2])
theorem LpAt.ex {H H' : Hp} {l : Addr} {qs : List Rk} (h : LpAt H l qs) (e : Ex H H') : LpAt H' l qs := ⟨e _ _ h.1, fun q hq => e _ _ (h.2 q hq)⟩
def nmQ (qs : List Rk) : List Str := qs.map fun q => q.2.1
theorem el_nm {K : PySem.W.Frag} {σ : L2.St} {H : Hp} {l : Addr} {tl : TE} {j : Nat} {ws : List Nat} {qs : List Rk} (h : Ev tl σ H (.ref l)) (hl : LpAt H l qs) (hz : qs.length ≤ 1000) (hw : ∀ x, wipe ((wipe σ ws).set j (some x)) ws = wipe σ ws) (hj : ∀ x, ((wipe σ ws).set j (some x))[j]? = some (some x)) :
    EvL (tLc (iList K tl) (gName j) tYes (tOp (rIxT K) (tVar j) (tC (.int 0))) ws) σ H ((nmQ qs).map V.str) := by
  have hgv : (qs.filter fun _ => true).map (fun q : Rk => V.str q.2.1) = (nmQ qs).map V.str := by
    rw [filter_true]
    unfold nmQ
    rw [List.map_map]
    rfl
  rw [← hgv]
  exact el_lcM (K := K) (ps := qs) (uu := fun q => V.ref q.1) (fun _ => true) (fun q => V.str q.2.1) h (sq_of hl.1) (by omega) hw (fun _ _ _ _ => et_yes) fun q hq H1 e1 _ => ev_op (ev_var (hj _)) ev_c (rv_ixT (st_of (e1 _ _ (hl.2 q hq))) rfl)
def dOf (pa ro : Int) (qs : List Rk) : Dk := ⟨pa, ro, 0, qs.map fun q => ⟨q.2.1, q.2.2, .rdy 0⟩⟩
theorem dOf_nm (pa ro : Int) (qs : List Rk) : (dOf pa ro qs).line.map (·.nm) = nmQ qs := by
  show (qs.map _).map _ = _
  rw [List.map_map]
  rfl
theorem dOf_len (pa ro : Int) (qs : List Rk) : (dOf pa ro qs).line.length = qs.length := List.length_map ..
theorem dOf_none {pa ro : Int} {qs : List Rk} {nm : Str} (h : nm ∉ nmQ qs) : (dOf pa ro qs).get nm = none := by
  cases hc : (dOf pa ro qs).get nm with
  | none => rfl
  | some c =>
    obtain ⟨h1, h2⟩ := Dk.get_some hc
    exact absurd (by rw [← dOf_nm pa ro, ← h2]; exact List.mem_map.mpr ⟨c, h1, rfl⟩) h
def dueW (qs : List Rk) (ro : Int) (nm : Str) (rk : Int) (g : Bool) : Str := if g = false then "name" else if rk < 0 ∨ 99 < rk then "rank" else if nm ∈ nmQ qs then "known" else if ro ≤ (qs.length : Int) then "full" else ""
theorem due_err {pa ro : Int} {qs : List Rk} {nm : Str} {rk : Int} : dueW qs ro nm rk (isName nm) = wordO (enterErr (dOf pa ro qs) nm rk) := by
  unfold dueW enterErr
  rw [dOf_nm, dOf_len]
  show _ = wordO (if _ then _ else if _ then _ else if _ then _ else if ro ≤ _ then _ else _)
  split
  · exact (by decide +kernel : ("name" : Str) = wordOf "NoName")
  split
  · exact (by decide +kernel : ("rank" : Str) = wordOf "NoRank")
  split
  · exact (by decide +kernel : ("known" : Str) = wordOf "Known")
  split
  · exact (by decide +kernel : ("full" : Str) = wordOf "Full")
  · rfl
/-! ### L_stands -/
theorem sc_L_stands : FnScope ["_law_desk", "_law_line", "_law_pace", "_law_room", "_law_cell", "_law_told", "_law_found", "_law_due_here", "_law_one", "_law_rank", "_law_waited"] ["_law_desk", "_law_line", "_law_pace", "_law_room", "_law_cell"] (defScope s_L_stands) := ⟨rfl, rfl, rfl, by decide +kernel, rfl, by decide +kernel, by decide +kernel⟩
theorem ev_callVL {σ : L2.St} {H : Hp} {ta tb : TE} {sp : Sp} {E : XK} {a : Addr} {xs ys : List V} {z : V} (h1 : Ev ta σ H (.ref a)) (ha : H a = some (.lst xs)) (h2 : EvL tb σ H ys) (hs : ∀ q H1, Ex H H1 → H1 a = some (.lst xs) → H1 q = some (.lst ys) → SpV sp ([.ref a, .ref q] ++ []) H1 z) : Ev (tCall sp [] E (tCons ta (tCons tb tNil))) σ H z := fun H1 e Q k =>
  h1 H1 e _ fun H2 e2 => h2 H2 (e.trans e2) _ fun q H3 hq e3 hq3 => hs q H3 ((e.trans e2).trans e3) ((e.trans (e2.trans e3)) _ _ ha) hq3 H3 (Ex.refl H3) Q (fun H4 e4 => k H4 ((e2.trans e3).trans e4)) E
theorem er_lst3 {σ : L2.St} {H : Hp} {a1 a2 a3 : TA} {v1 v2 v3 : List V} (h1 : EvA a1 σ H v1) (h2 : EvA a2 σ H v2) (h3 : EvA a3 σ H v3) (z1 : v1.length ≤ 1000) (z2 : v2.length ≤ 1000) (z3 : v3.length ≤ 1000) : ∀ Q : VK, (∀ p H' t1 t2 t3, Ex H H' → H' p = some (.lst [.ref t1, .ref t2, .ref t3]) → H' t1 = some (.tup v1) → H' t2 = some (.tup v2) → H' t3 = some (.tup v3) → Q (.ref p) H') → tLst (tCons (tTup a1) (tCons (tTup a2) (tCons (tTup a3) tNil))) σ H Q := fun Q q =>
  h1 H (Ex.refl H) _ fun H1 e1 => ⟨sz_of (by omega), fun t1 n1 => h2 _ (e1.trans (Ex.new n1)) _ fun H2 e2 => ⟨sz_of (by omega), fun t2 n2 => h3 _ ((e1.trans (Ex.new n1)).trans (e2.trans (Ex.new n2))) _ fun H3 e3 => ⟨sz_of (by omega), fun t3 n3 => ⟨sz_of (by show 3 ≤ 100000; decide), fun p np => by
    have x3 := Ex.new (o := .lst [.ref t1, .ref t2, .ref t3]) np
    have x2 := (Ex.new (o := .tup v3) n3).trans x3
    have x1 := (e3.trans x2)
    have x0 := ((Ex.new (o := .tup v2) n2).trans x1)
    exact q p _ t1 t2 t3 ((e1.trans (Ex.new n1)).trans (e2.trans x0)) upd_same ((e2.trans x0) _ _ upd_same) (x1 _ _ upd_same) (x3 _ _ upd_same)⟩⟩⟩⟩
/-- over a written list of three tuples -/
theorem q_forL3 {K : PySem.W.Frag} {σ : L2.St} {H : Hp} {tl : TE} {v1 v2 v3 : List V} {g : TG} {tu : TS} {tz : TS} {D : Ends} (hl : ∀ Q : VK, (∀ p H' t1 t2 t3, Ex H H' → H' p = some (.lst [.ref t1, .ref t2, .ref t3]) → H' t1 = some (.tup v1) → H' t2 = some (.tup v2) → H' t3 = some (.tup v3) → Q (.ref p) H') → tl σ H Q) (I : L2.St → Prop) (i0 : I σ)
    (hs : ∀ (H5 : Hp) (vs : List V) (t : Addr) σ' H', vs ∈ [v1, v2, v3] → Ex H H5 → Ex H5 H' → SqT K H' t vs → I σ' → g (.ref t) σ' H' fun σ2 H2 => tu { D with nx := fun σ3 H3 => Ex H5 H3 ∧ I σ3, ct := fun σ3 H3 => Ex H5 H3 ∧ I σ3, bk := tz D } σ2 H2)
    (hd : ∀ σ' H', Ex H H' → I σ' → tz D σ' H') : tSeq (tFor (iList K tl) g tu) tz D σ H := by
  refine hl _ fun z H5 t1 t2 t3 e5 hz g1 g2 g3 => ?_
  refine ⟨z, rfl, ⟨_, sq_of hz⟩, for_list (D := { D with nx := tz D }) (xs := [.ref t1, .ref t2, .ref t3]) (fun i σ' H' => Ex H5 H' ∧ I σ') ⟨Ex.refl H5, i0⟩ (fun i σ' H' _ ⟨e6, _⟩ => sq_of (e6 _ _ hz)) ?_ ?_⟩
  · rintro i x σ' H' hi ⟨e6, iσ⟩
    match i, hi with
    | 0, hi => cases hi; exact hs H5 v1 t1 σ' H' (by simp) e5 e6 (st_of (e6 _ _ g1)) iσ
    | 1, hi => cases hi; exact hs H5 v2 t2 σ' H' (by simp) e5 e6 (st_of (e6 _ _ g2)) iσ
    | 2, hi => cases hi; exact hs H5 v3 t3 σ' H' (by simp) e5 e6 (st_of (e6 _ _ g3)) iσ
  · rintro σ' H' ⟨e6, iσ⟩
    exact hd σ' H' (e5.trans e6) iσ
def cvR (q : Rk) : PyData := .tuple [.str q.2.1, .int q.2.2]
theorem LpAt.dp {K : PySem.W.Frag} {H : Hp} {l : Addr} {qs : List Rk} (h : LpAt H l qs) : Dp K H (.ref l) (.list (qs.map cvR)) := by
  refine .lst (sq_of h.1) ?_
  have t := h.2
  clear h
  induction qs with
  | nil => exact .nil
  | cons q qs ih => exact .cons (.tup (st_of (t q (List.mem_cons_self ..))) (.cons (.str _) (.cons (.int _) .nil))) (ih fun r hr => t r (List.mem_cons_of_mem _ hr))
theorem sign_lt {c : Nat} (h : isSign c = true) : c < 128 := by
  have := of_decide_eq_true h
  have e : ∀ x ∈ signsS.cps.toList, x < 128 := by decide +kernel
  exact e c this
theorem name_strOk {s : Str} (h : isName s = true) : PyData.strOk s = true := by
  unfold isName at h
  rw [Bool.and_eq_true] at h
  unfold PyData.strOk
  rw [← Array.all_toList]
  exact List.all_eq_true.mpr fun c hc => decide_eq_true (by have := sign_lt (List.all_eq_true.mp h.2 c hc); omega)
theorem cvR_lay (L : List Rk) (h : ∀ q ∈ L, isName q.2.1 = true) : PyData.canLayAll0 (L.map cvR) = true ∧ PyData.depthAll (L.map cvR) ≤ 1 := by
  induction L with
  | nil => exact ⟨rfl, by decide⟩
  | cons q L ih =>
    have ih := ih fun r hr => h r (List.mem_cons_of_mem _ hr)
    have h1 := name_strOk (h q (List.mem_cons_self ..))
    rw [List.map_cons]
    simp only [cvR, PyData.canLayAll0, PyData.canLay0, PyData.depthAll, PyData.depth, h1, ih.1, Bool.and_self, true_and]
    have := ih.2
    omega
theorem ev_eqNil2 {K : PySem.W.Frag} {σ : L2.St} {H : Hp} {ta : TE} {l : Addr} {qs : List Rk} (h : Ev ta σ H (.ref l)) (hl : LpAt H l qs) (hn : ∀ q ∈ qs, isName q.2.1 = true) : Ev (tOp (rEqD K) ta (tLst tNil)) σ H (.bl qs.isEmpty) := fun H1 e Q k =>
  h H1 e _ fun H2 e2 => ⟨(by decide : (0 : Nat) ≤ sizeLine), fun r hr => ⟨_, _, (hl.ex ((e.trans e2).trans (Ex.new hr))).dp, .lst (sq_of upd_same) .nil, by
    unfold SeqAt.shaped
    have := cvR_lay qs hn
    refine Bool.and_eq_true_iff.mpr ⟨this.1, decide_eq_true ?_⟩
    simp only [PyData.depth]
    omega, by decide +kernel, by
    have := k (upd H2 r (.lst [])) (e2.trans (Ex.new hr))
    cases qs <;> exact this⟩⟩
def sp_L_stands (K : PySem.W.Frag) : Sp := fun vs H Q _ => ∃ (p a : Addr) (ps : List Pr) (pa ro : Int) (l : Addr) (qs : List Rk) (c : Int), vs = [.ref p, .ref l, .int pa, .int ro, .int c] ∧ DkAt K H p (dOf pa ro qs) a ps ∧ (dOf pa ro qs).Ok ∧ LpAt H l qs ∧ RetV (.bl true) H Q
theorem ok_L_stands {P : Program} {w : World} {K : PySem.W.Frag} {mg : Str → Option Value} {base : Heap} (T : Txt K mg) : ∃ fd, FnOk P w K mg base (CX0) 3 (He.ga K "_law_stands") fd ["_law_desk", "_law_line", "_law_pace", "_law_room", "_law_cell"] (sp_L_stands K) ∧ Binds K fd ["_law_desk", "_law_line", "_law_pace", "_law_room", "_law_cell"] [] ∧ FunD K "_law_stands" "_law_stands" (defArgs s_L_stands) (defBody s_L_stands) (defScope s_L_stands) [] [] (He.ga K "_law_stands") fd := by
  obtain ⟨fd, F⟩ := f_L_stands T
  obtain ⟨d_desk_names, G_desk_names, b_desk_names, _⟩ := ok_desk_names (P := P) (w := w) (base := base) T
  obtain ⟨d_L_texts, G_L_texts, b_L_texts, _⟩ := ok_L_texts (P := P) (w := w) (base := base) T
  obtain ⟨d_L_whole, G_L_whole, b_L_whole, _⟩ := ok_L_whole (P := P) (w := w) (base := base) T
  obtain ⟨d_L_mix, G_L_mix, b_L_mix, _⟩ := ok_L_mix (P := P) (w := w) (base := base) T
  obtain ⟨d_desk_rank, G_desk_rank, b_desk_rank, _⟩ := ok_desk_rank (P := P) (w := w) (base := base) T
  obtain ⟨d_desk_waited, G_desk_waited, b_desk_waited, _⟩ := ok_desk_waited (P := P) (w := w) (base := base) T
  obtain ⟨d_desk_state, G_desk_state, b_desk_state, _⟩ := ok_desk_state (P := P) (w := w) (base := base) T
  refine ⟨fd, ok0 F sc_L_stands (fun vs H Q E h => ?_) (fun cdv A outer s H vs Q E hr h => ?_), FunD.bindsN F fun _ _ _ _ _ _ us hl => match us, hl with | [_, _, _, _, _], _ => rfl, F⟩
  · (repeat (obtain ⟨_, h⟩ := h)); subst_vars; rfl
  · obtain ⟨p, a, ps, pa, ro, l, qs, c, rfl, DD, ok, hl, k⟩ := h
    refine ⟨_, (pss_cons (ps_set (i := 5) sc_L_stands.nd rfl (Or.inl rfl) (pe_meth0 (pv 0) (c_Desk T) (m_desk_names T) G_desk_names (hr.mono (by decide)) b_desk_names .nil pass0))
        (pss_cons (ps_if (pt_not (pt_val (pe_call G_L_texts (hr.mono (by decide)) rfl (g_L_texts T) (kp_L_texts T) b_L_texts .nil pass0 (pa_cons (pv 5) (pa_cons (pe_lc (own := [("_law_one", 8)]) (g := gName 8) (tt := tYes) rfl sc_L_stands.nd (pi_listK (K := K) rfl (pv 1)) (blkOk_by (own := [("_law_one", 8)]) (N := ["_law_desk", "_law_line", "_law_pace", "_law_room", "_law_cell", "_law_told", "_law_found", "_law_due_here", "_law_one", "_law_rank", "_law_waited"]) (sc := defScope s_L_stands) (by decide +kernel)) (fun _ _ _ _ _ => (pg_name (i := 8) sc_L_stands.nd rfl (Or.inl rfl))) (fun _ _ _ _ _ => pts_nil) (fun _ _ _ _ _ => (pe_ix (ix_tupK (K := K) rfl) (pv 8) pe_int (fun _ _ => rfl)))) pa_nil))))) (pss_one (ps_ret pe_bl))
        pss_nil)
        (pss_cons (ps_expr (pe_bm PySem.F.plainAttrs_list PySem.F.slot_list_append PySem.F.type_list_append mt_append (pv 5) (pa_cons pe_str pa_nil)))
        (pss_cons (ps_for PassesOwn.never rfl (pi_listK (K := K) rfl (pe_lst (pa_cons (pe_tup (pa_cons (pe_fldK (K := K) rfl (pv 0) rfl) (pa_cons (pv 2) pa_nil))) (pa_cons (pe_tup (pa_cons (pe_fldK (K := K) rfl (pv 0) rfl) (pa_cons (pv 3) pa_nil))) (pa_cons (pe_tup (pa_cons (pe_fldK (K := K) rfl (pv 0) rfl) (pa_cons pe_int pa_nil))) pa_nil))))) (pg_tup rfl (pgs_cons (pg_name (i := 6) sc_L_stands.nd rfl (Or.inl rfl)) (pgs_cons (pg_name (i := 7) sc_L_stands.nd rfl (Or.inl rfl)) pgs_nil)))
        (pss_one (ps_if (PW.pt (pw_or (pt_not (pt_val (pe_call G_L_whole (hr.mono (by decide)) rfl (g_L_whole T) (kp_L_whole T) b_L_whole .nil pass0 (pa_cons (pv 6) pa_nil)))) (pw_or1 (pt_cmpR op_ne (pv 6) (pv 7) (nomark _))))) (pss_one (ps_ret pe_bl))
        pss_nil)))
        (pss_cons (ps_if (pt_cmpR (op_eqK (K := K) rfl hr.units) (pv 1) (pe_lst pa_nil) (nomark _)) (pss_one (ps_ret pe_bl))
        pss_nil)
        (pss_cons (ps_set (i := 8) sc_L_stands.nd rfl (Or.inl rfl) (pe_ix (ix_listK (K := K) rfl) (pv 1) (pe_call G_L_mix (hr.mono (by decide)) rfl (g_L_mix T) (kp_L_mix T) b_L_mix .nil pass0 (pa_cons (pv 4) (pa_cons pe_int (pa_cons (pe_callB (call_lenK (K := K) rfl) rfl (b_len T) (by decide +kernel) (pa_cons (pv 1) pa_nil)) pa_nil)))) (fun _ _ => rfl)))
        (pss_cons (ps_set (i := 9) sc_L_stands.nd rfl (Or.inl rfl) (pe_meth (pv 0) (c_Desk T) (m_desk_rank T) G_desk_rank (hr.mono (by decide)) b_desk_rank .nil passLN (pa_cons (pe_ix (ix_tupK (K := K) rfl) (pv 8) pe_int (fun _ _ => rfl)) pa_nil)))
        (pss_cons (ps_set (i := 10) sc_L_stands.nd rfl (Or.inl rfl) (pe_meth (pv 0) (c_Desk T) (m_desk_waited T) G_desk_waited (hr.mono (by decide)) b_desk_waited .nil passLN (pa_cons (pe_ix (ix_tupK (K := K) rfl) (pv 8) pe_int (fun _ _ => rfl)) pa_nil)))
        (pss_cons (ps_if (PW.pt (pw_or (pt_not (pt_val (pe_call G_L_whole (hr.mono (by decide)) rfl (g_L_whole T) (kp_L_whole T) b_L_whole .nil pass0 (pa_cons (pv 9) pa_nil)))) (pw_or (pt_not (pt_val (pe_call G_L_whole (hr.mono (by decide)) rfl (g_L_whole T) (kp_L_whole T) b_L_whole .nil pass0 (pa_cons (pv 10) pa_nil)))) (pw_or (pt_cmpR op_ne (pv 9) (pe_ix (ix_tupK (K := K) rfl) (pv 8) pe_int (fun _ _ => rfl)) (nomark _)) (pw_or1 (pt_cmpR op_ne (pv 10) pe_int (nomark _))))))) (pss_one (ps_ret pe_bl))
        pss_nil)
        (pss_one (ps_ret (pe_cmpR op_eq (pe_meth (pv 0) (c_Desk T) (m_desk_state T) G_desk_state (hr.mono (by decide)) b_desk_state .nil passLN (pa_cons (pe_ix (ix_tupK (K := K) rfl) (pv 8) pe_int (fun _ _ => rfl)) pa_nil)) pe_str (nomark _))))))))))))), ?_⟩
    have h60 : qs.length ≤ 60 := by rw [← dOf_len pa ro]; exact ok.len60
    obtain ⟨dx, hp⟩ := DD.ob
    have hnm : (dOf pa ro qs).line.map (fun c => V.str c.nm) = (nmQ qs).map V.str := by
      rw [← dOf_nm pa ro, List.map_map]
      rfl
    have hnl : (nmQ qs).length = qs.length := List.length_map ..
    have hsome : (nmQ qs).map V.str = ((nmQ qs).map some).map optS := by rw [List.map_map]; rfl
    refine q_asgL (xs := (nmQ qs).map V.str) (by rw [← hnm]; exact el_meth (ev_var rfl) hp rfl ea_nil (cv_names DD (by rw [dOf_len]; omega))) fun x1 H1 n1 e1 h1 => ?_
    refine q_when (b := false) (et_is (et_not (a := true) (et_B (ev_callVL (ev_var rfl) h1 (el_nm (ev_var rfl) (hl.ex e1) (by omega) (fun _ => rfl) (fun _ => rfl)) fun q H2 e2 hx hy => ?_))) rfl) (fun h => by cases h) fun _ H2 e2 => ?_
    · rw [hsome] at hx hy
      exact spv_call fun H3 e3 Q E kk => ⟨x1, q, _, rfl, e3 _ _ hx, e3 _ _ hy, by rw [List.length_map, hnl]; omega, kk⟩
    refine q_app (l := x1) (xs := (nmQ qs).map V.str) (v := .str "x") (e2 _ _ h1) (ev_var rfl) ev_c (by rw [List.length_map, hnl]; omega) fun H3 e3 => ?_
    have e03 : Ex H (upd H3 x1 (.lst ((nmQ qs).map V.str ++ [.str "x"]))) := Ex.mut ((e1.trans e2).trans e3) n1
    generalize upd H3 x1 (.lst ((nmQ qs).map V.str ++ [.str "x"])) = H4 at *
    have D4 := DD.ex e03
    refine q_forL3 (K := K) (er_lst3 (v1 := [.int pa, .int pa]) (v2 := [.int ro, .int ro]) (v3 := [.int 0, .int 0]) (ea_cons (ev_pace T (ev_var rfl) D4) (ea_cons (ev_var rfl) ea_nil)) (ea_cons (ev_room T (ev_var rfl) D4) (ea_cons (ev_var rfl) ea_nil)) (ea_cons (ev_now T (ev_var rfl) D4) (ea_cons ev_c ea_nil)) (by show 2 ≤ 1000; decide) (by show 2 ≤ 1000; decide) (by show 2 ≤ 1000; decide)) (fun σ' => ∃ v6 v7, σ' = [some (.ref p), some (.ref l), some (.int pa), some (.int ro), some (.int c), some (.ref x1), v6, v7, none, none, none]) ⟨none, none, rfl⟩ ?_ ?_
    · rintro H5 vs t σ' H' hvs e5 e6 ht ⟨v6, v7, rfl⟩
      obtain ⟨n, rfl⟩ : ∃ n : Int, vs = [.int n, .int n] := by
        simp only [List.mem_cons, List.not_mem_nil, or_false] at hvs
        rcases hvs with rfl | rfl | rfl
        · exact ⟨pa, rfl⟩
        · exact ⟨ro, rfl⟩
        · exact ⟨0, rfl⟩
      refine ⟨t, _, rfl, ht, rfl, ?_⟩
      refine ⟨_, _, rfl, ⟨_, _, rfl, ⟨rfl, ?_⟩⟩⟩
      exact s_when (b := false) (et_is (et_or (a := false) (b := false) (et_is (et_not (et_B (ev_call (ea_cons (ev_var rfl) ea_nil) cv_L_whole))) rfl) fun _ => et_is (et_test (ev_op (ev_var rfl) (ev_var rfl) (rv_ne rfl))) (by simp)) rfl) (fun h => by cases h) fun _ H6 e7 => ⟨e6.trans e7, _, _, rfl⟩
    rintro σ' H6 e6 ⟨v6, v7, rfl⟩
    have e06 := e03.trans e6
    have hlR := hl.ex e06
    have hname : ∀ q ∈ qs, isName q.2.1 = true := fun q hq => (ok.cl ⟨q.2.1, q.2.2, .rdy 0⟩ (List.mem_map.mpr ⟨q, hq, rfl⟩)).1
    refine q_when (b := qs.isEmpty) (et_test (ev_eqNil2 (ev_var rfl) hlR hname)) (fun hb H7 e7 => ?_) (fun hb H7 e7 => ?_)
    · exact s_ret ev_c fun H8 e8 => k H8 (e06.trans (e7.trans e8))
    have hne : 0 < qs.length := by
      cases qs with
      | nil => cases hb
      | cons q qs => rw [List.length_cons]; omega
    have e07 := e06.trans e7
    have hl7 := hl.ex e07
    have n0 := mix_nonneg (c := c) (p := 10061) (m := (qs.length : Int)) (by omega)
    have n1 := mix_lt (c := c) (p := 10061) (m := (qs.length : Int)) (by omega)
    obtain ⟨q, hqq⟩ : ∃ q, qs[(mix c 10061 (qs.length : Int)).toNat]? = some q := ⟨_, List.getElem?_eq_getElem (by omega)⟩
    have hq := List.mem_of_getElem? hqq
    have hll : ((qs.map fun q => V.ref q.1).length : Int) = (qs.length : Int) := by rw [List.length_map]
    refine q_asg (v := .ref q.1) (ev_op (ev_var rfl) (ev_is (ev_call (ea_cons (ev_var rfl) (ea_cons ev_c (ea_cons (ev_cb (ea_cons (ev_var rfl) ea_nil) (rc_lenS (sq_of hl7.1))) ea_nil))) (cv_L_mix (by decide) (by rw [hll]; omega))) (by rw [hll])) (rv_ixL (sq_of hl7.1) (at_of (j := (mix c 10061 (qs.length : Int)).toNat) (by omega) (by rw [List.getElem?_map, hqq]; rfl)))) fun H8 e8 => ?_
    have e08 := e07.trans e8
    have hg : (dOf pa ro qs).get q.2.1 = some ⟨q.2.1, q.2.2, .rdy 0⟩ := Dk.get_of ok.nd (c := ⟨q.2.1, q.2.2, .rdy 0⟩) (List.mem_map.mpr ⟨q, hq, rfl⟩)
    have hq8 := (hl.ex e08).2 q hq
    refine q_asg (v := .int q.2.2) (ev_meth (ev_var rfl) (e08 _ _ hp) rfl (ea_cons (ev_op (ev_var rfl) ev_c (rv_ixT (st_of hq8) rfl)) ea_nil) (cv_rank (DD.ex e08) ok.wf hg)) fun H9 e9 => ?_
    have e09 := e08.trans e9
    have hq9 := e9 _ _ hq8
    refine q_asg (v := .int 0) (ev_meth (ev_var rfl) (e09 _ _ hp) rfl (ea_cons (ev_op (ev_var rfl) ev_c (rv_ixT (st_of hq9) rfl)) ea_nil) (cv_waited (DD.ex e09) ok.wf hg rfl)) fun H10 e10 => ?_
    have hq10 := e10 _ _ hq9
    refine q_when (b := false) (et_is (et_or (a := false) (b := false) (et_is (et_not (et_B (ev_call (ea_cons (ev_var rfl) ea_nil) cv_L_whole))) rfl) fun _ => et_is (et_or (a := false) (b := false) (et_is (et_not (et_B (ev_call (ea_cons (ev_var rfl) ea_nil) cv_L_whole))) rfl) fun _ => et_is (et_or (a := false) (b := false) (et_is (et_test (ev_op (ev_var rfl) (ev_op (ev_var rfl) ev_c (rv_ixT (st_of hq10) rfl)) (rv_ne rfl))) (by simp)) fun _ => et_is (et_test (ev_op (ev_var rfl) ev_c (rv_ne rfl))) (by decide +kernel)) rfl) rfl) rfl) (fun h => by cases h) fun _ H11 e11 => ?_
    have e11' := e09.trans (e10.trans e11)
    refine s_ret (v := .bl true) (ev_is (ev_op (ev_meth (ev_var rfl) (e11' _ _ hp) rfl (ea_cons (ev_op (ev_var rfl) ev_c (rv_ixT (st_of (e11 _ _ hq10)) rfl)) ea_nil) (cv_state (DD.ex e11') ok.wf hg)) ev_c (rv_eq rfl)) ?_) fun H12 e12 => k H12 (e11'.trans e12)
    exact (by decide +kernel : V.bl (decide (V.str "ready" = V.str "ready")) = V.bl true)
/-! ### desk_become -/
theorem sc_desk_become : FnScope ["self", "caller", "stand", "mark", "other"] ["self", "caller", "stand", "mark"] (defScope s_desk_become) := ⟨rfl, rfl, rfl, by decide +kernel, rfl, by decide +kernel, by decide +kernel⟩
theorem ev_lab {K : PySem.W.Frag} {mg : Str → Option Value} {σ : L2.St} {H : Hp} {ta : TE} {a : Addr} {nm : Str} (T : Txt K mg) (h : Ev ta σ H (.ref a)) (C : ∃ dx g s m, H a = some (.ins (aC K) dx (rfs (.str nm) g s m))) : Ev (tFld K ta "label") σ H (.str nm) := by
  obtain ⟨dx, g, s, m, C⟩ := C
  exact ev_fld h C (c_Caller T) (n_Caller_label T) rfl
def sp_desk_become (K : PySem.W.Frag) : Sp := fun vs H Q _ => ∃ (F : Hp) (p : Addr) (d : Dk) (l : Addr) (ps : List Pr) (q : Pr) (md : Md), vs = [.ref p, .ref q.1, .str md.st, md.mark] ∧ DkAt K H p d l ps ∧ Fr F H p l ps ∧ q ∈ ps ∧ d.Wf ∧
  ∀ (H' : Hp) (l' : Addr), DkAt K H' p (d.put ⟨q.2.nm, q.2.rk, md⟩) l' (putP ps (q.1, ⟨q.2.nm, q.2.rk, md⟩)) → Fr F H' p l' (putP ps (q.1, ⟨q.2.nm, q.2.rk, md⟩)) → Q .non H'
theorem ok_desk_become {P : Program} {w : World} {K : PySem.W.Frag} {mg : Str → Option Value} {base : Heap} (T : Txt K mg) : ∃ fd, FnOk P w K mg base (CX0) 1 (He.ma K (He.ga K "Desk") "become") fd ["self", "caller", "stand", "mark"] (sp_desk_become K) ∧ Binds K fd ["self", "caller", "stand", "mark"] [] ∧ FunD K "become" "Desk.become" (defArgs s_desk_become) (defBody s_desk_become) (defScope s_desk_become) [] [] (He.ma K (He.ga K "Desk") "become") fd := by
  obtain ⟨fd, F⟩ := f_desk_become T
  refine ⟨fd, ok0 F sc_desk_become (fun vs H Q E h => ?_) (fun cdv A outer s H vs Q E hr h => ?_), FunD.bindsN F fun _ _ _ _ _ _ us hl => match us, hl with | [_, _, _, _], _ => rfl, F⟩
  · (repeat (obtain ⟨_, h⟩ := h)); subst_vars; rfl
  · obtain ⟨F, p, d, l, ps, q, md, rfl, D, f, hq, W, k⟩ := h
    refine ⟨_, (pss_cons (ps_fld (pv 1) (pv 2) rfl)
        (pss_cons (ps_fld (pv 1) (pv 3) rfl)
        (pss_one (ps_fld (pv 0) (pe_op op_cat (pe_lc (own := [("other", 4)]) (g := gName 4) rfl sc_desk_become.nd (pi_listK (K := K) rfl (pe_fldK (K := K) rfl (pv 0) rfl)) (blkOk_by (own := [("other", 4)]) (N := ["self", "caller", "stand", "mark", "other"]) (sc := defScope s_desk_become) (by decide +kernel)) (fun _ _ _ _ _ => (pg_name (i := 4) sc_desk_become.nd rfl (Or.inl rfl))) (fun _ _ _ _ _ => pts_one (pt_cmpR op_ne (pe_fldK (K := K) rfl (pv 4) rfl) (pe_fldK (K := K) rfl (pv 1) rfl) (nomark _))) (fun _ _ _ _ _ => (pv 4))) (pe_lst (pa_cons (pv 1) pa_nil))) rfl)))), ?_⟩
    obtain ⟨dx, hc⟩ := D.at_ q hq
    obtain ⟨dd, hp⟩ := D.ob
    have hl := D.ln
    have npa : p ≠ q.1 := ne_of hp hc ins_ne
    have nla : l ≠ q.1 := ne_of hl hc (by intro z; cases z)
    have nlp : l ≠ p := ne_of hl hp (by intro z; cases z)
    refine ⟨_, rfl, _, rfl, q.1, aC K, dx, _, rfl, hc, c_Caller T, n_Caller_stand T, (by show 4 < 1000; decide), ?_⟩
    refine ⟨_, rfl, _, rfl, q.1, aC K, dx, _, rfl, upd_same, c_Caller T, n_Caller_mark T, (by show 4 < 1000; decide), ?_⟩
    rw [upd_upd]
    obtain ⟨c', ec'⟩ : ∃ c' : Cl, c' = ⟨q.2.nm, q.2.rk, md⟩ := ⟨_, rfl⟩
    have eP : putF "mark" md.mark (putF "stand" (.str md.st) (cfs q.2)) = cfs ⟨q.2.nm, q.2.rk, md⟩ := rfl
    rw [eP, ← ec']
    rw [← ec'] at k
    dsimp only
    have nmc : c'.nm = q.2.nm := by rw [ec']
    have nd := D.nd W.nd
    have hp2 : upd H q.1 (.ins (aC K) dx (cfs c')) p = some (.ins (aD K) dd (dfs d l)) := by rw [upd_ne npa]; exact hp
    have hl2 : upd H q.1 (.ins (aC K) dx (cfs c')) l = some (.lst (ps.map fun q => V.ref q.1)) := by rw [upd_ne nla]; exact hl
    have hoth : ∀ r ∈ ps, r.2.nm ≠ q.2.nm → CAt K (upd H q.1 (.ins (aC K) dx (cfs c'))) r.1 r.2 := fun r hr hn => by
      obtain ⟨dr, h⟩ := D.at_ r hr
      exact ⟨dr, by rw [upd_ne (fun e => hn (D.mem_nm hr hq e))]; exact h⟩
    have hlab : ∀ r ∈ ps, ∃ dx' g s m, upd H q.1 (.ins (aC K) dx (cfs c')) r.1 = some (.ins (aC K) dx' (rfs (.str r.2.nm) g s m)) := fun r hr => by
      by_cases e : r.2.nm = q.2.nm
      · have : r = q := nodup_pr nd hr hq e
        rw [this]
        exact ⟨dx, .int c'.rk, .str c'.md.st, c'.md.mark, by rw [upd_same, cfs, nmc]⟩
      · obtain ⟨dr, h⟩ := hoth r hr e
        exact ⟨dr, _, _, _, h⟩
    refine s_fldL (xs := ((ps.filter fun o => !decide (o.2.nm = c'.nm)).map fun o => V.ref o.1) ++ [.ref q.1]) ?h (ev_var rfl) hp2 (c_Desk T) (n_Desk_line T) (by show 4 < 1000; decide) fun r H3 hr e3 h3 => ?_
    case h =>
      have hlen := D.len
      have hW := W.len
      refine el_cat (el_lcM (K := K) (ps := ps) (uu := fun q => V.ref q.1) (fun o => !decide (o.2.nm = c'.nm)) (fun o => V.ref o.1) (ev_fld (ev_var rfl) hp2 (c_Desk T) (n_Desk_line T) rfl) (sq_of hl2) (by omega) (fun _ => rfl) (fun o ho H1 e1 => ?_) fun o ho H1 e1 _ => ev_var rfl) (el_lst (ea_cons (ev_var rfl) ea_nil) (by show 1 ≤ 100000; decide)) ?_
      · rw [← decV, nmc]
        obtain ⟨d1, g1, s1, m1, h1⟩ := hlab o ho
        obtain ⟨d2, g2, s2, m2, h2⟩ := hlab q hq
        exact et_test (ev_op (ev_lab T (ev_var rfl) ⟨d1, g1, s1, m1, e1 _ _ h1⟩) (ev_lab T (ev_var rfl) ⟨d2, g2, s2, m2, e1 _ _ h2⟩) (rv_ne rfl))
      · rw [List.length_map]
        have := List.length_filter_le (fun o : Pr => !decide (o.2.nm = c'.nm)) ps
        show _ + 1 ≤ 100000
        omega
    have nrp : r ≠ p := fun e => by rw [e] at hr; rw [hp2] at hr; cases hr
    have Frr : F r = none := by
      cases hF : F r with
      | none => rfl
      | some o =>
        have := f.ex _ _ hF
        rw [upd_ne (fun e => by have := f.c0 q hq; rw [← e, hF] at this; cases this), this] at hr
        cases hr
    have ca : ∀ {b o}, b ≠ p → upd H q.1 (.ins (aC K) dx (cfs c')) b = some o → upd H3 p (.ins (aD K) dd (putF "line" (.ref r) (dfs d l))) b = some o := fun hb ho => by rw [upd_ne hb]; exact e3 _ _ ho
    refine k _ r ⟨⟨dd, upd_same⟩, ?_, ?_, ?_⟩ ⟨fun b o hb => ?_, f.p0, Frr, ?_⟩
    · rw [upd_ne nrp, h3, putP, List.map_append]
      rfl
    · show putC d.line c' = _
      rw [putP_line, D.eq]
    · intro o ho
      rcases List.mem_append.mp ho with ho | ho
      · obtain ⟨h1, h2⟩ := List.mem_filter.mp ho
        have h2 : o.2.nm ≠ c'.nm := by simpa using h2
        rw [nmc] at h2
        obtain ⟨dr, h⟩ := hoth o h1 h2
        refine ⟨dr, ca (fun e => ?_) h⟩
        obtain ⟨dz, hz⟩ := D.at_ o h1
        rw [e, hp] at hz
        exact ins_ne (Option.some.inj hz)
      · rw [List.mem_singleton] at ho
        rw [ho]
        exact ⟨dx, ca npa.symm upd_same⟩
    · refine ca (fun e => by have := f.p0; rw [← e, hb] at this; cases this) ?_
      rw [upd_ne (fun e => by have := f.c0 q hq; rw [← e, hb] at this; cases this)]
      exact f.ex _ _ hb
    · intro o ho
      rcases List.mem_append.mp ho with ho | ho
      · exact f.c0 o (List.mem_filter.mp ho).1
      · rw [List.mem_singleton] at ho
        rw [ho]
        exact f.c0 q hq
/-! ### desk_sleep -/
theorem sc_desk_sleep : FnScope ["self", "name", "many", "caller"] ["self", "name", "many"] (defScope s_desk_sleep) := ⟨rfl, rfl, rfl, by decide +kernel, rfl, by decide +kernel, by decide +kernel⟩
def sp_desk_sleep (K : PySem.W.Frag) : Sp := fun vs H Q E => ∃ (F : Hp) (p : Addr) (d : Dk) (nm : Str) (m : Int), vs = [.ref p, .str nm, .int m] ∧ DeskAt K F H p d ∧ d.Wf ∧
  (∀ e, sleepErr d nm m = some e → ∀ H', Ex H H' → E (.ref (He.ga K e)) none H') ∧ (∀ c, sleepErr d nm m = none → d.get nm = some c → ∀ H', DeskAt K F H' p (d.put ⟨c.nm, c.rk, .slp (d.now + m)⟩) → Q .non H')
theorem ok_desk_sleep {P : Program} {w : World} {K : PySem.W.Frag} {mg : Str → Option Value} {base : Heap} (T : Txt K mg) : ∃ fd, FnOk P w K mg base (L2N.CX P w) 2 (He.ma K (He.ga K "Desk") "sleep") fd ["self", "name", "many"] (sp_desk_sleep K) ∧ Binds K fd ["self", "name", "many"] [] ∧ FunD K "sleep" "Desk.sleep" (defArgs s_desk_sleep) (defBody s_desk_sleep) (defScope s_desk_sleep) [] [] (He.ma K (He.ga K "Desk") "sleep") fd := by
  obtain ⟨fd, F⟩ := f_desk_sleep T
  obtain ⟨d_desk_one, G_desk_one, b_desk_one, _⟩ := ok_desk_one (P := P) (w := w) (base := base) T
  obtain ⟨d_desk_need_ready, G_desk_need_ready, b_desk_need_ready, _⟩ := ok_desk_need_ready (P := P) (w := w) (base := base) T
  obtain ⟨d_desk_become, G_desk_become, b_desk_become, _⟩ := ok_desk_become (P := P) (w := w) (base := base) T
  obtain ⟨t_MOST_TURNS, hk_MOST_TURNS⟩ := k_MOST_TURNS T
  refine ⟨fd, okXN F sc_desk_sleep (fun vs H Q E h => ?_) (fun cdv A outer s H vs Q E hr h => ?_), FunD.bindsN F fun _ _ _ _ _ _ us hl => match us, hl with | [_, _, _], _ => rfl, F⟩
  · (repeat (obtain ⟨_, h⟩ := h)); subst_vars; rfl
  · obtain ⟨F, p, d, nm, m, rfl, ⟨l, ps, D, f⟩, W, kE, k⟩ := h
    refine ⟨_, (pss_cons (ps_set (i := 3) sc_desk_sleep.nd rfl (Or.inl rfl) (pe_meth (pv 0) (c_Desk T) (m_desk_one T) G_desk_one (hr.mono (by decide)) b_desk_one .nil (L2N.passes_call (L2N.takes_of rfl rfl rfl rfl) (fun _ _ _ _ h => h)) (pa_cons (pv 1) pa_nil)))
        (pss_cons (ps_if (PW.pt (pw_or (pt_cmpR op_lt (pv 2) pe_int (nomark _)) (pw_or1 (pt_cmpR op_gt (pv 2) (pe_glob (v := .int 1000) rfl hk_MOST_TURNS ⟨_, rfl⟩) (nomark _))))) (pss_one (L2N.ps_raise rfl (L2N.takes_of rfl rfl rfl rfl) (L2N.pmk_own PySem.F.excBase_ValueError (x_NoSpan T).1 (g_NoSpan T) (x_NoSpan T).2.1 (raises_own (x_NoSpan T).2.2.1 (x_NoSpan T).2.2.2) rfl)))
        pss_nil)
        (pss_cons (ps_expr (pe_meth (pv 0) (c_Desk T) (m_desk_need_ready T) G_desk_need_ready (hr.mono (by decide)) b_desk_need_ready .nil (L2N.passes_call (L2N.takes_of rfl rfl rfl rfl) (fun _ _ _ _ h => h)) (pa_cons (pv 3) pa_nil)))
        (pss_one (ps_expr (pe_meth (pv 0) (c_Desk T) (m_desk_become T) G_desk_become (hr.mono (by decide)) b_desk_become .nil pass0 (pa_cons (pv 3) (pa_cons pe_str (pa_cons (pe_op op_add (pe_fldK (K := K) rfl (pv 0) rfl) (pv 2)) pa_nil))))))))), ?_⟩
    unfold sleepErr at kE k
    obtain ⟨dx, hp⟩ := D.ob
    refine q_meth (ev_var rfl) hp rfl (ea_cons (ev_var rfl) ea_nil) fun H1 e1 => ?_
    refine ⟨p, d, l, ps, nm, rfl, D.ex e1, fun q hq hn H2 e2 => ?_, fun hn H2 e2 => kE _ (by rw [D.get_none hn]) H2 (e1.trans e2)⟩
    subst hn
    rw [D.get_of W hq] at kE k
    dsimp only at kE k
    refine' q_when ?h (fun hb H3 e3 => ?_) (fun hb H3 e3 => ?_)
    case h => tm_at "rr.ev"
    · exact kE _ (if_pos (by simpa using hb)) H3 ((e1.trans e2).trans e3)
    have n1 : ¬ (m < 1 ∨ 1000 < m) := by simpa using hb
    rw [if_neg n1] at kE k
    have e13 := (e1.trans e2).trans e3
    refine q_dmeth (ev_var rfl) (e13 _ _ hp) rfl (ea_cons (ev_var rfl) ea_nil) fun H4 e4 => ?_
    refine ⟨p, q.1, q.2, rfl, (D.at_ q hq).ex (e13.trans e4), fun hr H5 e5 => ?_, fun hr H5 e5 => kE _ (if_neg (by rw [hr]; decide)) H5 ((e13.trans e4).trans e5)⟩
    have e15 := (e13.trans e4).trans e5
    have D5 := D.ex e15
    refine s_dmeth (ev_var rfl) (e15 _ _ hp) rfl (ea_cons (ev_var rfl) (ea_cons ev_c (ea_cons (ev_op (ev_now T (ev_var rfl) D5) (ev_var rfl) rv_I0) ea_nil))) fun H6 e6 => ?_
    exact ⟨F, p, d, l, ps, q, .slp (d.now + m), rfl, D5.ex e6, f.mono (e15.trans e6), hq, W, fun H7 l7 D7 f7 => k q.2 (if_pos hr) rfl H7 ⟨l7, _, D7, f7⟩⟩
/-! ### desk_wait -/
theorem sc_desk_wait : FnScope ["self", "name", "bell", "caller"] ["self", "name", "bell"] (defScope s_desk_wait) := ⟨rfl, rfl, rfl, by decide +kernel, rfl, by decide +kernel, by decide +kernel⟩
def sp_desk_wait (K : PySem.W.Frag) : Sp := fun vs H Q E => ∃ (F : Hp) (p : Addr) (d : Dk) (nm b : Str), vs = [.ref p, .str nm, .str b] ∧ DeskAt K F H p d ∧ d.Wf ∧ b.length ≤ 100000 ∧
  (∀ e, waitErr d nm b = some e → ∀ H', Ex H H' → E (.ref (He.ga K e)) none H') ∧ (∀ c, waitErr d nm b = none → d.get nm = some c → ∀ H', DeskAt K F H' p (d.put ⟨c.nm, c.rk, .wtg b⟩) → Q .non H')
theorem ok_desk_wait {P : Program} {w : World} {K : PySem.W.Frag} {mg : Str → Option Value} {base : Heap} (T : Txt K mg) : ∃ fd, FnOk P w K mg base (L2N.CX P w) 2 (He.ma K (He.ga K "Desk") "wait") fd ["self", "name", "bell"] (sp_desk_wait K) ∧ Binds K fd ["self", "name", "bell"] [] ∧ FunD K "wait" "Desk.wait" (defArgs s_desk_wait) (defBody s_desk_wait) (defScope s_desk_wait) [] [] (He.ma K (He.ga K "Desk") "wait") fd := by
  obtain ⟨fd, F⟩ := f_desk_wait T
  obtain ⟨d_desk_one, G_desk_one, b_desk_one, _⟩ := ok_desk_one (P := P) (w := w) (base := base) T
  obtain ⟨d_is_name, G_is_name, b_is_name, _⟩ := ok_is_name (P := P) (w := w) (base := base) T
  obtain ⟨d_desk_need_ready, G_desk_need_ready, b_desk_need_ready, _⟩ := ok_desk_need_ready (P := P) (w := w) (base := base) T
  obtain ⟨d_desk_become, G_desk_become, b_desk_become, _⟩ := ok_desk_become (P := P) (w := w) (base := base) T
  refine ⟨fd, okXN F sc_desk_wait (fun vs H Q E h => ?_) (fun cdv A outer s H vs Q E hr h => ?_), FunD.bindsN F fun _ _ _ _ _ _ us hl => match us, hl with | [_, _, _], _ => rfl, F⟩
  · (repeat (obtain ⟨_, h⟩ := h)); subst_vars; rfl
  · obtain ⟨F, p, d, nm, b, rfl, ⟨l, ps, D, f⟩, W, hz, kE, k⟩ := h
    refine ⟨_, (pss_cons (ps_set (i := 3) sc_desk_wait.nd rfl (Or.inl rfl) (pe_meth (pv 0) (c_Desk T) (m_desk_one T) G_desk_one (hr.mono (by decide)) b_desk_one .nil (L2N.passes_call (L2N.takes_of rfl rfl rfl rfl) (fun _ _ _ _ h => h)) (pa_cons (pv 1) pa_nil)))
        (pss_cons (ps_if (pt_not (pt_val (pe_call G_is_name (hr.mono (by decide)) rfl (g_is_name T) (kp_is_name T) b_is_name .nil pass0 (pa_cons (pv 2) pa_nil)))) (pss_one (L2N.ps_raise rfl (L2N.takes_of rfl rfl rfl rfl) (L2N.pmk_own PySem.F.excBase_ValueError (x_NoName T).1 (g_NoName T) (x_NoName T).2.1 (raises_own (x_NoName T).2.2.1 (x_NoName T).2.2.2) rfl)))
        pss_nil)
        (pss_cons (ps_expr (pe_meth (pv 0) (c_Desk T) (m_desk_need_ready T) G_desk_need_ready (hr.mono (by decide)) b_desk_need_ready .nil (L2N.passes_call (L2N.takes_of rfl rfl rfl rfl) (fun _ _ _ _ h => h)) (pa_cons (pv 3) pa_nil)))
        (pss_one (ps_expr (pe_meth (pv 0) (c_Desk T) (m_desk_become T) G_desk_become (hr.mono (by decide)) b_desk_become .nil pass0 (pa_cons (pv 3) (pa_cons pe_str (pa_cons (pv 2) pa_nil))))))))), ?_⟩
    unfold waitErr at kE k
    obtain ⟨dx, hp⟩ := D.ob
    refine q_meth (ev_var rfl) hp rfl (ea_cons (ev_var rfl) ea_nil) fun H1 e1 => ?_
    refine ⟨p, d, l, ps, nm, rfl, D.ex e1, fun q hq hn H2 e2 => ?_, fun hn H2 e2 => kE _ (by rw [D.get_none hn]) H2 (e1.trans e2)⟩
    subst hn
    rw [D.get_of W hq] at kE k
    dsimp only at kE k
    refine q_when (b := !isName b) ?h (fun hb H3 e3 => ?_) (fun hb H3 e3 => ?_)
    case h => exact et_not (et_B (ev_call (ea_cons (ev_var rfl) ea_nil) (cv_is_name hz)))
    · exact kE _ (if_pos (by simpa using hb)) H3 ((e1.trans e2).trans e3)
    have n1 : ¬ isName b = false := by simpa using hb
    rw [if_neg n1] at kE k
    have e13 := (e1.trans e2).trans e3
    refine q_dmeth (ev_var rfl) (e13 _ _ hp) rfl (ea_cons (ev_var rfl) ea_nil) fun H4 e4 => ?_
    refine ⟨p, q.1, q.2, rfl, (D.at_ q hq).ex (e13.trans e4), fun hr H5 e5 => ?_, fun hr H5 e5 => kE _ (if_neg (by rw [hr]; decide)) H5 ((e13.trans e4).trans e5)⟩
    have e15 := (e13.trans e4).trans e5
    have D5 := D.ex e15
    refine s_dmeth (ev_var rfl) (e15 _ _ hp) rfl (ea_cons (ev_var rfl) (ea_cons ev_c (ea_cons (ev_var rfl) ea_nil))) fun H6 e6 => ?_
    exact ⟨F, p, d, l, ps, q, .wtg b, rfl, D5.ex e6, f.mono (e15.trans e6), hq, W, fun H7 l7 D7 f7 => k q.2 (if_pos hr) rfl H7 ⟨l7, _, D7, f7⟩⟩
/-! ### desk_wake -/
theorem sc_desk_wake : FnScope ["self", "name", "caller"] ["self", "name"] (defScope s_desk_wake) := ⟨rfl, rfl, rfl, by decide +kernel, rfl, by decide +kernel, by decide +kernel⟩
def sp_desk_wake (K : PySem.W.Frag) : Sp := fun vs H Q E => ∃ (F : Hp) (p : Addr) (d : Dk) (nm : Str), vs = [.ref p, .str nm] ∧ DeskAt K F H p d ∧ d.Wf ∧
  (∀ e, wakeErr d nm = some e → ∀ H', Ex H H' → E (.ref (He.ga K e)) none H') ∧ (∀ c, wakeErr d nm = none → d.get nm = some c → ∀ H', DeskAt K F H' p (d.put ⟨c.nm, c.rk, .rdy d.now⟩) → Q .non H')
theorem ok_desk_wake {P : Program} {w : World} {K : PySem.W.Frag} {mg : Str → Option Value} {base : Heap} (T : Txt K mg) : ∃ fd, FnOk P w K mg base (L2N.CX P w) 2 (He.ma K (He.ga K "Desk") "wake") fd ["self", "name"] (sp_desk_wake K) ∧ Binds K fd ["self", "name"] [] ∧ FunD K "wake" "Desk.wake" (defArgs s_desk_wake) (defBody s_desk_wake) (defScope s_desk_wake) [] [] (He.ma K (He.ga K "Desk") "wake") fd := by
  obtain ⟨fd, F⟩ := f_desk_wake T
  obtain ⟨d_desk_one, G_desk_one, b_desk_one, _⟩ := ok_desk_one (P := P) (w := w) (base := base) T
  obtain ⟨d_desk_become, G_desk_become, b_desk_become, _⟩ := ok_desk_become (P := P) (w := w) (base := base) T
  refine ⟨fd, okXN F sc_desk_wake (fun vs H Q E h => ?_) (fun cdv A outer s H vs Q E hr h => ?_), FunD.bindsN F fun _ _ _ _ _ _ us hl => match us, hl with | [_, _], _ => rfl, F⟩
  · (repeat (obtain ⟨_, h⟩ := h)); subst_vars; rfl
  · obtain ⟨F, p, d, nm, rfl, ⟨l, ps, D, f⟩, W, kE, k⟩ := h
    refine ⟨_, (pss_cons (ps_set (i := 2) sc_desk_wake.nd rfl (Or.inl rfl) (pe_meth (pv 0) (c_Desk T) (m_desk_one T) G_desk_one (hr.mono (by decide)) b_desk_one .nil (L2N.passes_call (L2N.takes_of rfl rfl rfl rfl) (fun _ _ _ _ h => h)) (pa_cons (pv 1) pa_nil)))
        (pss_cons (ps_if (pt_cmpR op_eq (pe_fldK (K := K) rfl (pv 2) rfl) pe_str (nomark _)) (pss_one (L2N.ps_raise rfl (L2N.takes_of rfl rfl rfl rfl) (L2N.pmk_own PySem.F.excBase_ValueError (x_IsReady T).1 (g_IsReady T) (x_IsReady T).2.1 (raises_own (x_IsReady T).2.2.1 (x_IsReady T).2.2.2) rfl)))
        pss_nil)
        (pss_one (ps_expr (pe_meth (pv 0) (c_Desk T) (m_desk_become T) G_desk_become (hr.mono (by decide)) b_desk_become .nil pass0 (pa_cons (pv 2) (pa_cons pe_str (pa_cons (pe_fldK (K := K) rfl (pv 0) rfl) pa_nil)))))))), ?_⟩
    unfold wakeErr at kE k
    obtain ⟨dx, hp⟩ := D.ob
    refine q_meth (ev_var rfl) hp rfl (ea_cons (ev_var rfl) ea_nil) fun H1 e1 => ?_
    refine ⟨p, d, l, ps, nm, rfl, D.ex e1, fun q hq hn H2 e2 => ?_, fun hn H2 e2 => kE _ (by rw [D.get_none hn]) H2 (e1.trans e2)⟩
    subst hn
    rw [D.get_of W hq] at kE k
    dsimp only at kE k
    have e12 := e1.trans e2
    refine q_when (b := q.2.md.isR) ?h (fun hb H3 e3 => ?_) (fun hb H3 e3 => ?_)
    case h =>
      rw [← st_ready, ← decV]
      exact et_test (ev_op (ev_stand T (ev_var rfl) ((D.at_ q hq).ex e12)) ev_c (rv_eq rfl))
    · exact kE _ (if_pos hb) H3 (e12.trans e3)
    have e13 := e12.trans e3
    have D3 := D.ex e13
    refine s_dmeth (ev_var rfl) (e13 _ _ hp) rfl (ea_cons (ev_var rfl) (ea_cons ev_c (ea_cons (ev_now T (ev_var rfl) D3) ea_nil))) fun H6 e6 => ?_
    exact ⟨F, p, d, l, ps, q, .rdy d.now, rfl, D3.ex e6, f.mono (e13.trans e6), hq, W, fun H7 l7 D7 f7 => k q.2 (if_neg (by rw [hb]; decide)) rfl H7 ⟨l7, _, D7, f7⟩⟩
/-! ### desk_rerank -/
theorem sc_desk_rerank : FnScope ["self", "name", "rank", "caller"] ["self", "name", "rank"] (defScope s_desk_rerank) := ⟨rfl, rfl, rfl, by decide +kernel, rfl, by decide +kernel, by decide +kernel⟩
def sp_desk_rerank (K : PySem.W.Frag) : Sp := fun vs H Q E => ∃ (F : Hp) (p : Addr) (d : Dk) (nm : Str) (rk : Int), vs = [.ref p, .str nm, .int rk] ∧ DeskAt K F H p d ∧ d.Wf ∧
  (∀ e, rerankErr d nm rk = some e → ∀ H', Ex H H' → E (.ref (He.ga K e)) none H') ∧ (rerankErr d nm rk = none → ∀ H', DeskAt K F H' p (d.setRk nm rk) → Q .non H')
theorem ok_desk_rerank {P : Program} {w : World} {K : PySem.W.Frag} {mg : Str → Option Value} {base : Heap} (T : Txt K mg) : ∃ fd, FnOk P w K mg base (L2N.CX P w) 2 (He.ma K (He.ga K "Desk") "rerank") fd ["self", "name", "rank"] (sp_desk_rerank K) ∧ Binds K fd ["self", "name", "rank"] [] ∧ FunD K "rerank" "Desk.rerank" (defArgs s_desk_rerank) (defBody s_desk_rerank) (defScope s_desk_rerank) [] [] (He.ma K (He.ga K "Desk") "rerank") fd := by
  obtain ⟨fd, F⟩ := f_desk_rerank T
  obtain ⟨d_desk_one, G_desk_one, b_desk_one, _⟩ := ok_desk_one (P := P) (w := w) (base := base) T
  obtain ⟨t_TOP, hk_TOP⟩ := k_TOP T
  refine ⟨fd, okXN F sc_desk_rerank (fun vs H Q E h => ?_) (fun cdv A outer s H vs Q E hr h => ?_), FunD.bindsN F fun _ _ _ _ _ _ us hl => match us, hl with | [_, _, _], _ => rfl, F⟩
  · (repeat (obtain ⟨_, h⟩ := h)); subst_vars; rfl
  · obtain ⟨F, p, d, nm, rk, rfl, ⟨l, ps, D, f⟩, W, kE, k⟩ := h
    refine ⟨_, (pss_cons (ps_set (i := 3) sc_desk_rerank.nd rfl (Or.inl rfl) (pe_meth (pv 0) (c_Desk T) (m_desk_one T) G_desk_one (hr.mono (by decide)) b_desk_one .nil (L2N.passes_call (L2N.takes_of rfl rfl rfl rfl) (fun _ _ _ _ h => h)) (pa_cons (pv 1) pa_nil)))
        (pss_cons (ps_if (PW.pt (pw_or (pt_cmpR op_lt (pv 2) pe_int (nomark _)) (pw_or1 (pt_cmpR op_gt (pv 2) (pe_glob (v := .int 99) rfl hk_TOP ⟨_, rfl⟩) (nomark _))))) (pss_one (L2N.ps_raise rfl (L2N.takes_of rfl rfl rfl rfl) (L2N.pmk_own PySem.F.excBase_ValueError (x_NoRank T).1 (g_NoRank T) (x_NoRank T).2.1 (raises_own (x_NoRank T).2.2.1 (x_NoRank T).2.2.2) rfl)))
        pss_nil)
        (pss_cons (ps_if (pt_cmpR op_eq (pe_fldK (K := K) rfl (pv 3) rfl) pe_str (nomark _)) (pss_one (L2N.ps_raise rfl (L2N.takes_of rfl rfl rfl rfl) (L2N.pmk_own PySem.F.excBase_ValueError (x_IsReady T).1 (g_IsReady T) (x_IsReady T).2.1 (raises_own (x_IsReady T).2.2.1 (x_IsReady T).2.2.2) rfl)))
        pss_nil)
        (pss_one (ps_fld (pv 3) (pv 2) rfl))))), ?_⟩
    unfold rerankErr at kE k
    obtain ⟨dx, hp⟩ := D.ob
    refine q_meth (ev_var rfl) hp rfl (ea_cons (ev_var rfl) ea_nil) fun H1 e1 => ?_
    refine ⟨p, d, l, ps, nm, rfl, D.ex e1, fun q hq hn H2 e2 => ?_, fun hn H2 e2 => kE _ (by rw [D.get_none hn]) H2 (e1.trans e2)⟩
    subst hn
    rw [D.get_of W hq] at kE k
    dsimp only at kE k
    have e12 := e1.trans e2
    refine' q_when ?h (fun hb H3 e3 => ?_) (fun hb H3 e3 => ?_)
    case h => tm_at "rr.ev"
    · exact kE _ (if_pos (by simpa using hb)) H3 (e12.trans e3)
    have n1 : ¬ (rk < 0 ∨ 99 < rk) := by simpa using hb
    rw [if_neg n1] at kE k
    have e13 := e12.trans e3
    refine q_when (b := q.2.md.isR) ?h (fun hb H4 e4 => ?_) (fun hb H4 e4 => ?_)
    case h =>
      rw [← st_ready, ← decV]
      exact et_test (ev_op (ev_stand T (ev_var rfl) ((D.at_ q hq).ex e13)) ev_c (rv_eq rfl))
    · exact kE _ (if_pos hb) H4 (e13.trans e4)
    rw [if_neg (by rw [hb]; decide)] at k
    have e14 := e13.trans e4
    have D4 := D.ex e14
    have f4 := f.mono e14
    obtain ⟨dc, hc⟩ := D4.at_ q hq
    refine s_fld (ev_var rfl) (ev_var rfl) hc (c_Caller T) (n_Caller_grade T) (by show 4 < 1000; decide) fun H5 e5 => ?_
    have D5 := D4.ex e5
    have f5 := f4.mono e5
    have hc5 := e5 _ _ hc
    have ca : ∀ {b o}, b ≠ q.1 → H5 b = some o → upd H5 q.1 (.ins (aC K) dc (putF "grade" (.int rk) (cfs q.2))) b = some o := fun hb ho => by rw [upd_ne hb]; exact ho
    obtain ⟨dp, hp5⟩ := D5.ob
    have nd := D.nd W.nd
    refine k rfl _ ⟨l, ps.map fun r => if r.2.nm = q.2.nm then (r.1, ⟨r.2.nm, rk, r.2.md⟩) else r, ⟨⟨dp, ca (ne_of hp5 hc5 ins_ne) hp5⟩, ?_, ?_, fun r hr => ?_⟩, ⟨fun b o hb => ca (fun e => by have := f.c0 q hq; rw [← e, hb] at this; cases this) (f5.ex _ _ hb), f.p0, f.l0, fun r hr => ?_⟩⟩
    · rw [ca (ne_of D5.ln hc5 (by intro z; cases z)) D5.ln, List.map_map]
      congr 2
      apply List.map_congr_left
      intro r _
      show _ = V.ref (if r.2.nm = q.2.nm then (r.1, (⟨r.2.nm, rk, r.2.md⟩ : Cl)) else r).1
      split <;> rfl
    · show d.line.map _ = _
      rw [D.eq, List.map_map, List.map_map]
      apply List.map_congr_left
      intro r _
      show (if r.2.nm = q.2.nm then (⟨r.2.nm, rk, r.2.md⟩ : Cl) else r.2) = (if r.2.nm = q.2.nm then (r.1, (⟨r.2.nm, rk, r.2.md⟩ : Cl)) else r).2
      split <;> rfl
    · obtain ⟨r0, h0, e0⟩ := List.mem_map.mp hr
      by_cases c : r0.2.nm = q.2.nm
      · rw [if_pos c] at e0
        have e9 : r0 = q := nodup_pr nd h0 hq c
        rw [← e0, e9]
        exact ⟨dc, upd_same⟩
      · rw [if_neg c] at e0
        rw [← e0]
        obtain ⟨dr, h⟩ := D5.at_ r0 h0
        exact ⟨dr, ca (fun e => c (D5.mem_nm h0 hq e)) h⟩
    · obtain ⟨r0, h0, e0⟩ := List.mem_map.mp hr
      have e9 : r.1 = r0.1 := by rw [← e0]; split <;> rfl
      rw [e9]
      exact f.c0 r0 h0
/-! ### limit -/
theorem sc_limit : FnScope ["rank", "pace", "room"] ["rank", "pace", "room"] (defScope s_limit) := ⟨rfl, rfl, rfl, by decide +kernel, rfl, by decide +kernel, by decide +kernel⟩
def sp_limit (_ : PySem.W.Frag) : Sp := fun vs H Q _ => ∃ (r p m : Int), vs = [.int r, .int p, .int m] ∧ 0 < p ∧ p ≤ 1000 ∧ RetV (.int (p * (99 - r) + m)) H Q
theorem cv_limit {K : PySem.W.Frag} {H : Hp} {r p m : Int} (h1 : 0 < p) (h2 : p ≤ 1000) : SpV (sp_limit K) ([.int r, .int p, .int m] ++ []) H (.int (p * (99 - r) + m)) := spv_call fun _ _ _ _ k => ⟨r, p, m, rfl, h1, h2, k⟩
local macro_rules | `(tactic| tm_at "rr.cv") => `(tactic| refine' cv_limit ?_ ?_)
theorem ok_limit {P : Program} {w : World} {K : PySem.W.Frag} {mg : Str → Option Value} {base : Heap} (T : Txt K mg) : ∃ fd, FnOk P w K mg base (CX0) 1 (He.ga K "limit") fd ["rank", "pace", "room"] (sp_limit K) ∧ Binds K fd ["rank", "pace", "room"] [] ∧ FunD K "limit" "limit" (defArgs s_limit) (defBody s_limit) (defScope s_limit) [] [] (He.ga K "limit") fd := by
  obtain ⟨fd, F⟩ := f_limit T
  obtain ⟨t_TOP, hk_TOP⟩ := k_TOP T
  refine ⟨fd, ok0 F sc_limit (fun vs H Q E h => ?_) (fun cdv A outer s H vs Q E hr h => ?_), FunD.bindsN F fun _ _ _ _ _ _ us hl => match us, hl with | [_, _, _], _ => rfl, F⟩
  · (repeat (obtain ⟨_, h⟩ := h)); subst_vars; rfl
  · obtain ⟨r, p, m, rfl, h1, h2, k⟩ := h
    refine ⟨_, (pss_one (ps_ret (pe_op op_add (pe_op op_mul (pv 1) (pe_op op_sub (pe_glob (v := .int 99) rfl hk_TOP ⟨_, rfl⟩) (pv 0))) (pv 2)))), ?_⟩
    exact s_ret (ev_op (ev_op (ev_var rfl) (ev_op ev_c (ev_var rfl) rv_I0) (rv_I (cmul_l (by omega) (by omega)))) (ev_var rfl) rv_I0) k
/-! ### desk_within -/
theorem sc_desk_within : FnScope ["self", "name", "caller"] ["self", "name"] (defScope s_desk_within) := ⟨rfl, rfl, rfl, by decide +kernel, rfl, by decide +kernel, by decide +kernel⟩
def sp_desk_within (K : PySem.W.Frag) : Sp := fun vs H Q E => ∃ (p : Addr) (d : Dk) (l : Addr) (ps : List Pr) (nm : Str), vs = [.ref p, .str nm] ∧ DkAt K H p d l ps ∧ d.Wf ∧ (∀ e, waitedErr d nm = some e → ∀ H', Ex H H' → E (.ref (He.ga K e)) none H') ∧
  ∀ c, d.get nm = some c → c.md.isR = true → RetV (.int (d.pace * (99 - c.rk) + d.room - (d.now - c.md.since))) H Q
theorem cv_within {K : PySem.W.Frag} {H : Hp} {p l : Addr} {d : Dk} {ps : List Pr} {c : Cl} {nm : Str} (h : DkAt K H p d l ps) (W : d.Wf) (hc : d.get nm = some c) (hr : c.md.isR = true) : SpV (sp_desk_within K) (.ref p :: ([.str nm] ++ [])) H (.int (d.pace * (99 - c.rk) + d.room - (d.now - c.md.since))) :=
  spv_meth fun _ e _ _ k => ⟨p, d, l, ps, nm, rfl, h.ex e, W, fun er hn => (by unfold waitedErr at hn; rw [hc] at hn; dsimp only at hn; rw [if_pos hr] at hn; cases hn), fun c' h' _ => by rw [hc] at h'; cases h'; exact k⟩
theorem ok_desk_within {P : Program} {w : World} {K : PySem.W.Frag} {mg : Str → Option Value} {base : Heap} (T : Txt K mg) : ∃ fd, FnOk P w K mg base (L2N.CX P w) 2 (He.ma K (He.ga K "Desk") "within") fd ["self", "name"] (sp_desk_within K) ∧ Binds K fd ["self", "name"] [] ∧ FunD K "within" "Desk.within" (defArgs s_desk_within) (defBody s_desk_within) (defScope s_desk_within) [] [] (He.ma K (He.ga K "Desk") "within") fd := by
  obtain ⟨fd, F⟩ := f_desk_within T
  obtain ⟨d_desk_one, G_desk_one, b_desk_one, _⟩ := ok_desk_one (P := P) (w := w) (base := base) T
  obtain ⟨d_desk_need_ready, G_desk_need_ready, b_desk_need_ready, _⟩ := ok_desk_need_ready (P := P) (w := w) (base := base) T
  obtain ⟨d_limit, G_limit, b_limit, _⟩ := ok_limit (P := P) (w := w) (base := base) T
  refine ⟨fd, okXN F sc_desk_within (fun vs H Q E h => ?_) (fun cdv A outer s H vs Q E hr h => ?_), FunD.bindsN F fun _ _ _ _ _ _ us hl => match us, hl with | [_, _], _ => rfl, F⟩
  · (repeat (obtain ⟨_, h⟩ := h)); subst_vars; rfl
  · obtain ⟨p, d, l, ps, nm, rfl, D, W, kE, k⟩ := h
    refine ⟨_, (pss_cons (ps_set (i := 2) sc_desk_within.nd rfl (Or.inl rfl) (pe_meth (pv 0) (c_Desk T) (m_desk_one T) G_desk_one (hr.mono (by decide)) b_desk_one .nil (L2N.passes_call (L2N.takes_of rfl rfl rfl rfl) (fun _ _ _ _ h => h)) (pa_cons (pv 1) pa_nil)))
        (pss_cons (ps_expr (pe_meth (pv 0) (c_Desk T) (m_desk_need_ready T) G_desk_need_ready (hr.mono (by decide)) b_desk_need_ready .nil (L2N.passes_call (L2N.takes_of rfl rfl rfl rfl) (fun _ _ _ _ h => h)) (pa_cons (pv 2) pa_nil)))
        (pss_one (ps_ret (pe_op op_sub (pe_call G_limit (hr.mono (by decide)) rfl (g_limit T) (kp_limit T) b_limit .nil pass0 (pa_cons (pe_fldK (K := K) rfl (pv 2) rfl) (pa_cons (pe_fldK (K := K) rfl (pv 0) rfl) (pa_cons (pe_fldK (K := K) rfl (pv 0) rfl) pa_nil)))) (pe_op op_sub (pe_fldK (K := K) rfl (pv 0) rfl) (pe_fldK (K := K) rfl (pv 2) rfl))))))), ?_⟩
    unfold waitedErr at kE
    obtain ⟨dx, hp⟩ := D.ob
    refine q_meth (ev_var rfl) hp rfl (ea_cons (ev_var rfl) ea_nil) fun H1 e1 => ?_
    refine ⟨p, d, l, ps, nm, rfl, D.ex e1, fun q hq hn H2 e2 => ?_, fun hn H2 e2 => kE _ (by rw [D.get_none hn]) H2 (e1.trans e2)⟩
    subst hn
    rw [D.get_of W hq] at kE
    have k := k q.2 (D.get_of W hq)
    have e12 := e1.trans e2
    refine q_dmeth (ev_var rfl) (e12 _ _ hp) rfl (ea_cons (ev_var rfl) ea_nil) fun H3 e3 => ?_
    refine ⟨p, q.1, q.2, rfl, (D.at_ q hq).ex (e12.trans e3), fun hr H4 e4 => ?_, fun hr H4 e4 => kE _ (if_neg (by rw [hr]; decide)) H4 ((e12.trans e3).trans e4)⟩
    have e14 := (e12.trans e3).trans e4
    have D4 := D.ex e14
    have C4 := (D.at_ q hq).ex e14
    have hm := ev_mark (ta := tVar 2) (σ := [some (.ref p), some (.str q.2.nm), some (.ref q.1)]) T (ev_var rfl) C4
    rw [mark_rdy hr] at hm
    have hp1 := W.p1
    have hp2 := W.p2
    exact s_ret (ev_op (ev_call (ea_cons (ev_grade T (ev_var rfl) C4) (ea_cons (ev_pace T (ev_var rfl) D4) (ea_cons (ev_room T (ev_var rfl) D4) ea_nil))) (cv_limit (by omega) hp2)) (ev_op (ev_now T (ev_var rfl) D4) hm rv_I0) rv_I0) fun H5 e5 => k hr H5 (e14.trans e5)
/-! ### desk_left -/
theorem sc_desk_left : FnScope ["self", "name", "caller"] ["self", "name"] (defScope s_desk_left) := ⟨rfl, rfl, rfl, by decide +kernel, rfl, by decide +kernel, by decide +kernel⟩
def leftV (d : Dk) (c : Cl) : V := match c.md with
  | .slp t => .int (t - d.now)
  | _ => .non
def sp_desk_left (K : PySem.W.Frag) : Sp := fun vs H Q E => ∃ (p : Addr) (d : Dk) (l : Addr) (ps : List Pr) (nm : Str), vs = [.ref p, .str nm] ∧ DkAt K H p d l ps ∧ d.Wf ∧ (d.get nm = none → ∀ H', Ex H H' → E (.ref (He.ga K "Unknown")) none H') ∧ ∀ c, d.get nm = some c → RetV (leftV d c) H Q
theorem cv_left {K : PySem.W.Frag} {H : Hp} {p l : Addr} {d : Dk} {ps : List Pr} {c : Cl} {nm : Str} (h : DkAt K H p d l ps) (W : d.Wf) (hc : d.get nm = some c) : SpV (sp_desk_left K) (.ref p :: ([.str nm] ++ [])) H (leftV d c) :=
  spv_meth fun _ e _ _ k => ⟨p, d, l, ps, nm, rfl, h.ex e, W, fun hn => (by rw [hn] at hc; cases hc), fun c' h' => by rw [hc] at h'; cases h'; exact k⟩
theorem ok_desk_left {P : Program} {w : World} {K : PySem.W.Frag} {mg : Str → Option Value} {base : Heap} (T : Txt K mg) : ∃ fd, FnOk P w K mg base (L2N.CX P w) 2 (He.ma K (He.ga K "Desk") "left") fd ["self", "name"] (sp_desk_left K) ∧ Binds K fd ["self", "name"] [] ∧ FunD K "left" "Desk.left" (defArgs s_desk_left) (defBody s_desk_left) (defScope s_desk_left) [] [] (He.ma K (He.ga K "Desk") "left") fd := by
  obtain ⟨fd, F⟩ := f_desk_left T
  obtain ⟨d_desk_one, G_desk_one, b_desk_one, _⟩ := ok_desk_one (P := P) (w := w) (base := base) T
  refine ⟨fd, okXN F sc_desk_left (fun vs H Q E h => ?_) (fun cdv A outer s H vs Q E hr h => ?_), FunD.bindsN F fun _ _ _ _ _ _ us hl => match us, hl with | [_, _], _ => rfl, F⟩
  · (repeat (obtain ⟨_, h⟩ := h)); subst_vars; rfl
  · obtain ⟨p, d, l, ps, nm, rfl, D, W, kE, k⟩ := h
    refine ⟨_, (pss_cons (ps_set (i := 2) sc_desk_left.nd rfl (Or.inl rfl) (pe_meth (pv 0) (c_Desk T) (m_desk_one T) G_desk_one (hr.mono (by decide)) b_desk_one .nil (L2N.passes_call (L2N.takes_of rfl rfl rfl rfl) (fun _ _ _ _ h => h)) (pa_cons (pv 1) pa_nil)))
        (pss_cons (ps_if (pt_cmpR op_eq (pe_fldK (K := K) rfl (pv 2) rfl) pe_str (nomark _)) (pss_one (ps_ret (pe_op op_sub (pe_fldK (K := K) rfl (pv 2) rfl) (pe_fldK (K := K) rfl (pv 0) rfl))))
        pss_nil)
        (pss_one (ps_ret pe_non)))), ?_⟩
    obtain ⟨dx, hp⟩ := D.ob
    refine q_meth (ev_var rfl) hp rfl (ea_cons (ev_var rfl) ea_nil) fun H1 e1 => ?_
    refine ⟨p, d, l, ps, nm, rfl, D.ex e1, fun q hq hn H2 e2 => ?_, fun hn H2 e2 => kE (D.get_none hn) H2 (e1.trans e2)⟩
    subst hn
    have k := k q.2 (D.get_of W hq)
    have e12 := e1.trans e2
    have C2 := (D.at_ q hq).ex e12
    unfold leftV at k
    refine q_when (b := q.2.md.isS) ?h (fun hb H3 e3 => ?_) (fun hb H3 e3 => ?_)
    case h =>
      rw [← st_asleep, ← decV]
      exact et_test (ev_op (ev_stand T (ev_var rfl) C2) ev_c (rv_eq rfl))
    · obtain ⟨t, ht⟩ : ∃ t, q.2.md = .slp t := by
        cases em : q.2.md with
        | rdy s => rw [em] at hb; cases hb
        | slp s => exact ⟨s, rfl⟩
        | wtg s => rw [em] at hb; cases hb
      rw [ht] at k
      have e13 := e12.trans e3
      have hm := ev_mark (ta := tVar 2) (σ := [some (.ref p), some (.str q.2.nm), some (.ref q.1)]) T (ev_var rfl) ((D.at_ q hq).ex e13)
      rw [ht] at hm
      exact s_ret (ev_op hm (ev_now T (ev_var rfl) (D.ex e13)) rv_I0) fun H5 e5 => k H5 (e13.trans e5)
    · refine s_ret ev_c fun H5 e5 => ?_
      have := k H5 ((e12.trans e3).trans e5)
      cases em : q.2.md with
      | rdy s => rw [em] at this; exact this
      | slp s => rw [em] at hb; cases hb
      | wtg s => rw [em] at this; exact this
/-! ### desk_bell -/
theorem sc_desk_bell : FnScope ["self", "name", "caller"] ["self", "name"] (defScope s_desk_bell) := ⟨rfl, rfl, rfl, by decide +kernel, rfl, by decide +kernel, by decide +kernel⟩
def bellV (c : Cl) : V := match c.md with
  | .wtg b => .str b
  | _ => .non
def sp_desk_bell (K : PySem.W.Frag) : Sp := fun vs H Q E => ∃ (p : Addr) (d : Dk) (l : Addr) (ps : List Pr) (nm : Str), vs = [.ref p, .str nm] ∧ DkAt K H p d l ps ∧ d.Wf ∧ (d.get nm = none → ∀ H', Ex H H' → E (.ref (He.ga K "Unknown")) none H') ∧ ∀ c, d.get nm = some c → RetV (bellV c) H Q
theorem cv_bell {K : PySem.W.Frag} {H : Hp} {p l : Addr} {d : Dk} {ps : List Pr} {c : Cl} {nm : Str} (h : DkAt K H p d l ps) (W : d.Wf) (hc : d.get nm = some c) : SpV (sp_desk_bell K) (.ref p :: ([.str nm] ++ [])) H (bellV c) :=
  spv_meth fun _ e _ _ k => ⟨p, d, l, ps, nm, rfl, h.ex e, W, fun hn => (by rw [hn] at hc; cases hc), fun c' h' => by rw [hc] at h'; cases h'; exact k⟩
theorem ok_desk_bell {P : Program} {w : World} {K : PySem.W.Frag} {mg : Str → Option Value} {base : Heap} (T : Txt K mg) : ∃ fd, FnOk P w K mg base (L2N.CX P w) 2 (He.ma K (He.ga K "Desk") "bell") fd ["self", "name"] (sp_desk_bell K) ∧ Binds K fd ["self", "name"] [] ∧ FunD K "bell" "Desk.bell" (defArgs s_desk_bell) (defBody s_desk_bell) (defScope s_desk_bell) [] [] (He.ma K (He.ga K "Desk") "bell") fd := by
  obtain ⟨fd, F⟩ := f_desk_bell T
  obtain ⟨d_desk_one, G_desk_one, b_desk_one, _⟩ := ok_desk_one (P := P) (w := w) (base := base) T
  refine ⟨fd, okXN F sc_desk_bell (fun vs H Q E h => ?_) (fun cdv A outer s H vs Q E hr h => ?_), FunD.bindsN F fun _ _ _ _ _ _ us hl => match us, hl with | [_, _], _ => rfl, F⟩
  · (repeat (obtain ⟨_, h⟩ := h)); subst_vars; rfl
  · obtain ⟨p, d, l, ps, nm, rfl, D, W, kE, k⟩ := h
    refine ⟨_, (pss_cons (ps_set (i := 2) sc_desk_bell.nd rfl (Or.inl rfl) (pe_meth (pv 0) (c_Desk T) (m_desk_one T) G_desk_one (hr.mono (by decide)) b_desk_one .nil (L2N.passes_call (L2N.takes_of rfl rfl rfl rfl) (fun _ _ _ _ h => h)) (pa_cons (pv 1) pa_nil)))
        (pss_cons (ps_if (pt_cmpR op_eq (pe_fldK (K := K) rfl (pv 2) rfl) pe_str (nomark _)) (pss_one (ps_ret (pe_fldK (K := K) rfl (pv 2) rfl)))
        pss_nil)
        (pss_one (ps_ret pe_non)))), ?_⟩
    obtain ⟨dx, hp⟩ := D.ob
    refine q_meth (ev_var rfl) hp rfl (ea_cons (ev_var rfl) ea_nil) fun H1 e1 => ?_
    refine ⟨p, d, l, ps, nm, rfl, D.ex e1, fun q hq hn H2 e2 => ?_, fun hn H2 e2 => kE (D.get_none hn) H2 (e1.trans e2)⟩
    subst hn
    have k := k q.2 (D.get_of W hq)
    have e12 := e1.trans e2
    have C2 := (D.at_ q hq).ex e12
    unfold bellV at k
    refine q_when (b := q.2.md.isW) ?h (fun hb H3 e3 => ?_) (fun hb H3 e3 => ?_)
    case h =>
      rw [← st_waiting, ← decV]
      exact et_test (ev_op (ev_stand T (ev_var rfl) C2) ev_c (rv_eq rfl))
    · obtain ⟨t, ht⟩ : ∃ t, q.2.md = .wtg t := by
        cases em : q.2.md with
        | rdy s => rw [em] at hb; cases hb
        | slp s => rw [em] at hb; cases hb
        | wtg s => exact ⟨s, rfl⟩
      rw [ht] at k
      have e13 := e12.trans e3
      have hm := ev_mark (ta := tVar 2) (σ := [some (.ref p), some (.str q.2.nm), some (.ref q.1)]) T (ev_var rfl) ((D.at_ q hq).ex e13)
      rw [ht] at hm
      exact s_ret hm fun H5 e5 => k H5 (e13.trans e5)
    · refine s_ret ev_c fun H5 e5 => ?_
      have := k H5 ((e12.trans e3).trans e5)
      cases em : q.2.md with
      | rdy s => rw [em] at this; exact this
      | slp s => rw [em] at this; exact this
      | wtg s => rw [em] at hb; cases hb
/-! ### desk_leave -/
theorem sc_desk_leave : FnScope ["self", "name", "gone", "caller"] ["self", "name"] (defScope s_desk_leave) := ⟨rfl, rfl, rfl, by decide +kernel, rfl, by decide +kernel, by decide +kernel⟩
def sp_desk_leave (K : PySem.W.Frag) : Sp := fun vs H Q E => ∃ (F : Hp) (p : Addr) (d : Dk) (nm : Str), vs = [.ref p, .str nm] ∧ DeskAt K F H p d ∧ d.Wf ∧
  (d.get nm = none → ∀ H', Ex H H' → E (.ref (He.ga K "Unknown")) none H') ∧ (∀ c, d.get nm = some c → ∀ H', DeskAt K F H' p (d.leave nm) → Q .non H')
theorem ok_desk_leave {P : Program} {w : World} {K : PySem.W.Frag} {mg : Str → Option Value} {base : Heap} (T : Txt K mg) : ∃ fd, FnOk P w K mg base (L2N.CX P w) 2 (He.ma K (He.ga K "Desk") "leave") fd ["self", "name"] (sp_desk_leave K) ∧ Binds K fd ["self", "name"] [] ∧ FunD K "leave" "Desk.leave" (defArgs s_desk_leave) (defBody s_desk_leave) (defScope s_desk_leave) [] [] (He.ma K (He.ga K "Desk") "leave") fd := by
  obtain ⟨fd, F⟩ := f_desk_leave T
  obtain ⟨d_desk_one, G_desk_one, b_desk_one, _⟩ := ok_desk_one (P := P) (w := w) (base := base) T
  refine ⟨fd, okXN F sc_desk_leave (fun vs H Q E h => ?_) (fun cdv A outer s H vs Q E hr h => ?_), FunD.bindsN F fun _ _ _ _ _ _ us hl => match us, hl with | [_, _], _ => rfl, F⟩
  · (repeat (obtain ⟨_, h⟩ := h)); subst_vars; rfl
  · obtain ⟨F, p, d, nm, rfl, ⟨l, ps, D, f⟩, W, kE, k⟩ := h
    refine ⟨_, (pss_cons (ps_set (i := 2) sc_desk_leave.nd rfl (Or.inr rfl) (pe_meth (pv 0) (c_Desk T) (m_desk_one T) G_desk_one (hr.mono (by decide)) b_desk_one .nil (L2N.passes_call (L2N.takes_of rfl rfl rfl rfl) (fun _ _ _ _ h => h)) (pa_cons (pv 1) pa_nil)))
        (pss_one (ps_fld (pv 0) (pe_lc (own := [("caller", 3)]) (g := gName 3) rfl sc_desk_leave.nd (pi_listK (K := K) rfl (pe_fldK (K := K) rfl (pv 0) rfl)) (blkOk_by (own := [("caller", 3)]) (N := ["self", "name", "gone", "caller"]) (sc := defScope s_desk_leave) (by decide +kernel)) (fun _ _ _ _ _ => (pg_name (i := 3) sc_desk_leave.nd rfl (Or.inl rfl))) (fun _ _ _ _ _ => pts_one (pt_cmpR op_ne (pe_fldK (K := K) rfl (pv 3) rfl) (pe_fldK (K := K) rfl (pv 2) rfl) (nomark _))) (fun _ _ _ _ _ => (pv 3))) rfl))), ?_⟩
    obtain ⟨dx, hp⟩ := D.ob
    refine q_meth (ev_var rfl) hp rfl (ea_cons (ev_var rfl) ea_nil) fun H1 e1 => ?_
    refine ⟨p, d, l, ps, nm, rfl, D.ex e1, fun q hq hn H2 e2 => ?_, fun hn H2 e2 => kE (D.get_none hn) H2 (e1.trans e2)⟩
    subst hn
    have e12 := e1.trans e2
    have D2 := D.ex e12
    have f2 := f.mono e12
    have hp2 := e12 _ _ hp
    have hW := W.len
    have hln := D.len
    refine s_fldL (xs := (ps.filter fun o => !decide (o.2.nm = q.2.nm)).map fun o => V.ref o.1) ?h (ev_var rfl) hp2 (c_Desk T) (n_Desk_line T) (by show 4 < 1000; decide) fun r H3 hr e3 h3 => ?_
    case h =>
      refine el_lcM (K := K) (ps := ps) (uu := fun q => V.ref q.1) (fun o => !decide (o.2.nm = q.2.nm)) (fun o => V.ref o.1) (ev_line T (ev_var rfl) D2) (sq_of D2.ln) (by omega) (fun _ => rfl) (fun o ho H1 e1 => ?_) fun o ho H1 e1 _ => ev_var rfl
      rw [← decV]
      exact et_test (ev_op (ev_label T (ev_var rfl) ((D2.at_ o ho).ex e1)) (ev_label T (ev_var rfl) ((D2.at_ q hq).ex e1)) (rv_ne rfl))
    have nrp : r ≠ p := fun e => by rw [e] at hr; rw [hp2] at hr; cases hr
    have Frr : F r = none := by
      cases hF : F r with
      | none => rfl
      | some o => have := f2.ex _ _ hF; rw [hr] at this; cases this
    have ca : ∀ {b o}, b ≠ p → H3 b = some o → upd H3 p (.ins (aD K) dx (putF "line" (.ref r) (dfs d l))) b = some o := fun hb ho => by rw [upd_ne hb]; exact ho
    refine k q.2 (D.get_of W hq) _ ⟨r, ps.filter fun o => !decide (o.2.nm = q.2.nm), ⟨⟨dx, upd_same⟩, ca nrp h3, ?_, fun o ho => ?_⟩, ⟨fun b o hb => ca (fun e => by have := f.p0; rw [← e, hb] at this; cases this) (e3 _ _ (f2.ex _ _ hb)), f.p0, Frr, fun o ho => f.c0 o (List.mem_filter.mp ho).1⟩⟩
    · show d.line.filter _ = _
      rw [D.eq, List.filter_map]
      rfl
    · obtain ⟨dq, h⟩ := D2.at_ o (List.mem_filter.mp ho).1
      exact ⟨dq, ca (fun e => by rw [e, hp2] at h; exact ins_ne (Option.some.inj h)) (e3 _ _ h)⟩
/-! ### L_word -/
theorem sc_L_word : FnScope ["_law_e", "_law_found", "_law_one"] ["_law_e"] (defScope s_L_word) := ⟨rfl, rfl, rfl, by decide +kernel, rfl, by decide +kernel, by decide +kernel⟩
theorem ev_isE {K : PySem.W.Frag} {σ : L2.St} {H : Hp} {a : Addr} (KS : ExcKs K) {i : Nat} (hi : i < 9) (j : Nat) (hj : j < 9) (h0 : σ[0]? = some (some (.ref a))) : Ev (tCB (rIsE K (excAt K i) a) (tCons (tVar 0) (tCons (tC (.ref (excAt K j))) tNil))) σ H (.bl (decide (j = i))) :=
  ev_cb (ea_cons (ev_var h0) (ea_cons ev_c ea_nil)) fun H1 _ Q q => ⟨.ref (excAt K j), .ref (excAt K j), _, rfl, fun u r => r, KS.k i j hi hj, q H1 (Ex.refl H1)⟩
theorem ev_isV {K : PySem.W.Frag} {σ : L2.St} {H : Hp} {a : Addr} (KS : ExcKs K) {i : Nat} (hi : i < 9) (h0 : σ[0]? = some (some (.ref a))) : Ev (tCB (rIsE K (excAt K i) a) (tCons (tVar 0) (tCons (tC (.ty "ValueError")) tNil))) σ H (.bl true) :=
  ev_cb (ea_cons (ev_var h0) (ea_cons ev_c ea_nil)) fun H1 _ Q q => ⟨.ty "ValueError", .type "ValueError", _, rfl, fun u r => r, KS.v i hi, q H1 (Ex.refl H1)⟩
theorem el_catV {σ : L2.St} {H : Hp} {p : Addr} {xs ys : List V} {ta tb : TE} (ha : Ev ta σ H (.ref p)) (hp : H p = some (.lst xs)) (hb : EvL tb σ H ys) (hz : xs.length + ys.length ≤ 100000) : EvL (tOp rCat ta tb) σ H (xs ++ ys) := fun H1 e Q q =>
  ha H1 e _ fun H2 e2 => hb H2 (e.trans e2) _ fun r H3 hr e3 h3 => ⟨p, r, xs, ys, rfl, rfl, (e.trans (e2.trans e3)) _ _ hp, h3, sz_of hz, fun s hs => q s _ (fresh_back (e2.trans e3) hs) ((e2.trans e3).trans (Ex.new hs)) upd_same⟩
theorem el_lcH {K : PySem.W.Frag} {σ : L2.St} {H : Hp} {p : Addr} {xs : List V} {j : Nat} {tl te : TE} (f : V → V) (h : Ev tl σ H (.ref p)) (hp : SqL K H p xs) (hz : xs.length ≤ 1000) (he : ∀ x ∈ xs, ∀ H1, Ex H H1 → Ev te ((wipe σ [j]).set j (some x)) H1 (f x)) : EvL (tLcH K tl j te) σ H (xs.map f) := fun H1 e Q q =>
  h H1 e _ fun H2 e2 => ⟨p, xs, f, rfl, ex_l (e.trans e2) hp, hz, fun x hx H3 e3 Q2 q2 => he x hx H3 (e.trans (e2.trans e3)) H3 (Ex.refl H3) Q2 q2, fun D H3 hD e3 h3 => q D H3 (fresh_back e2 hD) (e2.trans e3) h3⟩
def intB : V → V
  | .bl b => .int (if b then 1 else 0)
  | _ => .non
theorem ok_L_word {P : Program} {w : World} {K : PySem.W.Frag} {mg : Str → Option Value} {base : Heap} (T : Txt K mg) : ∃ fd, FnE P w K mg base 1 (He.ga K "_law_word") fd "_law_e" ∧ Binds K fd ["_law_e"] [] ∧ FunD K "_law_word" "_law_word" (defArgs s_L_word) (defBody s_L_word) (defScope s_L_word) [] [] (He.ga K "_law_word") fd := by
  obtain ⟨fd, F⟩ := f_L_word T
  have KS := excK_ok T.ex
  refine ⟨fd, FnE.of F sc_L_word (fun cdv A outer s H p i Q hi hz hot hr h => ?_), FunD.bindsN F fun _ _ _ _ _ _ us hl => match us, hl with | [_], _ => rfl, F⟩
  · have hot1 : L2H.Hot1 (A.deeper (envOfC "_law_word" (defScope s_L_word) s.heap.objs.size (He.ga K "_law_word") cdv)) p := ⟨hot.1, hot.2⟩
    refine ⟨_, (pss_cons (ps_set (i := 1) sc_L_word.nd rfl (Or.inl rfl) (pe_lst (pa_cons (pe_callB (call_isH (a := p.1) (oe := p.2) (List.mem_singleton.mpr rfl) (KS.c i hi) hz (hot.2.imp fun _ h => h.1)) rfl (b_isinstance T) (by decide +kernel) (pa_cons (pv 0) (pa_cons (pe_glob (v := .ref (He.ga K "NoName")) rfl (g_NoName T) rfl) pa_nil))) (pa_cons (pe_callB (call_isH (a := p.1) (oe := p.2) (List.mem_singleton.mpr rfl) (KS.c i hi) hz (hot.2.imp fun _ h => h.1)) rfl (b_isinstance T) (by decide +kernel) (pa_cons (pv 0) (pa_cons (pe_glob (v := .ref (He.ga K "NoRank")) rfl (g_NoRank T) rfl) pa_nil))) (pa_cons (pe_callB (call_isH (a := p.1) (oe := p.2) (List.mem_singleton.mpr rfl) (KS.c i hi) hz (hot.2.imp fun _ h => h.1)) rfl (b_isinstance T) (by decide +kernel) (pa_cons (pv 0) (pa_cons (pe_glob (v := .ref (He.ga K "NoSpan")) rfl (g_NoSpan T) rfl) pa_nil))) (pa_cons (pe_callB (call_isH (a := p.1) (oe := p.2) (List.mem_singleton.mpr rfl) (KS.c i hi) hz (hot.2.imp fun _ h => h.1)) rfl (b_isinstance T) (by decide +kernel) (pa_cons (pv 0) (pa_cons (pe_glob (v := .ref (He.ga K "NoDesk")) rfl (g_NoDesk T) rfl) pa_nil))) pa_nil))))))
        (pss_cons (ps_set (i := 1) sc_L_word.nd rfl (Or.inl rfl) (pe_op op_cat (pv 1) (pe_lst (pa_cons (pe_callB (call_isH (a := p.1) (oe := p.2) (List.mem_singleton.mpr rfl) (KS.c i hi) hz (hot.2.imp fun _ h => h.1)) rfl (b_isinstance T) (by decide +kernel) (pa_cons (pv 0) (pa_cons (pe_glob (v := .ref (He.ga K "Known")) rfl (g_Known T) rfl) pa_nil))) (pa_cons (pe_callB (call_isH (a := p.1) (oe := p.2) (List.mem_singleton.mpr rfl) (KS.c i hi) hz (hot.2.imp fun _ h => h.1)) rfl (b_isinstance T) (by decide +kernel) (pa_cons (pv 0) (pa_cons (pe_glob (v := .ref (He.ga K "Unknown")) rfl (g_Unknown T) rfl) pa_nil))) (pa_cons (pe_callB (call_isH (a := p.1) (oe := p.2) (List.mem_singleton.mpr rfl) (KS.c i hi) hz (hot.2.imp fun _ h => h.1)) rfl (b_isinstance T) (by decide +kernel) (pa_cons (pv 0) (pa_cons (pe_glob (v := .ref (He.ga K "Full")) rfl (g_Full T) rfl) pa_nil))) (pa_cons (pe_callB (call_isH (a := p.1) (oe := p.2) (List.mem_singleton.mpr rfl) (KS.c i hi) hz (hot.2.imp fun _ h => h.1)) rfl (b_isinstance T) (by decide +kernel) (pa_cons (pv 0) (pa_cons (pe_glob (v := .ref (He.ga K "NotReady")) rfl (g_NotReady T) rfl) pa_nil))) pa_nil)))))))
        (pss_cons (ps_set (i := 1) sc_L_word.nd rfl (Or.inl rfl) (pe_op op_cat (pv 1) (pe_lst (pa_cons (pe_callB (call_isH (a := p.1) (oe := p.2) (List.mem_singleton.mpr rfl) (KS.c i hi) hz (hot.2.imp fun _ h => h.1)) rfl (b_isinstance T) (by decide +kernel) (pa_cons (pv 0) (pa_cons (pe_glob (v := .ref (He.ga K "IsReady")) rfl (g_IsReady T) rfl) pa_nil))) pa_nil))))
        (pss_cons (ps_if (PW.pt (pw_or (pt_not (pt_val (pe_callB (call_isH (a := p.1) (oe := p.2) (List.mem_singleton.mpr rfl) (KS.c i hi) hz (hot.2.imp fun _ h => h.1)) rfl (b_isinstance T) (by decide +kernel) (pa_cons (pv 0) (pa_cons (pe_bltn (v := .ty "ValueError") rfl (b_ValueError T) (by decide +kernel) rfl) pa_nil))))) (pw_or1 (pt_cmpR op_ne (pe_callB (cr_sumH ⟨p, hot1, List.mem_singleton.mpr rfl⟩) rfl (b_sum T) (by decide +kernel) (pa_cons (pe_lcH (x := "_law_one") (j := 2) ⟨p, hot1, List.mem_singleton.mpr rfl⟩ sc_L_word.nd (pv 1) (blkOk_by (own := [("_law_one", 2)]) (N := ["_law_e", "_law_found", "_law_one"]) (sc := defScope s_L_word) (by decide +kernel)) (fun _ _ _ _ _ => pg_name (i := 2) sc_L_word.nd rfl (Or.inl rfl)) (fun _ _ _ _ _ => (pe_callTy call_int1 rfl (b_int T) (by decide +kernel) (pa_cons (pv 2) pa_nil)))) pa_nil)) pe_int (nomark _))))) (pss_one (ps_ret pe_str))
        pss_nil)
        (pss_one (ps_ret (pe_ix (ix_listK (K := K) rfl) (pe_lst (pa_cons pe_str (pa_cons pe_str (pa_cons pe_str (pa_cons pe_str (pa_cons pe_str (pa_cons pe_str (pa_cons pe_str (pa_cons pe_str (pa_cons pe_str pa_nil)))))))))) (pe_bmK (K := K) rfl PySem.F.plainAttrs_list PySem.F.slot_list_index PySem.F.type_list_index (mt_indexK (K := K) rfl) (pv 1) (pa_cons pe_bl pa_nil)) (fun _ _ => rfl)))))))), ?_⟩
    refine q_asgL (xs := [.bl (decide (0 = i)), .bl (decide (1 = i)), .bl (decide (2 = i)), .bl (decide (3 = i))]) (el_lst (ea_cons (ev_isE KS hi 0 (by decide) rfl) (ea_cons (ev_isE KS hi 1 (by decide) rfl) (ea_cons (ev_isE KS hi 2 (by decide) rfl) (ea_cons (ev_isE KS hi 3 (by decide) rfl) ea_nil)))) (by show 4 ≤ 100000; decide)) fun f1 H1 n1 e1 h1 => ?_
    refine q_asgL (el_catV (xs := [.bl (decide (0 = i)), .bl (decide (1 = i)), .bl (decide (2 = i)), .bl (decide (3 = i))]) (ys := [.bl (decide (4 = i)), .bl (decide (5 = i)), .bl (decide (6 = i)), .bl (decide (7 = i))]) (ev_var rfl) h1 (el_lst (ea_cons (ev_isE KS hi 4 (by decide) rfl) (ea_cons (ev_isE KS hi 5 (by decide) rfl) (ea_cons (ev_isE KS hi 6 (by decide) rfl) (ea_cons (ev_isE KS hi 7 (by decide) rfl) ea_nil)))) (by show 4 ≤ 100000; decide)) (by show 8 ≤ 100000; decide)) fun f2 H2 n2 e2 h2 => ?_
    refine q_asgL (el_catV (ys := [.bl (decide (8 = i))]) (ev_var rfl) h2 (el_lst (ea_cons (ev_isE KS hi 8 (by decide) rfl) ea_nil) (by show 1 ≤ 100000; decide)) (by show 9 ≤ 100000; decide)) fun f3 H3 n3 e3 h3 => ?_
    have hB : H3 f3 = some (.lst ((List.range 9).map fun j => V.bl (decide (j = i)))) := h3
    clear h1 h2 h3
    have hsum : (((List.range 9).map fun j => V.bl (decide (j = i))).map intB) = ((List.range 9).map fun j => if decide (j = i) = true then (1 : Int) else 0).map V.int := by
      rw [List.map_map, List.map_map]
      rfl
    have hone : ((List.range 9).map fun j => if decide (j = i) = true then (1 : Int) else 0).sum = 1 := by
      have : ∀ i, i < 9 → ((List.range 9).map fun j => if decide (j = i) = true then (1 : Int) else 0).sum = 1 := by decide
      exact this i hi
    refine q_when (b := false) ?h4 (fun h => by cases h) fun _ H4 e4 => ?_
    case h4 =>
      refine et_is (et_or (a := false) (b := false) (et_is (et_not (et_B (ev_isV KS hi rfl))) rfl) fun _ => et_is (et_test (ev_op (ev_cbL (xs := ((List.range 9).map fun j => if decide (j = i) = true then (1 : Int) else 0).map V.int) ?hl fun q H5 hq => rc_sum (sq_of hq)) ev_c (rv_ne rfl))) ?hs) rfl
      case hl =>
        rw [← hsum]
        refine el_lcH intB (ev_var rfl) (sq_of hB) (by rw [List.length_map, List.length_range]; decide) fun x hx H5 e5 => ?_
        obtain ⟨j, _, rfl⟩ := List.mem_map.mp hx
        exact ev_cb (ea_cons (ev_var rfl) ea_nil) rc_int_bl
      case hs =>
        rw [hone]
        rfl
    have hw : atI (excWords.map V.str) (i : Int) = some (.str (excWords.getD i "")) := by
      refine at_of rfl ?_
      rw [List.getElem?_map, List.getElem?_eq_getElem (show i < excWords.length from hi), List.getD_eq_getElem?_getD, List.getElem?_eq_getElem (show i < excWords.length from hi)]
      rfl
    refine s_ret (v := .str (excWords.getD i "")) ?h5 fun H6 e6 => h H6 (((e1.trans e2).trans e3).trans (e4.trans e6))
    refine ev_opL1 (xs := excWords.map V.str) (el_lst (ea_cons ev_c (ea_cons ev_c (ea_cons ev_c (ea_cons ev_c (ea_cons ev_c (ea_cons ev_c (ea_cons ev_c (ea_cons ev_c (ea_cons ev_c ea_nil))))))))) (by show 9 ≤ 100000; decide)) (fun H6 e6 => ?_) (fun q H6 hq e => rv_ixL (sq_of hq) hw)
    intro H7 e7 Q' q'
    have hB7 := (e4.trans (e6.trans e7)) _ _ hB
    refine ⟨_, rfl, .inl ⟨rfl, _, SqL.of hB7⟩, f3, _, .bl true, i, .bl true, rfl, rfl, SqL.of hB7, rfl, ?_, ?_, rfl, fun m z hm hz => ?_, q' H7 (Ex.refl H7)⟩
    · rw [List.all_map]
      exact List.all_eq_true.mpr fun _ _ => rfl
    · rw [List.getElem?_map, List.getElem?_range hi]
      show some (V.bl (decide (i = i))) = _
      rw [decide_eq_true rfl]
    · rw [List.getElem?_map, List.getElem?_range (by omega)] at hz
      cases hz
      show eqV (V.bl (decide (m = i))) (V.bl true) = false
      rw [decide_eq_false (by omega)]
      rfl
/-! ### L_unknown -/
theorem sc_L_unknown : FnScope ["_law_desk", "_law_name", "_law_way", "_law_e"] ["_law_desk", "_law_name", "_law_way"] (defScope s_L_unknown) := ⟨rfl, rfl, rfl, by decide +kernel, rfl, by decide +kernel, by decide +kernel⟩
def sp_L_unknown (K : PySem.W.Frag) : Sp := fun vs H Q _ => ∃ (F : Hp) (p : Addr) (d : Dk) (nm : Str) (w : Int), vs = [.ref p, .str nm, .int w] ∧ DeskAt K F H p d ∧ d.Wf ∧ d.get nm = none ∧ RetV (.bl true) H Q
theorem cv_unknown {K : PySem.W.Frag} {F H : Hp} {p : Addr} {d : Dk} {nm : Str} {w : Int} (D : DeskAt K F H p d) (W : d.Wf) (h : d.get nm = none) : SpV (sp_L_unknown K) ([.ref p, .str nm, .int w] ++ []) H (.bl true) := spv_call fun _ e _ _ k => ⟨F, p, d, nm, w, rfl, D.ex e, W, h, k⟩
theorem ok_L_unknown {P : Program} {w : World} {K : PySem.W.Frag} {mg : Str → Option Value} {base : Heap} (T : Txt K mg) : ∃ fd, FnOk P w K mg base (CX0) 3 (He.ga K "_law_unknown") fd ["_law_desk", "_law_name", "_law_way"] (sp_L_unknown K) ∧ Binds K fd ["_law_desk", "_law_name", "_law_way"] [] ∧ FunD K "_law_unknown" "_law_unknown" (defArgs s_L_unknown) (defBody s_L_unknown) (defScope s_L_unknown) [] [] (He.ga K "_law_unknown") fd := by
  obtain ⟨fd, F⟩ := f_L_unknown T
  obtain ⟨d_desk_sleep, G_desk_sleep, b_desk_sleep, _⟩ := ok_desk_sleep (P := P) (w := w) (base := base) T
  obtain ⟨d_desk_wait, G_desk_wait, b_desk_wait, _⟩ := ok_desk_wait (P := P) (w := w) (base := base) T
  obtain ⟨d_desk_wake, G_desk_wake, b_desk_wake, _⟩ := ok_desk_wake (P := P) (w := w) (base := base) T
  obtain ⟨d_desk_rerank, G_desk_rerank, b_desk_rerank, _⟩ := ok_desk_rerank (P := P) (w := w) (base := base) T
  obtain ⟨d_desk_state, G_desk_state, b_desk_state, _⟩ := ok_desk_state (P := P) (w := w) (base := base) T
  obtain ⟨d_desk_rank, G_desk_rank, b_desk_rank, _⟩ := ok_desk_rank (P := P) (w := w) (base := base) T
  obtain ⟨d_desk_waited, G_desk_waited, b_desk_waited, _⟩ := ok_desk_waited (P := P) (w := w) (base := base) T
  obtain ⟨d_desk_within, G_desk_within, b_desk_within, _⟩ := ok_desk_within (P := P) (w := w) (base := base) T
  obtain ⟨d_desk_left, G_desk_left, b_desk_left, _⟩ := ok_desk_left (P := P) (w := w) (base := base) T
  obtain ⟨d_desk_bell, G_desk_bell, b_desk_bell, _⟩ := ok_desk_bell (P := P) (w := w) (base := base) T
  obtain ⟨d_desk_leave, G_desk_leave, b_desk_leave, _⟩ := ok_desk_leave (P := P) (w := w) (base := base) T
  obtain ⟨d_L_word, G_L_word, b_L_word, _⟩ := ok_L_word (P := P) (w := w) (base := base) T
  refine ⟨fd, ok0 F sc_L_unknown (fun vs H Q E h => ?_) (fun cdv A outer s H vs Q E hr h => ?_), FunD.bindsN F fun _ _ _ _ _ _ us hl => match us, hl with | [_, _, _], _ => rfl, F⟩
  · (repeat (obtain ⟨_, h⟩ := h)); subst_vars; rfl
  · obtain ⟨F, p, d, nm, w, rfl, D, W, hn, k⟩ := h
    refine ⟨_, (pss_cut (L2N.ps_try_as (i := 3) rfl rfl sc_L_unknown.nd rfl rfl ⟨rfl, by decide, .inl (g_Unknown T)⟩ takes0N (fun W pn xe tk _ => (pss_one (ps_if (pt_cmpR op_eq (pv 2) pe_int (nomark _)) (pss_one (ps_expr (pe_methS (pv 0) (c_Desk T) (m_desk_sleep T) G_desk_sleep (hr.mono (by decide)) b_desk_sleep (fun σ => L2N.passAt tk σ) (pa_cons (pv 1) (pa_cons pe_int pa_nil)))))
        (pss_one (ps_if (pt_cmpR op_eq (pv 2) pe_int (nomark _)) (pss_one (ps_expr (pe_methS (pv 0) (c_Desk T) (m_desk_wait T) G_desk_wait (hr.mono (by decide)) b_desk_wait (fun σ => L2N.passAt tk σ) (pa_cons (pv 1) (pa_cons pe_str pa_nil)))))
        (pss_one (ps_if (pt_cmpR op_eq (pv 2) pe_int (nomark _)) (pss_one (ps_expr (pe_methS (pv 0) (c_Desk T) (m_desk_wake T) G_desk_wake (hr.mono (by decide)) b_desk_wake (fun σ => L2N.passAt tk σ) (pa_cons (pv 1) pa_nil))))
        (pss_one (ps_if (pt_cmpR op_eq (pv 2) pe_int (nomark _)) (pss_one (ps_expr (pe_methS (pv 0) (c_Desk T) (m_desk_rerank T) G_desk_rerank (hr.mono (by decide)) b_desk_rerank (fun σ => L2N.passAt tk σ) (pa_cons (pv 1) (pa_cons pe_int pa_nil)))))
        (pss_one (ps_if (pt_cmpR op_eq (pv 2) pe_int (nomark _)) (pss_one (ps_expr (pe_methS (pv 0) (c_Desk T) (m_desk_state T) G_desk_state (hr.mono (by decide)) b_desk_state (fun σ => L2N.passAt tk σ) (pa_cons (pv 1) pa_nil))))
        (pss_one (ps_if (pt_cmpR op_eq (pv 2) pe_int (nomark _)) (pss_one (ps_expr (pe_methS (pv 0) (c_Desk T) (m_desk_rank T) G_desk_rank (hr.mono (by decide)) b_desk_rank (fun σ => L2N.passAt tk σ) (pa_cons (pv 1) pa_nil))))
        (pss_one (ps_if (pt_cmpR op_eq (pv 2) pe_int (nomark _)) (pss_one (ps_expr (pe_methS (pv 0) (c_Desk T) (m_desk_waited T) G_desk_waited (hr.mono (by decide)) b_desk_waited (fun σ => L2N.passAt tk σ) (pa_cons (pv 1) pa_nil))))
        (pss_one (ps_if (pt_cmpR op_eq (pv 2) pe_int (nomark _)) (pss_one (ps_expr (pe_methS (pv 0) (c_Desk T) (m_desk_within T) G_desk_within (hr.mono (by decide)) b_desk_within (fun σ => L2N.passAt tk σ) (pa_cons (pv 1) pa_nil))))
        (pss_one (ps_if (pt_cmpR op_eq (pv 2) pe_int (nomark _)) (pss_one (ps_expr (pe_methS (pv 0) (c_Desk T) (m_desk_left T) G_desk_left (hr.mono (by decide)) b_desk_left (fun σ => L2N.passAt tk σ) (pa_cons (pv 1) pa_nil))))
        (pss_one (ps_if (pt_cmpR op_eq (pv 2) pe_int (nomark _)) (pss_one (ps_expr (pe_methS (pv 0) (c_Desk T) (m_desk_bell T) G_desk_bell (hr.mono (by decide)) b_desk_bell (fun σ => L2N.passAt tk σ) (pa_cons (pv 1) pa_nil))))
        (pss_one (ps_expr (pe_methS (pv 0) (c_Desk T) (m_desk_leave T) G_desk_leave (hr.mono (by decide)) b_desk_leave (fun σ => L2N.passAt tk σ) (pa_cons (pv 1) pa_nil)))))))))))))))))))))))))
        (fun a oe cls d pn hz hf => (pss_one (ps_ret (pe_cmpR op_eq (pe_word G_L_word (hr.mono (by decide)) rfl (g_L_word T) (kp_L_word T) b_L_word hz hf (pv 3)) pe_str (nomark _))))))
        (pss_one (ps_ret pe_bl))), ?_⟩
    obtain ⟨l, ps, DD, ff⟩ := id D
    obtain ⟨dx, hp⟩ := DD.ob
    have hx : PySem.W.exmOne K (.ref (He.ga K "Unknown")) (.ref (He.ga K "Unknown")) = some true := (ks_x (excK_ok T.ex) (by decide +kernel) (by decide +kernel)).trans (by decide +kernel)
    have hw : ∀ {σ : L2.St} {H : Hp} {a : Addr}, σ[3]? = some (some (.ref a)) → Ev (tOp rEq (tWord K a (.ref (He.ga K "Unknown")) none 3) (tC (.str "unknown"))) σ H (.bl true) := fun h => ev_is (ev_op (ev_word h (by decide +kernel)) ev_c (rv_eq rfl)) (by decide +kernel)
    have e1 : sleepErr d nm 0 = some ("Unknown" : Str) := by unfold sleepErr; rw [hn]
    have e2 : waitErr d nm "" = some ("Unknown" : Str) := by unfold waitErr; rw [hn]
    have e3 : wakeErr d nm = some ("Unknown" : Str) := by unfold wakeErr; rw [hn]
    have e4 : rerankErr d nm 100 = some ("Unknown" : Str) := by unfold rerankErr; rw [hn]
    have e5 : waitedErr d nm = some ("Unknown" : Str) := by unfold waitedErr; rw [hn]
    refine q_cut (M := fun _ _ => False) ?_ (fun _ _ h => h.elim)
    refine s_if (b := decide (w = 0)) (et_is (et_test (ev_op (ev_var rfl) ev_c (rv_eq rfl))) (decI _ _)) (fun hb K0 x0 => ?_) (fun hb K0 x0 => ?_)
    · have z := x0
      refine ⟨_, rfl, p, dx, _, rfl, z _ _ hp, rfl, ?_⟩
      refine ⟨_, rfl, ?_⟩
      exact ⟨F, p, d, nm, 0, rfl, D.ex z, W, fun e he H2 y2 => (by rw [e1] at he; cases he; exact ⟨true, hx, fun _ a ha => s_ret (hw rfl) fun H3 y3 => k H3 (z.trans (y2.trans y3)), fun h => by cases h⟩), fun c he => by rw [e1] at he; cases he⟩
    have z0 := x0
    refine s_if (b := decide (w = 1)) (et_is (et_test (ev_op (ev_var rfl) ev_c (rv_eq rfl))) (decI _ _)) (fun hb K1 x1 => ?_) (fun hb K1 x1 => ?_)
    · have z := z0.trans x1
      refine ⟨_, rfl, p, dx, _, rfl, z _ _ hp, rfl, ?_⟩
      refine ⟨_, rfl, ?_⟩
      exact ⟨F, p, d, nm, "", rfl, D.ex z, W, by decide +kernel, fun e he H2 y2 => (by rw [e2] at he; cases he; exact ⟨true, hx, fun _ a ha => s_ret (hw rfl) fun H3 y3 => k H3 (z.trans (y2.trans y3)), fun h => by cases h⟩), fun c he => by rw [e2] at he; cases he⟩
    have z1 := z0.trans x1
    refine s_if (b := decide (w = 2)) (et_is (et_test (ev_op (ev_var rfl) ev_c (rv_eq rfl))) (decI _ _)) (fun hb K2 x2 => ?_) (fun hb K2 x2 => ?_)
    · have z := z1.trans x2
      refine ⟨_, rfl, p, dx, _, rfl, z _ _ hp, rfl, ?_⟩
      refine ⟨_, rfl, ?_⟩
      exact ⟨F, p, d, nm, rfl, D.ex z, W, fun e he H2 y2 => (by rw [e3] at he; cases he; exact ⟨true, hx, fun _ a ha => s_ret (hw rfl) fun H3 y3 => k H3 (z.trans (y2.trans y3)), fun h => by cases h⟩), fun c he => by rw [e3] at he; cases he⟩
    have z2 := z1.trans x2
    refine s_if (b := decide (w = 3)) (et_is (et_test (ev_op (ev_var rfl) ev_c (rv_eq rfl))) (decI _ _)) (fun hb K3 x3 => ?_) (fun hb K3 x3 => ?_)
    · have z := z2.trans x3
      refine ⟨_, rfl, p, dx, _, rfl, z _ _ hp, rfl, ?_⟩
      refine ⟨_, rfl, ?_⟩
      exact ⟨F, p, d, nm, 100, rfl, D.ex z, W, fun e he H2 y2 => (by rw [e4] at he; cases he; exact ⟨true, hx, fun _ a ha => s_ret (hw rfl) fun H3 y3 => k H3 (z.trans (y2.trans y3)), fun h => by cases h⟩), fun he => by rw [e4] at he; cases he⟩
    have z3 := z2.trans x3
    refine s_if (b := decide (w = 4)) (et_is (et_test (ev_op (ev_var rfl) ev_c (rv_eq rfl))) (decI _ _)) (fun hb K4 x4 => ?_) (fun hb K4 x4 => ?_)
    · have z := z3.trans x4
      refine ⟨_, rfl, p, dx, _, rfl, z _ _ hp, rfl, ?_⟩
      refine ⟨_, rfl, ?_⟩
      exact ⟨p, d, l, ps, nm, rfl, DD.ex z, W, fun _ H2 y2 => ⟨true, hx, fun _ a ha => s_ret (hw rfl) fun H3 y3 => k H3 (z.trans (y2.trans y3)), fun h => by cases h⟩, fun c hc => by rw [hn] at hc; cases hc⟩
    have z4 := z3.trans x4
    refine s_if (b := decide (w = 5)) (et_is (et_test (ev_op (ev_var rfl) ev_c (rv_eq rfl))) (decI _ _)) (fun hb K5 x5 => ?_) (fun hb K5 x5 => ?_)
    · have z := z4.trans x5
      refine ⟨_, rfl, p, dx, _, rfl, z _ _ hp, rfl, ?_⟩
      refine ⟨_, rfl, ?_⟩
      exact ⟨p, d, l, ps, nm, rfl, DD.ex z, W, fun _ H2 y2 => ⟨true, hx, fun _ a ha => s_ret (hw rfl) fun H3 y3 => k H3 (z.trans (y2.trans y3)), fun h => by cases h⟩, fun c hc => by rw [hn] at hc; cases hc⟩
    have z5 := z4.trans x5
    refine s_if (b := decide (w = 6)) (et_is (et_test (ev_op (ev_var rfl) ev_c (rv_eq rfl))) (decI _ _)) (fun hb K6 x6 => ?_) (fun hb K6 x6 => ?_)
    · have z := z5.trans x6
      refine ⟨_, rfl, p, dx, _, rfl, z _ _ hp, rfl, ?_⟩
      refine ⟨_, rfl, ?_⟩
      exact ⟨p, d, l, ps, nm, rfl, DD.ex z, W, fun e he H2 y2 => (by rw [e5] at he; cases he; exact ⟨true, hx, fun _ a ha => s_ret (hw rfl) fun H3 y3 => k H3 (z.trans (y2.trans y3)), fun h => by cases h⟩), fun c hc => by rw [hn] at hc; cases hc⟩
    have z6 := z5.trans x6
    refine s_if (b := decide (w = 7)) (et_is (et_test (ev_op (ev_var rfl) ev_c (rv_eq rfl))) (decI _ _)) (fun hb K7 x7 => ?_) (fun hb K7 x7 => ?_)
    · have z := z6.trans x7
      refine ⟨_, rfl, p, dx, _, rfl, z _ _ hp, rfl, ?_⟩
      refine ⟨_, rfl, ?_⟩
      exact ⟨p, d, l, ps, nm, rfl, DD.ex z, W, fun e he H2 y2 => (by rw [e5] at he; cases he; exact ⟨true, hx, fun _ a ha => s_ret (hw rfl) fun H3 y3 => k H3 (z.trans (y2.trans y3)), fun h => by cases h⟩), fun c hc => by rw [hn] at hc; cases hc⟩
    have z7 := z6.trans x7
    refine s_if (b := decide (w = 8)) (et_is (et_test (ev_op (ev_var rfl) ev_c (rv_eq rfl))) (decI _ _)) (fun hb K8 x8 => ?_) (fun hb K8 x8 => ?_)
    · have z := z7.trans x8
      refine ⟨_, rfl, p, dx, _, rfl, z _ _ hp, rfl, ?_⟩
      refine ⟨_, rfl, ?_⟩
      exact ⟨p, d, l, ps, nm, rfl, DD.ex z, W, fun _ H2 y2 => ⟨true, hx, fun _ a ha => s_ret (hw rfl) fun H3 y3 => k H3 (z.trans (y2.trans y3)), fun h => by cases h⟩, fun c hc => by rw [hn] at hc; cases hc⟩
    have z8 := z7.trans x8
    refine s_if (b := decide (w = 9)) (et_is (et_test (ev_op (ev_var rfl) ev_c (rv_eq rfl))) (decI _ _)) (fun hb K9 x9 => ?_) (fun hb K9 x9 => ?_)
    · have z := z8.trans x9
      refine ⟨_, rfl, p, dx, _, rfl, z _ _ hp, rfl, ?_⟩
      refine ⟨_, rfl, ?_⟩
      exact ⟨p, d, l, ps, nm, rfl, DD.ex z, W, fun _ H2 y2 => ⟨true, hx, fun _ a ha => s_ret (hw rfl) fun H3 y3 => k H3 (z.trans (y2.trans y3)), fun h => by cases h⟩, fun c hc => by rw [hn] at hc; cases hc⟩
    have z9 := z8.trans x9
    refine ⟨_, rfl, p, dx, _, rfl, z9 _ _ hp, rfl, ?_⟩
    refine ⟨_, rfl, ?_⟩
    exact ⟨F, p, d, nm, rfl, D.ex z9, W, fun _ H2 y2 => ⟨true, hx, fun _ a ha => s_ret (hw rfl) fun H3 y3 => k H3 (z9.trans (y2.trans y3)), fun h => by cases h⟩, fun c hc => by rw [hn] at hc; cases hc⟩
/-! ### L_due -/
theorem sc_L_due : FnScope ["_law_line", "_law_room", "_law_name", "_law_rank", "_law_good", "_law_one"] ["_law_line", "_law_room", "_law_name", "_law_rank", "_law_good"] (defScope s_L_due) := ⟨rfl, rfl, rfl, by decide +kernel, rfl, by decide +kernel, by decide +kernel⟩
def sp_L_due (_ : PySem.W.Frag) : Sp := fun vs H Q _ => ∃ (l : Addr) (qs : List Rk) (ro : Int) (nm : Str) (rk : Int) (g : Bool), vs = [.ref l, .int ro, .str nm, .int rk, .bl g] ∧ LpAt H l qs ∧ qs.length ≤ 1000 ∧ RetV (.str (dueW qs ro nm rk g)) H Q
theorem cv_due {K : PySem.W.Frag} {H : Hp} {l : Addr} {qs : List Rk} {ro rk : Int} {nm : Str} {g : Bool} (h : LpAt H l qs) (hz : qs.length ≤ 1000) : SpV (sp_L_due K) ([.ref l, .int ro, .str nm, .int rk, .bl g] ++ []) H (.str (dueW qs ro nm rk g)) := spv_call fun _ e _ _ k => ⟨l, qs, ro, nm, rk, g, rfl, h.ex e, hz, k⟩
theorem ok_L_due {P : Program} {w : World} {K : PySem.W.Frag} {mg : Str → Option Value} {base : Heap} (T : Txt K mg) : ∃ fd, FnOk P w K mg base (CX0) 1 (He.ga K "_law_due") fd ["_law_line", "_law_room", "_law_name", "_law_rank", "_law_good"] (sp_L_due K) ∧ Binds K fd ["_law_line", "_law_room", "_law_name", "_law_rank", "_law_good"] [] ∧ FunD K "_law_due" "_law_due" (defArgs s_L_due) (defBody s_L_due) (defScope s_L_due) [] [] (He.ga K "_law_due") fd := by
  obtain ⟨fd, F⟩ := f_L_due T
  refine ⟨fd, ok0 F sc_L_due (fun vs H Q E h => ?_) (fun cdv A outer s H vs Q E hr h => ?_), FunD.bindsN F fun _ _ _ _ _ _ us hl => match us, hl with | [_, _, _, _, _], _ => rfl, F⟩
  · (repeat (obtain ⟨_, h⟩ := h)); subst_vars; rfl
  · obtain ⟨l, qs, ro, nm, rk, g, rfl, hl, hz, k⟩ := h
    refine ⟨_, (pss_cons (ps_if (pt_not (pt_val (pv 4))) (pss_one (ps_ret pe_str))
        pss_nil)
        (pss_cons (ps_if (PW.pt (pw_or (pt_cmpR op_lt (pv 3) pe_int (nomark _)) (pw_or1 (pt_cmpR op_gt (pv 3) pe_int (nomark _))))) (pss_one (ps_ret pe_str))
        pss_nil)
        (pss_cons (ps_if (pt_cmpR (op_inK (K := K) rfl) (pv 2) (pe_lc (own := [("_law_one", 5)]) (g := gName 5) (tt := tYes) rfl sc_L_due.nd (pi_listK (K := K) rfl (pv 0)) (blkOk_by (own := [("_law_one", 5)]) (N := ["_law_line", "_law_room", "_law_name", "_law_rank", "_law_good", "_law_one"]) (sc := defScope s_L_due) (by decide +kernel)) (fun _ _ _ _ _ => (pg_name (i := 5) sc_L_due.nd rfl (Or.inl rfl))) (fun _ _ _ _ _ => pts_nil) (fun _ _ _ _ _ => (pe_ix (ix_tupK (K := K) rfl) (pv 5) pe_int (fun _ _ => rfl)))) (by with_unfolding_all rfl)) (pss_one (ps_ret pe_str))
        pss_nil)
        (pss_cons (ps_if (pt_cmpR op_ge (pe_callB (call_lenK (K := K) rfl) rfl (b_len T) (by decide +kernel) (pa_cons (pv 0) pa_nil)) (pv 1) (nomark _)) (pss_one (ps_ret pe_str))
        pss_nil)
        (pss_one (ps_ret pe_str)))))), ?_⟩
    unfold dueW at k
    refine q_when (b := !g) (et_not (et_B (ev_var rfl))) (fun hb H1 e1 => ?_) (fun hb H1 e1 => ?_)
    · rw [if_pos (by simpa using hb)] at k
      exact s_ret ev_c fun H2 e2 => k H2 (e1.trans e2)
    rw [if_neg (by simpa using hb)] at k
    refine' q_when ?h (fun hb H2 e2 => ?_) (fun hb H2 e2 => ?_)
    case h => tm_at "rr.ev"
    · rw [if_pos (by simpa using hb)] at k
      exact s_ret ev_c fun H3 e3 => k H3 ((e1.trans e2).trans e3)
    have n2 : ¬ (rk < 0 ∨ 99 < rk) := by simpa using hb
    rw [if_neg n2] at k
    have e12 := e1.trans e2
    refine q_when (b := decide (nm ∈ nmQ qs)) ?h2 (fun hb H3 e3 => ?_) (fun hb H3 e3 => ?_)
    case h2 =>
      rw [← inV_str]
      exact et_test (ev_opL (ev_var rfl) (el_nm (ev_var rfl) (hl.ex e12) hz (fun _ => rfl) (fun _ => rfl)) fun r H1 h e => rv_isL (sq_of h) rfl (all_str _))
    · rw [if_pos (of_decide_eq_true hb)] at k
      exact s_ret ev_c fun H4 e4 => k H4 (e12.trans (e3.trans e4))
    rw [if_neg (of_decide_eq_false hb)] at k
    have e13 := e12.trans e3
    have hll : ((qs.map fun q => V.ref q.1).length : Int) = (qs.length : Int) := by rw [List.length_map]
    refine q_when (b := decide (ro ≤ (qs.length : Int))) ?h3 (fun hb H4 e4 => ?_) (fun hb H4 e4 => ?_)
    case h3 =>
      rw [← hll]
      exact et_test (ev_op (ev_cb (ea_cons (ev_var rfl) ea_nil) (rc_lenS (sq_of (hl.ex e13).1))) (ev_var rfl) rv_I0)
    · rw [if_pos (of_decide_eq_true hb)] at k
      exact s_ret ev_c fun H5 e5 => k H5 (e13.trans (e4.trans e5))
    · rw [if_neg (of_decide_eq_false hb)] at k
      exact s_ret ev_c fun H5 e5 => k H5 (e13.trans (e4.trans e5))
/-! ### L_enters -/
theorem sc_L_enters : FnScope ["_law_desk", "_law_name", "_law_rank", "_law_e"] ["_law_desk", "_law_name", "_law_rank"] (defScope s_L_enters) := ⟨rfl, rfl, rfl, by decide +kernel, rfl, by decide +kernel, by decide +kernel⟩
def sp_L_enters (K : PySem.W.Frag) : Sp := fun vs H Q _ => ∃ (F : Hp) (p : Addr) (d : Dk) (nm : Str) (rk : Int), vs = [.ref p, .str nm, .int rk] ∧ DeskAt K F H p d ∧ d.Wf ∧ nm.length ≤ 100000 ∧
  (∀ e, enterErr d nm rk = some e → RetV (.str (wordOf e)) H Q) ∧ (∀ H', enterErr d nm rk = none → DeskAt K F H' p (d.enter nm rk) → Q (.str "") H')
theorem ms_enters_e {K : PySem.W.Frag} {F H : Hp} {p : Addr} {d : Dk} {nm e : Str} {rk : Int} (D : DeskAt K F H p d) (W : d.Wf) (hz : nm.length ≤ 100000) (h : enterErr d nm rk = some e) : MvS (sp_L_enters K) [.ref p, .str nm, .int rk] H (.str (wordOf e)) fun H' => DeskAt K F H' p d := fun Q _ q =>
  ⟨F, p, d, nm, rk, rfl, D, W, hz, fun e' h' => (by rw [h] at h'; cases h'; exact fun H' x => q H' (D.ex x)), fun H' h' => by rw [h] at h'; cases h'⟩
theorem ms_enters {K : PySem.W.Frag} {F H : Hp} {p : Addr} {d : Dk} {nm : Str} {rk : Int} (D : DeskAt K F H p d) (W : d.Wf) (hz : nm.length ≤ 100000) (h : enterErr d nm rk = none) : MvS (sp_L_enters K) [.ref p, .str nm, .int rk] H (.str "") fun H' => DeskAt K F H' p (d.enter nm rk) := fun Q _ q =>
  ⟨F, p, d, nm, rk, rfl, D, W, hz, fun e' h' => (by rw [h] at h'; cases h'), fun H' h' x => q H' x⟩
theorem ok_L_enters {P : Program} {w : World} {K : PySem.W.Frag} {mg : Str → Option Value} {base : Heap} (T : Txt K mg) : ∃ fd, FnOk P w K mg base (CX0) 4 (He.ga K "_law_enters") fd ["_law_desk", "_law_name", "_law_rank"] (sp_L_enters K) ∧ Binds K fd ["_law_desk", "_law_name", "_law_rank"] [] ∧ FunD K "_law_enters" "_law_enters" (defArgs s_L_enters) (defBody s_L_enters) (defScope s_L_enters) [] [] (He.ga K "_law_enters") fd := by
  obtain ⟨fd, F⟩ := f_L_enters T
  obtain ⟨d_desk_enter, G_desk_enter, b_desk_enter, _⟩ := ok_desk_enter (P := P) (w := w) (base := base) T
  obtain ⟨d_L_word, G_L_word, b_L_word, _⟩ := ok_L_word (P := P) (w := w) (base := base) T
  refine ⟨fd, ok0 F sc_L_enters (fun vs H Q E h => ?_) (fun cdv A outer s H vs Q E hr h => ?_), FunD.bindsN F fun _ _ _ _ _ _ us hl => match us, hl with | [_, _, _], _ => rfl, F⟩
  · (repeat (obtain ⟨_, h⟩ := h)); subst_vars; rfl
  · obtain ⟨F, p, d, nm, rk, rfl, D, W, hz, kE, k⟩ := h
    refine ⟨_, (pss_cut (L2N.ps_try_as (i := 3) rfl rfl sc_L_enters.nd rfl rfl ⟨rfl, by decide, .inl (g_DeskError T)⟩ takes0N (fun W pn xe tk _ => (pss_one (ps_expr (pe_methS (pv 0) (c_Desk T) (m_desk_enter T) G_desk_enter (hr.mono (by decide)) b_desk_enter (fun σ => L2N.passAt tk σ) (pa_cons (pv 1) (pa_cons (pv 2) pa_nil))))))
        (fun a oe cls d pn hz hf => (pss_one (ps_ret (pe_word G_L_word (hr.mono (by decide)) rfl (g_L_word T) (kp_L_word T) b_L_word hz hf (pv 3))))))
        (pss_one (ps_ret pe_str))), ?_⟩
    obtain ⟨l, ps, DD, ff⟩ := id D
    obtain ⟨dx, hp⟩ := DD.ob
    refine q_cut (M := fun σ' H' => ∃ v, σ' = [some (.ref p), some (.str nm), some (.int rk), v] ∧ enterErr d nm rk = none ∧ DeskAt K F H' p (d.enter nm rk)) ?_ ?_
    · refine ⟨_, rfl, p, dx, _, rfl, hp, rfl, ?_⟩
      refine ⟨_, rfl, _, rfl, ?_⟩
      exact ⟨F, p, d, nm, rk, rfl, D, W, hz, fun e he H1 e1 => ⟨true, ks_d (excK_ok T.ex) (enterErr_in he), fun _ a ha => s_ret (ev_word rfl (enterErr_in he)) fun H2 e2 => kE e he H2 (e1.trans e2), fun h => by cases h⟩, fun he H1 D1 => ⟨_, rfl, he, D1⟩⟩
    · rintro σ' H' ⟨v, rfl, he, D1⟩
      exact s_ret ev_c fun H2 e2 => k H2 he (D1.ex e2)
/-! ### L_step -/
theorem sc_L_step : FnScope ["_law_desk", "_law_line", "_law_name", "_law_rank", "_law_way", "_law_due_here", "_law_one"] ["_law_desk", "_law_line", "_law_name", "_law_rank", "_law_way"] (defScope s_L_step) := ⟨rfl, rfl, rfl, by decide +kernel, rfl, by decide +kernel, by decide +kernel⟩
theorem ev_indexL {K : PySem.W.Frag} {σ : L2.St} {H : Hp} {ta te : TE} {nms : List Str} {k : Nat} {nm : Str} (nd : nms.Nodup) (hk : nms[k]? = some nm) (ho : EvL ta σ H (nms.map V.str)) (ha : ∀ {H1}, Ex H H1 → Ev te σ H1 (.str nm)) : Ev (tBM K "list" (rIndex K) ta (tCons te tNil)) σ H (.int (k : Int)) := fun H1 e Q q =>
  ho H1 e _ fun r H2 _ e2 hr => ⟨.inl ⟨rfl, _, SqL.of hr⟩, ha (e.trans e2) H2 (Ex.refl H2) _ fun H3 e3 => ⟨r, _, .str nm, k, .str nm, rfl, rfl, SqL.of (e3 _ _ hr), rfl, all_str nms, by rw [List.getElem?_map, hk]; rfl, by simp [eqV], fun m z hm hz => by
    rw [List.getElem?_map] at hz
    cases hx : nms[m]? with
    | none => rw [hx] at hz; cases hz
    | some y =>
      rw [hx] at hz
      cases hz
      have : y ≠ nm := fun e => by
        have := nd_ix nd (e ▸ hx) hk
        omega
      simp [eqV, this], q H3 (e2.trans e3)⟩⟩
theorem erase_filter {qs : List Rk} {k : Nat} {q : Rk} (nd : (nmQ qs).Nodup) (h : qs[k]? = some q) : qs.filter (fun o => !decide (o.2.1 = q.2.1)) = qs.eraseIdx k := by
  induction qs generalizing k with
  | nil => cases h
  | cons x qs ih =>
    unfold nmQ at nd
    rw [List.map_cons, List.nodup_cons] at nd
    cases k with
    | zero =>
      cases h
      rw [List.eraseIdx_cons_zero, List.filter_cons, if_neg (by simp)]
      refine List.filter_eq_self.mpr fun o ho => ?_
      have : o.2.1 ≠ q.2.1 := fun e => nd.1 (e ▸ List.mem_map.mpr ⟨o, ho, rfl⟩)
      simp [this]
    | succ k =>
      have h : qs[k]? = some q := h
      have hne : x.2.1 ≠ q.2.1 := fun e => nd.1 (e ▸ List.mem_map.mpr ⟨q, List.mem_of_getElem? h, rfl⟩)
      rw [List.eraseIdx_cons_succ, List.filter_cons, if_pos (by simp [hne]), ih nd.2 h]
theorem map_erase {α β : Type} (f : α → β) : ∀ (l : List α) (k : Nat), (l.map f).eraseIdx k = (l.eraseIdx k).map f
  | [], _ => rfl
  | _ :: _, 0 => rfl
  | x :: l, k + 1 => congrArg (f x :: ·) (map_erase f l k)
theorem dOf_leave {pa ro : Int} {qs : List Rk} {k : Nat} {q : Rk} (nd : (nmQ qs).Nodup) (h : qs[k]? = some q) : (dOf pa ro qs).leave q.2.1 = dOf pa ro (qs.eraseIdx k) := by
  unfold Dk.leave dOf
  congr 1
  show (qs.map _).filter _ = _
  rw [List.filter_map, ← erase_filter nd h]
  rfl
theorem dOf_sub {pa ro : Int} {qs qs' : List Rk} (ok : (dOf pa ro qs).Ok) (h : qs'.Sublist qs) : (dOf pa ro qs').Ok := by
  have hs : (dOf pa ro qs').line.Sublist (dOf pa ro qs).line := h.map _
  refine ⟨ok.p1, ok.p2, ok.r1, ok.r2, ok.n0, ?_, ok.nd.sublist (hs.map _), fun c hc => ok.cl c (hs.subset hc)⟩
  have h1 := hs.length_le
  have h2 := ok.len
  have h3 : (dOf pa ro qs').room = (dOf pa ro qs).room := rfl
  rw [h3]
  omega
theorem dOf_enter {pa ro rk : Int} {qs : List Rk} {t : Addr} {nm : Str} : (dOf pa ro qs).enter nm rk = dOf pa ro (qs ++ [(t, nm, rk)]) := by
  unfold Dk.enter dOf
  rw [List.map_append]
  rfl
theorem dOf_enter_ok {pa ro rk : Int} {qs : List Rk} {t : Addr} {nm : Str} (ok : (dOf pa ro qs).Ok) (h : enterErr (dOf pa ro qs) nm rk = none) : (dOf pa ro (qs ++ [(t, nm, rk)])).Ok := by
  have hd := dOf_enter (pa := pa) (ro := ro) (qs := qs) (t := t) (nm := nm) (rk := rk)
  rw [← hd]
  unfold enterErr at h
  split at h
  · cases h
  rename_i g1
  split at h
  · cases h
  rename_i g2
  split at h
  · cases h
  rename_i g3
  split at h
  · cases h
  rename_i g4
  refine ⟨ok.p1, ok.p2, ok.r1, ok.r2, ok.n0, ?_, ?_, fun x hx => ?_⟩
  · show (((dOf pa ro qs).line ++ [_]).length : Int) ≤ (dOf pa ro qs).room
    rw [List.length_append, List.length_singleton]
    omega
  · show (((dOf pa ro qs).line ++ [_]).map fun c : Cl => c.nm).Nodup
    rw [List.map_append, List.nodup_append]
    refine ⟨ok.nd, List.nodup_cons.mpr ⟨by simp, List.nodup_nil⟩, fun a ha b hb e => g3 ?_⟩
    rw [List.map_singleton, List.mem_singleton] at hb
    have hb2 : b = nm := hb
    rw [← hb2, ← e]
    exact ha
  · rcases List.mem_append.mp hx with h | h
    · exact ok.cl x h
    · rw [List.mem_singleton] at h
      rw [h]
      refine ⟨?_, show 0 ≤ rk by omega, show rk ≤ 99 by omega, ok.n0, Int.le_refl _⟩
      show isName nm = true
      cases hn : isName nm with
      | false => exact absurd hn g1
      | true => rfl
def sp_L_step (K : PySem.W.Frag) : Sp := fun vs H Q _ => ∃ (F0 F : Hp) (p : Addr) (pa ro : Int) (l : Addr) (qs : List Rk) (nm : Str) (rk w : Int), vs = [.ref p, .ref l, .str nm, .int rk, .int w] ∧ Ex F0 F ∧ F0 l = none ∧ DeskAt K F H p (dOf pa ro qs) ∧ (dOf pa ro qs).Ok ∧ LpAt F l qs ∧ nm.length ≤ 100 ∧ (w ≠ 6 → w ≠ 7 → isName nm = decide (0 < w)) ∧
  ∀ (F' H' : Hp) (qs' : List Rk), Ex F0 F' → LpAt F' l qs' → DeskAt K F' H' p (dOf pa ro qs') → (dOf pa ro qs').Ok → Q (.bl true) H'
theorem ok_L_step {P : Program} {w : World} {K : PySem.W.Frag} {mg : Str → Option Value} {base : Heap} (T : Txt K mg) : ∃ fd, FnOk P w K mg base (CX0) 5 (He.ga K "_law_step") fd ["_law_desk", "_law_line", "_law_name", "_law_rank", "_law_way"] (sp_L_step K) ∧ Binds K fd ["_law_desk", "_law_line", "_law_name", "_law_rank", "_law_way"] [] ∧ FunD K "_law_step" "_law_step" (defArgs s_L_step) (defBody s_L_step) (defScope s_L_step) [] [] (He.ga K "_law_step") fd := by
  obtain ⟨fd, F⟩ := f_L_step T
  obtain ⟨d_L_unknown, G_L_unknown, b_L_unknown, _⟩ := ok_L_unknown (P := P) (w := w) (base := base) T
  obtain ⟨d_desk_leave, G_desk_leave, b_desk_leave, _⟩ := ok_desk_leave (P := P) (w := w) (base := base) T
  obtain ⟨d_L_due, G_L_due, b_L_due, _⟩ := ok_L_due (P := P) (w := w) (base := base) T
  obtain ⟨d_L_enters, G_L_enters, b_L_enters, _⟩ := ok_L_enters (P := P) (w := w) (base := base) T
  refine ⟨fd, ok0 F sc_L_step (fun vs H Q E h => ?_) (fun cdv A outer s H vs Q E hr h => ?_), FunD.bindsN F fun _ _ _ _ _ _ us hl => match us, hl with | [_, _, _, _, _], _ => rfl, F⟩
  · (repeat (obtain ⟨_, h⟩ := h)); subst_vars; rfl
  · obtain ⟨F0, F, p, pa, ro, l, qs, nm, rk, w, rfl, eF, hl0, D, ok, hl, hz, hw, k⟩ := h
    refine ⟨_, (pss_cons (ps_if (pt_cmpR op_eq (pv 4) pe_int (nomark _)) (pss_cons (ps_if (pt_cmpR (op_notInK (K := K) rfl) (pv 2) (pe_lc (own := [("_law_one", 6)]) (g := gName 6) (tt := tYes) rfl sc_L_step.nd (pi_listK (K := K) rfl (pv 1)) (blkOk_by (own := [("_law_one", 6)]) (N := ["_law_desk", "_law_line", "_law_name", "_law_rank", "_law_way", "_law_due_here", "_law_one"]) (sc := defScope s_L_step) (by decide +kernel)) (fun _ _ _ _ _ => (pg_name (i := 6) sc_L_step.nd rfl (Or.inl rfl))) (fun _ _ _ _ _ => pts_nil) (fun _ _ _ _ _ => (pe_ix (ix_tupK (K := K) rfl) (pv 6) pe_int (fun _ _ => rfl)))) (by with_unfolding_all rfl)) (pss_one (ps_ret (pe_call G_L_unknown (hr.mono (by decide)) rfl (g_L_unknown T) (kp_L_unknown T) b_L_unknown .nil pass0 (pa_cons (pv 0) (pa_cons (pv 2) (pa_cons pe_int pa_nil))))))
        pss_nil)
        (pss_cons (ps_expr (pe_meth (pv 0) (c_Desk T) (m_desk_leave T) G_desk_leave (hr.mono (by decide)) b_desk_leave .nil passLN (pa_cons (pv 2) pa_nil)))
        (pss_cons (ps_expr (pe_bm PySem.F.plainAttrs_list PySem.F.slot_list_pop PySem.F.type_list_pop mt_popAt (pv 1) (pa_cons (pe_bmK (K := K) rfl PySem.F.plainAttrs_list PySem.F.slot_list_index PySem.F.type_list_index (mt_indexK (K := K) rfl) (pe_lc (own := [("_law_one", 6)]) (g := gName 6) (tt := tYes) rfl sc_L_step.nd (pi_listK (K := K) rfl (pv 1)) (blkOk_by (own := [("_law_one", 6)]) (N := ["_law_desk", "_law_line", "_law_name", "_law_rank", "_law_way", "_law_due_here", "_law_one"]) (sc := defScope s_L_step) (by decide +kernel)) (fun _ _ _ _ _ => (pg_name (i := 6) sc_L_step.nd rfl (Or.inl rfl))) (fun _ _ _ _ _ => pts_nil) (fun _ _ _ _ _ => (pe_ix (ix_tupK (K := K) rfl) (pv 6) pe_int (fun _ _ => rfl)))) (pa_cons (pv 2) pa_nil)) pa_nil)))
        (pss_one (ps_ret pe_bl)))))
        pss_nil)
        (pss_cons (ps_if (pt_cmpR op_eq (pv 4) pe_int (nomark _)) (pss_one (ps_ret (pe_or (pe_cmpR (op_inK (K := K) rfl) (pv 2) (pe_lc (own := [("_law_one", 6)]) (g := gName 6) (tt := tYes) rfl sc_L_step.nd (pi_listK (K := K) rfl (pv 1)) (blkOk_by (own := [("_law_one", 6)]) (N := ["_law_desk", "_law_line", "_law_name", "_law_rank", "_law_way", "_law_due_here", "_law_one"]) (sc := defScope s_L_step) (by decide +kernel)) (fun _ _ _ _ _ => (pg_name (i := 6) sc_L_step.nd rfl (Or.inl rfl))) (fun _ _ _ _ _ => pts_nil) (fun _ _ _ _ _ => (pe_ix (ix_tupK (K := K) rfl) (pv 6) pe_int (fun _ _ => rfl)))) (by with_unfolding_all rfl)) (pe_one (pe_call G_L_unknown (hr.mono (by decide)) rfl (g_L_unknown T) (kp_L_unknown T) b_L_unknown .nil pass0 (pa_cons (pv 0) (pa_cons (pv 2) (pa_cons (pe_op op_mod (pv 3) pe_int) pa_nil))))))))
        pss_nil)
        (pss_cons (ps_set (i := 5) sc_L_step.nd rfl (Or.inl rfl) (pe_call G_L_due (hr.mono (by decide)) rfl (g_L_due T) (kp_L_due T) b_L_due .nil pass0 (pa_cons (pv 1) (pa_cons (pe_fldK (K := K) rfl (pv 0) rfl) (pa_cons (pv 2) (pa_cons (pv 3) (pa_cons (pe_cmpR op_gt (pv 4) pe_int (nomark _)) pa_nil)))))))
        (pss_cons (ps_if (pt_cmpR op_ne (pe_call G_L_enters (hr.mono (by decide)) rfl (g_L_enters T) (kp_L_enters T) b_L_enters .nil pass0 (pa_cons (pv 0) (pa_cons (pv 2) (pa_cons (pv 3) pa_nil)))) (pv 5) (nomark _)) (pss_one (ps_ret pe_bl))
        pss_nil)
        (pss_cons (ps_if (pt_cmpR op_eq (pv 5) pe_str (nomark _)) (pss_one (ps_expr (pe_bm PySem.F.plainAttrs_list PySem.F.slot_list_append PySem.F.type_list_append mt_append (pv 1) (pa_cons (pe_tup (pa_cons (pv 2) (pa_cons (pv 3) pa_nil))) pa_nil))))
        pss_nil)
        (pss_one (ps_ret pe_bl))))))), ?_⟩
    have h60 : qs.length ≤ 60 := by rw [← dOf_len pa ro]; exact ok.len60
    have nd : (nmQ qs).Nodup := by rw [← dOf_nm pa ro]; exact ok.nd
    have hlH : ∀ {H1}, Ex H H1 → LpAt H1 l qs := fun e => hl.ex (D.fr.trans e)
    refine q_when (b := decide (w = 6)) (et_mix0 (ev_var rfl)) (fun hb H1 e1 => ?_) (fun hb H1 e1 => ?_)
    · refine q_when (b := decide (nm ∉ nmQ qs)) ?h2 (fun hb H2 e2 => ?_) (fun hb H2 e2 => ?_)
      case h2 =>
        have : decide (nm ∉ nmQ qs) = !inV (.str nm) ((nmQ qs).map V.str) := by rw [inV_str]; by_cases h : nm ∈ nmQ qs <;> simp [h]
        rw [this]
        exact et_test (ev_opL (ev_var rfl) (el_nm (ev_var rfl) (hlH e1) (by omega) (fun _ => rfl) (fun _ => rfl)) fun r H1 h e => rv_niL (sq_of h) rfl (all_str _))
      · exact s_ret (v := .bl true) (ev_call (ea_cons (ev_var rfl) (ea_cons (ev_var rfl) (ea_cons ev_c ea_nil))) (cv_unknown (D.ex (e1.trans e2)) ok.wf (dOf_none (of_decide_eq_true hb)))) fun H3 e3 => k F H3 qs eF hl (D.ex ((e1.trans e2).trans e3)) ok
      have hm : nm ∈ nmQ qs := by
        have := of_decide_eq_false hb
        exact Decidable.not_not.mp this
      obtain ⟨j, hj⟩ := List.getElem?_of_mem hm
      obtain ⟨q, hq, hqn⟩ : ∃ q, qs[j]? = some q ∧ q.2.1 = nm := by
        unfold nmQ at hj
        rw [List.getElem?_map] at hj
        exact Option.map_eq_some_iff.mp hj
      subst hqn
      have hjl := (List.getElem?_eq_some_iff.mp hq).1
      have D2 := D.ex (e1.trans e2)
      obtain ⟨l2, ps2, DD2, ff2⟩ := id D2
      obtain ⟨dx, hp⟩ := DD2.ob
      have hg : (dOf pa ro qs).get q.2.1 = some ⟨q.2.1, q.2.2, .rdy 0⟩ := Dk.get_of ok.nd (c := ⟨q.2.1, q.2.2, .rdy 0⟩) (List.mem_map.mpr ⟨q, List.mem_of_getElem? hq, rfl⟩)
      refine q_dmeth (vs := [.str q.2.1]) (ev_var rfl) hp rfl (ea_cons (ev_var rfl) ea_nil) fun H3 e3 => ⟨F, p, dOf pa ro qs, q.2.1, rfl, D2.ex e3, ok.wf, fun h => (by rw [hg] at h; cases h), fun c hc H4 D4 => ?_⟩
      rw [dOf_leave nd hq] at D4
      have hl4 := hl.ex D4.fr
      have hll : (qs.map fun q => V.ref q.1).length = qs.length := List.length_map ..
      refine ⟨_, rfl, .inl ⟨rfl, _, SqL.of hl4.1⟩, (ev_indexL (K := K) nd hj (el_nm (ev_var rfl) hl4 (by omega) (fun _ => rfl) (fun _ => rfl)) fun _ => ev_var rfl) H4 (Ex.refl H4) _ fun H5 e5 => ?_⟩
      refine ⟨l, _, (j : Int), j, .ref q.1, rfl, rfl, (hl4.ex e5).1, by omega, by omega, ?_, by rw [List.getElem?_map, hq]; rfl, ?_⟩
      · show (if _ then _ else _) = _
        rw [hll]
        have h1 : ¬ ((j : Int) < 0) := by omega
        simp only [h1, if_false]
        rw [if_pos (by simp; omega)]
        rfl
      have D6 := (D4.ex e5).set (u := .lst ((qs.map fun q => V.ref q.1).eraseIdx j)) hl.1
      have he : (qs.map fun q => V.ref q.1).eraseIdx j = (qs.eraseIdx j).map fun q => V.ref q.1 := map_erase _ _ _
      rw [he] at D6 ⊢
      have hsub := List.eraseIdx_sublist qs j
      have hl6 : LpAt (upd F l (.lst ((qs.eraseIdx j).map fun q => V.ref q.1))) l (qs.eraseIdx j) := ⟨upd_same, fun o ho => by
        have := hl.2 o (hsub.subset ho)
        rw [upd_ne (fun e => by rw [e, hl.1] at this; cases this)]
        exact this⟩
      dsimp only
      refine s_ret ev_c fun H7 e7 => ?_
      exact k _ H7 _ (Ex.mut eF hl0) hl6 (D6.ex e7) (dOf_sub ok hsub)
    have n6 : w ≠ 6 := of_decide_eq_false hb
    refine q_when (b := decide (w = 7)) (et_mix0 (ev_var rfl)) (fun hb2 H2 e2 => ?_) (fun hb2 H2 e2 => ?_)
    · have e12 := e1.trans e2
      refine s_ret (v := .bl true) (ev_is (ev_orV (a := decide (nm ∈ nmQ qs)) (b := true) ?h3 fun hb3 => ev_call (vs := [.ref p, .str nm, .int (rk % 10)]) ?h4 (cv_unknown (D.ex e12) ok.wf (dOf_none (of_decide_eq_false hb3)))) (by simp)) fun H3 e3 => k F H3 qs eF hl (D.ex (e12.trans e3)) ok
      case h3 =>
        rw [← inV_str]
        exact ev_opL (ev_var rfl) (el_nm (ev_var rfl) (hlH e12) (by omega) (fun _ => rfl) (fun _ => rfl)) fun r H1 h e => rv_isL (sq_of h) rfl (all_str _)
      case h4 => exact ea_cons (ev_var rfl) (ea_cons (ev_var rfl) (ea_cons (ev_op (ev_var rfl) ev_c (rv_I (show (0 : Int) < 10 by decide))) ea_nil))
    have n7 : w ≠ 7 := of_decide_eq_false hb2
    have e12 := e1.trans e2
    have D2 := D.ex e12
    obtain ⟨l2, ps2, DD2, ff2⟩ := id D2
    have hg := hw n6 n7
    refine q_asg (v := .str (dueW qs ro nm rk (isName nm))) (ev_call (vs := [.ref l, .int ro, .str nm, .int rk, .bl (isName nm)]) (ea_cons (ev_var rfl) (ea_cons (ev_room T (ev_var rfl) DD2) (ea_cons (ev_var rfl) (ea_cons (ev_var rfl) (ea_cons (ev_is (ev_op (ev_var rfl) ev_c rv_I0) (by rw [hg])) ea_nil))))) (cv_due (hlH e12) (by omega))) fun H3 e3 => ?_
    have D3 := D2.ex e3
    rw [due_err (pa := pa)]
    have hR : ∀ {dd : Dk} (H1 H2 : Hp), DeskAt K F H1 p dd → Ex H1 H2 → DeskAt K F H2 p dd := fun _ _ D e => D.ex e
    cases hE : enterErr (dOf pa ro qs) nm rk with
    | some e =>
      have hin := enterErr_in hE
      have hne : wordOf e ≠ "" := by
        have : ∀ x ∈ excNames, wordOf x ≠ "" := by decide +kernel
        exact this e hin
      rw [show wordO (some e) = wordOf e from rfl]
      refine mq_when (b := false) (R := fun H' => DeskAt K F H' p (dOf pa ro qs)) (mt_is (mt_test (mv_op (mv_call (vs := [.ref p, .str nm, .int rk]) (ea_cons (ev_var rfl) (ea_cons (ev_var rfl) (ea_cons (ev_var rfl) ea_nil))) fun H4 e4 => ms_enters_e (D3.ex e4) ok.wf (by omega) hE) (fun _ _ => ev_var rfl) (fun _ _ => rv_ne rfl) hR)) (by simp)) (fun h => by cases h) fun _ H4 D4 => ?_
      refine q_when (b := false) (et_is (et_test (ev_op (ev_var rfl) ev_c (rv_eq rfl))) ?h5) (fun h => by cases h) fun _ H5 e5 => ?_
      case h5 =>
        rw [decV]
        exact decide_eq_false hne
      exact s_ret ev_c fun H6 e6 => k F H6 qs eF hl (D4.ex (e5.trans e6)) ok
    | none =>
      rw [show wordO none = "" from rfl]
      refine mq_when (b := false) (R := fun H' => DeskAt K F H' p ((dOf pa ro qs).enter nm rk)) (mt_is (mt_test (mv_op (mv_call (vs := [.ref p, .str nm, .int rk]) (ea_cons (ev_var rfl) (ea_cons (ev_var rfl) (ea_cons (ev_var rfl) ea_nil))) fun H4 e4 => ms_enters (D3.ex e4) ok.wf (by omega) hE) (fun _ _ => ev_var rfl) (fun _ _ => rv_ne rfl) hR)) (by simp)) (fun h => by cases h) fun _ H4 D4 => ?_
      refine q_when (b := true) (et_is (et_test (ev_op (ev_var rfl) ev_c (rv_eq rfl))) (by decide +kernel)) (fun _ H5 e5 => ?_) (fun h => by cases h)
      have D5 := D4.ex e5
      have hl5 := D5.fr _ _ hl.1
      refine ⟨_, rfl, .inl ⟨rfl, _, SqL.of hl5⟩, _, rfl, _, rfl, sz_of (by show 2 ≤ 100000; decide), fun t nt => ⟨l, _, .ref t, rfl, rfl, by rw [upd_ne (ne_of_none hl5 nt)]; exact hl5, sz_lt (by rw [List.length_map]; omega), ?_⟩⟩
      have D6 := D5.new (o := .tup [.str nm, .int rk]) nt (Ex.new nt) upd_same
      have hFt : F t = none := ex_none D5.fr nt
      have hlF : (upd F t (.tup [.str nm, .int rk])) l = some (.lst (qs.map fun q => V.ref q.1)) := by rw [upd_ne (ne_of_none hl.1 hFt)]; exact hl.1
      have D7 := D6.set (u := .lst ((qs.map fun q => V.ref q.1) ++ [.ref t])) hlF
      rw [dOf_enter (t := t)] at D7
      have hap : (qs.map fun q => V.ref q.1) ++ [.ref t] = (qs ++ [(t, nm, rk)]).map fun q => V.ref q.1 := by rw [List.map_append]; rfl
      rw [hap] at D7 ⊢
      have hlt : l ≠ t := ne_of_none hl.1 hFt
      have hl7 : LpAt (upd (upd F t (.tup [.str nm, .int rk])) l (.lst ((qs ++ [(t, nm, rk)]).map fun q => V.ref q.1))) l (qs ++ [(t, nm, rk)]) := ⟨upd_same, fun o ho => by
        rcases List.mem_append.mp ho with ho | ho
        · have := hl.2 o ho
          rw [upd_ne (fun e => by rw [e, hl.1] at this; cases this), upd_ne (ne_of_none this hFt)]
          exact this
        · rw [List.mem_singleton] at ho
          rw [ho, upd_ne hlt.symm]
          exact upd_same⟩
      dsimp only
      refine s_ret ev_c fun H7 e7 => ?_
      exact k _ H7 _ (Ex.mut (eF.trans (Ex.new hFt)) hl0) hl7 (D7.ex e7) (dOf_enter_ok ok hE)
/-! ### L_no_desk -/
theorem sc_L_no_desk : FnScope ["_law_way", "_law_far", "_law_e"] ["_law_way", "_law_far"] (defScope s_L_no_desk) := ⟨rfl, rfl, rfl, by decide +kernel, rfl, by decide +kernel, by decide +kernel⟩
def badP (w f : Int) : Int := match w.toNat with | 0 => 0 | 1 => 1001 | 2 => 1 | 3 => 1000 | 4 => -1 | 5 => 7 | 6 => 1001 + f | 7 => 5 | _ => 0 - f
def badR (w f : Int) : Int := match w.toNat with | 0 => 60 | 1 => 1 | 2 => 0 | 3 => 61 | 4 => 5 | 5 => -1 | 6 => 9 | 7 => 61 + f | _ => 60
theorem nine {w : Int} (h0 : 0 ≤ w) (h1 : w < 9) : w = 0 ∨ w = 1 ∨ w = 2 ∨ w = 3 ∨ w = 4 ∨ w = 5 ∨ w = 6 ∨ w = 7 ∨ w = 8 := by omega
theorem bad_desk {w f : Int} (h0 : 0 ≤ w) (h1 : w < 9) (hf : 0 ≤ f) : ¬ (1 ≤ badP w f ∧ badP w f ≤ 1000 ∧ 1 ≤ badR w f ∧ badR w f ≤ 60) := by
  rcases nine h0 h1 with rfl | rfl | rfl | rfl | rfl | rfl | rfl | rfl | rfl
  all_goals
    intro h
    simp only [badP, badR] at h
    have h1 := h.1
    have h2 := h.2.1
    have h3 := h.2.2.1
    have h4 := h.2.2.2
    revert h1 h2 h3 h4
    simp only [Int.toNat]
    omega
theorem at_badP {w f : Int} (h0 : 0 ≤ w) (h1 : w < 9) : atI ([.int 0, .int 1001, .int 1, .int 1000, .int (-1), .int 7, .int (1001 + f), .int 5, .int (0 - f)] : List V) w = some (.int (badP w f)) := by
  rcases nine h0 h1 with rfl | rfl | rfl | rfl | rfl | rfl | rfl | rfl | rfl <;> rfl
theorem at_badR {w f : Int} (h0 : 0 ≤ w) (h1 : w < 9) : atI ([.int 60, .int 1, .int 0, .int 61, .int 5, .int (-1), .int 9, .int (61 + f), .int 60] : List V) w = some (.int (badR w f)) := by
  rcases nine h0 h1 with rfl | rfl | rfl | rfl | rfl | rfl | rfl | rfl | rfl <;> rfl
theorem d_makeS {σ : L2.St} {H : Hp} {D : Ends} {C : Addr} {sp : Sp} {E : L2.St → XK} {tr : TA} {vs : List V} (h : EvA tr σ H vs) (k : ∀ H1, Ex H H1 → ∀ x dx, H1 x = none → H1 dx = none → dx ≠ x → sp (.ref x :: vs) (upd (upd H1 dx (.own x)) x (.ins C dx [])) (fun v H2 => v = .non ∧ D.nx σ H2) (E σ)) : tDrop (tMakeS C sp E tr) D σ H := h H (Ex.refl H) _ k
def sp_L_no_desk (K : PySem.W.Frag) : Sp := fun vs H Q _ => ∃ (w f : Int), vs = [.int w, .int f] ∧ 0 ≤ w ∧ w < 9 ∧ 0 ≤ f ∧ RetV (.bl true) H Q
theorem ok_L_no_desk {P : Program} {w : World} {K : PySem.W.Frag} {mg : Str → Option Value} {base : Heap} (T : Txt K mg) : ∃ fd, FnOk P w K mg base (CX0) 3 (He.ga K "_law_no_desk") fd ["_law_way", "_law_far"] (sp_L_no_desk K) ∧ Binds K fd ["_law_way", "_law_far"] [] ∧ FunD K "_law_no_desk" "_law_no_desk" (defArgs s_L_no_desk) (defBody s_L_no_desk) (defScope s_L_no_desk) [] [] (He.ga K "_law_no_desk") fd := by
  obtain ⟨fd, F⟩ := f_L_no_desk T
  obtain ⟨d_desk_init, G_desk_init, b_desk_init, _⟩ := ok_desk_init (P := P) (w := w) (base := base) T
  obtain ⟨d_L_word, G_L_word, b_L_word, _⟩ := ok_L_word (P := P) (w := w) (base := base) T
  refine ⟨fd, ok0 F sc_L_no_desk (fun vs H Q E h => ?_) (fun cdv A outer s H vs Q E hr h => ?_), FunD.bindsN F fun _ _ _ _ _ _ us hl => match us, hl with | [_, _], _ => rfl, F⟩
  · (repeat (obtain ⟨_, h⟩ := h)); subst_vars; rfl
  · obtain ⟨w, f, rfl, w0, w1, f0, k⟩ := h
    refine ⟨_, (pss_cut (L2N.ps_try_as (i := 2) rfl rfl sc_L_no_desk.nd rfl rfl ⟨rfl, by decide, .inl (g_DeskError T)⟩ takes0N (fun W pn xe tk _ => (pss_one (ps_expr (pe_makeS (mk_Desk T) G_desk_init (hr.mono (by decide)) rfl (g_Desk T) b_desk_init (fun σ => L2N.passAt tk σ) (pa_cons (pe_ix (ix_listK (K := K) rfl) (pe_lst (pa_cons pe_int (pa_cons pe_int (pa_cons pe_int (pa_cons pe_int (pa_cons (pe_un un_neg pe_int) (pa_cons pe_int (pa_cons (pe_op op_add pe_int (pv 1)) (pa_cons pe_int (pa_cons (pe_op op_sub pe_int (pv 1)) pa_nil)))))))))) (pv 0) (fun _ _ => rfl)) (pa_cons (pe_ix (ix_listK (K := K) rfl) (pe_lst (pa_cons pe_int (pa_cons pe_int (pa_cons pe_int (pa_cons pe_int (pa_cons pe_int (pa_cons (pe_un un_neg pe_int) (pa_cons pe_int (pa_cons (pe_op op_add pe_int (pv 1)) (pa_cons pe_int pa_nil)))))))))) (pv 0) (fun _ _ => rfl)) pa_nil))))))
        (fun a oe cls d pn hz hf => (pss_one (ps_ret (pe_cmpR op_eq (pe_word G_L_word (hr.mono (by decide)) rfl (g_L_word T) (kp_L_word T) b_L_word hz hf (pv 2)) pe_str (nomark _))))))
        (pss_one (ps_ret pe_bl))), ?_⟩
    refine q_cut (M := fun _ _ => False) ?_ (fun _ _ h => h.elim)
    refine d_makeS (vs := [.int (badP w f), .int (badR w f)]) ?ha fun H1 e1 x dx nx ndx nex => ?hb
    case ha =>
      refine ea_cons (ev_opL1 (xs := [.int 0, .int 1001, .int 1, .int 1000, .int (-1), .int 7, .int (1001 + f), .int 5, .int (0 - f)]) (el_lst ?a1 (by show 9 ≤ 100000; decide)) (fun H1 e1 => ev_var rfl) (fun q H1 h1 e1 => rv_ixL (sq_of h1) (at_badP w0 w1))) (ea_cons (ev_opL1 (xs := [.int 60, .int 1, .int 0, .int 61, .int 5, .int (-1), .int 9, .int (61 + f), .int 60]) (el_lst ?a2 (by show 9 ≤ 100000; decide)) (fun H1 e1 => ev_var rfl) (fun q H1 h1 e1 => rv_ixL (sq_of h1) (at_badR w0 w1))) ea_nil)
      case a1 => exact ea_cons ev_c (ea_cons ev_c (ea_cons ev_c (ea_cons ev_c (ea_cons (ev_un ev_c ru_neg) (ea_cons ev_c (ea_cons (ev_op ev_c (ev_var rfl) rv_I0) (ea_cons ev_c (ea_cons (ev_op ev_c (ev_var rfl) rv_I0) ea_nil))))))))
      case a2 => exact ea_cons ev_c (ea_cons ev_c (ea_cons ev_c (ea_cons ev_c (ea_cons ev_c (ea_cons (ev_un ev_c ru_neg) (ea_cons ev_c (ea_cons (ev_op ev_c (ev_var rfl) rv_I0) (ea_cons ev_c ea_nil))))))))
    case hb =>
      refine ⟨x, dx, badP w f, badR w f, rfl, upd_same, fun h => absurd h (bad_desk w0 w1 f0), fun _ H2 e2 => ⟨true, ks_d (excK_ok T.ex) (by decide +kernel), fun _ a ha => ?_, fun h => by cases h⟩⟩
      refine s_ret (v := .bl true) (ev_is (ev_op (ev_word rfl (by decide +kernel)) ev_c (rv_eq rfl)) (by decide +kernel)) fun H3 e3 => k H3 fun b o hb => ?_
      exact e3 _ _ (e2 _ _ (by have hb := e1 _ _ hb; rw [upd_ne (ne_of_none hb nx), upd_ne (ne_of_none hb ndx)]; exact hb))
/-! ### law -/
theorem sc_law : FnScope ["_law_script", "_law_shift", "_law_room", "_law_pace", "_law_desk", "_law_line", "_law_k", "_law_cell", "_law_name", "_law_rank", "_law_way"] ["_law_script"] (defScope s_law) := ⟨rfl, rfl, rfl, by decide +kernel, rfl, by decide +kernel, by decide +kernel⟩
theorem ev_mkFld {K : PySem.W.Frag} {σ : L2.St} {H : Hp} {tr : TA} {E : XK} {pa ro : Int} {f : Str} {v : V} (h : EvA tr σ H [.int pa, .int ro]) (g : 1 ≤ pa ∧ pa ≤ 1000 ∧ 1 ≤ ro ∧ ro ≤ 60) (hc : Cls K (aD K)) (hn : NoAttr K (aD K) f) (hf : ∀ l, (dfs ⟨pa, ro, 0, []⟩ l).lookup f = some v) : Ev (tFld K (tMake (aD K) (sp_desk_init K) [] E tr) f) σ H v := fun H1 e Q q =>
  h H1 e _ fun H2 e2 => fun x dx nx ndx nex => ⟨x, dx, pa, ro, rfl, upd_same, fun _ H3 l D nl k3 => ⟨rfl, let ⟨dy, hy⟩ := D.ob; ⟨x, aD K, dy, _, v, rfl, hy, hc, hn, hf l, q H3 fun b o hb => k3 b o (by have hb := e2 _ _ hb; rw [upd_ne (ne_of_none hb nx), upd_ne (ne_of_none hb ndx)]; exact hb) (ne_of_none (e2 _ _ hb) nx)⟩⟩, fun h => absurd g h⟩
theorem q_appT {K : PySem.W.Frag} {σ : L2.St} {H : Hp} {l : Addr} {j : Nat} {xs vs : List V} {tr : TA} {D : Ends} {tz : TS} (hj : σ[j]? = some (some (.ref l))) (hl : H l = some (.lst xs)) (h : EvA tr σ H vs) (hz : vs.length ≤ 1000) (hx : xs.length < 100000) (k : ∀ H1 t, Ex H H1 → H1 t = none → tz D σ (upd (upd H1 t (.tup vs)) l (.lst (xs ++ [.ref t])))) :
    tSeq (tDrop (tBM K "list" rAppend (tVar j) (tCons (tTup tr) tNil))) tz D σ H := ⟨_, hj, .inl ⟨rfl, _, SqL.of hl⟩, h H (Ex.refl H) _ fun H1 e1 => ⟨sz_of (by omega), fun t nt => ⟨l, xs, .ref t, rfl, rfl, by rw [upd_ne (ne_of_none (e1 _ _ hl) nt)]; exact e1 _ _ hl, sz_lt hx, k H1 t e1 nt⟩⟩⟩
theorem cut_last {z : Str} (h : isName z = true) : isName (cutS z (some (-1)) none) = true := by
  obtain ⟨l1, l2⟩ := isName_len h
  unfold isName at h
  rw [Bool.and_eq_true] at h
  have hzl : z.cps.toList.length = z.length := Array.length_toList ..
  unfold cutS
  have e1 : HT.sIx z.length 0 (some (-1)) = z.length - 1 := by
    show (if (-1 : Int) < 0 then ((-1 : Int) + (z.length : Int)).toNat else min (-1 : Int).toNat z.length) = _
    rw [if_pos (by decide)]
    omega
  have e2 : HT.sIx z.length z.length none = z.length := rfl
  rw [e1, e2]
  unfold isName
  have hlen : (⟨((z.cps.toList.drop (z.length - 1)).take (z.length - (z.length - 1))).toArray⟩ : Str).length = 1 := by
    show (List.toArray _).size = 1
    rw [List.size_toArray, List.length_take, List.length_drop, hzl]
    omega
  rw [hlen]
  refine (Bool.and_eq_true _ _).mpr ⟨by decide, ?_⟩
  show (List.toArray _).toList.all isSign = true
  exact List.all_eq_true.mpr fun c hc => List.all_eq_true.mp h.2 c (List.mem_of_mem_drop (List.mem_of_mem_take hc))
theorem name_dash {s : Str} : isName (s ++ "-") = false := by
  cases h : isName (s ++ "-") with
  | false => rfl
  | true =>
    unfold isName at h
    rw [Bool.and_eq_true] at h
    have h2 := List.all_eq_true.mp h.2 45 (by
      have e : (s ++ "-").cps.toList = TL.tl s ++ TL.tl "-" := TL.tl_append s "-"
      rw [e]
      exact List.mem_append_right _ (by decide +kernel))
    exact absurd h2 (by decide +kernel)
theorem cut_tail {ns : List Int} : ∃ cs : List Int, cutV (ns.map V.int) (some 3) none = cs.map V.int ∧ cs.length ≤ ns.length := by
  unfold cutV
  exact ⟨(ns.drop _).take _, by rw [List.map_take, List.map_drop], by rw [List.length_take, List.length_drop]; omega⟩
def sp_law (K : PySem.W.Frag) : Sp := fun vs H Q _ => ∃ (a : Addr) (ns : List Int), vs = [.ref a] ∧ SqL K H a (ns.map V.int) ∧ ns.length ≤ 63 ∧ ∀ H', Q (.bl true) H'
theorem ok_law {P : Program} {w : World} {K : PySem.W.Frag} {mg : Str → Option Value} {base : Heap} (T : Txt K mg) : ∃ fd, FnOk P w K mg base (CX0) 6 (He.ga K "law") fd ["_law_script"] (sp_law K) ∧ Binds K fd ["_law_script"] [] ∧ FunD K "law" "law" (defArgs s_law) (defBody s_law) (defScope s_law) [] [] (He.ga K "law") fd := by
  obtain ⟨fd, F⟩ := f_law T
  obtain ⟨d_L_cell_at, G_L_cell_at, b_L_cell_at, _⟩ := ok_L_cell_at (P := P) (w := w) (base := base) T
  obtain ⟨d_desk_init, G_desk_init, b_desk_init, _⟩ := ok_desk_init (P := P) (w := w) (base := base) T
  obtain ⟨d_L_name_by, G_L_name_by, b_L_name_by, _⟩ := ok_L_name_by (P := P) (w := w) (base := base) T
  obtain ⟨d_desk_enter, G_desk_enter, b_desk_enter, _⟩ := ok_desk_enter (P := P) (w := w) (base := base) T
  obtain ⟨d_L_mix, G_L_mix, b_L_mix, _⟩ := ok_L_mix (P := P) (w := w) (base := base) T
  obtain ⟨d_L_stands, G_L_stands, b_L_stands, _⟩ := ok_L_stands (P := P) (w := w) (base := base) T
  obtain ⟨d_L_step, G_L_step, b_L_step, _⟩ := ok_L_step (P := P) (w := w) (base := base) T
  obtain ⟨d_L_no_desk, G_L_no_desk, b_L_no_desk, _⟩ := ok_L_no_desk (P := P) (w := w) (base := base) T
  refine ⟨fd, ok0 F sc_law (fun vs H Q E h => ?_) (fun cdv A outer s H vs Q E hr h => ?_), FunD.bindsN F fun _ _ _ _ _ _ us hl => match us, hl with | [_], _ => rfl, F⟩
  · (repeat (obtain ⟨_, h⟩ := h)); subst_vars; rfl
  · obtain ⟨a, ns, rfl, hS, hns, k⟩ := h
    refine ⟨_, (pss_cons (ps_set (i := 1) sc_law.nd rfl (Or.inl rfl) (pe_call G_L_cell_at (hr.mono (by decide)) rfl (g_L_cell_at T) (kp_L_cell_at T) b_L_cell_at .nil pass0 (pa_cons (pv 0) (pa_cons pe_int pa_nil))))
        (pss_cons (ps_set (i := 2) sc_law.nd rfl (Or.inl rfl) (pe_ix (ix_listK (K := K) rfl) (pe_lst (pa_cons (pe_op op_add pe_int (pe_op op_mod (pv 1) pe_int)) (pa_cons (pe_op op_add pe_int (pe_op op_mod (pe_op op_fdiv (pv 1) pe_int) pe_int)) pa_nil))) (pe_op op_mod (pe_call G_L_cell_at (hr.mono (by decide)) rfl (g_L_cell_at T) (kp_L_cell_at T) b_L_cell_at .nil pass0 (pa_cons (pv 0) (pa_cons pe_int pa_nil))) pe_int) (fun _ _ => rfl)))
        (pss_cons (ps_set (i := 3) sc_law.nd rfl (Or.inl rfl) (pe_op op_add pe_int (pe_op op_mod (pe_op op_fdiv (pe_call G_L_cell_at (hr.mono (by decide)) rfl (g_L_cell_at T) (kp_L_cell_at T) b_L_cell_at .nil pass0 (pa_cons (pv 0) (pa_cons pe_int pa_nil))) pe_int) pe_int)))
        (pss_cons (ps_set (i := 4) sc_law.nd rfl (Or.inl rfl) (pe_make (mk_Desk T) G_desk_init (hr.mono (by decide)) rfl (g_Desk T) b_desk_init .nil passLN (pa_cons (pv 3) (pa_cons (pv 2) pa_nil))))
        (pss_cons (ps_set (i := 5) sc_law.nd rfl (Or.inl rfl) (pe_lst pa_nil))
        (pss_cons (ps_for PassesOwn.never rfl (pi_range1 rfl (b_range T) (pa_cons (pe_op op_mod (pe_call G_L_cell_at (hr.mono (by decide)) rfl (g_L_cell_at T) (kp_L_cell_at T) b_L_cell_at .nil pass0 (pa_cons (pv 0) (pa_cons pe_int pa_nil))) (pe_op op_add (pv 2) pe_int)) pa_nil)) (pg_name (i := 6) sc_law.nd rfl (Or.inl rfl))
        (pss_cons (ps_expr (pe_bm PySem.F.plainAttrs_list PySem.F.slot_list_append PySem.F.type_list_append mt_append (pv 5) (pa_cons (pe_tup (pa_cons (pe_call G_L_name_by (hr.mono (by decide)) rfl (g_L_name_by T) (kp_L_name_by T) b_L_name_by .nil pass0 (pa_cons (pv 6) (pa_cons (pv 1) pa_nil))) (pa_cons (pe_op op_mod (pe_op op_add (pv 1) (pe_op op_mul pe_int (pv 6))) pe_int) pa_nil))) pa_nil)))
        (pss_one (ps_expr (pe_meth (pv 4) (c_Desk T) (m_desk_enter T) G_desk_enter (hr.mono (by decide)) b_desk_enter .nil passLN (pa_cons (pe_ix (ix_tupK (K := K) rfl) (pe_ix (ix_listK (K := K) rfl) (pv 5) (pv 6) (fun _ _ => rfl)) pe_int (fun _ _ => rfl)) (pa_cons (pe_ix (ix_tupK (K := K) rfl) (pe_ix (ix_listK (K := K) rfl) (pv 5) (pv 6) (fun _ _ => rfl)) pe_int (fun _ _ => rfl)) pa_nil)))))))
        (pss_cons (ps_for PassesOwn.never rfl (pi_listK (K := K) rfl (pe_slice (sl_listK (K := K) rfl) (pv 0) (po_some pe_int) po_none)) (pg_name (i := 7) sc_law.nd rfl (Or.inl rfl))
        (pss_cons (ps_set (i := 8) sc_law.nd rfl (Or.inl rfl) (pe_call G_L_name_by (hr.mono (by decide)) rfl (g_L_name_by T) (kp_L_name_by T) b_L_name_by .nil pass0 (pa_cons (pe_call G_L_mix (hr.mono (by decide)) rfl (g_L_mix T) (kp_L_mix T) b_L_mix .nil pass0 (pa_cons (pv 7) (pa_cons pe_int (pa_cons pe_int pa_nil)))) (pa_cons (pv 1) pa_nil))))
        (pss_cons (ps_if (pt_cmpR op_eq (pe_call G_L_mix (hr.mono (by decide)) rfl (g_L_mix T) (kp_L_mix T) b_L_mix .nil pass0 (pa_cons (pv 7) (pa_cons pe_int (pa_cons pe_int pa_nil)))) pe_int (nomark _)) (pss_one (ps_set (i := 8) sc_law.nd rfl (Or.inl rfl) (pe_slice sl_str (pv 8) (po_some (pe_un un_neg pe_int)) po_none)))
        pss_nil)
        (pss_cons (ps_set (i := 9) sc_law.nd rfl (Or.inl rfl) (pe_ix (ix_listK (K := K) rfl) (pe_lst (pa_cons (pe_call G_L_mix (hr.mono (by decide)) rfl (g_L_mix T) (kp_L_mix T) b_L_mix .nil pass0 (pa_cons (pv 7) (pa_cons pe_int (pa_cons pe_int pa_nil)))) (pa_cons pe_int (pa_cons pe_int (pa_cons pe_int (pa_cons pe_int (pa_cons (pe_un un_neg pe_int) (pa_cons (pe_op op_pow pe_int pe_int) pa_nil)))))))) (pe_call G_L_mix (hr.mono (by decide)) rfl (g_L_mix T) (kp_L_mix T) b_L_mix .nil pass0 (pa_cons (pv 7) (pa_cons pe_int (pa_cons pe_int pa_nil)))) (fun _ _ => rfl)))
        (pss_cons (ps_set (i := 10) sc_law.nd rfl (Or.inl rfl) (pe_call G_L_mix (hr.mono (by decide)) rfl (g_L_mix T) (kp_L_mix T) b_L_mix .nil pass0 (pa_cons (pv 7) (pa_cons pe_int (pa_cons pe_int pa_nil)))))
        (pss_cons (ps_if (PW.pt (pw_or (pt_cmpR op_eq (pv 10) pe_int (nomark _)) (pw_or1 (PW.pt (pw_and (pt_cmpR op_gt (pv 10) pe_int (nomark _)) (pw_and1 (pt_cmpR op_eq (pe_call G_L_mix (hr.mono (by decide)) rfl (g_L_mix T) (kp_L_mix T) b_L_mix .nil pass0 (pa_cons (pv 7) (pa_cons pe_int (pa_cons pe_int pa_nil)))) pe_int (nomark _)))))))) (pss_one (ps_set (i := 8) sc_law.nd rfl (Or.inl rfl) (pe_ix (ix_listK (K := K) rfl) (pe_lst (pa_cons pe_str (pa_cons pe_str (pa_cons pe_str (pa_cons pe_str (pa_cons (pe_op op_add_str (pv 8) pe_str) (pa_cons pe_str pa_nil))))))) (pe_call G_L_mix (hr.mono (by decide)) rfl (g_L_mix T) (kp_L_mix T) b_L_mix .nil pass0 (pa_cons (pv 7) (pa_cons pe_int (pa_cons pe_int pa_nil)))) (fun _ _ => rfl))))
        pss_nil)
        (pss_one (ps_if (PW.pt (pw_or (pt_not (pt_val (pe_call G_L_step (hr.mono (by decide)) rfl (g_L_step T) (kp_L_step T) b_L_step .nil pass0 (pa_cons (pv 4) (pa_cons (pv 5) (pa_cons (pv 8) (pa_cons (pv 9) (pa_cons (pv 10) pa_nil)))))))) (pw_or1 (pt_not (pt_val (pe_call G_L_stands (hr.mono (by decide)) rfl (g_L_stands T) (kp_L_stands T) b_L_stands .nil pass0 (pa_cons (pv 4) (pa_cons (pv 5) (pa_cons (pv 3) (pa_cons (pv 2) (pa_cons (pv 7) pa_nil))))))))))) (pss_one (ps_ret pe_bl))
        pss_nil))))))))
        (pss_cons (ps_if (PW.pt (pw_or (pt_cmpR op_ne (pe_fldK (K := K) rfl (pe_make (mk_Desk T) G_desk_init (hr.mono (by decide)) rfl (g_Desk T) b_desk_init .nil passLN (pa_cons pe_int (pa_cons pe_int pa_nil))) rfl) pe_int (nomark _)) (pw_or1 (pt_cmpR op_ne (pe_fldK (K := K) rfl (pe_make (mk_Desk T) G_desk_init (hr.mono (by decide)) rfl (g_Desk T) b_desk_init .nil passLN (pa_cons pe_int (pa_cons pe_int pa_nil))) rfl) pe_int (nomark _))))) (pss_one (ps_ret pe_bl))
        pss_nil)
        (pss_one (ps_ret (pe_call G_L_no_desk (hr.mono (by decide)) rfl (g_L_no_desk T) (kp_L_no_desk T) b_L_no_desk .nil pass0 (pa_cons (pe_op op_mod (pv 1) pe_int) (pa_cons (pe_op op_mod (pe_op op_fdiv (pv 1) pe_int) (pe_op op_pow pe_int pe_int)) pa_nil))))))))))))), ?_⟩
    refine' q_asg ?h fun H1 e1 => ?_
    case h => tm_at "rr.ev"
    have hS := ex_l e1 hS
    generalize hsh : cellAt ns 0 = sh at *
    obtain ⟨ro, hro, hatr⟩ := pick_all (xs := [1 + sh % 4, 1 + sh / 4 % 60]) (i := cellAt ns 1 % 2) (P := fun r => 1 ≤ r ∧ r ≤ 60) (by omega) (by show cellAt ns 1 % 2 < 2; omega) (by
      intro x hx
      simp only [List.mem_cons, List.not_mem_nil, or_false] at hx
      rcases hx with rfl | rfl <;> omega)
    refine q_asg (v := .int ro) (ev_opL1 (xs := ([1 + sh % 4, 1 + sh / 4 % 60] : List Int).map V.int) (el_lst ?a1 (by show 2 ≤ 100000; decide)) (fun H2 e2 => ev_op (ev_call (ea_cons (ev_var rfl) (ea_cons ev_c ea_nil)) (cv_L_cell_at (ex_l e2 hS) (by decide))) ev_c (rv_I (show (0 : Int) < 2 by decide))) (fun q H2 h2 e2 => rv_ixL (sq_of h2) hatr)) fun H2 e2 => ?_
    case a1 => tm_at "rr.ev"
    have hS := ex_l e2 hS
    refine' q_asg (v := .int (1 + cellAt ns 1 / 2 % 1000)) ?h fun H3 e3 => ?_
    case h => tm_at "rr.ev"
    have hS := ex_l e3 hS
    have hpa : 1 ≤ 1 + cellAt ns 1 / 2 % 1000 ∧ 1 + cellAt ns 1 / 2 % 1000 ≤ 1000 := by omega
    generalize 1 + cellAt ns 1 / 2 % 1000 = pa at *
    refine q_makeA ((ea_cons (ev_var rfl) (ea_cons (ev_var rfl) ea_nil)) H3 (Ex.refl H3) _ fun H4 e4 => fun p dx np ndx nex => ⟨p, dx, pa, ro, rfl, upd_same, fun _ H5 l D nl k5 => ⟨rfl, ?_⟩, fun h => absurd ⟨hpa.1, hpa.2, hro.1, hro.2⟩ h⟩)
    have D5 := DeskAt.made np ndx D nl k5
    have hS4 := ex_l e4 hS
    clear D k5
    refine q_asgL (xs := []) (el_lst ea_nil (by decide)) fun l H6 nl6 e6 hl6 => ?_
    have D6 := D5.new nl6 e6 hl6
    have hl0 : H4 l = none := ex_none D5.fr nl6
    have okZ : (dOf pa ro []).Ok := ⟨hpa.1, hpa.2, hro.1, hro.2, Int.le_refl _, by show (0 : Int) ≤ ro; omega, List.nodup_nil, fun c hc => by cases hc⟩
    have c0 : 0 ≤ cellAt ns 2 % (ro + 1) := Int.emod_nonneg _ (by omega)
    have c1 : cellAt ns 2 % (ro + 1) < ro + 1 := Int.emod_lt_of_pos _ (by omega)
    refine q_forR1 (n := cellAt ns 2 % (ro + 1)) (ea_cons (ev_op (ev_call (ea_cons (ev_var rfl) (ea_cons ev_c ea_nil)) (cv_L_cell_at (ex_l (D5.fr.trans e6) hS4) (by decide))) (ev_op (ev_var rfl) ev_c rv_I0) (rv_I (show (0 : Int) < ro + 1 by omega))) ea_nil) (by omega)
      (fun i σ' H' => ∃ v6 F' qs, σ' = [some (.ref a), some (.int sh), some (.int ro), some (.int pa), some (.ref p), some (.ref l), v6, none, none, none, none] ∧ Ex H4 F' ∧ LpAt F' l qs ∧ DeskAt K F' H' p (dOf pa ro qs) ∧ (dOf pa ro qs).Ok ∧ nmQ qs = (List.range i).map (fun k : Nat => nameBy (k : Int) sh) ∧ qs.length = i)
      (fun H7 e7 => ⟨none, _, [], rfl, Ex.new hl0, ⟨upd_same, fun q hq => by cases hq⟩, D6.ex e7, okZ, rfl, rfl⟩) ?_ ?_
    · rintro i σ' H' hi ⟨v6, F', qs, rfl, eF', hl', D', ok', hnm', hlen'⟩
      have hlH := D'.fr _ _ hl'.1
      have hname : isName (nameBy (i : Int) sh) = true := nameBy_ok (by omega) (by omega)
      have hnz := (isName_len hname).2
      have r0 : 0 ≤ (sh + 7 * (i : Int)) % 100 ∧ (sh + 7 * (i : Int)) % 100 ≤ 99 := by omega
      refine q_appT (l := l) (vs := [.str (nameBy (i : Int) sh), .int ((sh + 7 * (i : Int)) % 100)]) rfl hlH (ea_cons (ev_call (ea_cons (ev_var rfl) (ea_cons (ev_var rfl) ea_nil)) (cv_L_name_by (by omega) (by omega))) (ea_cons ?ha ea_nil)) (by show 2 ≤ 1000; decide) (by rw [List.length_map]; omega) fun H7 t e7 nt => ?_
      case ha => tm_at "rr.ev"
      generalize hrk : (sh + 7 * (i : Int)) % 100 = rk at *
      have D7 := D'.ex e7
      have D8 := D7.new (o := .tup [.str (nameBy (i : Int) sh), .int rk]) nt (Ex.new nt) upd_same
      have hFt : F' t = none := ex_none D7.fr nt
      have hlF : (upd F' t (.tup [.str (nameBy (i : Int) sh), .int rk])) l = some (.lst (qs.map fun q => V.ref q.1)) := by rw [upd_ne (ne_of_none hl'.1 hFt)]; exact hl'.1
      have D9 := D8.set (u := .lst ((qs.map fun q => V.ref q.1) ++ [.ref t])) hlF
      have hap : (qs.map fun q => V.ref q.1) ++ [.ref t] = (qs ++ [(t, nameBy (i : Int) sh, rk)]).map fun q => V.ref q.1 := by rw [List.map_append]; rfl
      rw [hap] at D9 ⊢
      have hlt : l ≠ t := ne_of_none hl'.1 hFt
      have hl9 : LpAt (upd (upd F' t (.tup [.str (nameBy (i : Int) sh), .int rk])) l (.lst ((qs ++ [(t, nameBy (i : Int) sh, rk)]).map fun q => V.ref q.1))) l (qs ++ [(t, nameBy (i : Int) sh, rk)]) := ⟨upd_same, fun o ho => by
        rcases List.mem_append.mp ho with ho | ho
        · have := hl'.2 o ho
          rw [upd_ne (fun e => by rw [e, hl'.1] at this; cases this), upd_ne (ne_of_none this hFt)]
          exact this
        · rw [List.mem_singleton] at ho
          rw [ho, upd_ne hlt.symm]
          exact upd_same⟩
      have eF9 : Ex H4 (upd (upd F' t (.tup [.str (nameBy (i : Int) sh), .int rk])) l (.lst ((qs ++ [(t, nameBy (i : Int) sh, rk)]).map fun q => V.ref q.1))) := Ex.mut (eF'.trans (Ex.new hFt)) hl0
      generalize upd (upd F' t (.tup [.str (nameBy (i : Int) sh), .int rk])) l (.lst ((qs ++ [(t, nameBy (i : Int) sh, rk)]).map fun q => V.ref q.1)) = F9 at *
      generalize upd (upd H7 t (.tup [.str (nameBy (i : Int) sh), .int rk])) l (.lst ((qs ++ [(t, nameBy (i : Int) sh, rk)]).map fun q => V.ref q.1)) = H9 at *
      have hE : enterErr (dOf pa ro qs) (nameBy (i : Int) sh) rk = none := by
        unfold enterErr
        rw [if_neg (by rw [hname]; decide), if_neg (by omega), if_neg ?_, if_neg ?_]
        · rw [dOf_len]
          show ¬ ro ≤ (qs.length : Int)
          omega
        · rw [dOf_nm, hnm']
          intro h
          obtain ⟨j, hj, e⟩ := List.mem_map.mp h
          have hj := List.mem_range.mp hj
          have := nameBy_inj (by omega) (by omega) (by omega) (by omega) e
          omega
      obtain ⟨l9, ps9, DD9, ff9⟩ := id D9
      obtain ⟨dx9, hp9⟩ := DD9.ob
      have hlst9 := D9.fr _ _ hl9.1
      have ht9 := D9.fr _ _ (hl9.2 (t, nameBy (i : Int) sh, rk) (List.mem_append_right _ (List.mem_singleton.mpr rfl)))
      have ati : atI ((qs ++ [(t, nameBy (i : Int) sh, rk)]).map fun q => V.ref q.1) (i : Int) = some (.ref t) := at_of rfl (by rw [List.getElem?_map, List.getElem?_append_right (by omega), hlen', Nat.sub_self]; rfl)
      refine s_dmeth (vs := [.str (nameBy (i : Int) sh), .int rk]) (ev_var rfl) hp9 rfl (ea_cons (ev_op (ev_op (ev_var rfl) (ev_var rfl) (rv_ixL (sq_of hlst9) ati)) ev_c (rv_ixT (st_of ht9) rfl)) (ea_cons (ev_op (ev_op (ev_var rfl) (ev_var rfl) (rv_ixL (sq_of hlst9) ati)) ev_c (rv_ixT (st_of ht9) rfl)) ea_nil)) fun H10 e10 => ?_
      refine ⟨F9, p, dOf pa ro qs, nameBy (i : Int) sh, rk, rfl, D9.ex e10, ok'.wf, by omega, fun e he => (by rw [hE] at he; cases he), fun _ H11 D11 => ?_⟩
      rw [dOf_enter (t := t)] at D11
      refine ⟨_, F9, _, rfl, eF9, hl9, D11, dOf_enter_ok ok' hE, ?_, by rw [List.length_append, hlen']; rfl⟩
      unfold nmQ at hnm' ⊢
      rw [List.map_append, hnm', List.range_succ, List.map_append]
      rfl
    rintro σ' H7 ⟨v6, F7, qs7, rfl, eF7, hl7, D7, ok7, _, _⟩
    clear D5 D6 hl6 e6 nl6
    obtain ⟨cs, hcs, hcl⟩ := cut_tail (ns := ns)
    have hsl : EvL (tSl (rSlL K) (tVar 0) (tPart (tC (.int 3))) tNoPart) [some (.ref a), some (.int sh), some (.int ro), some (.int pa), some (.ref p), some (.ref l), v6, none, none, none, none] H7 (cs.map V.int) := by
      rw [← hcs]
      exact el_sl (ev_var rfl) (eo_some ev_c) eo_none (ex_l (eF7.trans D7.fr) hS4)
    refine q_forNLn (K := K) hsl (fun z i σ' H' => ∃ v7 v8 v9 v10 F' qs, σ' = [some (.ref a), some (.int sh), some (.int ro), some (.int pa), some (.ref p), some (.ref l), v6, v7, v8, v9, v10] ∧ Ex (upd H4 z (.lst (cs.map V.int))) F' ∧ (upd H4 z (.lst (cs.map V.int))) l = none ∧ LpAt F' l qs ∧ DeskAt K F' H' p (dOf pa ro qs) ∧ (dOf pa ro qs).Ok)
      (fun z H8 nz e8 hz => ⟨none, none, none, none, _, qs7, rfl, upd_mono eF7, ?_, hl7.ex (Ex.new (ex_none D7.fr nz)), D7.new nz e8 hz, ok7⟩) (fun z i σ' H' _ ⟨_, _, _, _, F', qs', _, eF', _, _, D', _⟩ => sq_of (D'.fr _ _ (eF' _ _ upd_same))) ?_ ?_
    · rw [upd_ne (fun e => by rw [← e, D7.fr _ _ hl7.1] at nz; cases nz)]
      exact hl0
    · rintro z i x σ' H' hi ⟨v7, v8, v9, v10, F', qs, rfl, eF', hl0', hl', D', ok'⟩
      rw [List.getElem?_map] at hi
      obtain ⟨cell, hcell, rfl⟩ := Option.map_eq_some_iff.mp hi
      have m0 := mix_nonneg (c := cell) (p := 10009) (m := 70) (by decide)
      have m1 := mix_lt (c := cell) (p := 10009) (m := 70) (by decide)
      have hn0 : isName (nameBy (mix cell 10009 70) sh) = true := nameBy_ok m0 (by omega)
      refine q_asg (v := .str (nameBy (mix cell 10009 70) sh)) (ev_call (ea_cons (ev_call (ea_cons (ev_var rfl) (ea_cons ev_c (ea_cons ev_c ea_nil))) (cv_L_mix (by decide) (by decide))) (ea_cons (ev_var rfl) ea_nil)) (cv_L_name_by m0 (by omega))) fun H1 e1 => ?_
      generalize nameBy (mix cell 10009 70) sh = nm0 at *
      have hz0 := (isName_len hn0).2
      refine q_ifAsg (b := decide (mix cell 10091 9 = 0)) (v := .str (if mix cell 10091 9 = 0 then cutS nm0 (some (-1)) none else nm0)) (et_mix0 (ev_call (ea_cons (ev_var rfl) (ea_cons ev_c (ea_cons ev_c ea_nil))) (cv_L_mix (by decide) (by decide)))) (fun hb => ?g1) (fun hb => ?g2) fun H2 e2 => ?_
      case g1 =>
        rw [if_pos (of_decide_eq_true hb)]
        exact ev_slS (ev_var rfl) (eo_some (ev_un ev_c ru_neg)) eo_none (by omega)
      case g2 =>
        rw [if_neg (of_decide_eq_false hb)]
        rfl
      have hn1 : isName (if mix cell 10091 9 = 0 then cutS nm0 (some (-1)) none else nm0) = true := by
        split
        · exact cut_last hn0
        · exact hn0
      generalize (if mix cell 10091 9 = 0 then cutS nm0 (some (-1)) none else nm0) = nm1 at *
      have hz1 := (isName_len hn1).2
      obtain ⟨rk, _, hatk⟩ := pick_all (xs := [mix cell 10037 100, 0, 99, 42, 100, -1, 1000000000000]) (i := mix cell 10039 7) (P := fun _ => True) (mix_nonneg (by decide)) (mix_lt (by decide)) (fun _ _ => trivial)
      refine q_asg (v := .int rk) (ev_opL1 (xs := ([mix cell 10037 100, 0, 99, 42, 100, -1, 1000000000000] : List Int).map V.int) (el_lst (ea_cons (ev_call (ea_cons (ev_var rfl) (ea_cons ev_c (ea_cons ev_c ea_nil))) (cv_L_mix (by decide) (by decide))) (ea_cons ev_c (ea_cons ev_c (ea_cons ev_c (ea_cons ev_c (ea_cons (ev_un ev_c ru_neg) (ea_cons (ev_op ev_c ev_c (rv_I (by unfold CPow; decide))) ea_nil))))))) (by show 7 ≤ 100000; decide)) (fun H7 e7 => ev_call (ea_cons (ev_var rfl) (ea_cons ev_c (ea_cons ev_c ea_nil))) (cv_L_mix (by decide) (by decide))) (fun q H7 h7 e7 => rv_ixL (sq_of h7) hatk)) fun H3 e3 => ?_
      refine q_asg (v := .int (mix cell 10007 8)) (ev_call (ea_cons (ev_var rfl) (ea_cons ev_c (ea_cons ev_c ea_nil))) (cv_L_mix (by decide) (by decide))) fun H4' e4' => ?_
      have w0 := mix_nonneg (c := cell) (p := 10007) (m := 8) (by decide)
      have w1 := mix_lt (c := cell) (p := 10007) (m := 8) (by decide)
      generalize mix cell 10007 8 = w at *
      obtain ⟨odd, hodd, hato⟩ := pick_allS (xs := ["", "A", "a b", "a_", nm1 ++ "-", "abcdefghijklm"]) (i := mix cell 10067 6) (P := fun s => isName s = false ∧ s.length ≤ 100) (mix_nonneg (by decide)) (mix_lt (by decide)) (by
        intro x hx
        simp only [List.mem_cons, List.not_mem_nil, or_false] at hx
        rcases hx with rfl | rfl | rfl | rfl | rfl | rfl
        · decide +kernel
        · decide +kernel
        · decide +kernel
        · decide +kernel
        · refine ⟨name_dash, ?_⟩
          rw [len_app]
          have : ("-" : Str).length = 1 := by decide +kernel
          omega
        · decide +kernel)
      refine q_ifAsg (b := decide (w = 0) || (decide (5 < w) && decide (mix cell 10301 4 = 0))) (v := .str (if w = 0 ∨ (5 < w ∧ mix cell 10301 4 = 0) then odd else nm1)) (et_or (et_mix0 (ev_var rfl)) fun _ => et_and (et_test (ev_op (ev_var rfl) ev_c rv_I0)) fun _ => et_mix0 (ev_call (ea_cons (ev_var rfl) (ea_cons ev_c (ea_cons ev_c ea_nil))) (cv_L_mix (by decide) (by decide)))) (fun hb => ?g3) (fun hb => ?g4) fun H5 e5 => ?_
      case g3 =>
        rw [if_pos (by simpa using hb)]
        refine ev_opL1 (xs := (["", "A", "a b", "a_", nm1 ++ "-", "abcdefghijklm"] : List Str).map V.str) (el_lst (ea_cons ev_c (ea_cons ev_c (ea_cons ev_c (ea_cons ev_c (ea_cons (ev_op (ev_var rfl) ev_c (rv_addS ?hz)) (ea_cons ev_c ea_nil)))))) (by show 6 ≤ 100000; decide)) (fun H7 e7 => ev_call (ea_cons (ev_var rfl) (ea_cons ev_c (ea_cons ev_c ea_nil))) (cv_L_mix (by decide) (by decide))) (fun q H7 h7 e7 => rv_ixL (sq_of h7) hato)
        have : ("-" : Str).length = 1 := by decide +kernel
        rw [this]
        exact sz_of (by omega)
      case g4 =>
        rw [if_neg ?_]
        · rfl
        · intro h
          rcases h with h | ⟨h1, h2⟩
          · rw [decide_eq_true h] at hb
            cases hb
          · rw [decide_eq_true h1, decide_eq_true h2] at hb
            simp at hb
      have hnm2 : (if w = 0 ∨ (5 < w ∧ mix cell 10301 4 = 0) then odd else nm1).length ≤ 100 ∧ (w ≠ 6 → w ≠ 7 → isName (if w = 0 ∨ (5 < w ∧ mix cell 10301 4 = 0) then odd else nm1) = decide (0 < w)) := by
        split
        · rename_i hc
          refine ⟨hodd.2, fun n6 n7 => ?_⟩
          rw [hodd.1, decide_eq_false (by omega)]
        · rename_i hc
          refine ⟨by omega, fun n6 n7 => ?_⟩
          rw [hn1, decide_eq_true (by omega)]
      generalize (if w = 0 ∨ (5 < w ∧ mix cell 10301 4 = 0) then odd else nm1) = nm2 at *
      have D5 := D'.ex (((e1.trans e2).trans e3).trans (e4'.trans e5))
      refine ms_when (b := false) (R := fun H8 => ∃ F8 qs8, Ex (upd H4 z (.lst (cs.map V.int))) F8 ∧ LpAt F8 l qs8 ∧ DeskAt K F8 H8 p (dOf pa ro qs8) ∧ (dOf pa ro qs8).Ok) (mt_or (R1 := fun H8 => ∃ F8 qs8, Ex (upd H4 z (.lst (cs.map V.int))) F8 ∧ LpAt F8 l qs8 ∧ DeskAt K F8 H8 p (dOf pa ro qs8) ∧ (dOf pa ro qs8).Ok) (mt_is (mt_not (b := true) (mt_B (mv_call (vs := [.ref p, .ref l, .str nm2, .int rk, .int w]) (ea_cons (ev_var rfl) (ea_cons (ev_var rfl) (ea_cons (ev_var rfl) (ea_cons (ev_var rfl) (ea_cons (ev_var rfl) ea_nil))))) fun H8 e8 Q E kk => ⟨_, F', p, pa, ro, l, qs, nm2, rk, w, rfl, eF', hl0', D5.ex e8, ok', hl', hnm2.1, hnm2.2, fun F9 H9 qs9 eF9 hl9 D9 ok9 => kk H9 ⟨F9, qs9, eF9, hl9, D9, ok9⟩⟩))) rfl) fun H8 ⟨F8, qs8, eF8, hl8, D8, ok8⟩ => ?_) (fun h => by cases h) fun _ H9 ⟨F9, qs9, eF9, hl9, D9, ok9⟩ => ⟨_, _, _, _, F9, qs9, rfl, eF9, hl0', hl9, D9, ok9⟩
      obtain ⟨l8, ps8, DD8, ff8⟩ := id D8
      exact mt_sub (mt_of (et_is (et_not (a := true) (et_B (ev_call (vs := [.ref p, .ref l, .int pa, .int ro, .int cell]) (ea_cons (ev_var rfl) (ea_cons (ev_var rfl) (ea_cons (ev_var rfl) (ea_cons (ev_var rfl) (ea_cons (ev_var rfl) ea_nil))))) (spv_call fun H9 e9 Q E kk => ⟨p, l8, ps8, pa, ro, l, qs8, cell, rfl, DD8.ex e9, ok8, hl8.ex (D8.fr.trans e9), kk⟩)))) rfl)) fun H9 e9 => ⟨F8, qs8, eF8, hl8, D8.ex e9, ok8⟩
    · rintro z σ' H8 ⟨v7, v8, v9, v10, F', qs, rfl, _, _, _, _, _⟩
      refine q_when (b := false) (et_is (et_or (a := false) (b := false) (et_is (et_test (ev_op (ev_mkFld (pa := 1000) (ro := 60) (v := .int 60) (ea_cons ev_c (ea_cons ev_c ea_nil)) (by decide) (c_Desk T) (n_Desk_room T) (fun _ => rfl)) ev_c (rv_ne rfl))) (by decide +kernel)) fun _ => et_is (et_test (ev_op (ev_mkFld (pa := 1) (ro := 1) (v := .int 1) (ea_cons ev_c (ea_cons ev_c ea_nil)) (by decide) (c_Desk T) (n_Desk_pace T) (fun _ => rfl)) ev_c (rv_ne rfl))) (by decide +kernel)) rfl) (fun h => by cases h) fun _ H9 e9 => ?_
      exact s_ret (v := .bl true) (ev_call (vs := [.int (sh % 9), .int (sh / 9 % 1000000)]) (ea_cons (ev_op (ev_var rfl) ev_c (rv_I (show (0 : Int) < 9 by decide))) (ea_cons (ev_op (ev_op (ev_var rfl) ev_c (rv_I (by unfold CDiv; decide))) (ev_op ev_c ev_c (rv_I (by unfold CPow; decide))) (rv_I (by decide))) ea_nil)) (spv_call fun H10 e10 Q E kk => ⟨sh % 9, sh / 9 % 1000000, rfl, by omega, by omega, by omega, kk⟩)) fun H10 e10 => k H10
end Rr
namespace Rr
open PySem PySem.Spec PyProof.Rows L2
def loose0 : List PySem.Str := ["_wall", "Caller", "DeskError", "NoName", "NoRank", "NoSpan", "NoDesk", "Known", "Unknown", "Full", "NotReady", "IsReady", "SIGNS", "MOST", "is_name", "TOP", "aged", "limit", "MOST_PACE", "MOST_ROOM", "MOST_TURNS", "Desk", "_law_whole", "_law_cell_at", "_law_mix", "_law_name_by", "_law_texts", "_law_word", "_law_no_desk", "_law_enters"]
def loose1 : List PySem.Str := ["_law_unknown", "_law_due", "_law_stands", "_law_step"]
def loose : List PySem.Str := loose0 ++ loose1
abbrev R : PySem.W.OpenRow := PySem.W.OpenLaw.row PySem.Challenge.rw_rrdesk_k04_entering
abbrev hk : PySem.W.Hook := hookE 6 fa fn excK
def ob (s : PySem.W.SharedT) : He.AlD × Bool := obsEG 6 fa fn excK (HandSHeadRun.getT s)
theorem ob_eq (s : PySem.W.SharedT) : ob s = hk.obs s.abs := obsEG_eq (HandSHeadRun.getT_eq s)
theorem run (w : World) : HandSHeadRun.RunEq R (PySem.W.view R.prog [40]) hk ob 6000 loose w := by
  intro os
  kernel_rfl
theorem facts {P : Program} {w : World} {K : PySem.W.Frag} {h : Heap} {mg : Str → Option Value} {f : Addr} (X : K.In h) (G : h.Ns mainGlobals mg) (hfa : mg ("law" : Str) = some (.ref f)) (c : He.SaysD fa fn K) (cx : excK K = true) :
    ∃ fd : FuncData, (∀ (s : Shared) (v : Value), BindsTo s fd ⟨[v], []⟩ [("_law_script", v)]) ∧ ∀ base : Heap, K.In base → base.Ns mainGlobals mg → FnOk P w K mg base CX0 6 f fd ["_law_script"] (sp_law K) := by
  have T : Txt K mg := ⟨c, ⟨h, X, G⟩, cx⟩
  have e := hfa.symm.trans (g_law T)
  cases e
  obtain ⟨fd, F⟩ := f_law T
  have b := FunD.bindsA (ps := ["_law_script"]) F fun _ _ _ _ _ _ us hl => match us, hl with | [_], _ => rfl
  refine ⟨fd, fun s v => b s [v] rfl, fun base _ _ => ?_⟩
  obtain ⟨fd', G', _, F'⟩ := ok_law (P := P) (w := w) (base := base) T
  exact (funD_same F F') ▸ G'
end Rr
open PySem PySem.W PySem.Calls PyProof.Rows
set_option maxRecDepth 100000 in
set_option maxHeartbeats 0 in
theorem PySem.Challenge.cw_rrdesk_k04_entering_holds : PySem.Challenge.rw_rrdesk_k04_entering.Holds := by
  w_on; o_law
  refine HandSHeadRun.head_any (r := OpenLaw.row PySem.Challenge.rw_rrdesk_k04_entering) (q := view (OpenLaw.row PySem.Challenge.rw_rrdesk_k04_entering).prog [40]) (H := Rr.hk) (ob := Rr.ob) (M := 6000) (loose := Rr.loose) (d := HandSHeadRun.topDef (OpenLaw.row PySem.Challenge.rw_rrdesk_k04_entering).prog 40) (kwd := []) Rr.ob_eq
    (by kernel_rfl) (fun s => by kernel_rfl) Rr.run (by kernel_rfl) (by kernel_rfl) (by kernel_rfl) (by rfl) (by first | assumption | decide +kernel) (by decide +kernel) ⟨rfl, rfl, rfl, rfl, rfl, by decide +kernel⟩ ?hw ?hc
  case hw => w_witness2
  case hc =>
    refine L2.walk_ofE (l := PySem.Challenge.rw_rrdesk_k04_entering) (n := 63) (k := 6) (x := "_law_script") (CX := L2.CX0) rfl (by decide) (by kernel_rfl) ⟨rfl, by decide, by decide⟩ ?F (fun _ _ _ _ z => z)
    intro w mg fa h Y G hmg0
    obtain ⟨K, KX, c, cx⟩ := Y
    have hmg : mg ("law" : PySem.Str) = some (.ref fa) := by
      have e : (HandSHeadRun.topDef (OpenLaw.row PySem.Challenge.rw_rrdesk_k04_entering).prog 40).name = ("law" : PySem.Str) := by kernel_rfl
      rw [← e]
      exact hmg0
    obtain ⟨fd, hb, hF⟩ := Rr.facts (P := (PySem.Challenge.rw_rrdesk_k04_entering).prog) (w := w) KX G hmg c cx
    exact ⟨K, fd, Rr.sp_law K, KX, hb, fun H a ns hl _ hS => ⟨a, ns, rfl, hS, hl, fun _ => rfl⟩, hF⟩

#print axioms PySem.Challenge.cw_rrdesk_k04_entering_holds

