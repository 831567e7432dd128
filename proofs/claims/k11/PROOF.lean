import PyProof.Rows.All
import PyProof.Rows.StrRev
import Wide.All
import OpenK.AllK
import Wide.FinOn
import KE.KStateDown
import HandS.Base
import HandS.Call
import HandS.List
import HandS.Comp
import HandS.Ends
import HandS.Dict
import HandS.Iter
import HandS.Text
import HandS.More
import HandS.Codes
import HandS.Conv
import HandS.Exc
import HandS.TryOnly
import HandS.ExcOwn
import HandS.Words
import HandS.WordsList
import HandS.WordsExc
import HandS.Defaults
import HandS.IsInst
import HandS.Style
import HandS.SortKw
import HandS.ExcValue
import KE.SortKeyHeap
import HandS.Evl
import HandS.Head0
import HandS.Head1
import HandS.Head2
import HandS.HeadEnd
import HandS.HeadHook1
import HandS.HeadHook2
import HandS.ExcCtx
import HandS.HotCalls
import HandS.ExcIs
import HandS.Hot
import PySem.Challenge.RW_rrdesk_k11_read
set_option Elab.async false
set_option linter.all false
set_option maxRecDepth 100000
set_option maxHeartbeats 4000000
namespace Rr
open PySem PySem.Spec PyProof.Rows L2 Evl
/-! ### where an exception is handled: the end of a list, sums, comprehensions, isinstance -/
section
variable {prog : Program} {w : World} {A : Around} {E : Value → Shared → Prop} {s : Shared} {t l x1 : Addr} {i : Nat} {vs : Array Value}
theorem end_hot {Q : Option Value → Shared → Prop} (hot : HotX.HotAt A x1 s.heap) (nx : x1 ≠ t) (hi : s.heap.IsListIter t l i) (hl : s.heap.IsList l vs) (hn : vs[i]? = none) (q : ∀ h', (∀ b o, b ≠ t → s.heap.get? b = some o → h'.get? b = some o) → Q none { s with heap := h' }) : wpAny (model prog w) A (pyNext (.ref t)) Q E s := by
  obtain ⟨o1, g1, c1, d1⟩ := id hi
  obtain ⟨o2, g2, _, n2, d2⟩ := hl
  obtain ⟨hh, o3, v3, g3, d3, k3⟩ := hot
  have ht := hi.typeIs
  unfold pyNext
  refine wpAny_bind (wpAny_attempt (wpAny_callSpecial?_slot (name := Str.ofString "__next__") ht slot_listiter_next (wpAny_call_entry slot_listiter_next ht entry_listiter_next ?_ (args_listiter_next _))))
  show wpAny _ _ (field (.ref t) 0 >>= _) _ _ s
  refine wpAny_bind (wpAny_field g1 d1 (x := .ref l) rfl ?_)
  show wpAny _ _ (if (Value.ref l == Value.none) = true then _ else _) _ _ s
  rw [if_neg (fun h : (Value.ref l == Value.none) = true => Bool.noConfusion h)]
  show wpAny _ _ (field (.ref t) 1 >>= _) _ _ s
  refine wpAny_bind (wpAny_field g1 d1 (x := .int i 0) rfl ?_)
  show wpAny _ _ (seqItems? (.ref l) >>= _) _ _ s
  refine wpAny_bind (wpAny_seqItems g2 d2 ?_)
  simp only [Int.toNat_natCast, hn]
  refine wpAny_bind (wpAny_rule (wpAny_bind (wpAny_setField g1 d1 (by simp) ?_)))
  show wpAny _ _ (newExc (.type "StopIteration") [] >>= _) _ _ _
  refine wpAny_bind ?_
  simp only [newExc, newTuple]
  refine wpAny_bind (wpAny_newObj_type ?_ (by size_fits))
  refine wpAny_bind (m := firstArgMember _ _) (wpAny_of_eq (a := Value.none) (by first | rfl | (simp only [firstArgMember]; rfl)) ?_)
  refine wpAny_newObj_type ?_ (by size_fits)
  have g4 : (s.heap.update t (Obj.mapFields (·.setIfInBounds 0 Value.none))).get? x1 = some o3 := by rw [Heap.get?_update_other _ _ nx.symm]; exact g3
  refine HotX.raiseNew_hot ⟨hh, o3, v3, Heap.get?_push_of_some _ (Heap.get?_push_of_some _ g4), d3, k3⟩ (Nat.ne_of_lt (Heap.lt_size (Heap.get?_push_of_some _ g4))) (Heap.get?_push_size _ rfl) rfl (by first | (simp; done) | (simp; omega) | (simp only [Array.size_append]; simp; omega)) ?_
  refine wpAny_bind (wpAny_isInstance (T := "StopIteration") (b := true) ⟨_, Heap.get?_update_self _ (Heap.get?_push_size _ rfl) rfl, rfl⟩ isSubtype_stop ?_)
  refine wpAny_pure (q _ fun b o hb e => ?_)
  have e2 : (s.heap.update t (Obj.mapFields (·.setIfInBounds 0 Value.none))).get? b = some o := by rw [Heap.get?_update_other _ _ (Ne.symm hb)]; exact e
  rw [Heap.get?_update_other _ _ (Nat.ne_of_gt (Heap.lt_size (Heap.get?_push_of_some _ e2)))]
  exact Heap.get?_push_of_some _ (Heap.get?_push_of_some _ e2)
/-- a walk over a list there -/
theorem walk_hot {o1 : Obj} {v1 : Array Value} (hh : A.handled = some (.ref x1)) (d1 : o1.data = .fields v1) (k1 : v1[2]? = some .none) (nl : l ≠ t) (nx : x1 ≠ t) : Walks prog w A t [t, l, x1] [t] vs.size (fun j v => vs[j]? = some v) (fun j h => h.IsListIter t l j ∧ h.IsList l vs ∧ h.get? x1 = some o1) where
  sub := fun b hb => by rw [List.mem_singleton] at hb; rw [hb]; exact List.mem_cons_self ..
  frame := fun j h h' st k => ⟨st.1.at fun o e => k t (by simp) o e, st.2.1.at fun o e => k l (by simp) o e, k x1 (by simp) _ st.2.2⟩
  item := fun j s' Q E' hj st hQ => by
    refine wpAny_pyNext_list_item st.1 st.2.1 (x := vs[j]) (by simp [hj]) fun h' hi' hs' => ?_
    refine hQ _ h' s'.toks (by simp [hj]) ⟨hi', st.2.1.extBut hs'.extBut nl, (hs'.2 x1 nx).trans st.2.2⟩ fun b o hb e => hs'.extBut b o (fun z => hb (by simp [z])) e
  done := fun s' Q E' st hQ => end_hot ⟨hh, o1, v1, st.2.2, d1, k1⟩ nx st.1 st.2.1 (by simp) fun h' he => hQ h' s'.toks fun b o hb e => he b o (fun z => hb (by simp [z])) e
  self := fun _ _ _ _ st hQ => wpAny_pyIter_listiter st.1 hQ
theorem sum_hot {its : List Value} {ns : List Int} {Q : Value → Shared → Prop} (hot : HotX.HotAt A x1 s.heap) (hl : s.heap.IsList l its.toArray) (hi : IntsAre its ns)
    (q : ∀ h' tk t', (∀ b o, s.heap.get? b = some o → h'.get? b = some o) → Q (.int ns.sum t') { s with heap := h', toks := tk }) : wpAny (model prog w) A (call (.builtin "sum") [.ref l]) Q E s := by
  obtain ⟨hh, o3, v3, g3, d3, k3⟩ := hot
  obtain ⟨xs, ex⟩ := hi.allInts.items
  have en : numsOf (intItems xs).toList = ns := by rw [← ex]; exact hi.numsOf
  rw [nums_intItems] at en
  rw [ex] at hl
  have hx1 := Heap.lt_size g3
  refine call_sum_walkG (iter_intList hl fun s2 e2 st fp nl => ?_)
  subst e2
  refine ⟨_, _, _, _, _, _, numAt xs, rfl, walk_hot (A := A.in1) (x1 := x1) (l := l) (vs := intItems xs) hh d3 k3 nl (Nat.ne_of_lt hx1), ⟨st.1, st.2, Heap.get?_push_of_some _ g3⟩, fun b hb => ?_, (fun _ _ => intItems_at), fun h' tk t' hk => ?_⟩
  · have hz : (s.heap.push { cls := .type "list_iterator", data := .fields #[.ref l, .int 0 0] }).objs.size = s.heap.objs.size + 1 := Heap.size_push ..
    simp only [List.mem_cons, List.not_mem_nil, or_false] at hb
    rcases hb with rfl | rfl | rfl
    · exact fp _ (by simp)
    · exact fp _ (by simp)
    · show _ < (s.heap.push _).objs.size
      rw [hz]
      exact Nat.lt_succ_of_lt hx1
  · have := q h' tk t' (old_kept hk)
    rw [← en] at this
    rw [show (intItems xs).size = xs.size from by simp [intItems], preSum_eq, List.take_of_length_le (by simp)]
    exact this
end
section
variable {X : Cx}
theorem cr_sumH (hc : L2H.HotC X) : CallR X (.builtin "sum") (rSum X.K) := by
  intro pins s σ H vs us Q I r h
  obtain ⟨a, ns, rfl, hs, q⟩ := h
  obtain ⟨its, rv, hl, _⟩ := I.list hs
  obtain ⟨x1, hot⟩ := hc.at I
  rw [Vals.ref1 r]
  exact sum_hot hot hl.isList rv.ints fun h' tk t' hk => ⟨.int _, H, I.kept hk, ⟨_, rfl⟩, q⟩
/-- isinstance(e, c) of the exception that is handled -/
theorem call_isH {a D : Addr} {oe : Obj} (hp : (a, oe) ∈ X.pn) (C : ExcC X.K D) (hz : Zc (.ref D) none oe) (hf : ∃ vs, oe.data = .fields vs) : CallR X (.builtin "isinstance") (rIsE X.K D a) := by
  intro pins s σ H xs us Q I r h
  obtain ⟨c, cv, b, rfl, hcv, e, q⟩ := h
  obtain ⟨u1, u2, rfl, r1, r2⟩ := vals2 r
  obtain rfl : u1 = Value.ref a := r1
  obtain rfl := hcv _ r2
  obtain ⟨g, _⟩ := I.pin (a, oe) (List.mem_append_left _ hp)
  have J : PySem.W.InstAt s.heap a oe D none := by
    obtain ⟨vs, hv⟩ := hf
    cases oe with
    | mk oc od dt sl =>
      obtain ⟨h1, h2⟩ := hz
      dsimp only at h1 h2 hv
      subst h1 h2 hv
      exact ⟨g, rfl, rfl, trivial⟩
  exact PySem.W.kia_one (PySem.W.handS_kitx_exc C.hg C.hk C.hs C.hd C.ha C.hn C.ht C.hm) I.kIn J e (fun z => nomatch z) fun tk => ⟨.bl b, H, I.kept (t' := tk) fun _ _ z => z, rfl, q⟩
end
/-- [elt for x in l] where an exception is handled: l a list that stands; the elements' values by f -/
def tLcH (K : PySem.W.Frag) (tl : TE) (j : Nat) (te : TE) : TE := fun σ H Q => tl σ H fun y H1 => ∃ (a : Addr) (xs : List V) (f : V → V), y = .ref a ∧ SqL K H1 a xs ∧ xs.length ≤ 1000 ∧
  (∀ x ∈ xs, ∀ H2, Ex H1 H2 → ∀ Q2 : VK, (∀ H3, Ex H2 H3 → Q2 (f x) H3) → te ((wipe σ [j]).set j (some x)) H2 Q2) ∧ ∀ D H2, H1 D = none → Ex H1 H2 → H2 D = some (.lst (xs.map f)) → Q (.ref D) H2
theorem wipe_set_get {σ : L2.St} {j k : Nat} {v : V} {w : V} (e : (wipe σ [j])[k]? = some (some w)) : ((wipe σ [j]).set j (some v))[k]? = some (some w) := by
  by_cases h : k = j
  · subst h
    exact absurd rfl (show ¬ k = k from fun _ => by
      have := (wipe_some e).2
      simp at this)
  · rw [List.getElem?_set_ne (Ne.symm h)]
    exact e
theorem pe_lcH {X : Cx} {elt iter : Expr} {x : Str} {px pos : Pos} {scope : Scope} {j : Nat} {tl te : TE} (hot : L2H.HotC X) (hN : X.N.Nodup) (hi : PE X iter tl) (ok : BlkOk X.N X.env.scope scope [(x, j)])
    (hg : ∀ (s : Shared) (H : Hp) (C : Addr) (cl : List (Str × Addr)) (fp : List Addr), PG (X.blk s H scope (compEnvC scope cl C X.env) fp) (.Name x px) (gName j)) (he : ∀ (s : Shared) (H : Hp) (C : Addr) (cl : List (Str × Addr)) (fp : List Addr), PE (X.blk s H scope (compEnvC scope cl C X.env) fp) elt te)
    (hs : ∀ y, foldedSetIterable iter X.env y = pure y := by intro _; rfl) : PE X (.ListComp elt [⟨.Name x px, iter, [], 0⟩] scope pos) (tLcH X.K tl j te) := by
  refine ⟨fun pins s σ H Q I h => ?_⟩
  rw [eval_ListComp]
  obtain ⟨p, hp1, hp2⟩ := hot
  have hfree : ∀ y ∈ scope.names, y.2 = .free → ∃ c, X.env.cells.lookup y.1 = some c := fun y hy e => (ok.free y hy e).elim (fun z => I.ok.has _ (.inl z)) fun z => I.ok.has _ (.inr z)
  refine wpAny_comprehension_free (use := none) rfl hs (closure_ok hfree) ok.kind (fun y hy e => by rw [ok.uniq y hy, e]) (thn (hi.run pins s σ H _ I h) fun lv s1 ⟨y, H1, I1, ry, a, xs, f, ey, hS, hz, hev, hQ⟩ => ?_)
  subst ey
  obtain rfl : lv = Value.ref a := ry
  obtain ⟨its, rv, hl, _⟩ := I1.list hS
  refine wpAny_pyIter_list hl.isList ?_
  generalize hit : s1.heap.objs.size = it
  generalize hs2 : ({ s1 with heap := s1.heap.push { cls := .type "list_iterator", data := .fields #[.ref a, .int 0 0] } } : Shared) = s2
  have hs2h : s2.heap = s1.heap.push { cls := .type "list_iterator", data := .fields #[.ref a, .int 0 0] } := by rw [← hs2]
  have I2 : Inv X pins σ H1 s2 := by rw [← hs2]; exact I1.kept (t' := s1.toks) fun b o e => Heap.get?_push_of_some _ e
  have hn1 : H1 it = none := I1.hok.fresh (Nat.le_of_eq hit)
  have f1 : FpOk X pins H1 it := I1.fpOk (Nat.le_of_eq hit) hn1
  have hi2 : s2.heap.IsListIter it a 0 := by rw [hs2h, ← hit]; exact ⟨_, Heap.get?_push_size _ rfl, rfl, rfl⟩
  have hlt : it < s2.heap.objs.size := let ⟨_, e, _⟩ := hi2; Heap.lt_size e
  refine wpAny_newObj_type (newEnv_comp ?_) (by show 0 ≤ sizeLine; decide)
  generalize hD : s2.heap.objs.size = D
  have hDn : H1 D = none := I2.hok.fresh (Nat.le_of_eq hD)
  generalize hs3 : ({ s2 with heap := s2.heap.push { cls := .type "list", data := .seq ([] : List Value).toArray } } : Shared) = s3
  have h3 : s3.heap = s2.heap.push { cls := .type "list", data := .seq ([] : List Value).toArray } := by rw [← hs3]
  have I3 : Inv X pins σ (upd H1 D (.lst [])) s3 := by
    rw [← hs3]
    exact I2.laid (t' := s2.toks) (fun b o e => Heap.get?_push_of_some _ e) (Nat.le_of_eq hD) ⟨Nat.zero_le _, [], 0, .nil, by rw [← hD]; exact Heap.get?_push_size _ rfl⟩
  have nDi : it ≠ D := by rw [← hD]; exact Nat.ne_of_lt hlt
  have fi3 : FpOk X pins (upd H1 D (.lst [])) it := ⟨by rw [upd_ne nDi]; exact hn1, f1.2⟩
  have hlt3 : it < s3.heap.objs.size := by rw [h3, Heap.size_push]; exact Nat.lt_succ_of_lt hlt
  have f3 : ∀ b ∈ [it], FpOk X pins (upd H1 D (.lst [])) b ∧ b < s3.heap.objs.size := fun b hb => by
    rw [List.mem_singleton] at hb
    rw [hb]
    exact ⟨fi3, hlt3⟩
  have P3 := I3.pin p (List.mem_append_left _ hp2)
  have I4 := block_start I3 ok hN f3
  have pg := hg s3 (upd H1 D (.lst [])) s3.heap.objs.size (cellsFrom (s3.heap.objs.size + 1) scope.names (cloFrom X.env.cells scope.names [])) [it]
  have pe := he s3 (upd H1 D (.lst [])) s3.heap.objs.size (cellsFrom (s3.heap.objs.size + 1) scope.names (cloFrom X.env.cells scope.names [])) [it]
  show codeAny _ _ (.compStart (.ListComp elt [⟨.Name x px, iter, [], 0⟩] scope pos) 0 (.ref it) (.ref D) (compEnvC scope (cellsFrom (s3.heap.objs.size + 1) scope.names (cloFrom X.env.cells scope.names [])) s3.heap.objs.size X.env)) (compPost (model X.prog X.w) X.A X.xe none _ (.ref D) s3.heap.objs.size) { s3 with heap := pushCells (s3.heap.push { cls := .type "dict", data := .dict #[] }) scope.names }
  generalize hce : compEnvC scope (cellsFrom (s3.heap.objs.size + 1) scope.names (cloFrom X.env.cells scope.names [])) s3.heap.objs.size X.env = ce at I4 pg pe ⊢
  have cL : ce.locals = s3.heap.objs.size := by subst hce; rfl
  generalize hs4 : ({ s3 with heap := pushCells (s3.heap.push { cls := .type "dict", data := .dict #[] }) scope.names } : Shared) = s4 at I4 ⊢
  have k34 : ∀ b o, s3.heap.get? b = some o → s4.heap.get? b = some o := fun b o e => by rw [← hs4]; exact pushCells_keeps _ _ _ _ (Heap.get?_push_of_some _ e)
  have hi4 : s4.heap.IsListIter it a 0 := hi2.at fun o e => k34 _ _ (by rw [h3]; exact Heap.get?_push_of_some _ e)
  have npx : p.1 ≠ it := fun z => by
    have := fi3.2.2.2.2.2 p (List.mem_append_left _ hp2)
    exact this z
  have npl : p.1 ≠ ce.locals := by rw [cL]; exact Nat.ne_of_lt (Heap.lt_size P3.1)
  have J4 : Inv (X.blk s3 (upd H1 D (.lst [])) scope ce [it]) [p] (wipe σ [j]) (upd H1 D (.lst [])) s4 := I4.pins_of fun q hq => by
    rw [List.mem_singleton] at hq
    rw [hq]
    refine ⟨k34 _ _ P3.1, P3.2.1, npl, fun hm => ?_, P3.2.2.2.2⟩
    exact (List.mem_cons.mp (I3.stkSub _ hm)).elim P3.2.2.1 P3.2.2.2.1
  have eD : Ex H1 (upd H1 D (.lst [])) := Ex.new hDn
  generalize hH3 : upd H1 D (.lst []) = H3 at *
  have hD3 : H3 D = some (.lst []) := by rw [← hH3]; exact upd_same
  have hotB : ∀ {H' : Hp} {s' : Shared} {ps : List (Addr × Obj)}, Inv (X.blk s3 H3 scope ce [it]) (p :: ps) (wipe σ [j]) H' s' → HotX.HotAt X.A p.1 s'.heap := fun I' => by
    obtain ⟨hh, v1, d1, k1⟩ := hp1
    exact ⟨hh, p.2, v1, (I'.pin p (List.mem_append_right _ (List.mem_cons_self ..))).1, d1, k1⟩
  have loop : codeAny (model X.prog X.w) X.A (.compLoop (.ListComp elt [⟨.Name x px, iter, [], 0⟩] scope pos) 0 (.ref it) (.ref D) ce) (compPost (model X.prog X.w) X.A X.xe none (fun v s' => EP X pins σ Q v s') (.ref D) s3.heap.objs.size) s4 := by
    refine compLoop_any (fun n s' => ∃ (i : Nat) (H' : Hp), n = xs.length - i ∧ i ≤ xs.length ∧ Inv (X.blk s3 H3 scope ce [it]) [p] (wipe σ [j]) H' s' ∧ s'.heap.IsListIter it a i ∧ H' it = none ∧ Ex H1 H' ∧ H' D = some (.lst ((xs.take i).map f))) ?_ xs.length ⟨0, H3, rfl, Nat.zero_le _, J4, hi4, fi3.1, eD, hD3⟩
    rintro n s5 ⟨i, H5, rfl, hi, I5, st5, n5, e5, hD5⟩
    obtain ⟨its5, rv5, hl5, _⟩ := I5.list (ex_l e5 hS)
    have nL : it ≠ ce.locals := (I5.ok.exf it (List.mem_singleton.mpr rfl)).1
    have nC : ∀ y c, ce.cells.lookup y = some c → c ≠ it := fun y c e => (I5.ok.exf it (List.mem_singleton.mpr rfl)).2 y c e
    have nP : ∀ q ∈ ([] : List (Addr × Obj)) ++ [p], q.1 ≠ it := fun q hq => by
      rw [List.nil_append, List.mem_singleton] at hq
      rw [hq]
      exact npx
    by_cases hlt5 : i < xs.length
    · obtain ⟨v, hv⟩ : ∃ v, xs[i]? = some v := ⟨_, List.getElem?_eq_getElem hlt5⟩
      obtain ⟨u, hu, ru⟩ := rv5.get hv
      refine wpAny_pyNext_list_item st5 hl5.isList (x := u) (by simpa using hu) fun h6 st6 sb6 => ?_
      have I6 : Inv (X.blk s3 H3 scope ce [it]) [p] (wipe σ [j]) H5 { s5 with heap := h6 } := I5.turned (t' := s5.toks) (fun b o hb e => (sb6.2 b hb).trans e) n5 nL (.inl (List.mem_singleton.mpr rfl)) nC nP
      obtain ⟨oi, ei, ci, di⟩ := id st6
      have nfs : it ∉ (X.blk s3 H3 scope ce [it]).fs := I5.ok.exfs it (List.mem_singleton.mpr rfl)
      have I7 : Inv (X.blk s3 H3 scope ce [it]) [p, (it, oi)] (wipe σ [j]) H5 { s5 with heap := h6 } := I6.pins_of fun q hq => by
        rcases List.mem_cons.mp hq with rfl | hq
        · exact I6.pin q (List.mem_append_right _ (List.mem_cons_self ..))
        · rw [List.mem_singleton] at hq
          rw [hq]
          exact ⟨ei, n5, nL, nfs, fun w z => by rw [di] at z; cases z⟩
      refine go_of (s := { s5 with heap := h6 }) ei ci di (by decide) ?_
      refine thnF (pg.run _ { s5 with heap := h6 } _ H5 v u (fun σ' H' => σ' = (wipe σ [j]).set j (some v) ∧ H' = H5) I7 ru ⟨rfl, rfl⟩) fun _ s8 ⟨σ8, H8, I8, e8, eH8⟩ => ?_
      subst e8 eH8
      refine thnF ((pts_nil (X := X.blk s3 H3 scope ce [it])).run _ s8 _ H8 (fun b H' => b = true ∧ H' = H8) I8 ⟨rfl, rfl⟩) fun b s9 ⟨H9, I9, eb, eH9⟩ => ?_
      subst eb eH9
      rw [if_pos rfl]
      refine thnF (pe.run _ s9 _ H9 _ I9 (hev v (List.mem_of_getElem? hv) H9 e5 (fun r H' => r = f v ∧ Ex H9 H') fun H' e' => ⟨rfl, e'⟩)) fun z s10 ⟨yv, H10, I10, r10, ey, e10⟩ => ?_
      subst ey
      refine app_ok (X := X.blk s3 H3 scope ce [it]) I10 (e10 _ _ hD5) (sz_lt (by rw [List.length_map]; have := List.length_take_le i xs; omega)) r10 fun s11 I11 => ?_
      have P11 := I11.pin (it, oi) (List.mem_append_right _ (List.mem_cons_of_mem _ (List.mem_cons_self ..)))
      refine ⟨xs.length - (i + 1), by omega, i + 1, _, rfl, hlt5, ?_, ⟨oi, P11.1, ci, di⟩, P11.2.1, ?_, ?_⟩
      · refine (I11.pins_of (pins' := [p]) fun q hq => I11.pin q (List.mem_append_right _ (by rw [List.mem_singleton] at hq; rw [hq]; exact List.mem_cons_self ..))).weak ?_ fun k w e => ?_
        · rw [List.length_set]
        · exact wipe_set_get e
      · exact Ex.mut (e5.trans e10) hDn
      · rw [upd_same, List.take_succ, hv, List.map_append]
        rfl
    · have ex : i = xs.length := by omega
      subst ex
      have hot5 := hotB I5
      refine end_hot hot5 npx st5 hl5.isList (by simp; exact Nat.le_of_eq rv5.length.symm) fun h6 k6 => ?_
      have I6 : Inv (X.blk s3 H3 scope ce [it]) [p] (wipe σ [j]) H5 { s5 with heap := h6 } := I5.turned (t' := s5.toks) (fun b o hb e => k6 b o hb e) n5 nL (.inl (List.mem_singleton.mpr rfl)) nC nP
      have I7 : Inv X pins σ H5 { s5 with heap := h6 } := I3.call' (s' := { s5 with heap := h6 }) (ch := [it]) I6.os I6.base I6.hok I6.bare fun b hb => by
        rw [List.mem_singleton] at hb
        rw [hb]
        exact ⟨fi3.2.2.2.1, fi3.2.1, fi3.2.2.2.2.1, fi3.2.2.2.2.2⟩
      have nCl : H5 s3.heap.objs.size = none := by
        have z : H5 ce.locals = none := I6.free
        rw [cL] at z
        exact z
      obtain ⟨m, hm, _⟩ := I6.loc
      have hm : h6.Ns ce.locals m := hm
      rw [cL] at hm
      refine ⟨m, hm, fun h7 sb7 => ?_⟩
      obtain ⟨f0, f1', f2, f3', f4, f5⟩ : FpOk X pins H5 s3.heap.objs.size := I3.fpOk (Nat.le_refl _) nCl
      rw [List.take_length] at hD5
      exact ⟨.ref D, H5, I7.turned (t' := s5.toks) (fun b o hb e => (sb7.2 b hb).trans e) f0 f1' f3' f4 f5, rfl, hQ D H5 hDn e5 hD5⟩
  exact codeAny_compStart_list loop (wpAny_pyIter_listiter hi4 loop)
/-! ### a def that is asked about the exception that is handled -/
def excNames : List Str := ["NoName", "NoRank", "NoSpan", "NoDesk", "Known", "Unknown", "Full", "NotReady", "IsReady"]
def excWords : List Str := ["name", "rank", "span", "desk", "known", "unknown", "full", "awake", "ready"]
abbrev excAt (K : PySem.W.Frag) (i : Nat) : Addr := He.ga K (excNames.getD i "")
def excB (K : PySem.W.Frag) (D : Addr) : Bool := decide (PySem.W.findIn K (.ref D) "__getattribute__" = some (some (.builtin "BaseException.__getattribute__"))) && (decide (PySem.W.findIn K (.ref D) "__getattr__" = some none) && (decide (PySem.W.subIn K (.ref D) (.type "BaseException") = some true) && (PySem.W.hasDictIn K D && (decide (PySem.W.findIn K (.ref D) "__class__" = some (some (.builtin "object.__class__"))) &&
  (decide (PySem.W.specialIn K (.builtin "object.__class__") "__get__" = some (some (.builtin "getset_descriptor.__get__"))) && (decide (PySem.W.takesIn K (.builtin "object.__class__") = some true) && decide (PySem.W.mroIn K D (.type "object") = some true)))))))
theorem excB_ok {K : PySem.W.Frag} {D : Addr} (h : excB K D = true) : ExcC K D := by
  obtain ⟨h1, h⟩ := He.ba h
  obtain ⟨h2, h⟩ := He.ba h
  obtain ⟨h3, h⟩ := He.ba h
  obtain ⟨h4, h⟩ := He.ba h
  obtain ⟨h5, h⟩ := He.ba h
  obtain ⟨h6, h⟩ := He.ba h
  obtain ⟨h7, h8⟩ := He.ba h
  exact ⟨of_decide_eq_true h1, of_decide_eq_true h2, of_decide_eq_true h3, h4, of_decide_eq_true h5, of_decide_eq_true h6, of_decide_eq_true h7, of_decide_eq_true h8⟩
/-- what is asked of the classes of exceptions, beside the facts of the head -/
def excK (K : PySem.W.Frag) : Bool := (List.range 9).all fun i => excB K (excAt K i) && (decide (PySem.W.kitOne K (.ref (excAt K i)) (.type "ValueError") = some true) && decide (PySem.W.exmOne K (.ref (excAt K i)) (.ref (He.ga K "DeskError")) = some true) && (List.range 9).all fun j => decide (PySem.W.kitOne K (.ref (excAt K i)) (.ref (excAt K j)) = some (decide (j = i))) && decide (PySem.W.exmOne K (.ref (excAt K i)) (.ref (excAt K j)) = some (decide (j = i))))
structure ExcKs (K : PySem.W.Frag) : Prop where
  c : ∀ i, i < 9 → ExcC K (excAt K i)
  v : ∀ i, i < 9 → PySem.W.kitOne K (.ref (excAt K i)) (.type "ValueError") = some true
  d : ∀ i, i < 9 → PySem.W.exmOne K (.ref (excAt K i)) (.ref (He.ga K "DeskError")) = some true
  k : ∀ i j, i < 9 → j < 9 → PySem.W.kitOne K (.ref (excAt K i)) (.ref (excAt K j)) = some (decide (j = i))
  x : ∀ i j, i < 9 → j < 9 → PySem.W.exmOne K (.ref (excAt K i)) (.ref (excAt K j)) = some (decide (j = i))
theorem excK_ok {K : PySem.W.Frag} (h : excK K = true) : ExcKs K := by
  have key : ∀ i, i < 9 → ExcC K (excAt K i) ∧ PySem.W.kitOne K (.ref (excAt K i)) (.type "ValueError") = some true ∧ PySem.W.exmOne K (.ref (excAt K i)) (.ref (He.ga K "DeskError")) = some true ∧ ∀ j, j < 9 → PySem.W.kitOne K (.ref (excAt K i)) (.ref (excAt K j)) = some (decide (j = i)) ∧ PySem.W.exmOne K (.ref (excAt K i)) (.ref (excAt K j)) = some (decide (j = i)) := fun i hi => by
    obtain ⟨h1, h2⟩ := He.ba (List.all_eq_true.mp h i (List.mem_range.mpr hi))
    obtain ⟨h2, h3⟩ := He.ba h2
    obtain ⟨h2, h4⟩ := He.ba h2
    refine ⟨excB_ok h1, of_decide_eq_true h2, of_decide_eq_true h4, fun j hj => ?_⟩
    obtain ⟨h5, h6⟩ := He.ba (List.all_eq_true.mp h3 j (List.mem_range.mpr hj))
    exact ⟨of_decide_eq_true h5, of_decide_eq_true h6⟩
  exact ⟨fun i hi => (key i hi).1, fun i hi => (key i hi).2.1, fun i hi => (key i hi).2.2.1, fun i j hi hj => ((key i hi).2.2.2 j hj).1, fun i j hi hj => ((key i hi).2.2.2 j hj).2⟩
/-- the hook: the facts, and one test more -/
def hookE (n : Nat) (fa : List He.Fa) (fn : List He.DefD) (ex : PySem.W.Frag → Bool) : PySem.W.Hook where
  α := He.AlD × Bool
  obs := fun s => (He.obsDG n fa fn s.heap.get?, ex (He.frG s.heap.get? (He.asD s.heap.get? n)))
  val := fun _ => (He.valD fn, true)
  says := fun _ h => ∃ K : PySem.W.Frag, K.In h ∧ He.SaysD fa fn K ∧ ex K = true
  of := fun _ _ e => ⟨_, He.frG_in, congrArg (fun z : He.AlD × Bool => z.1) e, congrArg (fun z : He.AlD × Bool => z.2) e⟩
  keeps := fun _ _ _ ⟨K, hK, c⟩ k => ⟨K, PySem.W.Frag.In.keeps hK k, c⟩
def obsEG (n : Nat) (fa : List He.Fa) (fn : List He.DefD) (ex : PySem.W.Frag → Bool) (g : Addr → Option Obj) : He.AlD × Bool := (He.obsDG n fa fn g, ex (He.frG g (He.asD g n)))
theorem obsEG_eq {n : Nat} {fa : List He.Fa} {fn : List He.DefD} {ex : PySem.W.Frag → Bool} {g : Addr → Option Obj} {s : Shared} (h : ∀ a, g a = s.heap.get? a) : obsEG n fa fn ex g = (hookE n fa fn ex).obs s := by
  have e : g = s.heap.get? := funext h
  rw [e] <;> rfl
/-- what such a def promises: of the i-th class it tells the i-th word -/
structure FnE (P : Program) (w : World) (K : PySem.W.Frag) (mg : Str → Option Value) (base : Heap) (k : Nat) (f : Addr) (fd : FuncData) (x : Str) : Prop where
  run : ∀ (A : Around) (outer : List Env) (s : Shared) (H : Hp) (args : Args) (p : Addr × Obj) (i : Nat) (Q : VK), i < 9 → Zc (.ref (excAt K i)) none p.2 → L2H.RoomH k A → L2H.Hot1 A p → L2H.PinOk outer H s p → Env0 P w K mg base A outer s H → BindsTo s fd args [(x, .ref p.1)] → RetV (.str (excWords.getD i "")) H Q →
    codeAny (model P w) A (.call (.ref f) args) (CR CX0 outer P w H s Q E0) s
theorem FnE.of {P : Program} {w : World} {K : PySem.W.Frag} {mg : Str → Option Value} {base : Heap} {x y qual : Str} {params : Arguments} {body : List Stmt} {scope : Scope} {f : Addr} {fd : FuncData} {N : List Str} {k : Nat} (F : FunD K x qual params body scope [] [] f fd) (S : FnScope N [y] scope)
    (hb : ∀ (cdv : Value) (A : Around) (outer : List Env) (s : Shared) (H : Hp) (p : Addr × Obj) (i : Nat) (Q : VK), i < 9 → Zc (.ref (excAt K i)) none p.2 → L2H.Hot1 A p → L2H.RoomH k (A.deeper (envOfC qual scope s.heap.objs.size f cdv)) → RetV (.str (excWords.getD i "")) H Q →
      ∃ t, PSs (L2H.cxH CX0 P w K mg base N qual scope f cdv A outer s H E0 p) body t ∧ t { nx := fun _ H' => Q .non H', rt := Q } (L2.start N [.ref p.1]) H) : FnE P w K mg base (k + 1) f fd y := by
  obtain ⟨oc, od, dV, kV, doc, pm, an, cdv, ct, osl, rfl, lk, hcd, _, _⟩ := F.ex
  refine ⟨fun A outer s H args p i Q hi hz hr hot pin e0 bd hq => ?_⟩
  have KX : K.In s.heap := e0.mod.kin.keeps fun b o e => (e0.bs b o e).1
  have lim : s.heap.NoLimit := e0.mod.nolimit.keeps fun b o e => (e0.bs b o e).1
  have hk : ∀ q ∈ [(y, Value.ref p.1)], scope.names.lookup q.1 = some .local ∨ (scope.names.lookup q.1 = some .cell ∧ ((cellsFrom (s.heap.objs.size + 1) scope.names []).lookup q.1).isSome = true) := fun q hq => by
    rw [List.mem_singleton] at hq
    rw [hq]
    exact (S.par y (List.mem_singleton.mpr rfl)).imp id fun z => ⟨z, PySem.W.cellsFrom_some _ _ _ (.inl z)⟩
  refine codeAny_call_function hr.depth (KX _ _ lk) rfl S.co S.gen rfl (PySem.W.codeRec_of KX hcd) (bd _ _ _ _ ?_)
  refine wpAny_newFunctionEnv_cells S.kind hk fun env he s1 ic => ?_
  subst he
  refine ⟨lim.keeps ic.toInCall.keep, codeAny_func ?_⟩
  obtain ⟨t, ht, hd⟩ := hb cdv A outer s H p i Q hi hz hot (hr.deeper _) hq
  have I := L2H.inv_startH (CX := CX0) (E := E0) (us := [Value.ref p.1]) (vs := [V.ref p.1]) S pin e0 rfl (.cons rfl .nil) ic
  refine wpAny_mono (ht.run [] s1 _ H _ I hd) (fun fl s' hs => ?_) fun e s' hs => hs
  cases fl with
  | ret u =>
    obtain ⟨v, σ', H', J, rv, q⟩ := hs
    exact ⟨v, H', J.os, J.bare, J.base, J.hok, rv, q⟩
  | next =>
    obtain ⟨σ', H', J, q⟩ := hs
    exact ⟨.non, H', J.os, J.bare, J.base, J.hok, rfl, q⟩
  | brk => exact False.elim hs.choose_spec.choose_spec.2
  | cont => exact False.elim hs.choose_spec.choose_spec.2
/-- word(e) in an except suite -/
def tWord (K : PySem.W.Frag) (a : Addr) (cls : Value) (d : Option Addr) (j : Nat) : TE := fun σ H Q => σ[j]? = some (some (.ref a)) ∧ ∃ i, i < 9 ∧ cls = .ref (excAt K i) ∧ d = none ∧ RetV (.str (excWords.getD i "")) H Q
theorem pe_word {X : Cx} {k j : Nat} {f a : Addr} {fd : FuncData} {x y n : Str} {q q2 pos : Pos} {oe : Obj} {cls : Value} {d : Option Addr} {pn : List (Addr × Obj)} (F : FnE X.prog X.w X.K X.mg X.base k f fd y) (hr : Room k X.A) (hg : Gl X x) (hm : X.mg x = some (.ref f)) (hk : PySem.W.keepIn X.K (.ref f) = true) (hb : L2.Binds X.K fd [y] [])
    (hz : L2N.Zn cls d oe) (hf : ∃ vs, oe.data = .fields vs) (hv : PE (X.suite a ((a, oe) :: pn)) (.Name n q2) (tVar j)) (hdb : (x == ("__debug__" : Str)) = false := by decide) : PE (X.suite a ((a, oe) :: pn)) (.Call (.Name x q) [.Name n q2] [] pos) (tWord X.K a cls d j) := by
  refine ⟨fun pins s σ H Q I h => ?_⟩
  obtain ⟨hj, i, hi, rfl, rfl, hq⟩ := h
  refine wpAny_Call_Name_kw (ld_glob I hg hm ?_ hdb)
  have ha : PA (X.suite a ((a, oe) :: pn)) [.Name n q2] (tCons (tVar j) tNil) := pa_cons hv pa_nil
  refine PySem.W.callWith_K (h₀ := X.base) I.ok.mod.kin hk (thn (ha.run pos pins s σ H (fun vs H1 => vs = [V.ref a] ∧ H1 = H) I ⟨_, hj, rfl, rfl⟩) fun us s1 ⟨vs, H1, I1, r, ev, eH⟩ => ⟨I1.kIn, ?_⟩)
  subst ev eH
  obtain ⟨u, rfl, ru⟩ := vals1 r
  obtain rfl : u = Value.ref a := ru
  obtain ⟨vs, hv⟩ := hf
  have P1 := I1.pin (a, oe) (List.mem_append_left _ (List.mem_cons_self ..))
  have b := hb s1 [Value.ref a] I1.kIn rfl
  refine wpAny_call (codeAny_mono (F.run (X.A.mark (some (.ref a))) X.stack s1 H1 ⟨[Value.ref a], []⟩ (a, oe) i Q hi hz.zc ⟨hr.dp, hr.un⟩ ⟨rfl, vs, hv, hz.2.2 vs hv⟩ ⟨P1.1, P1.2.1, fun hm => (List.mem_cons.mp (I1.stkSub a hm)).elim P1.2.2.1 P1.2.2.2.1, P1.2.2.2.2⟩ I1.env0 b hq) fun r s' hs => ?_)
  cases r with
  | error e => exact False.elim hs
  | ok fl =>
    cases fl with
    | ret u => exact I1.after hs
    | next => exact False.elim hs
    | brk => exact False.elim hs
    | cont => exact False.elim hs
/-! names of classes, their words -/
def exIx (e : Str) : Nat := excNames.idxOf e
def wordOf (e : Str) : Str := excWords.getD (exIx e) ""
theorem exIx_ok {e : Str} (h : e ∈ excNames) : exIx e < 9 ∧ excNames.getD (exIx e) "" = e := by
  have key : ∀ x ∈ excNames, exIx x < 9 ∧ excNames.getD (exIx x) "" = x := by decide +kernel
  exact key e h
def wordO : Option Str → Str
  | none => ""
  | some e => wordOf e
theorem ks_d {K : PySem.W.Frag} (KS : ExcKs K) {e : Str} (h : e ∈ excNames) : PySem.W.exmOne K (.ref (He.ga K e)) (.ref (He.ga K "DeskError")) = some true := by
  have q := exIx_ok h
  have := KS.d _ q.1
  unfold excAt at this
  rw [q.2] at this
  exact this
theorem ks_x {K : PySem.W.Frag} (KS : ExcKs K) {e f : Str} (h : e ∈ excNames) (h2 : f ∈ excNames) : PySem.W.exmOne K (.ref (He.ga K e)) (.ref (He.ga K f)) = some (decide (f = e)) := by
  have q := exIx_ok h
  have q2 := exIx_ok h2
  have := KS.x _ _ q.1 q2.1
  unfold excAt at this
  rw [q.2, q2.2] at this
  rw [this]
  refine congrArg some (decide_eq_decide.mpr ⟨fun z => ?_, fun z => by rw [z]⟩)
  rw [← q.2, ← q2.2, z]
theorem ev_word {K : PySem.W.Frag} {σ : L2.St} {H : Hp} {a : Addr} {j : Nat} {e : Str} (hj : σ[j]? = some (some (.ref a))) (h : e ∈ excNames) : Ev (tWord K a (.ref (He.ga K e)) none j) σ H (.str (wordOf e)) := fun H1 _ Q q => by
  have z := exIx_ok h
  exact ⟨hj, exIx e, z.1, by unfold excAt; rw [z.2], rfl, fun H2 e2 => q H2 e2⟩
/-! a def that may raise: the context of what it raises is None -/
theorem okXN {P : Program} {w : World} {K : PySem.W.Frag} {mg : Str → Option Value} {base : Heap} {x qual : Str} {params : Arguments} {body : List Stmt} {scope : Scope} {f : Addr} {fd : FuncData} {N ps : List Str} {k : Nat} {sp : Sp} (F : FunD K x qual params body scope [] [] f fd) (S : FnScope N ps scope) (len : ∀ vs H Q E, sp vs H Q E → vs.length = ps.length)
    (hb : ∀ (cdv : Value) (A : Around) (outer : List Env) (s : Shared) (H : Hp) (vs : List V) (Q : VK) (E : XK), Room k (A.deeper (envOfC qual scope s.heap.objs.size f cdv)) → sp vs H Q E →
      ∃ t, PSs (cxOf (L2N.CX P w) P w K mg base N qual scope f cdv A outer s H E) body t ∧ t { nx := fun _ H' => Q .non H', rt := Q } (start N vs) H) : FnOk P w K mg base (L2N.CX P w) (k + 1) f fd ps sp := F.ok S len hb
theorem passLN {X : Cx} : Passes (L2N.CX X.prog X.w) X E0 := fun _ _ _ _ _ _ _ h => by
  obtain ⟨_, _, _, _, _, _, _, _, _, _, _, _, z⟩ := h
  exact z.elim
theorem takes0N {X : Cx} : L2N.Takes X (fun _ _ _ _ => False) := fun _ _ x => by
  obtain ⟨_, _, _, _, _, _, _, _, _, _, _, _, _, _, _, _, z⟩ := x
  exact z.elim

def top (i : Nat) : Stmt := PySem.Challenge.pw_rrdesk_k11_read.main.body.getD i (.Pass ⟨0, 0, 0, 0⟩)
abbrev s_caller_init : Stmt := inClass (top 2) 0
abbrev s_is_name : Stmt := top 17
abbrev s_desk_init : Stmt := inClass (top 25) 0
abbrev s_desk_one : Stmt := inClass (top 25) 1
abbrev s_desk_need_ready : Stmt := inClass (top 25) 11
abbrev s_desk_names : Stmt := inClass (top 25) 16
abbrev s_desk_state : Stmt := inClass (top 25) 19
abbrev s_desk_rank : Stmt := inClass (top 25) 20
abbrev s_desk_waited : Stmt := inClass (top 25) 21
abbrev s_desk_left : Stmt := inClass (top 25) 23
abbrev s_desk_bell : Stmt := inClass (top 25) 24
abbrev s_row_of : Stmt := top 29
abbrev s_shown : Stmt := top 30
abbrev s_number_of : Stmt := top 31
abbrev s_need : Stmt := top 32
abbrev s_caller_of : Stmt := top 33
abbrev s_read : Stmt := top 34
abbrev s_L_whole : Stmt := top 36
abbrev s_L_cell_at : Stmt := top 37
abbrev s_L_mix : Stmt := top 38
abbrev s_L_name_by : Stmt := top 39
abbrev s_L_texts : Stmt := top 40
abbrev s_L_word : Stmt := top 41
abbrev s_L_caller : Stmt := top 42
abbrev s_L_head : Stmt := top 43
abbrev s_L_row : Stmt := top 44
abbrev s_L_spoilt : Stmt := top 45
abbrev s_L_text : Stmt := top 46
abbrev s_L_refused : Stmt := top 47
abbrev s_L_number : Stmt := top 48
abbrev s_L_stands : Stmt := top 49
abbrev s_law : Stmt := top 50
def dd_caller_init : He.DefD := ⟨("Caller", some "__init__"), "__init__", "Caller.__init__", defArgs s_caller_init, defBody s_caller_init, defScope s_caller_init, [], []⟩
def dd_is_name : He.DefD := ⟨("is_name", none), "is_name", "is_name", defArgs s_is_name, defBody s_is_name, defScope s_is_name, [], []⟩
def dd_desk_init : He.DefD := ⟨("Desk", some "__init__"), "__init__", "Desk.__init__", defArgs s_desk_init, defBody s_desk_init, defScope s_desk_init, [], []⟩
def dd_desk_one : He.DefD := ⟨("Desk", some "one"), "one", "Desk.one", defArgs s_desk_one, defBody s_desk_one, defScope s_desk_one, [], []⟩
def dd_desk_need_ready : He.DefD := ⟨("Desk", some "need_ready"), "need_ready", "Desk.need_ready", defArgs s_desk_need_ready, defBody s_desk_need_ready, defScope s_desk_need_ready, [], []⟩
def dd_desk_names : He.DefD := ⟨("Desk", some "names"), "names", "Desk.names", defArgs s_desk_names, defBody s_desk_names, defScope s_desk_names, [], []⟩
def dd_desk_state : He.DefD := ⟨("Desk", some "state"), "state", "Desk.state", defArgs s_desk_state, defBody s_desk_state, defScope s_desk_state, [], []⟩
def dd_desk_rank : He.DefD := ⟨("Desk", some "rank"), "rank", "Desk.rank", defArgs s_desk_rank, defBody s_desk_rank, defScope s_desk_rank, [], []⟩
def dd_desk_waited : He.DefD := ⟨("Desk", some "waited"), "waited", "Desk.waited", defArgs s_desk_waited, defBody s_desk_waited, defScope s_desk_waited, [], []⟩
def dd_desk_left : He.DefD := ⟨("Desk", some "left"), "left", "Desk.left", defArgs s_desk_left, defBody s_desk_left, defScope s_desk_left, [], []⟩
def dd_desk_bell : He.DefD := ⟨("Desk", some "bell"), "bell", "Desk.bell", defArgs s_desk_bell, defBody s_desk_bell, defScope s_desk_bell, [], []⟩
def dd_row_of : He.DefD := ⟨("row_of", none), "row_of", "row_of", defArgs s_row_of, defBody s_row_of, defScope s_row_of, [], []⟩
def dd_shown : He.DefD := ⟨("shown", none), "shown", "shown", defArgs s_shown, defBody s_shown, defScope s_shown, [], []⟩
def dd_number_of : He.DefD := ⟨("number_of", none), "number_of", "number_of", defArgs s_number_of, defBody s_number_of, defScope s_number_of, [], []⟩
def dd_need : He.DefD := ⟨("need", none), "need", "need", defArgs s_need, defBody s_need, defScope s_need, [], []⟩
def dd_caller_of : He.DefD := ⟨("caller_of", none), "caller_of", "caller_of", defArgs s_caller_of, defBody s_caller_of, defScope s_caller_of, [], []⟩
def dd_read : He.DefD := ⟨("read", none), "read", "read", defArgs s_read, defBody s_read, defScope s_read, [], []⟩
def dd_L_whole : He.DefD := ⟨("_law_whole", none), "_law_whole", "_law_whole", defArgs s_L_whole, defBody s_L_whole, defScope s_L_whole, [], []⟩
def dd_L_cell_at : He.DefD := ⟨("_law_cell_at", none), "_law_cell_at", "_law_cell_at", defArgs s_L_cell_at, defBody s_L_cell_at, defScope s_L_cell_at, [], []⟩
def dd_L_mix : He.DefD := ⟨("_law_mix", none), "_law_mix", "_law_mix", defArgs s_L_mix, defBody s_L_mix, defScope s_L_mix, [], []⟩
def dd_L_name_by : He.DefD := ⟨("_law_name_by", none), "_law_name_by", "_law_name_by", defArgs s_L_name_by, defBody s_L_name_by, defScope s_L_name_by, [], []⟩
def dd_L_texts : He.DefD := ⟨("_law_texts", none), "_law_texts", "_law_texts", defArgs s_L_texts, defBody s_L_texts, defScope s_L_texts, [], []⟩
def dd_L_word : He.DefD := ⟨("_law_word", none), "_law_word", "_law_word", defArgs s_L_word, defBody s_L_word, defScope s_L_word, [], []⟩
def dd_L_caller : He.DefD := ⟨("_law_caller", none), "_law_caller", "_law_caller", defArgs s_L_caller, defBody s_L_caller, defScope s_L_caller, [], []⟩
def dd_L_head : He.DefD := ⟨("_law_head", none), "_law_head", "_law_head", defArgs s_L_head, defBody s_L_head, defScope s_L_head, [], []⟩
def dd_L_row : He.DefD := ⟨("_law_row", none), "_law_row", "_law_row", defArgs s_L_row, defBody s_L_row, defScope s_L_row, [], []⟩
def dd_L_spoilt : He.DefD := ⟨("_law_spoilt", none), "_law_spoilt", "_law_spoilt", defArgs s_L_spoilt, defBody s_L_spoilt, defScope s_L_spoilt, [], []⟩
def dd_L_text : He.DefD := ⟨("_law_text", none), "_law_text", "_law_text", defArgs s_L_text, defBody s_L_text, defScope s_L_text, [], []⟩
def dd_L_refused : He.DefD := ⟨("_law_refused", none), "_law_refused", "_law_refused", defArgs s_L_refused, defBody s_L_refused, defScope s_L_refused, [], []⟩
def dd_L_number : He.DefD := ⟨("_law_number", none), "_law_number", "_law_number", defArgs s_L_number, defBody s_L_number, defScope s_L_number, [], []⟩
def dd_L_stands : He.DefD := ⟨("_law_stands", none), "_law_stands", "_law_stands", defArgs s_L_stands, defBody s_L_stands, defScope s_L_stands, [], []⟩
def dd_law : He.DefD := ⟨("law", none), "law", "law", defArgs s_law, defBody s_law, defScope s_law, [], []⟩
def fn : List He.DefD := [dd_caller_init, dd_is_name, dd_desk_init, dd_desk_one, dd_desk_need_ready, dd_desk_names, dd_desk_state, dd_desk_rank, dd_desk_waited, dd_desk_left, dd_desk_bell, dd_row_of, dd_shown, dd_number_of, dd_need, dd_caller_of, dd_read, dd_L_whole, dd_L_cell_at, dd_L_mix, dd_L_name_by, dd_L_texts, dd_L_word, dd_L_caller, dd_L_head, dd_L_row, dd_L_spoilt, dd_L_text, dd_L_refused, dd_L_number, dd_L_stands, dd_law]
def fa0 : List He.Fa := [.glo "is_name", .meth "Desk" "one", .meth "Desk" "need_ready", .meth "Desk" "names", .meth "Desk" "state", .meth "Desk" "rank", .meth "Desk" "waited", .meth "Desk" "left", .meth "Desk" "bell", .glo "row_of", .glo "shown", .glo "number_of", .glo "need", .glo "caller_of", .glo "read", .glo "_law_whole", .glo "_law_cell_at", .glo "_law_mix", .glo "_law_name_by", .glo "_law_texts", .glo "_law_word", .glo "_law_caller", .glo "_law_head", .glo "_law_row", .glo "_law_spoilt", .glo "_law_text", .glo "_law_refused", .glo "_law_number", .glo "_law_stands", .glo "law"]
def fa1 : List He.Fa := [.glo "Caller", .cls "Caller", .mkr "Caller", .noat "Caller" "label", .noat "Caller" "grade", .noat "Caller" "stand", .noat "Caller" "mark", .glo "Desk", .cls "Desk", .mkr "Desk", .noat "Desk" "pace", .noat "Desk" "room", .noat "Desk" "now", .noat "Desk" "line", .glo "DeskError", .exc "DeskError", .glo "NoName", .exc "NoName", .glo "NoRank", .exc "NoRank", .glo "NoSpan", .exc "NoSpan", .glo "NoDesk", .exc "NoDesk", .glo "Known", .exc "Known", .glo "Unknown", .exc "Unknown", .glo "Full", .exc "Full"]
def fa2 : List He.Fa := [.glo "NotReady", .exc "NotReady", .glo "IsReady", .exc "IsReady", .exm "NoDesk" "DeskError" true, .exm "NotReady" "DeskError" true, .exm "Unknown" "DeskError" true, .str "SIGNS" "abcdefghijklmnopqrstuvwxyz0123456789", .int "MOST" 12, .int "TOP" 99, .int "MOST_PACE" 1000, .int "MOST_ROOM" 60, .int "MOST_TURNS" 1000, .str "FIGURES" "0123456789", .int "MOST_FIGURES" 12, .free "len", .free "range", .free "str", .free "int", .free "isinstance", .free "sum", .free "min", .free "list", .free "bool", .free "ValueError"]
def fa : List He.Fa := fa0 ++ fa1 ++ fa2
structure Txt (K : PySem.W.Frag) (mg : Str → Option Value) : Prop where
  says : He.SaysD fa fn K
  inn : ∃ h : Heap, K.In h ∧ h.Ns mainGlobals mg
  ex : excK K = true
def loose0 : List PySem.Str := ["_wall", "Caller", "DeskError", "NoName", "NoRank", "NoSpan", "NoDesk", "Known", "Unknown", "Full", "NotReady", "IsReady", "SIGNS", "MOST", "is_name", "TOP", "aged", "MOST_PACE", "MOST_ROOM", "MOST_TURNS", "Desk", "FIGURES", "MOST_FIGURES", "row_of", "shown", "number_of", "need", "caller_of", "read", "_law_whole"]
def loose1 : List PySem.Str := ["_law_cell_at", "_law_mix", "_law_name_by", "_law_texts", "_law_word", "_law_caller", "_law_head", "_law_row", "_law_spoilt", "_law_text", "_law_refused", "_law_number", "_law_stands"]
def loose : List PySem.Str := loose0 ++ loose1
abbrev R : PySem.W.OpenRow := PySem.W.OpenLaw.row PySem.Challenge.rw_rrdesk_k11_read
abbrev hk : PySem.W.Hook := hookE 6 fa fn excK
def ob (s : PySem.W.SharedT) : He.AlD × Bool := obsEG 6 fa fn excK (HandSHeadRun.getT s)
theorem ob_eq (s : PySem.W.SharedT) : ob s = hk.obs s.abs := obsEG_eq (HandSHeadRun.getT_eq s)
theorem run (w : World) : HandSHeadRun.RunEq R (PySem.W.view R.prog [50]) hk ob 6000 loose w := by
  intro os
  kernel_rfl
section
variable {K : PySem.W.Frag} {mg : Str → Option Value} (T : Txt K mg)
include T
theorem g_is_name : mg "is_name" = some (.ref (He.ga K "is_name")) := (let ⟨_, X, G⟩ := T.inn; He.glo_ok X G (T.says.fact 0 (f := .glo "is_name") rfl))
theorem m_desk_one : Meth K (He.ga K "Desk") "one" (He.ma K (He.ga K "Desk") "one") := He.meth_ok (T.says.fact 1 (f := .meth "Desk" "one") rfl)
theorem m_desk_need_ready : Meth K (He.ga K "Desk") "need_ready" (He.ma K (He.ga K "Desk") "need_ready") := He.meth_ok (T.says.fact 2 (f := .meth "Desk" "need_ready") rfl)
theorem m_desk_names : Meth K (He.ga K "Desk") "names" (He.ma K (He.ga K "Desk") "names") := He.meth_ok (T.says.fact 3 (f := .meth "Desk" "names") rfl)
theorem m_desk_state : Meth K (He.ga K "Desk") "state" (He.ma K (He.ga K "Desk") "state") := He.meth_ok (T.says.fact 4 (f := .meth "Desk" "state") rfl)
theorem m_desk_rank : Meth K (He.ga K "Desk") "rank" (He.ma K (He.ga K "Desk") "rank") := He.meth_ok (T.says.fact 5 (f := .meth "Desk" "rank") rfl)
theorem m_desk_waited : Meth K (He.ga K "Desk") "waited" (He.ma K (He.ga K "Desk") "waited") := He.meth_ok (T.says.fact 6 (f := .meth "Desk" "waited") rfl)
theorem m_desk_left : Meth K (He.ga K "Desk") "left" (He.ma K (He.ga K "Desk") "left") := He.meth_ok (T.says.fact 7 (f := .meth "Desk" "left") rfl)
theorem m_desk_bell : Meth K (He.ga K "Desk") "bell" (He.ma K (He.ga K "Desk") "bell") := He.meth_ok (T.says.fact 8 (f := .meth "Desk" "bell") rfl)
theorem g_row_of : mg "row_of" = some (.ref (He.ga K "row_of")) := (let ⟨_, X, G⟩ := T.inn; He.glo_ok X G (T.says.fact 9 (f := .glo "row_of") rfl))
theorem g_shown : mg "shown" = some (.ref (He.ga K "shown")) := (let ⟨_, X, G⟩ := T.inn; He.glo_ok X G (T.says.fact 10 (f := .glo "shown") rfl))
theorem g_number_of : mg "number_of" = some (.ref (He.ga K "number_of")) := (let ⟨_, X, G⟩ := T.inn; He.glo_ok X G (T.says.fact 11 (f := .glo "number_of") rfl))
theorem g_need : mg "need" = some (.ref (He.ga K "need")) := (let ⟨_, X, G⟩ := T.inn; He.glo_ok X G (T.says.fact 12 (f := .glo "need") rfl))
theorem g_caller_of : mg "caller_of" = some (.ref (He.ga K "caller_of")) := (let ⟨_, X, G⟩ := T.inn; He.glo_ok X G (T.says.fact 13 (f := .glo "caller_of") rfl))
theorem g_read : mg "read" = some (.ref (He.ga K "read")) := (let ⟨_, X, G⟩ := T.inn; He.glo_ok X G (T.says.fact 14 (f := .glo "read") rfl))
theorem g_L_whole : mg "_law_whole" = some (.ref (He.ga K "_law_whole")) := (let ⟨_, X, G⟩ := T.inn; He.glo_ok X G (T.says.fact 15 (f := .glo "_law_whole") rfl))
theorem g_L_cell_at : mg "_law_cell_at" = some (.ref (He.ga K "_law_cell_at")) := (let ⟨_, X, G⟩ := T.inn; He.glo_ok X G (T.says.fact 16 (f := .glo "_law_cell_at") rfl))
theorem g_L_mix : mg "_law_mix" = some (.ref (He.ga K "_law_mix")) := (let ⟨_, X, G⟩ := T.inn; He.glo_ok X G (T.says.fact 17 (f := .glo "_law_mix") rfl))
theorem g_L_name_by : mg "_law_name_by" = some (.ref (He.ga K "_law_name_by")) := (let ⟨_, X, G⟩ := T.inn; He.glo_ok X G (T.says.fact 18 (f := .glo "_law_name_by") rfl))
theorem g_L_texts : mg "_law_texts" = some (.ref (He.ga K "_law_texts")) := (let ⟨_, X, G⟩ := T.inn; He.glo_ok X G (T.says.fact 19 (f := .glo "_law_texts") rfl))
theorem g_L_word : mg "_law_word" = some (.ref (He.ga K "_law_word")) := (let ⟨_, X, G⟩ := T.inn; He.glo_ok X G (T.says.fact 20 (f := .glo "_law_word") rfl))
theorem g_L_caller : mg "_law_caller" = some (.ref (He.ga K "_law_caller")) := (let ⟨_, X, G⟩ := T.inn; He.glo_ok X G (T.says.fact 21 (f := .glo "_law_caller") rfl))
theorem g_L_head : mg "_law_head" = some (.ref (He.ga K "_law_head")) := (let ⟨_, X, G⟩ := T.inn; He.glo_ok X G (T.says.fact 22 (f := .glo "_law_head") rfl))
theorem g_L_row : mg "_law_row" = some (.ref (He.ga K "_law_row")) := (let ⟨_, X, G⟩ := T.inn; He.glo_ok X G (T.says.fact 23 (f := .glo "_law_row") rfl))
theorem g_L_spoilt : mg "_law_spoilt" = some (.ref (He.ga K "_law_spoilt")) := (let ⟨_, X, G⟩ := T.inn; He.glo_ok X G (T.says.fact 24 (f := .glo "_law_spoilt") rfl))
theorem g_L_text : mg "_law_text" = some (.ref (He.ga K "_law_text")) := (let ⟨_, X, G⟩ := T.inn; He.glo_ok X G (T.says.fact 25 (f := .glo "_law_text") rfl))
theorem g_L_refused : mg "_law_refused" = some (.ref (He.ga K "_law_refused")) := (let ⟨_, X, G⟩ := T.inn; He.glo_ok X G (T.says.fact 26 (f := .glo "_law_refused") rfl))
theorem g_L_number : mg "_law_number" = some (.ref (He.ga K "_law_number")) := (let ⟨_, X, G⟩ := T.inn; He.glo_ok X G (T.says.fact 27 (f := .glo "_law_number") rfl))
theorem g_L_stands : mg "_law_stands" = some (.ref (He.ga K "_law_stands")) := (let ⟨_, X, G⟩ := T.inn; He.glo_ok X G (T.says.fact 28 (f := .glo "_law_stands") rfl))
theorem g_law : mg "law" = some (.ref (He.ga K "law")) := (let ⟨_, X, G⟩ := T.inn; He.glo_ok X G (T.says.fact 29 (f := .glo "law") rfl))
theorem g_Caller : mg "Caller" = some (.ref (He.ga K "Caller")) := (let ⟨_, X, G⟩ := T.inn; He.glo_ok X G (T.says.fact 30 (f := .glo "Caller") rfl))
theorem c_Caller : Cls K (He.ga K "Caller") := He.cls_ok (T.says.fact 31 (f := .cls "Caller") rfl)
theorem mk_Caller : Mk K (He.ga K "Caller") (He.ma K (He.ga K "Caller") "__init__") := He.mkr_ok (T.says.fact 32 (f := .mkr "Caller") rfl)
theorem n_Caller_label : NoAttr K (He.ga K "Caller") "label" := He.noat_ok (T.says.fact 33 (f := .noat "Caller" "label") rfl)
theorem n_Caller_grade : NoAttr K (He.ga K "Caller") "grade" := He.noat_ok (T.says.fact 34 (f := .noat "Caller" "grade") rfl)
theorem n_Caller_stand : NoAttr K (He.ga K "Caller") "stand" := He.noat_ok (T.says.fact 35 (f := .noat "Caller" "stand") rfl)
theorem n_Caller_mark : NoAttr K (He.ga K "Caller") "mark" := He.noat_ok (T.says.fact 36 (f := .noat "Caller" "mark") rfl)
theorem g_Desk : mg "Desk" = some (.ref (He.ga K "Desk")) := (let ⟨_, X, G⟩ := T.inn; He.glo_ok X G (T.says.fact 37 (f := .glo "Desk") rfl))
theorem c_Desk : Cls K (He.ga K "Desk") := He.cls_ok (T.says.fact 38 (f := .cls "Desk") rfl)
theorem mk_Desk : Mk K (He.ga K "Desk") (He.ma K (He.ga K "Desk") "__init__") := He.mkr_ok (T.says.fact 39 (f := .mkr "Desk") rfl)
theorem n_Desk_pace : NoAttr K (He.ga K "Desk") "pace" := He.noat_ok (T.says.fact 40 (f := .noat "Desk" "pace") rfl)
theorem n_Desk_room : NoAttr K (He.ga K "Desk") "room" := He.noat_ok (T.says.fact 41 (f := .noat "Desk" "room") rfl)
theorem n_Desk_now : NoAttr K (He.ga K "Desk") "now" := He.noat_ok (T.says.fact 42 (f := .noat "Desk" "now") rfl)
theorem n_Desk_line : NoAttr K (He.ga K "Desk") "line" := He.noat_ok (T.says.fact 43 (f := .noat "Desk" "line") rfl)
theorem g_DeskError : mg "DeskError" = some (.ref (He.ga K "DeskError")) := (let ⟨_, X, G⟩ := T.inn; He.glo_ok X G (T.says.fact 44 (f := .glo "DeskError") rfl))
theorem x_DeskError : PySem.W.excIn K (He.ga K "DeskError") He.veBase "ValueError.__new__" = true ∧ PySem.W.keepIn K (.ref (He.ga K "DeskError")) = true ∧ PySem.W.subIn K (.ref (He.ga K "DeskError")) (.type "BaseException") = some true ∧ PySem.W.typeIn K (.ref (He.ga K "DeskError")) = some (.type "type") := He.exc_ok (T.says.fact 45 (f := .exc "DeskError") rfl)
theorem g_NoName : mg "NoName" = some (.ref (He.ga K "NoName")) := (let ⟨_, X, G⟩ := T.inn; He.glo_ok X G (T.says.fact 46 (f := .glo "NoName") rfl))
theorem x_NoName : PySem.W.excIn K (He.ga K "NoName") He.veBase "ValueError.__new__" = true ∧ PySem.W.keepIn K (.ref (He.ga K "NoName")) = true ∧ PySem.W.subIn K (.ref (He.ga K "NoName")) (.type "BaseException") = some true ∧ PySem.W.typeIn K (.ref (He.ga K "NoName")) = some (.type "type") := He.exc_ok (T.says.fact 47 (f := .exc "NoName") rfl)
theorem g_NoRank : mg "NoRank" = some (.ref (He.ga K "NoRank")) := (let ⟨_, X, G⟩ := T.inn; He.glo_ok X G (T.says.fact 48 (f := .glo "NoRank") rfl))
theorem x_NoRank : PySem.W.excIn K (He.ga K "NoRank") He.veBase "ValueError.__new__" = true ∧ PySem.W.keepIn K (.ref (He.ga K "NoRank")) = true ∧ PySem.W.subIn K (.ref (He.ga K "NoRank")) (.type "BaseException") = some true ∧ PySem.W.typeIn K (.ref (He.ga K "NoRank")) = some (.type "type") := He.exc_ok (T.says.fact 49 (f := .exc "NoRank") rfl)
theorem g_NoSpan : mg "NoSpan" = some (.ref (He.ga K "NoSpan")) := (let ⟨_, X, G⟩ := T.inn; He.glo_ok X G (T.says.fact 50 (f := .glo "NoSpan") rfl))
theorem x_NoSpan : PySem.W.excIn K (He.ga K "NoSpan") He.veBase "ValueError.__new__" = true ∧ PySem.W.keepIn K (.ref (He.ga K "NoSpan")) = true ∧ PySem.W.subIn K (.ref (He.ga K "NoSpan")) (.type "BaseException") = some true ∧ PySem.W.typeIn K (.ref (He.ga K "NoSpan")) = some (.type "type") := He.exc_ok (T.says.fact 51 (f := .exc "NoSpan") rfl)
theorem g_NoDesk : mg "NoDesk" = some (.ref (He.ga K "NoDesk")) := (let ⟨_, X, G⟩ := T.inn; He.glo_ok X G (T.says.fact 52 (f := .glo "NoDesk") rfl))
theorem x_NoDesk : PySem.W.excIn K (He.ga K "NoDesk") He.veBase "ValueError.__new__" = true ∧ PySem.W.keepIn K (.ref (He.ga K "NoDesk")) = true ∧ PySem.W.subIn K (.ref (He.ga K "NoDesk")) (.type "BaseException") = some true ∧ PySem.W.typeIn K (.ref (He.ga K "NoDesk")) = some (.type "type") := He.exc_ok (T.says.fact 53 (f := .exc "NoDesk") rfl)
theorem g_Known : mg "Known" = some (.ref (He.ga K "Known")) := (let ⟨_, X, G⟩ := T.inn; He.glo_ok X G (T.says.fact 54 (f := .glo "Known") rfl))
theorem x_Known : PySem.W.excIn K (He.ga K "Known") He.veBase "ValueError.__new__" = true ∧ PySem.W.keepIn K (.ref (He.ga K "Known")) = true ∧ PySem.W.subIn K (.ref (He.ga K "Known")) (.type "BaseException") = some true ∧ PySem.W.typeIn K (.ref (He.ga K "Known")) = some (.type "type") := He.exc_ok (T.says.fact 55 (f := .exc "Known") rfl)
theorem g_Unknown : mg "Unknown" = some (.ref (He.ga K "Unknown")) := (let ⟨_, X, G⟩ := T.inn; He.glo_ok X G (T.says.fact 56 (f := .glo "Unknown") rfl))
theorem x_Unknown : PySem.W.excIn K (He.ga K "Unknown") He.veBase "ValueError.__new__" = true ∧ PySem.W.keepIn K (.ref (He.ga K "Unknown")) = true ∧ PySem.W.subIn K (.ref (He.ga K "Unknown")) (.type "BaseException") = some true ∧ PySem.W.typeIn K (.ref (He.ga K "Unknown")) = some (.type "type") := He.exc_ok (T.says.fact 57 (f := .exc "Unknown") rfl)
theorem g_Full : mg "Full" = some (.ref (He.ga K "Full")) := (let ⟨_, X, G⟩ := T.inn; He.glo_ok X G (T.says.fact 58 (f := .glo "Full") rfl))
theorem x_Full : PySem.W.excIn K (He.ga K "Full") He.veBase "ValueError.__new__" = true ∧ PySem.W.keepIn K (.ref (He.ga K "Full")) = true ∧ PySem.W.subIn K (.ref (He.ga K "Full")) (.type "BaseException") = some true ∧ PySem.W.typeIn K (.ref (He.ga K "Full")) = some (.type "type") := He.exc_ok (T.says.fact 59 (f := .exc "Full") rfl)
theorem g_NotReady : mg "NotReady" = some (.ref (He.ga K "NotReady")) := (let ⟨_, X, G⟩ := T.inn; He.glo_ok X G (T.says.fact 60 (f := .glo "NotReady") rfl))
theorem x_NotReady : PySem.W.excIn K (He.ga K "NotReady") He.veBase "ValueError.__new__" = true ∧ PySem.W.keepIn K (.ref (He.ga K "NotReady")) = true ∧ PySem.W.subIn K (.ref (He.ga K "NotReady")) (.type "BaseException") = some true ∧ PySem.W.typeIn K (.ref (He.ga K "NotReady")) = some (.type "type") := He.exc_ok (T.says.fact 61 (f := .exc "NotReady") rfl)
theorem g_IsReady : mg "IsReady" = some (.ref (He.ga K "IsReady")) := (let ⟨_, X, G⟩ := T.inn; He.glo_ok X G (T.says.fact 62 (f := .glo "IsReady") rfl))
theorem x_IsReady : PySem.W.excIn K (He.ga K "IsReady") He.veBase "ValueError.__new__" = true ∧ PySem.W.keepIn K (.ref (He.ga K "IsReady")) = true ∧ PySem.W.subIn K (.ref (He.ga K "IsReady")) (.type "BaseException") = some true ∧ PySem.W.typeIn K (.ref (He.ga K "IsReady")) = some (.type "type") := He.exc_ok (T.says.fact 63 (f := .exc "IsReady") rfl)
theorem e_NoDesk_DeskError : PySem.W.exmOne K (.ref (He.ga K "NoDesk")) (.ref (He.ga K "DeskError")) = some true := He.exm_ok (T.says.fact 64 (f := .exm "NoDesk" "DeskError" true) rfl)
theorem e_NotReady_DeskError : PySem.W.exmOne K (.ref (He.ga K "NotReady")) (.ref (He.ga K "DeskError")) = some true := He.exm_ok (T.says.fact 65 (f := .exm "NotReady" "DeskError" true) rfl)
theorem e_Unknown_DeskError : PySem.W.exmOne K (.ref (He.ga K "Unknown")) (.ref (He.ga K "DeskError")) = some true := He.exm_ok (T.says.fact 66 (f := .exm "Unknown" "DeskError" true) rfl)
theorem k_SIGNS : ∃ t, mg "SIGNS" = some (.str "abcdefghijklmnopqrstuvwxyz0123456789" t) := let ⟨_, X, G⟩ := T.inn; He.str_ok X G (T.says.fact 67 (f := .str "SIGNS" "abcdefghijklmnopqrstuvwxyz0123456789") rfl)
theorem k_MOST : ∃ t, mg "MOST" = some (.int 12 t) := let ⟨_, X, G⟩ := T.inn; He.int_ok X G (T.says.fact 68 (f := .int "MOST" 12) rfl)
theorem k_TOP : ∃ t, mg "TOP" = some (.int 99 t) := let ⟨_, X, G⟩ := T.inn; He.int_ok X G (T.says.fact 69 (f := .int "TOP" 99) rfl)
theorem k_MOST_PACE : ∃ t, mg "MOST_PACE" = some (.int 1000 t) := let ⟨_, X, G⟩ := T.inn; He.int_ok X G (T.says.fact 70 (f := .int "MOST_PACE" 1000) rfl)
theorem k_MOST_ROOM : ∃ t, mg "MOST_ROOM" = some (.int 60 t) := let ⟨_, X, G⟩ := T.inn; He.int_ok X G (T.says.fact 71 (f := .int "MOST_ROOM" 60) rfl)
theorem k_MOST_TURNS : ∃ t, mg "MOST_TURNS" = some (.int 1000 t) := let ⟨_, X, G⟩ := T.inn; He.int_ok X G (T.says.fact 72 (f := .int "MOST_TURNS" 1000) rfl)
theorem k_FIGURES : ∃ t, mg "FIGURES" = some (.str "0123456789" t) := let ⟨_, X, G⟩ := T.inn; He.str_ok X G (T.says.fact 73 (f := .str "FIGURES" "0123456789") rfl)
theorem k_MOST_FIGURES : ∃ t, mg "MOST_FIGURES" = some (.int 12 t) := let ⟨_, X, G⟩ := T.inn; He.int_ok X G (T.says.fact 74 (f := .int "MOST_FIGURES" 12) rfl)
theorem b_len : mg "len" = none := let ⟨_, X, G⟩ := T.inn; He.free_ok X G (T.says.fact 75 (f := .free "len") rfl)
theorem b_range : mg "range" = none := let ⟨_, X, G⟩ := T.inn; He.free_ok X G (T.says.fact 76 (f := .free "range") rfl)
theorem b_str : mg "str" = none := let ⟨_, X, G⟩ := T.inn; He.free_ok X G (T.says.fact 77 (f := .free "str") rfl)
theorem b_int : mg "int" = none := let ⟨_, X, G⟩ := T.inn; He.free_ok X G (T.says.fact 78 (f := .free "int") rfl)
theorem b_isinstance : mg "isinstance" = none := let ⟨_, X, G⟩ := T.inn; He.free_ok X G (T.says.fact 79 (f := .free "isinstance") rfl)
theorem b_sum : mg "sum" = none := let ⟨_, X, G⟩ := T.inn; He.free_ok X G (T.says.fact 80 (f := .free "sum") rfl)
theorem b_min : mg "min" = none := let ⟨_, X, G⟩ := T.inn; He.free_ok X G (T.says.fact 81 (f := .free "min") rfl)
theorem b_list : mg "list" = none := let ⟨_, X, G⟩ := T.inn; He.free_ok X G (T.says.fact 82 (f := .free "list") rfl)
theorem b_bool : mg "bool" = none := let ⟨_, X, G⟩ := T.inn; He.free_ok X G (T.says.fact 83 (f := .free "bool") rfl)
theorem b_ValueError : mg "ValueError" = none := let ⟨_, X, G⟩ := T.inn; He.free_ok X G (T.says.fact 84 (f := .free "ValueError") rfl)
theorem f_caller_init : ∃ fd, FunD K "__init__" "Caller.__init__" (defArgs s_caller_init) (defBody s_caller_init) (defScope s_caller_init) [] [] (He.ma K (He.ga K "Caller") "__init__") fd := T.says.def_ 0 (d := dd_caller_init) rfl
theorem f_is_name : ∃ fd, FunD K "is_name" "is_name" (defArgs s_is_name) (defBody s_is_name) (defScope s_is_name) [] [] (He.ga K "is_name") fd := T.says.def_ 1 (d := dd_is_name) rfl
theorem kp_is_name : PySem.W.keepIn K (.ref (He.ga K "is_name")) = true := let ⟨_, F⟩ := f_is_name T; F.kp
theorem f_desk_init : ∃ fd, FunD K "__init__" "Desk.__init__" (defArgs s_desk_init) (defBody s_desk_init) (defScope s_desk_init) [] [] (He.ma K (He.ga K "Desk") "__init__") fd := T.says.def_ 2 (d := dd_desk_init) rfl
theorem f_desk_one : ∃ fd, FunD K "one" "Desk.one" (defArgs s_desk_one) (defBody s_desk_one) (defScope s_desk_one) [] [] (He.ma K (He.ga K "Desk") "one") fd := T.says.def_ 3 (d := dd_desk_one) rfl
theorem f_desk_need_ready : ∃ fd, FunD K "need_ready" "Desk.need_ready" (defArgs s_desk_need_ready) (defBody s_desk_need_ready) (defScope s_desk_need_ready) [] [] (He.ma K (He.ga K "Desk") "need_ready") fd := T.says.def_ 4 (d := dd_desk_need_ready) rfl
theorem f_desk_names : ∃ fd, FunD K "names" "Desk.names" (defArgs s_desk_names) (defBody s_desk_names) (defScope s_desk_names) [] [] (He.ma K (He.ga K "Desk") "names") fd := T.says.def_ 5 (d := dd_desk_names) rfl
theorem f_desk_state : ∃ fd, FunD K "state" "Desk.state" (defArgs s_desk_state) (defBody s_desk_state) (defScope s_desk_state) [] [] (He.ma K (He.ga K "Desk") "state") fd := T.says.def_ 6 (d := dd_desk_state) rfl
theorem f_desk_rank : ∃ fd, FunD K "rank" "Desk.rank" (defArgs s_desk_rank) (defBody s_desk_rank) (defScope s_desk_rank) [] [] (He.ma K (He.ga K "Desk") "rank") fd := T.says.def_ 7 (d := dd_desk_rank) rfl
theorem f_desk_waited : ∃ fd, FunD K "waited" "Desk.waited" (defArgs s_desk_waited) (defBody s_desk_waited) (defScope s_desk_waited) [] [] (He.ma K (He.ga K "Desk") "waited") fd := T.says.def_ 8 (d := dd_desk_waited) rfl
theorem f_desk_left : ∃ fd, FunD K "left" "Desk.left" (defArgs s_desk_left) (defBody s_desk_left) (defScope s_desk_left) [] [] (He.ma K (He.ga K "Desk") "left") fd := T.says.def_ 9 (d := dd_desk_left) rfl
theorem f_desk_bell : ∃ fd, FunD K "bell" "Desk.bell" (defArgs s_desk_bell) (defBody s_desk_bell) (defScope s_desk_bell) [] [] (He.ma K (He.ga K "Desk") "bell") fd := T.says.def_ 10 (d := dd_desk_bell) rfl
theorem f_row_of : ∃ fd, FunD K "row_of" "row_of" (defArgs s_row_of) (defBody s_row_of) (defScope s_row_of) [] [] (He.ga K "row_of") fd := T.says.def_ 11 (d := dd_row_of) rfl
theorem kp_row_of : PySem.W.keepIn K (.ref (He.ga K "row_of")) = true := let ⟨_, F⟩ := f_row_of T; F.kp
theorem f_shown : ∃ fd, FunD K "shown" "shown" (defArgs s_shown) (defBody s_shown) (defScope s_shown) [] [] (He.ga K "shown") fd := T.says.def_ 12 (d := dd_shown) rfl
theorem kp_shown : PySem.W.keepIn K (.ref (He.ga K "shown")) = true := let ⟨_, F⟩ := f_shown T; F.kp
theorem f_number_of : ∃ fd, FunD K "number_of" "number_of" (defArgs s_number_of) (defBody s_number_of) (defScope s_number_of) [] [] (He.ga K "number_of") fd := T.says.def_ 13 (d := dd_number_of) rfl
theorem kp_number_of : PySem.W.keepIn K (.ref (He.ga K "number_of")) = true := let ⟨_, F⟩ := f_number_of T; F.kp
theorem f_need : ∃ fd, FunD K "need" "need" (defArgs s_need) (defBody s_need) (defScope s_need) [] [] (He.ga K "need") fd := T.says.def_ 14 (d := dd_need) rfl
theorem kp_need : PySem.W.keepIn K (.ref (He.ga K "need")) = true := let ⟨_, F⟩ := f_need T; F.kp
theorem f_caller_of : ∃ fd, FunD K "caller_of" "caller_of" (defArgs s_caller_of) (defBody s_caller_of) (defScope s_caller_of) [] [] (He.ga K "caller_of") fd := T.says.def_ 15 (d := dd_caller_of) rfl
theorem kp_caller_of : PySem.W.keepIn K (.ref (He.ga K "caller_of")) = true := let ⟨_, F⟩ := f_caller_of T; F.kp
theorem f_read : ∃ fd, FunD K "read" "read" (defArgs s_read) (defBody s_read) (defScope s_read) [] [] (He.ga K "read") fd := T.says.def_ 16 (d := dd_read) rfl
theorem kp_read : PySem.W.keepIn K (.ref (He.ga K "read")) = true := let ⟨_, F⟩ := f_read T; F.kp
theorem f_L_whole : ∃ fd, FunD K "_law_whole" "_law_whole" (defArgs s_L_whole) (defBody s_L_whole) (defScope s_L_whole) [] [] (He.ga K "_law_whole") fd := T.says.def_ 17 (d := dd_L_whole) rfl
theorem kp_L_whole : PySem.W.keepIn K (.ref (He.ga K "_law_whole")) = true := let ⟨_, F⟩ := f_L_whole T; F.kp
theorem f_L_cell_at : ∃ fd, FunD K "_law_cell_at" "_law_cell_at" (defArgs s_L_cell_at) (defBody s_L_cell_at) (defScope s_L_cell_at) [] [] (He.ga K "_law_cell_at") fd := T.says.def_ 18 (d := dd_L_cell_at) rfl
theorem kp_L_cell_at : PySem.W.keepIn K (.ref (He.ga K "_law_cell_at")) = true := let ⟨_, F⟩ := f_L_cell_at T; F.kp
theorem f_L_mix : ∃ fd, FunD K "_law_mix" "_law_mix" (defArgs s_L_mix) (defBody s_L_mix) (defScope s_L_mix) [] [] (He.ga K "_law_mix") fd := T.says.def_ 19 (d := dd_L_mix) rfl
theorem kp_L_mix : PySem.W.keepIn K (.ref (He.ga K "_law_mix")) = true := let ⟨_, F⟩ := f_L_mix T; F.kp
theorem f_L_name_by : ∃ fd, FunD K "_law_name_by" "_law_name_by" (defArgs s_L_name_by) (defBody s_L_name_by) (defScope s_L_name_by) [] [] (He.ga K "_law_name_by") fd := T.says.def_ 20 (d := dd_L_name_by) rfl
theorem kp_L_name_by : PySem.W.keepIn K (.ref (He.ga K "_law_name_by")) = true := let ⟨_, F⟩ := f_L_name_by T; F.kp
theorem f_L_texts : ∃ fd, FunD K "_law_texts" "_law_texts" (defArgs s_L_texts) (defBody s_L_texts) (defScope s_L_texts) [] [] (He.ga K "_law_texts") fd := T.says.def_ 21 (d := dd_L_texts) rfl
theorem kp_L_texts : PySem.W.keepIn K (.ref (He.ga K "_law_texts")) = true := let ⟨_, F⟩ := f_L_texts T; F.kp
theorem f_L_word : ∃ fd, FunD K "_law_word" "_law_word" (defArgs s_L_word) (defBody s_L_word) (defScope s_L_word) [] [] (He.ga K "_law_word") fd := T.says.def_ 22 (d := dd_L_word) rfl
theorem kp_L_word : PySem.W.keepIn K (.ref (He.ga K "_law_word")) = true := let ⟨_, F⟩ := f_L_word T; F.kp
theorem f_L_caller : ∃ fd, FunD K "_law_caller" "_law_caller" (defArgs s_L_caller) (defBody s_L_caller) (defScope s_L_caller) [] [] (He.ga K "_law_caller") fd := T.says.def_ 23 (d := dd_L_caller) rfl
theorem kp_L_caller : PySem.W.keepIn K (.ref (He.ga K "_law_caller")) = true := let ⟨_, F⟩ := f_L_caller T; F.kp
theorem f_L_head : ∃ fd, FunD K "_law_head" "_law_head" (defArgs s_L_head) (defBody s_L_head) (defScope s_L_head) [] [] (He.ga K "_law_head") fd := T.says.def_ 24 (d := dd_L_head) rfl
theorem kp_L_head : PySem.W.keepIn K (.ref (He.ga K "_law_head")) = true := let ⟨_, F⟩ := f_L_head T; F.kp
theorem f_L_row : ∃ fd, FunD K "_law_row" "_law_row" (defArgs s_L_row) (defBody s_L_row) (defScope s_L_row) [] [] (He.ga K "_law_row") fd := T.says.def_ 25 (d := dd_L_row) rfl
theorem kp_L_row : PySem.W.keepIn K (.ref (He.ga K "_law_row")) = true := let ⟨_, F⟩ := f_L_row T; F.kp
theorem f_L_spoilt : ∃ fd, FunD K "_law_spoilt" "_law_spoilt" (defArgs s_L_spoilt) (defBody s_L_spoilt) (defScope s_L_spoilt) [] [] (He.ga K "_law_spoilt") fd := T.says.def_ 26 (d := dd_L_spoilt) rfl
theorem kp_L_spoilt : PySem.W.keepIn K (.ref (He.ga K "_law_spoilt")) = true := let ⟨_, F⟩ := f_L_spoilt T; F.kp
theorem f_L_text : ∃ fd, FunD K "_law_text" "_law_text" (defArgs s_L_text) (defBody s_L_text) (defScope s_L_text) [] [] (He.ga K "_law_text") fd := T.says.def_ 27 (d := dd_L_text) rfl
theorem kp_L_text : PySem.W.keepIn K (.ref (He.ga K "_law_text")) = true := let ⟨_, F⟩ := f_L_text T; F.kp
theorem f_L_refused : ∃ fd, FunD K "_law_refused" "_law_refused" (defArgs s_L_refused) (defBody s_L_refused) (defScope s_L_refused) [] [] (He.ga K "_law_refused") fd := T.says.def_ 28 (d := dd_L_refused) rfl
theorem kp_L_refused : PySem.W.keepIn K (.ref (He.ga K "_law_refused")) = true := let ⟨_, F⟩ := f_L_refused T; F.kp
theorem f_L_number : ∃ fd, FunD K "_law_number" "_law_number" (defArgs s_L_number) (defBody s_L_number) (defScope s_L_number) [] [] (He.ga K "_law_number") fd := T.says.def_ 29 (d := dd_L_number) rfl
theorem kp_L_number : PySem.W.keepIn K (.ref (He.ga K "_law_number")) = true := let ⟨_, F⟩ := f_L_number T; F.kp
theorem f_L_stands : ∃ fd, FunD K "_law_stands" "_law_stands" (defArgs s_L_stands) (defBody s_L_stands) (defScope s_L_stands) [] [] (He.ga K "_law_stands") fd := T.says.def_ 30 (d := dd_L_stands) rfl
theorem kp_L_stands : PySem.W.keepIn K (.ref (He.ga K "_law_stands")) = true := let ⟨_, F⟩ := f_L_stands T; F.kp
theorem f_law : ∃ fd, FunD K "law" "law" (defArgs s_law) (defBody s_law) (defScope s_law) [] [] (He.ga K "law") fd := T.says.def_ 31 (d := dd_law) rfl
theorem kp_law : PySem.W.keepIn K (.ref (He.ga K "law")) = true := let ⟨_, F⟩ := f_law T; F.kp
end
/-! ### words of this text, over Evl: what every def's proof uses -/
section
variable {P : Program} {w : World} {K : PySem.W.Frag} {mg : Str → Option Value} {base : Heap} {x qual : Str} {params : Arguments} {body : List Stmt} {scope : Scope} {f : Addr} {fd : FuncData}
theorem ok0 {N ps : List Str} {k : Nat} {sp : Sp} (F : FunD K x qual params body scope [] [] f fd) (S : FnScope N ps scope) (len : ∀ vs H Q E, sp vs H Q E → vs.length = ps.length)
    (hbody : ∀ (cdv : Value) (A : Around) (outer : List Env) (s : Shared) (H : Hp) (vs : List V) (Q : VK) (E : XK), Room k (A.deeper (envOfC qual scope s.heap.objs.size f cdv)) → sp vs H Q E →
      ∃ t, PSs (cxOf CX0 P w K mg base N qual scope f cdv A outer s H E).nox body t ∧ t { nx := fun _ H' => Q .non H', rt := Q } (start N vs) H) : FnOk P w K mg base CX0 (k + 1) f fd ps sp :=
  F.ok S len fun cdv A outer s H vs Q E hr h => let ⟨t, a, b⟩ := hbody cdv A outer s H vs Q E hr h; ⟨t, PSs.nox a, b⟩
theorem okX {N ps : List Str} {k : Nat} {sp : Sp} (F : FunD K x qual params body scope [] [] f fd) (S : FnScope N ps scope) (len : ∀ vs H Q E, sp vs H Q E → vs.length = ps.length)
    (hbody : ∀ (cdv : Value) (A : Around) (outer : List Env) (s : Shared) (H : Hp) (vs : List V) (Q : VK) (E : XK), Room k (A.deeper (envOfC qual scope s.heap.objs.size f cdv)) → sp vs H Q E →
      ∃ t, PSs (cxOf (L2.CX P w) P w K mg base N qual scope f cdv A outer s H E) body t ∧ t { nx := fun _ H' => Q .non H', rt := Q } (start N vs) H) : FnOk P w K mg base (L2.CX P w) (k + 1) f fd ps sp :=
  F.ok S len hbody
end
theorem funD_same {K : PySem.W.Frag} {x qual : Str} {params : Arguments} {body : List Stmt} {scope : Scope} {f : Addr} {fd fd' : FuncData} (F : FunD K x qual params body scope [] [] f fd) (F' : FunD K x qual params body scope [] [] f fd') : fd' = fd := by
  obtain ⟨_, _, _, _, _, _, _, _, _, _, _, h, _⟩ := F.ex
  obtain ⟨_, _, _, _, _, _, _, _, _, _, _, h', _⟩ := F'.ex
  rw [h] at h'
  injection h' with h'
  injection h' with _ _ h'
  injection h' with h'
  exact h'.symm
/-! ### evaluation -/
section
variable {K : PySem.W.Frag} {σ : L2.St} {H H' : Hp} {ta tb te tx : TE} {t u : TT} {x y z v : V} {D : Ends}
theorem rc_len_str {z : Str} (h : z.length ≤ sizeLine) : RC (fun xs H Q => ∃ z, xs = [.str z] ∧ z.length ≤ sizeLine ∧ Q (.int z.length) H) [.str z] H (.int z.length) := fun H1 _ Q q => ⟨z, rfl, h, q H1 (Ex.refl H1)⟩
theorem rc_max2 {i j : Int} : RC (fun xs H Q => ∃ i j, xs = [.int i, .int j] ∧ Q (.int (if j > i then j else i)) H) [.int i, .int j] H (.int (if j > i then j else i)) := fun H1 _ Q q => ⟨i, j, rfl, q H1 (Ex.refl H1)⟩
theorem rc_min2 {i j : Int} : RC (fun xs H Q => ∃ i j, xs = [.int i, .int j] ∧ Q (.int (if j < i then j else i)) H) [.int i, .int j] H (.int (if j < i then j else i)) := fun H1 _ Q q => ⟨i, j, rfl, q H1 (Ex.refl H1)⟩
theorem rc_len {p : Addr} {xs : List V} (h : SqL K H p xs) : RC (fun vs H Q => ∃ p ys, vs = [.ref p] ∧ (SqL K H p ys ∨ SqT K H p ys) ∧ Q (.int ys.length) H) [.ref p] H (.int (xs.length : Int)) := fun H1 e Q q => ⟨p, xs, rfl, .inl (ex_l e h), q H1 (Ex.refl H1)⟩
theorem rc_isi {c t' : V} {ty u : Value} {b : Bool} (hc : ClsV c u) (ht : ∀ H1, Ex H H1 → TyX K H1 x ty) (hk : PySem.W.kitOne K ty u = some b) : RC (rIsi K) [x, c] H (.bl b) := fun H1 e Q q => ⟨x, c, ty, u, b, rfl, hc, ht H1 e, hk, q H1 (Ex.refl H1)⟩
theorem rc_isi_int {i : Int} : RC (rIsi K) [.int i, .ty "int"] H (.bl true) := rc_isi (t' := .non) (.ty _) (fun _ _ => .base (.int i)) (kit_ty (by decide +kernel))
theorem rc_isi_int_bool {i : Int} : RC (rIsi K) [.int i, .ty "bool"] H (.bl false) := rc_isi (t' := .non) (.ty _) (fun _ _ => .base (.int i)) (kit_ty (by decide +kernel))
theorem rc_sum {a : Addr} {ns : List Int} (h : SqL K H a (ns.map V.int)) : RC (rSum K) [.ref a] H (.int ns.sum) := fun H1 e Q q => ⟨a, ns, rfl, ex_l e h, q H1 (Ex.refl H1)⟩
theorem ev_cbL {r : List V → Hp → VK → Prop} {xs : List V} (h : EvL ta σ H xs) (hr : ∀ p H1, H1 p = some (.lst xs) → RC r [.ref p] H1 z) : Ev (tCB r (tCons ta tNil)) σ H z := fun H1 e Q q =>
  h H1 e _ fun p H2 _ e2 hp => hr p H2 hp H2 (Ex.refl H2) Q fun H3 e3 => q H3 (e2.trans e3)
theorem el_lcR2 {ta : TA} {j : Nat} {vs : List Nat} {lo n : Int} (f : Nat → Bool) (v : Nat → V) (h : EvA ta σ H [.int lo, .int n]) (hn : -40000 ≤ lo ∧ lo ≤ 40000 ∧ n ≤ lo + 40000 ∧ -40000 ≤ n) (hw : ∀ x, wipe ((wipe σ vs).set j (some x)) vs = wipe σ vs)
    (ht : ∀ (i : Nat) H1, Ex H H1 → lo + (i : Int) < n → EvT t ((wipe σ vs).set j (some (.int (lo + (i : Int))))) H1 (f i)) (he : ∀ (i : Nat) H1, Ex H H1 → lo + (i : Int) < n → f i = true → Ev te ((wipe σ vs).set j (some (.int (lo + (i : Int))))) H1 (v i)) :
    EvL (tLc (iRng2 ta) (gName j) t te vs) σ H (given (n - lo).toNat f v) := fun H0 e Q q => h H0 e _ fun H1 e1 => ⟨lo, n, rfl, by omega, fun Dl hD =>
  lc_range (lo := lo) (n := (n - lo).toNat) (Cw H1 f v Dl) ⟨hD, Ex.new hD, upd_same⟩ (fun i H' hi p => ⟨hw _, cw_turn p (by omega) (ht i H1 (e.trans e1) (by omega)) (fun hf => he i H1 (e.trans e1) (by omega) hf)⟩) (fun H' p => q Dl H' (fresh_back e1 p.1) (e1.trans p.2.1) p.2.2)⟩
theorem et_yes : EvT tYes σ H true := fun H1 _ _ q => q H1 (Ex.refl H1)
theorem spv_call {sp : Sp} {vs : List V} (h : ∀ H1, Ex H H1 → ∀ Q E, RetV z H1 Q → sp vs H1 Q E) : SpV sp (vs ++ []) H z := fun H1 e Q q E => by
  rw [List.append_nil]
  exact h H1 e Q E q
theorem cmul_r {i j : Int} (h1 : -(2 ^ 64) < j) (h2 : j < 2 ^ 64) : CMul i j := .inr ⟨h1, h2⟩
theorem cmul_l {i j : Int} (h1 : -(2 ^ 64) < i) (h2 : i < 2 ^ 64) : CMul i j := .inl ⟨h1, h2⟩
end
section
variable {K : PySem.W.Frag} {σ : L2.St} {H H' : Hp} {ta tb te tx : TE} {t u : TT} {x y z v : V} {D : Ends}
theorem rv_isN : RV (fun x y H Q => y = .non ∧ Q (.bl (decide (x = .non))) H) x .non H (.bl (decide (x = .non))) := fun H1 _ Q q => ⟨rfl, q H1 (Ex.refl H1)⟩
theorem rv_notN : RV (fun x y H Q => y = .non ∧ Q (.bl (!decide (x = .non))) H) x .non H (.bl (!decide (x = .non))) := fun H1 _ Q q => ⟨rfl, q H1 (Ex.refl H1)⟩
theorem rv_addS {i j : Str} (h : i.length + j.length ≤ sizeLine) : RV (fun x y H Q => ∃ i j, x = .str i ∧ y = .str j ∧ i.length + j.length ≤ sizeLine ∧ Q (.str (i ++ j)) H) (.str i) (.str j) H (.str (i ++ j)) := fun H1 _ Q q => ⟨i, j, rfl, rfl, h, q H1 (Ex.refl H1)⟩
theorem rc_int_int {i : Int} : RC (fun xs H Q => (∃ i, xs = [.int i] ∧ Q (.int i) H) ∨ ∃ k, xs = [.bl k] ∧ Q (.int (if k then 1 else 0)) H) [.int i] H (.int i) := fun H1 _ Q q => .inl ⟨i, rfl, q H1 (Ex.refl H1)⟩
theorem rc_int_bl {k : Bool} : RC (fun xs H Q => (∃ i, xs = [.int i] ∧ Q (.int i) H) ∨ ∃ k, xs = [.bl k] ∧ Q (.int (if k then 1 else 0)) H) [.bl k] H (.int (if k then 1 else 0)) := fun H1 _ Q q => .inr ⟨k, rfl, q H1 (Ex.refl H1)⟩
theorem ev_fld {a C dx : Addr} {fs : List (Str × V)} {f : Str} (h : Ev ta σ H (.ref a)) (ho : H a = some (.ins C dx fs)) (hc : Cls K C) (hn : NoAttr K C f) (hl : fs.lookup f = some v) : Ev (tFld K ta f) σ H v := fun H1 e Q q =>
  h H1 e _ fun H2 e2 => ⟨a, C, dx, fs, v, rfl, e2 a _ (e a _ ho), hc, hn, hl, q H2 e2⟩
theorem ev_meth {a C dx : Addr} {fs : List (Str × V)} {m : Str} {sp : Sp} {E : XK} {tr : TA} {vs : List V} (h : Ev ta σ H (.ref a)) (ho : H a = some (.ins C dx fs)) (hl : fs.lookup m = none) (ha : EvA tr σ H vs) (hs : SpV sp (.ref a :: (vs ++ [])) H z) : Ev (tMeth C m sp [] E ta tr) σ H z := fun H1 e Q q =>
  h H1 e _ fun H2 e2 => ⟨a, dx, fs, rfl, e2 a _ (e a _ ho), hl, ha H2 (e.trans e2) _ fun H3 e3 => hs H3 ((e.trans e2).trans e3) Q (fun H4 e4 => q H4 ((e2.trans e3).trans e4)) E⟩
end
section
variable {K : PySem.W.Frag} {σ : L2.St} {H H' : Hp} {ta tb te tx : TE} {t u : TT} {x y z v : V} {D : Ends} {tz tu : TS} {sp : Sp} {E : XK} {tr : TA} {vs : List V}
/-- name = f(..), whatever the promise hands back -/
theorem q_call {i : Nat} (h : EvA tr σ H vs) (k : ∀ H1, Ex H H1 → sp (vs ++ []) H1 (fun x H2 => tz D (σ.set i (some x)) H2) E) : tSeq (tAsg (tCall sp [] E tr) (gName i)) tz D σ H := h H (Ex.refl H) _ fun H1 e1 => k H1 e1
theorem s_call {i : Nat} (h : EvA tr σ H vs) (k : ∀ H1, Ex H H1 → sp (vs ++ []) H1 (fun x H2 => D.nx (σ.set i (some x)) H2) E) : tAsg (tCall sp [] E tr) (gName i) D σ H := h H (Ex.refl H) _ fun H1 e1 => k H1 e1
theorem s_retC (h : EvA tr σ H vs) (k : ∀ H1, Ex H H1 → sp (vs ++ []) H1 D.rt E) : tRet (tCall sp [] E tr) D σ H := h H (Ex.refl H) _ fun H1 e1 => k H1 e1
/-- .. a method of the instance at a -/
theorem q_meth {i : Nat} {a C dx : Addr} {fs : List (Str × V)} {m : Str} (h : Ev ta σ H (.ref a)) (ho : H a = some (.ins C dx fs)) (hl : fs.lookup m = none) (ha : EvA tr σ H vs) (k : ∀ H1, Ex H H1 → sp (.ref a :: (vs ++ [])) H1 (fun x H2 => tz D (σ.set i (some x)) H2) E) :
    tSeq (tAsg (tMeth C m sp [] E ta tr) (gName i)) tz D σ H := h H (Ex.refl H) _ fun H1 e1 => ⟨a, dx, fs, rfl, e1 a _ ho, hl, ha H1 e1 _ fun H2 e2 => k H2 (e1.trans e2)⟩
theorem s_methA {i : Nat} {a C dx : Addr} {fs : List (Str × V)} {m : Str} (h : Ev ta σ H (.ref a)) (ho : H a = some (.ins C dx fs)) (hl : fs.lookup m = none) (ha : EvA tr σ H vs) (k : ∀ H1, Ex H H1 → sp (.ref a :: (vs ++ [])) H1 (fun x H2 => D.nx (σ.set i (some x)) H2) E) :
    tAsg (tMeth C m sp [] E ta tr) (gName i) D σ H := h H (Ex.refl H) _ fun H1 e1 => ⟨a, dx, fs, rfl, e1 a _ ho, hl, ha H1 e1 _ fun H2 e2 => k H2 (e1.trans e2)⟩
theorem q_dmeth {a C dx : Addr} {fs : List (Str × V)} {m : Str} (h : Ev ta σ H (.ref a)) (ho : H a = some (.ins C dx fs)) (hl : fs.lookup m = none) (ha : EvA tr σ H vs) (k : ∀ H1, Ex H H1 → sp (.ref a :: (vs ++ [])) H1 (fun _ H2 => tz D σ H2) E) :
    tSeq (tDrop (tMeth C m sp [] E ta tr)) tz D σ H := h H (Ex.refl H) _ fun H1 e1 => ⟨a, dx, fs, rfl, e1 a _ ho, hl, ha H1 e1 _ fun H2 e2 => k H2 (e1.trans e2)⟩
theorem s_dmeth {a C dx : Addr} {fs : List (Str × V)} {m : Str} (h : Ev ta σ H (.ref a)) (ho : H a = some (.ins C dx fs)) (hl : fs.lookup m = none) (ha : EvA tr σ H vs) (k : ∀ H1, Ex H H1 → sp (.ref a :: (vs ++ [])) H1 (fun _ H2 => D.nx σ H2) E) :
    tDrop (tMeth C m sp [] E ta tr) D σ H := h H (Ex.refl H) _ fun H1 e1 => ⟨a, dx, fs, rfl, e1 a _ ho, hl, ha H1 e1 _ fun H2 e2 => k H2 (e1.trans e2)⟩
theorem s_retM {a C dx : Addr} {fs : List (Str × V)} {m : Str} (h : Ev ta σ H (.ref a)) (ho : H a = some (.ins C dx fs)) (hl : fs.lookup m = none) (ha : EvA tr σ H vs) (k : ∀ H1, Ex H H1 → sp (.ref a :: (vs ++ [])) H1 D.rt E) :
    tRet (tMeth C m sp [] E ta tr) D σ H := h H (Ex.refl H) _ fun H1 e1 => ⟨a, dx, fs, rfl, e1 a _ ho, hl, ha H1 e1 _ fun H2 e2 => k H2 (e1.trans e2)⟩
theorem rd_upd {a l : Addr} {u o o' : HO} (h : Rd H a u) (hl : H l = some o) (hd : o ≠ u) (hf : ∀ ob, o ≠ .frz ob u) : Rd (upd H l o') a u := by
  rcases h with h | ⟨ob, h⟩
  · exact .inl (by rw [upd_ne (fun e => by rw [e, hl] at h; exact hd (Option.some.inj h))]; exact h)
  · exact .inr ⟨ob, by rw [upd_ne (fun e => by rw [e, hl] at h; exact hf ob (Option.some.inj h))]; exact h⟩
theorem sqT_upd {a l : Addr} {xs ys : List V} {o : HO} (h : SqT K H a xs) (hl : H l = some (.lst ys)) : SqT K (upd H l o) a xs := by
  rcases h with h | h
  · exact .inl (rd_upd h hl (by intro q; cases q) (by intro _ q; cases q))
  · exact .inr h
end
section
variable {K : PySem.W.Frag} {σ : L2.St} {H H' : Hp} {ta tb te tx tv tl : TE} {t u : TT} {x y z v : V} {D : Ends} {tz tu : TS} {sp : Sp} {E : XK} {tr : TA} {vs : List V}
theorem ev_fldx {a C : Addr} {fs : List (Str × V)} {f : Str} (h : Ev ta σ H (.ref a)) (ho : ∃ dx, H a = some (.ins C dx fs)) (hc : Cls K C) (hn : NoAttr K C f) (hl : fs.lookup f = some v) : Ev (tFld K ta f) σ H v := let ⟨_, ho⟩ := ho; ev_fld h ho hc hn hl
theorem s_fld {a C dx : Addr} {fs : List (Str × V)} {f : Str} (h : Ev tv σ H y) (ha : Ev ta σ H (.ref a)) (ho : H a = some (.ins C dx fs)) (hc : Cls K C) (hn : NoAttr K C f) (hl : fs.length < 1000) (k : ∀ H1, Ex H H1 → D.nx σ (upd H1 a (.ins C dx (putF f y fs)))) : sFld K ta tv f D σ H :=
  h H (Ex.refl H) _ fun H1 e1 => ha H1 e1 _ fun H2 e2 => ⟨a, C, dx, fs, rfl, e2 a _ (e1 a _ ho), hc, hn, hl, k H2 (e1.trans e2)⟩
theorem q_fld {a C dx : Addr} {fs : List (Str × V)} {f : Str} (h : Ev tv σ H y) (ha : Ev ta σ H (.ref a)) (ho : H a = some (.ins C dx fs)) (hc : Cls K C) (hn : NoAttr K C f) (hl : fs.length < 1000) (k : ∀ H1, Ex H H1 → tz D σ (upd H1 a (.ins C dx (putF f y fs)))) : tSeq (sFld K ta tv f) tz D σ H :=
  s_fld (D := { D with nx := tz D }) h ha ho hc hn hl k
theorem s_fldL {a C dx : Addr} {fs : List (Str × V)} {f : Str} {xs : List V} (h : EvL tv σ H xs) (ha : Ev ta σ H (.ref a)) (ho : H a = some (.ins C dx fs)) (hc : Cls K C) (hn : NoAttr K C f) (hl : fs.length < 1000) (k : ∀ q H1, H q = none → Ex H H1 → H1 q = some (.lst xs) → D.nx σ (upd H1 a (.ins C dx (putF f (.ref q) fs)))) : sFld K ta tv f D σ H :=
  h H (Ex.refl H) _ fun q H1 hq e1 h1 => ha H1 e1 _ fun H2 e2 => ⟨a, C, dx, fs, rfl, e2 a _ (e1 a _ ho), hc, hn, hl, k q H2 hq (e1.trans e2) (e2 q _ h1)⟩
theorem el_cat {xs ys : List V} (ha : EvL ta σ H xs) (hb : EvL tb σ H ys) (hz : xs.length + ys.length ≤ 100000) : EvL (tOp rCat ta tb) σ H (xs ++ ys) := fun H1 e Q q =>
  ha H1 e _ fun p H2 hp e2 h2 => hb H2 (e.trans e2) _ fun r H3 hr e3 h3 => ⟨p, r, xs, ys, rfl, rfl, e3 p _ h2, h3, sz_of hz, fun s hs => q s _ (fresh_back (e2.trans e3) hs) ((e2.trans e3).trans (Ex.new hs)) upd_same⟩
theorem el_meth {a C dx : Addr} {fs : List (Str × V)} {m : Str} {xs : List V} (h : Ev ta σ H (.ref a)) (ho : H a = some (.ins C dx fs)) (hl : fs.lookup m = none) (ha : EvA tr σ H vs) (hs : SpL sp (.ref a :: (vs ++ [])) H xs) : EvL (tMeth C m sp [] E ta tr) σ H xs := fun H1 e Q q =>
  h H1 e _ fun H2 e2 => ⟨a, dx, fs, rfl, e2 a _ (e a _ ho), hl, ha H2 (e.trans e2) _ fun H3 e3 => hs H3 ((e.trans e2).trans e3) Q (fun p H4 hp e4 h4 => q p H4 (fresh_back (e2.trans e3) hp) ((e2.trans e3).trans e4) h4) E⟩
theorem given_take {α : Type} (ps : List α) (g : α → Bool) (w : α → V) (n : Nat) (hn : n ≤ ps.length) : given n (fun i => (ps[i]?.map g).getD false) (fun i => (ps[i]?.map w).getD .non) = ((ps.take n).filter g).map w := by
  induction n with
  | zero => rfl
  | succ n ih =>
    have hlt : n < ps.length := hn
    have e1 : ps[n]? = some ps[n] := List.getElem?_eq_getElem hlt
    have e2 : ps.take (n + 1) = ps.take n ++ [ps[n]] := by rw [List.take_succ, e1]; rfl
    rw [e2, List.filter_append, List.map_append, ← ih (by omega)]
    cases hg : g ps[n] with
    | true =>
      rw [given_yes (by rw [e1]; exact hg), e1, List.filter_cons, if_pos hg]
      rfl
    | false =>
      rw [given_no (by rw [e1]; exact hg), List.filter_cons, if_neg (by rw [hg]; decide)]
      simp
theorem given_list {α : Type} (ps : List α) (g : α → Bool) (w : α → V) : given ps.length (fun i => (ps[i]?.map g).getD false) (fun i => (ps[i]?.map w).getD .non) = (ps.filter g).map w := by
  rw [given_take ps g w ps.length (Nat.le_refl _), List.take_length]
/-- a comprehension over a list of things told by u, kept by g, made by w -/
theorem el_lcM {α : Type} {ps : List α} {uu : α → V} {a : Addr} {j : Nat} {ws : List Nat} (g : α → Bool) (w : α → V) (h : Ev tl σ H (.ref a)) (hx : SqL K H a (ps.map uu)) (hz : ps.length ≤ 40000) (hw : ∀ x, wipe ((wipe σ ws).set j (some x)) ws = wipe σ ws)
    (ht : ∀ q ∈ ps, ∀ H1, Ex H H1 → EvT t ((wipe σ ws).set j (some (uu q))) H1 (g q)) (he : ∀ q ∈ ps, ∀ H1, Ex H H1 → g q = true → Ev te ((wipe σ ws).set j (some (uu q))) H1 (w q)) : EvL (tLc (iList K tl) (gName j) t te ws) σ H ((ps.filter g).map w) := by
  have key := el_lcL (K := K) (t := t) (te := te) (fun i => (ps[i]?.map g).getD false) (fun i => (ps[i]?.map w).getD .non) h hx (by rw [List.length_map]; exact hz) hw
    (fun i x H1 e1 hi => by
      rw [List.getElem?_map] at hi
      cases hq : ps[i]? with
      | none => rw [hq] at hi; cases hi
      | some q =>
        rw [hq] at hi
        cases hi
        exact ht q (List.mem_of_getElem? hq) H1 e1)
    (fun i x H1 e1 hi hf => by
      rw [List.getElem?_map] at hi
      cases hq : ps[i]? with
      | none => rw [hq] at hi; cases hi
      | some q =>
        rw [hq] at hi hf
        cases hi
        exact he q (List.mem_of_getElem? hq) H1 e1 hf)
  rw [List.length_map, given_list] at key
  exact key
theorem el_lcNM {α : Type} {ps : List α} {uu : α → V} {j : Nat} {ws : List Nat} (g : α → Bool) (w : α → V) (h : EvL tl σ H (ps.map uu)) (hz : ps.length ≤ 40000) (hw : ∀ x, wipe ((wipe σ ws).set j (some x)) ws = wipe σ ws)
    (ht : ∀ q ∈ ps, ∀ H1, Ex H H1 → EvT t ((wipe σ ws).set j (some (uu q))) H1 (g q)) (he : ∀ q ∈ ps, ∀ H1, Ex H H1 → g q = true → Ev te ((wipe σ ws).set j (some (uu q))) H1 (w q)) : EvL (tLc (iList K tl) (gName j) t te ws) σ H ((ps.filter g).map w) := by
  have key := el_lcNL (K := K) (t := t) (te := te) (fun i => (ps[i]?.map g).getD false) (fun i => (ps[i]?.map w).getD .non) h (by rw [List.length_map]; exact hz) hw
    (fun i x H1 e1 hi => by
      rw [List.getElem?_map] at hi
      cases hq : ps[i]? with
      | none => rw [hq] at hi; cases hi
      | some q =>
        rw [hq] at hi
        cases hi
        exact ht q (List.mem_of_getElem? hq) H1 e1)
    (fun i x H1 e1 hi hf => by
      rw [List.getElem?_map] at hi
      cases hq : ps[i]? with
      | none => rw [hq] at hi; cases hi
      | some q =>
        rw [hq] at hi hf
        cases hi
        exact he q (List.mem_of_getElem? hq) H1 e1 hf)
  rw [List.length_map, given_list] at key
  exact key
theorem filter_true {α : Type} (l : List α) : l.filter (fun _ => true) = l := List.filter_eq_self.mpr fun _ _ => rfl
theorem spl_call {xs : List V} (h : ∀ H1, Ex H H1 → ∀ Q E, RetL xs H1 Q → sp vs H1 Q E) : SpL sp vs H xs := fun H1 e Q q E => h H1 e Q E q
theorem spv_meth (h : ∀ H1, Ex H H1 → ∀ Q E, RetV z H1 Q → sp vs H1 Q E) : SpV sp vs H z := fun H1 e Q q E => h H1 e Q E q
end
/-! the rules that speak of the written part, said of K itself (within a comprehension the context is another one, K is not) -/
section
variable {X : Cx} {K : PySem.W.Frag} {e o : Expr} {te ta : TE} {pos : Pos} {f : Str}
theorem pe_fldK (h : X.K = K) (he : PE X e ta) (hb : attributeBase e f X.env (eval e X.env) = eval e X.env) : PE X (.Attribute e f pos) (tFld K ta f) := h ▸ pe_fld he hb
theorem ix_listK (h : X.K = K) : IxR X (rIxL K) := h ▸ ix_list
theorem ix_tupK (h : X.K = K) : IxR X (rIxT K) := h ▸ ix_tup
theorem call_lenK (h : X.K = K) : CallR X (.builtin "len") (rLenS K) := h ▸ call_len_seq
theorem call_listK (h : X.K = K) : CallR X (.type "list") (rListS K) := h ▸ call_list_of
theorem op_inK (h : X.K = K) : OpR X (compareOp .In) (rIn K false) := h ▸ op_in_seq
theorem op_notInK (h : X.K = K) : OpR X (compareOp .NotIn) (rIn K true) := h ▸ op_notIn_seq
theorem op_eqK (h : X.K = K) (hu : X.A.units + 64 < cLine) : OpR X (compareOp .Eq) (rEqD K) := h ▸ op_eqD hu
theorem op_neK (h : X.K = K) (hu : X.A.units + 64 < cLine) : OpR X (compareOp .NotEq) (rNeD K) := h ▸ op_neD hu
theorem call_isiK' (h : X.K = K) : CallR X (.builtin "isinstance") (rIsi K) := h ▸ call_isi
theorem sl_listK (h : X.K = K) : SlR X (rSlL K) := h ▸ sl_list
theorem sl_tupK (h : X.K = K) : SlR X (rSlT K) := h ▸ sl_tup
theorem cr_sumK (h : X.K = K) (hc : X.calm = true) : CallR X (.builtin "sum") (rSum K) := h ▸ cr_sum hc
theorem pi_listK {tg : Expr} (h : X.K = K) (he : PE X e te) : PI X tg e (iList K te) := h ▸ pi_list he
theorem pi_tupK {tg : Expr} (h : X.K = K) (he : PE X e te) : PI X tg e (iTup K te) := h ▸ pi_tup he
theorem mt_indexK (h : X.K = K) : MtR X "list.index" (rIndex K) := h ▸ mt_index
end
section
variable {K : PySem.W.Frag} {H : Hp}
theorem rc_lenS {p : Addr} {xs : List V} (h : SqL K H p xs) : RC (rLenS K) [.ref p] H (.int (xs.length : Int)) := fun H1 e Q q => ⟨p, xs, rfl, .inl (ex_l e h), q H1 (Ex.refl H1)⟩
end
theorem pe_bmK {X : Cx} {K : PySem.W.Frag} {o e : Expr} {es : List Expr} {to : TE} {t : TA} {name : Str} {apos cpos : Pos} {T id : String} {r : V → List V → Hp → VK → Prop} (hK : X.K = K) (pa : PlainAttrs T) (slot : Slot T name id) (hty : typeOf (.builtin id) = pure (.type "method_descriptor")) (hm : MtR X id r) (ho : PE X o to) (ha : PA X (e :: es) t)
    (h1 : attributeBase o name X.env (eval o X.env) = eval o X.env := by rfl)
    (h2 : ((backTo cpos (starEach (e :: es) X.env)).all (fun x => !x.1) && (backToKw cpos (keywordEach [] X.env)).all (fun x => x.1.isSome)
      && decide ((e :: es).length + ([] : List Keyword).length + (if ([] : List Keyword).isEmpty then 0 else 1) < 30)) = true := by rfl)
    (h3 : (apos.endLine == cpos.line) = true := by rfl) (h4 : starEach (e :: es) X.env = (false, eval e X.env) :: starEach es X.env := by rfl) (h5 : (backTo cpos (starEach es X.env)).any (·.1) = false := by rfl) :
    PE X (.Call (.Attribute o name apos) (e :: es) [] cpos) (tBM K T r to t) := hK ▸ pe_bm pa slot hty hm ho ha h1 h2 h3 h4 h5
def repS (z : Str) (n : Nat) : Str := ⟨(List.replicate n z.cps).foldl (· ++ ·) #[]⟩
theorem rep_size (z : Array Nat) : ∀ (n : Nat) (acc : Array Nat), ((List.replicate n z).foldl (· ++ ·) acc).size = acc.size + n * z.size
  | 0, acc => by simp
  | n + 1, acc => by
    rw [List.replicate_succ, List.foldl_cons, rep_size z n, Array.size_append, Nat.succ_mul]
    omega
theorem repS_len (z : Str) (n : Nat) : (repS z n).length = n * z.length := by
  have := rep_size z.cps n #[]
  rw [show (#[] : Array Nat).size = 0 from rfl, Nat.zero_add] at this
  exact this
def rRepS : R2 := fun x y H Q => ∃ (z : Str) (n : Int), x = .str z ∧ y = .int n ∧ 2 ≤ n ∧ n ≤ 100 ∧ 1 ≤ z.length ∧ z.length ≤ 100 ∧ Q (.str (repS z n.toNat)) H
theorem op_rep_str {X : Cx} : OpR X (binaryOp .Mult) rRepS := by
  intro pins s σ H x y v u Q I rx ry h
  obtain ⟨z, n, rfl, rfl, h1, h2, h3, h4, q⟩ := h
  obtain ⟨t, rfl⟩ := rx
  obtain ⟨t', rfl⟩ := ry
  have hm : z.length * n.toNat ≤ 100 * 100 := Nat.mul_le_mul h4 (by omega)
  have hm2 : (z.length : Int) * n ≤ 100 * 100 := by
    have : ((z.length * n.toNat : Nat) : Int) = (z.length : Int) * n := by rw [Int.natCast_mul]; congr 1; omega
    omega
  refine P.mul_str (by rw [decide_eq_false (by omega), decide_eq_false (by omega)]; rfl) (fun _ _ h => ?_) (fun _ _ => ?_) ?_
  · have : (z.length : Int) ≤ (2 ^ 63 - 1) / n := (Int.le_ediv_iff_mul_le (by omega)).mpr (by omega)
    omega
  · exact decide_eq_false (by have : (10000 : Nat) ≤ sizeLine := by decide
                              omega)
  · rw [if_neg (by omega), if_neg (by simp; omega)]
    refine ⟨?_, .str (repS z n.toNat), H, I.tok _, ⟨_, rfl⟩, q⟩
    have : (repS z n.toNat).length ≤ sizeLine := by
      rw [repS_len, Nat.mul_comm]
      exact sz_of (by omega)
    exact this
theorem rv_repS {z : Str} {n : Int} {H : Hp} (h1 : 2 ≤ n) (h2 : n ≤ 100) (h3 : 1 ≤ z.length) (h4 : z.length ≤ 100) : RV rRepS (.str z) (.int n) H (.str (repS z n.toNat)) := fun H1 _ Q q => ⟨z, n, rfl, rfl, h1, h2, h3, h4, q H1 (Ex.refl H1)⟩
theorem rc_isi_list {K : PySem.W.Frag} {H : Hp} {a : Addr} {xs : List V} (h : H a = some (.lst xs)) : RC (rIsi K) [.ref a, .ty "list"] H (.bl true) := rc_isi (t' := .non) (.ty _) (fun H1 e => .base (.lst (e _ _ h))) (kit_ty (by decide +kernel))
local macro_rules | `(tactic| tm_at "rr.side") => `(tactic| (first | assumption | rfl | decide | (unfold CMul; omega) | (unfold CDiv; omega) | (unfold CPow; omega) | omega | (dsimp only; omega) | (dsimp only; decide)))
local macro_rules | `(tactic| tm_at "rr.step") => `(tactic| (first | exact ev_c | exact ev_var rfl | exact ea_nil | refine' ea_cons ?_ ?_ | refine' ev_op ?_ ?_ rv_I0 | refine' ev_op ?_ ?_ (rv_I ?_) | refine' ev_op ?_ ?_ (rv_eq ?_) | refine' ev_op ?_ ?_ (rv_ne ?_) | refine' ev_call ?_ ?_ | tm_at "rr.cv" | refine' et_test ?_ | refine' et_B ?_ | refine' et_and ?_ (fun _ => ?_) | refine' et_or ?_ (fun _ => ?_) | refine' et_not ?_ | refine' ev_andV ?_ (fun _ => ?_) | refine' ev_orV ?_ (fun _ => ?_) | refine' ev_notV ?_ | exact et_yes | refine' ev_cb ?_ rc_max2 | refine' ev_cb ?_ rc_min2 | refine' ev_cb ?_ rc_int_bl | refine' ev_cb ?_ (rc_lenS ?_) | refine' ev_un ?_ ru_neg | refine' ev_op ?_ ?_ rv_isN | refine' ev_op ?_ ?_ rv_notN | refine' ev_op ?_ ?_ (rv_addS ?_)))
local macro_rules | `(tactic| tm_at "rr.ev") => `(tactic| ((repeat' tm_at "rr.step"); all_goals (try tm_at "rr.side")))
theorem ev_joinA {K : PySem.W.Frag} {σ : L2.St} {H : Hp} {p : Addr} {to te : TE} {a : Str} {ys : List Str} (h : Ev to σ H (.str a)) (h2 : Ev te σ H (.ref p)) (hp : SqL K H p (ys.map V.str)) (hz : (ys.map (·.length)).sum + ys.length * a.length ≤ 16777216) :
    Ev (tM1 (fun x xs H Q => ∃ a p, ∃ ys : List Str, x = .str a ∧ xs = [.ref p] ∧ (SqL K H p (ys.map V.str) ∨ SqT K H p (ys.map V.str)) ∧ (ys.map (·.length)).sum + ys.length * a.length ≤ 16777216 ∧ Q (.str (Txt.join a ys)) H) to te) σ H (.str (Txt.join a ys)) := fun H1 e Q q =>
  h H1 e _ fun H2 e2 => ⟨⟨a, rfl⟩, h2 H2 (e.trans e2) _ fun H3 e3 => ⟨a, p, ys, rfl, rfl, .inl (ex_l ((e.trans e2).trans e3) hp), hz, q H3 (e2.trans e3)⟩⟩
theorem ev_joinL {K : PySem.W.Frag} {σ : L2.St} {H : Hp} {to te : TE} {a : Str} {ys : List Str} (h : Ev to σ H (.str a)) (h2 : EvL te σ H (ys.map V.str)) (hz : (ys.map (·.length)).sum + ys.length * a.length ≤ 16777216) :
    Ev (tM1 (fun x xs H Q => ∃ a p, ∃ ys : List Str, x = .str a ∧ xs = [.ref p] ∧ (SqL K H p (ys.map V.str) ∨ SqT K H p (ys.map V.str)) ∧ (ys.map (·.length)).sum + ys.length * a.length ≤ 16777216 ∧ Q (.str (Txt.join a ys)) H) to te) σ H (.str (Txt.join a ys)) := fun H1 e Q q =>
  h H1 e _ fun H2 e2 => ⟨⟨a, rfl⟩, h2 H2 (e.trans e2) _ fun p H3 hp e3 h3 => ⟨a, p, ys, rfl, rfl, .inl (sq_of h3), hz, q H3 (e2.trans e3)⟩⟩
/-! ### lists of tuples -/
/-- at a: a list of tuples -/
structure Tups (K : PySem.W.Frag) (H : Hp) (a : Addr) (vss : List (List V)) (ts : List Addr) : Prop where
  l : SqL K H a (ts.map V.ref)
  n : ts.length = vss.length
  t : ∀ (i : Nat) (t : Addr) (vs : List V), ts[i]? = some t → vss[i]? = some vs → SqT K H t vs
section
variable {K : PySem.W.Frag} {σ : L2.St} {H H' : Hp} {tl : TE} {l t a : Addr} {vss : List (List V)} {ts : List Addr} {vs : List V} {ta : TA}
theorem Tups.ex (r : Tups K H a vss ts) (e : Ex H H') : Tups K H' a vss ts := ⟨ex_l e r.l, r.n, fun i t vs h1 h2 => ex_t e (r.t i t vs h1 h2)⟩
theorem Tups.at_ (r : Tups K H a vss ts) {i : Nat} (h : vss[i]? = some vs) : ∃ t, (ts.map V.ref)[i]? = some (.ref t) ∧ SqT K H t vs := by
  have hi := (List.getElem?_eq_some_iff.mp h).1
  have h1 : i < ts.length := by rw [r.n]; exact hi
  exact ⟨ts[i], by rw [List.getElem?_map, List.getElem?_eq_getElem h1]; rfl, r.t i _ _ (List.getElem?_eq_getElem h1) h⟩
theorem Tups.snoc (r : Tups K H l vss ts) (hl : H l = some (.lst (ts.map V.ref))) (e : Ex H H') (ht : H' t = some (.tup vs)) : Tups K (upd H' l (.lst (ts.map V.ref ++ [.ref t]))) l (vss ++ [vs]) (ts ++ [t]) := by
  have hl' := e _ _ hl
  refine ⟨?_, ?_, fun i t' q h1 h2 => ?_⟩
  · rw [List.map_append]
    exact sq_of upd_same
  · rw [List.length_append, List.length_append, r.n]
    rfl
  · by_cases hi : i < vss.length
    · rw [List.getElem?_append_left (by rw [r.n]; exact hi)] at h1
      rw [List.getElem?_append_left hi] at h2
      exact sqT_upd (ex_t e (r.t i t' q h1 h2)) hl'
    · rw [List.getElem?_append_right (by rw [r.n]; omega)] at h1
      rw [List.getElem?_append_right (by omega)] at h2
      rw [r.n] at h1
      have ei : i - vss.length = 0 := by
        have := (List.getElem?_eq_some_iff.mp h2).1
        simp at this
        omega
      rw [ei] at h1 h2
      cases h1
      cases h2
      exact sqT_upd (st_of ht) hl'
/-- a new list of tuples comes -/
def EvR (K : PySem.W.Frag) (te : TE) (σ : L2.St) (H : Hp) (vss : List (List V)) : Prop := ∀ H1, Ex H H1 → ∀ Q : VK, (∀ p H2 ts, H1 p = none → Ex H1 H2 → H2 p = some (.lst (ts.map V.ref)) → Tups K H2 p vss ts → Q (.ref p) H2) → te σ H1 Q
theorem er_lc {α : Type} {ps : List α} {uu : α → V} {j : Nat} {ws : List Nat} (w : α → List V) (h : Ev tl σ H (.ref a)) (hx : SqL K H a (ps.map uu)) (hz : ps.length ≤ 40000) (hw : ∀ x, wipe ((wipe σ ws).set j (some x)) ws = wipe σ ws)
    (hl : ∀ q ∈ ps, (w q).length ≤ 1000) (he : ∀ q ∈ ps, ∀ H1, Ex H H1 → EvA ta ((wipe σ ws).set j (some (uu q))) H1 (w q)) : EvR K (tLc (iList K tl) (gName j) tYes (tTup ta) ws) σ H (ps.map w) := fun H0 e Q q => h H0 e _ fun H1 e1 => ⟨a, rfl, ⟨_, ex_l (e.trans e1) hx⟩, fun Dl hD =>
  lc_list (xs := ps.map uu) (fun i H' => Ex H1 H' ∧ ∃ ts : List Addr, H' Dl = some (.lst (ts.map V.ref)) ∧ Tups K H' Dl ((ps.take i).map w) ts) ⟨Ex.new hD, [], upd_same, sq_of upd_same, rfl, fun i t vs h _ => by simp at h⟩ (fun i H' _ p => ex_l ((e.trans e1).trans p.1) hx)
    (fun i x H' hi ⟨p1, ts, p2, p3⟩ => ⟨hw x, by
      refine iteT (B := Ex H1 H' ∧ ∃ ts : List Addr, H' Dl = some (.lst (ts.map V.ref)) ∧ Tups K H' Dl ((ps.take (i + 1)).map w) ts) ?_
      rw [List.getElem?_map] at hi
      cases hq : ps[i]? with
      | none => rw [hq] at hi; cases hi
      | some r =>
        rw [hq] at hi
        cases hi
        have hm := List.mem_of_getElem? hq
        refine he r hm H1 (e.trans e1) H' p1 _ fun H3 e3 => ⟨sz_of (by have := hl r hm; omega), fun t ht => ?_⟩
        have hlt := (List.getElem?_eq_some_iff.mp hq).1
        have p4 : (upd H3 t (.tup (w r))) Dl = some (.lst (ts.map V.ref)) := by rw [upd_ne (ne_of_none (e3 _ _ p2) ht)]; exact e3 _ _ p2
        refine ⟨_, p4, sz_lt (by rw [List.length_map, p3.n, List.length_map]; have := List.length_take_le i ps; omega), Ex.mut ((p1.trans e3).trans (Ex.new ht)) hD, ts ++ [t], by rw [List.map_append]; exact upd_same, ?_⟩
        have e9 : (ps.take (i + 1)).map w = (ps.take i).map w ++ [w r] := by rw [List.take_succ, hq, List.map_append]; rfl
        rw [e9]
        exact p3.snoc p2 (e3.trans (Ex.new ht)) upd_same⟩)
    (fun H' ⟨p1, ts, p2, p3⟩ => q Dl H' ts (fresh_back e1 hD) (e1.trans p1) p2 (by rw [List.length_map, List.take_length] at p3; exact p3))⟩
end
/-! a method that may raise, called within a try: what is wished of the exception knows the names -/
def tMethS (C : Addr) (m : Str) (sp : Sp) (E : L2.St → XK) (ta : TE) (t : TA) : TE := fun σ H Q => ta σ H fun x H1 => ∃ a dx fs, x = .ref a ∧ H1 a = some (.ins C dx fs) ∧ fs.lookup m = none ∧ t σ H1 fun vs H2 => sp (.ref a :: vs) H2 Q (E σ)
theorem pe_methS {X : Cx} {CX : CXT} {k : Nat} {f C : Addr} {fd : FuncData} {ps : List Str} {sp : Sp} {E : L2.St → XK} {m : Str} {pos apos : Pos} {e o : Expr} {es : List Expr} {ta : TE} {t : TA} {pl : Sem Bool} (he : PE X o ta) (c : Cls X.K C) (hm : Meth X.K C m f) (F : FnOk X.prog X.w X.K X.mg X.base CX k f fd ps sp) (hr : Room k X.A) (hb : L2.Binds X.K fd ps []) (hx : ∀ σ, PassesAt CX X σ (E σ)) (ha : PA X (e :: es) t)
    (hst : starEach (e :: es) X.env = (false, eval e X.env) :: starEach es X.env := by rfl) (hpl : (backTo pos (starEach es X.env)).any (·.1) = false := by rfl)
    (ht : eval (.Call (.Attribute o m apos) (e :: es) [] pos) X.env = (do
      let ov ← eval o X.env
      standAt apos.atName
      let (f, first) ← holding [ov] (getMethod ov m pl)
      callWith pos f first (backTo pos (starEach (e :: es) X.env)) (backToKw pos (keywordEach [] X.env))) := by rfl) :
    PE X (.Call (.Attribute o m apos) (e :: es) [] pos) (tMethS C m sp E ta t) := by
  refine ⟨fun pins s σ H Q I h => ?_⟩
  refine PySem.W.methodCall_KW (pl := pl) (thn (he.run pins s σ H _ I h) fun u s1 ⟨x, H1, I1, rx, a, dx, fs, ex, ea, l, q⟩ => ?_) ht
  subst ex
  obtain rfl : u = Value.ref a := rx
  refine getmeth_ok I1 ea c hm l ?_
  refine PySem.W.callWith_K (first := [.ref a]) (h₀ := X.base) I.ok.mod.kin hm.kp (thn (ha.run pos pins s1 σ H1 _ I1 q) fun us s2 ⟨vs, H2, I2, r, q2⟩ => ⟨I2.kIn, ?_⟩) hst hpl
  exact run_fnS (us := .ref a :: us) (vs := .ref a :: vs) F hr hb (hx σ) I2 (.cons rfl r) q2
/-! a class made within a try, whose __init__ may raise -/
def tMakeS (C : Addr) (sp : Sp) (E : L2.St → XK) (t : TA) : TE := fun σ H Q => t σ H fun vs H1 => ∀ x dx, H1 x = none → H1 dx = none → dx ≠ x →
  sp (.ref x :: vs) (upd (upd H1 dx (.own x)) x (.ins C dx [])) (fun v H2 => v = .non ∧ Q (.ref x) H2) (E σ)
theorem run_makeS {X : Cx} {CX : CXT} {k : Nat} {f C : Addr} {fd : FuncData} {ps : List Str} {sp : Sp} {E : XK} {pins : List (Addr × Obj)} {σ : L2.St} {H : Hp} {s : Shared} {Q : VK} {us : List Value} {vs : List V} (M : Mk X.K C f) (F : FnOk X.prog X.w X.K X.mg X.base CX k f fd ps sp) (hr : Room (k + 1) X.A) (hb : L2.Binds X.K fd ps [])
    (hx : PassesAt CX X σ E) (I : Inv X pins σ H s) (r : Vals vs us) (h : ∀ x dx, H x = none → H dx = none → dx ≠ x → sp (.ref x :: vs) (upd (upd H dx (.own x)) x (.ins C dx [])) (fun v H2 => v = .non ∧ Q (.ref x) H2) E) :
    wpAny (model X.prog X.w) X.A (call (.ref C) us) (EP X pins σ Q) X.xe s := by
  have hq := h (s.heap.objs.size + 1) s.heap.objs.size (I.hok.fresh (Nat.le_succ _)) (I.hok.fresh (Nat.le_refl _)) (Nat.ne_of_lt (Nat.lt_succ_self _))
  have I2 := Inv.made (C := C) I
  have r2 : Vals (V.ref (s.heap.objs.size + 1) :: vs) (Value.ref (s.heap.objs.size + 1) :: us) := .cons rfl r
  have hl : (Value.ref (s.heap.objs.size + 1) :: us).length = ps.length := by
    have e := r2.length
    rw [F.len _ _ _ _ hq] at e
    exact e.symm
  have b := hb _ (Value.ref (s.heap.objs.size + 1) :: us) I2.kIn (by rw [List.append_nil]; exact hl)
  rw [List.append_nil] at b
  refine wpAny_call (make_map (f := f) I.kIn M.makes M.init (beq_iff_eq.mp M.fn) (codeAny_mono (F.run _ X.stack _ _ ⟨Value.ref (s.heap.objs.size + 1) :: us, []⟩ (Value.ref (s.heap.objs.size + 1) :: us) _ _ E (hr.make C us []) (I2.env0.make C us []) b r2 hq) fun r s' h2 => ?_))
  cases r with
  | error e => exact hx pins _ _ e s' I2 h2
  | ok fl =>
    cases fl with
    | ret u =>
      obtain ⟨v, H', I3, rv, ev, q3⟩ := I2.after h2
      subst ev
      exact ⟨rv, ⟨V.ref (s.heap.objs.size + 1), H', I3, rfl, q3⟩⟩
    | next => exact False.elim h2
    | brk => exact False.elim h2
    | cont => exact False.elim h2
theorem pe_makeS {X : Cx} {CX : CXT} {k : Nat} {f C : Addr} {fd : FuncData} {ps : List Str} {sp : Sp} {E : L2.St → XK} {x : Str} {p pos : Pos} {e : Expr} {es : List Expr} {t : TA} (M : Mk X.K C f) (F : FnOk X.prog X.w X.K X.mg X.base CX k f fd ps sp) (hr : Room (k + 1) X.A) (hg : Gl X x) (hm : X.mg x = some (.ref C)) (hb : L2.Binds X.K fd ps []) (hx : ∀ σ, PassesAt CX X σ (E σ))
    (ha : PA X (e :: es) t) (hdb : (x == ("__debug__" : Str)) = false := by decide) (he : starEach (e :: es) X.env = (false, eval e X.env) :: starEach es X.env := by rfl) (hpl : (backTo pos (starEach es X.env)).any (·.1) = false := by rfl) :
    PE X (.Call (.Name x p) (e :: es) [] pos) (tMakeS C sp E t) := by
  refine ⟨fun pins s σ H Q I h => ?_⟩
  refine wpAny_Call_Name_kw (ld_glob I hg hm ?_ hdb)
  refine PySem.W.callWith_K (h₀ := X.base) I.ok.mod.kin M.kp (thn (ha.run pos pins s σ H _ I h) fun us s1 ⟨vs, H1, I1, r, q⟩ => ⟨I1.kIn, ?_⟩) he hpl
  exact run_makeS M F hr hb (hx σ) I1 r q

/-! ### L_cell_at -/
theorem sc_L_cell_at : FnScope ["_law_script", "_law_k"] ["_law_script", "_law_k"] (defScope s_L_cell_at) := ⟨rfl, rfl, rfl, by decide +kernel, rfl, by decide +kernel, by decide +kernel⟩
def cellAt (ns : List Int) (k : Int) : Int := if k < (ns.length : Int) then ns.getD k.toNat 0 else 0
def sp_L_cell_at (K : PySem.W.Frag) : Sp := fun vs H Q _ => ∃ (a : Addr) (ns : List Int) (i : Int), vs = [.ref a, .int i] ∧ SqL K H a (ns.map V.int) ∧ 0 ≤ i ∧ RetV (.int (cellAt ns i)) H Q
theorem cv_L_cell_at {K : PySem.W.Frag} {H : Hp} {a : Addr} {ns : List Int} {i : Int} (h : SqL K H a (ns.map V.int)) (h0 : 0 ≤ i) : SpV (sp_L_cell_at K) ([.ref a, .int i] ++ []) H (.int (cellAt ns i)) :=
  spv_call fun _ e _ _ k => ⟨a, ns, i, rfl, ex_l e h, h0, k⟩
local macro_rules | `(tactic| tm_at "rr.cv") => `(tactic| refine' cv_L_cell_at (by assumption) ?_)
theorem ok_L_cell_at {P : Program} {w : World} {K : PySem.W.Frag} {mg : Str → Option Value} {base : Heap} (T : Txt K mg) : ∃ fd, FnOk P w K mg base (CX0) 1 (He.ga K "_law_cell_at") fd ["_law_script", "_law_k"] (sp_L_cell_at K) ∧ Binds K fd ["_law_script", "_law_k"] [] ∧ FunD K "_law_cell_at" "_law_cell_at" (defArgs s_L_cell_at) (defBody s_L_cell_at) (defScope s_L_cell_at) [] [] (He.ga K "_law_cell_at") fd := by
  obtain ⟨fd, F⟩ := f_L_cell_at T
  refine ⟨fd, ok0 F sc_L_cell_at (fun vs H Q E h => ?_) (fun cdv A outer s H vs Q E hr h => ?_), FunD.bindsN F fun _ _ _ _ _ _ us hl => match us, hl with | [_, _], _ => rfl, F⟩
  · (repeat (obtain ⟨_, h⟩ := h)); subst_vars; rfl
  · obtain ⟨a, ns, i, rfl, hS, h0, k⟩ := h
    refine ⟨_, (pss_cons (ps_if (pt_cmpR op_lt (pv 1) (pe_callB (call_lenK (K := K) rfl) rfl (b_len T) (by decide +kernel) (pa_cons (pv 0) pa_nil)) (nomark _)) (pss_one (ps_ret (pe_ix (ix_listK (K := K) rfl) (pv 0) (pv 1) (fun _ _ => rfl))))
        pss_nil)
        (pss_one (ps_ret pe_int))), ?_⟩
    refine q_when (et_test (ev_op (ev_var rfl) (ev_cb (ea_cons (ev_var rfl) ea_nil) (rc_lenS hS)) rv_I0)) (fun hb H1 e1 => ?_) (fun hb H1 e1 => ?_)
    · have hlt : i < ((ns.map V.int).length : Int) := of_decide_eq_true hb
      rw [List.length_map] at hlt
      have ev : cellAt ns i = ns.getD i.toNat 0 := if_pos hlt
      have hv : atI (ns.map V.int) i = some (.int (cellAt ns i)) := by
        rw [ev]
        refine at_of (j := i.toNat) (by omega) ?_
        rw [List.getElem?_map, List.getD_eq_getElem?_getD]
        have : i.toNat < ns.length := by omega
        rw [List.getElem?_eq_getElem this] <;> rfl
      exact s_ret (ev_op (ev_var rfl) (ev_var rfl) (rv_ixL (ex_l e1 hS) hv)) fun H2 e2 => k H2 (e1.trans e2)
    · have hlt : ¬ i < ((ns.map V.int).length : Int) := of_decide_eq_false hb
      rw [List.length_map] at hlt
      have ev : cellAt ns i = 0 := if_neg hlt
      rw [ev] at k
      exact s_ret ev_c fun H2 e2 => k H2 (e1.trans e2)
def mix (c p m : Int) : Int := c * 48271 % p % m
theorem mix_nonneg {c p m : Int} (h : 0 < m) : 0 ≤ mix c p m := Int.emod_nonneg _ (by omega)
theorem mix_lt {c p m : Int} (h : 0 < m) : mix c p m < m := Int.emod_lt_of_pos _ h
theorem et_mix0 {σ : L2.St} {H : Hp} {te : TE} {x : Int} {a : Int} (h : Ev te σ H (.int x)) : EvT (tTest (tOp rEq te (tC (.int a)))) σ H (decide (x = a)) := et_is (et_test (ev_op h ev_c (rv_eq rfl))) (decide_eq_decide.mpr ⟨fun h => by injection h, fun h => by rw [h]⟩)
/-! ### L_mix -/
theorem sc_L_mix : FnScope ["_law_cell", "_law_prime", "_law_many"] ["_law_cell", "_law_prime", "_law_many"] (defScope s_L_mix) := ⟨rfl, rfl, rfl, by decide +kernel, rfl, by decide +kernel, by decide +kernel⟩
def sp_L_mix (_ : PySem.W.Frag) : Sp := fun vs H Q _ => ∃ (c p m : Int), vs = [.int c, .int p, .int m] ∧ 0 < p ∧ 0 < m ∧ RetV (.int (mix c p m)) H Q
theorem cv_L_mix {K : PySem.W.Frag} {H : Hp} {c p m : Int} (h1 : 0 < p) (h2 : 0 < m) : SpV (sp_L_mix K) ([.int c, .int p, .int m] ++ []) H (.int (mix c p m)) := spv_call fun _ _ _ _ k => ⟨c, p, m, rfl, h1, h2, k⟩
local macro_rules | `(tactic| tm_at "rr.cv") => `(tactic| refine' cv_L_mix ?_ ?_)
theorem ok_L_mix {P : Program} {w : World} {K : PySem.W.Frag} {mg : Str → Option Value} {base : Heap} (T : Txt K mg) : ∃ fd, FnOk P w K mg base (CX0) 1 (He.ga K "_law_mix") fd ["_law_cell", "_law_prime", "_law_many"] (sp_L_mix K) ∧ Binds K fd ["_law_cell", "_law_prime", "_law_many"] [] ∧ FunD K "_law_mix" "_law_mix" (defArgs s_L_mix) (defBody s_L_mix) (defScope s_L_mix) [] [] (He.ga K "_law_mix") fd := by
  obtain ⟨fd, F⟩ := f_L_mix T
  refine ⟨fd, ok0 F sc_L_mix (fun vs H Q E h => ?_) (fun cdv A outer s H vs Q E hr h => ?_), FunD.bindsN F fun _ _ _ _ _ _ us hl => match us, hl with | [_, _, _], _ => rfl, F⟩
  · (repeat (obtain ⟨_, h⟩ := h)); subst_vars; rfl
  · obtain ⟨c, p, m, rfl, h1, h2, k⟩ := h
    refine ⟨_, (pss_one (ps_ret (pe_op op_mod (pe_op op_mod (pe_op op_mul (pv 0) pe_int) (pv 1)) (pv 2)))), ?_⟩
    refine' s_ret ?h k
    case h => tm_at "rr.ev"
theorem pick4 {a b c d : V} {i : Int} (h0 : 0 ≤ i) (h4 : i < 4) : atI [a, b, c, d] i = some (match i.toNat with | 0 => a | 1 => b | 2 => c | _ => d) := by
  have : i = 0 ∨ i = 1 ∨ i = 2 ∨ i = 3 := by omega
  rcases this with rfl | rfl | rfl | rfl <;> rfl
abbrev figsS : Str := "0123456789"
abbrev signsS : Str := "abcdefghijklmnopqrstuvwxyz0123456789"
def isSign (c : Nat) : Bool := decide (c ∈ signsS.cps.toList)
def isName (s : Str) : Bool := decide (1 ≤ s.length) && decide (s.length ≤ 12) && s.cps.toList.all isSign
theorem len_app (a b : Str) : (a ++ b).length = a.length + b.length := by rw [TL.len_tl, TL.tl_append, List.length_append, ← TL.len_tl, ← TL.len_tl]
theorem joinL_nil : ∀ ps : List (List Nat), TL.joinL [] ps = ps.flatten
  | [] => rfl
  | [p] => by simp [TL.joinL]
  | p :: q :: r => by
    show p ++ ([] ++ TL.joinL [] (q :: r)) = _
    rw [joinL_nil (q :: r)]
    rfl
theorem isName_len {s : Str} (h : isName s = true) : 1 ≤ s.length ∧ s.length ≤ 12 := by
  unfold isName at h
  rw [Bool.and_eq_true, Bool.and_eq_true] at h
  exact ⟨of_decide_eq_true h.1.1, of_decide_eq_true h.1.2⟩
/-- a loop over a text's signs -/
theorem q_forS {K : PySem.W.Frag} {σ : L2.St} {H : Hp} {te : TE} {tu tz : TS} {D : Ends} {j : Nat} {x : Str} (h : Ev te σ H (.str x)) (Pv : Nat → L2.St → Hp → Prop) (h0 : ∀ H1, Ex H H1 → Pv 0 σ H1)
    (hs : ∀ i c σ' H', x.cps.toList[i]? = some c → Pv i σ' H' → tu { D with nx := Pv (i + 1), ct := Pv (i + 1), bk := tz D } (σ'.set j (some (.str ⟨#[c]⟩))) H') (hd : ∀ σ' H', Pv x.length σ' H' → tz D σ' H') : tSeq (tFor (iStr te) (gName j) tu) tz D σ H :=
  h H (Ex.refl H) _ fun H1 e => ⟨x, rfl, fun i m σ' H' => m = x.length - i ∧ i ≤ x.length ∧ Pv i σ' H', ⟨_, rfl, Nat.zero_le _, h0 H1 e⟩, by
    rintro i m σ' H' ⟨rfl, hi, p⟩
    by_cases hlt : i < x.length
    · refine .inr ⟨hlt, Pv (i + 1), fun σ2 H2 p2 => ⟨_, by omega, rfl, hlt, p2⟩, fun v H2 y => ?_⟩
      obtain ⟨e2, c, hc, ev⟩ := y
      subst e2 ev
      exact hs i c σ' _ (by rw [Array.getElem?_toList]; exact hc) p
    · have e2 : i = x.length := by omega
      subst e2
      exact .inl ⟨Nat.le_refl _, hd _ _ p⟩⟩
theorem rv_notInS {c : Nat} {z : Str} {H : Hp} : RV (fun x y H Q => ∃ (c : Nat) (z : Str), x = .str ⟨#[c]⟩ ∧ y = .str z ∧ Q (.bl (!decide (c ∈ z.cps.toList))) H) (.str ⟨#[c]⟩) (.str z) H (.bl (!decide (c ∈ z.cps.toList))) := fun H1 _ Q q => ⟨c, z, rfl, rfl, q H1 (Ex.refl H1)⟩
/-! ### the desk: plain data, and how the heap bears it -/
inductive Md where
  | rdy (s : Int) | slp (t : Int) | wtg (b : Str)
  deriving DecidableEq
structure Cl where
  nm : Str
  rk : Int
  md : Md
  deriving DecidableEq
structure Dk where
  pace : Int
  room : Int
  now : Int
  line : List Cl
def Md.st : Md → Str
  | .rdy _ => "ready"
  | .slp _ => "asleep"
  | .wtg _ => "waiting"
def Md.mark : Md → V
  | .rdy s => .int s
  | .slp t => .int t
  | .wtg b => .str b
def Md.isR : Md → Bool
  | .rdy _ => true
  | _ => false
def Md.isS : Md → Bool
  | .slp _ => true
  | _ => false
def Md.isW : Md → Bool
  | .wtg _ => true
  | _ => false
def Md.since : Md → Int
  | .rdy s => s
  | _ => 0
theorem mark_rdy {m : Md} (h : m.isR = true) : m.mark = .int m.since := by
  cases m with
  | rdy s => rfl
  | slp s => cases h
  | wtg s => cases h
def optS : Option Str → V
  | none => .non
  | some s => .str s
theorem st_ready : ∀ m : Md, decide (m.st = "ready") = m.isR
  | .rdy _ => (by decide +kernel : decide (("ready" : Str) = "ready") = true)
  | .slp _ => (by decide +kernel : decide (("asleep" : Str) = "ready") = false)
  | .wtg _ => (by decide +kernel : decide (("waiting" : Str) = "ready") = false)
theorem st_asleep : ∀ m : Md, decide (m.st = "asleep") = m.isS
  | .rdy _ => (by decide +kernel : decide (("ready" : Str) = "asleep") = false)
  | .slp _ => (by decide +kernel : decide (("asleep" : Str) = "asleep") = true)
  | .wtg _ => (by decide +kernel : decide (("waiting" : Str) = "asleep") = false)
theorem st_waiting : ∀ m : Md, decide (m.st = "waiting") = m.isW
  | .rdy _ => (by decide +kernel : decide (("ready" : Str) = "waiting") = false)
  | .slp _ => (by decide +kernel : decide (("asleep" : Str) = "waiting") = false)
  | .wtg _ => (by decide +kernel : decide (("waiting" : Str) = "waiting") = true)
def rfs (l g s m : V) : List (Str × V) := [("label", l), ("grade", g), ("stand", s), ("mark", m)]
def cfs (c : Cl) : List (Str × V) := rfs (.str c.nm) (.int c.rk) (.str c.md.st) c.md.mark
def dfs (d : Dk) (l : Addr) : List (Str × V) := [("pace", .int d.pace), ("room", .int d.room), ("now", .int d.now), ("line", .ref l)]
abbrev aC (K : PySem.W.Frag) : Addr := He.ga K "Caller"
abbrev aD (K : PySem.W.Frag) : Addr := He.ga K "Desk"
theorem ins_ne {C C' dx dx' l : Addr} {d : Dk} {a g s m : V} : HO.ins C dx (dfs d l) ≠ HO.ins C' dx' (rfs a g s m) := by
  intro q
  have h : dfs d l = rfs a g s m := by injection q
  have h2 : (("pace" : Str), V.int d.pace) = (("label" : Str), a) := (List.cons.inj h).1
  have h3 : ("pace" : Str) = "label" := congrArg (·.1) h2
  exact absurd h3 (by decide +kernel)
def CAt (K : PySem.W.Frag) (H : Hp) (a : Addr) (c : Cl) : Prop := ∃ dx, H a = some (.ins (aC K) dx (cfs c))
abbrev Pr : Type := Addr × Cl
/-- a desk at p, its line at l, its callers with their addresses -/
structure DkAt (K : PySem.W.Frag) (H : Hp) (p : Addr) (d : Dk) (l : Addr) (ps : List Pr) : Prop where
  ob : ∃ dx, H p = some (.ins (aD K) dx (dfs d l))
  ln : H l = some (.lst (ps.map fun q => V.ref q.1))
  eq : d.line = ps.map (·.2)
  at_ : ∀ q ∈ ps, CAt K H q.1 q.2
/-- what stands beside the desk, all kept -/
structure Fr (F H : Hp) (p l : Addr) (ps : List Pr) : Prop where
  ex : Ex F H
  p0 : F p = none
  l0 : F l = none
  c0 : ∀ q ∈ ps, F q.1 = none
def DeskAt (K : PySem.W.Frag) (F H : Hp) (p : Addr) (d : Dk) : Prop := ∃ l ps, DkAt K H p d l ps ∧ Fr F H p l ps
def MdOk (now : Int) : Md → Prop
  | .rdy s => 0 ≤ s ∧ s ≤ now
  | .slp t => now < t ∧ t ≤ now + 1000
  | .wtg b => isName b = true
def ClOk (now : Int) (c : Cl) : Prop := isName c.nm = true ∧ 0 ≤ c.rk ∧ c.rk ≤ 99 ∧ MdOk now c.md
structure Dk.Ok (d : Dk) : Prop where
  p1 : 1 ≤ d.pace
  p2 : d.pace ≤ 1000
  r1 : 1 ≤ d.room
  r2 : d.room ≤ 60
  n0 : 0 ≤ d.now
  len : (d.line.length : Int) ≤ d.room
  nd : (d.line.map (·.nm)).Nodup
  cl : ∀ c ∈ d.line, ClOk d.now c
theorem Dk.Ok.len60 {d : Dk} (h : d.Ok) : d.line.length ≤ 60 := by have := h.len; have := h.r2; omega
section
variable {K : PySem.W.Frag} {F H H' H1 : Hp} {p l a q : Addr} {d : Dk} {ps : List Pr} {c : Cl}
theorem CAt.ex (h : CAt K H a c) (e : Ex H H') : CAt K H' a c := let ⟨dx, h⟩ := h; ⟨dx, e _ _ h⟩
theorem DkAt.ex (h : DkAt K H p d l ps) (e : Ex H H') : DkAt K H' p d l ps := ⟨let ⟨dx, h⟩ := h.ob; ⟨dx, e _ _ h⟩, e _ _ h.ln, h.eq, fun q hq => (h.at_ q hq).ex e⟩
theorem Fr.mono (h : Fr F H p l ps) (e : Ex H H') : Fr F H' p l ps := ⟨h.ex.trans e, h.p0, h.l0, h.c0⟩
theorem DeskAt.ex (h : DeskAt K F H p d) (e : Ex H H') : DeskAt K F H' p d := let ⟨l, ps, a, b⟩ := h; ⟨l, ps, a.ex e, b.mono e⟩
theorem DeskAt.fr (h : DeskAt K F H p d) : Ex F H := let ⟨_, _, _, b⟩ := h; b.ex
theorem DkAt.len (h : DkAt K H p d l ps) : ps.length = d.line.length := by rw [h.eq, List.length_map]
/-- a new object joins what stands beside -/
theorem Fr.new {o : HO} (f : Fr F H p l ps) (h : DkAt K H p d l ps) (hq : H q = none) (e : Ex H H1) (h1 : H1 q = some o) : Fr (upd F q o) H1 p l ps := by
  have ne : ∀ b u, H b = some u → b ≠ q := fun b u hb => ne_of_none hb hq
  obtain ⟨dx, hp⟩ := h.ob
  refine ⟨fun b u hb => ?_, by rw [upd_ne (ne _ _ hp)]; exact f.p0, by rw [upd_ne (ne _ _ h.ln)]; exact f.l0, fun r hr => ?_⟩
  · by_cases hbq : b = q
    · rw [hbq, upd_same] at hb
      rw [hbq, h1, hb]
    · rw [upd_ne hbq] at hb
      exact e _ _ (f.ex _ _ hb)
  · obtain ⟨dc, hc⟩ := h.at_ r hr
    rw [upd_ne (ne _ _ hc)]
    exact f.c0 r hr
theorem DeskAt.new {o : HO} (h : DeskAt K F H p d) (hq : H q = none) (e : Ex H H1) (h1 : H1 q = some o) : DeskAt K (upd F q o) H1 p d := let ⟨l, ps, a, b⟩ := h; ⟨l, ps, a.ex e, b.new a hq e h1⟩
/-- an object beside the desk is written -/
theorem Fr.set {o u : HO} (f : Fr F H p l ps) (h : DkAt K H p d l ps) (hq : F q = some o) : Fr (upd F q u) (upd H q u) p l ps ∧ DkAt K (upd H q u) p d l ps := by
  have np : p ≠ q := fun e => by have := f.p0; rw [e, hq] at this; cases this
  have nl : l ≠ q := fun e => by have := f.l0; rw [e, hq] at this; cases this
  have nc : ∀ r ∈ ps, r.1 ≠ q := fun r hr e => by have := f.c0 r hr; rw [e, hq] at this; cases this
  refine ⟨⟨fun b v hb => ?_, by rw [upd_ne np]; exact f.p0, by rw [upd_ne nl]; exact f.l0, fun r hr => by rw [upd_ne (nc r hr)]; exact f.c0 r hr⟩, ⟨?_, by rw [upd_ne nl]; exact h.ln, h.eq, fun r hr => ?_⟩⟩
  · by_cases hbq : b = q
    · rw [hbq, upd_same] at hb ⊢
      exact hb
    · rw [upd_ne hbq] at hb ⊢
      exact f.ex _ _ hb
  · obtain ⟨dx, hp⟩ := h.ob
    exact ⟨dx, by rw [upd_ne np]; exact hp⟩
  · obtain ⟨dc, hc⟩ := h.at_ r hr
    exact ⟨dc, by rw [upd_ne (nc r hr)]; exact hc⟩
theorem DeskAt.set {o u : HO} (h : DeskAt K F H p d) (hq : F q = some o) : DeskAt K (upd F q u) (upd H q u) p d := let ⟨l, ps, a, b⟩ := h; ⟨l, ps, (b.set a hq).2, (b.set a hq).1⟩
theorem DkAt.mem_nm (h : DkAt K H p d l ps) {r r' : Pr} (h1 : r ∈ ps) (h2 : r' ∈ ps) (e : r.1 = r'.1) : r.2.nm = r'.2.nm := by
  obtain ⟨d1, e1⟩ := h.at_ r h1
  obtain ⟨d2, e2⟩ := h.at_ r' h2
  rw [e, e2] at e1
  have q := Option.some.inj e1
  have h : cfs r'.2 = cfs r.2 := by injection q
  have h2 : (("label" : Str), V.str r'.2.nm) = (("label" : Str), V.str r.2.nm) := (List.cons.inj h).1
  exact (V.str.inj (congrArg (·.2) h2)).symm
theorem nodup_pr {ps : List Pr} (h : (ps.map fun q => q.2.nm).Nodup) {r r' : Pr} (h1 : r ∈ ps) (h2 : r' ∈ ps) (e : r.2.nm = r'.2.nm) : r = r' := by
  induction ps with
  | nil => cases h1
  | cons q ps ih =>
    rw [List.map_cons, List.nodup_cons] at h
    rcases List.mem_cons.mp h1 with rfl | h1'
    · rcases List.mem_cons.mp h2 with rfl | h2'
      · rfl
      · exact absurd (e ▸ List.mem_map.mpr ⟨r', h2', rfl⟩) h.1
    · rcases List.mem_cons.mp h2 with rfl | h2'
      · exact absurd (e ▸ List.mem_map.mpr ⟨r, h1', rfl⟩) h.1
      · exact ih h.2 h1' h2'
theorem DkAt.nd (h : DkAt K H p d l ps) (o : (d.line.map (·.nm)).Nodup) : (ps.map fun q => q.2.nm).Nodup := by
  rw [h.eq, List.map_map] at o
  exact o
end
def putC (L : List Cl) (c : Cl) : List Cl := L.filter (fun o => !decide (o.nm = c.nm)) ++ [c]
def putP (ps : List Pr) (q : Pr) : List Pr := ps.filter (fun o => !decide (o.2.nm = q.2.nm)) ++ [q]
theorem putP_mem {ps : List Pr} {q r : Pr} (h : r ∈ ps) (n : r.2.nm ≠ q.2.nm) : r ∈ putP ps q := List.mem_append_left _ (List.mem_filter.mpr ⟨h, by simp [n]⟩)
theorem putP_self {ps : List Pr} {q : Pr} : q ∈ putP ps q := List.mem_append_right _ (List.mem_singleton.mpr rfl)
theorem putP_line (ps : List Pr) (q : Pr) : (putP ps q).map (·.2) = putC (ps.map (·.2)) q.2 := by
  unfold putP putC
  rw [List.map_append, List.filter_map]
  rfl
def Dk.put (d : Dk) (c : Cl) : Dk := { d with line := putC d.line c }
structure Dk.Wf (d : Dk) : Prop where
  p1 : 1 ≤ d.pace
  p2 : d.pace ≤ 1000
  len : d.line.length ≤ 60
  nd : (d.line.map (·.nm)).Nodup
theorem Dk.Ok.wf {d : Dk} (h : d.Ok) : d.Wf := ⟨h.p1, h.p2, h.len60, h.nd⟩
theorem putC_mem {L : List Cl} {c x : Cl} : x ∈ putC L c ↔ (x ∈ L ∧ x.nm ≠ c.nm) ∨ x = c := by
  unfold putC
  rw [List.mem_append, List.mem_filter, List.mem_singleton]
  simp
theorem putC_len {L : List Cl} {c c0 : Cl} (nd : (L.map (·.nm)).Nodup) (h0 : c0 ∈ L) (e : c0.nm = c.nm) : (putC L c).length = L.length := by
  unfold putC
  rw [List.length_append, List.length_singleton]
  induction L with
  | nil => cases h0
  | cons x L ih =>
    rw [List.map_cons, List.nodup_cons] at nd
    by_cases hx : x.nm = c.nm
    · rw [List.filter_cons, if_neg (by simp [hx])]
      have : L.filter (fun o => !decide (o.nm = c.nm)) = L := List.filter_eq_self.mpr fun o ho => by
        have : o.nm ≠ c.nm := fun q => nd.1 (by rw [hx, ← q]; exact List.mem_map.mpr ⟨o, ho, rfl⟩)
        simp [this]
      rw [this, List.length_cons]
    · rw [List.filter_cons, if_pos (by simp [hx]), List.length_cons, List.length_cons]
      rcases List.mem_cons.mp h0 with rfl | h0
      · exact absurd e hx
      · have := ih nd.2 h0
        omega
theorem filter_nodup {L : List Cl} {g : Cl → Bool} (nd : (L.map (·.nm)).Nodup) : ((L.filter g).map (·.nm)).Nodup := (List.filter_sublist.map _).nodup nd
theorem putC_nd {L : List Cl} {c : Cl} (nd : (L.map (·.nm)).Nodup) : ((putC L c).map (·.nm)).Nodup := by
  unfold putC
  rw [List.map_append, List.nodup_append]
  refine ⟨filter_nodup nd, by simp, fun a ha b hb => ?_⟩
  obtain ⟨x, hx, rfl⟩ := List.mem_map.mp ha
  have hx := (List.mem_filter.mp hx).2
  simp at hb hx
  rw [hb]
  exact hx
theorem Dk.Wf.put {d : Dk} (h : d.Wf) {c c0 : Cl} (h0 : c0 ∈ d.line) (e : c0.nm = c.nm) : (d.put c).Wf := ⟨h.p1, h.p2, by show (putC d.line c).length ≤ 60; rw [putC_len h.nd h0 e]; exact h.len, putC_nd h.nd⟩
theorem Dk.Ok.put {d : Dk} (ok : d.Ok) {c : Cl} {md : Md} (hc : c ∈ d.line) (hm : MdOk d.now md) : (d.put ⟨c.nm, c.rk, md⟩).Ok := by
  have hl : (putC d.line ⟨c.nm, c.rk, md⟩).length = d.line.length := putC_len ok.nd hc rfl
  refine ⟨ok.p1, ok.p2, ok.r1, ok.r2, ok.n0, by show ((putC d.line _).length : Int) ≤ d.room; rw [hl]; exact ok.len, putC_nd ok.nd, fun x hx => ?_⟩
  rcases putC_mem.mp hx with ⟨h, _⟩ | rfl
  · exact ok.cl x h
  · have := ok.cl c hc
    exact ⟨this.1, this.2.1, this.2.2.1, hm⟩
theorem nm_inj {L : List Cl} (nd : (L.map (·.nm)).Nodup) {a b : Cl} (ha : a ∈ L) (hb : b ∈ L) (e : a.nm = b.nm) : a = b := by
  induction L with
  | nil => cases ha
  | cons x L ih =>
    rw [List.map_cons, List.nodup_cons] at nd
    rcases List.mem_cons.mp ha with rfl | ha'
    · rcases List.mem_cons.mp hb with rfl | hb'
      · rfl
      · exact absurd (e ▸ List.mem_map.mpr ⟨b, hb', rfl⟩) nd.1
    · rcases List.mem_cons.mp hb with rfl | hb'
      · exact absurd (e ▸ List.mem_map.mpr ⟨a, ha', rfl⟩) nd.1
      · exact ih nd.2 ha' hb'
/-- the caller of a name -/
def Dk.get (d : Dk) (nm : Str) : Option Cl := d.line.find? fun c => decide (c.nm = nm)
def enterErr (d : Dk) (nm : Str) (rk : Int) : Option Str :=
  if isName nm = false then some "NoName" else if rk < 0 ∨ 99 < rk then some "NoRank" else if nm ∈ d.line.map (·.nm) then some "Known" else if d.room ≤ (d.line.length : Int) then some "Full" else none
def Dk.enter (d : Dk) (nm : Str) (rk : Int) : Dk := { d with line := d.line ++ [⟨nm, rk, .rdy d.now⟩] }
def Dk.leave (d : Dk) (nm : Str) : Dk := { d with line := d.line.filter fun o => !decide (o.nm = nm) }
def sleepErr (d : Dk) (nm : Str) (m : Int) : Option Str := match d.get nm with
  | none => some "Unknown"
  | some c => if m < 1 ∨ 1000 < m then some "NoSpan" else if c.md.isR = true then none else some "NotReady"
def waitErr (d : Dk) (nm b : Str) : Option Str := match d.get nm with
  | none => some "Unknown"
  | some c => if isName b = false then some "NoName" else if c.md.isR = true then none else some "NotReady"
def wakeErr (d : Dk) (nm : Str) : Option Str := match d.get nm with
  | none => some "Unknown"
  | some c => if c.md.isR = true then some "IsReady" else none
def rerankErr (d : Dk) (nm : Str) (rk : Int) : Option Str := match d.get nm with
  | none => some "Unknown"
  | some c => if rk < 0 ∨ 99 < rk then some "NoRank" else if c.md.isR = true then some "IsReady" else none
def Dk.setRk (d : Dk) (nm : Str) (rk : Int) : Dk := { d with line := d.line.map fun c => if c.nm = nm then ⟨c.nm, rk, c.md⟩ else c }
theorem Dk.get_some {d : Dk} {nm : Str} {c : Cl} (h : d.get nm = some c) : c ∈ d.line ∧ c.nm = nm := ⟨List.mem_of_find?_eq_some h, by simpa using List.find?_some h⟩
theorem Dk.get_none {d : Dk} {nm : Str} (h : d.get nm = none) : ∀ c ∈ d.line, c.nm ≠ nm := fun c hc => by
  have := List.find?_eq_none.mp h c hc
  simpa using this
theorem Dk.get_of {d : Dk} (nd : (d.line.map (·.nm)).Nodup) {c : Cl} (hc : c ∈ d.line) : d.get c.nm = some c := by
  cases h : d.get c.nm with
  | none => exact absurd rfl (Dk.get_none h c hc)
  | some c' =>
    obtain ⟨h1, h2⟩ := Dk.get_some h
    congr 1
    generalize d.line = L at *
    induction L with
    | nil => cases hc
    | cons x L ih =>
      rw [List.map_cons, List.nodup_cons] at nd
      rcases List.mem_cons.mp h1 with rfl | k1
      · rcases List.mem_cons.mp hc with rfl | k2
        · rfl
        · exact absurd (List.mem_map.mpr ⟨c, k2, h2.symm⟩) nd.1
      · rcases List.mem_cons.mp hc with rfl | k2
        · exact absurd (List.mem_map.mpr ⟨c', k1, h2⟩) nd.1
        · exact ih nd.2 k2 k1
theorem DkAt.get {K : PySem.W.Frag} {H : Hp} {p l : Addr} {d : Dk} {ps : List Pr} (D : DkAt K H p d l ps) {nm : Str} {c : Cl} (h : d.get nm = some c) : ∃ q ∈ ps, q.2 = c ∧ c.nm = nm := by
  obtain ⟨h1, h2⟩ := Dk.get_some h
  rw [D.eq] at h1
  obtain ⟨q, hq, e⟩ := List.mem_map.mp h1
  exact ⟨q, hq, e, h2⟩
theorem DkAt.get_of {K : PySem.W.Frag} {H : Hp} {p l : Addr} {d : Dk} {ps : List Pr} (D : DkAt K H p d l ps) (W : d.Wf) {q : Pr} (hq : q ∈ ps) : d.get q.2.nm = some q.2 := Dk.get_of W.nd (by rw [D.eq]; exact List.mem_map.mpr ⟨q, hq, rfl⟩)
theorem DkAt.get_none {K : PySem.W.Frag} {H : Hp} {p l : Addr} {d : Dk} {ps : List Pr} (D : DkAt K H p d l ps) {nm : Str} (h : ∀ q ∈ ps, q.2.nm ≠ nm) : d.get nm = none := by
  cases e : d.get nm with
  | none => rfl
  | some c =>
    obtain ⟨q, hq, h1, h2⟩ := D.get e
    exact absurd (by rw [h1, h2]) (h q hq)
theorem Fr.sub {F G H : Hp} {p l : Addr} {ps : List Pr} (f : Fr F H p l ps) (h : ∀ a o, G a = some o → F a = some o) : Fr G H p l ps := by
  have no : ∀ a, F a = none → G a = none := fun a ha => by
    cases e : G a with
    | none => rfl
    | some o => rw [h a o e] at ha; cases ha
  exact ⟨fun a o e => f.ex a o (h a o e), no _ f.p0, no _ f.l0, fun q hq => no _ (f.c0 q hq)⟩
theorem DeskAt.sub {K : PySem.W.Frag} {F G H : Hp} {p : Addr} {d : Dk} (D : DeskAt K F H p d) (h : ∀ a o, G a = some o → F a = some o) : DeskAt K G H p d := let ⟨l, ps, a, b⟩ := D; ⟨l, ps, a, b.sub h⟩
theorem upd_sub {F : Hp} {a : Addr} {x : HO} (h : F a = none) : ∀ b o, F b = some o → upd F a x b = some o := fun b o e => by rw [upd_ne (ne_of_none e h)]; exact e
theorem upd_mono {F G : Hp} {a : Addr} {x : HO} (h : ∀ b o, F b = some o → G b = some o) : ∀ b o, upd F a x b = some o → upd G a x b = some o := fun b o e => by
  by_cases c : b = a
  · rw [c, upd_same] at e ⊢
    exact e
  · rw [upd_ne c] at e ⊢
    exact h b o e
theorem ex_none {F H : Hp} {a : Addr} (e : Ex F H) (h : H a = none) : F a = none := by
  cases q : F a with
  | none => rfl
  | some o => rw [e _ _ q] at h; cases h
theorem decV (a b : Str) : decide (V.str a = V.str b) = decide (a = b) := decide_eq_decide.mpr ⟨V.str.inj, congrArg _⟩
section
variable {K : PySem.W.Frag} {mg : Str → Option Value} {σ : L2.St} {F H H' H1 : Hp} {p l a q : Addr} {d : Dk} {ps : List Pr} {c : Cl} {ta : TE}
theorem ev_pace (T : Txt K mg) (h : Ev ta σ H (.ref p)) (D : DkAt K H p d l ps) : Ev (tFld K ta "pace") σ H (.int d.pace) := ev_fldx h D.ob (c_Desk T) (n_Desk_pace T) rfl
theorem ev_room (T : Txt K mg) (h : Ev ta σ H (.ref p)) (D : DkAt K H p d l ps) : Ev (tFld K ta "room") σ H (.int d.room) := ev_fldx h D.ob (c_Desk T) (n_Desk_room T) rfl
theorem ev_now (T : Txt K mg) (h : Ev ta σ H (.ref p)) (D : DkAt K H p d l ps) : Ev (tFld K ta "now") σ H (.int d.now) := ev_fldx h D.ob (c_Desk T) (n_Desk_now T) rfl
theorem ev_line (T : Txt K mg) (h : Ev ta σ H (.ref p)) (D : DkAt K H p d l ps) : Ev (tFld K ta "line") σ H (.ref l) := ev_fldx h D.ob (c_Desk T) (n_Desk_line T) rfl
theorem ev_label (T : Txt K mg) (h : Ev ta σ H (.ref a)) (C : CAt K H a c) : Ev (tFld K ta "label") σ H (.str c.nm) := ev_fldx h C (c_Caller T) (n_Caller_label T) rfl
theorem ev_grade (T : Txt K mg) (h : Ev ta σ H (.ref a)) (C : CAt K H a c) : Ev (tFld K ta "grade") σ H (.int c.rk) := ev_fldx h C (c_Caller T) (n_Caller_grade T) rfl
theorem ev_stand (T : Txt K mg) (h : Ev ta σ H (.ref a)) (C : CAt K H a c) : Ev (tFld K ta "stand") σ H (.str c.md.st) := ev_fldx h C (c_Caller T) (n_Caller_stand T) rfl
theorem ev_mark (T : Txt K mg) (h : Ev ta σ H (.ref a)) (C : CAt K H a c) : Ev (tFld K ta "mark") σ H c.md.mark := ev_fldx h C (c_Caller T) (n_Caller_mark T) rfl
end
theorem q_makeA {σ : L2.St} {H : Hp} {tz : TS} {D : Ends} {i : Nat} {C : Addr} {sp : Sp} {E : XK} {tr : TA} (h : tr σ H fun vs H1 => ∀ x dx, H1 x = none → H1 dx = none → dx ≠ x → sp (.ref x :: (vs ++ [])) (upd (upd H1 dx (.own x)) x (.ins C dx [])) (fun v H2 => v = .non ∧ tz D (σ.set i (some (.ref x))) H2) E) :
    tSeq (tAsg (tMake C sp [] E tr) (gName i)) tz D σ H := h
theorem DeskAt.made {K : PySem.W.Frag} {H10 H11 : Hp} {x dx l : Addr} {d : Dk} {o1 o2 : HO} (nx : H10 x = none) (ndx : H10 dx = none) (D : DkAt K H11 x d l []) (nl : upd (upd H10 dx o1) x o2 l = none) (k11 : ∀ b o, upd (upd H10 dx o1) x o2 b = some o → b ≠ x → H11 b = some o) : DeskAt K H10 H11 x d := by
  have u10 : ∀ b o, H10 b = some o → upd (upd H10 dx o1) x o2 b = some o := fun b o hb => by rw [upd_ne (ne_of_none hb nx), upd_ne (ne_of_none hb ndx)]; exact hb
  exact ⟨l, [], D, ⟨fun b o hb => k11 b o (u10 b o hb) (ne_of_none hb nx), nx, ex_none (fun b o hb => u10 b o hb) nl, fun q hq => by cases hq⟩⟩
theorem DkAt.setNow {K : PySem.W.Frag} {F H : Hp} {p l dx : Addr} {d : Dk} {ps : List Pr} {n : Int} (D : DkAt K H p d l ps) (f : Fr F H p l ps) (hp : H p = some (.ins (aD K) dx (dfs d l))) :
    DkAt K (upd H p (.ins (aD K) dx (putF "now" (.int n) (dfs d l)))) p { d with now := n } l ps ∧ Fr F (upd H p (.ins (aD K) dx (putF "now" (.int n) (dfs d l)))) p l ps := by
  have ca : ∀ {b o}, b ≠ p → H b = some o → upd H p (.ins (aD K) dx (putF "now" (.int n) (dfs d l))) b = some o := fun hb ho => by rw [upd_ne hb]; exact ho
  refine ⟨⟨⟨dx, upd_same⟩, ca (ne_of D.ln hp (by intro z; cases z)) D.ln, D.eq, fun q hq => ?_⟩, ⟨fun b o hb => ca (fun e => by have := f.p0; rw [← e, hb] at this; cases this) (f.ex _ _ hb), f.p0, f.l0, f.c0⟩⟩
  obtain ⟨dq, h⟩ := D.at_ q hq
  exact ⟨dq, ca (fun e => by rw [e, hp] at h; exact ins_ne (Option.some.inj h)) h⟩
theorem inV_names (nm : Str) (L : List Cl) : inV (.str nm) (L.map fun c => V.str c.nm) = decide (nm ∈ L.map (·.nm)) := by
  unfold inV
  rw [List.any_map]
  induction L with
  | nil => rfl
  | cons c L ih =>
    rw [List.any_cons, ih, List.map_cons]
    by_cases h : nm = c.nm
    · subst h
      simp [Function.comp, eqV]
    · have h' : ¬ c.nm = nm := fun e => h e.symm
      simp [Function.comp, eqV, h, h']
theorem flat_names (L : List Cl) : (L.map fun c => V.str c.nm).all flatV = true := by
  rw [List.all_map]
  exact List.all_eq_true.mpr fun _ _ => rfl
/-! ### numbers as texts -/
def isFig (c : Nat) : Bool := decide (c ∈ figsS.cps.toList)
theorem figs_eq : figsS.cps.toList = [48, 49, 50, 51, 52, 53, 54, 55, 56, 57] := by decide +kernel
theorem isFig_iff {c : Nat} : isFig c = true ↔ 48 ≤ c ∧ c ≤ 57 := by
  unfold isFig
  rw [figs_eq, decide_eq_true_iff]
  simp only [List.mem_cons, List.not_mem_nil, or_false]
  omega
def zeroLead (w : Str) : Bool := decide (w.cps.toList.head? = some 48) && decide (1 < w.length)
def isNum (w : Str) : Bool := !(decide (w = "") || decide (12 < w.length)) && (w.cps.toList.all isFig && !zeroLead w)
def numOf (w : Str) : Option Int := if isNum w = true then some ((NumText.digitsVal w.cps.toList : Nat) : Int) else none
theorem len0 {w : Str} (h : w ≠ "") : 1 ≤ w.length := by
  cases e : w.cps.toList with
  | nil => exact absurd (TL.ext_tl (x := w) (y := "") (by rw [show TL.tl w = w.cps.toList from rfl, e]; decide +kernel)) h
  | cons c r => rw [TL.len_tl, show TL.tl w = w.cps.toList from rfl, e]; simp
theorem dec0 {c : Nat} : decide (V.str ⟨#[c]⟩ = V.str "0") = decide (c = 48) := by
  rw [decV, show ("0" : Str) = ⟨#[48]⟩ from by decide +kernel]
  refine decide_eq_decide.mpr ⟨fun h => ?_, fun h => by rw [h]⟩
  have h2 : (#[c] : Array Nat) = #[48] := by injection h
  simpa using h2
theorem rc_intS {w : Str} {n : Int} {H : Hp} (h : PySem.intText? w = some n) (hl : w.length ≤ 640) : RC (fun xs H Q => ∃ a n, xs = [.str a] ∧ PySem.intText? a = some n ∧ a.length ≤ 640 ∧ Q (.int n) H) [.str w] H (.int n) := fun H1 _ Q q => ⟨w, n, rfl, h, hl, q H1 (Ex.refl H1)⟩
theorem at0 {α : Type} (c : α) (r : List α) : atI (c :: r) 0 = some c := by
  unfold atI ixN
  rw [if_pos (by decide), if_pos (by simp only [List.length_cons]; omega)]
  rfl
theorem q_dcall {σ : L2.St} {H : Hp} {tz : TS} {D : Ends} {sp : Sp} {E : XK} {tr : TA} {vs : List V} (h : EvA tr σ H vs) (k : ∀ H1, Ex H H1 → sp (vs ++ []) H1 (fun _ H2 => tz D σ H2) E) : tSeq (tDrop (tCall sp [] E tr)) tz D σ H := h H (Ex.refl H) _ fun H1 e1 => k H1 e1
def callerOf (d : Dk) : List Str → Option Cl
  | [nm, r, st, m] =>
    if (isName nm && !decide (nm ∈ d.line.map (·.nm))) = false then none
    else match numOf r with
    | none => none
    | some rk =>
      if (decide (rk ≤ 99) && decide ((d.line.length : Int) < d.room)) = false then none
      else if st = "waiting" then (if isName m = false then none else some ⟨nm, rk, .wtg m⟩)
      else match numOf m with
      | none => none
      | some t =>
        if st = "ready" then (if t ≤ d.now then some ⟨nm, rk, .rdy (d.now - t)⟩ else none)
        else if (decide (st = "asleep") && (decide (1 ≤ t) && decide (t ≤ 1000))) = false then none else some ⟨nm, rk, .slp (d.now + t)⟩
  | _ => none
theorem callerOf_lt {d : Dk} {ws : List Str} {c : Cl} (h : callerOf d ws = some c) : (d.line.length : Int) < d.room := by
  unfold callerOf at h
  split at h
  · split at h
    · cases h
    · split at h
      · cases h
      · split at h
        · cases h
        · rename_i hh
          rw [Bool.not_eq_false, Bool.and_eq_true] at hh
          exact of_decide_eq_true hh.2
  · cases h
def Dk.snoc (d : Dk) (c : Cl) : Dk := { d with line := d.line ++ [c] }
def readLine (d : Dk) : List Str → Option Dk
  | [] => some d
  | r :: rs => match callerOf d (Txt.split r " ") with
    | none => none
    | some c => readLine (d.snoc c) rs
theorem readLine_cons (d : Dk) (r : Str) (rs : List Str) : readLine d (r :: rs) = match callerOf d (Txt.split r " ") with
    | none => none
    | some c => readLine (d.snoc c) rs := rfl
def deskOf (pa ro no : Int) : Option Dk := if 1 ≤ pa ∧ pa ≤ 1000 ∧ 1 ≤ ro ∧ ro ≤ 60 then some ⟨pa, ro, no, []⟩ else none
def readHead : List Str → Option Dk
  | [h, a, b, c] => if (decide (h = "desk")) = false then none else (numOf a).bind fun pa => (numOf b).bind fun ro => if 1 ≤ pa ∧ pa ≤ 1000 ∧ 1 ≤ ro ∧ ro ≤ 60 then (numOf c).bind fun no => some ⟨pa, ro, no, []⟩ else none
  | _ => none
def midL (rows : List Str) : List Str := (rows.drop 1).take (rows.length - 2)
def readD (t : Str) : Option Dk :=
  if (decide (1 < (Txt.split t "\n").length) && decide ((Txt.split t "\n").getLast? = some ("" : Str))) = false then none
  else match readHead (Txt.split ((Txt.split t "\n").headD "") " ") with
  | none => none
  | some d => readLine d (midL (Txt.split t "\n"))
theorem spl_len (S : List Nat) : ∀ (l : List Nat) (k : Nat) (acc : List Nat), ∀ p ∈ TL.spl S k acc l, p.length ≤ acc.length + l.length
  | [], k, acc, p, h => by
    rw [TL.spl_nil, List.mem_singleton] at h
    rw [h]
    exact Nat.le_add_right _ _
  | c :: r, 0, acc, p, h => by
    cases hp : TL.pre S (c :: r) with
    | true =>
      rw [TL.spl_hit hp] at h
      rcases List.mem_cons.mp h with h | h
      · rw [h]
        exact Nat.le_add_right _ _
      · have := spl_len S r _ _ p h
        simp only [List.length_nil, List.length_cons] at this ⊢
        omega
    | false =>
      rw [TL.spl_miss hp] at h
      have := spl_len S r _ _ p h
      simp only [List.length_append, List.length_cons, List.length_nil] at this ⊢
      omega
  | c :: r, k + 1, acc, p, h => by
    have := spl_len S r k acc p h
    simp only [List.length_cons] at this ⊢
    omega
theorem split_piece {a b : Str} (hy : TL.tl b ≠ []) (hk : b.cps.all (· < 256) = true) : ∀ w ∈ Txt.split a b, w.length ≤ a.length := fun w hw => by
  have h := TL.split_spl a b hy (TL.kind_ok hk)
  have hm : TL.tl w ∈ TL.spl (TL.tl b) 0 [] (TL.tl a) := by
    rw [← h]
    exact List.mem_map.mpr ⟨w, hw, rfl⟩
  have := spl_len _ _ _ _ _ hm
  rw [TL.len_tl, TL.len_tl]
  simpa using this
theorem nl_ok : TL.tl ("\n" : Str) ≠ [] ∧ ("\n" : Str).cps.all (· < 256) = true ∧ (("\n" : Str).length == 0) = false := by decide +kernel
theorem bl_ok : TL.tl (" " : Str) ≠ [] ∧ (" " : Str).cps.all (· < 256) = true ∧ ((" " : Str).length == 0) = false := by decide +kernel
theorem el_split {σ : L2.St} {H : Hp} {to te : TE} {a b : Str} (h : Ev to σ H (.str a)) (h2 : Ev te σ H (.str b)) (hb : (b.length == 0) = false) (hz : a.length ≤ 90000) :
    EvL (tM1 (fun x xs H Q => ∃ a b, x = .str a ∧ xs = [.str b] ∧ (b.length == 0) = false ∧ a.length + 2 ≤ sizeLine ∧ rNewStrs (Txt.split a b) H Q) to te) σ H ((Txt.split a b).map V.str) := fun H1 e Q q =>
  h H1 e _ fun H2 e2 => ⟨⟨a, rfl⟩, h2 H2 (e.trans e2) _ fun H3 e3 => ⟨a, b, rfl, rfl, hb, sz_of (by omega), fun p hp => q p _ (fresh_back (e2.trans e3) hp) ((e2.trans e3).trans (Ex.new hp)) upd_same⟩⟩
theorem aa_call {σ : L2.St} {H : Hp} {sp : Sp} {E : XK} {tr tr' : TA} {vs : List V} {Q : List V → Hp → Prop} (h : EvA tr σ H vs) (k : ∀ H1, Ex H H1 → sp (vs ++ []) H1 (fun x H2 => tr' σ H2 fun xs H3 => Q (x :: xs) H3) E) : tCons (tCall sp [] E tr) tr' σ H Q := h H (Ex.refl H) _ fun H1 e1 => k H1 e1
theorem cut_mid {xs : List V} (h : 2 ≤ xs.length) : cutV xs (some 1) (some (-1)) = (xs.drop 1).take (xs.length - 2) := by
  have e1 : HT.sIx xs.length 0 (some 1) = 1 := by
    show (if (1 : Int) < 0 then ((1 : Int) + (xs.length : Int)).toNat else min (1 : Int).toNat xs.length) = 1
    rw [if_neg (by decide)]
    show min 1 xs.length = 1
    omega
  have e2 : HT.sIx xs.length xs.length (some (-1)) = xs.length - 1 := by
    show (if (-1 : Int) < 0 then ((-1 : Int) + (xs.length : Int)).toNat else min (-1 : Int).toNat xs.length) = xs.length - 1
    rw [if_pos (by decide)]
    omega
  unfold cutV
  rw [e1, e2]
  congr 1
theorem DeskAt.app {K : PySem.W.Frag} {F H H5 : Hp} {p l x : Addr} {d : Dk} {ps : List Pr} {c : Cl} (D : DkAt K H p d l ps) (f : Fr F H p l ps) (nx : H x = none) (e : Ex H H5) (C : CAt K H5 x c) :
    DeskAt K F (upd H5 l (.lst ((ps.map fun q => V.ref q.1) ++ [.ref x]))) p (d.snoc c) := by
  have nlx : l ≠ x := ne_of_none D.ln nx
  have D5 := D.ex e
  have f5 := f.mono e
  obtain ⟨dc, h5⟩ := C
  have ca : ∀ {b o}, b ≠ l → H5 b = some o → upd H5 l (.lst ((ps.map fun q => V.ref q.1) ++ [.ref x])) b = some o := fun hb ho => by rw [upd_ne hb]; exact ho
  obtain ⟨dx5, hp5⟩ := D5.ob
  have Fx : F x = none := ex_none f.ex nx
  refine ⟨l, ps ++ [(x, c)], ⟨⟨dx5, ca (ne_of hp5 D5.ln (by intro z; cases z)) hp5⟩, ?_, ?_, ?_⟩, ⟨fun b o hb => ca (fun e => by have := f.l0; rw [← e, hb] at this; cases this) (f5.ex _ _ hb), f.p0, f.l0, ?_⟩⟩
  · rw [upd_same, List.map_append]
    rfl
  · show d.line ++ _ = _
    rw [List.map_append, D.eq]
    rfl
  · intro q hq
    rcases List.mem_append.mp hq with hq | hq
    · obtain ⟨dq, h⟩ := D5.at_ q hq
      exact ⟨dq, ca (ne_of h D5.ln (by intro z; cases z)) h⟩
    · rw [List.mem_singleton] at hq
      rw [hq]
      exact ⟨dc, ca nlx.symm h5⟩
  · intro q hq
    rcases List.mem_append.mp hq with hq | hq
    · exact f.c0 q hq
    · rw [List.mem_singleton] at hq
      rw [hq]
      exact Fx
theorem q_fldC {K : PySem.W.Frag} {σ : L2.St} {H : Hp} {tz : TS} {D : Ends} {sp : Sp} {E : XK} {tr : TA} {ta : TE} {vs : List V} {f : Str} (h : EvA tr σ H vs) (k : ∀ H1, Ex H H1 → sp (vs ++ []) H1 (fun y H2 => ta σ H2 fun x H3 => ∃ a C dx fs, x = .ref a ∧ H3 a = some (.ins C dx fs) ∧ Cls K C ∧ NoAttr K C f ∧ fs.length < 1000 ∧ tz D σ (upd H3 a (.ins C dx (putF f y fs)))) E) :
    tSeq (sFld K ta (tCall sp [] E tr) f) tz D σ H := h H (Ex.refl H) _ fun H1 e1 => k H1 e1
/-! ### a desk as a text, and read back -/
def markS (now : Int) : Md → Str
  | .rdy s => toString (now - s)
  | .slp t => toString (t - now)
  | .wtg b => b
def rowW (now : Int) (c : Cl) : List Str := [c.nm, toString c.rk, c.md.st, markS now c.md]
def rowS (now : Int) (c : Cl) : Str := Txt.join " " (rowW now c)
def headS (d : Dk) : Str := "desk " ++ (toString d.pace : String) ++ " " ++ (toString d.room : String) ++ " " ++ (toString d.now : String)
def rowsS (d : Dk) : List Str := headS d :: d.line.map (rowS d.now)
def shownD (d : Dk) : Str := Txt.join "" ((rowsS d).map fun r => r ++ "\n")
theorem tl_int {i : Int} (h : 0 ≤ i) : TL.tl (Str.ofString (toString i)) = TL.numL i.toNat := by
  obtain ⟨n, rfl⟩ := Int.eq_ofNat_of_zero_le h
  exact TL.tl_num n
theorem numL_lead : ∀ n : Nat, 1 ≤ n → (TL.numL n).head? ≠ some 48 := by
  intro n
  induction n using Nat.strongRecOn with
  | _ n ih =>
    intro h1
    by_cases h : n < 10
    · rw [TL.numL_lt h]
      simp
      omega
    · rw [TL.numL_step (by omega)]
      have := ih (n / 10) (by omega) (by omega)
      cases hn : TL.numL (n / 10) with
      | nil => exact absurd hn (TL.numL_ne _)
      | cons c r =>
        rw [hn] at this
        exact this
theorem numOf_int {i : Int} (h0 : 0 ≤ i) (h1 : i < 1000000000000) : numOf (Str.ofString (toString i)) = some i := by
  obtain ⟨n, rfl⟩ := Int.eq_ofNat_of_zero_le h0
  have e : Str.ofString (toString ((n : Nat) : Int)) = SX.S (TL.numL n) := SX.num_S n
  rw [e]
  have hl : (TL.numL n).length ≤ 12 := TL.numL_len (by decide) (by omega)
  have hne := TL.numL_ne n
  have h2 : decide (SX.S (TL.numL n) = ("" : Str)) = false := decide_eq_false fun q => hne (by
    have : TL.tl (SX.S (TL.numL n)) = TL.tl ("" : Str) := by rw [q]
    rw [show TL.tl ("" : Str) = [] from by decide +kernel] at this
    exact this)
  have h3 : decide (12 < (SX.S (TL.numL n)).length) = false := decide_eq_false (by rw [SX.S_len]; omega)
  have h4 : (SX.S (TL.numL n)).cps.toList.all isFig = true := List.all_eq_true.mpr fun c hc => isFig_iff.mpr (TL.numL_digits n c hc)
  have h5 : zeroLead (SX.S (TL.numL n)) = false := by
    unfold zeroLead
    by_cases hn : 1 ≤ n
    · rw [decide_eq_false (numL_lead n hn)]
      rfl
    · have : n = 0 := by omega
      subst this
      rw [SX.S_len, TL.numL_lt (by decide)]
      rfl
  unfold numOf isNum
  rw [h2, h3, h4, h5]
  show some ((NumText.digitsVal (TL.numL n) : Nat) : Int) = _
  rw [TL.numL_val]
def lineOf (r : List Nat) : List Nat := r ++ [10]
theorem spl_lines : ∀ (rows : List (List Nat)), (∀ r ∈ rows, 10 ∉ r) → TL.spl [10] 0 [] ((rows.map fun r => r ++ [10]).flatten) = rows ++ [[]]
  | [], _ => rfl
  | r :: rows, h => by
    have e : (((r :: rows).map fun r => r ++ [10]).flatten) = r ++ ([10] ++ (rows.map fun r => r ++ [10]).flatten) := by
      rw [List.map_cons, List.flatten_cons, List.append_assoc]
    rw [e]
    have := TL.spl_part1 (s := 10) (S := []) (p := r) (rest := (rows.map fun r => r ++ [10]).flatten) (acc := []) (h r (List.mem_cons_self ..))
    rw [show ([10] : List Nat) ++ (rows.map fun r => r ++ [10]).flatten = 10 :: [] ++ (rows.map fun r => r ++ [10]).flatten from rfl, this, spl_lines rows fun q hq => h q (List.mem_cons_of_mem _ hq)]
    rfl
theorem nl_eq : ("\n" : Str) = SX.S [10] := by decide +kernel
theorem bl_eq : (" " : Str) = SX.S [32] := by decide +kernel
theorem tl_shown (d : Dk) : TL.tl (shownD d) = (((rowsS d).map TL.tl).map fun r => r ++ [10]).flatten := by
  unfold shownD
  rw [TL.join_eq, TL.tl_join, show TL.tl ("" : Str) = [] from by decide +kernel, joinL_nil, List.map_map, List.map_map]
  congr 1
  refine List.map_congr_left fun r _ => ?_
  show TL.tl (r ++ "\n") = TL.tl r ++ [10]
  rw [TL.tl_append, nl_eq]
theorem split_shown {d : Dk} (h : ∀ r ∈ rowsS d, 10 ∉ TL.tl r) : Txt.split (shownD d) "\n" = rowsS d ++ [("" : Str)] := by
  refine TL.map_tl_inj ?_
  rw [TL.split_spl _ _ nl_ok.1 (TL.kind_ok nl_ok.2.1), tl_shown, show TL.tl ("\n" : Str) = [10] from by rw [nl_eq], spl_lines _ (fun r hr => by
    obtain ⟨q, hq, rfl⟩ := List.mem_map.mp hr
    exact h q hq), List.map_append]
  rfl
theorem split_words {ws : List Str} (hne : ws ≠ []) (h : ∀ w ∈ ws, 32 ∉ TL.tl w) : Txt.split (Txt.join " " ws) " " = ws :=
  TL.split_join (y := " ") (s := 32) (S := []) (by rw [bl_eq]) bl_ok.2.1 hne h
theorem sign_free {s : Str} (h : isName s = true) {c : Nat} (hc : c ∈ TL.tl s) : isSign c = true := by
  unfold isName at h
  rw [Bool.and_eq_true] at h
  exact List.all_eq_true.mp h.2 c hc
theorem sign10 : isSign 10 = false ∧ isSign 32 = false := by decide +kernel
theorem name_free {s : Str} (h : isName s = true) : 10 ∉ TL.tl s ∧ 32 ∉ TL.tl s :=
  ⟨fun hc => (by have := sign_free h hc; rw [sign10.1] at this; cases this), fun hc => (by have := sign_free h hc; rw [sign10.2] at this; cases this)⟩
theorem int_free {i : Int} (h : 0 ≤ i) : 10 ∉ TL.tl (Str.ofString (toString i)) ∧ 32 ∉ TL.tl (Str.ofString (toString i)) := by
  rw [tl_int h]
  exact ⟨TL.numL_free (by decide), TL.numL_free (by decide)⟩
theorem st_free : ∀ m : Md, 10 ∉ TL.tl m.st ∧ 32 ∉ TL.tl m.st
  | .rdy _ => (by decide +kernel : 10 ∉ TL.tl ("ready" : Str) ∧ 32 ∉ TL.tl ("ready" : Str))
  | .slp _ => (by decide +kernel : 10 ∉ TL.tl ("asleep" : Str) ∧ 32 ∉ TL.tl ("asleep" : Str))
  | .wtg _ => (by decide +kernel : 10 ∉ TL.tl ("waiting" : Str) ∧ 32 ∉ TL.tl ("waiting" : Str))
theorem mark_free {now : Int} : ∀ m : Md, MdOk now m → 10 ∉ TL.tl (markS now m) ∧ 32 ∉ TL.tl (markS now m)
  | .rdy s, h => int_free (by have h : 0 ≤ s ∧ s ≤ now := h; omega)
  | .slp t, h => int_free (by have h : now < t ∧ t ≤ now + 1000 := h; omega)
  | .wtg b, h => name_free h
theorem rowW_free {now : Int} {c : Cl} (h : ClOk now c) : ∀ w ∈ rowW now c, 10 ∉ TL.tl w ∧ 32 ∉ TL.tl w := fun w hw => by
  obtain ⟨h1, h2, h3, h4⟩ := h
  unfold rowW at hw
  simp only [List.mem_cons, List.not_mem_nil, or_false] at hw
  rcases hw with rfl | rfl | rfl | rfl
  · exact name_free h1
  · exact int_free h2
  · exact st_free _
  · exact mark_free _ h4
theorem joinL_free {c : Nat} {S : List Nat} (hS : c ∉ S) : ∀ ps : List (List Nat), (∀ p ∈ ps, c ∉ p) → c ∉ TL.joinL S ps
  | [], _ => by simp [TL.joinL]
  | [p], h => h p (List.mem_singleton.mpr rfl)
  | p :: q :: r, h => by
    show c ∉ p ++ (S ++ TL.joinL S (q :: r))
    rw [List.mem_append, List.mem_append]
    rintro (h1 | h1 | h1)
    · exact h p (List.mem_cons_self ..) h1
    · exact hS h1
    · exact joinL_free hS (q :: r) (fun z hz => h z (List.mem_cons_of_mem _ hz)) h1
theorem row_free {now : Int} {c : Cl} (h : ClOk now c) : 10 ∉ TL.tl (rowS now c) := by
  unfold rowS
  rw [TL.join_eq, TL.tl_join]
  refine joinL_free (by rw [bl_eq]; show 10 ∉ [32]; decide) _ fun p hp => ?_
  obtain ⟨w, hw, rfl⟩ := List.mem_map.mp hp
  exact (rowW_free h w hw).1
def headW (d : Dk) : List Str := ["desk", toString d.pace, toString d.room, toString d.now]
theorem head_join (d : Dk) : headS d = Txt.join " " (headW d) := by
  refine TL.ext_tl ?_
  rw [TL.join_eq, TL.tl_join]
  unfold headS headW
  rw [TL.tl_append, TL.tl_append, TL.tl_append, TL.tl_append, TL.tl_append, show TL.tl ("desk " : Str) = TL.tl ("desk" : Str) ++ TL.tl (" " : Str) from by decide +kernel]
  simp only [List.map_cons, List.map_nil, TL.joinL, List.append_assoc]
theorem headW_free {d : Dk} (h1 : 0 ≤ d.pace) (h2 : 0 ≤ d.room) (h3 : 0 ≤ d.now) : ∀ w ∈ headW d, 10 ∉ TL.tl w ∧ 32 ∉ TL.tl w := fun w hw => by
  unfold headW at hw
  simp only [List.mem_cons, List.not_mem_nil, or_false] at hw
  rcases hw with rfl | rfl | rfl | rfl
  · decide +kernel
  · exact int_free h1
  · exact int_free h2
  · exact int_free h3
theorem callerOf_row {d : Dk} {c : Cl} (h : ClOk d.now c) (hn : c.nm ∉ d.line.map (·.nm)) (hl : (d.line.length : Int) < d.room) (ht : d.now < 1000000000000) : callerOf d (rowW d.now c) = some c := by
  obtain ⟨h1, h2, h3, h4⟩ := h
  unfold callerOf rowW
  dsimp only
  rw [h1, decide_eq_false hn, if_neg (by decide), numOf_int h2 (by omega)]
  dsimp only
  rw [decide_eq_true h3, decide_eq_true hl, if_neg (by decide)]
  cases c with
  | mk nm rk md =>
    dsimp only at h4 ⊢
    cases md with
    | wtg b =>
      have hb : isName b = true := h4
      show (if (("waiting" : Str) = "waiting") then (if isName b = false then none else some (⟨nm, rk, .wtg b⟩ : Cl)) else _) = _
      rw [if_pos rfl, hb]
      rfl
    | rdy s =>
      have hs : 0 ≤ s ∧ s ≤ d.now := h4
      show (if (("ready" : Str) = "waiting") then _ else match numOf (Str.ofString (toString (d.now - s))) with | none => none | some t => if (("ready" : Str) = "ready") then (if t ≤ d.now then some (⟨nm, rk, .rdy (d.now - t)⟩ : Cl) else none) else _) = _
      rw [if_neg (by decide +kernel), numOf_int (by omega) (by omega)]
      dsimp only
      rw [if_pos rfl, if_pos (by omega), show d.now - (d.now - s) = s from by omega]
    | slp t =>
      have hs : d.now < t ∧ t ≤ d.now + 1000 := h4
      show (if (("asleep" : Str) = "waiting") then _ else match numOf (Str.ofString (toString (t - d.now))) with | none => none | some u => if (("asleep" : Str) = "ready") then _ else if (decide (("asleep" : Str) = "asleep") && (decide (1 ≤ u) && decide (u ≤ 1000))) = false then none else some (⟨nm, rk, .slp (d.now + u)⟩ : Cl)) = _
      rw [if_neg (by decide +kernel), numOf_int (by omega) (by omega)]
      dsimp only
      rw [if_neg (by decide +kernel), decide_eq_true rfl, decide_eq_true (by omega), decide_eq_true (by omega), if_neg (by decide), show d.now + (t - d.now) = t from by omega]
theorem readLine_rows {d : Dk} (ok : d.Ok) (ht : d.now < 1000000000000) : ∀ (L2 L1 : List Cl), L1 ++ L2 = d.line → readLine { d with line := L1 } (L2.map (rowS d.now)) = some d
  | [], L1, h => by
    rw [List.append_nil] at h
    show some _ = _
    rw [h]
  | c :: L2, L1, h => by
    have hc : c ∈ d.line := by rw [← h]; simp
    have hlen : d.line.length = L1.length + (L2.length + 1) := by rw [← h, List.length_append, List.length_cons]
    have hl := ok.len
    have hnd := ok.nd
    rw [← h, List.map_append, List.map_cons] at hnd
    have hn : c.nm ∉ L1.map (·.nm) := fun hm => (List.nodup_append.mp hnd).2.2 _ hm _ (List.mem_cons_self ..) rfl
    rw [List.map_cons, readLine_cons, show Txt.split (rowS d.now c) " " = rowW d.now c from split_words (by unfold rowW; simp) fun w hw => (rowW_free (ok.cl c hc) w hw).2]
    rw [callerOf_row (d := { d with line := L1 }) (ok.cl c hc) hn (by show (L1.length : Int) < d.room; omega) ht]
    exact readLine_rows ok ht L2 (L1 ++ [c]) (by rw [List.append_assoc]; exact h)
theorem read_shown {d : Dk} (ok : d.Ok) (ht : d.now < 1000000000000) : readD (shownD d) = some d := by
  have p1 := ok.p1
  have p2 := ok.p2
  have r1 := ok.r1
  have r2 := ok.r2
  have hf := headW_free (d := d) (by omega) (by omega) ok.n0
  have hs : Txt.split (shownD d) "\n" = rowsS d ++ [("" : Str)] := split_shown fun r hr => by
    unfold rowsS at hr
    rcases List.mem_cons.mp hr with rfl | hr
    · rw [head_join, TL.join_eq, TL.tl_join]
      refine joinL_free (by rw [bl_eq]; show 10 ∉ [32]; decide) _ fun p hp => ?_
      obtain ⟨w, hw, rfl⟩ := List.mem_map.mp hp
      exact (hf w hw).1
    · obtain ⟨c, hc, rfl⟩ := List.mem_map.mp hr
      exact row_free (ok.cl c hc)
  have hl : (rowsS d ++ [("" : Str)]).length = d.line.length + 2 := by
    unfold rowsS
    rw [List.length_append, List.length_cons, List.length_map]
    rfl
  unfold readD
  rw [hs, if_neg (by rw [decide_eq_true (by omega), decide_eq_true (by rw [List.getLast?_append]; rfl)]; decide)]
  rw [show (rowsS d ++ [("" : Str)]).headD "" = headS d from rfl, head_join, split_words (by unfold headW; simp) fun w hw => (hf w hw).2]
  have hh : readHead (headW d) = some ⟨d.pace, d.room, d.now, []⟩ := by
    show (if (decide (("desk" : Str) = "desk")) = false then none else (numOf (Str.ofString (toString d.pace))).bind fun pa => (numOf (Str.ofString (toString d.room))).bind fun ro => if 1 ≤ pa ∧ pa ≤ 1000 ∧ 1 ≤ ro ∧ ro ≤ 60 then (numOf (Str.ofString (toString d.now))).bind fun no => some (⟨pa, ro, no, []⟩ : Dk) else none) = _
    rw [decide_eq_true rfl, if_neg (by decide), numOf_int (by omega) (by omega), numOf_int (by omega) (by omega), numOf_int ok.n0 ht]
    show (if 1 ≤ d.pace ∧ d.pace ≤ 1000 ∧ 1 ≤ d.room ∧ d.room ≤ 60 then _ else none) = _
    rw [if_pos ⟨p1, p2, r1, r2⟩]
    rfl
  rw [hh]
  have hm : midL (rowsS d ++ [("" : Str)]) = d.line.map (rowS d.now) := by
    unfold midL
    rw [hl]
    show ((d.line.map (rowS d.now)) ++ [("" : Str)]).take (d.line.length + 2 - 2) = _
    rw [List.take_append_of_le_length (by rw [List.length_map]; omega), List.take_of_length_le (by rw [List.length_map]; omega)]
  rw [hm]
  exact readLine_rows ok ht d.line [] rfl
theorem log_ok {i : Int} (h : i.natAbs < 2 ^ 64) : i.natAbs.log2 < 1920 := by
  by_cases h0 : i.natAbs = 0
  · rw [h0]
    decide
  · rw [Nat.log2_lt h0]
    exact Nat.lt_of_lt_of_le h (Nat.pow_le_pow_right (by decide) (by decide))
theorem len_int {i : Int} (h0 : 0 ≤ i) (h1 : i < 1000000000000000) : (Str.ofString (toString i)).length ≤ 15 := by
  rw [TL.len_tl, tl_int h0]
  exact TL.numL_len (by decide) (by omega)
theorem rc_strI {i : Int} {H : Hp} (h : i.natAbs < 2 ^ 64) : RC (fun xs H Q => ∃ i, xs = [.int i] ∧ i.natAbs.log2 < 1920 ∧ Q (.str (toString i)) H) [.int i] H (.str (Str.ofString (toString i))) := fun H1 _ Q q => ⟨i, rfl, log_ok h, q H1 (Ex.refl H1)⟩
theorem s_retMk {σ : L2.St} {H : Hp} {D : Ends} {C : Addr} {sp : Sp} {E : XK} {tr : TA} (h : tr σ H fun vs H1 => ∀ x dx, H1 x = none → H1 dx = none → dx ≠ x → sp (.ref x :: (vs ++ [])) (upd (upd H1 dx (.own x)) x (.ins C dx [])) (fun v H2 => v = .non ∧ D.rt (.ref x) H2) E) :
    tRet (tMake C sp [] E tr) D σ H := h
theorem shown_nil {d : Dk} (h : d.line = []) : shownD d = headS d ++ "\n" := by
  unfold shownD rowsS
  rw [h, TL.join_eq]
  rfl
def farBy (c : Int) : Int := match (c % 4).toNat with | 0 => 0 | 1 => c / 4 % 1000 | 2 => c / 4 % 999999900000 | _ => 0
theorem farBy_ok (c : Int) : 0 ≤ farBy c ∧ farBy c < 999999900000 := by
  unfold farBy
  split <;> omega
/-! ### names of the law -/
def revS (z : Str) : Str := ⟨z.cps.toList.reverse.toArray⟩
def tRevS (te : TE) : TE := fun σ H Q => te σ H fun x H1 => ∃ z, x = .str z ∧ z.length ≤ sizeLine ∧ Q (.str (revS z)) H1
theorem rev_by (z : Str) (u : Tok) : PySem.Txt.sliceBy z none none (-1, u) = revS z := by
  refine TL.ext_tl ?_
  show (PySem.Txt.sliceBy z none none (-1, u)).cps.toList = z.cps.toList.reverse
  rw [step_rev_list]
  refine List.ext_getElem (by simp [Str.length]) fun i h1 h2 => ?_
  have hi : i < z.cps.size := by simpa [Str.length] using h1
  rw [List.getElem_map, List.getElem_range, List.getElem_reverse]
  have hs : z.length - 1 - i < z.cps.size := by show z.cps.size - 1 - i < z.cps.size; omega
  rw [Array.getElem_toList]
  simp only [Array.length_toList]
  show z.cps.getD (z.cps.size - 1 - i) 0 = _
  rw [Array.getD, dif_pos (show z.cps.size - 1 - i < z.cps.size by omega)]
  rfl
theorem pe_revS {X : Cx} {e : Expr} {te : TE} {k : Nat} {p1 p2 p3 pos : Pos} (he : PE X e te) : PE X (.Subscript e (.Slice none none (some (.UnaryOp .USub (.Constant (.int 1) k p1) p2)) p3) pos) (tRevS te) := by
  refine ⟨fun pins s σ H Q I h => ?_⟩
  refine Subscript_ (thn (he.run pins s σ H _ I h) fun v s1 ⟨x, H1, I1, r1, q1⟩ => ?_)
  obtain ⟨z, rfl, hz, q⟩ := q1
  obtain ⟨t, rfl⟩ := r1
  have hst : PO X (some (.UnaryOp .USub (.Constant (.int 1) k p1) p2)) (tPart (tUn (rU fun i => .int (-i)) (tC (.int 1)))) := po_some (pe_un un_neg pe_int)
  refine wpAny_Slice (thn (po_none.run pins s1 σ H1 (fun o H2 => o = none ∧ H2 = H1) I1 ⟨rfl, rfl⟩) fun vl s2 ⟨l, H2, I2, pl, el, e2⟩ => ?_)
  subst el e2
  refine thn (po_none.run pins s2 σ H2 (fun o H3 => o = none ∧ H3 = H2) I2 ⟨rfl, rfl⟩) fun vu s3 ⟨u, H3, I3, pu, eu, e3⟩ => ?_
  subst eu e3
  refine thn (hst.run pins s3 σ H3 (fun o H4 => o = some (-1) ∧ H4 = H3) I3 ⟨1, rfl, -1, rfl, rfl, rfl⟩) fun vs s4 ⟨o, H4, I4, ps, eo, e4⟩ => ?_
  subst eo e4
  have I5 : Inv X pins σ H4 { s4 with heap := s4.heap.push { cls := .type "slice", data := .fields #[vl, vu, vs] } } := I4.kept (t' := s4.toks) fun b ob q => Heap.get?_push_of_some _ q
  obtain ⟨os, hos, hcs, hds⟩ := Heap.IsSliceOf.new (h := s4.heap) vl vu vs
  obtain ⟨l', rfl, hl'⟩ := IsPart.raw pl
  obtain ⟨u', rfl, hu'⟩ := IsPart.raw pu
  obtain ⟨st', rfl, hst'⟩ := IsPart.raw ps
  cases l' with
  | some _ => cases hl'
  | none =>
  cases u' with
  | some _ => cases hu'
  | none =>
  cases st' with
  | none => cases hst'
  | some sk =>
  obtain ⟨sk, tk⟩ := sk
  have hsk : sk = -1 := Option.some.inj (show some sk = some (-1 : Int) from hst')
  subst hsk
  show wpAny (model X.prog X.w) X.A (subscriptTail e (.Slice none none (some (.UnaryOp .USub (.Constant (.int 1) k p1) p2)) p3) (.str z t) (.ref s4.heap.objs.size)) (EP X pins σ Q) X.xe _
  refine tail_any (ops := [.ref s4.heap.objs.size, .str z t]) (typeIs_str _ _ _) (PySem.F.slot_str_getitem.lookup) ?_ (by with_unfolding_all rfl)
  have hle := PySem.Txt.sliceBy_le z none none (-1, tk) (show (-1 : Int) ≠ 0 by decide)
  refine PySem.wpAny_getItem_str_slice (l := none) (u := none) (st := some (-1, tk)) ⟨os, hos, hcs, hds⟩ rfl (PySem.post_val_or_str ⟨Nat.le_trans hle hz, fun t' c => ?_⟩)
  have e9 := rev_by z tk
  unfold PySem.Txt.sliceBy at e9
  exact ⟨.str (revS z), H4, I5.tok c, ⟨t', by rw [← e9]⟩, q⟩
theorem ev_revS {σ : L2.St} {H : Hp} {te : TE} {z : Str} (h : Ev te σ H (.str z)) (hz : z.length ≤ 100000) : Ev (tRevS te) σ H (.str (revS z)) := fun H1 e Q q => h H1 e _ fun H2 e2 => ⟨z, rfl, sz_of hz, q H2 e2⟩
theorem ev_slS {σ : L2.St} {H : Hp} {te : TE} {tl th : TO} {z : Str} {lo hi : Option Int} (h : Ev te σ H (.str z)) (h1 : EvO tl σ H lo) (h2 : EvO th σ H hi) (hz : z.length ≤ 100000) : Ev (tSl rSlS te tl th) σ H (.str (cutS z lo hi)) := fun H1 e Q q =>
  h H1 e _ fun H2 e2 => h1 H2 (e.trans e2) _ fun H3 e3 => h2 H3 ((e.trans e2).trans e3) _ fun H4 e4 => ⟨z, rfl, sz_of hz, q H4 ((e2.trans e3).trans e4)⟩
theorem ev_join {K : PySem.W.Frag} {σ : L2.St} {H : Hp} {to te : TE} {a : Str} {ys : List Str} (h : Ev to σ H (.str a)) (h2 : EvL te σ H (ys.map V.str)) (hz : (ys.map (·.length)).sum + ys.length * a.length ≤ 16777216) :
    Ev (tM1 (fun x xs H Q => ∃ a p, ∃ ys : List Str, x = .str a ∧ xs = [.ref p] ∧ (SqL K H p (ys.map V.str) ∨ SqT K H p (ys.map V.str)) ∧ (ys.map (·.length)).sum + ys.length * a.length ≤ 16777216 ∧ Q (.str (Txt.join a ys)) H) to te) σ H (.str (Txt.join a ys)) := fun H1 e Q q =>
  h H1 e _ fun H2 e2 => ⟨⟨a, rfl⟩, h2 H2 (e.trans e2) _ fun p H3 hp e3 h3 => ⟨a, p, ys, rfl, rfl, .inl (sq_of h3), hz, q H3 (e2.trans e3)⟩⟩
theorem cutS_to {l : List Nat} {i : Int} (h0 : 0 ≤ i) (h1 : i.toNat ≤ l.length) : cutS (SX.S l) none (some i) = SX.S (l.take i.toNat) := by
  have hl : (SX.S l).length = l.length := SX.S_len l
  unfold cutS
  rw [hl]
  have e2 : HT.sIx l.length l.length (some i) = i.toNat := by
    show (if i < 0 then (i + (l.length : Int)).toNat else min i.toNat l.length) = i.toNat
    rw [if_neg (by omega)]
    omega
  rw [e2]
  rfl
theorem cutS_from {l : List Nat} {i : Int} (h0 : 0 ≤ i) (h1 : i.toNat ≤ l.length) : cutS (SX.S l) (some i) none = SX.S (l.drop i.toNat) := by
  have hl : (SX.S l).length = l.length := SX.S_len l
  unfold cutS
  rw [hl]
  have e2 : HT.sIx l.length 0 (some i) = i.toNat := by
    show (if i < 0 then (i + (l.length : Int)).toNat else min i.toNat l.length) = i.toNat
    rw [if_neg (by omega)]
    omega
  rw [e2]
  show SX.S ((l.drop i.toNat).take (l.length - i.toNat)) = _
  rw [List.take_of_length_le (by rw [List.length_drop]; omega)]
theorem at_getD {L : List Nat} {i : Int} (h0 : 0 ≤ i) (h1 : i < (L.length : Int)) : atI L i = some (L.getD i.toNat 0) := by
  unfold atI ixN
  rw [if_pos h0, if_pos h1]
  have : i.toNat < L.length := by omega
  show L[i.toNat]? = _
  rw [List.getD_eq_getElem?_getD, List.getElem?_eq_getElem this]
  rfl
def gat (L : List Nat) (i : Int) : Nat := L.getD i.toNat 0
def nmS (c : Int) : List Nat := if mix c 10259 5 = 0 then figsS.cps.toList else signsS.cps.toList
def nmNear (L : List Nat) (k c : Int) : Nat := gat L ((k + c % (L.length : Int)) / (L.length : Int))
def nmTell (L : List Nat) (k c : Int) : Nat := gat L ((k + c) % (L.length : Int))
def nmT1 (L : List Nat) (c : Int) (n : Nat) : List Nat := (List.range n).map fun j : Nat => gat L ((c / 72 + 7 * (j : Int)) % (L.length : Int))
def nmT2 (L : List Nat) (k c : Int) (n : Nat) : List Nat := (List.range n).map fun j : Nat => gat L ((c / 72 + 7 * (j : Int) + k * (j : Int)) % (L.length : Int))
def nameL (L : List Nat) (k c : Int) : List Nat :=
  if mix c 10303 2 = 0 then
    (nmT1 L c (2 + mix c 10313 11).toNat).take (mix c 10321 (2 + mix c 10313 11 - 1)).toNat ++ [nmNear L k c] ++ [nmTell L k c] ++ (nmT1 L c (2 + mix c 10313 11).toNat).drop (mix c 10321 (2 + mix c 10313 11 - 1) + 2).toNat
  else if k < (L.length : Int) ∧ mix (c + 3 * k) 10253 8 = 0 then [nmTell L k c]
  else if c / 36 % 2 = 1 then ([nmNear L k c] ++ [nmTell L k c] ++ nmT2 L k c (mix (c + k) 10007 11).toNat).reverse
  else [nmNear L k c] ++ [nmTell L k c] ++ nmT2 L k c (mix (c + k) 10007 11).toNat
def nameBy (k c : Int) : Str := SX.S (nameL (nmS c) k c)
theorem nmS_ok (c : Int) : ((nmS c).length = 10 ∨ (nmS c).length = 36) ∧ (nmS c).Nodup ∧ ∀ x ∈ nmS c, isSign x = true := by
  unfold nmS
  split
  · exact ⟨.inl (by decide +kernel), by decide +kernel, by decide +kernel⟩
  · exact ⟨.inr (by decide +kernel), by decide +kernel, by decide +kernel⟩
theorem gat_mem {L : List Nat} {i : Int} (h1 : i.toNat < L.length) : gat L i ∈ L := by
  unfold gat
  rw [List.getD_eq_getElem?_getD, List.getElem?_eq_getElem h1]
  exact List.getElem_mem h1
theorem gat_inj {L : List Nat} (nd : L.Nodup) {i j : Int} (hi0 : 0 ≤ i) (hj0 : 0 ≤ j) (hi : i.toNat < L.length) (hj : j.toNat < L.length) (e : gat L i = gat L j) : i = j := by
  unfold gat at e
  rw [List.getD_eq_getElem?_getD, List.getD_eq_getElem?_getD, List.getElem?_eq_getElem hi, List.getElem?_eq_getElem hj] at e
  have e : L[i.toNat] = L[j.toNat] := e
  have key := List.pairwise_iff_getElem.mp nd
  rcases Nat.lt_trichotomy i.toNat j.toNat with h | h | h
  · exact absurd e (key _ _ hi hj h)
  · omega
  · exact absurd e.symm (key _ _ hj hi h)
/-! ### L_name_by -/
theorem sc_L_name_by : FnScope ["_law_k", "_law_cell", "_law_some", "_law_many", "_law_near", "_law_tell", "_law_size", "_law_at", "_law_text_here", "_law_j"] ["_law_k", "_law_cell"] (defScope s_L_name_by) := ⟨rfl, rfl, rfl, by decide +kernel, rfl, by decide +kernel, by decide +kernel⟩
def sp_L_name_by (_ : PySem.W.Frag) : Sp := fun vs H Q _ => ∃ (k c : Int), vs = [.int k, .int c] ∧ 0 ≤ k ∧ k ≤ 80 ∧ RetV (.str (nameBy k c)) H Q
theorem cv_L_name_by {K : PySem.W.Frag} {H : Hp} {k c : Int} (h1 : 0 ≤ k) (h2 : k ≤ 80) : SpV (sp_L_name_by K) ([.int k, .int c] ++ []) H (.str (nameBy k c)) := spv_call fun _ _ _ _ q => ⟨k, c, rfl, h1, h2, q⟩
local macro_rules | `(tactic| tm_at "rr.cv") => `(tactic| refine' cv_L_name_by ?_ ?_)
theorem ok_L_name_by {P : Program} {w : World} {K : PySem.W.Frag} {mg : Str → Option Value} {base : Heap} (T : Txt K mg) : ∃ fd, FnOk P w K mg base (CX0) 2 (He.ga K "_law_name_by") fd ["_law_k", "_law_cell"] (sp_L_name_by K) ∧ Binds K fd ["_law_k", "_law_cell"] [] ∧ FunD K "_law_name_by" "_law_name_by" (defArgs s_L_name_by) (defBody s_L_name_by) (defScope s_L_name_by) [] [] (He.ga K "_law_name_by") fd := by
  obtain ⟨fd, F⟩ := f_L_name_by T
  obtain ⟨d_L_mix, G_L_mix, b_L_mix, _⟩ := ok_L_mix (P := P) (w := w) (base := base) T
  refine ⟨fd, ok0 F sc_L_name_by (fun vs H Q E h => ?_) (fun cdv A outer s H vs Q E hr h => ?_), FunD.bindsN F fun _ _ _ _ _ _ us hl => match us, hl with | [_, _], _ => rfl, F⟩
  · (repeat (obtain ⟨_, h⟩ := h)); subst_vars; rfl
  · obtain ⟨k, c, rfl, h0, h1, q⟩ := h
    refine ⟨_, (pss_cons (ps_set (i := 2) sc_L_name_by.nd rfl (Or.inr rfl) pe_str)
        (pss_cons (ps_if (pt_cmpR op_eq (pe_call G_L_mix (hr.mono (by decide)) rfl (g_L_mix T) (kp_L_mix T) b_L_mix .nil pass0 (pa_cons (pv 1) (pa_cons pe_int (pa_cons pe_int pa_nil)))) pe_int (nomark _)) (pss_one (ps_set (i := 2) sc_L_name_by.nd rfl (Or.inr rfl) pe_str))
        pss_nil)
        (pss_cons (ps_set (i := 3) sc_L_name_by.nd rfl (Or.inr rfl) (pe_callB call_len_str rfl (b_len T) (by decide +kernel) (pa_cons (pv 2) pa_nil)))
        (pss_cons (ps_set (i := 4) sc_L_name_by.nd rfl (Or.inl rfl) (pe_ix ix_str (pv 2) (pe_op op_fdiv (pe_op op_add (pv 0) (pe_op op_mod (pv 1) (pv 3))) (pv 3)) (fun _ _ => rfl)))
        (pss_cons (ps_set (i := 5) sc_L_name_by.nd rfl (Or.inl rfl) (pe_ix ix_str (pv 2) (pe_op op_mod (pe_op op_add (pv 0) (pv 1)) (pv 3)) (fun _ _ => rfl)))
        (pss_cons (ps_if (pt_cmpR op_eq (pe_call G_L_mix (hr.mono (by decide)) rfl (g_L_mix T) (kp_L_mix T) b_L_mix .nil pass0 (pa_cons (pv 1) (pa_cons pe_int (pa_cons pe_int pa_nil)))) pe_int (nomark _)) (pss_cons (ps_set (i := 6) sc_L_name_by.nd rfl (Or.inl rfl) (pe_op op_add pe_int (pe_call G_L_mix (hr.mono (by decide)) rfl (g_L_mix T) (kp_L_mix T) b_L_mix .nil pass0 (pa_cons (pv 1) (pa_cons pe_int (pa_cons pe_int pa_nil))))))
        (pss_cons (ps_set (i := 7) sc_L_name_by.nd rfl (Or.inl rfl) (pe_call G_L_mix (hr.mono (by decide)) rfl (g_L_mix T) (kp_L_mix T) b_L_mix .nil pass0 (pa_cons (pv 1) (pa_cons pe_int (pa_cons (pe_op op_sub (pv 6) pe_int) pa_nil)))))
        (pss_cons (ps_set (i := 8) sc_L_name_by.nd rfl (Or.inl rfl) (pe_join pe_str (pe_lc (own := [("_law_j", 9)]) (g := gName 9) (tt := tYes) rfl sc_L_name_by.nd (pi_range1 rfl (b_range T) (pa_cons (pv 6) pa_nil)) (blkOk_by (own := [("_law_j", 9)]) (N := ["_law_k", "_law_cell", "_law_some", "_law_many", "_law_near", "_law_tell", "_law_size", "_law_at", "_law_text_here", "_law_j"]) (sc := defScope s_L_name_by) (by decide +kernel)) (fun _ _ _ _ _ => (pg_name (i := 9) sc_L_name_by.nd rfl (Or.inl rfl))) (fun _ _ _ _ _ => pts_nil) (fun _ _ _ _ _ => (pe_ix ix_str (pv 2) (pe_op op_mod (pe_op op_add (pe_op op_fdiv (pv 1) pe_int) (pe_op op_mul pe_int (pv 9))) (pv 3)) (fun _ _ => rfl))))))
        (pss_one (ps_ret (pe_op op_add_str (pe_op op_add_str (pe_op op_add_str (pe_slice sl_str (pv 8) po_none (po_some (pv 7))) (pv 4)) (pv 5)) (pe_slice sl_str (pv 8) (po_some (pe_op op_add (pv 7) pe_int)) po_none)))))))
        pss_nil)
        (pss_cons (ps_if (PW.pt (pw_and (pt_cmpR op_lt (pv 0) (pv 3) (nomark _)) (pw_and1 (pt_cmpR op_eq (pe_call G_L_mix (hr.mono (by decide)) rfl (g_L_mix T) (kp_L_mix T) b_L_mix .nil pass0 (pa_cons (pe_op op_add (pv 1) (pe_op op_mul pe_int (pv 0))) (pa_cons pe_int (pa_cons pe_int pa_nil)))) pe_int (nomark _))))) (pss_one (ps_ret (pv 5)))
        pss_nil)
        (pss_cons (ps_set (i := 8) sc_L_name_by.nd rfl (Or.inl rfl) (pe_op op_add_str (pv 4) (pv 5)))
        (pss_cons (ps_for PassesOwn.never rfl (pi_range1 rfl (b_range T) (pa_cons (pe_call G_L_mix (hr.mono (by decide)) rfl (g_L_mix T) (kp_L_mix T) b_L_mix .nil pass0 (pa_cons (pe_op op_add (pv 1) (pv 0)) (pa_cons pe_int (pa_cons pe_int pa_nil)))) pa_nil)) (pg_name (i := 9) sc_L_name_by.nd rfl (Or.inl rfl))
        (pss_cons (ps_set (i := 7) sc_L_name_by.nd rfl (Or.inl rfl) (pe_op op_add (pe_op op_add (pe_op op_fdiv (pv 1) pe_int) (pe_op op_mul pe_int (pv 9))) (pe_op op_mul (pv 0) (pv 9))))
        (pss_one (ps_set (i := 8) sc_L_name_by.nd rfl (Or.inl rfl) (pe_op op_add_str (pv 8) (pe_ix ix_str (pv 2) (pe_op op_mod (pv 7) (pv 3)) (fun _ _ => rfl)))))))
        (pss_cons (ps_if (pt_cmpR op_eq (pe_op op_mod (pe_op op_fdiv (pv 1) pe_int) pe_int) pe_int (nomark _)) (pss_one (ps_ret (pe_revS (pv 8))))
        pss_nil)
        (pss_one (ps_ret (pv 8))))))))))))), ?_⟩
    refine' q_asg ev_c fun H1 e1 => ?_
    refine q_ifAsg (b := decide (mix c 10259 5 = 0)) (v := .str (SX.S (nmS c))) ?h (fun hb => ?h1) (fun hb => ?h2) fun H2 e2 => ?_
    case h => exact et_is (et_test (ev_op (ev_call (ea_cons (ev_var rfl) (ea_cons ev_c (ea_cons ev_c ea_nil))) (cv_L_mix (by decide) (by decide))) ev_c (rv_eq rfl))) (decide_eq_decide.mpr ⟨fun h => by injection h, fun h => by rw [h]⟩)
    case h1 =>
      refine ev_is ev_c ?_
      unfold nmS
      rw [if_pos (of_decide_eq_true hb), SX.S_tl]
    case h2 =>
      have : nmS c = signsS.cps.toList := by
        unfold nmS
        rw [if_neg (of_decide_eq_false hb)]
      rw [this, SX.S_tl]
      rfl
    have hok := nmS_ok c
    unfold nameBy at q
    generalize nmS c = L at *
    obtain ⟨hL, hnd, hsg⟩ := hok
    have hLl : (SX.S L).length = L.length := SX.S_len L
    have hLz : (SX.S L).length ≤ 100000 := by omega
    refine q_asg (v := .int (L.length : Int)) (ev_is (ev_cb (ea_cons (ev_var rfl) ea_nil) (rc_len_str (sz_of hLz))) (by rw [hLl])) fun H3 e3 => ?_
    have ixS : ∀ {i : Int} {H : Hp}, 0 ≤ i → i < (L.length : Int) → RV rIxS (.str (SX.S L)) (.int i) H (.str (SX.S [gat L i])) := fun h0 h1 => rv_ixS hLz (at_getD h0 h1)
    have cdv : 0 < (L.length : Int) := by omega
    have cdd : ∀ x, CDiv x (L.length : Int) := fun x => by unfold CDiv; omega
    have hn : 0 ≤ (k + c % (L.length : Int)) / (L.length : Int) ∧ (k + c % (L.length : Int)) / (L.length : Int) < (L.length : Int) := by
      rcases hL with hL | hL <;> rw [hL] <;> omega
    have ht : ∀ x : Int, 0 ≤ x % (L.length : Int) ∧ x % (L.length : Int) < (L.length : Int) := fun x => ⟨Int.emod_nonneg _ (by omega), Int.emod_lt_of_pos _ (by omega)⟩
    refine q_asg (v := .str (SX.S [nmNear L k c])) (ev_op (ev_var rfl) (ev_op (ev_op (ev_var rfl) (ev_op (ev_var rfl) (ev_var rfl) (rv_I cdv)) rv_I0) (ev_var rfl) (rv_I (cdd _))) (ixS hn.1 hn.2)) fun H4 e4 => ?_
    refine q_asg (v := .str (SX.S [nmTell L k c])) (ev_op (ev_var rfl) (ev_op (ev_op (ev_var rfl) (ev_var rfl) rv_I0) (ev_var rfl) (rv_I cdv)) (ixS (ht _).1 (ht _).2)) fun H5 e5 => ?_
    have q5 := fun H6 (e : Ex H5 H6) => q H6 ((((e1.trans e2).trans e3).trans e4).trans (e5.trans e))
    clear q e1 e2 e3 e4 e5
    unfold nameL at q5
    refine q_when (b := decide (mix c 10303 2 = 0)) ?h (fun hb H6 e6 => ?_) (fun hb H6 e6 => ?_)
    case h => exact et_is (et_test (ev_op (ev_call (ea_cons (ev_var rfl) (ea_cons ev_c (ea_cons ev_c ea_nil))) (cv_L_mix (by decide) (by decide))) ev_c (rv_eq rfl))) (decide_eq_decide.mpr ⟨fun h => by injection h, fun h => by rw [h]⟩)
    · rw [if_pos (of_decide_eq_true hb)] at q5
      have m0 := mix_nonneg (c := c) (p := 10313) (m := 11) (by decide)
      have m1 := mix_lt (c := c) (p := 10313) (m := 11) (by decide)
      generalize hM : mix c 10313 11 = M at *
      refine q_asg (v := .int (2 + M)) (ev_op ev_c (ev_is (ev_call (ea_cons (ev_var rfl) (ea_cons ev_c (ea_cons ev_c ea_nil))) (cv_L_mix (by decide) (by decide))) (by rw [hM])) rv_I0) fun H7 e7 => ?_
      have a0 := mix_nonneg (c := c) (p := 10321) (m := 2 + M - 1) (by omega)
      have a1 := mix_lt (c := c) (p := 10321) (m := 2 + M - 1) (by omega)
      refine q_asg (ev_call (ea_cons (ev_var rfl) (ea_cons ev_c (ea_cons (ev_op (ev_var rfl) ev_c rv_I0) ea_nil))) (cv_L_mix (by decide) (by omega))) fun H8 e8 => ?_
      generalize mix c 10321 (2 + M - 1) = A at *
      have hlen : (nmT1 L c (2 + M).toNat).length = (2 + M).toNat := by unfold nmT1; rw [List.length_map, List.length_range]
      refine q_asg (v := .str (SX.S (nmT1 L c (2 + M).toNat))) ?h fun H9 e9 => ?_
      case h =>
        refine ev_is (ev_join (K := K) (a := "") (ys := (List.range (2 + M).toNat).map fun j : Nat => SX.S [gat L ((c / 72 + 7 * (j : Int)) % (L.length : Int))]) ev_c ?l ?z) (congrArg V.str (TL.ext_tl ?e))
        case l =>
          have hg : ((List.range (2 + M).toNat).map fun j : Nat => SX.S [gat L ((c / 72 + 7 * (j : Int)) % (L.length : Int))]).map V.str = given (2 + M).toNat (fun _ => true) (fun j => .str (SX.S [gat L ((c / 72 + 7 * (j : Int)) % (L.length : Int))])) := by
            unfold given
            rw [filter_true, List.map_map]
            rfl
          rw [hg]
          refine' el_lcR1 (n := 2 + M) (fun _ => true) (fun j => .str (SX.S [gat L ((c / 72 + 7 * (j : Int)) % (L.length : Int))])) (ea_cons (ev_var rfl) ea_nil) (by omega) (fun _ => rfl) (fun i H9 e9 hi => et_yes) (fun i H9 e9 hi _ => ?_)
          exact ev_op (ev_var rfl) (ev_op (ev_op (ev_op (ev_var rfl) ev_c (rv_I ⟨by decide, by decide⟩)) (ev_op ev_c (ev_var rfl) (rv_I (cmul_l (by decide) (by decide)))) rv_I0) (ev_var rfl) (rv_I cdv)) (ixS (ht _).1 (ht _).2)
        case z =>
          rw [List.map_map, List.length_map, List.length_range, show ("" : Str).length = 0 from by decide +kernel]
          have : (List.range (2 + M).toNat).map ((fun x : Str => x.length) ∘ fun j : Nat => SX.S [gat L ((c / 72 + 7 * (j : Int)) % (L.length : Int))]) = (List.range (2 + M).toNat).map fun _ => 1 := List.map_congr_left fun j _ => SX.S_len _
          rw [this, List.map_const', List.sum_replicate_nat, List.length_range]
          omega
        case e =>
          rw [TL.join_eq, TL.tl_join, show TL.tl ("" : Str) = [] from by decide +kernel, joinL_nil, List.map_map]
          show _ = nmT1 L c (2 + M).toNat
          unfold nmT1
          generalize List.range (2 + M).toNat = R
          induction R with
          | nil => rfl
          | cons x R ih =>
            rw [List.map_cons, List.flatten_cons, List.map_cons, ih]
            rfl
      have hzz : (SX.S (nmT1 L c (2 + M).toNat)).length = (2 + M).toNat := by rw [SX.S_len, hlen]
      have hz1 : (SX.S (nmT1 L c (2 + M).toNat)).length ≤ 100000 := by rw [hzz]; omega
      refine s_ret (v := .str (SX.S ((nmT1 L c (2 + M).toNat).take A.toNat ++ [nmNear L k c] ++ [nmTell L k c] ++ (nmT1 L c (2 + M).toNat).drop (A + 2).toNat))) ?h9 fun H10 e10 => q5 H10 ((e6.trans e7).trans ((e8.trans e9).trans e10))
      case' h9 => rw [← SX.S_cat, ← SX.S_cat, ← SX.S_cat, ← cutS_to (i := A) (by omega) (by rw [hlen]; omega), ← cutS_from (i := A + 2) (by omega) (by rw [hlen]; omega)]
      have hc1 := cutS_length (SX.S (nmT1 L c (2 + M).toNat)) none (some A)
      have hc2 := cutS_length (SX.S (nmT1 L c (2 + M).toNat)) (some (A + 2)) none
      have hs1 : ∀ x, (SX.S [x]).length = 1 := fun x => SX.S_len [x]
      rw [hzz] at hc1 hc2
      refine ev_op (ev_op (ev_op (ev_slS (ev_var rfl) eo_none (eo_some (ev_var rfl)) hz1) (ev_var rfl) (rv_addS (sz_of ?_))) (ev_var rfl) (rv_addS (sz_of ?_))) (ev_slS (ev_var rfl) (eo_some (ev_op (ev_var rfl) ev_c rv_I0)) eo_none hz1) (rv_addS (sz_of ?_))
      all_goals
        simp only [len_app, hs1]
        omega
    rw [if_neg (of_decide_eq_false hb)] at q5
    refine q_when (b := decide (k < (L.length : Int) ∧ mix (c + 3 * k) 10253 8 = 0)) ?h7 (fun hb H7 e7 => ?_) (fun hb H7 e7 => ?_)
    case h7 =>
      refine' et_is (et_and (et_test (ev_op (ev_var rfl) (ev_var rfl) rv_I0)) (fun _ => et_test (ev_op (ev_call (ea_cons (ev_op (ev_var rfl) (ev_op ev_c (ev_var rfl) (rv_I (cmul_l (by decide) (by decide)))) rv_I0) (ea_cons ev_c (ea_cons ev_c ea_nil))) (cv_L_mix (by decide) (by decide))) ev_c (rv_eq rfl)))) ?_
      rw [Bool.decide_and]
      congr 1
      exact decide_eq_decide.mpr ⟨fun h => by injection h, fun h => by rw [h]⟩
    · rw [if_pos (of_decide_eq_true hb)] at q5
      exact s_ret (ev_var rfl) fun H8 e8 => q5 H8 ((e6.trans e7).trans e8)
    rw [if_neg (of_decide_eq_false hb)] at q5
    have hs1 : ∀ x, (SX.S [x]).length = 1 := fun x => SX.S_len [x]
    have m0 := mix_nonneg (c := c + k) (p := 10007) (m := 11) (by decide)
    have m1 := mix_lt (c := c + k) (p := 10007) (m := 11) (by decide)
    refine q_asg (v := .str (SX.S ([nmNear L k c] ++ [nmTell L k c] ++ nmT2 L k c 0))) ?h8 fun H8 e8 => ?_
    case h8 =>
      rw [show nmT2 L k c 0 = [] from rfl, List.append_nil, ← SX.S_cat]
      exact ev_op (ev_var rfl) (ev_var rfl) (rv_addS (sz_of (by simp only [hs1]; omega)))
    generalize hM : mix (c + k) 10007 11 = M at *
    refine q_forR1 (n := M) (ea_cons (ev_is (ev_call (ea_cons (ev_op (ev_var rfl) (ev_var rfl) rv_I0) (ea_cons ev_c (ea_cons ev_c ea_nil))) (cv_L_mix (by decide) (by decide))) (by rw [hM])) ea_nil) (by omega)
      (fun i σ' H' => Ex H8 H' ∧ ∃ v w, σ' = [some (.int k), some (.int c), some (.str (SX.S L)), some (.int (L.length : Int)), some (.str (SX.S [nmNear L k c])), some (.str (SX.S [nmTell L k c])), none, v, some (.str (SX.S ([nmNear L k c] ++ [nmTell L k c] ++ nmT2 L k c i))), w]) (fun H9 e9 => ⟨e9, none, none, rfl⟩) ?_ ?_
    · rintro i σ' H' hi ⟨e9, v, w, rfl⟩
      refine q_asg (v := .int (c / 72 + 7 * (i : Int) + k * (i : Int))) (ev_op (ev_op (ev_op (ev_var rfl) ev_c (rv_I ⟨by decide, by decide⟩)) (ev_op ev_c (ev_var rfl) (rv_I (cmul_l (by decide) (by decide)))) rv_I0) (ev_op (ev_var rfl) (ev_var rfl) (rv_I (cmul_l (by omega) (by omega)))) rv_I0) fun H10 e10 => ?_
      have hl2 : (nmT2 L k c i).length = i := by unfold nmT2; rw [List.length_map, List.length_range]
      refine s_asg (v := .str (SX.S ([nmNear L k c] ++ [nmTell L k c] ++ nmT2 L k c (i + 1)))) ?h fun H11 e11 => ⟨(e9.trans e10).trans e11, _, _, rfl⟩
      have : nmT2 L k c (i + 1) = nmT2 L k c i ++ [gat L ((c / 72 + 7 * (i : Int) + k * (i : Int)) % (L.length : Int))] := by
        unfold nmT2
        rw [List.range_succ, List.map_append]
        rfl
      rw [this, ← List.append_assoc, ← SX.S_cat ([nmNear L k c] ++ [nmTell L k c] ++ nmT2 L k c i)]
      refine' ev_op (ev_var rfl) (ev_op (ev_var rfl) (ev_op (ev_var rfl) (ev_var rfl) (rv_I cdv)) (ixS (ht _).1 (ht _).2)) (rv_addS (sz_of ?_))
      rw [SX.S_len, SX.S_len, List.length_append, List.length_append, hl2]
      simp only [List.length_singleton]
      omega
    · rintro σ' H' ⟨e9, v, w, rfl⟩
      have e69 := ((e6.trans e7).trans e8).trans e9
      have hl2 : (nmT2 L k c M.toNat).length = M.toNat := by unfold nmT2; rw [List.length_map, List.length_range]
      refine q_when (b := decide (c / 36 % 2 = 1)) ?h12 (fun hb H10 e10 => ?_) (fun hb H10 e10 => ?_)
      case h12 => exact et_is (et_test (ev_op (ev_op (ev_op (ev_var rfl) ev_c (rv_I ⟨by decide, by decide⟩)) ev_c (rv_I (by decide))) ev_c (rv_eq rfl))) (decide_eq_decide.mpr ⟨fun h => by injection h, fun h => by rw [h]⟩)
      · rw [if_pos (of_decide_eq_true hb)] at q5
        exact s_ret (ev_revS (ev_var rfl) (by rw [SX.S_len, List.length_append, List.length_append, hl2]; simp only [List.length_singleton]; omega)) fun H11 e11 => q5 H11 ((e69.trans e10).trans e11)
      · rw [if_neg (of_decide_eq_false hb)] at q5
        exact s_ret (ev_var rfl) fun H11 e11 => q5 H11 ((e69.trans e10).trans e11)
theorem near_mem {L : List Nat} (hL : L.length = 10 ∨ L.length = 36) {k c : Int} (h0 : 0 ≤ k) (h1 : k ≤ 80) : ((k + c % (L.length : Int)) / (L.length : Int)).toNat < L.length ∧ 0 ≤ (k + c % (L.length : Int)) / (L.length : Int) := by
  rcases hL with hL | hL <;> rw [hL] <;> omega
theorem mod_mem {L : List Nat} (hL : L.length = 10 ∨ L.length = 36) (x : Int) : (x % (L.length : Int)).toNat < L.length ∧ 0 ≤ x % (L.length : Int) := by
  rcases hL with hL | hL <;> rw [hL] <;> omega
theorem nmT1_len (L : List Nat) (c : Int) (n : Nat) : (nmT1 L c n).length = n := by unfold nmT1; rw [List.length_map, List.length_range]
theorem nmT2_len (L : List Nat) (k c : Int) (n : Nat) : (nmT2 L k c n).length = n := by unfold nmT2; rw [List.length_map, List.length_range]
theorem nameBy_ok {k c : Int} (h0 : 0 ≤ k) (h1 : k ≤ 80) : isName (nameBy k c) = true := by
  obtain ⟨hL, hnd, hsg⟩ := nmS_ok c
  unfold nameBy
  generalize nmS c = L at *
  have hn : nmNear L k c ∈ L := gat_mem (near_mem hL h0 h1).1
  have ht : nmTell L k c ∈ L := gat_mem (mod_mem hL _).1
  have t1 : ∀ n, ∀ x ∈ nmT1 L c n, x ∈ L := fun n x hx => by
    unfold nmT1 at hx
    obtain ⟨j, _, rfl⟩ := List.mem_map.mp hx
    exact gat_mem (mod_mem hL _).1
  have t2 : ∀ n, ∀ x ∈ nmT2 L k c n, x ∈ L := fun n x hx => by
    unfold nmT2 at hx
    obtain ⟨j, _, rfl⟩ := List.mem_map.mp hx
    exact gat_mem (mod_mem hL _).1
  have key : 1 ≤ (nameL L k c).length ∧ (nameL L k c).length ≤ 12 ∧ ∀ x ∈ nameL L k c, x ∈ L := by
    unfold nameL
    have m0 := mix_nonneg (c := c) (p := 10313) (m := 11) (by decide)
    have m1 := mix_lt (c := c) (p := 10313) (m := 11) (by decide)
    have a0 := mix_nonneg (c := c) (p := 10321) (m := 2 + mix c 10313 11 - 1) (by omega)
    have a1 := mix_lt (c := c) (p := 10321) (m := 2 + mix c 10313 11 - 1) (by omega)
    have b0 := mix_nonneg (c := c + k) (p := 10007) (m := 11) (by decide)
    have b1 := mix_lt (c := c + k) (p := 10007) (m := 11) (by decide)
    split
    · simp only [List.length_append, List.length_take, List.length_drop, nmT1_len, List.length_singleton]
      refine ⟨by omega, by omega, fun x hx => ?_⟩
      simp only [List.mem_append, List.mem_singleton] at hx
      rcases hx with ((hx | rfl) | rfl) | hx
      · exact t1 _ _ (List.mem_of_mem_take hx)
      · exact hn
      · exact ht
      · exact t1 _ _ (List.mem_of_mem_drop hx)
    · split
      · exact ⟨Nat.le_refl 1, (by show 1 ≤ 12; decide), fun x hx => by rw [List.mem_singleton] at hx; rw [hx]; exact ht⟩
      · have key : 1 ≤ ([nmNear L k c] ++ [nmTell L k c] ++ nmT2 L k c (mix (c + k) 10007 11).toNat).length ∧ ([nmNear L k c] ++ [nmTell L k c] ++ nmT2 L k c (mix (c + k) 10007 11).toNat).length ≤ 12 ∧ ∀ x ∈ [nmNear L k c] ++ [nmTell L k c] ++ nmT2 L k c (mix (c + k) 10007 11).toNat, x ∈ L := by
          simp only [List.length_append, nmT2_len, List.length_singleton]
          refine ⟨by omega, by omega, fun x hx => ?_⟩
          simp only [List.mem_append, List.mem_singleton] at hx
          rcases hx with (rfl | rfl) | hx
          · exact hn
          · exact ht
          · exact t2 _ _ hx
        split
        · rw [List.length_reverse]
          exact ⟨key.1, key.2.1, fun x hx => key.2.2 x (List.mem_reverse.mp hx)⟩
        · exact key
  unfold isName
  rw [SX.S_len, decide_eq_true key.1, decide_eq_true key.2.1]
  exact List.all_eq_true.mpr fun x hx => hsg x (key.2.2 x hx)
theorem pair_inj {L : List Nat} (hL : L.length = 10 ∨ L.length = 36) (nd : L.Nodup) {k k' c : Int} (h0 : 0 ≤ k) (h1 : k ≤ 80) (h0' : 0 ≤ k') (h1' : k' ≤ 80) (e1 : nmNear L k c = nmNear L k' c) (e2 : nmTell L k c = nmTell L k' c) : k = k' := by
  have n1 := near_mem (c := c) hL h0 h1
  have n2 := near_mem (c := c) hL h0' h1'
  have m1 := mod_mem hL (k + c)
  have m2 := mod_mem hL (k' + c)
  have i1 := gat_inj nd n1.2 n2.2 n1.1 n2.1 e1
  have i2 := gat_inj nd m1.2 m2.2 m1.1 m2.1 e2
  rcases hL with hL | hL <;> rw [hL] at i1 i2 <;> omega
theorem nameBy_inj {k k' c : Int} (h0 : 0 ≤ k) (h1 : k ≤ 80) (h0' : 0 ≤ k') (h1' : k' ≤ 80) (e : nameBy k c = nameBy k' c) : k = k' := by
  obtain ⟨hL, hnd, hsg⟩ := nmS_ok c
  unfold nameBy at e
  have e := SX.S_inj e
  generalize nmS c = L at *
  have two : ∀ {a b a' b' : Nat} {r r' : List Nat}, [a] ++ [b] ++ r = [a'] ++ [b'] ++ r' → a = a' ∧ b = b' := fun h => by
    simp only [List.singleton_append, List.cons_append, List.nil_append, List.cons.injEq] at h
    exact ⟨h.1, h.2.1⟩
  unfold nameL at e
  by_cases hA : mix c 10303 2 = 0
  · rw [if_pos hA, if_pos hA, List.append_assoc, List.append_assoc, List.append_assoc, List.append_assoc] at e
    have e := List.append_cancel_left e
    rw [← List.append_assoc, ← List.append_assoc] at e
    obtain ⟨a, b⟩ := two e
    exact pair_inj hL hnd h0 h1 h0' h1' a b
  rw [if_neg hA, if_neg hA] at e
  by_cases hk : k < (L.length : Int) ∧ mix (c + 3 * k) 10253 8 = 0
  · by_cases hk' : k' < (L.length : Int) ∧ mix (c + 3 * k') 10253 8 = 0
    · rw [if_pos hk, if_pos hk'] at e
      have e2 : nmTell L k c = nmTell L k' c := by injection e
      have m1 := mod_mem hL (k + c)
      have m2 := mod_mem hL (k' + c)
      have i2 := gat_inj hnd m1.2 m2.2 m1.1 m2.1 e2
      have hk1 := hk.1
      have hk2 := hk'.1
      rcases hL with hL | hL <;> rw [hL] at i2 hk1 hk2 <;> omega
    · rw [if_pos hk, if_neg hk'] at e
      have := congrArg List.length e
      by_cases hR : c / 36 % 2 = 1
      · rw [if_pos hR] at this
        simp only [List.length_append, List.length_reverse, List.length_singleton] at this
        omega
      · rw [if_neg hR] at this
        simp only [List.length_append, List.length_singleton] at this
        omega
  · by_cases hk' : k' < (L.length : Int) ∧ mix (c + 3 * k') 10253 8 = 0
    · rw [if_neg hk, if_pos hk'] at e
      have := congrArg List.length e
      by_cases hR : c / 36 % 2 = 1
      · rw [if_pos hR] at this
        simp only [List.length_append, List.length_reverse, List.length_singleton] at this
        omega
      · rw [if_neg hR] at this
        simp only [List.length_append, List.length_singleton] at this
        omega
    · rw [if_neg hk, if_neg hk'] at e
      by_cases hR : c / 36 % 2 = 1
      · rw [if_pos hR, if_pos hR] at e
        obtain ⟨a, b⟩ := two (List.reverse_inj.mp e)
        exact pair_inj hL hnd h0 h1 h0' h1' a b
      · rw [if_neg hR, if_neg hR] at e
        obtain ⟨a, b⟩ := two e
        exact pair_inj hL hnd h0 h1 h0' h1' a b
theorem zz_name {k c : Int} (h0 : 0 ≤ k) (h1 : k ≤ 72) : nameBy k c ≠ "zzzzzzzzzzzz" := by
  intro e
  have e2 : nameL (nmS c) k c = List.replicate 12 122 := SX.S_inj (e.trans (show ("zzzzzzzzzzzz" : Str) = SX.S (List.replicate 12 122) by decide +kernel))
  have hn : nmNear (nmS c) k c ≠ 122 := by
    unfold nmNear nmS
    split
    · have hf : figsS.cps.toList.length = 10 := by decide +kernel
      have := (near_mem (L := figsS.cps.toList) (c := c) (.inl hf) h0 (by omega)).1
      have hz : ∀ x ∈ figsS.cps.toList, x ≠ 122 := by decide +kernel
      exact hz _ (gat_mem this)
    · have hf : signsS.cps.toList.length = 36 := by decide +kernel
      have h01 : (k + c % (signsS.cps.toList.length : Int)) / (signsS.cps.toList.length : Int) = 0 ∨ (k + c % (signsS.cps.toList.length : Int)) / (signsS.cps.toList.length : Int) = 1 ∨ (k + c % (signsS.cps.toList.length : Int)) / (signsS.cps.toList.length : Int) = 2 := by
        rw [hf]
        omega
      rcases h01 with h | h | h <;> rw [h] <;> decide +kernel
  have key : nmNear (nmS c) k c ∈ nameL (nmS c) k c ∨ (nameL (nmS c) k c).length = 1 := by
    unfold nameL
    split
    · exact .inl (by simp)
    split
    · exact .inr rfl
    split
    · exact .inl (by simp)
    · exact .inl (by simp)
  rw [e2] at key
  rcases key with h | h
  · exact hn (List.eq_of_mem_replicate h)
  · cases h
theorem len_st (m : Md) : m.st.length ≤ 7 := by
  cases m
  · exact (by decide +kernel : ("ready" : Str).length ≤ 7)
  · exact (by decide +kernel : ("asleep" : Str).length ≤ 7)
  · exact (by decide +kernel : ("waiting" : Str).length ≤ 7)
theorem rowW_len {now : Int} {c : Cl} (h : ClOk now c) (hn : 0 ≤ now) (ht : now < 100000000000000) : ∀ w ∈ rowW now c, w.length ≤ 15 := fun w hw => by
  obtain ⟨h1, h2, h3, h4⟩ := h
  unfold rowW at hw
  simp only [List.mem_cons, List.not_mem_nil, or_false] at hw
  rcases hw with rfl | rfl | rfl | rfl
  · have := (isName_len h1).2; omega
  · exact len_int h2 (by omega)
  · have := len_st c.md; omega
  · cases hm : c.md with
    | rdy s => rw [hm] at h4; have h4 : 0 ≤ s ∧ s ≤ now := h4; exact len_int (i := now - s) (by omega) (by omega)
    | slp s => rw [hm] at h4; have h4 : now < s ∧ s ≤ now + 1000 := h4; exact len_int (i := s - now) (by omega) (by omega)
    | wtg s => rw [hm] at h4; have := (isName_len (show isName s = true from h4)).2; show s.length ≤ 15; omega
theorem sum_le {ws : List Str} {n : Nat} (h : ∀ w ∈ ws, w.length ≤ n) : (ws.map (·.length)).sum ≤ ws.length * n := by
  induction ws with
  | nil => simp
  | cons w ws ih =>
    have := ih fun x hx => h x (List.mem_cons_of_mem _ hx)
    have := h w (List.mem_cons_self ..)
    rw [List.map_cons, List.sum_cons, List.length_cons, Nat.add_mul]
    omega
theorem joinL_len (S : List Nat) : ∀ ps : List (List Nat), (TL.joinL S ps).length ≤ (ps.map (·.length)).sum + ps.length * S.length
  | [] => by simp [TL.joinL]
  | [p] => by simp [TL.joinL]
  | p :: q :: r => by
    have := joinL_len S (q :: r)
    show (p ++ (S ++ TL.joinL S (q :: r))).length ≤ _
    rw [List.length_append, List.length_append, List.map_cons, List.sum_cons, List.length_cons, Nat.add_mul]
    omega
theorem row_len {now : Int} {c : Cl} (h : ClOk now c) (hn : 0 ≤ now) (ht : now < 100000000000000) : (rowS now c).length ≤ 64 := by
  unfold rowS
  rw [TL.len_tl, TL.join_eq, TL.tl_join]
  have h1 := joinL_len (TL.tl (" " : Str)) ((rowW now c).map TL.tl)
  have h2 := sum_le (rowW_len h hn ht)
  have e1 : ((rowW now c).map TL.tl).map (·.length) = (rowW now c).map (·.length) := by
    rw [List.map_map]
    exact List.map_congr_left fun x _ => (TL.len_tl x).symm
  rw [e1, show (TL.tl (" " : Str)).length = 1 from by decide +kernel, List.length_map] at h1
  have h3 : (rowW now c).length = 4 := rfl
  rw [h3] at h1 h2
  omega
/-! ### refusals told: which names an error may have, what changes -/
theorem enterErr_in {d : Dk} {nm : Str} {rk : Int} {e : Str} (h : enterErr d nm rk = some e) : e ∈ excNames := by
  unfold enterErr at h
  split at h
  · cases h; decide +kernel
  split at h
  · cases h; decide +kernel
  split at h
  · cases h; decide +kernel
  split at h
  · cases h; decide +kernel
  · cases h
theorem sleepErr_in {d : Dk} {nm : Str} {m : Int} {e : Str} (h : sleepErr d nm m = some e) : e ∈ excNames := by
  unfold sleepErr at h
  split at h
  · cases h; decide +kernel
  split at h
  · cases h; decide +kernel
  split at h
  · cases h
  · cases h; decide +kernel
theorem waitErr_in {d : Dk} {nm b e : Str} (h : waitErr d nm b = some e) : e ∈ excNames := by
  unfold waitErr at h
  split at h
  · cases h; decide +kernel
  split at h
  · cases h; decide +kernel
  split at h
  · cases h
  · cases h; decide +kernel
theorem wakeErr_in {d : Dk} {nm e : Str} (h : wakeErr d nm = some e) : e ∈ excNames := by
  unfold wakeErr at h
  split at h
  · cases h; decide +kernel
  split at h
  · cases h; decide +kernel
  · cases h
theorem rerankErr_in {d : Dk} {nm : Str} {rk : Int} {e : Str} (h : rerankErr d nm rk = some e) : e ∈ excNames := by
  unfold rerankErr at h
  split at h
  · cases h; decide +kernel
  split at h
  · cases h; decide +kernel
  split at h
  · cases h; decide +kernel
  · cases h
/-! ### rows of words, and what is put wrong in them -/
theorem tl_nl : TL.tl ("\n" : Str) = [10] := by rw [nl_eq]
def textL (rows : List Str) : Str := Txt.join "" (rows.map fun r => r ++ "\n")
theorem tl_textL (rows : List Str) : TL.tl (textL rows) = ((rows.map TL.tl).map fun r => r ++ [10]).flatten := by
  unfold textL
  rw [TL.join_eq, TL.tl_join, show TL.tl ("" : Str) = [] from by decide +kernel, joinL_nil, List.map_map, List.map_map]
  congr 1
  refine List.map_congr_left fun r _ => ?_
  show TL.tl (r ++ "\n") = TL.tl r ++ [10]
  rw [TL.tl_append, tl_nl]
theorem textL_len {rows : List Str} {n : Nat} (h : ∀ r ∈ rows, r.length ≤ n) : (textL rows).length ≤ rows.length * (n + 1) := by
  rw [TL.len_tl, tl_textL, List.length_flatten, List.map_map, List.map_map]
  induction rows with
  | nil => simp
  | cons r rows ih =>
    have := ih fun x hx => h x (List.mem_cons_of_mem _ hx)
    have h2 := h r (List.mem_cons_self ..)
    rw [List.map_cons, List.sum_cons, List.length_cons, Nat.add_mul]
    have e : ((List.length ∘ (fun r : List Nat => r ++ [10])) ∘ TL.tl) r = r.length + 1 := by
      show (TL.tl r ++ [10]).length = _
      rw [List.length_append, ← TL.len_tl]
      rfl
    rw [e]
    omega
theorem spl_linesT (z : List Nat) (hz : 10 ∉ z) : ∀ (rows : List (List Nat)), (∀ r ∈ rows, 10 ∉ r) → TL.spl [10] 0 [] ((rows.map fun r => r ++ [10]).flatten ++ z) = rows ++ [z]
  | [], _ => TL.spl_last1 hz
  | r :: rows, h => by
    have e : ((((r :: rows).map fun r => r ++ [10]).flatten) ++ z) = r ++ (10 :: [] ++ ((rows.map fun r => r ++ [10]).flatten ++ z)) := by
      rw [List.map_cons, List.flatten_cons, List.append_assoc, List.append_assoc]
    rw [e, TL.spl_part1 (h r (List.mem_cons_self ..)), spl_linesT z hz rows fun q hq => h q (List.mem_cons_of_mem _ hq)]
    rfl
theorem split_textL {rows : List Str} {z : Str} (h : ∀ r ∈ rows, 10 ∉ TL.tl r) (hz : 10 ∉ TL.tl z) : Txt.split (textL rows ++ z) "\n" = rows ++ [z] := by
  refine TL.map_tl_inj ?_
  rw [TL.split_spl _ _ nl_ok.1 (TL.kind_ok nl_ok.2.1), TL.tl_append, tl_textL, tl_nl, spl_linesT _ hz _ fun r hr => by
    obtain ⟨q, hq, rfl⟩ := List.mem_map.mp hr
    exact h q hq, List.map_append]
  rfl
theorem app_nil (t : Str) : t ++ ("" : Str) = t := TL.ext_tl (by rw [TL.tl_append, show TL.tl ("" : Str) = [] from by decide +kernel, List.append_nil])
theorem tl_nilS : TL.tl ("" : Str) = [] := by decide +kernel
theorem split_textL0 {rows : List Str} (h : ∀ r ∈ rows, 10 ∉ TL.tl r) : Txt.split (textL rows) "\n" = rows ++ [("" : Str)] := by
  have := split_textL (z := "") h (by rw [tl_nilS]; simp)
  rw [app_nil] at this
  exact this
/-- a text of rows, read -/
theorem readD_rows {r : Str} {rows : List Str} (h : ∀ x ∈ r :: rows, 10 ∉ TL.tl x) : readD (textL (r :: rows)) = (readHead (Txt.split r " ")).bind fun d => readLine d rows := by
  unfold readD
  rw [split_textL0 h, if_neg (by rw [decide_eq_true (by rw [List.length_append, List.length_cons, List.length_singleton]; omega), decide_eq_true (by rw [List.getLast?_append]; rfl)]; decide)]
  have hm : midL ((r :: rows) ++ [("" : Str)]) = rows := by
    unfold midL
    have : ((r :: rows) ++ [("" : Str)]).length - 2 = rows.length := by rw [List.length_append, List.length_cons, List.length_singleton]; omega
    rw [this]
    show (rows ++ [("" : Str)]).take rows.length = rows
    rw [List.take_append_of_le_length (Nat.le_refl _), List.take_length]
  rw [hm]
  show (match readHead (Txt.split r " ") with | none => none | some d => readLine d rows) = _
  cases readHead (Txt.split r " ") <;> rfl
theorem readD_tail {rows : List Str} {z : Str} (h : ∀ x ∈ rows, 10 ∉ TL.tl x) (hz : 10 ∉ TL.tl z) (hn : z ≠ "") : readD (textL rows ++ z) = none := by
  unfold readD
  rw [split_textL h hz, if_pos]
  rw [Bool.and_eq_false_iff]
  refine .inr (decide_eq_false ?_)
  rw [List.getLast?_append]
  intro q
  exact hn (Option.some.inj q)
theorem readD_empty : readD "" = none := by
  have h : Txt.split ("" : Str) "\n" = [("" : Str)] := split_textL0 (rows := []) (by simp)
  unfold readD
  rw [h]
  rfl
theorem readLine_bad (P : Dk → Prop) (hP : ∀ d c, P d → P (d.snoc c)) {r : Str} (hr : ∀ d, P d → callerOf d (Txt.split r " ") = none) : ∀ (pre post : List Str) (d : Dk), P d → readLine d (pre ++ r :: post) = none
  | [], post, d, hd => by
    show readLine d (r :: post) = none
    rw [readLine_cons, hr d hd]
  | p :: pre, post, d, hd => by
    show readLine d (p :: (pre ++ r :: post)) = none
    rw [readLine_cons]
    cases hc : callerOf d (Txt.split p " ") with
    | none => rfl
    | some c => exact readLine_bad P hP hr pre post (d.snoc c) (hP d c hd)
/-! words that write no number, no name -/
theorem numOf_sign {w : Str} {c : Nat} (h : c ∈ TL.tl w) (hc : isFig c = false) : numOf w = none := by
  unfold numOf
  refine if_neg fun q => ?_
  unfold isNum at q
  rw [Bool.and_eq_true, Bool.and_eq_true] at q
  have := List.all_eq_true.mp q.2.1 c h
  rw [hc] at this
  cases this
theorem numOf_zero {w : Str} (h : (TL.tl w).head? = some 48) (hl : 1 < w.length) : numOf w = none := by
  unfold numOf
  refine if_neg fun q => ?_
  unfold isNum at q
  rw [Bool.and_eq_true, Bool.and_eq_true] at q
  have z := q.2.2
  have : zeroLead w = true := by
    unfold zeroLead
    rw [decide_eq_true hl, Bool.and_true]
    exact decide_eq_true h
  rw [this] at z
  cases z
theorem numOf_long {w : Str} (h : 12 < w.length) : numOf w = none := by
  unfold numOf
  refine if_neg fun q => ?_
  unfold isNum at q
  rw [decide_eq_true h, Bool.or_true] at q
  cases q
theorem name_bad {w : Str} {c : Nat} (h : c ∈ TL.tl w) (hc : isSign c = false) : isName w = false := by
  cases hn : isName w with
  | false => rfl
  | true =>
    have := sign_free hn h
    rw [hc] at this
    cases this
section
variable {d : Dk} {nm r st m : Str}
theorem co_some {c : Cl} (h : callerOf d [nm, r, st, m] = some c) : isName nm = true ∧ nm ∉ d.line.map (·.nm) ∧ (∃ rk, numOf r = some rk ∧ rk ≤ 99) ∧ ((st = "waiting" ∧ isName m = true) ∨ (st ≠ "waiting" ∧ ∃ t, numOf m = some t ∧ ((st = "ready" ∧ t ≤ d.now) ∨ (st = "asleep" ∧ 1 ≤ t ∧ t ≤ 1000)))) ∧ c.nm = nm := by
  unfold callerOf at h
  dsimp only at h
  by_cases h1 : (isName nm && !decide (nm ∈ d.line.map (·.nm))) = false
  · rw [if_pos h1] at h; cases h
  rw [if_neg h1] at h
  rw [Bool.not_eq_false, Bool.and_eq_true, Bool.not_eq_true', decide_eq_false_iff_not] at h1
  refine ⟨h1.1, h1.2, ?_⟩
  cases hr : numOf r with
  | none => rw [hr] at h; cases h
  | some rk =>
    rw [hr] at h
    dsimp only at h
    by_cases h2 : (decide (rk ≤ 99) && decide ((d.line.length : Int) < d.room)) = false
    · rw [if_pos h2] at h; cases h
    rw [if_neg h2] at h
    rw [Bool.not_eq_false, Bool.and_eq_true] at h2
    refine ⟨⟨rk, rfl, of_decide_eq_true h2.1⟩, ?_⟩
    by_cases h3 : st = "waiting"
    · rw [if_pos h3] at h
      by_cases h4 : isName m = false
      · rw [if_pos h4] at h; cases h
      · rw [if_neg h4] at h
        cases h
        exact ⟨.inl ⟨h3, by cases hb : isName m with | false => exact absurd hb h4 | true => rfl⟩, rfl⟩
    · rw [if_neg h3] at h
      cases hm : numOf m with
      | none => rw [hm] at h; cases h
      | some t =>
        rw [hm] at h
        dsimp only at h
        by_cases h4 : st = "ready"
        · rw [if_pos h4] at h
          by_cases h5 : t ≤ d.now
          · rw [if_pos h5] at h
            cases h
            exact ⟨.inr ⟨h3, t, rfl, .inl ⟨h4, h5⟩⟩, rfl⟩
          · rw [if_neg h5] at h; cases h
        · rw [if_neg h4] at h
          by_cases h5 : (decide (st = "asleep") && (decide (1 ≤ t) && decide (t ≤ 1000))) = false
          · rw [if_pos h5] at h; cases h
          · rw [if_neg h5] at h
            cases h
            rw [Bool.not_eq_false, Bool.and_eq_true, Bool.and_eq_true] at h5
            exact ⟨.inr ⟨h3, t, rfl, .inr ⟨of_decide_eq_true h5.1, of_decide_eq_true h5.2.1, of_decide_eq_true h5.2.2⟩⟩, rfl⟩
theorem co_no (h : ∀ c, callerOf d [nm, r, st, m] = some c → False) : callerOf d [nm, r, st, m] = none := by
  cases hc : callerOf d [nm, r, st, m] with
  | none => rfl
  | some c => exact (h c hc).elim
theorem co_name (h : isName nm = false) : callerOf d [nm, r, st, m] = none := co_no fun c hc => by
  have := (co_some hc).1
  rw [h] at this
  cases this
theorem co_in (h : nm ∈ d.line.map (·.nm)) : callerOf d [nm, r, st, m] = none := co_no fun c hc => (co_some hc).2.1 h
theorem co_rank (h : numOf r = none) : callerOf d [nm, r, st, m] = none := co_no fun c hc => by
  obtain ⟨_, _, ⟨rk, h1, _⟩, _⟩ := co_some hc
  rw [h] at h1
  cases h1
theorem co_rank2 {k : Int} (h : numOf r = some k) (hk : 99 < k) : callerOf d [nm, r, st, m] = none := co_no fun c hc => by
  obtain ⟨_, _, ⟨rk, h1, h2⟩, _⟩ := co_some hc
  rw [h] at h1
  cases h1
  omega
theorem co_wait (h : st = "waiting") (hb : isName m = false) : callerOf d [nm, r, st, m] = none := co_no fun c hc => by
  obtain ⟨_, _, _, h1 | h1, _⟩ := co_some hc
  · have := h1.2
    rw [hb] at this
    cases this
  · exact h1.1 h
theorem co_mark (h : st ≠ "waiting") (hb : numOf m = none) : callerOf d [nm, r, st, m] = none := co_no fun c hc => by
  obtain ⟨_, _, _, h1 | ⟨_, t, h1, _⟩, _⟩ := co_some hc
  · exact h h1.1
  · rw [hb] at h1
    cases h1
theorem co_st (h1 : st ≠ "waiting") (h2 : st ≠ "ready") (h3 : st ≠ "asleep") : callerOf d [nm, r, st, m] = none := co_no fun c hc => by
  obtain ⟨_, _, _, h | ⟨_, t, _, h | h⟩, _⟩ := co_some hc
  · exact h1 h.1
  · exact h2 h.1
  · exact h3 h.1
theorem rdy_asl : ("ready" : Str) ≠ "asleep" ∧ ("ready" : Str) ≠ "waiting" ∧ ("asleep" : Str) ≠ "waiting" := by decide +kernel
theorem co_ready {t : Int} (h : st = "ready") (ht : numOf m = none ∨ numOf m = some t) (hl : d.now < t) : callerOf d [nm, r, st, m] = none := co_no fun c hc => by
  obtain ⟨_, _, _, g | ⟨_, u, hu, g | g⟩, _⟩ := co_some hc
  · exact rdy_asl.2.1 (h.symm.trans g.1)
  · rcases ht with ht | ht
    · rw [ht] at hu; cases hu
    · rw [ht] at hu
      cases hu
      omega
  · exact rdy_asl.1 (h.symm.trans g.1)
theorem co_asleep {t : Int} (h : st = "asleep") (ht : numOf m = some t) (hl : ¬ (1 ≤ t ∧ t ≤ 1000)) : callerOf d [nm, r, st, m] = none := co_no fun c hc => by
  obtain ⟨_, _, _, g | ⟨_, u, hu, g | g⟩, _⟩ := co_some hc
  · exact rdy_asl.2.2 (h.symm.trans g.1)
  · exact rdy_asl.1 (g.1.symm.trans h)
  · rw [ht] at hu
    cases hu
    exact hl g.2
end
def zs12 : Str := repS "0" (12 : Int).toNat
def bs13 : Str := repS "b" (13 : Int).toNat
/-- the rows that are put in the head's place -/
def headRows (pa ro no : Str) : List (List Str) :=
  ([["desk", "0", ro, no], ["desk", "1001", ro, no], ["desk", pa, "0", no], ["desk", pa, "61", no]] : List (List Str))
  ++ ([["desk", pa, ro, ("0" : Str) ++ no], ["desk", pa, ro, "-1"], ["desk", pa, ro, ("1" : Str) ++ zs12]] : List (List Str))
  ++ ([["desk", ("+" : Str) ++ pa, ro, no], ["Desk", pa, ro, no], ["desk", pa, ro]] : List (List Str))
  ++ ([["desk", pa, ro, no, "0"], ["", pa, ro, no], ["desk", "", pa, ro, no]] : List (List Str))
  ++ ([["desk", pa, ro, no, ""], ["desk", pa, ro ++ "_0", no], ["desk", ("0" : Str) ++ pa, ro, no]] : List (List Str))
  ++ ([["desk", pa, ("0" : Str) ++ ro, no], [("desk\t" : Str) ++ pa, ro, no], ["desk", pa, ro, no ++ "\t"]] : List (List Str))
  ++ ([["desk", ("-" : Str) ++ pa, ro, no], ["desk", pa, ro, ("+" : Str) ++ no], ["desk", pa, ro, no ++ "_0"]] : List (List Str))
/-- .. in a caller's row's place -/
def rowRows (nm rk st la nx : Str) : List (List Str) :=
  ([[nm, "100", st, la], [nm, ("0" : Str) ++ rk, st, la], [nm, "", st, la]] : List (List Str))
  ++ ([[nm ++ "-", rk, st, la], [nm, rk, "Ready", la], [nm, rk, "ready", nx]] : List (List Str))
  ++ ([[nm, rk, "asleep", "0"], [nm, rk, "asleep", "1001"], [nm, rk, "waiting", "A"]] : List (List Str))
  ++ ([[nm, rk, st], [nm, rk, st, la, la], ["", nm, rk, st, la], [""]] : List (List Str))
  ++ ([[nm, rk, st, la, ""], [nm, "", rk, st, la], [nm, ("+" : Str) ++ rk, st, la]] : List (List Str))
  ++ ([[nm, rk, "ready", "00"], [nm, rk, "asleep", "01"], [nm, rk, "ready", "-0"]] : List (List Str))
  ++ ([[nm, rk, "", la], [nm, rk, "asleep", "5 "], [nm, "1_1", st, la]] : List (List Str))
  ++ ([[nm ++ ("\t" : Str) ++ rk, st, la], [nm, rk, st, la ++ "\t"], [nm, ("-" : Str) ++ rk, st, la]] : List (List Str))
  ++ ([[nm, rk, "waiting", ""], [nm, rk, st ++ "\t", la], [nm, rk, "asleep", "-5"]] : List (List Str))
  ++ ([[nm, rk, "ready", "+0"], [nm, rk, "asleep", "+5"], [nm, rk, "asleep", "1_0"]] : List (List Str))
  ++ ([[nm, rk, "ready", "0_0"], [nm, rk, "asleep", ("1" : Str) ++ zs12]] : List (List Str))
  ++ ([[bs13, rk, st, la], [nm, rk, "waiting", bs13], [nm, rk, "waiting", "b-"]] : List (List Str))
def free (w : Str) : Prop := 10 ∉ TL.tl w ∧ 32 ∉ TL.tl w
theorem free_app {a b : Str} (h1 : free a) (h2 : free b) : free (a ++ b) := by
  unfold free
  rw [TL.tl_append]
  exact ⟨fun h => (List.mem_append.mp h).elim h1.1 h2.1, fun h => (List.mem_append.mp h).elim h1.2 h2.2⟩
def rowT (ws : List Str) : Str := Txt.join " " ws
theorem rowT_free {ws : List Str} (h : ∀ w ∈ ws, 10 ∉ TL.tl w) : 10 ∉ TL.tl (rowT ws) := by
  unfold rowT
  rw [TL.join_eq, TL.tl_join]
  refine joinL_free (by rw [bl_eq]; show 10 ∉ [32]; decide) _ fun p hp => ?_
  obtain ⟨w, hw, rfl⟩ := List.mem_map.mp hp
  exact h w hw
theorem split_rowT {ws : List Str} (hne : ws ≠ []) (h : ∀ w ∈ ws, free w) : Txt.split (rowT ws) " " = ws := split_words hne fun w hw => (h w hw).2
theorem rh_num {a b c : Str} (h : numOf a = none ∨ numOf b = none ∨ numOf c = none) : readHead ["desk", a, b, c] = none := by
  show (if (decide (("desk" : Str) = "desk")) = false then none else (numOf a).bind fun pa => (numOf b).bind fun ro => if 1 ≤ pa ∧ pa ≤ 1000 ∧ 1 ≤ ro ∧ ro ≤ 60 then (numOf c).bind fun no => some (⟨pa, ro, no, []⟩ : Dk) else none) = none
  rw [decide_eq_true rfl, if_neg (by decide)]
  rcases h with h | h | h
  · rw [h]; rfl
  · rw [h]
    cases numOf a <;> rfl
  · rw [h]
    cases numOf a with
    | none => rfl
    | some x =>
      cases numOf b with
      | none => rfl
      | some y =>
        show (if 1 ≤ x ∧ x ≤ 1000 ∧ 1 ≤ y ∧ y ≤ 60 then none else none) = none
        split <;> rfl
theorem rh_bnd {a b c : Str} {x y : Int} (h1 : numOf a = some x) (h2 : numOf b = some y) (h : ¬ (1 ≤ x ∧ x ≤ 1000 ∧ 1 ≤ y ∧ y ≤ 60)) : readHead ["desk", a, b, c] = none := by
  show (if (decide (("desk" : Str) = "desk")) = false then none else (numOf a).bind fun pa => (numOf b).bind fun ro => if 1 ≤ pa ∧ pa ≤ 1000 ∧ 1 ≤ ro ∧ ro ≤ 60 then (numOf c).bind fun no => some (⟨pa, ro, no, []⟩ : Dk) else none) = none
  rw [decide_eq_true rfl, if_neg (by decide), h1, h2]
  exact if_neg h
theorem rh_desk {w a b c : Str} (h : w ≠ "desk") : readHead [w, a, b, c] = none := by
  show (if (decide (w = "desk")) = false then none else _) = none
  rw [decide_eq_false h]
  rfl
theorem tl_int_mem {i : Int} (h : 0 ≤ i) : ∀ c ∈ TL.tl (Str.ofString (toString i)), 48 ≤ c ∧ c ≤ 57 := by
  rw [tl_int h]
  exact TL.numL_digits _
theorem ofI_ne {i : Int} (h : 0 ≤ i) {w : Str} (hw : ∃ c ∈ TL.tl w, ¬ (48 ≤ c ∧ c ≤ 57)) : Str.ofString (toString i) ≠ w := fun e => by
  obtain ⟨c, hc, hn⟩ := hw
  rw [← e] at hc
  exact hn (tl_int_mem h c hc)
theorem ofI_st {i : Int} (h : 0 ≤ i) : Str.ofString (toString i) ≠ "waiting" ∧ Str.ofString (toString i) ≠ "ready" ∧ Str.ofString (toString i) ≠ "asleep" :=
  ⟨ofI_ne h ⟨119, by decide +kernel, by decide⟩, ofI_ne h ⟨114, by decide +kernel, by decide⟩, ofI_ne h ⟨97, by decide +kernel, by decide⟩⟩
/-- a word without a blank or a line's end, of n signs at most -/
def Fw (n : Nat) (w : Str) : Prop := (10 ∉ TL.tl w ∧ 32 ∉ TL.tl w) ∧ w.length ≤ n
instance (n : Nat) (w : Str) : Decidable (Fw n w) := by unfold Fw; infer_instance
theorem fw_v {w : Str} (h : Fw 15 w) : Fw 32 w := ⟨h.1, by have := h.2; omega⟩
theorem fw_app {a b : Str} {m n : Nat} (h1 : Fw m a) (h2 : Fw n b) : Fw (m + n) (a ++ b) := ⟨free_app h1.1 h2.1, by have := h1.2; have := h2.2; rw [len_app]; omega⟩
theorem fw_2 {a b : Str} (h1 : Fw 15 a) (h2 : Fw 15 b) : Fw 32 (a ++ b) := ⟨(fw_app h1 h2).1, by have := (fw_app h1 h2).2; omega⟩
theorem fw_3 {a b c : Str} (h1 : Fw 15 a) (h2 : Fw 2 b) (h3 : Fw 15 c) : Fw 32 (a ++ b ++ c) := ⟨(fw_app (fw_app h1 h2) h3).1, by have := (fw_app (fw_app h1 h2) h3).2; omega⟩
theorem fws_nil {n : Nat} : ∀ w ∈ ([] : List Str), Fw n w := fun _ h => by cases h
theorem fws_cons {n : Nat} {a : Str} {l : List Str} (h1 : Fw n a) (h2 : ∀ w ∈ l, Fw n w) : ∀ w ∈ a :: l, Fw n w := fun w h => by
  rcases List.mem_cons.mp h with rfl | h
  · exact h1
  · exact h2 w h
local macro_rules | `(tactic| tm_at "rr.fw15") => `(tactic| first | assumption | decide +kernel)
local macro_rules | `(tactic| tm_at "rr.fws") => `(tactic| ((repeat' (first | exact fws_nil | refine fws_cons ?_ ?_)) <;> (first | (refine fw_v ?_; tm_at "rr.fw15") | (refine fw_2 ?_ ?_ <;> tm_at "rr.fw15") | (refine fw_3 ?_ ?_ ?_ <;> tm_at "rr.fw15"))))
/-- few words, short, without a line's end -/
def Sm (ws : List Str) : Prop := ws.length ≤ 5 ∧ ∀ w ∈ ws, 10 ∉ TL.tl w ∧ w.length ≤ 32
theorem sm_of {ws : List Str} (h1 : ws.length ≤ 5) (h2 : ∀ w ∈ ws, Fw 32 w) : Sm ws := ⟨h1, fun w hw => ⟨(h2 w hw).1.1, (h2 w hw).2⟩⟩
theorem split_fw {ws : List Str} {n : Nat} (hne : ws ≠ []) (h : ∀ w ∈ ws, Fw n w) : Txt.split (rowT ws) " " = ws := split_words hne fun w hw => (h w hw).1.2
theorem num_zero {x : Str} (h : 1 ≤ x.length) : numOf (("0" : Str) ++ x) = none := by
  refine numOf_zero ?_ ?_
  · rw [TL.tl_append, show TL.tl ("0" : Str) = [48] from by decide +kernel]
    rfl
  · rw [len_app, show ("0" : Str).length = 1 from by decide +kernel]
    omega
theorem num_plus {x : Str} : numOf (("+" : Str) ++ x) = none := numOf_sign (c := 43) (by rw [TL.tl_append, show TL.tl ("+" : Str) = [43] from by decide +kernel]; simp) (by decide +kernel)
theorem num_minus {x : Str} : numOf (("-" : Str) ++ x) = none := numOf_sign (c := 45) (by rw [TL.tl_append, show TL.tl ("-" : Str) = [45] from by decide +kernel]; simp) (by decide +kernel)
theorem num_under {x : Str} : numOf (x ++ "_0") = none := numOf_sign (c := 95) (by rw [TL.tl_append, show TL.tl ("_0" : Str) = [95, 48] from by decide +kernel]; simp) (by decide +kernel)
theorem num_tab {x : Str} : numOf (x ++ "\t") = none := numOf_sign (c := 9) (by rw [TL.tl_append, show TL.tl ("\t" : Str) = [9] from by decide +kernel]; simp) (by decide +kernel)
theorem name_tab {x : Str} : isName (x ++ "\t") = false := name_bad (c := 9) (by rw [TL.tl_append, show TL.tl ("\t" : Str) = [9] from by decide +kernel]; simp) (by decide +kernel)
theorem name_dash {x : Str} : isName (x ++ "-") = false := name_bad (c := 45) (by rw [TL.tl_append, show TL.tl ("-" : Str) = [45] from by decide +kernel]; simp) (by decide +kernel)
theorem fw_int {i : Int} (h0 : 0 ≤ i) (h1 : i < 1000000000000000) : Fw 15 (Str.ofString (toString i)) := ⟨int_free h0, len_int h0 h1⟩
theorem fw_name {s : Str} (h : isName s = true) : Fw 15 s := ⟨name_free h, by have := (isName_len h).2; omega⟩
theorem int_pos {i : Int} (h0 : 0 ≤ i) : 1 ≤ (Str.ofString (toString i)).length := by
  rw [TL.len_tl, tl_int h0]
  exact List.length_pos_iff.mpr (TL.numL_ne _)
abbrev SI (i : Int) : Str := Str.ofString (toString i)
theorem head_bad {d : Dk} (ok : d.Ok) (ht : d.now < 1000000000000) : ∀ ws ∈ headRows (SI d.pace) (SI d.room) (SI d.now), Sm ws ∧ readHead (Txt.split (rowT ws) " ") = none := by
  have p1 := ok.p1
  have p2 := ok.p2
  have r1 := ok.r1
  have r2 := ok.r2
  have n0 := ok.n0
  have f1 := fw_int (i := d.pace) (by omega) (by omega)
  have f2 := fw_int (i := d.room) (by omega) (by omega)
  have f3 := fw_int (i := d.now) (by omega) (by omega)
  have v1 : numOf (SI d.pace) = some d.pace := numOf_int (by omega) (by omega)
  have v2 : numOf (SI d.room) = some d.room := numOf_int (by omega) (by omega)
  have v3 : numOf (SI d.now) = some d.now := numOf_int (by omega) (by omega)
  have l1 := int_pos (i := d.pace) (by omega)
  have l2 := int_pos (i := d.room) (by omega)
  have l3 := int_pos (i := d.now) (by omega)
  have key : ∀ ws : List Str, ws ≠ [] → ws.length ≤ 5 → (∀ w ∈ ws, Fw 32 w) → readHead ws = none → Sm ws ∧ readHead (Txt.split (rowT ws) " ") = none := fun ws h1 h2 h3 h4 => ⟨sm_of h2 h3, by rw [split_fw h1 h3]; exact h4⟩
  change Fw 15 (SI d.pace) at f1
  change Fw 15 (SI d.room) at f2
  change Fw 15 (SI d.now) at f3
  change 1 ≤ (SI d.pace).length at l1
  change 1 ≤ (SI d.room).length at l2
  change 1 ≤ (SI d.now).length at l3
  generalize SI d.pace = pa at *
  generalize SI d.room = ro at *
  generalize SI d.now = no at *
  intro ws hw
  unfold headRows at hw
  simp only [List.mem_append, List.mem_cons, List.not_mem_nil, or_false, or_assoc] at hw
  rcases hw with rfl | rfl | rfl | rfl | rfl | rfl | rfl | rfl | rfl | rfl | rfl | rfl | rfl | rfl | rfl | rfl | rfl | rfl | rfl | rfl | rfl | rfl
  · exact key _ (by simp) (by simp) (by tm_at "rr.fws") (rh_bnd (x := 0) (by decide +kernel) v2 (by omega))
  · exact key _ (by simp) (by simp) (by tm_at "rr.fws") (rh_bnd (x := 1001) (by decide +kernel) v2 (by omega))
  · exact key _ (by simp) (by simp) (by tm_at "rr.fws") (rh_bnd (y := 0) v1 (by decide +kernel) (by omega))
  · exact key _ (by simp) (by simp) (by tm_at "rr.fws") (rh_bnd (y := 61) v1 (by decide +kernel) (by omega))
  · exact key _ (by simp) (by simp) (by tm_at "rr.fws") (rh_num (.inr (.inr (num_zero l3))))
  · exact key _ (by simp) (by simp) (by tm_at "rr.fws") (rh_num (.inr (.inr (by decide +kernel))))
  · exact key _ (by simp) (by simp) (by tm_at "rr.fws") (rh_num (.inr (.inr (by decide +kernel))))
  · exact key _ (by simp) (by simp) (by tm_at "rr.fws") (rh_num (.inl num_plus))
  · exact key _ (by simp) (by simp) (by tm_at "rr.fws") (rh_desk (by decide +kernel))
  · exact key _ (by simp) (by simp) (by tm_at "rr.fws") rfl
  · exact key _ (by simp) (by simp) (by tm_at "rr.fws") rfl
  · exact key _ (by simp) (by simp) (by tm_at "rr.fws") (rh_desk (by decide +kernel))
  · exact key _ (by simp) (by simp) (by tm_at "rr.fws") rfl
  · exact key _ (by simp) (by simp) (by tm_at "rr.fws") rfl
  · exact key _ (by simp) (by simp) (by tm_at "rr.fws") (rh_num (.inr (.inl num_under)))
  · exact key _ (by simp) (by simp) (by tm_at "rr.fws") (rh_num (.inl (num_zero l1)))
  · exact key _ (by simp) (by simp) (by tm_at "rr.fws") (rh_num (.inr (.inl (num_zero l2))))
  · exact key _ (by simp) (by simp) (by tm_at "rr.fws") rfl
  · exact key _ (by simp) (by simp) (by tm_at "rr.fws") (rh_num (.inr (.inr num_tab)))
  · exact key _ (by simp) (by simp) (by tm_at "rr.fws") (rh_num (.inl num_minus))
  · exact key _ (by simp) (by simp) (by tm_at "rr.fws") (rh_num (.inr (.inr num_plus)))
  · exact key _ (by simp) (by simp) (by tm_at "rr.fws") (rh_num (.inr (.inr num_under)))
theorem md_st (m : Md) : (m.st = "waiting" ∧ m.isW = true) ∨ m.st = "ready" ∨ m.st = "asleep" := by
  cases m with
  | rdy s => exact .inr (.inl rfl)
  | slp s => exact .inr (.inr rfl)
  | wtg s => exact .inl ⟨rfl, rfl⟩
theorem st_tab : ∀ m : Md, m.st ++ "\t" ≠ "waiting" ∧ m.st ++ "\t" ≠ "ready" ∧ m.st ++ "\t" ≠ "asleep"
  | .rdy _ => (by decide +kernel : ("ready" : Str) ++ "\t" ≠ "waiting" ∧ ("ready" : Str) ++ "\t" ≠ "ready" ∧ ("ready" : Str) ++ "\t" ≠ "asleep")
  | .slp _ => (by decide +kernel : ("asleep" : Str) ++ "\t" ≠ "waiting" ∧ ("asleep" : Str) ++ "\t" ≠ "ready" ∧ ("asleep" : Str) ++ "\t" ≠ "asleep")
  | .wtg _ => (by decide +kernel : ("waiting" : Str) ++ "\t" ≠ "waiting" ∧ ("waiting" : Str) ++ "\t" ≠ "ready" ∧ ("waiting" : Str) ++ "\t" ≠ "asleep")
theorem fw_st : ∀ m : Md, Fw 15 m.st
  | .rdy _ => (by decide +kernel : Fw 15 ("ready" : Str))
  | .slp _ => (by decide +kernel : Fw 15 ("asleep" : Str))
  | .wtg _ => (by decide +kernel : Fw 15 ("waiting" : Str))
theorem fw_mark {now : Int} (h1 : now < 1000000000000) : ∀ m : Md, MdOk now m → Fw 15 (markS now m)
  | .rdy s, h => by
    have h : 0 ≤ s ∧ s ≤ now := h
    exact fw_int (i := now - s) (by omega) (by omega)
  | .slp t, h => by
    have h : now < t ∧ t ≤ now + 1000 := h
    exact fw_int (i := t - now) (by omega) (by omega)
  | .wtg b, h => fw_name h
theorem five {a b : Str} : rowT [a, b, "asleep", "5 "] = rowT [a, b, "asleep", "5", ""] := by
  refine TL.ext_tl ?_
  unfold rowT
  rw [TL.join_eq, TL.join_eq, TL.tl_join, TL.tl_join]
  simp only [List.map_cons, List.map_nil, TL.joinL, List.append_assoc]
  rw [show TL.tl ("5 " : Str) = TL.tl ("5" : Str) ++ (TL.tl (" " : Str) ++ TL.tl ("" : Str)) from by decide +kernel]
theorem row_bad {now : Int} {c : Cl} (h : ClOk now c) (h0 : 0 ≤ now) (h1 : now < 1000000000000) : ∀ ws ∈ rowRows c.nm (SI c.rk) c.md.st (markS now c.md) (SI (now + 1)), Sm ws ∧ ∀ d : Dk, d.now = now → callerOf d (Txt.split (rowT ws) " ") = none := by
  obtain ⟨g1, g2, g3, g4⟩ := h
  have f1 := fw_name g1
  have f2 := fw_int (i := c.rk) g2 (by omega)
  have f3 := fw_st c.md
  have f4 := fw_mark h1 c.md g4
  have f5 := fw_int (i := now + 1) (by omega) (by omega)
  have l2 := int_pos (i := c.rk) g2
  have v5 : numOf (SI (now + 1)) = none ∨ numOf (SI (now + 1)) = some (now + 1) := by
    by_cases hn : now + 1 < 1000000000000
    · exact .inr (numOf_int (by omega) hn)
    · have : now + 1 = 1000000000000 := by omega
      rw [this]
      exact .inl (by decide +kernel)
  have hst := md_st c.md
  have htab := st_tab c.md
  change Fw 15 (SI c.rk) at f2
  change Fw 15 (SI (now + 1)) at f5
  change 1 ≤ (SI c.rk).length at l2
  have key : ∀ ws : List Str, ws ≠ [] → ws.length ≤ 5 → (∀ w ∈ ws, Fw 32 w) → (∀ d : Dk, d.now = now → callerOf d ws = none) → Sm ws ∧ ∀ d : Dk, d.now = now → callerOf d (Txt.split (rowT ws) " ") = none := fun ws h1 h2 h3 h4 => ⟨sm_of h2 h3, by rw [split_fw h1 h3]; exact h4⟩
  generalize SI c.rk = rk at *
  generalize SI (now + 1) = nx at *
  generalize markS now c.md = la at *
  generalize c.md.st = st at *
  generalize c.nm = nm at *
  intro ws hw
  unfold rowRows at hw
  simp only [List.mem_append, List.mem_cons, List.not_mem_nil, or_false, or_assoc] at hw
  rcases hw with rfl | rfl | rfl | rfl | rfl | rfl | rfl | rfl | rfl | rfl | rfl | rfl | rfl | rfl | rfl | rfl | rfl | rfl | rfl | rfl | rfl | rfl | rfl | rfl | rfl | rfl | rfl | rfl | rfl | rfl | rfl | rfl | rfl | rfl | rfl | rfl
  · exact key _ (by simp) (by simp) (by tm_at "rr.fws") fun d hd => co_rank2 (k := 100) (by decide +kernel) (by decide)
  · exact key _ (by simp) (by simp) (by tm_at "rr.fws") fun d hd => co_rank (num_zero l2)
  · exact key _ (by simp) (by simp) (by tm_at "rr.fws") fun d hd => co_rank (by decide +kernel)
  · exact key _ (by simp) (by simp) (by tm_at "rr.fws") fun d hd => co_name name_dash
  · exact key _ (by simp) (by simp) (by tm_at "rr.fws") fun d hd => co_st (by decide +kernel) (by decide +kernel) (by decide +kernel)
  · exact key _ (by simp) (by simp) (by tm_at "rr.fws") fun d hd => co_ready (t := now + 1) rfl v5 (by omega)
  · exact key _ (by simp) (by simp) (by tm_at "rr.fws") fun d hd => co_asleep (t := 0) rfl (by decide +kernel) (by omega)
  · exact key _ (by simp) (by simp) (by tm_at "rr.fws") fun d hd => co_asleep (t := 1001) rfl (by decide +kernel) (by omega)
  · exact key _ (by simp) (by simp) (by tm_at "rr.fws") fun d hd => co_wait rfl (by decide +kernel)
  · exact key _ (by simp) (by simp) (by tm_at "rr.fws") fun d hd => rfl
  · exact key _ (by simp) (by simp) (by tm_at "rr.fws") fun d hd => rfl
  · exact key _ (by simp) (by simp) (by tm_at "rr.fws") fun d hd => rfl
  · exact key _ (by simp) (by simp) (by tm_at "rr.fws") fun d hd => rfl
  · exact key _ (by simp) (by simp) (by tm_at "rr.fws") fun d hd => rfl
  · exact key _ (by simp) (by simp) (by tm_at "rr.fws") fun d hd => rfl
  · exact key _ (by simp) (by simp) (by tm_at "rr.fws") fun d hd => co_rank num_plus
  · exact key _ (by simp) (by simp) (by tm_at "rr.fws") fun d hd => co_mark rdy_asl.2.1 (by decide +kernel)
  · exact key _ (by simp) (by simp) (by tm_at "rr.fws") fun d hd => co_mark rdy_asl.2.2 (by decide +kernel)
  · exact key _ (by simp) (by simp) (by tm_at "rr.fws") fun d hd => co_mark rdy_asl.2.1 (by decide +kernel)
  · exact key _ (by simp) (by simp) (by tm_at "rr.fws") fun d hd => co_st (by decide +kernel) (by decide +kernel) (by decide +kernel)
  · refine ⟨⟨by simp, fun w hw => ?_⟩, ?_⟩
    · simp only [List.mem_cons, List.not_mem_nil, or_false] at hw
      rcases hw with rfl | rfl | rfl | rfl
      · exact ⟨f1.1.1, by have := f1.2; omega⟩
      · exact ⟨f2.1.1, by have := f2.2; omega⟩
      · decide +kernel
      · decide +kernel
    · rw [five]
      exact (key [nm, rk, "asleep", "5", ""] (by simp) (by simp) (by tm_at "rr.fws") fun d hd => rfl).2
  · exact key _ (by simp) (by simp) (by tm_at "rr.fws") fun d hd => co_rank (by decide +kernel)
  · exact key _ (by simp) (by simp) (by tm_at "rr.fws") fun d hd => rfl
  · refine key _ (by simp) (by simp) (by tm_at "rr.fws") fun d hd => ?_
    by_cases hs : st = "waiting"
    · exact co_wait hs name_tab
    · exact co_mark hs num_tab
  · exact key _ (by simp) (by simp) (by tm_at "rr.fws") fun d hd => co_rank num_minus
  · exact key _ (by simp) (by simp) (by tm_at "rr.fws") fun d hd => co_wait rfl (by decide +kernel)
  · exact key _ (by simp) (by simp) (by tm_at "rr.fws") fun d hd => co_st htab.1 htab.2.1 htab.2.2
  · exact key _ (by simp) (by simp) (by tm_at "rr.fws") fun d hd => co_mark rdy_asl.2.2 (by decide +kernel)
  · exact key _ (by simp) (by simp) (by tm_at "rr.fws") fun d hd => co_mark rdy_asl.2.1 (by decide +kernel)
  · exact key _ (by simp) (by simp) (by tm_at "rr.fws") fun d hd => co_mark rdy_asl.2.2 (by decide +kernel)
  · exact key _ (by simp) (by simp) (by tm_at "rr.fws") fun d hd => co_mark rdy_asl.2.2 (by decide +kernel)
  · exact key _ (by simp) (by simp) (by tm_at "rr.fws") fun d hd => co_mark rdy_asl.2.1 (by decide +kernel)
  · exact key _ (by simp) (by simp) (by tm_at "rr.fws") fun d hd => co_mark rdy_asl.2.2 (by decide +kernel)
  · exact key _ (by simp) (by simp) (by tm_at "rr.fws") fun d hd => co_name (by decide +kernel)
  · exact key _ (by simp) (by simp) (by tm_at "rr.fws") fun d hd => co_wait rfl (by decide +kernel)
  · exact key _ (by simp) (by simp) (by tm_at "rr.fws") fun d hd => co_wait rfl (by decide +kernel)
/-! ### a text with something put wrong -/
def wordsOf (d : Dk) : List (List Str) := headW d :: d.line.map (rowW d.now)
theorem shown_words (d : Dk) : shownD d = textL ((wordsOf d).map rowT) := by
  show Txt.join "" ((headS d :: d.line.map (rowS d.now)).map fun r => r ++ "\n") = Txt.join "" (((headW d :: d.line.map (rowW d.now)).map rowT).map fun r => r ++ "\n")
  rw [head_join, List.map_cons, List.map_cons, List.map_cons, List.map_map, List.map_map, List.map_map]
  rfl
theorem headW_fw {d : Dk} (ok : d.Ok) (ht : d.now < 1000000000000) : ∀ w ∈ headW d, Fw 15 w := by
  have p1 := ok.p1
  have p2 := ok.p2
  have r1 := ok.r1
  have r2 := ok.r2
  have n0 := ok.n0
  exact fws_cons (by decide +kernel) (fws_cons (fw_int (by omega) (by omega)) (fws_cons (fw_int (by omega) (by omega)) (fws_cons (fw_int (by omega) (by omega)) fws_nil)))
theorem rowW_fw {now : Int} {c : Cl} (h : ClOk now c) (h1 : now < 1000000000000) : ∀ w ∈ rowW now c, Fw 15 w := by
  obtain ⟨g1, g2, g3, g4⟩ := h
  exact fws_cons (fw_name g1) (fws_cons (fw_int g2 (by omega)) (fws_cons (fw_st _) (fws_cons (fw_mark h1 _ g4) fws_nil)))
theorem sm_words {d : Dk} (ok : d.Ok) (ht : d.now < 1000000000000) : ∀ r ∈ wordsOf d, Sm r := fun r hr => by
  unfold wordsOf at hr
  rcases List.mem_cons.mp hr with rfl | hr
  · exact sm_of (by simp [headW]) fun w hw => fw_v (headW_fw ok ht w hw)
  · obtain ⟨c, hc, rfl⟩ := List.mem_map.mp hr
    exact sm_of (by simp [rowW]) fun w hw => fw_v (rowW_fw (ok.cl c hc) ht w hw)
theorem sm_free {rows : List (List Str)} (h : ∀ r ∈ rows, Sm r) : ∀ x ∈ rows.map rowT, 10 ∉ TL.tl x := fun x hx => by
  obtain ⟨r, hr, rfl⟩ := List.mem_map.mp hx
  exact rowT_free fun w hw => ((h r hr).2 w hw).1
theorem joinW_len : ∀ ps : List (List Nat), (∀ p ∈ ps, p.length ≤ 32) → (TL.joinL [32] ps).length ≤ ps.length * 33
  | [], _ => by simp [TL.joinL]
  | [p], h => by
    have := h p (List.mem_singleton.mpr rfl)
    show p.length ≤ _
    simp
    omega
  | p :: q :: r, h => by
    have h1 := h p (List.mem_cons_self ..)
    have h2 := joinW_len (q :: r) fun z hz => h z (List.mem_cons_of_mem _ hz)
    show (p ++ ([32] ++ TL.joinL [32] (q :: r))).length ≤ _
    rw [List.length_append, List.length_append, List.length_cons (a := p)]
    simp only [List.length_cons, List.length_nil] at *
    omega
theorem sm_len {r : List Str} (h : Sm r) : (rowT r).length ≤ 165 := by
  unfold rowT
  rw [TL.len_tl, TL.join_eq, TL.tl_join, show TL.tl (" " : Str) = [32] from by decide +kernel]
  have := joinW_len (r.map TL.tl) fun p hp => by
    obtain ⟨w, hw, rfl⟩ := List.mem_map.mp hp
    rw [← TL.len_tl]
    exact (h.2 w hw).2
  rw [List.length_map] at this
  have h5 := h.1
  omega
theorem smt_len {rows : List (List Str)} (h : ∀ r ∈ rows, Sm r) (hn : rows.length ≤ 63) : (textL (rows.map rowT)).length ≤ 10458 := by
  have := textL_len (rows := rows.map rowT) (n := 165) fun x hx => by
    obtain ⟨r, hr, rfl⟩ := List.mem_map.mp hx
    exact sm_len (h r hr)
  rw [List.length_map] at this
  omega
theorem rh_good {d : Dk} (ok : d.Ok) (ht : d.now < 1000000000000) {ro : Int} (h1 : 1 ≤ ro) (h2 : ro ≤ 60) : readHead ["desk", SI d.pace, SI ro, SI d.now] = some ⟨d.pace, ro, d.now, []⟩ := by
  have p1 := ok.p1
  have p2 := ok.p2
  show (if (decide (("desk" : Str) = "desk")) = false then none else (numOf (Str.ofString (toString d.pace))).bind fun pa => (numOf (Str.ofString (toString ro))).bind fun ro => if 1 ≤ pa ∧ pa ≤ 1000 ∧ 1 ≤ ro ∧ ro ≤ 60 then (numOf (Str.ofString (toString d.now))).bind fun no => some (⟨pa, ro, no, []⟩ : Dk) else none) = _
  rw [decide_eq_true rfl, if_neg (by decide), numOf_int (by omega) (by omega), numOf_int (by omega) (by omega), numOf_int ok.n0 ht]
  show (if 1 ≤ d.pace ∧ d.pace ≤ 1000 ∧ 1 ≤ ro ∧ ro ≤ 60 then _ else none) = _
  rw [if_pos ⟨p1, p2, h1, h2⟩]
  rfl
theorem split_head {d : Dk} (ok : d.Ok) (ht : d.now < 1000000000000) : Txt.split (rowT (headW d)) " " = headW d := split_fw (n := 15) (by simp [headW]) (headW_fw ok ht)
theorem readD_words {r : List Str} {rows : List (List Str)} (h : ∀ x ∈ r :: rows, Sm x) : readD (textL ((r :: rows).map rowT)) = (readHead (Txt.split (rowT r) " ")).bind fun d => readLine d (rows.map rowT) := readD_rows (by rw [← List.map_cons]; exact sm_free h)
section
variable {d : Dk} (ok : d.Ok) (ht : d.now < 1000000000000)
include ok ht
/-- the head is another -/
theorem bad_head {ws : List Str} (hw : ws ∈ headRows (SI d.pace) (SI d.room) (SI d.now)) : (∀ r ∈ ws :: d.line.map (rowW d.now), Sm r) ∧ readD (textL ((ws :: d.line.map (rowW d.now)).map rowT)) = none := by
  obtain ⟨h1, h2⟩ := head_bad ok ht ws hw
  have hs : ∀ r ∈ ws :: d.line.map (rowW d.now), Sm r := fun r hr => by
    rcases List.mem_cons.mp hr with rfl | hr
    · exact h1
    · exact sm_words ok ht r (List.mem_cons_of_mem _ hr)
  exact ⟨hs, by rw [readD_words hs, h2]; rfl⟩
/-- a row that can't be one stands somewhere behind the head -/
theorem bad_row {ws : List Str} {pre post : List (List Str)} (hs : Sm ws) (hb : ∀ e : Dk, e.now = d.now → callerOf e (Txt.split (rowT ws) " ") = none) (h1 : ∀ r ∈ pre, Sm r) (h2 : ∀ r ∈ post, Sm r) :
    (∀ r ∈ headW d :: (pre ++ ws :: post), Sm r) ∧ readD (textL ((headW d :: (pre ++ ws :: post)).map rowT)) = none := by
  have r1 := ok.r1
  have r2 := ok.r2
  have hsm : ∀ r ∈ headW d :: (pre ++ ws :: post), Sm r := fun r hr => by
    rcases List.mem_cons.mp hr with rfl | hr
    · exact sm_words ok ht _ (List.mem_cons_self ..)
    · rcases List.mem_append.mp hr with hr | hr
      · exact h1 r hr
      · rcases List.mem_cons.mp hr with rfl | hr
        · exact hs
        · exact h2 r hr
  refine ⟨hsm, ?_⟩
  rw [readD_words hsm, split_head ok ht, show readHead (headW d) = _ from rh_good ok ht r1 r2]
  show readLine _ ((pre ++ ws :: post).map rowT) = none
  rw [List.map_append, List.map_cons]
  exact readLine_bad (fun e => e.now = d.now) (fun e c h => h) hb _ _ _ rfl
theorem head_row (e : Dk) : callerOf e (Txt.split (rowT (headW d)) " ") = none := by
  have r1 := ok.r1
  rw [split_head ok ht]
  have := ofI_st (i := d.room) (by omega)
  exact co_st this.1 this.2.1 this.2.2
omit ok ht in
theorem readLine_full : ∀ (rows : List Str) (e : Dk), e.room < (e.line.length : Int) + (rows.length : Int) → rows ≠ [] → readLine e rows = none
  | [], _, _, h => absurd rfl h
  | r :: rows, e, h, _ => by
    rw [readLine_cons]
    cases hc : callerOf e (Txt.split r " ") with
    | none => rfl
    | some c =>
      show readLine (e.snoc c) rows = none
      have hlt := callerOf_lt hc
      cases rows with
      | nil =>
        simp only [List.length_cons, List.length_nil] at h
        omega
      | cons q rows =>
        refine readLine_full (q :: rows) (e.snoc c) ?_ (by simp)
        show e.room < ((e.line ++ [c]).length : Int) + _
        rw [List.length_append, List.length_singleton]
        simp only [List.length_cons] at h ⊢
        omega
/-- the room is one too small -/
theorem bad_room (hne : d.line ≠ []) : (∀ r ∈ (["desk", SI d.pace, SI ((d.line.length : Int) - 1), SI d.now] : List Str) :: d.line.map (rowW d.now), Sm r) ∧ readD (textL (((["desk", SI d.pace, SI ((d.line.length : Int) - 1), SI d.now] : List Str) :: d.line.map (rowW d.now)).map rowT)) = none := by
  have p1 := ok.p1
  have p2 := ok.p2
  have r1 := ok.r1
  have r2 := ok.r2
  have n0 := ok.n0
  have h60 := ok.len60
  have hpos := List.length_pos_iff.mpr hne
  have hw : ∀ w ∈ (["desk", SI d.pace, SI ((d.line.length : Int) - 1), SI d.now] : List Str), Fw 15 w := fws_cons (by decide +kernel) (fws_cons (fw_int (by omega) (by omega)) (fws_cons (fw_int (by omega) (by omega)) (fws_cons (fw_int (by omega) (by omega)) fws_nil)))
  have hs : ∀ r ∈ (["desk", SI d.pace, SI ((d.line.length : Int) - 1), SI d.now] : List Str) :: d.line.map (rowW d.now), Sm r := fun r hr => by
    rcases List.mem_cons.mp hr with rfl | hr
    · exact sm_of (by simp) fun w hw' => fw_v (hw w hw')
    · exact sm_words ok ht r (List.mem_cons_of_mem _ hr)
  refine ⟨hs, ?_⟩
  rw [readD_words hs, split_fw (by simp) hw]
  by_cases h1 : d.line.length = 1
  · rw [rh_bnd (x := d.pace) (y := (d.line.length : Int) - 1) (numOf_int (by omega) (by omega)) (numOf_int (by omega) (by omega)) (by omega)]
    rfl
  · rw [rh_good ok ht (by omega) (by omega)]
    refine readLine_full _ _ ?_ (by simp [hne])
    show (d.line.length : Int) - 1 < ((([] : List Cl)).length : Int) + _
    rw [List.length_map, List.length_map]
    simp only [List.length_nil]
    omega
omit ok ht in
theorem readLine_app : ∀ (a b : List Str) (e : Dk), readLine e (a ++ b) = (readLine e a).bind fun f => readLine f b
  | [], b, e => rfl
  | r :: a, b, e => by
    show readLine e (r :: (a ++ b)) = _
    rw [readLine_cons, readLine_cons]
    cases callerOf e (Txt.split r " ") with
    | none => rfl
    | some c => exact readLine_app a b (e.snoc c)
/-- a row stands once more at the end -/
theorem bad_twice {c : Cl} (hc : c ∈ d.line) : (∀ r ∈ headW d :: (d.line.map (rowW d.now) ++ [rowW d.now c]), Sm r) ∧ readD (textL ((headW d :: (d.line.map (rowW d.now) ++ [rowW d.now c])).map rowT)) = none := by
  have r1 := ok.r1
  have r2 := ok.r2
  have hs : ∀ r ∈ headW d :: (d.line.map (rowW d.now) ++ [rowW d.now c]), Sm r := fun r hr => by
    rcases List.mem_cons.mp hr with rfl | hr
    · exact sm_words ok ht _ (List.mem_cons_self ..)
    · rcases List.mem_append.mp hr with hr | hr
      · exact sm_words ok ht r (List.mem_cons_of_mem _ hr)
      · rw [List.mem_singleton] at hr
        rw [hr]
        exact sm_words ok ht _ (List.mem_cons_of_mem _ (List.mem_map.mpr ⟨c, hc, rfl⟩))
  refine ⟨hs, ?_⟩
  rw [readD_words hs, split_head ok ht, show readHead (headW d) = _ from rh_good ok ht r1 r2]
  show readLine _ ((d.line.map (rowW d.now) ++ [rowW d.now c]).map rowT) = none
  obtain ⟨A, B, hAB⟩ := List.append_of_mem hc
  have hsp : Txt.split (rowT (rowW d.now c)) " " = rowW d.now c := split_fw (n := 15) (by simp [rowW]) (rowW_fw (ok.cl c hc) ht)
  have hcB : ∀ e : Dk, c.nm ∈ e.line.map (·.nm) → callerOf e (Txt.split (rowT (rowW d.now c)) " ") = none := fun e he => by
    rw [hsp]
    exact co_in he
  have hsplit : (d.line.map (rowW d.now) ++ [rowW d.now c]).map rowT = ((A.map (rowW d.now)).map rowT) ++ (rowT (rowW d.now c) :: (((B.map (rowW d.now)).map rowT) ++ rowT (rowW d.now c) :: [])) := by
    rw [hAB]
    simp
  rw [hsplit, readLine_app]
  cases readLine _ ((A.map (rowW d.now)).map rowT) with
  | none => rfl
  | some f =>
    show readLine f _ = none
    rw [readLine_cons]
    cases hc2 : callerOf f (Txt.split (rowT (rowW d.now c)) " ") with
    | none => rfl
    | some c' =>
      have hnm : c'.nm = c.nm := by
        rw [hsp] at hc2
        exact (co_some hc2).2.2.2.2
      show readLine (f.snoc c') _ = none
      refine readLine_bad (fun e => c.nm ∈ e.line.map (·.nm)) (fun e x h => ?_) hcB _ _ _ ?_
      · show c.nm ∈ (e.line ++ [x]).map (·.nm)
        rw [List.map_append]
        exact List.mem_append_left _ h
      · show c.nm ∈ (f.line ++ [c']).map (·.nm)
        rw [List.map_append]
        exact List.mem_append_right _ (by rw [List.map_singleton, hnm]; exact List.mem_singleton.mpr rfl)
end
/-! the whole text is another -/
theorem rowT_nil : rowT ([""] : List Str) = "" ∧ Txt.split ("" : Str) " " = [("" : Str)] := by
  have h : rowT ([""] : List Str) = "" := by
    refine TL.ext_tl ?_
    unfold rowT
    rw [TL.join_eq, TL.tl_join]
    rfl
  refine ⟨h, ?_⟩
  have := split_fw (n := 15) (ws := ([""] : List Str)) (by simp) (fws_cons (by decide +kernel) fws_nil)
  rw [h] at this
  exact this
theorem textL_app (a b : List Str) : textL (a ++ b) = textL a ++ textL b := TL.ext_tl (by rw [TL.tl_append, tl_textL, tl_textL, tl_textL, List.map_append, List.map_append, List.flatten_append])
theorem textL_one (r : Str) : textL [r] = r ++ "\n" := TL.ext_tl (by rw [tl_textL, TL.tl_append, tl_nl]; simp)
theorem bad_x {rows : List (List Str)} (h : ∀ r ∈ rows, Sm r) : readD (textL (rows.map rowT) ++ "x") = none := readD_tail (sm_free h) (by decide +kernel) (by decide +kernel)
theorem bad_nlA {d : Dk} (ok : d.Ok) (ht : d.now < 1000000000000) : readD (textL ((wordsOf d).map rowT) ++ "\n") = none := by
  have r1 := ok.r1
  have r2 := ok.r2
  have e : textL ((wordsOf d).map rowT) ++ "\n" = textL (((wordsOf d) ++ [([""] : List Str)]).map rowT) := by
    rw [List.map_append, textL_app, List.map_singleton, rowT_nil.1, textL_one]
    congr 1
  rw [e]
  have hs : ∀ r ∈ wordsOf d ++ [([""] : List Str)], Sm r := fun r hr => by
    rcases List.mem_append.mp hr with hr | hr
    · exact sm_words ok ht r hr
    · rw [List.mem_singleton] at hr
      rw [hr]
      exact sm_of (by simp) (fws_cons (by decide +kernel) fws_nil)
  exact (bad_row ok ht (ws := ([""] : List Str)) (pre := d.line.map (rowW d.now)) (post := []) (hs _ (by simp)) (fun e _ => by rw [rowT_nil.1, rowT_nil.2]; rfl) (fun r hr => sm_words ok ht r (List.mem_cons_of_mem _ hr)) (fun r hr => by cases hr)).2
theorem bad_nlB {rows : List (List Str)} (h : ∀ r ∈ rows, Sm r) : readD ("\n" ++ textL (rows.map rowT)) = none := by
  have e : ("\n" : Str) ++ textL (rows.map rowT) = textL ((([""] : List Str) :: rows).map rowT) := by
    rw [List.map_cons, show rowT ([""] : List Str) :: rows.map rowT = [rowT ([""] : List Str)] ++ rows.map rowT from rfl, textL_app, textL_one, rowT_nil.1]
    congr 1
  rw [e, readD_words fun r hr => by
    rcases List.mem_cons.mp hr with rfl | hr
    · exact sm_of (by simp) (fws_cons (by decide +kernel) fws_nil)
    · exact h r hr]
  rw [rowT_nil.1, rowT_nil.2]
  rfl
theorem bad_nlC : readD ("\n" : Str) = none := by
  have := bad_nlB (rows := []) fun r hr => by cases hr
  exact this
theorem cut_end {t : Str} {l : List Nat} {c : Nat} (h : TL.tl t = l ++ [c]) : TL.tl (cutS t none (some (-1))) = l := by
  have hl : t.length = l.length + 1 := by rw [TL.len_tl, h, List.length_append, List.length_singleton]
  have ht : t.cps.toList = l ++ [c] := h
  unfold cutS
  have e2 : HT.sIx t.length t.length (some (-1)) = l.length := by
    show (if (-1 : Int) < 0 then ((-1 : Int) + (t.length : Int)).toNat else min (-1 : Int).toNat t.length) = _
    rw [if_pos (by decide)]
    omega
  have e1 : HT.sIx t.length 0 none = 0 := rfl
  rw [e1, e2, ht]
  show (((l ++ [c]).drop 0).take (l.length - 0)).toArray.toList = l
  simp
theorem bad_cut {rows : List (List Str)} {r : List Str} (h : ∀ x ∈ rows ++ [r], Sm x) (hr : rowT r ≠ "") : readD (cutS (textL ((rows ++ [r]).map rowT)) none (some (-1))) = none := by
  have e : cutS (textL ((rows ++ [r]).map rowT)) none (some (-1)) = textL (rows.map rowT) ++ rowT r := by
    refine TL.ext_tl ?_
    rw [cut_end (l := TL.tl (textL (rows.map rowT)) ++ TL.tl (rowT r)) (c := 10), TL.tl_append]
    rw [List.map_append, textL_app, TL.tl_append, List.map_singleton, textL_one, TL.tl_append, tl_nl, List.append_assoc]
  rw [e]
  exact readD_tail (sm_free fun x hx => h x (List.mem_append_left _ hx)) (sm_free h _ (List.mem_map.mpr ⟨r, by simp, rfl⟩)) hr
theorem rowT_ne {a b : Str} {r : List Str} : rowT (a :: b :: r) ≠ "" := fun e => by
  have : 32 ∈ TL.tl (rowT (a :: b :: r)) := by
    unfold rowT
    rw [TL.join_eq, TL.tl_join, List.map_cons, List.map_cons]
    show 32 ∈ TL.tl a ++ (TL.tl " " ++ _)
    rw [show TL.tl (" " : Str) = [32] from by decide +kernel]
    simp
  rw [e, tl_nilS] at this
  cases this
theorem pick_any {xs : List V} {i : Int} {P : V → Prop} (h0 : 0 ≤ i) (h1 : i < (xs.length : Int)) (h : ∀ x ∈ xs, P x) : ∃ v, P v ∧ atI xs i = some v := by
  have hl : i.toNat < xs.length := by omega
  exact ⟨xs[i.toNat], h _ (List.getElem_mem hl), at_of (j := i.toNat) (by omega) (List.getElem?_eq_getElem hl)⟩
theorem el_catW {σ : L2.St} {H : Hp} {p : Addr} {xs ys : List V} {ta tb : TE} (ha : Ev ta σ H (.ref p)) (hp : H p = some (.lst xs)) (hb : EvL tb σ H ys) (hz : xs.length + ys.length ≤ 100000) : EvL (tOp rCat ta tb) σ H (xs ++ ys) := fun H1 e Q q =>
  ha H1 e _ fun H2 e2 => hb H2 (e.trans e2) _ fun r H3 nr e3 hr => ⟨p, r, xs, ys, rfl, rfl, (e.trans (e2.trans e3)) _ _ hp, hr, sz_of hz, fun s hs => q s _ (fresh_back (e2.trans e3) hs) ((e2.trans e3).trans (Ex.new hs)) upd_same⟩
/-! ### L_caller -/
theorem sc_L_caller : FnScope ["_law_script", "_law_k", "_law_now", "_law_cell", "_law_words", "_law_way"] ["_law_script", "_law_k", "_law_now"] (defScope s_L_caller) := ⟨rfl, rfl, rfl, by decide +kernel, rfl, by decide +kernel, by decide +kernel⟩
def sp_L_caller (K : PySem.W.Frag) : Sp := fun vs H Q _ => ∃ (a : Addr) (ns : List Int) (k now : Int), vs = [.ref a, .int k, .int now] ∧ SqL K H a (ns.map V.int) ∧ 0 ≤ k ∧ k < 60 ∧ 0 ≤ now ∧ now < 1000000000000 ∧ ∀ (c : Cl) (r : Addr) (H' : Hp), c.nm = nameBy k (cellAt ns 0) → ClOk now c → Ex H H' → H' r = some (.lst ((rowW now c).map V.str)) → Q (.ref r) H'
theorem ok_L_caller {P : Program} {w : World} {K : PySem.W.Frag} {mg : Str → Option Value} {base : Heap} (T : Txt K mg) : ∃ fd, FnOk P w K mg base (CX0) 3 (He.ga K "_law_caller") fd ["_law_script", "_law_k", "_law_now"] (sp_L_caller K) ∧ Binds K fd ["_law_script", "_law_k", "_law_now"] [] ∧ FunD K "_law_caller" "_law_caller" (defArgs s_L_caller) (defBody s_L_caller) (defScope s_L_caller) [] [] (He.ga K "_law_caller") fd := by
  obtain ⟨fd, F⟩ := f_L_caller T
  obtain ⟨d_L_cell_at, G_L_cell_at, b_L_cell_at, _⟩ := ok_L_cell_at (P := P) (w := w) (base := base) T
  obtain ⟨d_L_mix, G_L_mix, b_L_mix, _⟩ := ok_L_mix (P := P) (w := w) (base := base) T
  obtain ⟨d_L_name_by, G_L_name_by, b_L_name_by, _⟩ := ok_L_name_by (P := P) (w := w) (base := base) T
  refine ⟨fd, ok0 F sc_L_caller (fun vs H Q E h => ?_) (fun cdv A outer s H vs Q E hr h => ?_), FunD.bindsN F fun _ _ _ _ _ _ us hl => match us, hl with | [_, _, _], _ => rfl, F⟩
  · (repeat (obtain ⟨_, h⟩ := h)); subst_vars; rfl
  · obtain ⟨a, ns, k, now, rfl, hS, k0, k1, n0, n1, kq⟩ := h
    refine ⟨_, (pss_cons (ps_set (i := 3) sc_L_caller.nd rfl (Or.inl rfl) (pe_op op_add (pe_call G_L_cell_at (hr.mono (by decide)) rfl (g_L_cell_at T) (kp_L_cell_at T) b_L_cell_at .nil pass0 (pa_cons (pv 0) (pa_cons (pe_op op_add pe_int (pe_op op_mod (pv 1) pe_int)) pa_nil))) (pe_op op_mul pe_int (pv 1))))
        (pss_cons (ps_set (i := 4) sc_L_caller.nd rfl (Or.inl rfl) (pe_lst (pa_cons (pe_call G_L_name_by (hr.mono (by decide)) rfl (g_L_name_by T) (kp_L_name_by T) b_L_name_by .nil pass0 (pa_cons (pv 1) (pa_cons (pe_call G_L_cell_at (hr.mono (by decide)) rfl (g_L_cell_at T) (kp_L_cell_at T) b_L_cell_at .nil pass0 (pa_cons (pv 0) (pa_cons pe_int pa_nil))) pa_nil))) (pa_cons (pe_callTy call_str_int rfl (b_str T) (by decide +kernel) (pa_cons (pe_call G_L_mix (hr.mono (by decide)) rfl (g_L_mix T) (kp_L_mix T) b_L_mix .nil pass0 (pa_cons (pv 3) (pa_cons pe_int (pa_cons pe_int pa_nil)))) pa_nil)) pa_nil))))
        (pss_cons (ps_set (i := 5) sc_L_caller.nd rfl (Or.inl rfl) (pe_call G_L_mix (hr.mono (by decide)) rfl (g_L_mix T) (kp_L_mix T) b_L_mix .nil pass0 (pa_cons (pv 3) (pa_cons pe_int (pa_cons pe_int pa_nil)))))
        (pss_cons (ps_if (pt_cmpR op_eq (pv 5) pe_int (nomark _)) (pss_one (ps_ret (pe_op op_cat (pv 4) (pe_lst (pa_cons pe_str (pa_cons (pe_callTy call_str_int rfl (b_str T) (by decide +kernel) (pa_cons (pe_ix (ix_listK (K := K) rfl) (pe_lst (pa_cons pe_int (pa_cons (pv 2) (pa_cons (pe_callB (call_min2 rfl) rfl (b_min T) (by decide +kernel) (pa_cons (pv 2) (pa_cons (pe_call G_L_mix (hr.mono (by decide)) rfl (g_L_mix T) (kp_L_mix T) b_L_mix .nil pass0 (pa_cons (pv 3) (pa_cons pe_int (pa_cons pe_int pa_nil)))) pa_nil))) pa_nil)))) (pe_call G_L_mix (hr.mono (by decide)) rfl (g_L_mix T) (kp_L_mix T) b_L_mix .nil pass0 (pa_cons (pv 3) (pa_cons pe_int (pa_cons pe_int pa_nil)))) (fun _ _ => rfl)) pa_nil)) pa_nil))))))
        pss_nil)
        (pss_cons (ps_if (pt_cmpR op_eq (pv 5) pe_int (nomark _)) (pss_one (ps_ret (pe_op op_cat (pv 4) (pe_lst (pa_cons pe_str (pa_cons (pe_callTy call_str_int rfl (b_str T) (by decide +kernel) (pa_cons (pe_ix (ix_listK (K := K) rfl) (pe_lst (pa_cons pe_int (pa_cons pe_int (pa_cons (pe_op op_add pe_int (pe_call G_L_mix (hr.mono (by decide)) rfl (g_L_mix T) (kp_L_mix T) b_L_mix .nil pass0 (pa_cons (pv 3) (pa_cons pe_int (pa_cons pe_int pa_nil))))) pa_nil)))) (pe_call G_L_mix (hr.mono (by decide)) rfl (g_L_mix T) (kp_L_mix T) b_L_mix .nil pass0 (pa_cons (pv 3) (pa_cons pe_int (pa_cons pe_int pa_nil)))) (fun _ _ => rfl)) pa_nil)) pa_nil))))))
        pss_nil)
        (pss_one (ps_ret (pe_op op_cat (pv 4) (pe_lst (pa_cons pe_str (pa_cons (pe_call G_L_name_by (hr.mono (by decide)) rfl (g_L_name_by T) (kp_L_name_by T) b_L_name_by .nil pass0 (pa_cons (pe_call G_L_mix (hr.mono (by decide)) rfl (g_L_mix T) (kp_L_mix T) b_L_mix .nil pass0 (pa_cons (pv 3) (pa_cons pe_int (pa_cons pe_int pa_nil)))) (pa_cons (pe_call G_L_cell_at (hr.mono (by decide)) rfl (g_L_cell_at T) (kp_L_cell_at T) b_L_cell_at .nil pass0 (pa_cons (pv 0) (pa_cons pe_int pa_nil))) pa_nil))) pa_nil))))))))))), ?_⟩
    have hn := nameBy_ok (k := k) (c := cellAt ns 0) k0 (by omega)
    refine q_asg (v := .int (cellAt ns (7 + k % 30) + 17 * k)) (ev_op (ev_call (ea_cons (ev_var rfl) (ea_cons (ev_op ev_c (ev_op (ev_var rfl) ev_c (rv_I (by decide))) rv_I0) ea_nil)) (cv_L_cell_at hS (by omega))) (ev_op ev_c (ev_var rfl) (rv_I (cmul_l (by decide) (by decide)))) rv_I0) fun H1 e1 => ?_
    have hS1 := ex_l e1 hS
    generalize cellAt ns (7 + k % 30) + 17 * k = c at *
    have r0 := mix_nonneg (c := c) (p := 10009) (m := 100) (by decide)
    have r1 := mix_lt (c := c) (p := 10009) (m := 100) (by decide)
    refine q_asgL (xs := [.str (nameBy k (cellAt ns 0)), .str (SI (mix c 10009 100))]) (el_lst (ea_cons (ev_call (ea_cons (ev_var rfl) (ea_cons (ev_call (ea_cons (ev_var rfl) (ea_cons ev_c ea_nil)) (cv_L_cell_at hS1 (by decide))) ea_nil)) (cv_L_name_by k0 (by omega))) (ea_cons (ev_cb (ea_cons (ev_call (ea_cons (ev_var rfl) (ea_cons ev_c (ea_cons ev_c ea_nil))) (cv_L_mix (by decide) (by decide))) ea_nil) (rc_strI (by omega))) ea_nil)) (by show 2 ≤ 100000; decide)) fun wd H2 nwd e2 hwd => ?_
    refine q_asg (v := .int (mix c 10037 3)) (ev_call (ea_cons (ev_var rfl) (ea_cons ev_c (ea_cons ev_c ea_nil))) (cv_L_mix (by decide) (by decide))) fun H3 e3 => ?_
    have e13 := e1.trans (e2.trans e3)
    have hwd3 := e3 _ _ hwd
    have q0 := mix_nonneg (c := c) (p := 10061) (m := 3) (by decide)
    have q1 := mix_lt (c := c) (p := 10061) (m := 3) (by decide)
    refine q_when (b := decide (mix c 10037 3 = 0)) (et_mix0 (ev_var rfl)) (fun hb H4 e4 => ?_) fun hb H4 e4 => ?_
    · have hm0 := mix_nonneg (c := c) (p := 10039) (m := 900) (by decide)
      obtain ⟨v, ⟨t, rfl, t0, t1⟩, hv⟩ := pick_any (xs := [.int 0, .int now, .int (if mix c 10039 900 < now then mix c 10039 900 else now)]) (i := mix c 10061 3) (P := fun v => ∃ t : Int, v = .int t ∧ 0 ≤ t ∧ t ≤ now) q0 (by simpa using q1) (fun x hx => by
        simp only [List.mem_cons, List.not_mem_nil, or_false] at hx
        rcases hx with rfl | rfl | rfl
        · exact ⟨0, rfl, by omega, n0⟩
        · exact ⟨now, rfl, n0, by omega⟩
        · refine ⟨_, rfl, ?_, ?_⟩ <;> split <;> omega)
      refine s_retL (xs := [.str (nameBy k (cellAt ns 0)), .str (SI (mix c 10009 100))] ++ [.str "ready", .str (SI t)]) (el_catW (ev_var rfl) (e4 _ _ hwd3) (el_lst (ea_cons ev_c (ea_cons (ev_cb (ea_cons ?g ea_nil) (rc_strI (by omega))) ea_nil)) (by show 2 ≤ 100000; decide)) (by show 4 ≤ 100000; decide)) fun r H5 nr e5 hr => ?_
      case g =>
        exact ev_opL1 (xs := [.int 0, .int now, .int (if mix c 10039 900 < now then mix c 10039 900 else now)]) (el_lst (ea_cons ev_c (ea_cons (ev_var rfl) (ea_cons (ev_cb (ea_cons (ev_var rfl) (ea_cons (ev_call (ea_cons (ev_var rfl) (ea_cons ev_c (ea_cons ev_c ea_nil))) (cv_L_mix (by decide) (by decide))) ea_nil)) rc_min2) ea_nil))) (by show 3 ≤ 100000; decide)) (fun H6 e6 => ev_call (ea_cons (ev_var rfl) (ea_cons ev_c (ea_cons ev_c ea_nil))) (cv_L_mix (by decide) (by decide))) fun r H6 h6 e6 => rv_ixL (sq_of h6) hv
      refine kq ⟨nameBy k (cellAt ns 0), mix c 10009 100, .rdy (now - t)⟩ r H5 rfl ⟨hn, r0, by show mix c 10009 100 ≤ 99; omega, show 0 ≤ now - t ∧ now - t ≤ now by omega⟩ (e13.trans (e4.trans e5)) ?_
      rw [hr]
      show _ = some (HO.lst [V.str (nameBy k (cellAt ns 0)), V.str (SI (mix c 10009 100)), V.str "ready", V.str (SI (now - (now - t)))])
      rw [show now - (now - t) = t from by omega]
      rfl
    refine q_when (b := decide (mix c 10037 3 = 1)) (et_mix0 (ev_var rfl)) (fun hb H5 e5 => ?_) fun hb H5 e5 => ?_
    · have hm0 := mix_nonneg (c := c) (p := 10039) (m := 1000) (by decide)
      have hm1 := mix_lt (c := c) (p := 10039) (m := 1000) (by decide)
      obtain ⟨v, ⟨t, rfl, t0, t1⟩, hv⟩ := pick_any (xs := [.int 1, .int 1000, .int (1 + mix c 10039 1000)]) (i := mix c 10061 3) (P := fun v => ∃ t : Int, v = .int t ∧ 1 ≤ t ∧ t ≤ 1000) q0 (by simpa using q1) (fun x hx => by
        simp only [List.mem_cons, List.not_mem_nil, or_false] at hx
        rcases hx with rfl | rfl | rfl
        · exact ⟨1, rfl, by omega, by omega⟩
        · exact ⟨1000, rfl, by omega, by omega⟩
        · exact ⟨_, rfl, by omega, by omega⟩)
      refine s_retL (xs := [.str (nameBy k (cellAt ns 0)), .str (SI (mix c 10009 100))] ++ [.str "asleep", .str (SI t)]) (el_catW (ev_var rfl) ((e4.trans e5) _ _ hwd3) (el_lst (ea_cons ev_c (ea_cons (ev_cb (ea_cons ?g2 ea_nil) (rc_strI (by omega))) ea_nil)) (by show 2 ≤ 100000; decide)) (by show 4 ≤ 100000; decide)) fun r H6 nr e6 hr => ?_
      case g2 =>
        exact ev_opL1 (xs := [.int 1, .int 1000, .int (1 + mix c 10039 1000)]) (el_lst (ea_cons ev_c (ea_cons ev_c (ea_cons (ev_op ev_c (ev_call (ea_cons (ev_var rfl) (ea_cons ev_c (ea_cons ev_c ea_nil))) (cv_L_mix (by decide) (by decide))) rv_I0) ea_nil))) (by show 3 ≤ 100000; decide)) (fun H6 e6 => ev_call (ea_cons (ev_var rfl) (ea_cons ev_c (ea_cons ev_c ea_nil))) (cv_L_mix (by decide) (by decide))) fun r H6 h6 e6 => rv_ixL (sq_of h6) hv
      refine kq ⟨nameBy k (cellAt ns 0), mix c 10009 100, .slp (now + t)⟩ r H6 rfl ⟨hn, r0, by show mix c 10009 100 ≤ 99; omega, show now < now + t ∧ now + t ≤ now + 1000 by omega⟩ (e13.trans (e4.trans (e5.trans e6))) ?_
      rw [hr]
      show _ = some (HO.lst [V.str (nameBy k (cellAt ns 0)), V.str (SI (mix c 10009 100)), V.str "asleep", V.str (SI (now + t - now))])
      rw [show now + t - now = t from by omega]
      rfl
    · have m0 := mix_nonneg (c := c) (p := 10039) (m := 3) (by decide)
      have m1 := mix_lt (c := c) (p := 10039) (m := 3) (by decide)
      have hbn := nameBy_ok (k := mix c 10039 3) (c := cellAt ns 1) m0 (by omega)
      have hS5 := ex_l (e13.trans (e4.trans e5)) hS
      refine s_retL (xs := [.str (nameBy k (cellAt ns 0)), .str (SI (mix c 10009 100))] ++ [.str "waiting", .str (nameBy (mix c 10039 3) (cellAt ns 1))]) (el_catW (ev_var rfl) ((e4.trans e5) _ _ hwd3) (el_lst (ea_cons ev_c (ea_cons (ev_call (ea_cons (ev_call (ea_cons (ev_var rfl) (ea_cons ev_c (ea_cons ev_c ea_nil))) (cv_L_mix (by decide) (by decide))) (ea_cons (ev_call (ea_cons (ev_var rfl) (ea_cons ev_c ea_nil)) (cv_L_cell_at hS5 (by decide))) ea_nil)) (cv_L_name_by m0 (by omega))) ea_nil)) (by show 2 ≤ 100000; decide)) (by show 4 ≤ 100000; decide)) fun r H6 nr e6 hr => ?_
      refine kq ⟨nameBy k (cellAt ns 0), mix c 10009 100, .wtg (nameBy (mix c 10039 3) (cellAt ns 1))⟩ r H6 rfl ⟨hn, r0, by show mix c 10009 100 ≤ 99; omega, hbn⟩ (e13.trans (e4.trans (e5.trans e6))) ?_
      rw [hr]
      rfl
/-! ### need -/
theorem sc_need : FnScope ["good"] ["good"] (defScope s_need) := ⟨rfl, rfl, rfl, by decide +kernel, rfl, by decide +kernel, by decide +kernel⟩
def sp_need (K : PySem.W.Frag) : Sp := fun vs H Q E => ∃ (b : Bool), vs = [.bl b] ∧ (b = false → ∀ H', Ex H H' → E (.ref (He.ga K "NoDesk")) none H') ∧ (b = true → ∀ H', Ex H H' → Q .non H')
theorem ok_need {P : Program} {w : World} {K : PySem.W.Frag} {mg : Str → Option Value} {base : Heap} (T : Txt K mg) : ∃ fd, FnOk P w K mg base (L2N.CX P w) 1 (He.ga K "need") fd ["good"] (sp_need K) ∧ Binds K fd ["good"] [] ∧ FunD K "need" "need" (defArgs s_need) (defBody s_need) (defScope s_need) [] [] (He.ga K "need") fd := by
  obtain ⟨fd, F⟩ := f_need T
  refine ⟨fd, okXN F sc_need (fun vs H Q E h => ?_) (fun cdv A outer s H vs Q E hr h => ?_), FunD.bindsN F fun _ _ _ _ _ _ us hl => match us, hl with | [_], _ => rfl, F⟩
  · (repeat (obtain ⟨_, h⟩ := h)); subst_vars; rfl
  · obtain ⟨b, rfl, kE, k⟩ := h
    refine ⟨_, (pss_one (ps_if (pt_not (pt_val (pv 0))) (pss_one (L2N.ps_raise rfl (L2N.takes_of rfl rfl rfl rfl) (L2N.pmk_own PySem.F.excBase_ValueError (x_NoDesk T).1 (g_NoDesk T) (x_NoDesk T).2.1 (raises_own (x_NoDesk T).2.2.1 (x_NoDesk T).2.2.2) rfl)))
        pss_nil)), ?_⟩
    refine s_when (b := !b) ?h (fun hb H1 e1 => ?_) (fun hb H1 e1 => ?_)
    case h => exact et_not (et_B (ev_var rfl))
    · exact kE (by simpa using hb) H1 e1
    · exact k (by simpa using hb) H1 e1
/-! ### desk_init -/
theorem sc_desk_init : FnScope ["self", "pace", "room"] ["self", "pace", "room"] (defScope s_desk_init) := ⟨rfl, rfl, rfl, by decide +kernel, rfl, by decide +kernel, by decide +kernel⟩
def sp_desk_init (K : PySem.W.Frag) : Sp := fun vs H Q E => ∃ (x dx : Addr) (pa ro : Int), vs = [.ref x, .int pa, .int ro] ∧ H x = some (.ins (aD K) dx []) ∧
  ((1 ≤ pa ∧ pa ≤ 1000 ∧ 1 ≤ ro ∧ ro ≤ 60) → ∀ (H' : Hp) (l : Addr), DkAt K H' x ⟨pa, ro, 0, []⟩ l [] → H l = none → (∀ b o, H b = some o → b ≠ x → H' b = some o) → Q .non H') ∧
  (¬ (1 ≤ pa ∧ pa ≤ 1000 ∧ 1 ≤ ro ∧ ro ≤ 60) → ∀ H', Ex H H' → E (.ref (He.ga K "NoDesk")) none H')
theorem ok_desk_init {P : Program} {w : World} {K : PySem.W.Frag} {mg : Str → Option Value} {base : Heap} (T : Txt K mg) : ∃ fd, FnOk P w K mg base (L2N.CX P w) 1 (He.ma K (He.ga K "Desk") "__init__") fd ["self", "pace", "room"] (sp_desk_init K) ∧ Binds K fd ["self", "pace", "room"] [] ∧ FunD K "__init__" "Desk.__init__" (defArgs s_desk_init) (defBody s_desk_init) (defScope s_desk_init) [] [] (He.ma K (He.ga K "Desk") "__init__") fd := by
  obtain ⟨fd, F⟩ := f_desk_init T
  obtain ⟨t_MOST_PACE, hk_MOST_PACE⟩ := k_MOST_PACE T
  obtain ⟨t_MOST_ROOM, hk_MOST_ROOM⟩ := k_MOST_ROOM T
  refine ⟨fd, okXN F sc_desk_init (fun vs H Q E h => ?_) (fun cdv A outer s H vs Q E hr h => ?_), FunD.bindsN F fun _ _ _ _ _ _ us hl => match us, hl with | [_, _, _], _ => rfl, F⟩
  · (repeat (obtain ⟨_, h⟩ := h)); subst_vars; rfl
  · obtain ⟨x, dx, pa, ro, rfl, hx, k, kE⟩ := h
    refine ⟨_, (pss_cons (ps_if (PW.pt (pw_or (pt_cmpR op_lt (pv 1) pe_int (nomark _)) (pw_or (pt_cmpR op_gt (pv 1) (pe_glob (v := .int 1000) rfl hk_MOST_PACE ⟨_, rfl⟩) (nomark _)) (pw_or (pt_cmpR op_lt (pv 2) pe_int (nomark _)) (pw_or1 (pt_cmpR op_gt (pv 2) (pe_glob (v := .int 60) rfl hk_MOST_ROOM ⟨_, rfl⟩) (nomark _))))))) (pss_one (L2N.ps_raise rfl (L2N.takes_of rfl rfl rfl rfl) (L2N.pmk_own PySem.F.excBase_ValueError (x_NoDesk T).1 (g_NoDesk T) (x_NoDesk T).2.1 (raises_own (x_NoDesk T).2.2.1 (x_NoDesk T).2.2.2) rfl)))
        pss_nil)
        (pss_cons (ps_fld (pv 0) (pv 1) rfl)
        (pss_cons (ps_fld (pv 0) (pv 2) rfl)
        (pss_cons (ps_fld (pv 0) pe_int rfl)
        (pss_one (ps_fld (pv 0) (pe_lst pa_nil) rfl)))))), ?_⟩
    refine' q_when ?h (fun hb H1 e1 => ?_) (fun hb H1 e1 => ?_)
    case h => tm_at "rr.ev"
    · refine kE (fun ⟨h1, h2, h3, h4⟩ => ?_) H1 e1
      rw [decide_eq_false (by omega), decide_eq_false (by omega), decide_eq_false (by omega), decide_eq_false (by omega)] at hb
      exact absurd hb (by decide)
    · rw [Bool.or_eq_false_iff, Bool.or_eq_false_iff, Bool.or_eq_false_iff] at hb
      obtain ⟨h1, h2, h3, h4⟩ := hb
      have h1 := of_decide_eq_false h1
      have h2 := of_decide_eq_false h2
      have h3 := of_decide_eq_false h3
      have h4 := of_decide_eq_false h4
      have hx1 := e1 _ _ hx
      refine ⟨_, rfl, _, rfl, x, aD K, dx, _, rfl, hx1, c_Desk T, n_Desk_pace T, (by show 0 < 1000; decide), ?_⟩
      refine ⟨_, rfl, _, rfl, x, aD K, dx, _, rfl, upd_same, c_Desk T, n_Desk_room T, (by show 1 < 1000; decide), ?_⟩
      refine ⟨_, rfl, x, aD K, dx, _, rfl, upd_same, c_Desk T, n_Desk_now T, (by show 2 < 1000; decide), ?_⟩
      refine ⟨(by decide), fun l hl => ?_⟩
      rw [upd_upd, upd_upd] at hl ⊢
      have nlx : l ≠ x := fun e => by rw [e, upd_same] at hl; cases hl
      rw [upd_ne nlx] at hl
      refine ⟨_, rfl, x, aD K, dx, _, rfl, (by rw [upd_ne nlx.symm]; exact upd_same), c_Desk T, n_Desk_line T, (by show 3 < 1000; decide), ?_⟩
      refine k (by omega) _ l ⟨⟨dx, upd_same⟩, by rw [upd_ne nlx]; exact upd_same, rfl, fun q hq => by cases hq⟩ ?_ fun b o e hb => ?_
      · cases q : H l with
        | none => rfl
        | some o => rw [e1 _ _ q] at hl; cases hl
      · have e2 := e1 _ _ e
        rw [upd_ne hb, upd_ne (ne_of_none e2 hl), upd_ne hb]
        exact e2
/-! ### number_of -/
theorem sc_number_of : FnScope ["word", "sign"] ["word"] (defScope s_number_of) := ⟨rfl, rfl, rfl, by decide +kernel, rfl, by decide +kernel, by decide +kernel⟩
def sp_number_of (K : PySem.W.Frag) : Sp := fun vs H Q E => ∃ (w : Str), vs = [.str w] ∧ w.length ≤ 100000 ∧ (numOf w = none → ∀ H', Ex H H' → E (.ref (He.ga K "NoDesk")) none H') ∧ (∀ n, numOf w = some n → RetV (.int n) H Q)
theorem ok_number_of {P : Program} {w : World} {K : PySem.W.Frag} {mg : Str → Option Value} {base : Heap} (T : Txt K mg) : ∃ fd, FnOk P w K mg base (L2N.CX P w) 1 (He.ga K "number_of") fd ["word"] (sp_number_of K) ∧ Binds K fd ["word"] [] ∧ FunD K "number_of" "number_of" (defArgs s_number_of) (defBody s_number_of) (defScope s_number_of) [] [] (He.ga K "number_of") fd := by
  obtain ⟨fd, F⟩ := f_number_of T
  obtain ⟨t_FIGURES, hk_FIGURES⟩ := k_FIGURES T
  obtain ⟨t_MOST_FIGURES, hk_MOST_FIGURES⟩ := k_MOST_FIGURES T
  refine ⟨fd, okXN F sc_number_of (fun vs H Q E h => ?_) (fun cdv A outer s H vs Q E hr h => ?_), FunD.bindsN F fun _ _ _ _ _ _ us hl => match us, hl with | [_], _ => rfl, F⟩
  · (repeat (obtain ⟨_, h⟩ := h)); subst_vars; rfl
  · obtain ⟨w, rfl, hz, kE, k⟩ := h
    refine ⟨_, (pss_cons (ps_if (PW.pt (pw_or (pt_cmpR op_eq (pv 0) pe_str (nomark _)) (pw_or1 (pt_cmpR op_gt (pe_callB call_len_str rfl (b_len T) (by decide +kernel) (pa_cons (pv 0) pa_nil)) (pe_glob (v := .int 12) rfl hk_MOST_FIGURES ⟨_, rfl⟩) (nomark _))))) (pss_one (L2N.ps_raise rfl (L2N.takes_of rfl rfl rfl rfl) (L2N.pmk_own PySem.F.excBase_ValueError (x_NoDesk T).1 (g_NoDesk T) (x_NoDesk T).2.1 (raises_own (x_NoDesk T).2.2.1 (x_NoDesk T).2.2.2) rfl)))
        pss_nil)
        (pss_cons (ps_for (passes_of rfl) rfl (pi_str (pv 0)) (pg_name (i := 1) sc_number_of.nd rfl (Or.inl rfl))
        (pss_one (ps_if (pt_cmpR op_notIn_sign (pv 1) (pe_glob (v := .str "0123456789") rfl hk_FIGURES ⟨_, rfl⟩) (by with_unfolding_all rfl)) (pss_one (L2N.ps_raise rfl (L2N.takes_of rfl rfl rfl rfl) (L2N.pmk_own PySem.F.excBase_ValueError (x_NoDesk T).1 (g_NoDesk T) (x_NoDesk T).2.1 (raises_own (x_NoDesk T).2.2.1 (x_NoDesk T).2.2.2) rfl)))
        pss_nil)))
        (pss_cons (ps_if (PW.pt (pw_and (pt_cmpR op_eq (pe_ix ix_str (pv 0) pe_int (fun _ _ => rfl)) pe_str (nomark _)) (pw_and1 (pt_cmpR op_gt (pe_callB call_len_str rfl (b_len T) (by decide +kernel) (pa_cons (pv 0) pa_nil)) pe_int (nomark _))))) (pss_one (L2N.ps_raise rfl (L2N.takes_of rfl rfl rfl rfl) (L2N.pmk_own PySem.F.excBase_ValueError (x_NoDesk T).1 (g_NoDesk T) (x_NoDesk T).2.1 (raises_own (x_NoDesk T).2.2.1 (x_NoDesk T).2.2.2) rfl)))
        pss_nil)
        (pss_one (ps_ret (pe_callTy call_int_str rfl (b_int T) (by decide +kernel) (pa_cons (pv 0) pa_nil))))))), ?_⟩
    refine q_when (b := decide (w = "") || decide (12 < w.length)) ?h (fun hb H1 e1 => ?_) (fun hb H1 e1 => ?_)
    case h =>
      rw [← decV]
      exact et_or (et_test (ev_op (ev_var rfl) ev_c (rv_eq rfl))) fun _ => et_is (et_test (ev_op (ev_cb (ea_cons (ev_var rfl) ea_nil) (rc_len_str (sz_of hz))) ev_c rv_I0)) (decide_eq_decide.mpr (by omega))
    · exact kE (by unfold numOf isNum; rw [hb]; rfl) H1 e1
    have hw : w ≠ "" := by
      rw [Bool.or_eq_false_iff] at hb
      exact of_decide_eq_false hb.1
    have hl : w.length ≤ 12 := by
      rw [Bool.or_eq_false_iff] at hb
      have := of_decide_eq_false hb.2
      omega
    have h1 := len0 hw
    refine q_forS (K := K) (x := w) (ev_var rfl) (fun i σ' H' => Ex H1 H' ∧ (∃ v, σ' = [some (.str w), v]) ∧ (w.cps.toList.take i).all isFig = true) (fun H2 e2 => ⟨e2, ⟨none, rfl⟩, rfl⟩) ?_ ?_
    · rintro i c σ' H' hc ⟨e2, ⟨v, rfl⟩, hall⟩
      refine s_when (b := !isFig c) ?h (fun hb3 H3 e3 => ?_) (fun hb3 H3 e3 => ?_)
      case h => exact et_test (ev_op (ev_var rfl) ev_c rv_notInS)
      · have e9 : w.cps.toList.all isFig = false := by
          rw [List.all_eq_false]
          exact ⟨c, List.mem_of_getElem? hc, by simpa using hb3⟩
        exact kE (by unfold numOf isNum; rw [hb, e9]; rfl) H3 ((e1.trans e2).trans e3)
      · refine ⟨e2.trans e3, ⟨_, rfl⟩, ?_⟩
        rw [List.take_succ, hc, List.all_append, hall]
        simpa using hb3
    · rintro σ' H' ⟨e2, ⟨v, rfl⟩, hall⟩
      have e9 : w.cps.toList.take w.length = w.cps.toList := List.take_of_length_le (by rw [Array.length_toList]; exact Nat.le_refl _)
      rw [e9] at hall
      obtain ⟨c, r, hcr⟩ : ∃ c r, w.cps.toList = c :: r := by
        cases e : w.cps.toList with
        | nil => rw [TL.len_tl, show TL.tl w = w.cps.toList from rfl, e] at h1; simp at h1
        | cons c r => exact ⟨c, r, rfl⟩
      have hz0 : zeroLead w = (decide (c = 48) && decide (1 < w.length)) := by
        unfold zeroLead
        rw [hcr]
        simp
      refine q_when (b := zeroLead w) ?h (fun hb3 H3 e3 => ?_) (fun hb3 H3 e3 => ?_)
      case h =>
        rw [hz0, ← dec0]
        exact et_and (et_test (ev_op (ev_op (ev_var rfl) ev_c (rv_ixS hz (by rw [hcr]; exact at0 c r))) ev_c (rv_eq rfl))) fun _ => et_is (et_test (ev_op (ev_cb (ea_cons (ev_var rfl) ea_nil) (rc_len_str (sz_of hz))) ev_c rv_I0)) (decide_eq_decide.mpr (by omega))
      · exact kE (by unfold numOf isNum; rw [hb, hall, hb3]; rfl) H3 ((e1.trans e2).trans e3)
      · have hn : numOf w = some ((NumText.digitsVal w.cps.toList : Nat) : Int) := by unfold numOf isNum; rw [hb, hall, hb3]; rfl
        refine s_ret (ev_cb (ea_cons (ev_var rfl) ea_nil) (rc_intS ?_ (by omega))) fun H4 e4 => k _ hn H4 (((e1.trans e2).trans e3).trans e4)
        have := SX.int_S (a := w.cps.toList) (List.all_eq_true.mpr fun c hc => by
          have := isFig_iff.mp (List.all_eq_true.mp hall c hc)
          rw [Bool.and_eq_true, decide_eq_true_eq, decide_eq_true_eq]
          exact this) (by rw [hcr]; simp) (by rw [Array.length_toList]; show w.length ≤ 4300; omega)
        rw [SX.S_tl] at this
        exact this
/-! ### desk_names -/
theorem sc_desk_names : FnScope ["self", "caller"] ["self"] (defScope s_desk_names) := ⟨rfl, rfl, rfl, by decide +kernel, rfl, by decide +kernel, by decide +kernel⟩
def sp_desk_names (K : PySem.W.Frag) : Sp := fun vs H Q _ => ∃ (p : Addr) (d : Dk) (l : Addr) (ps : List Pr), vs = [.ref p] ∧ DkAt K H p d l ps ∧ d.line.length ≤ 1000 ∧ RetL (d.line.map fun c => V.str c.nm) H Q
theorem cv_names {K : PySem.W.Frag} {H : Hp} {p l : Addr} {d : Dk} {ps : List Pr} (h : DkAt K H p d l ps) (hz : d.line.length ≤ 1000) : SpL (sp_desk_names K) (.ref p :: ([] ++ [])) H (d.line.map fun c => V.str c.nm) := spl_call fun _ e _ _ k => ⟨p, d, l, ps, rfl, h.ex e, hz, k⟩
theorem ok_desk_names {P : Program} {w : World} {K : PySem.W.Frag} {mg : Str → Option Value} {base : Heap} (T : Txt K mg) : ∃ fd, FnOk P w K mg base (CX0) 1 (He.ma K (He.ga K "Desk") "names") fd ["self"] (sp_desk_names K) ∧ Binds K fd ["self"] [] ∧ FunD K "names" "Desk.names" (defArgs s_desk_names) (defBody s_desk_names) (defScope s_desk_names) [] [] (He.ma K (He.ga K "Desk") "names") fd := by
  obtain ⟨fd, F⟩ := f_desk_names T
  refine ⟨fd, ok0 F sc_desk_names (fun vs H Q E h => ?_) (fun cdv A outer s H vs Q E hr h => ?_), FunD.bindsN F fun _ _ _ _ _ _ us hl => match us, hl with | [_], _ => rfl, F⟩
  · (repeat (obtain ⟨_, h⟩ := h)); subst_vars; rfl
  · obtain ⟨p, d, l, ps, rfl, D, hz, k⟩ := h
    refine ⟨_, (pss_one (ps_ret (pe_lc (own := [("caller", 1)]) (g := gName 1) (tt := tYes) rfl sc_desk_names.nd (pi_listK (K := K) rfl (pe_fldK (K := K) rfl (pv 0) rfl)) (blkOk_by (own := [("caller", 1)]) (N := ["self", "caller"]) (sc := defScope s_desk_names) (by decide +kernel)) (fun _ _ _ _ _ => (pg_name (i := 1) sc_desk_names.nd rfl (Or.inl rfl))) (fun _ _ _ _ _ => pts_nil) (fun _ _ _ _ _ => (pe_fldK (K := K) rfl (pv 1) rfl))))), ?_⟩
    have e1 : (ps.filter fun _ => true).map (fun q => V.str q.2.nm) = d.line.map fun c => V.str c.nm := by
      rw [filter_true, D.eq, List.map_map]
      rfl
    rw [← e1] at k
    exact s_retL (el_lcM (K := K) (ps := ps) (uu := fun q => V.ref q.1) (fun _ => true) (fun q => V.str q.2.nm) (ev_line T (ev_var rfl) D) (sq_of D.ln) (by rw [D.len]; omega) (fun _ => rfl) (fun _ _ _ _ => et_yes) fun q hq H1 e1 _ => ev_label T (ev_var rfl) ((D.at_ q hq).ex e1)) k
/-! ### is_name -/
theorem sc_is_name : FnScope ["text", "sign"] ["text"] (defScope s_is_name) := ⟨rfl, rfl, rfl, by decide +kernel, rfl, by decide +kernel, by decide +kernel⟩
def sp_is_name (_ : PySem.W.Frag) : Sp := fun vs H Q _ => ∃ (s : Str), vs = [.str s] ∧ s.length ≤ 100000 ∧ RetV (.bl (isName s)) H Q
theorem cv_is_name {K : PySem.W.Frag} {H : Hp} {s : Str} (h : s.length ≤ 100000) : SpV (sp_is_name K) ([.str s] ++ []) H (.bl (isName s)) := spv_call fun _ _ _ _ k => ⟨s, rfl, h, k⟩
local macro_rules | `(tactic| tm_at "rr.cv") => `(tactic| refine' cv_is_name ?_)
theorem ok_is_name {P : Program} {w : World} {K : PySem.W.Frag} {mg : Str → Option Value} {base : Heap} (T : Txt K mg) : ∃ fd, FnOk P w K mg base (CX0) 1 (He.ga K "is_name") fd ["text"] (sp_is_name K) ∧ Binds K fd ["text"] [] ∧ FunD K "is_name" "is_name" (defArgs s_is_name) (defBody s_is_name) (defScope s_is_name) [] [] (He.ga K "is_name") fd := by
  obtain ⟨fd, F⟩ := f_is_name T
  obtain ⟨t_SIGNS, hk_SIGNS⟩ := k_SIGNS T
  obtain ⟨t_MOST, hk_MOST⟩ := k_MOST T
  refine ⟨fd, ok0 F sc_is_name (fun vs H Q E h => ?_) (fun cdv A outer s H vs Q E hr h => ?_), FunD.bindsN F fun _ _ _ _ _ _ us hl => match us, hl with | [_], _ => rfl, F⟩
  · (repeat (obtain ⟨_, h⟩ := h)); subst_vars; rfl
  · obtain ⟨s, rfl, hz, k⟩ := h
    refine ⟨_, (pss_cons (ps_if (PW.pt (pw_or (pt_cmpR op_lt (pe_callB call_len_str rfl (b_len T) (by decide +kernel) (pa_cons (pv 0) pa_nil)) pe_int (nomark _)) (pw_or1 (pt_cmpR op_gt (pe_callB call_len_str rfl (b_len T) (by decide +kernel) (pa_cons (pv 0) pa_nil)) (pe_glob (v := .int 12) rfl hk_MOST ⟨_, rfl⟩) (nomark _))))) (pss_one (ps_ret pe_bl))
        pss_nil)
        (pss_cons (ps_for PassesOwn.never rfl (pi_str (pv 0)) (pg_name (i := 1) sc_is_name.nd rfl (Or.inl rfl))
        (pss_one (ps_if (pt_cmpR op_notIn_sign (pv 1) (pe_glob (v := .str "abcdefghijklmnopqrstuvwxyz0123456789") rfl hk_SIGNS ⟨_, rfl⟩) (by with_unfolding_all rfl)) (pss_one (ps_ret pe_bl))
        pss_nil)))
        (pss_one (ps_ret pe_bl)))), ?_⟩
    refine q_when (b := decide ((s.length : Int) < 1) || decide (12 < (s.length : Int))) ?h (fun hb H1 e1 => ?_) (fun hb H1 e1 => ?_)
    case h => exact et_or (et_test (ev_op (ev_cb (ea_cons (ev_var rfl) ea_nil) (rc_len_str (sz_of hz))) ev_c rv_I0)) fun _ => et_test (ev_op (ev_cb (ea_cons (ev_var rfl) ea_nil) (rc_len_str (sz_of hz))) ev_c rv_I0)
    · have e : isName s = false := by
        unfold isName
        rw [Bool.or_eq_true] at hb
        rcases hb with hb | hb
        · rw [decide_eq_false (by have := of_decide_eq_true hb; omega)]
          rfl
        · rw [decide_eq_false (p := s.length ≤ 12) (by have := of_decide_eq_true hb; omega), Bool.and_false]
          rfl
      rw [e] at k
      exact s_ret ev_c fun H2 e2 => k H2 (e1.trans e2)
    · rw [Bool.or_eq_false_iff] at hb
      have l1 := of_decide_eq_false hb.1
      have l2 := of_decide_eq_false hb.2
      have e : isName s = s.cps.toList.all isSign := by
        unfold isName
        rw [decide_eq_true (by omega), decide_eq_true (by omega)]
        rfl
      rw [e] at k
      refine q_forS (K := K) (x := s) (ev_var rfl) (fun i σ' H' => Ex H1 H' ∧ (∃ v, σ' = [some (.str s), v]) ∧ (s.cps.toList.take i).all isSign = true) (fun H2 e2 => ⟨e2, ⟨none, rfl⟩, rfl⟩) ?_ ?_
      · rintro i c σ' H' hc ⟨e2, ⟨v, rfl⟩, hall⟩
        refine s_when (b := !isSign c) ?h (fun hb H3 e3 => ?_) (fun hb H3 e3 => ?_)
        case h => exact et_test (ev_op (ev_var rfl) ev_c rv_notInS)
        · have e9 : s.cps.toList.all isSign = false := by
            rw [List.all_eq_false]
            exact ⟨c, List.mem_of_getElem? hc, by simpa using hb⟩
          rw [e9] at k
          exact s_ret ev_c fun H4 e4 => k H4 (((e1.trans e2).trans e3).trans e4)
        · refine ⟨e2.trans e3, ⟨_, rfl⟩, ?_⟩
          rw [List.take_succ, hc, List.all_append, hall]
          simpa using hb
      · rintro σ' H' ⟨e2, ⟨v, rfl⟩, hall⟩
        have e9 : s.cps.toList.take s.length = s.cps.toList := List.take_of_length_le (by rw [Array.length_toList]; exact Nat.le_refl _)
        rw [e9] at hall
        rw [hall] at k
        exact s_ret ev_c fun H4 e4 => k H4 ((e1.trans e2).trans e4)
/-! ### caller_init -/
theorem sc_caller_init : FnScope ["self", "label", "grade", "stand", "mark"] ["self", "label", "grade", "stand", "mark"] (defScope s_caller_init) := ⟨rfl, rfl, rfl, by decide +kernel, rfl, by decide +kernel, by decide +kernel⟩
def sp_caller_init (K : PySem.W.Frag) : Sp := fun vs H Q _ => ∃ (x dx : Addr) (a g s m : V), vs = [.ref x, a, g, s, m] ∧ H x = some (.ins (aC K) dx []) ∧ ∀ H' : Hp, H' x = some (.ins (aC K) dx (rfs a g s m)) → (∀ b o, H b = some o → b ≠ x → H' b = some o) → Q .non H'
theorem ok_caller_init {P : Program} {w : World} {K : PySem.W.Frag} {mg : Str → Option Value} {base : Heap} (T : Txt K mg) : ∃ fd, FnOk P w K mg base (CX0) 1 (He.ma K (He.ga K "Caller") "__init__") fd ["self", "label", "grade", "stand", "mark"] (sp_caller_init K) ∧ Binds K fd ["self", "label", "grade", "stand", "mark"] [] ∧ FunD K "__init__" "Caller.__init__" (defArgs s_caller_init) (defBody s_caller_init) (defScope s_caller_init) [] [] (He.ma K (He.ga K "Caller") "__init__") fd := by
  obtain ⟨fd, F⟩ := f_caller_init T
  refine ⟨fd, ok0 F sc_caller_init (fun vs H Q E h => ?_) (fun cdv A outer s H vs Q E hr h => ?_), FunD.bindsN F fun _ _ _ _ _ _ us hl => match us, hl with | [_, _, _, _, _], _ => rfl, F⟩
  · (repeat (obtain ⟨_, h⟩ := h)); subst_vars; rfl
  · obtain ⟨x, dx, a, g, s, m, rfl, hx, k⟩ := h
    refine ⟨_, (pss_cons (ps_fld (pv 0) (pv 1) rfl)
        (pss_cons (ps_fld (pv 0) (pv 2) rfl)
        (pss_cons (ps_fld (pv 0) (pv 3) rfl)
        (pss_one (ps_fld (pv 0) (pv 4) rfl))))), ?_⟩
    refine ⟨_, rfl, _, rfl, x, aC K, dx, _, rfl, hx, c_Caller T, n_Caller_label T, (by show 0 < 1000; decide), ?_⟩
    refine ⟨_, rfl, _, rfl, x, aC K, dx, _, rfl, upd_same, c_Caller T, n_Caller_grade T, (by show 1 < 1000; decide), ?_⟩
    refine ⟨_, rfl, _, rfl, x, aC K, dx, _, rfl, upd_same, c_Caller T, n_Caller_stand T, (by show 2 < 1000; decide), ?_⟩
    refine ⟨_, rfl, _, rfl, x, aC K, dx, _, rfl, upd_same, c_Caller T, n_Caller_mark T, (by show 3 < 1000; decide), ?_⟩
    rw [upd_upd, upd_upd, upd_upd]
    exact k _ upd_same fun b o e hb => by rw [upd_ne hb]; exact e
/-! ### caller_of -/
theorem sc_caller_of : FnScope ["desk", "words", "rank", "turns"] ["desk", "words"] (defScope s_caller_of) := ⟨rfl, rfl, rfl, by decide +kernel, rfl, by decide +kernel, by decide +kernel⟩
/-- a new caller comes -/
def EvC (K : PySem.W.Frag) (te : TE) (σ : L2.St) (H : Hp) (c : Cl) : Prop := ∀ H1, Ex H H1 → ∀ Q : VK, (∀ x H2, H1 x = none → Ex H1 H2 → CAt K H2 x c → Q (.ref x) H2) → te σ H1 Q
theorem ec_make {K : PySem.W.Frag} {σ : L2.St} {H : Hp} {ta : TA} {E : XK} {c : Cl} (h : EvA ta σ H [.str c.nm, .int c.rk, .str c.md.st, c.md.mark]) : EvC K (tMake (aC K) (sp_caller_init K) [] E ta) σ H c := fun H1 e Q q => h H1 e _ fun H2 e2 => fun x dx nx ndx nex =>
  ⟨x, dx, _, _, _, _, rfl, upd_same, fun H3 h3 k3 => ⟨rfl, q x H3 (fresh_back e2 nx) (fun b o hb => k3 b o (by rw [upd_ne (ne_of_none (e2 _ _ hb) nx), upd_ne (ne_of_none (e2 _ _ hb) ndx)]; exact e2 _ _ hb) (ne_of_none (e2 _ _ hb) nx)) ⟨dx, h3⟩⟩⟩
theorem s_retK {K : PySem.W.Frag} {σ : L2.St} {H : Hp} {te : TE} {D : Ends} {c : Cl} (h : EvC K te σ H c) (k : ∀ x H1, H x = none → Ex H H1 → CAt K H1 x c → D.rt (.ref x) H1) : tRet te D σ H := h H (Ex.refl H) _ k
theorem at4 {a b c d : Str} : atI ([a, b, c, d].map V.str) 0 = some (.str a) ∧ atI ([a, b, c, d].map V.str) 1 = some (.str b) ∧ atI ([a, b, c, d].map V.str) 2 = some (.str c) ∧ atI ([a, b, c, d].map V.str) 3 = some (.str d) := ⟨rfl, rfl, rfl, rfl⟩
def sp_caller_of (K : PySem.W.Frag) : Sp := fun vs H Q E => ∃ (p a : Addr) (d : Dk) (l : Addr) (ps : List Pr) (ws : List Str), vs = [.ref p, .ref a] ∧ DkAt K H p d l ps ∧ d.line.length ≤ 1000 ∧ SqL K H a (ws.map V.str) ∧ (∀ w ∈ ws, w.length ≤ 100000) ∧
  (callerOf d ws = none → ∀ H', Ex H H' → E (.ref (He.ga K "NoDesk")) none H') ∧ ∀ c, callerOf d ws = some c → ∀ x H', H x = none → Ex H H' → CAt K H' x c → Q (.ref x) H'
theorem ok_caller_of {P : Program} {w : World} {K : PySem.W.Frag} {mg : Str → Option Value} {base : Heap} (T : Txt K mg) : ∃ fd, FnOk P w K mg base (L2N.CX P w) 3 (He.ga K "caller_of") fd ["desk", "words"] (sp_caller_of K) ∧ Binds K fd ["desk", "words"] [] ∧ FunD K "caller_of" "caller_of" (defArgs s_caller_of) (defBody s_caller_of) (defScope s_caller_of) [] [] (He.ga K "caller_of") fd := by
  obtain ⟨fd, F⟩ := f_caller_of T
  obtain ⟨d_need, G_need, b_need, _⟩ := ok_need (P := P) (w := w) (base := base) T
  obtain ⟨d_desk_names, G_desk_names, b_desk_names, _⟩ := ok_desk_names (P := P) (w := w) (base := base) T
  obtain ⟨d_is_name, G_is_name, b_is_name, _⟩ := ok_is_name (P := P) (w := w) (base := base) T
  obtain ⟨d_number_of, G_number_of, b_number_of, _⟩ := ok_number_of (P := P) (w := w) (base := base) T
  obtain ⟨d_caller_init, G_caller_init, b_caller_init, _⟩ := ok_caller_init (P := P) (w := w) (base := base) T
  obtain ⟨t_TOP, hk_TOP⟩ := k_TOP T
  obtain ⟨t_MOST_TURNS, hk_MOST_TURNS⟩ := k_MOST_TURNS T
  refine ⟨fd, okXN F sc_caller_of (fun vs H Q E h => ?_) (fun cdv A outer s H vs Q E hr h => ?_), FunD.bindsN F fun _ _ _ _ _ _ us hl => match us, hl with | [_, _], _ => rfl, F⟩
  · (repeat (obtain ⟨_, h⟩ := h)); subst_vars; rfl
  · obtain ⟨p, a, d, l, ps, ws, rfl, D, hlen, hS, hz, kE, k⟩ := h
    refine ⟨_, (pss_cons (ps_expr (pe_call G_need (hr.mono (by decide)) rfl (g_need T) (kp_need T) b_need .nil (L2N.passes_call (L2N.takes_of rfl rfl rfl rfl) (fun _ _ _ _ h => h)) (pa_cons (pe_and (pe_cmpR op_eq (pe_callB (call_lenK (K := K) rfl) rfl (b_len T) (by decide +kernel) (pa_cons (pv 1) pa_nil)) pe_int (nomark _)) (pe_and (pe_call G_is_name (hr.mono (by decide)) rfl (g_is_name T) (kp_is_name T) b_is_name .nil pass0 (pa_cons (pe_ix (ix_listK (K := K) rfl) (pv 1) pe_int (fun _ _ => rfl)) pa_nil)) (pe_one (pe_cmpR (op_notInK (K := K) rfl) (pe_ix (ix_listK (K := K) rfl) (pv 1) pe_int (fun _ _ => rfl)) (pe_meth0 (pv 0) (c_Desk T) (m_desk_names T) G_desk_names (hr.mono (by decide)) b_desk_names .nil pass0) (by with_unfolding_all rfl))))) pa_nil)))
        (pss_cons (ps_set (i := 2) sc_caller_of.nd rfl (Or.inl rfl) (pe_call G_number_of (hr.mono (by decide)) rfl (g_number_of T) (kp_number_of T) b_number_of .nil (L2N.passes_call (L2N.takes_of rfl rfl rfl rfl) (fun _ _ _ _ h => h)) (pa_cons (pe_ix (ix_listK (K := K) rfl) (pv 1) pe_int (fun _ _ => rfl)) pa_nil)))
        (pss_cons (ps_expr (pe_call G_need (hr.mono (by decide)) rfl (g_need T) (kp_need T) b_need .nil (L2N.passes_call (L2N.takes_of rfl rfl rfl rfl) (fun _ _ _ _ h => h)) (pa_cons (pe_and (pe_cmpR op_le (pv 2) (pe_glob (v := .int 99) rfl hk_TOP ⟨_, rfl⟩) (nomark _)) (pe_one (pe_cmpR op_lt (pe_callB (call_lenK (K := K) rfl) rfl (b_len T) (by decide +kernel) (pa_cons (pe_fldK (K := K) rfl (pv 0) rfl) pa_nil)) (pe_fldK (K := K) rfl (pv 0) rfl) (nomark _)))) pa_nil)))
        (pss_cons (ps_if (pt_cmpR op_eq (pe_ix (ix_listK (K := K) rfl) (pv 1) pe_int (fun _ _ => rfl)) pe_str (nomark _)) (pss_cons (ps_expr (pe_call G_need (hr.mono (by decide)) rfl (g_need T) (kp_need T) b_need .nil (L2N.passes_call (L2N.takes_of rfl rfl rfl rfl) (fun _ _ _ _ h => h)) (pa_cons (pe_call G_is_name (hr.mono (by decide)) rfl (g_is_name T) (kp_is_name T) b_is_name .nil pass0 (pa_cons (pe_ix (ix_listK (K := K) rfl) (pv 1) pe_int (fun _ _ => rfl)) pa_nil)) pa_nil)))
        (pss_one (ps_ret (pe_make (mk_Caller T) G_caller_init (hr.mono (by decide)) rfl (g_Caller T) b_caller_init .nil pass0 (pa_cons (pe_ix (ix_listK (K := K) rfl) (pv 1) pe_int (fun _ _ => rfl)) (pa_cons (pv 2) (pa_cons pe_str (pa_cons (pe_ix (ix_listK (K := K) rfl) (pv 1) pe_int (fun _ _ => rfl)) pa_nil))))))))
        pss_nil)
        (pss_cons (ps_set (i := 3) sc_caller_of.nd rfl (Or.inl rfl) (pe_call G_number_of (hr.mono (by decide)) rfl (g_number_of T) (kp_number_of T) b_number_of .nil (L2N.passes_call (L2N.takes_of rfl rfl rfl rfl) (fun _ _ _ _ h => h)) (pa_cons (pe_ix (ix_listK (K := K) rfl) (pv 1) pe_int (fun _ _ => rfl)) pa_nil)))
        (pss_cons (ps_if (pt_cmpR op_eq (pe_ix (ix_listK (K := K) rfl) (pv 1) pe_int (fun _ _ => rfl)) pe_str (nomark _)) (pss_cons (ps_expr (pe_call G_need (hr.mono (by decide)) rfl (g_need T) (kp_need T) b_need .nil (L2N.passes_call (L2N.takes_of rfl rfl rfl rfl) (fun _ _ _ _ h => h)) (pa_cons (pe_cmpR op_le (pv 3) (pe_fldK (K := K) rfl (pv 0) rfl) (nomark _)) pa_nil)))
        (pss_one (ps_ret (pe_make (mk_Caller T) G_caller_init (hr.mono (by decide)) rfl (g_Caller T) b_caller_init .nil pass0 (pa_cons (pe_ix (ix_listK (K := K) rfl) (pv 1) pe_int (fun _ _ => rfl)) (pa_cons (pv 2) (pa_cons pe_str (pa_cons (pe_op op_sub (pe_fldK (K := K) rfl (pv 0) rfl) (pv 3)) pa_nil))))))))
        pss_nil)
        (pss_cons (ps_expr (pe_call G_need (hr.mono (by decide)) rfl (g_need T) (kp_need T) b_need .nil (L2N.passes_call (L2N.takes_of rfl rfl rfl rfl) (fun _ _ _ _ h => h)) (pa_cons (pe_and (pe_cmpR op_eq (pe_ix (ix_listK (K := K) rfl) (pv 1) pe_int (fun _ _ => rfl)) pe_str (nomark _)) (pe_and (pe_cmpR op_le pe_int (pv 3) (nomark _)) (pe_one (pe_cmpR op_le (pv 3) (pe_glob (v := .int 1000) rfl hk_MOST_TURNS ⟨_, rfl⟩) (nomark _))))) pa_nil)))
        (pss_one (ps_ret (pe_make (mk_Caller T) G_caller_init (hr.mono (by decide)) rfl (g_Caller T) b_caller_init .nil pass0 (pa_cons (pe_ix (ix_listK (K := K) rfl) (pv 1) pe_int (fun _ _ => rfl)) (pa_cons (pv 2) (pa_cons pe_str (pa_cons (pe_op op_add (pe_fldK (K := K) rfl (pv 0) rfl) (pv 3)) pa_nil)))))))))))))), ?_⟩
    obtain ⟨dx, hp⟩ := D.ob
    by_cases h4 : ws.length = 4
    case neg =>
      refine q_dcall (vs := [.bl false]) ?h fun H1 e1 => ⟨false, rfl, fun _ H2 e2 => kE ?hn H2 (e1.trans e2), fun h => by cases h⟩
      case hn =>
        unfold callerOf
        split
        · exact absurd rfl h4
        · rfl
      case h =>
        refine ea_cons ?_ ea_nil
        refine ev_is (ev_andV (a := false) (b := false) (ev_is (ev_op (ev_cb (ea_cons (ev_var rfl) ea_nil) (rc_lenS hS)) ev_c (rv_eq rfl)) ?_) (fun h => by cases h)) rfl
        refine congrArg V.bl (decide_eq_false fun h => h4 ?_)
        rw [List.length_map] at h
        injection h with h
        omega
    obtain ⟨nm, r, st, m, rfl⟩ : ∃ a b c d, ws = [a, b, c, d] := by
      match ws, h4 with
      | [a, b, c, d], _ => exact ⟨a, b, c, d, rfl⟩
    have a0 : atI ([nm, r, st, m].map V.str) 0 = some (.str nm) := at4.1
    have a1 : atI ([nm, r, st, m].map V.str) 1 = some (.str r) := at4.2.1
    have a2 : atI ([nm, r, st, m].map V.str) 2 = some (.str st) := at4.2.2.1
    have a3 : atI ([nm, r, st, m].map V.str) 3 = some (.str m) := at4.2.2.2
    have z0 := hz nm (by simp)
    have z1 := hz r (by simp)
    have z3 := hz m (by simp)
    unfold callerOf at kE k
    dsimp only at kE k
    refine q_dcall (vs := [.bl (isName nm && !decide (nm ∈ d.line.map (·.nm)))]) ?h fun H1 e1 => ⟨_, rfl, fun hb H2 e2 => kE (if_pos hb) H2 (e1.trans e2), fun hb H2 e2 => ?_⟩
    case h =>
      refine ea_cons ?_ ea_nil
      refine ev_is (ev_andV (a := true) (b := isName nm && !decide (nm ∈ d.line.map (·.nm))) (ev_is (ev_op (ev_cb (ea_cons (ev_var rfl) ea_nil) (rc_lenS hS)) ev_c (rv_eq rfl)) (congrArg V.bl (decide_eq_true rfl))) (fun _ => ?_)) rfl
      refine ev_andV (ev_call (ea_cons (ev_op (ev_var rfl) ev_c (rv_ixL hS a0)) ea_nil) (cv_is_name z0)) fun _ => ?_
      rw [← inV_names]
      exact ev_opL (ev_op (ev_var rfl) ev_c (rv_ixL hS a0)) (el_meth (ev_var rfl) hp rfl ea_nil (cv_names D hlen)) fun q H1 h e => rv_niL (sq_of h) rfl (flat_names _)
    have nb : ¬ (isName nm && !decide (nm ∈ d.line.map (·.nm))) = false := by rw [hb]; decide
    rw [if_neg nb] at kE k
    have e12 := e1.trans e2
    clear e1 e2 hb nb
    refine q_call (vs := [.str r]) (ea_cons (ev_op (ev_var rfl) ev_c (rv_ixL (ex_l e12 hS) a1)) ea_nil) fun H3 e3 => ⟨r, rfl, z1, fun hn H4 e4 => kE (by rw [hn]) H4 ((e12.trans e3).trans e4), fun rk hn H4 e4 => ?_⟩
    rw [hn] at kE k
    dsimp only at kE k
    have e14 := (e12.trans e3).trans e4
    clear e12 e3 e4 hn
    have D4 := D.ex e14
    have hln := D.len
    have hll : ((ps.map fun q => V.ref q.1).length : Int) = (d.line.length : Int) := by rw [List.length_map]; omega
    refine q_dcall (vs := [.bl (decide (rk ≤ 99) && decide ((d.line.length : Int) < d.room))]) ?h fun H5 e5 => ⟨_, rfl, fun hb H6 e6 => kE (if_pos hb) H6 ((e14.trans e5).trans e6), fun hb H6 e6 => ?_⟩
    case h =>
      refine ea_cons ?_ ea_nil
      refine ev_andV (ev_op (ev_var rfl) ev_c rv_I0) fun _ => ?_
      rw [← hll]
      exact ev_op (ev_cb (ea_cons (ev_line T (ev_var rfl) D4) ea_nil) (rc_lenS (sq_of D4.ln))) (ev_room T (ev_var rfl) D4) rv_I0
    have nb : ¬ (decide (rk ≤ 99) && decide ((d.line.length : Int) < d.room)) = false := by rw [hb]; decide
    rw [if_neg nb] at kE k
    have e16 := (e14.trans e5).trans e6
    clear e5 e6 hb nb D4 e14
    refine q_when (b := decide (st = "waiting")) ?h (fun hb H7 e7 => ?_) (fun hb H7 e7 => ?_)
    case h =>
      rw [← decV]
      exact et_test (ev_op (ev_op (ev_var rfl) ev_c (rv_ixL (ex_l e16 hS) a2)) ev_c (rv_eq rfl))
    · rw [if_pos (of_decide_eq_true hb)] at kE k
      have e17 := e16.trans e7
      refine q_dcall (vs := [.bl (isName m)]) (ea_cons (ev_call (ea_cons (ev_op (ev_var rfl) ev_c (rv_ixL (ex_l e17 hS) a3)) ea_nil) (cv_is_name z3)) ea_nil) fun H8 e8 => ⟨_, rfl, fun hb H9 e9 => kE (if_pos hb) H9 ((e17.trans e8).trans e9), fun hb H9 e9 => ?_⟩
      have nb : ¬ isName m = false := by rw [hb]; decide
      rw [if_neg nb] at k
      have e19 := (e17.trans e8).trans e9
      exact s_retK (ec_make (c := ⟨nm, rk, .wtg m⟩) (ea_cons (ev_op (ev_var rfl) ev_c (rv_ixL (ex_l e19 hS) a0)) (ea_cons (ev_var rfl) (ea_cons ev_c (ea_cons (ev_op (ev_var rfl) ev_c (rv_ixL (ex_l e19 hS) a3)) ea_nil))))) fun x H' nx e C => k _ rfl x H' (fresh_back e19 nx) (e19.trans e) C
    rw [if_neg (of_decide_eq_false hb)] at kE k
    have e17 := e16.trans e7
    clear e16 e7 hb
    refine q_call (vs := [.str m]) (ea_cons (ev_op (ev_var rfl) ev_c (rv_ixL (ex_l e17 hS) a3)) ea_nil) fun H8 e8 => ⟨m, rfl, z3, fun hn H9 e9 => kE (by rw [hn]) H9 ((e17.trans e8).trans e9), fun t hn H9 e9 => ?_⟩
    rw [hn] at kE k
    dsimp only at kE k
    have e19 := (e17.trans e8).trans e9
    clear e17 e8 e9 hn
    refine q_when (b := decide (st = "ready")) ?h (fun hb H10 e10 => ?_) (fun hb H10 e10 => ?_)
    case h =>
      rw [← decV]
      exact et_test (ev_op (ev_op (ev_var rfl) ev_c (rv_ixL (ex_l e19 hS) a2)) ev_c (rv_eq rfl))
    · rw [if_pos (of_decide_eq_true hb)] at kE k
      have e20 := e19.trans e10
      refine q_dcall (vs := [.bl (decide (t ≤ d.now))]) (ea_cons (ev_op (ev_var rfl) (ev_now T (ev_var rfl) (D.ex e20)) rv_I0) ea_nil) fun H11 e11 => ⟨_, rfl, fun hb H12 e12 => kE (if_neg (of_decide_eq_false hb)) H12 ((e20.trans e11).trans e12), fun hb H12 e12 => ?_⟩
      rw [if_pos (of_decide_eq_true hb)] at k
      have e22 := (e20.trans e11).trans e12
      exact s_retK (ec_make (c := ⟨nm, rk, .rdy (d.now - t)⟩) (ea_cons (ev_op (ev_var rfl) ev_c (rv_ixL (ex_l e22 hS) a0)) (ea_cons (ev_var rfl) (ea_cons ev_c (ea_cons (ev_op (ev_now T (ev_var rfl) (D.ex e22)) (ev_var rfl) rv_I0) ea_nil))))) fun x H' nx e C => k _ rfl x H' (fresh_back e22 nx) (e22.trans e) C
    rw [if_neg (of_decide_eq_false hb)] at kE k
    have e20 := e19.trans e10
    clear e19 e10 hb
    refine q_dcall (vs := [.bl (decide (st = "asleep") && (decide (1 ≤ t) && decide (t ≤ 1000)))]) ?h fun H11 e11 => ⟨_, rfl, fun hb H12 e12 => kE (if_pos hb) H12 ((e20.trans e11).trans e12), fun hb H12 e12 => ?_⟩
    case h =>
      rw [← decV]
      exact ea_cons (ev_andV (ev_op (ev_op (ev_var rfl) ev_c (rv_ixL (ex_l e20 hS) a2)) ev_c (rv_eq rfl)) fun _ => ev_andV (ev_op ev_c (ev_var rfl) rv_I0) fun _ => ev_op (ev_var rfl) ev_c rv_I0) ea_nil
    have nb : ¬ (decide (st = "asleep") && (decide (1 ≤ t) && decide (t ≤ 1000))) = false := by rw [hb]; decide
    rw [if_neg nb] at k
    have e22 := (e20.trans e11).trans e12
    exact s_retK (ec_make (c := ⟨nm, rk, .slp (d.now + t)⟩) (ea_cons (ev_op (ev_var rfl) ev_c (rv_ixL (ex_l e22 hS) a0)) (ea_cons (ev_var rfl) (ea_cons ev_c (ea_cons (ev_op (ev_now T (ev_var rfl) (D.ex e22)) (ev_var rfl) rv_I0) ea_nil))))) fun x H' nx e C => k _ rfl x H' (fresh_back e22 nx) (e22.trans e) C
/-! ### read -/
theorem sc_read : FnScope ["text", "rows", "words", "desk", "row"] ["text"] (defScope s_read) := ⟨rfl, rfl, rfl, by decide +kernel, rfl, by decide +kernel, by decide +kernel⟩
def sp_read (K : PySem.W.Frag) : Sp := fun vs H Q E => ∃ (t : Str), vs = [.str t] ∧ t.length ≤ 20000 ∧ (readD t = none → ∀ H', Ex H H' → E (.ref (He.ga K "NoDesk")) none H') ∧
  ∀ d, readD t = some d → ∀ p H', H p = none → DeskAt K H H' p d → Q (.ref p) H'
theorem ok_read {P : Program} {w : World} {K : PySem.W.Frag} {mg : Str → Option Value} {base : Heap} (T : Txt K mg) : ∃ fd, FnOk P w K mg base (L2N.CX P w) 4 (He.ga K "read") fd ["text"] (sp_read K) ∧ Binds K fd ["text"] [] ∧ FunD K "read" "read" (defArgs s_read) (defBody s_read) (defScope s_read) [] [] (He.ga K "read") fd := by
  obtain ⟨fd, F⟩ := f_read T
  obtain ⟨d_need, G_need, b_need, _⟩ := ok_need (P := P) (w := w) (base := base) T
  obtain ⟨d_desk_init, G_desk_init, b_desk_init, _⟩ := ok_desk_init (P := P) (w := w) (base := base) T
  obtain ⟨d_number_of, G_number_of, b_number_of, _⟩ := ok_number_of (P := P) (w := w) (base := base) T
  obtain ⟨d_caller_of, G_caller_of, b_caller_of, _⟩ := ok_caller_of (P := P) (w := w) (base := base) T
  refine ⟨fd, okXN F sc_read (fun vs H Q E h => ?_) (fun cdv A outer s H vs Q E hr h => ?_), FunD.bindsN F fun _ _ _ _ _ _ us hl => match us, hl with | [_], _ => rfl, F⟩
  · (repeat (obtain ⟨_, h⟩ := h)); subst_vars; rfl
  · obtain ⟨t, rfl, hz, kE, k⟩ := h
    refine ⟨_, (pss_cons (ps_set (i := 1) sc_read.nd rfl (Or.inl rfl) (pe_split (pv 0) pe_str))
        (pss_cons (ps_expr (pe_call G_need (hr.mono (by decide)) rfl (g_need T) (kp_need T) b_need .nil (L2N.passes_call (L2N.takes_of rfl rfl rfl rfl) (fun _ _ _ _ h => h)) (pa_cons (pe_and (pe_cmpR op_gt (pe_callB (call_lenK (K := K) rfl) rfl (b_len T) (by decide +kernel) (pa_cons (pv 1) pa_nil)) pe_int (nomark _)) (pe_one (pe_cmpR op_eq (pe_ix (ix_listK (K := K) rfl) (pv 1) (pe_un un_neg pe_int) (fun _ _ => rfl)) pe_str (nomark _)))) pa_nil)))
        (pss_cons (ps_set (i := 2) sc_read.nd rfl (Or.inl rfl) (pe_split (pe_ix (ix_listK (K := K) rfl) (pv 1) pe_int (fun _ _ => rfl)) pe_str))
        (pss_cons (ps_expr (pe_call G_need (hr.mono (by decide)) rfl (g_need T) (kp_need T) b_need .nil (L2N.passes_call (L2N.takes_of rfl rfl rfl rfl) (fun _ _ _ _ h => h)) (pa_cons (pe_and (pe_cmpR op_eq (pe_callB (call_lenK (K := K) rfl) rfl (b_len T) (by decide +kernel) (pa_cons (pv 2) pa_nil)) pe_int (nomark _)) (pe_one (pe_cmpR op_eq (pe_ix (ix_listK (K := K) rfl) (pv 2) pe_int (fun _ _ => rfl)) pe_str (nomark _)))) pa_nil)))
        (pss_cons (ps_set (i := 3) sc_read.nd rfl (Or.inl rfl) (pe_make (mk_Desk T) G_desk_init (hr.mono (by decide)) rfl (g_Desk T) b_desk_init .nil (L2N.passes_call (L2N.takes_of rfl rfl rfl rfl) (fun _ _ _ _ h => h)) (pa_cons (pe_call G_number_of (hr.mono (by decide)) rfl (g_number_of T) (kp_number_of T) b_number_of .nil (L2N.passes_call (L2N.takes_of rfl rfl rfl rfl) (fun _ _ _ _ h => h)) (pa_cons (pe_ix (ix_listK (K := K) rfl) (pv 2) pe_int (fun _ _ => rfl)) pa_nil)) (pa_cons (pe_call G_number_of (hr.mono (by decide)) rfl (g_number_of T) (kp_number_of T) b_number_of .nil (L2N.passes_call (L2N.takes_of rfl rfl rfl rfl) (fun _ _ _ _ h => h)) (pa_cons (pe_ix (ix_listK (K := K) rfl) (pv 2) pe_int (fun _ _ => rfl)) pa_nil)) pa_nil))))
        (pss_cons (ps_fld (pv 3) (pe_call G_number_of (hr.mono (by decide)) rfl (g_number_of T) (kp_number_of T) b_number_of .nil (L2N.passes_call (L2N.takes_of rfl rfl rfl rfl) (fun _ _ _ _ h => h)) (pa_cons (pe_ix (ix_listK (K := K) rfl) (pv 2) pe_int (fun _ _ => rfl)) pa_nil)) rfl)
        (pss_cons (ps_for (passes_of rfl) rfl (pi_listK (K := K) rfl (pe_slice (sl_listK (K := K) rfl) (pv 1) (po_some pe_int) (po_some (pe_un un_neg pe_int)))) (pg_name (i := 4) sc_read.nd rfl (Or.inl rfl))
        (pss_one (ps_expr (pe_bm PySem.F.plainAttrs_list PySem.F.slot_list_append PySem.F.type_list_append mt_append (pe_fldK (K := K) rfl (pv 3) rfl) (pa_cons (pe_call G_caller_of (hr.mono (by decide)) rfl (g_caller_of T) (kp_caller_of T) b_caller_of .nil (L2N.passes_call (L2N.takes_of rfl rfl rfl rfl) (fun _ _ _ _ h => h)) (pa_cons (pv 3) (pa_cons (pe_split (pv 4) pe_str) pa_nil))) pa_nil)))))
        (pss_one (ps_ret (pv 3)))))))))), ?_⟩
    refine q_asgL (el_split (ev_var rfl) ev_c nl_ok.2.2 (by omega)) fun a H1 na e1 ha => ?_
    have hpc := split_piece (a := t) nl_ok.1 nl_ok.2.1
    have hcnt := split_le t "\n"
    unfold readD at kE k
    generalize Txt.split t "\n" = rows at *
    have hS := sq_of (K := K) ha
    refine q_dcall (vs := [.bl (decide (1 < rows.length) && decide (rows.getLast? = some ("" : Str)))]) ?h fun H2 e2 => ⟨_, rfl, fun hb H3 e3 => kE (if_pos hb) H3 ((e1.trans e2).trans e3), fun hb H3 e3 => ?_⟩
    case h =>
      refine ea_cons (ev_andV ?_ fun hb => ?_) ea_nil
      · refine ev_is (ev_op (ev_cb (ea_cons (ev_var rfl) ea_nil) (rc_lenS hS)) ev_c rv_I0) (congrArg V.bl (decide_eq_decide.mpr ?_))
        rw [List.length_map]
        omega
      · have h1 : 1 < rows.length := of_decide_eq_true hb
        obtain ⟨w, hw⟩ : ∃ w, rows[rows.length - 1]? = some w := ⟨_, List.getElem?_eq_getElem (by omega)⟩
        have hw2 : rows.getLast? = some w := by rw [List.getLast?_eq_getElem?]; exact hw
        have hat : atI (rows.map V.str) (-1) = some (.str w) := by
          unfold atI ixN
          rw [if_neg (by decide), if_pos (by rw [List.length_map]; omega), List.length_map]
          have : ((-1 : Int) + (rows.length : Int)).toNat = rows.length - 1 := by omega
          rw [this]
          show (rows.map V.str)[rows.length - 1]? = _
          rw [List.getElem?_map, hw]
          rfl
        rw [hw2]
        refine ev_is (ev_op (ev_op (ev_var rfl) (ev_un ev_c ru_neg) (rv_ixL hS hat)) ev_c (rv_eq rfl)) ?_
        rw [decV]
        exact congrArg V.bl (decide_eq_decide.mpr ⟨fun h => by rw [h], fun h => Option.some.inj h⟩)
    have nb : ¬ (decide (1 < rows.length) && decide (rows.getLast? = some ("" : Str))) = false := by rw [hb]; decide
    rw [if_neg nb] at kE k
    have hlen : 2 ≤ rows.length := by
      rw [Bool.and_eq_true] at hb
      exact of_decide_eq_true hb.1
    have e13 := (e1.trans e2).trans e3
    have hS3 := ex_l (e2.trans e3) hS
    have ha3 := (e2.trans e3) _ _ ha
    clear e1 e2 e3 hb nb hS ha
    obtain ⟨r0, rs, rfl⟩ : ∃ r0 rs, rows = r0 :: rs := by
      cases rows with
      | nil => cases hlen
      | cons r0 rs => exact ⟨r0, rs, rfl⟩
    have h0 := hpc r0 (by simp)
    refine q_asgL (el_split (ev_op (ev_var rfl) ev_c (rv_ixL hS3 (at0 _ _))) ev_c bl_ok.2.2 (by omega)) fun b H4 nbb e4 hb4 => ?_
    have hpw := split_piece (a := r0) bl_ok.1 bl_ok.2.1
    rw [show (r0 :: rs).headD "" = r0 from rfl] at kE k
    generalize Txt.split r0 " " = ws at *
    have hW := sq_of (K := K) hb4
    have e14 := e13.trans e4
    by_cases h4 : ws.length = 4
    case neg =>
      refine q_dcall (vs := [.bl false]) ?h fun H5 e5 => ⟨false, rfl, fun _ H6 e6 => kE ?hn H6 ((e14.trans e5).trans e6), fun h => by cases h⟩
      case hn =>
        have : readHead ws = none := by
          unfold readHead
          split
          · exact absurd rfl h4
          · rfl
        rw [this]
      case h =>
        refine ea_cons ?_ ea_nil
        refine ev_is (ev_andV (a := false) (b := false) (ev_is (ev_op (ev_cb (ea_cons (ev_var rfl) ea_nil) (rc_lenS hW)) ev_c (rv_eq rfl)) ?_) (fun h => by cases h)) rfl
        refine congrArg V.bl (decide_eq_false fun h => h4 ?_)
        rw [List.length_map] at h
        injection h with h
        omega
    obtain ⟨w0, w1, w2, w3, rfl⟩ : ∃ a b c d, ws = [a, b, c, d] := by
      match ws, h4 with
      | [a, b, c, d], _ => exact ⟨a, b, c, d, rfl⟩
    have a0 : atI ([w0, w1, w2, w3].map V.str) 0 = some (.str w0) := at4.1
    have a1 : atI ([w0, w1, w2, w3].map V.str) 1 = some (.str w1) := at4.2.1
    have a2 : atI ([w0, w1, w2, w3].map V.str) 2 = some (.str w2) := at4.2.2.1
    have a3 : atI ([w0, w1, w2, w3].map V.str) 3 = some (.str w3) := at4.2.2.2
    have z1 := hpw w1 (by simp)
    have z2 := hpw w2 (by simp)
    have z3 := hpw w3 (by simp)
    unfold readHead at kE k
    dsimp only at kE k
    refine q_dcall (vs := [.bl (decide (w0 = "desk"))]) ?h fun H5 e5 => ⟨_, rfl, fun hb H6 e6 => kE (by rw [if_pos hb]) H6 ((e14.trans e5).trans e6), fun hb H6 e6 => ?_⟩
    case h =>
      refine ea_cons ?_ ea_nil
      refine ev_is (ev_andV (a := true) (b := decide (w0 = "desk")) (ev_is (ev_op (ev_cb (ea_cons (ev_var rfl) ea_nil) (rc_lenS hW)) ev_c (rv_eq rfl)) (congrArg V.bl (decide_eq_true rfl))) (fun _ => ?_)) rfl
      rw [← decV]
      exact ev_op (ev_op (ev_var rfl) ev_c (rv_ixL hW a0)) ev_c (rv_eq rfl)
    have nb : ¬ decide (w0 = "desk") = false := by rw [hb]; decide
    rw [if_neg nb] at kE k
    have e16 := (e14.trans e5).trans e6
    have hW6 := ex_l (e5.trans e6) hW
    have ha6 := (e4.trans (e5.trans e6)) _ _ ha3
    clear e4 e5 e6 hb nb hW hb4 e13
    refine q_makeA (aa_call (vs := [.str w1]) (ea_cons (ev_op (ev_var rfl) ev_c (rv_ixL hW6 a1)) ea_nil) fun H7 e7 => ⟨w1, rfl, by omega, fun hn H8 e8 => kE (by rw [hn]; rfl) H8 ((e16.trans e7).trans e8), fun pa hn H8 e8 => ?_⟩)
    rw [hn] at kE k
    dsimp only [Option.bind] at kE k
    have e18 := (e16.trans e7).trans e8
    have hW8 := ex_l (e7.trans e8) hW6
    have ha8 := (e7.trans e8) _ _ ha6
    clear hn e7 e8 e16 e14
    refine aa_call (vs := [.str w2]) (ea_cons (ev_op (ev_var rfl) ev_c (rv_ixL hW8 a2)) ea_nil) fun H9 e9 => ⟨w2, rfl, by omega, fun hn H10 e10 => kE (by rw [hn]) H10 ((e18.trans e9).trans e10), fun ro hn H10 e10 => ?_⟩
    rw [hn] at kE k
    dsimp only at kE k
    have e20 := (e18.trans e9).trans e10
    have hW10 := ex_l (e9.trans e10) hW8
    have ha10 := (e9.trans e10) _ _ ha8
    clear hn e9 e10 e18
    intro x dx nx ndx nex
    refine ⟨x, dx, pa, ro, rfl, upd_same, fun hb H11 l D nl k11 => ?_, fun hb H11 e11 => kE (by rw [if_neg hb]) H11 (e20.trans ((Ex.new ndx).trans ((Ex.new (by rw [upd_ne nex.symm]; exact nx)).trans e11)))⟩
    rw [if_pos hb] at kE k
    refine ⟨rfl, ?_⟩
    have u10 : ∀ b o, H10 b = some o → upd (upd H10 dx (.own x)) x (.ins (aD K) dx []) b = some o := fun b o hb => by rw [upd_ne (ne_of_none hb nx), upd_ne (ne_of_none hb ndx)]; exact hb
    have ex11 : Ex H10 H11 := fun b o hb => k11 b o (u10 b o hb) (ne_of_none hb nx)
    have f11 : Fr H10 H11 x l [] := ⟨ex11, nx, ex_none (fun b o hb => u10 b o hb) nl, fun q hq => by cases hq⟩
    clear nl k11 u10 ndx nex
    refine q_fldC (vs := [.str w3]) (ea_cons (ev_op (ev_var rfl) ev_c (rv_ixL (ex_l ex11 hW10) a3)) ea_nil) fun H12 e12 => ⟨w3, rfl, by omega, fun hn H13 e13 => kE (by rw [hn]) H13 ((e20.trans ex11).trans (e12.trans e13)), fun no hn H13 e13 => ?_⟩
    rw [hn] at kE k
    dsimp only at kE k
    have D13 := D.ex (e12.trans e13)
    have f13 := f11.mono (e12.trans e13)
    obtain ⟨dx3, hp13⟩ := D13.ob
    obtain ⟨D14, f14⟩ := D13.setNow (n := no) f13 hp13
    refine ⟨_, rfl, x, aD K, dx3, _, rfl, hp13, c_Desk T, n_Desk_now T, (by show 4 < 1000; decide), ?_⟩
    generalize upd H13 x (.ins (aD K) dx3 (putF "now" (.int no) (dfs ⟨pa, ro, 0, []⟩ l))) = H14 at *
    have D14' : DeskAt K H10 H14 x ⟨pa, ro, no, []⟩ := ⟨l, [], D14, f14⟩
    clear D14 f14 hp13 D13 f13 D f11 hn e12 e13
    have ex14 := D14'.fr
    have hcm : cutV ((r0 :: rs).map V.str) (some 1) (some (-1)) = (midL (r0 :: rs)).map V.str := by
      rw [cut_mid (by rw [List.length_map]; exact hlen), List.length_map]
      unfold midL
      rw [List.map_take, List.map_drop]
    have hmid : ∀ r ∈ midL (r0 :: rs), r.length ≤ t.length := fun r hr => hpc r (List.mem_of_mem_drop (List.mem_of_mem_take hr))
    have hsl : EvL (tSl (rSlL K) (tVar 1) (tPart (tC (.int 1))) (tPart (tUn (rU fun i => .int (-i)) (tC (.int 1))))) [some (.str t), some (.ref a), some (.ref b), some (.ref x), none] H14 ((midL (r0 :: rs)).map V.str) := by
      rw [← hcm]
      exact el_sl (ev_var rfl) (eo_some ev_c) (eo_some (ev_un ev_c ru_neg)) (ex_l ex14 (sq_of ha10))
    generalize midL (r0 :: rs) = ms at *
    refine q_forNLn (K := K) hsl (fun q i σ' H' => ∃ v e, σ' = [some (.str t), some (.ref a), some (.ref b), some (.ref x), v] ∧ H10 q = none ∧ DeskAt K (upd H10 q (.lst (ms.map V.str))) H' x e ∧ readLine ⟨pa, ro, no, []⟩ ms = readLine e (ms.drop i) ∧ (e.line.length : Int) ≤ e.room ∧ e.room ≤ 60)
      (fun q H15 nq e15 hq => ⟨none, _, rfl, fresh_back ex14 nq, D14'.new nq e15 hq, rfl, by show (0 : Int) ≤ ro; omega, hb.2.2.2⟩) (fun q i σ' H' _ ⟨v, e, _, nq, De, _⟩ => sq_of (De.fr _ _ upd_same)) ?_ ?_
    · rintro q i r σ' H' hi ⟨v, e, rfl, nq, ⟨l', ps, De, fe⟩, hr, hl1, hl2⟩
      rw [List.getElem?_map] at hi
      cases hri : ms[i]? with
      | none => rw [hri] at hi; cases hi
      | some w =>
        rw [hri] at hi
        cases hi
        have hw := hmid w (List.mem_of_getElem? hri)
        have hdr : ms.drop i = w :: ms.drop (i + 1) := by
          rw [List.getElem?_eq_some_iff] at hri
          obtain ⟨hlt, he⟩ := hri
          rw [List.drop_eq_getElem_cons hlt, he]
        rw [hdr, readLine_cons] at hr
        have hx16 : Ex H H' := e20.trans ((Ex.trans (fun b o hb => upd_sub nq b o hb) fe.ex))
        obtain ⟨dx4, hp4⟩ := De.ob
        refine ⟨_, rfl, x, aD K, dx4, _, _, rfl, hp4, c_Desk T, n_Desk_line T, rfl, .inl ⟨rfl, _, SqL.of De.ln⟩, ?_⟩
        refine ⟨_, rfl, ?_⟩
        refine el_split (a := w) (b := " ") (σ := [some (.str t), some (.ref a), some (.ref b), some (.ref x), some (.str w)]) (H := H') (ev_var rfl) ev_c bl_ok.2.2 (by omega) H' (Ex.refl H') _ fun z H17 nz e17 hz17 => ?_
        refine ⟨x, z, e, l', ps, _, rfl, De.ex e17, by omega, sq_of hz17, fun u hu => ?_, fun hn H18 e18 => ?_, fun c hn y H18 ny e18 C => ?_⟩
        · have := split_piece bl_ok.1 bl_ok.2.1 u hu
          omega
        · rw [hn] at hr
          exact kE hr H18 (hx16.trans (e17.trans e18))
        · rw [hn] at hr
          have hlt := callerOf_lt hn
          have e19 := e17.trans e18
          refine ⟨l', _, .ref y, rfl, rfl, e19 _ _ De.ln, sz_lt (by rw [List.length_map, De.len]; omega), ?_⟩
          refine ⟨_, e.snoc c, rfl, nq, DeskAt.app De fe (fresh_back e17 ny) e19 C, hr, ?_, hl2⟩
          show ((e.line ++ [c]).length : Int) ≤ e.room
          rw [List.length_append]
          show ((e.line.length + 1 : Nat) : Int) ≤ e.room
          omega
    · rintro q σ' H' ⟨v, e, rfl, nq, De, hr, hl1, hl2⟩
      rw [List.length_map, List.drop_length] at hr
      exact s_ret (ev_var rfl) fun H20 e21 => k e hr x H20 (ex_none e20 nx) ((De.ex e21).sub fun b o hb => upd_sub nq b o (e20 _ _ hb))
/-! ### L_word -/
theorem sc_L_word : FnScope ["_law_e", "_law_found", "_law_one"] ["_law_e"] (defScope s_L_word) := ⟨rfl, rfl, rfl, by decide +kernel, rfl, by decide +kernel, by decide +kernel⟩
theorem ev_isE {K : PySem.W.Frag} {σ : L2.St} {H : Hp} {a : Addr} (KS : ExcKs K) {i : Nat} (hi : i < 9) (j : Nat) (hj : j < 9) (h0 : σ[0]? = some (some (.ref a))) : Ev (tCB (rIsE K (excAt K i) a) (tCons (tVar 0) (tCons (tC (.ref (excAt K j))) tNil))) σ H (.bl (decide (j = i))) :=
  ev_cb (ea_cons (ev_var h0) (ea_cons ev_c ea_nil)) fun H1 _ Q q => ⟨.ref (excAt K j), .ref (excAt K j), _, rfl, fun u r => r, KS.k i j hi hj, q H1 (Ex.refl H1)⟩
theorem ev_isV {K : PySem.W.Frag} {σ : L2.St} {H : Hp} {a : Addr} (KS : ExcKs K) {i : Nat} (hi : i < 9) (h0 : σ[0]? = some (some (.ref a))) : Ev (tCB (rIsE K (excAt K i) a) (tCons (tVar 0) (tCons (tC (.ty "ValueError")) tNil))) σ H (.bl true) :=
  ev_cb (ea_cons (ev_var h0) (ea_cons ev_c ea_nil)) fun H1 _ Q q => ⟨.ty "ValueError", .type "ValueError", _, rfl, fun u r => r, KS.v i hi, q H1 (Ex.refl H1)⟩
theorem el_catV {σ : L2.St} {H : Hp} {p : Addr} {xs ys : List V} {ta tb : TE} (ha : Ev ta σ H (.ref p)) (hp : H p = some (.lst xs)) (hb : EvL tb σ H ys) (hz : xs.length + ys.length ≤ 100000) : EvL (tOp rCat ta tb) σ H (xs ++ ys) := fun H1 e Q q =>
  ha H1 e _ fun H2 e2 => hb H2 (e.trans e2) _ fun r H3 hr e3 h3 => ⟨p, r, xs, ys, rfl, rfl, (e.trans (e2.trans e3)) _ _ hp, h3, sz_of hz, fun s hs => q s _ (fresh_back (e2.trans e3) hs) ((e2.trans e3).trans (Ex.new hs)) upd_same⟩
theorem el_lcH {K : PySem.W.Frag} {σ : L2.St} {H : Hp} {p : Addr} {xs : List V} {j : Nat} {tl te : TE} (f : V → V) (h : Ev tl σ H (.ref p)) (hp : SqL K H p xs) (hz : xs.length ≤ 1000) (he : ∀ x ∈ xs, ∀ H1, Ex H H1 → Ev te ((wipe σ [j]).set j (some x)) H1 (f x)) : EvL (tLcH K tl j te) σ H (xs.map f) := fun H1 e Q q =>
  h H1 e _ fun H2 e2 => ⟨p, xs, f, rfl, ex_l (e.trans e2) hp, hz, fun x hx H3 e3 Q2 q2 => he x hx H3 (e.trans (e2.trans e3)) H3 (Ex.refl H3) Q2 q2, fun D H3 hD e3 h3 => q D H3 (fresh_back e2 hD) (e2.trans e3) h3⟩
def intB : V → V
  | .bl b => .int (if b then 1 else 0)
  | _ => .non
theorem ok_L_word {P : Program} {w : World} {K : PySem.W.Frag} {mg : Str → Option Value} {base : Heap} (T : Txt K mg) : ∃ fd, FnE P w K mg base 1 (He.ga K "_law_word") fd "_law_e" ∧ Binds K fd ["_law_e"] [] ∧ FunD K "_law_word" "_law_word" (defArgs s_L_word) (defBody s_L_word) (defScope s_L_word) [] [] (He.ga K "_law_word") fd := by
  obtain ⟨fd, F⟩ := f_L_word T
  have KS := excK_ok T.ex
  refine ⟨fd, FnE.of F sc_L_word (fun cdv A outer s H p i Q hi hz hot hr h => ?_), FunD.bindsN F fun _ _ _ _ _ _ us hl => match us, hl with | [_], _ => rfl, F⟩
  · have hot1 : L2H.Hot1 (A.deeper (envOfC "_law_word" (defScope s_L_word) s.heap.objs.size (He.ga K "_law_word") cdv)) p := ⟨hot.1, hot.2⟩
    refine ⟨_, (pss_cons (ps_set (i := 1) sc_L_word.nd rfl (Or.inl rfl) (pe_lst (pa_cons (pe_callB (call_isH (a := p.1) (oe := p.2) (List.mem_singleton.mpr rfl) (KS.c i hi) hz (hot.2.imp fun _ h => h.1)) rfl (b_isinstance T) (by decide +kernel) (pa_cons (pv 0) (pa_cons (pe_glob (v := .ref (He.ga K "NoName")) rfl (g_NoName T) rfl) pa_nil))) (pa_cons (pe_callB (call_isH (a := p.1) (oe := p.2) (List.mem_singleton.mpr rfl) (KS.c i hi) hz (hot.2.imp fun _ h => h.1)) rfl (b_isinstance T) (by decide +kernel) (pa_cons (pv 0) (pa_cons (pe_glob (v := .ref (He.ga K "NoRank")) rfl (g_NoRank T) rfl) pa_nil))) (pa_cons (pe_callB (call_isH (a := p.1) (oe := p.2) (List.mem_singleton.mpr rfl) (KS.c i hi) hz (hot.2.imp fun _ h => h.1)) rfl (b_isinstance T) (by decide +kernel) (pa_cons (pv 0) (pa_cons (pe_glob (v := .ref (He.ga K "NoSpan")) rfl (g_NoSpan T) rfl) pa_nil))) (pa_cons (pe_callB (call_isH (a := p.1) (oe := p.2) (List.mem_singleton.mpr rfl) (KS.c i hi) hz (hot.2.imp fun _ h => h.1)) rfl (b_isinstance T) (by decide +kernel) (pa_cons (pv 0) (pa_cons (pe_glob (v := .ref (He.ga K "NoDesk")) rfl (g_NoDesk T) rfl) pa_nil))) pa_nil))))))
        (pss_cons (ps_set (i := 1) sc_L_word.nd rfl (Or.inl rfl) (pe_op op_cat (pv 1) (pe_lst (pa_cons (pe_callB (call_isH (a := p.1) (oe := p.2) (List.mem_singleton.mpr rfl) (KS.c i hi) hz (hot.2.imp fun _ h => h.1)) rfl (b_isinstance T) (by decide +kernel) (pa_cons (pv 0) (pa_cons (pe_glob (v := .ref (He.ga K "Known")) rfl (g_Known T) rfl) pa_nil))) (pa_cons (pe_callB (call_isH (a := p.1) (oe := p.2) (List.mem_singleton.mpr rfl) (KS.c i hi) hz (hot.2.imp fun _ h => h.1)) rfl (b_isinstance T) (by decide +kernel) (pa_cons (pv 0) (pa_cons (pe_glob (v := .ref (He.ga K "Unknown")) rfl (g_Unknown T) rfl) pa_nil))) (pa_cons (pe_callB (call_isH (a := p.1) (oe := p.2) (List.mem_singleton.mpr rfl) (KS.c i hi) hz (hot.2.imp fun _ h => h.1)) rfl (b_isinstance T) (by decide +kernel) (pa_cons (pv 0) (pa_cons (pe_glob (v := .ref (He.ga K "Full")) rfl (g_Full T) rfl) pa_nil))) (pa_cons (pe_callB (call_isH (a := p.1) (oe := p.2) (List.mem_singleton.mpr rfl) (KS.c i hi) hz (hot.2.imp fun _ h => h.1)) rfl (b_isinstance T) (by decide +kernel) (pa_cons (pv 0) (pa_cons (pe_glob (v := .ref (He.ga K "NotReady")) rfl (g_NotReady T) rfl) pa_nil))) pa_nil)))))))
        (pss_cons (ps_set (i := 1) sc_L_word.nd rfl (Or.inl rfl) (pe_op op_cat (pv 1) (pe_lst (pa_cons (pe_callB (call_isH (a := p.1) (oe := p.2) (List.mem_singleton.mpr rfl) (KS.c i hi) hz (hot.2.imp fun _ h => h.1)) rfl (b_isinstance T) (by decide +kernel) (pa_cons (pv 0) (pa_cons (pe_glob (v := .ref (He.ga K "IsReady")) rfl (g_IsReady T) rfl) pa_nil))) pa_nil))))
        (pss_cons (ps_if (PW.pt (pw_or (pt_not (pt_val (pe_callB (call_isH (a := p.1) (oe := p.2) (List.mem_singleton.mpr rfl) (KS.c i hi) hz (hot.2.imp fun _ h => h.1)) rfl (b_isinstance T) (by decide +kernel) (pa_cons (pv 0) (pa_cons (pe_bltn (v := .ty "ValueError") rfl (b_ValueError T) (by decide +kernel) rfl) pa_nil))))) (pw_or1 (pt_cmpR op_ne (pe_callB (cr_sumH ⟨p, hot1, List.mem_singleton.mpr rfl⟩) rfl (b_sum T) (by decide +kernel) (pa_cons (pe_lcH (x := "_law_one") (j := 2) ⟨p, hot1, List.mem_singleton.mpr rfl⟩ sc_L_word.nd (pv 1) (blkOk_by (own := [("_law_one", 2)]) (N := ["_law_e", "_law_found", "_law_one"]) (sc := defScope s_L_word) (by decide +kernel)) (fun _ _ _ _ _ => pg_name (i := 2) sc_L_word.nd rfl (Or.inl rfl)) (fun _ _ _ _ _ => (pe_callTy call_int1 rfl (b_int T) (by decide +kernel) (pa_cons (pv 2) pa_nil)))) pa_nil)) pe_int (nomark _))))) (pss_one (ps_ret pe_str))
        pss_nil)
        (pss_one (ps_ret (pe_ix (ix_listK (K := K) rfl) (pe_lst (pa_cons pe_str (pa_cons pe_str (pa_cons pe_str (pa_cons pe_str (pa_cons pe_str (pa_cons pe_str (pa_cons pe_str (pa_cons pe_str (pa_cons pe_str pa_nil)))))))))) (pe_bmK (K := K) rfl PySem.F.plainAttrs_list PySem.F.slot_list_index PySem.F.type_list_index (mt_indexK (K := K) rfl) (pv 1) (pa_cons pe_bl pa_nil)) (fun _ _ => rfl)))))))), ?_⟩
    refine q_asgL (xs := [.bl (decide (0 = i)), .bl (decide (1 = i)), .bl (decide (2 = i)), .bl (decide (3 = i))]) (el_lst (ea_cons (ev_isE KS hi 0 (by decide) rfl) (ea_cons (ev_isE KS hi 1 (by decide) rfl) (ea_cons (ev_isE KS hi 2 (by decide) rfl) (ea_cons (ev_isE KS hi 3 (by decide) rfl) ea_nil)))) (by show 4 ≤ 100000; decide)) fun f1 H1 n1 e1 h1 => ?_
    refine q_asgL (el_catV (xs := [.bl (decide (0 = i)), .bl (decide (1 = i)), .bl (decide (2 = i)), .bl (decide (3 = i))]) (ys := [.bl (decide (4 = i)), .bl (decide (5 = i)), .bl (decide (6 = i)), .bl (decide (7 = i))]) (ev_var rfl) h1 (el_lst (ea_cons (ev_isE KS hi 4 (by decide) rfl) (ea_cons (ev_isE KS hi 5 (by decide) rfl) (ea_cons (ev_isE KS hi 6 (by decide) rfl) (ea_cons (ev_isE KS hi 7 (by decide) rfl) ea_nil)))) (by show 4 ≤ 100000; decide)) (by show 8 ≤ 100000; decide)) fun f2 H2 n2 e2 h2 => ?_
    refine q_asgL (el_catV (ys := [.bl (decide (8 = i))]) (ev_var rfl) h2 (el_lst (ea_cons (ev_isE KS hi 8 (by decide) rfl) ea_nil) (by show 1 ≤ 100000; decide)) (by show 9 ≤ 100000; decide)) fun f3 H3 n3 e3 h3 => ?_
    have hB : H3 f3 = some (.lst ((List.range 9).map fun j => V.bl (decide (j = i)))) := h3
    clear h1 h2 h3
    have hsum : (((List.range 9).map fun j => V.bl (decide (j = i))).map intB) = ((List.range 9).map fun j => if decide (j = i) = true then (1 : Int) else 0).map V.int := by
      rw [List.map_map, List.map_map]
      rfl
    have hone : ((List.range 9).map fun j => if decide (j = i) = true then (1 : Int) else 0).sum = 1 := by
      have : ∀ i, i < 9 → ((List.range 9).map fun j => if decide (j = i) = true then (1 : Int) else 0).sum = 1 := by decide
      exact this i hi
    refine q_when (b := false) ?h4 (fun h => by cases h) fun _ H4 e4 => ?_
    case h4 =>
      refine et_is (et_or (a := false) (b := false) (et_is (et_not (et_B (ev_isV KS hi rfl))) rfl) fun _ => et_is (et_test (ev_op (ev_cbL (xs := ((List.range 9).map fun j => if decide (j = i) = true then (1 : Int) else 0).map V.int) ?hl fun q H5 hq => rc_sum (sq_of hq)) ev_c (rv_ne rfl))) ?hs) rfl
      case hl =>
        rw [← hsum]
        refine el_lcH intB (ev_var rfl) (sq_of hB) (by rw [List.length_map, List.length_range]; decide) fun x hx H5 e5 => ?_
        obtain ⟨j, _, rfl⟩ := List.mem_map.mp hx
        exact ev_cb (ea_cons (ev_var rfl) ea_nil) rc_int_bl
      case hs =>
        rw [hone]
        rfl
    have hw : atI (excWords.map V.str) (i : Int) = some (.str (excWords.getD i "")) := by
      refine at_of rfl ?_
      rw [List.getElem?_map, List.getElem?_eq_getElem (show i < excWords.length from hi), List.getD_eq_getElem?_getD, List.getElem?_eq_getElem (show i < excWords.length from hi)]
      rfl
    refine s_ret (v := .str (excWords.getD i "")) ?h5 fun H6 e6 => h H6 (((e1.trans e2).trans e3).trans (e4.trans e6))
    refine ev_opL1 (xs := excWords.map V.str) (el_lst (ea_cons ev_c (ea_cons ev_c (ea_cons ev_c (ea_cons ev_c (ea_cons ev_c (ea_cons ev_c (ea_cons ev_c (ea_cons ev_c (ea_cons ev_c ea_nil))))))))) (by show 9 ≤ 100000; decide)) (fun H6 e6 => ?_) (fun q H6 hq e => rv_ixL (sq_of hq) hw)
    intro H7 e7 Q' q'
    have hB7 := (e4.trans (e6.trans e7)) _ _ hB
    refine ⟨_, rfl, .inl ⟨rfl, _, SqL.of hB7⟩, f3, _, .bl true, i, .bl true, rfl, rfl, SqL.of hB7, rfl, ?_, ?_, rfl, fun m z hm hz => ?_, q' H7 (Ex.refl H7)⟩
    · rw [List.all_map]
      exact List.all_eq_true.mpr fun _ _ => rfl
    · rw [List.getElem?_map, List.getElem?_range hi]
      show some (V.bl (decide (i = i))) = _
      rw [decide_eq_true rfl]
    · rw [List.getElem?_map, List.getElem?_range (by omega)] at hz
      cases hz
      show eqV (V.bl (decide (m = i))) (V.bl true) = false
      rw [decide_eq_false (by omega)]
      rfl
theorem pe_joinK {X : Cx} {K : PySem.W.Frag} {o e : Expr} {to te : TE} {apos pos : Pos} (hK : X.K = K) (ho : PE X o to) (he : PE X e te) (hs : starEach [e] X.env = [(false, eval e X.env)] := by rfl) (hbase : attributeBase o "join" X.env (eval o X.env) = eval o X.env := by rfl) (hline : (apos.endLine == pos.line) = true := by rfl) :
    PE X (.Call (.Attribute o "join" apos) [e] [] pos) (tM1 (fun x xs H Q => ∃ a p, ∃ ys : List Str, x = .str a ∧ xs = [.ref p] ∧ (SqL K H p (ys.map V.str) ∨ SqT K H p (ys.map V.str)) ∧ (ys.map (·.length)).sum + ys.length * a.length ≤ 16777216 ∧ Q (.str (Txt.join a ys)) H) to te) := by
  subst hK
  exact pe_join ho he hs hbase hline
/-! ### lists of lists of words -/
def RwAt (H : Hp) (a : Addr) (ts : List (Addr × List Str)) : Prop := H a = some (.lst (ts.map fun q => V.ref q.1)) ∧ ∀ q ∈ ts, H q.1 = some (.lst (q.2.map V.str))
section
variable {K : PySem.W.Frag} {σ : L2.St} {H H' : Hp} {a p q : Addr} {ts : List (Addr × List Str)} {te ta tb : TE} {tr : TA} {ws : List Str} {rows rows2 : List (List Str)} {D : Ends} {tz : TS}
theorem RwAt.ex (h : RwAt H a ts) (e : Ex H H') : RwAt H' a ts := ⟨e _ _ h.1, fun q hq => e _ _ (h.2 q hq)⟩
def EvW1 (te : TE) (σ : L2.St) (H : Hp) (ws : List Str) : Prop := ∀ H1, Ex H H1 → ∀ Q : VK, (∀ q H2, Ex H1 H2 → H2 q = some (.lst (ws.map V.str)) → Q (.ref q) H2) → te σ H1 Q
def EvW (te : TE) (σ : L2.St) (H : Hp) (rows : List (List Str)) : Prop := ∀ H1, Ex H H1 → ∀ Q : VK, (∀ p H2 ts, Ex H1 H2 → RwAt H2 p ts → ts.map (·.2) = rows → Q (.ref p) H2) → te σ H1 Q
def EvWA (tr : TA) (σ : L2.St) (H : Hp) (rows : List (List Str)) : Prop := ∀ H1, Ex H H1 → ∀ Q : List V → Hp → Prop, (∀ (ts : List (Addr × List Str)) H2, Ex H1 H2 → (∀ q ∈ ts, H2 q.1 = some (.lst (q.2.map V.str))) → ts.map (·.2) = rows → Q (ts.map fun q => V.ref q.1) H2) → tr σ H1 Q
theorem w1_lst (h : EvA tr σ H (ws.map V.str)) (hz : ws.length ≤ 100000) : EvW1 (tLst tr) σ H ws := fun H1 e Q q => el_lst h (by rw [List.length_map]; exact hz) H1 e Q fun p H2 _ e2 hp => q p H2 e2 hp
theorem w1_ref (h : Ev te σ H (.ref q)) (hq : H q = some (.lst (ws.map V.str))) : EvW1 te σ H ws := fun H1 e Q k => h H1 e _ fun H2 e2 => k _ H2 e2 ((e.trans e2) _ _ hq)
theorem wa_nil : EvWA tNil σ H [] := fun H1 e Q q => q [] H1 (Ex.refl _) (fun _ h => by cases h) rfl
theorem wa_cons (h : EvW1 te σ H ws) (hr : EvWA tr σ H rows) : EvWA (tCons te tr) σ H (ws :: rows) := fun H1 e Q q => h H1 e _ fun p H2 e2 hp => hr H2 (e.trans e2) _ fun ts H3 e3 ht hm => q ((p, ws) :: ts) H3 (e2.trans e3) (fun r hr => by
  rcases List.mem_cons.mp hr with rfl | hr
  · exact e3 _ _ hp
  · exact ht r hr) (by rw [List.map_cons, hm])
theorem ew_lst (h : EvWA tr σ H rows) (hz : rows.length ≤ 1000) : EvW (tLst tr) σ H rows := fun H1 e Q q => h H1 e _ fun ts H2 e2 ht hm => ⟨sz_of (by rw [List.length_map, ← List.length_map (f := fun q : Addr × List Str => q.2), hm]; omega), fun p hp => q p _ ts (e2.trans (Ex.new hp)) ⟨upd_same, fun r hr => (Ex.new hp) _ _ (ht r hr)⟩ hm⟩
theorem ew_var {i : Nat} (h : σ[i]? = some (some (.ref p))) (hR : RwAt H p ts) (hm : ts.map (·.2) = rows) : EvW (tVar i) σ H rows := fun H1 e Q q => ev_var h H1 e _ fun H2 e2 => q p H2 ts e2 (hR.ex (e.trans e2)) hm
theorem ew_ofL (h : EvL te σ H (ts.map fun q => V.ref q.1)) (hR : ∀ q ∈ ts, H q.1 = some (.lst (q.2.map V.str))) (hm : ts.map (·.2) = rows) : EvW te σ H rows := fun H1 e Q q => h H1 e _ fun p H2 _ e2 hp => q p H2 ts e2 ⟨hp, fun r hr => (e.trans e2) _ _ (hR r hr)⟩ hm
theorem ew_cat (h1 : EvW ta σ H rows) (h2 : EvW tb σ H rows2) (hz : rows.length + rows2.length ≤ 1000) : EvW (tOp rCat ta tb) σ H (rows ++ rows2) := fun H1 e Q q =>
  h1 H1 e _ fun p H2 ts e2 hR hm => h2 H2 (e.trans e2) _ fun r H3 us e3 hS hn => by
    have hR3 := hR.ex e3
    refine ⟨p, r, _, _, rfl, rfl, hR3.1, hS.1, sz_of ?_, fun s hs => ?_⟩
    · rw [List.length_map, List.length_map, ← List.length_map (as := ts) (f := fun q : Addr × List Str => q.2), hm, ← List.length_map (as := us) (f := fun q : Addr × List Str => q.2), hn]
      omega
    · refine q s _ (ts ++ us) ((e2.trans e3).trans (Ex.new hs)) ⟨by rw [List.map_append]; exact upd_same, fun r hr => (Ex.new hs) _ _ ?_⟩ (by rw [List.map_append, hm, hn])
      rcases List.mem_append.mp hr with hr | hr
      · exact hR3.2 r hr
      · exact hS.2 r hr
theorem q_asgW {i : Nat} (h : EvW te σ H rows) (k : ∀ p H1 ts, Ex H H1 → RwAt H1 p ts → ts.map (·.2) = rows → tz D (σ.set i (some (.ref p))) H1) : tSeq (tAsg te (gName i)) tz D σ H := h H (Ex.refl H) _ k
theorem q_asgWt {i : Nat} (τ : Addr → L2.St) (h : EvW te σ H rows) (hτ : ∀ p, σ.set i (some (.ref p)) = τ p) (k : ∀ p H1 ts, Ex H H1 → RwAt H1 p ts → ts.map (·.2) = rows → tz D (τ p) H1) : tSeq (tAsg te (gName i)) tz D σ H := h H (Ex.refl H) _ fun p H1 ts e hR hm => by
  show tz D (σ.set i (some (.ref p))) H1
  rw [hτ p]
  exact k p H1 ts e hR hm
theorem s_retW (h : EvW te σ H rows) (k : ∀ p H1 ts, Ex H H1 → RwAt H1 p ts → ts.map (·.2) = rows → D.rt (.ref p) H1) : tRet te D σ H := h H (Ex.refl H) _ k
end
theorem q_par3 {σ : L2.St} {H : Hp} {D : Ends} {tz : TS} {i j l : Nat} {ta : TA} {u v w : V} (h : EvA ta σ H [u, v, w]) (k : ∀ H1, Ex H H1 → tz D (((σ.set i (some u)).set j (some v)).set l (some w)) H1) : tSeq (tPar3 i j l ta) tz D σ H := h H (Ex.refl H) _ fun H1 e1 => ⟨u, v, w, rfl, k H1 e1⟩
theorem atW {a b c d : Str} : atI ([a, b, c, d].map V.str) 0 = some (.str a) ∧ atI ([a, b, c, d].map V.str) 1 = some (.str b) ∧ atI ([a, b, c, d].map V.str) 2 = some (.str c) ∧ atI ([a, b, c, d].map V.str) 3 = some (.str d) := ⟨rfl, rfl, rfl, rfl⟩
theorem q_asgUg {σ : L2.St} {H : Hp} {D : Ends} {tz : TS} {te : TE} {g : TG} {vs : List V} (h : EvU te σ H vs) (k : ∀ t H1, H t = none → Ex H H1 → H1 t = some (.tup vs) → g (.ref t) σ H1 fun σ2 H2 => tz D σ2 H2) : tSeq (tAsg te g) tz D σ H := h H (Ex.refl H) _ k
theorem szl {a b : Str} (h1 : a.length ≤ 32) (h2 : b.length ≤ 32) : a.length + b.length ≤ sizeLine := sz_of (by omega)
theorem cutV_from {xs : List V} {i : Int} (h0 : 0 ≤ i) (h1 : i.toNat ≤ xs.length) : cutV xs (some i) none = xs.drop i.toNat := by
  unfold cutV
  have e1 : HT.sIx xs.length 0 (some i) = i.toNat := by
    show (if i < 0 then (i + (xs.length : Int)).toNat else min i.toNat xs.length) = i.toNat
    rw [if_neg (by omega)]
    omega
  have e2 : HT.sIx xs.length xs.length none = xs.length := rfl
  rw [e1, e2]
  exact List.take_of_length_le (by rw [List.length_drop]; omega)
theorem cutV_to {xs : List V} {i : Int} (h0 : 0 ≤ i) (h1 : i.toNat ≤ xs.length) : cutV xs none (some i) = xs.take i.toNat := by
  unfold cutV
  have e1 : HT.sIx xs.length xs.length (some i) = i.toNat := by
    show (if i < 0 then (i + (xs.length : Int)).toNat else min i.toNat xs.length) = i.toNat
    rw [if_neg (by omega)]
    omega
  have e2 : HT.sIx xs.length 0 none = 0 := rfl
  rw [e1, e2]
  rfl
section
variable {K : PySem.W.Frag} {σ : L2.St} {H : Hp} {a : Addr} {ts : List (Addr × List Str)} {te ti : TE} {i : Int}
theorem el_from (h : Ev te σ H (.ref a)) (hi : Ev ti σ H (.int i)) (hR : RwAt H a ts) (h0 : 0 ≤ i) (h1 : i.toNat ≤ ts.length) : EvL (tSl (rSlL K) te (tPart ti) tNoPart) σ H ((ts.drop i.toNat).map fun q => V.ref q.1) := by
  rw [List.map_drop, ← cutV_from h0 (by rw [List.length_map]; exact h1)]
  exact el_sl h (eo_some hi) eo_none (sq_of hR.1)
theorem ew_from (h : Ev te σ H (.ref a)) (hi : Ev ti σ H (.int i)) (hR : RwAt H a ts) (h0 : 0 ≤ i) (h1 : i.toNat ≤ ts.length) : EvW (tSl (rSlL K) te (tPart ti) tNoPart) σ H ((ts.map (·.2)).drop i.toNat) :=
  ew_ofL (el_from h hi hR h0 h1) (fun q hq => hR.2 q (List.mem_of_mem_drop hq)) (by rw [List.map_drop])
theorem ew_to (h : Ev te σ H (.ref a)) (hi : Ev ti σ H (.int i)) (hR : RwAt H a ts) (h0 : 0 ≤ i) (h1 : i.toNat ≤ ts.length) : EvW (tSl (rSlL K) te tNoPart (tPart ti)) σ H ((ts.map (·.2)).take i.toNat) := by
  refine ew_ofL (ts := ts.take i.toNat) ?_ (fun q hq => hR.2 q (List.mem_of_mem_take hq)) (by rw [List.map_take])
  rw [List.map_take, ← cutV_to h0 (by rw [List.length_map]; exact h1)]
  exact el_sl h eo_none (eo_some hi) (sq_of hR.1)
theorem w1_at {ws : List Str} (h : Ev te σ H (.ref a)) (hi : Ev ti σ H (.int i)) (hR : RwAt H a ts) (h0 : 0 ≤ i) (hw : (ts.map (·.2))[i.toNat]? = some ws) : EvW1 (tOp (rIxL K) te ti) σ H ws := by
  rw [List.getElem?_map] at hw
  obtain ⟨q, hq, rfl⟩ := Option.map_eq_some_iff.mp hw
  exact w1_ref (ev_op h hi (rv_ixL (sq_of hR.1) (at_of (j := i.toNat) (by omega) (by rw [List.getElem?_map, hq]; rfl)))) (hR.2 q (List.mem_of_getElem? hq))
/-- a word of a row -/
theorem ev_word2 {ws : List Str} {w : Str} {tj : TE} {j : Int} (h : EvW1 te σ H ws) (hj : ∀ H1, Ex H H1 → Ev tj σ H1 (.int j)) (h0 : 0 ≤ j) (hw : ws[j.toNat]? = some w) : Ev (tOp (rIxL K) te tj) σ H (.str w) := fun H1 e Q q => h H1 e _ fun p H2 e2 hp => hj H2 (e.trans e2) H2 (Ex.refl H2) _ fun H3 e3 => ⟨p, _, j, _, rfl, rfl, sq_of (e3 _ _ hp), at_of (j := j.toNat) (by omega) (by rw [List.getElem?_map, hw]; rfl), q H3 (e2.trans e3)⟩
end
theorem mem_getD {α : Type} {l : List (List α)} {i : Nat} (h : i < l.length) : l.getD i [] ∈ l := by
  rw [List.getD_eq_getElem?_getD, List.getElem?_eq_getElem h]
  exact List.getElem_mem h
theorem head_len22 (a b c : Str) : (headRows a b c).length = 22 := rfl
theorem row_len36 (a b c d e : Str) : (rowRows a b c d e).length = 36 := rfl
/-! ### L_refused -/
theorem sc_L_refused : FnScope ["_law_text_here", "_law_e"] ["_law_text_here"] (defScope s_L_refused) := ⟨rfl, rfl, rfl, by decide +kernel, rfl, by decide +kernel, by decide +kernel⟩
theorem desk_in : ("NoDesk" : Str) ∈ excNames ∧ wordOf "NoDesk" = "desk" := by decide +kernel
def sp_L_refused (_ : PySem.W.Frag) : Sp := fun vs H Q _ => ∃ (t : Str), vs = [.str t] ∧ t.length ≤ 20000 ∧ readD t = none ∧ RetV (.bl true) H Q
theorem cv_L_refused {K : PySem.W.Frag} {H : Hp} {t : Str} (h1 : t.length ≤ 20000) (h2 : readD t = none) : SpV (sp_L_refused K) ([.str t] ++ []) H (.bl true) := spv_call fun _ _ _ _ k => ⟨t, rfl, h1, h2, k⟩
theorem ok_L_refused {P : Program} {w : World} {K : PySem.W.Frag} {mg : Str → Option Value} {base : Heap} (T : Txt K mg) : ∃ fd, FnOk P w K mg base (CX0) 5 (He.ga K "_law_refused") fd ["_law_text_here"] (sp_L_refused K) ∧ Binds K fd ["_law_text_here"] [] ∧ FunD K "_law_refused" "_law_refused" (defArgs s_L_refused) (defBody s_L_refused) (defScope s_L_refused) [] [] (He.ga K "_law_refused") fd := by
  obtain ⟨fd, F⟩ := f_L_refused T
  obtain ⟨d_read, G_read, b_read, _⟩ := ok_read (P := P) (w := w) (base := base) T
  obtain ⟨d_L_word, G_L_word, b_L_word, _⟩ := ok_L_word (P := P) (w := w) (base := base) T
  refine ⟨fd, ok0 F sc_L_refused (fun vs H Q E h => ?_) (fun cdv A outer s H vs Q E hr h => ?_), FunD.bindsN F fun _ _ _ _ _ _ us hl => match us, hl with | [_], _ => rfl, F⟩
  · (repeat (obtain ⟨_, h⟩ := h)); subst_vars; rfl
  · obtain ⟨t, rfl, hl, hn, k⟩ := h
    refine ⟨_, (pss_cut (L2N.ps_try_as (i := 1) rfl rfl sc_L_refused.nd rfl rfl ⟨rfl, by decide, .inl (g_DeskError T)⟩ takes0N (fun W pn xe tk _ => (pss_one (ps_expr (pe_callS G_read (hr.mono (by decide)) rfl (g_read T) (kp_read T) b_read (fun σ => L2N.passAt tk σ) (pa_cons (pv 0) pa_nil)))))
        (fun a oe cls d pn hz hf => (pss_one (ps_ret (pe_cmpR op_eq (pe_word G_L_word (hr.mono (by decide)) rfl (g_L_word T) (kp_L_word T) b_L_word hz hf (pv 1)) pe_str (nomark _))))))
        (pss_one (ps_ret pe_bl))), ?_⟩
    refine q_cut (M := fun _ _ => False) ?_ (fun _ _ h => h.elim)
    refine ⟨_, rfl, ?_⟩
    exact ⟨t, rfl, hl, fun _ H1 e1 => ⟨true, ks_d (excK_ok T.ex) desk_in.1, fun _ a ha => s_ret (v := .bl true) (ev_is (ev_op (ev_word rfl desk_in.1) ev_c (rv_eq rfl)) (by rw [desk_in.2]; exact congrArg V.bl (decide_eq_true rfl))) fun H2 e2 => k H2 (e1.trans e2), fun h => by cases h⟩, fun d hd => by rw [hn] at hd; cases hd⟩
/-! ### L_text -/
theorem sc_L_text : FnScope ["_law_rows", "_law_row_here"] ["_law_rows"] (defScope s_L_text) := ⟨rfl, rfl, rfl, by decide +kernel, rfl, by decide +kernel, by decide +kernel⟩
def sp_L_text (K : PySem.W.Frag) : Sp := fun vs H Q _ => ∃ (a : Addr) (ts : List (Addr × List Str)), vs = [.ref a] ∧ RwAt H a ts ∧ (∀ r ∈ ts.map (·.2), Sm r) ∧ ts.length ≤ 63 ∧ RetV (.str (textL ((ts.map (·.2)).map rowT))) H Q
theorem cv_L_text {K : PySem.W.Frag} {H : Hp} {a : Addr} {ts : List (Addr × List Str)} (h : RwAt H a ts) (hs : ∀ r ∈ ts.map (·.2), Sm r) (hl : ts.length ≤ 63) : SpV (sp_L_text K) ([.ref a] ++ []) H (.str (textL ((ts.map (·.2)).map rowT))) := spv_call fun _ e _ _ k => ⟨a, ts, rfl, h.ex e, hs, hl, k⟩
theorem ok_L_text {P : Program} {w : World} {K : PySem.W.Frag} {mg : Str → Option Value} {base : Heap} (T : Txt K mg) : ∃ fd, FnOk P w K mg base (CX0) 1 (He.ga K "_law_text") fd ["_law_rows"] (sp_L_text K) ∧ Binds K fd ["_law_rows"] [] ∧ FunD K "_law_text" "_law_text" (defArgs s_L_text) (defBody s_L_text) (defScope s_L_text) [] [] (He.ga K "_law_text") fd := by
  obtain ⟨fd, F⟩ := f_L_text T
  refine ⟨fd, ok0 F sc_L_text (fun vs H Q E h => ?_) (fun cdv A outer s H vs Q E hr h => ?_), FunD.bindsN F fun _ _ _ _ _ _ us hl => match us, hl with | [_], _ => rfl, F⟩
  · (repeat (obtain ⟨_, h⟩ := h)); subst_vars; rfl
  · obtain ⟨a, ts, rfl, hR, hs, hl, k⟩ := h
    refine ⟨_, (pss_one (ps_ret (pe_join pe_str (pe_lc (own := [("_law_row_here", 1)]) (g := gName 1) (tt := tYes) rfl sc_L_text.nd (pi_listK (K := K) rfl (pv 0)) (blkOk_by (own := [("_law_row_here", 1)]) (N := ["_law_rows", "_law_row_here"]) (sc := defScope s_L_text) (by decide +kernel)) (fun _ _ _ _ _ => (pg_name (i := 1) sc_L_text.nd rfl (Or.inl rfl))) (fun _ _ _ _ _ => pts_nil) (fun _ _ _ _ _ => (pe_op op_add_str (pe_joinK (K := K) rfl pe_str (pv 1)) pe_str)))))), ?_⟩
    have h12 : ("\n" : Str).length = 1 := by decide +kernel
    have h11 : (" " : Str).length = 1 := by decide +kernel
    have hw : ∀ q ∈ ts, Sm q.2 := fun q hq => hs q.2 (List.mem_map.mpr ⟨q, hq, rfl⟩)
    have hsum : ∀ l : List (Addr × List Str), (∀ q ∈ l, Sm q.2) → ((l.map fun q => rowT q.2 ++ "\n").map (·.length)).sum ≤ l.length * 166 := by
      intro l
      induction l with
      | nil => intro _; simp
      | cons q l ih =>
        intro h
        have h1 := sm_len (h q (List.mem_cons_self ..))
        have h2 := ih fun x hx => h x (List.mem_cons_of_mem _ hx)
        rw [List.map_cons, List.map_cons, List.sum_cons, List.length_cons, len_app, h12]
        omega
    have hmm : (ts.map fun q => rowT q.2 ++ "\n") = ((ts.map fun q : Addr × List Str => q.2).map rowT).map (fun r : Str => r ++ "\n") := by
      rw [List.map_map, List.map_map]
      rfl
    have hg : (ts.filter fun _ => true).map (fun q => V.str (rowT q.2 ++ "\n")) = (ts.map fun q => rowT q.2 ++ "\n").map V.str := by
      rw [filter_true, List.map_map]
      rfl
    refine s_ret (v := .str (textL ((ts.map fun q : Addr × List Str => q.2).map rowT))) ?_ k
    unfold textL
    rw [← hmm]
    refine ev_joinL ev_c ?_ ?_
    · rw [← hg]
      refine el_lcM (K := K) (ps := ts) (uu := fun q => V.ref q.1) (fun _ => true) (fun q => V.str (rowT q.2 ++ "\n")) (ev_var rfl) (sq_of hR.1) (by omega) (fun _ => rfl) (fun _ _ _ _ => et_yes) fun q hq H1 e1 _ => ?_
      have h5 := (hw q hq).1
      have hq2 : (q.2.map (·.length)).sum ≤ q.2.length * 32 := by
        have : ∀ l : List Str, (∀ w ∈ l, w.length ≤ 32) → (l.map (·.length)).sum ≤ l.length * 32 := by
          intro l
          induction l with
          | nil => intro _; simp
          | cons w l ih =>
            intro h
            have h1 := h w (List.mem_cons_self ..)
            have h2 := ih fun x hx => h x (List.mem_cons_of_mem _ hx)
            rw [List.map_cons, List.sum_cons, List.length_cons]
            omega
        exact this q.2 fun w hx => ((hw q hq).2 w hx).2
      exact ev_op (ev_joinA ev_c (ev_var rfl) (sq_of (e1 _ _ (hR.2 q hq))) (by rw [h11]; omega)) ev_c (rv_addS (sz_of (by
        have := sm_len (hw q hq)
        rw [h12]
        show (rowT q.2).length + 1 ≤ _
        omega)))
    · have := hsum ts hw
      rw [List.length_map, show ("" : Str).length = 0 from by decide +kernel, Nat.mul_zero]
      omega
/-! ### L_head -/
theorem sc_L_head : FnScope ["_law_head_here", "_law_way", "_law_pace", "_law_room", "_law_now", "_law_some"] ["_law_head_here", "_law_way"] (defScope s_L_head) := ⟨rfl, rfl, rfl, by decide +kernel, rfl, by decide +kernel, by decide +kernel⟩
def sp_L_head (_ : PySem.W.Frag) : Sp := fun vs H Q _ => ∃ (r : Addr) (hd pa ro no : Str) (w : Int), vs = [.ref r, .int w] ∧ H r = some (.lst ([hd, pa, ro, no].map V.str)) ∧ pa.length ≤ 15 ∧ ro.length ≤ 15 ∧ no.length ≤ 15 ∧ 0 ≤ w ∧ w < 22 ∧ ∀ q H', Ex H H' → H' q = some (.lst (((headRows pa ro no).getD w.toNat []).map V.str)) → Q (.ref q) H'
theorem ok_L_head {P : Program} {w : World} {K : PySem.W.Frag} {mg : Str → Option Value} {base : Heap} (T : Txt K mg) : ∃ fd, FnOk P w K mg base (CX0) 1 (He.ga K "_law_head") fd ["_law_head_here", "_law_way"] (sp_L_head K) ∧ Binds K fd ["_law_head_here", "_law_way"] [] ∧ FunD K "_law_head" "_law_head" (defArgs s_L_head) (defBody s_L_head) (defScope s_L_head) [] [] (He.ga K "_law_head") fd := by
  obtain ⟨fd, F⟩ := f_L_head T
  refine ⟨fd, ok0 F sc_L_head (fun vs H Q E h => ?_) (fun cdv A outer s H vs Q E hr h => ?_), FunD.bindsN F fun _ _ _ _ _ _ us hl => match us, hl with | [_, _], _ => rfl, F⟩
  · (repeat (obtain ⟨_, h⟩ := h)); subst_vars; rfl
  · obtain ⟨r, hd, pa, ro, no, w, rfl, hr1, hp, ho, hn, w0, w1, k⟩ := h
    refine ⟨_, (pss_cons (ps_par3 rfl sc_L_head.nd rfl rfl rfl (by decide) (by decide) (by decide) (i := 2) (j := 3) (l := 4) rfl rfl rfl (pa_cons (pe_ix (ix_listK (K := K) rfl) (pv 0) pe_int (fun _ _ => rfl)) (pa_cons (pe_ix (ix_listK (K := K) rfl) (pv 0) pe_int (fun _ _ => rfl)) (pa_cons (pe_ix (ix_listK (K := K) rfl) (pv 0) pe_int (fun _ _ => rfl)) pa_nil))) rfl)
        (pss_cons (ps_set (i := 5) sc_L_head.nd rfl (Or.inl rfl) (pe_lst (pa_cons (pe_lst (pa_cons pe_str (pa_cons pe_str (pa_cons (pv 3) (pa_cons (pv 4) pa_nil))))) (pa_cons (pe_lst (pa_cons pe_str (pa_cons pe_str (pa_cons (pv 3) (pa_cons (pv 4) pa_nil))))) (pa_cons (pe_lst (pa_cons pe_str (pa_cons (pv 2) (pa_cons pe_str (pa_cons (pv 4) pa_nil))))) (pa_cons (pe_lst (pa_cons pe_str (pa_cons (pv 2) (pa_cons pe_str (pa_cons (pv 4) pa_nil))))) pa_nil))))))
        (pss_cons (ps_set (i := 5) sc_L_head.nd rfl (Or.inl rfl) (pe_op op_cat (pv 5) (pe_lst (pa_cons (pe_lst (pa_cons pe_str (pa_cons (pv 2) (pa_cons (pv 3) (pa_cons (pe_op op_add_str pe_str (pv 4)) pa_nil))))) (pa_cons (pe_lst (pa_cons pe_str (pa_cons (pv 2) (pa_cons (pv 3) (pa_cons pe_str pa_nil))))) (pa_cons (pe_lst (pa_cons pe_str (pa_cons (pv 2) (pa_cons (pv 3) (pa_cons (pe_op op_add_str pe_str (pe_op op_rep_str pe_str pe_int)) pa_nil))))) pa_nil))))))
        (pss_cons (ps_set (i := 5) sc_L_head.nd rfl (Or.inl rfl) (pe_op op_cat (pv 5) (pe_lst (pa_cons (pe_lst (pa_cons pe_str (pa_cons (pe_op op_add_str pe_str (pv 2)) (pa_cons (pv 3) (pa_cons (pv 4) pa_nil))))) (pa_cons (pe_lst (pa_cons pe_str (pa_cons (pv 2) (pa_cons (pv 3) (pa_cons (pv 4) pa_nil))))) (pa_cons (pe_lst (pa_cons pe_str (pa_cons (pv 2) (pa_cons (pv 3) pa_nil)))) pa_nil))))))
        (pss_cons (ps_set (i := 5) sc_L_head.nd rfl (Or.inl rfl) (pe_op op_cat (pv 5) (pe_lst (pa_cons (pe_lst (pa_cons pe_str (pa_cons (pv 2) (pa_cons (pv 3) (pa_cons (pv 4) (pa_cons pe_str pa_nil)))))) (pa_cons (pe_lst (pa_cons pe_str (pa_cons (pv 2) (pa_cons (pv 3) (pa_cons (pv 4) pa_nil))))) (pa_cons (pe_lst (pa_cons pe_str (pa_cons pe_str (pa_cons (pv 2) (pa_cons (pv 3) (pa_cons (pv 4) pa_nil)))))) pa_nil))))))
        (pss_cons (ps_set (i := 5) sc_L_head.nd rfl (Or.inl rfl) (pe_op op_cat (pv 5) (pe_lst (pa_cons (pe_lst (pa_cons pe_str (pa_cons (pv 2) (pa_cons (pv 3) (pa_cons (pv 4) (pa_cons pe_str pa_nil)))))) (pa_cons (pe_lst (pa_cons pe_str (pa_cons (pv 2) (pa_cons (pe_op op_add_str (pv 3) pe_str) (pa_cons (pv 4) pa_nil))))) (pa_cons (pe_lst (pa_cons pe_str (pa_cons (pe_op op_add_str pe_str (pv 2)) (pa_cons (pv 3) (pa_cons (pv 4) pa_nil))))) pa_nil))))))
        (pss_cons (ps_set (i := 5) sc_L_head.nd rfl (Or.inl rfl) (pe_op op_cat (pv 5) (pe_lst (pa_cons (pe_lst (pa_cons pe_str (pa_cons (pv 2) (pa_cons (pe_op op_add_str pe_str (pv 3)) (pa_cons (pv 4) pa_nil))))) (pa_cons (pe_lst (pa_cons (pe_op op_add_str pe_str (pv 2)) (pa_cons (pv 3) (pa_cons (pv 4) pa_nil)))) (pa_cons (pe_lst (pa_cons pe_str (pa_cons (pv 2) (pa_cons (pv 3) (pa_cons (pe_op op_add_str (pv 4) pe_str) pa_nil))))) pa_nil))))))
        (pss_cons (ps_set (i := 5) sc_L_head.nd rfl (Or.inl rfl) (pe_op op_cat (pv 5) (pe_lst (pa_cons (pe_lst (pa_cons pe_str (pa_cons (pe_op op_add_str pe_str (pv 2)) (pa_cons (pv 3) (pa_cons (pv 4) pa_nil))))) (pa_cons (pe_lst (pa_cons pe_str (pa_cons (pv 2) (pa_cons (pv 3) (pa_cons (pe_op op_add_str pe_str (pv 4)) pa_nil))))) (pa_cons (pe_lst (pa_cons pe_str (pa_cons (pv 2) (pa_cons (pv 3) (pa_cons (pe_op op_add_str (pv 4) pe_str) pa_nil))))) pa_nil))))))
        (pss_one (ps_ret (pe_ix (ix_listK (K := K) rfl) (pv 5) (pv 1) (fun _ _ => rfl)))))))))))), ?_⟩
    have a1 : pa.length ≤ 32 := by omega
    have a2 : ro.length ≤ 32 := by omega
    have a3 : no.length ≤ 32 := by omega
    refine q_par3 (u := .str pa) (v := .str ro) (w := .str no) (ea_cons (ev_op (ev_var rfl) ev_c (rv_ixL (i := 1) (sq_of hr1) atW.2.1)) (ea_cons (ev_op (ev_var rfl) ev_c (rv_ixL (i := 2) (sq_of hr1) atW.2.2.1)) (ea_cons (ev_op (ev_var rfl) ev_c (rv_ixL (i := 3) (sq_of hr1) atW.2.2.2)) ea_nil))) fun H0 e0 => ?_
    refine q_asgWt (fun p => [some (.ref r), some (.int w), some (.str pa), some (.str ro), some (.str no), some (.ref p)]) (rows := ([["desk", "0", ro, no], ["desk", "1001", ro, no], ["desk", pa, "0", no], ["desk", pa, "61", no]] : List (List Str))) (ew_lst (wa_cons (w1_lst (ea_cons ev_c (ea_cons ev_c (ea_cons (ev_var rfl) (ea_cons (ev_var rfl) ea_nil)))) (Nat.le_of_ble_eq_true rfl)) (wa_cons (w1_lst (ea_cons ev_c (ea_cons ev_c (ea_cons (ev_var rfl) (ea_cons (ev_var rfl) ea_nil)))) (Nat.le_of_ble_eq_true rfl)) (wa_cons (w1_lst (ea_cons ev_c (ea_cons (ev_var rfl) (ea_cons ev_c (ea_cons (ev_var rfl) ea_nil)))) (Nat.le_of_ble_eq_true rfl)) (wa_cons (w1_lst (ea_cons ev_c (ea_cons (ev_var rfl) (ea_cons ev_c (ea_cons (ev_var rfl) ea_nil)))) (Nat.le_of_ble_eq_true rfl)) wa_nil)))) (Nat.le_of_ble_eq_true rfl)) (fun _ => rfl) fun b0 H1 ts0 e1 hR0 hm0 => ?_
    have hl0 : (ts0.map (·.2)).length = 4 := by rw [hm0]; rfl
    refine q_asgWt (fun p => [some (.ref r), some (.int w), some (.str pa), some (.str ro), some (.str no), some (.ref p)]) (rows := ts0.map (·.2) ++ ([["desk", pa, ro, ("0" : Str) ++ no], ["desk", pa, ro, "-1"], ["desk", pa, ro, ("1" : Str) ++ zs12]] : List (List Str))) (ew_cat (ew_var rfl hR0 rfl) (ew_lst (wa_cons (w1_lst (ea_cons ev_c (ea_cons (ev_var rfl) (ea_cons (ev_var rfl) (ea_cons (ev_op ev_c (ev_var rfl) (rv_addS (szl (by decide +kernel) a3))) ea_nil)))) (Nat.le_of_ble_eq_true rfl)) (wa_cons (w1_lst (ea_cons ev_c (ea_cons (ev_var rfl) (ea_cons (ev_var rfl) (ea_cons ev_c ea_nil)))) (Nat.le_of_ble_eq_true rfl)) (wa_cons (w1_lst (ea_cons ev_c (ea_cons (ev_var rfl) (ea_cons (ev_var rfl) (ea_cons (ev_op ev_c (ev_op ev_c ev_c (rv_repS (by decide) (by decide) (by decide +kernel) (by decide +kernel))) (rv_addS (szl (by decide +kernel) (by decide +kernel)))) ea_nil)))) (Nat.le_of_ble_eq_true rfl)) wa_nil))) (Nat.le_of_ble_eq_true rfl)) (by rw [hl0]; exact Nat.le_of_ble_eq_true rfl)) (fun _ => rfl) fun b1 H2 ts1 e2 hR1 hm1 => ?_
    have hl1 : (ts1.map (·.2)).length = 7 := by rw [hm1, List.length_append, hl0]; rfl
    refine q_asgWt (fun p => [some (.ref r), some (.int w), some (.str pa), some (.str ro), some (.str no), some (.ref p)]) (rows := ts1.map (·.2) ++ ([["desk", ("+" : Str) ++ pa, ro, no], ["Desk", pa, ro, no], ["desk", pa, ro]] : List (List Str))) (ew_cat (ew_var rfl hR1 rfl) (ew_lst (wa_cons (w1_lst (ea_cons ev_c (ea_cons (ev_op ev_c (ev_var rfl) (rv_addS (szl (by decide +kernel) a1))) (ea_cons (ev_var rfl) (ea_cons (ev_var rfl) ea_nil)))) (Nat.le_of_ble_eq_true rfl)) (wa_cons (w1_lst (ea_cons ev_c (ea_cons (ev_var rfl) (ea_cons (ev_var rfl) (ea_cons (ev_var rfl) ea_nil)))) (Nat.le_of_ble_eq_true rfl)) (wa_cons (w1_lst (ea_cons ev_c (ea_cons (ev_var rfl) (ea_cons (ev_var rfl) ea_nil))) (Nat.le_of_ble_eq_true rfl)) wa_nil))) (Nat.le_of_ble_eq_true rfl)) (by rw [hl1]; exact Nat.le_of_ble_eq_true rfl)) (fun _ => rfl) fun b2 H3 ts2 e3 hR2 hm2 => ?_
    have hl2 : (ts2.map (·.2)).length = 10 := by rw [hm2, List.length_append, hl1]; rfl
    refine q_asgWt (fun p => [some (.ref r), some (.int w), some (.str pa), some (.str ro), some (.str no), some (.ref p)]) (rows := ts2.map (·.2) ++ ([["desk", pa, ro, no, "0"], ["", pa, ro, no], ["desk", "", pa, ro, no]] : List (List Str))) (ew_cat (ew_var rfl hR2 rfl) (ew_lst (wa_cons (w1_lst (ea_cons ev_c (ea_cons (ev_var rfl) (ea_cons (ev_var rfl) (ea_cons (ev_var rfl) (ea_cons ev_c ea_nil))))) (Nat.le_of_ble_eq_true rfl)) (wa_cons (w1_lst (ea_cons ev_c (ea_cons (ev_var rfl) (ea_cons (ev_var rfl) (ea_cons (ev_var rfl) ea_nil)))) (Nat.le_of_ble_eq_true rfl)) (wa_cons (w1_lst (ea_cons ev_c (ea_cons ev_c (ea_cons (ev_var rfl) (ea_cons (ev_var rfl) (ea_cons (ev_var rfl) ea_nil))))) (Nat.le_of_ble_eq_true rfl)) wa_nil))) (Nat.le_of_ble_eq_true rfl)) (by rw [hl2]; exact Nat.le_of_ble_eq_true rfl)) (fun _ => rfl) fun b3 H4 ts3 e4 hR3 hm3 => ?_
    have hl3 : (ts3.map (·.2)).length = 13 := by rw [hm3, List.length_append, hl2]; rfl
    refine q_asgWt (fun p => [some (.ref r), some (.int w), some (.str pa), some (.str ro), some (.str no), some (.ref p)]) (rows := ts3.map (·.2) ++ ([["desk", pa, ro, no, ""], ["desk", pa, ro ++ "_0", no], ["desk", ("0" : Str) ++ pa, ro, no]] : List (List Str))) (ew_cat (ew_var rfl hR3 rfl) (ew_lst (wa_cons (w1_lst (ea_cons ev_c (ea_cons (ev_var rfl) (ea_cons (ev_var rfl) (ea_cons (ev_var rfl) (ea_cons ev_c ea_nil))))) (Nat.le_of_ble_eq_true rfl)) (wa_cons (w1_lst (ea_cons ev_c (ea_cons (ev_var rfl) (ea_cons (ev_op (ev_var rfl) ev_c (rv_addS (szl a2 (by decide +kernel)))) (ea_cons (ev_var rfl) ea_nil)))) (Nat.le_of_ble_eq_true rfl)) (wa_cons (w1_lst (ea_cons ev_c (ea_cons (ev_op ev_c (ev_var rfl) (rv_addS (szl (by decide +kernel) a1))) (ea_cons (ev_var rfl) (ea_cons (ev_var rfl) ea_nil)))) (Nat.le_of_ble_eq_true rfl)) wa_nil))) (Nat.le_of_ble_eq_true rfl)) (by rw [hl3]; exact Nat.le_of_ble_eq_true rfl)) (fun _ => rfl) fun b4 H5 ts4 e5 hR4 hm4 => ?_
    have hl4 : (ts4.map (·.2)).length = 16 := by rw [hm4, List.length_append, hl3]; rfl
    refine q_asgWt (fun p => [some (.ref r), some (.int w), some (.str pa), some (.str ro), some (.str no), some (.ref p)]) (rows := ts4.map (·.2) ++ ([["desk", pa, ("0" : Str) ++ ro, no], [("desk\t" : Str) ++ pa, ro, no], ["desk", pa, ro, no ++ "\t"]] : List (List Str))) (ew_cat (ew_var rfl hR4 rfl) (ew_lst (wa_cons (w1_lst (ea_cons ev_c (ea_cons (ev_var rfl) (ea_cons (ev_op ev_c (ev_var rfl) (rv_addS (szl (by decide +kernel) a2))) (ea_cons (ev_var rfl) ea_nil)))) (Nat.le_of_ble_eq_true rfl)) (wa_cons (w1_lst (ea_cons (ev_op ev_c (ev_var rfl) (rv_addS (szl (by decide +kernel) a1))) (ea_cons (ev_var rfl) (ea_cons (ev_var rfl) ea_nil))) (Nat.le_of_ble_eq_true rfl)) (wa_cons (w1_lst (ea_cons ev_c (ea_cons (ev_var rfl) (ea_cons (ev_var rfl) (ea_cons (ev_op (ev_var rfl) ev_c (rv_addS (szl a3 (by decide +kernel)))) ea_nil)))) (Nat.le_of_ble_eq_true rfl)) wa_nil))) (Nat.le_of_ble_eq_true rfl)) (by rw [hl4]; exact Nat.le_of_ble_eq_true rfl)) (fun _ => rfl) fun b5 H6 ts5 e6 hR5 hm5 => ?_
    have hl5 : (ts5.map (·.2)).length = 19 := by rw [hm5, List.length_append, hl4]; rfl
    refine q_asgWt (fun p => [some (.ref r), some (.int w), some (.str pa), some (.str ro), some (.str no), some (.ref p)]) (rows := ts5.map (·.2) ++ ([["desk", ("-" : Str) ++ pa, ro, no], ["desk", pa, ro, ("+" : Str) ++ no], ["desk", pa, ro, no ++ "_0"]] : List (List Str))) (ew_cat (ew_var rfl hR5 rfl) (ew_lst (wa_cons (w1_lst (ea_cons ev_c (ea_cons (ev_op ev_c (ev_var rfl) (rv_addS (szl (by decide +kernel) a1))) (ea_cons (ev_var rfl) (ea_cons (ev_var rfl) ea_nil)))) (Nat.le_of_ble_eq_true rfl)) (wa_cons (w1_lst (ea_cons ev_c (ea_cons (ev_var rfl) (ea_cons (ev_var rfl) (ea_cons (ev_op ev_c (ev_var rfl) (rv_addS (szl (by decide +kernel) a3))) ea_nil)))) (Nat.le_of_ble_eq_true rfl)) (wa_cons (w1_lst (ea_cons ev_c (ea_cons (ev_var rfl) (ea_cons (ev_var rfl) (ea_cons (ev_op (ev_var rfl) ev_c (rv_addS (szl a3 (by decide +kernel)))) ea_nil)))) (Nat.le_of_ble_eq_true rfl)) wa_nil))) (Nat.le_of_ble_eq_true rfl)) (by rw [hl5]; exact Nat.le_of_ble_eq_true rfl)) (fun _ => rfl) fun b6 H7 ts6 e7 hR6 hm6 => ?_
    have hl6 : (ts6.map (·.2)).length = 22 := by rw [hm6, List.length_append, hl5]; rfl
    have e99 := (((((((e0.trans e1).trans e2).trans e3).trans e4).trans e5).trans e6).trans e7)
    have hm99 : ts6.map (·.2) = headRows pa ro no := by
      rw [hm6, hm5, hm4, hm3, hm2, hm1, hm0]
      rfl
    rw [List.length_map] at hl6
    have hq : ts6[w.toNat]? = some (ts6[w.toNat]'(by omega)) := List.getElem?_eq_getElem _
    generalize ts6[w.toNat]'(by omega) = q at hq
    have h2 : (headRows pa ro no).getD w.toNat [] = q.2 := by
      rw [← hm99, List.getD_eq_getElem?_getD, List.getElem?_map, hq]
      rfl
    refine s_ret (v := .ref q.1) (ev_op (ev_var rfl) (ev_var rfl) (rv_ixL (sq_of hR6.1) (at_of (j := w.toNat) (by omega) (by rw [List.getElem?_map, hq]; rfl)))) fun H99 e100 => k q.1 H99 (e99.trans e100) ?_
    rw [h2]
    exact e100 _ _ (hR6.2 q (List.mem_of_getElem? hq))
/-! ### L_row -/
theorem sc_L_row : FnScope ["_law_row_here", "_law_way", "_law_now", "_law_name", "_law_rank", "_law_state", "_law_last", "_law_some"] ["_law_row_here", "_law_way", "_law_now"] (defScope s_L_row) := ⟨rfl, rfl, rfl, by decide +kernel, rfl, by decide +kernel, by decide +kernel⟩
def sp_L_row (_ : PySem.W.Frag) : Sp := fun vs H Q _ => ∃ (r : Addr) (nm rk st la : Str) (w now : Int), vs = [.ref r, .int w, .int now] ∧ H r = some (.lst ([nm, rk, st, la].map V.str)) ∧ nm.length ≤ 15 ∧ rk.length ≤ 15 ∧ st.length ≤ 15 ∧ la.length ≤ 15 ∧ 0 ≤ w ∧ w < 36 ∧ 0 ≤ now ∧ now < 1000000000000 ∧ ∀ q H', Ex H H' → H' q = some (.lst (((rowRows nm rk st la (SI (now + 1))).getD w.toNat []).map V.str)) → Q (.ref q) H'
theorem ok_L_row {P : Program} {w : World} {K : PySem.W.Frag} {mg : Str → Option Value} {base : Heap} (T : Txt K mg) : ∃ fd, FnOk P w K mg base (CX0) 1 (He.ga K "_law_row") fd ["_law_row_here", "_law_way", "_law_now"] (sp_L_row K) ∧ Binds K fd ["_law_row_here", "_law_way", "_law_now"] [] ∧ FunD K "_law_row" "_law_row" (defArgs s_L_row) (defBody s_L_row) (defScope s_L_row) [] [] (He.ga K "_law_row") fd := by
  obtain ⟨fd, F⟩ := f_L_row T
  refine ⟨fd, ok0 F sc_L_row (fun vs H Q E h => ?_) (fun cdv A outer s H vs Q E hr h => ?_), FunD.bindsN F fun _ _ _ _ _ _ us hl => match us, hl with | [_, _, _], _ => rfl, F⟩
  · (repeat (obtain ⟨_, h⟩ := h)); subst_vars; rfl
  · obtain ⟨r, nm, rk, st, la, w, now, rfl, hr1, hp, ho, hn, hla, w0, w1, n0, n1, k⟩ := h
    refine ⟨_, (pss_cons (ps_asg (pe_tup (pa_cons (pe_ix (ix_listK (K := K) rfl) (pv 0) pe_int (fun _ _ => rfl)) (pa_cons (pe_ix (ix_listK (K := K) rfl) (pv 0) pe_int (fun _ _ => rfl)) (pa_cons (pe_ix (ix_listK (K := K) rfl) (pv 0) pe_int (fun _ _ => rfl)) (pa_cons (pe_ix (ix_listK (K := K) rfl) (pv 0) pe_int (fun _ _ => rfl)) pa_nil))))) (pg_tup rfl (pgs_cons (pg_name (i := 3) sc_L_row.nd rfl (Or.inl rfl)) (pgs_cons (pg_name (i := 4) sc_L_row.nd rfl (Or.inl rfl)) (pgs_cons (pg_name (i := 5) sc_L_row.nd rfl (Or.inl rfl)) (pgs_cons (pg_name (i := 6) sc_L_row.nd rfl (Or.inl rfl)) pgs_nil))))))
        (pss_cons (ps_set (i := 7) sc_L_row.nd rfl (Or.inl rfl) (pe_lst (pa_cons (pe_lst (pa_cons (pv 3) (pa_cons pe_str (pa_cons (pv 5) (pa_cons (pv 6) pa_nil))))) (pa_cons (pe_lst (pa_cons (pv 3) (pa_cons (pe_op op_add_str pe_str (pv 4)) (pa_cons (pv 5) (pa_cons (pv 6) pa_nil))))) (pa_cons (pe_lst (pa_cons (pv 3) (pa_cons pe_str (pa_cons (pv 5) (pa_cons (pv 6) pa_nil))))) pa_nil)))))
        (pss_cons (ps_set (i := 7) sc_L_row.nd rfl (Or.inl rfl) (pe_op op_cat (pv 7) (pe_lst (pa_cons (pe_lst (pa_cons (pe_op op_add_str (pv 3) pe_str) (pa_cons (pv 4) (pa_cons (pv 5) (pa_cons (pv 6) pa_nil))))) (pa_cons (pe_lst (pa_cons (pv 3) (pa_cons (pv 4) (pa_cons pe_str (pa_cons (pv 6) pa_nil))))) (pa_cons (pe_lst (pa_cons (pv 3) (pa_cons (pv 4) (pa_cons pe_str (pa_cons (pe_callTy call_str_int rfl (b_str T) (by decide +kernel) (pa_cons (pe_op op_add (pv 2) pe_int) pa_nil)) pa_nil))))) pa_nil))))))
        (pss_cons (ps_set (i := 7) sc_L_row.nd rfl (Or.inl rfl) (pe_op op_cat (pv 7) (pe_lst (pa_cons (pe_lst (pa_cons (pv 3) (pa_cons (pv 4) (pa_cons pe_str (pa_cons pe_str pa_nil))))) (pa_cons (pe_lst (pa_cons (pv 3) (pa_cons (pv 4) (pa_cons pe_str (pa_cons pe_str pa_nil))))) (pa_cons (pe_lst (pa_cons (pv 3) (pa_cons (pv 4) (pa_cons pe_str (pa_cons pe_str pa_nil))))) pa_nil))))))
        (pss_cons (ps_set (i := 7) sc_L_row.nd rfl (Or.inl rfl) (pe_op op_cat (pv 7) (pe_lst (pa_cons (pe_lst (pa_cons (pv 3) (pa_cons (pv 4) (pa_cons (pv 5) pa_nil)))) (pa_cons (pe_lst (pa_cons (pv 3) (pa_cons (pv 4) (pa_cons (pv 5) (pa_cons (pv 6) (pa_cons (pv 6) pa_nil)))))) (pa_cons (pe_lst (pa_cons pe_str (pa_cons (pv 3) (pa_cons (pv 4) (pa_cons (pv 5) (pa_cons (pv 6) pa_nil)))))) (pa_cons (pe_lst (pa_cons pe_str pa_nil)) pa_nil)))))))
        (pss_cons (ps_set (i := 7) sc_L_row.nd rfl (Or.inl rfl) (pe_op op_cat (pv 7) (pe_lst (pa_cons (pe_lst (pa_cons (pv 3) (pa_cons (pv 4) (pa_cons (pv 5) (pa_cons (pv 6) (pa_cons pe_str pa_nil)))))) (pa_cons (pe_lst (pa_cons (pv 3) (pa_cons pe_str (pa_cons (pv 4) (pa_cons (pv 5) (pa_cons (pv 6) pa_nil)))))) (pa_cons (pe_lst (pa_cons (pv 3) (pa_cons (pe_op op_add_str pe_str (pv 4)) (pa_cons (pv 5) (pa_cons (pv 6) pa_nil))))) pa_nil))))))
        (pss_cons (ps_set (i := 7) sc_L_row.nd rfl (Or.inl rfl) (pe_op op_cat (pv 7) (pe_lst (pa_cons (pe_lst (pa_cons (pv 3) (pa_cons (pv 4) (pa_cons pe_str (pa_cons pe_str pa_nil))))) (pa_cons (pe_lst (pa_cons (pv 3) (pa_cons (pv 4) (pa_cons pe_str (pa_cons pe_str pa_nil))))) (pa_cons (pe_lst (pa_cons (pv 3) (pa_cons (pv 4) (pa_cons pe_str (pa_cons pe_str pa_nil))))) pa_nil))))))
        (pss_cons (ps_set (i := 7) sc_L_row.nd rfl (Or.inl rfl) (pe_op op_cat (pv 7) (pe_lst (pa_cons (pe_lst (pa_cons (pv 3) (pa_cons (pv 4) (pa_cons pe_str (pa_cons (pv 6) pa_nil))))) (pa_cons (pe_lst (pa_cons (pv 3) (pa_cons (pv 4) (pa_cons pe_str (pa_cons pe_str pa_nil))))) (pa_cons (pe_lst (pa_cons (pv 3) (pa_cons pe_str (pa_cons (pv 5) (pa_cons (pv 6) pa_nil))))) pa_nil))))))
        (pss_cons (ps_set (i := 7) sc_L_row.nd rfl (Or.inl rfl) (pe_op op_cat (pv 7) (pe_lst (pa_cons (pe_lst (pa_cons (pe_op op_add_str (pe_op op_add_str (pv 3) pe_str) (pv 4)) (pa_cons (pv 5) (pa_cons (pv 6) pa_nil)))) (pa_cons (pe_lst (pa_cons (pv 3) (pa_cons (pv 4) (pa_cons (pv 5) (pa_cons (pe_op op_add_str (pv 6) pe_str) pa_nil))))) (pa_cons (pe_lst (pa_cons (pv 3) (pa_cons (pe_op op_add_str pe_str (pv 4)) (pa_cons (pv 5) (pa_cons (pv 6) pa_nil))))) pa_nil))))))
        (pss_cons (ps_set (i := 7) sc_L_row.nd rfl (Or.inl rfl) (pe_op op_cat (pv 7) (pe_lst (pa_cons (pe_lst (pa_cons (pv 3) (pa_cons (pv 4) (pa_cons pe_str (pa_cons pe_str pa_nil))))) (pa_cons (pe_lst (pa_cons (pv 3) (pa_cons (pv 4) (pa_cons (pe_op op_add_str (pv 5) pe_str) (pa_cons (pv 6) pa_nil))))) (pa_cons (pe_lst (pa_cons (pv 3) (pa_cons (pv 4) (pa_cons pe_str (pa_cons pe_str pa_nil))))) pa_nil))))))
        (pss_cons (ps_set (i := 7) sc_L_row.nd rfl (Or.inl rfl) (pe_op op_cat (pv 7) (pe_lst (pa_cons (pe_lst (pa_cons (pv 3) (pa_cons (pv 4) (pa_cons pe_str (pa_cons pe_str pa_nil))))) (pa_cons (pe_lst (pa_cons (pv 3) (pa_cons (pv 4) (pa_cons pe_str (pa_cons pe_str pa_nil))))) (pa_cons (pe_lst (pa_cons (pv 3) (pa_cons (pv 4) (pa_cons pe_str (pa_cons pe_str pa_nil))))) pa_nil))))))
        (pss_cons (ps_set (i := 7) sc_L_row.nd rfl (Or.inl rfl) (pe_op op_cat (pv 7) (pe_lst (pa_cons (pe_lst (pa_cons (pv 3) (pa_cons (pv 4) (pa_cons pe_str (pa_cons pe_str pa_nil))))) (pa_cons (pe_lst (pa_cons (pv 3) (pa_cons (pv 4) (pa_cons pe_str (pa_cons (pe_op op_add_str pe_str (pe_op op_rep_str pe_str pe_int)) pa_nil))))) pa_nil)))))
        (pss_cons (ps_set (i := 7) sc_L_row.nd rfl (Or.inl rfl) (pe_op op_cat (pv 7) (pe_lst (pa_cons (pe_lst (pa_cons (pe_op op_rep_str pe_str pe_int) (pa_cons (pv 4) (pa_cons (pv 5) (pa_cons (pv 6) pa_nil))))) (pa_cons (pe_lst (pa_cons (pv 3) (pa_cons (pv 4) (pa_cons pe_str (pa_cons (pe_op op_rep_str pe_str pe_int) pa_nil))))) (pa_cons (pe_lst (pa_cons (pv 3) (pa_cons (pv 4) (pa_cons pe_str (pa_cons pe_str pa_nil))))) pa_nil))))))
        (pss_one (ps_ret (pe_ix (ix_listK (K := K) rfl) (pv 7) (pv 1) (fun _ _ => rfl))))))))))))))))), ?_⟩
    have a1 : nm.length ≤ 32 := by omega
    have a2 : rk.length ≤ 32 := by omega
    have a3 : st.length ≤ 32 := by omega
    have a4 : la.length ≤ 32 := by omega
    have a5 : (nm ++ "\t").length ≤ 32 := by
      rw [len_app, show ("\t" : Str).length = 1 from by decide +kernel]
      omega
    refine q_asgUg (vs := [.str nm, .str rk, .str st, .str la]) (eu_tup (ea_cons (ev_op (ev_var rfl) ev_c (rv_ixL (i := 0) (sq_of hr1) atW.1)) (ea_cons (ev_op (ev_var rfl) ev_c (rv_ixL (i := 1) (sq_of hr1) atW.2.1)) (ea_cons (ev_op (ev_var rfl) ev_c (rv_ixL (i := 2) (sq_of hr1) atW.2.2.1)) (ea_cons (ev_op (ev_var rfl) ev_c (rv_ixL (i := 3) (sq_of hr1) atW.2.2.2)) ea_nil)))) (by show 4 ≤ 100000; decide)) fun t H0 nt e0 ht => ?_
    refine ⟨t, _, rfl, st_of ht, rfl, ?_⟩
    refine ⟨_, _, rfl, ⟨_, _, rfl, ⟨_, _, rfl, ⟨_, _, rfl, ⟨rfl, ?_⟩⟩⟩⟩⟩
    refine q_asgWt (fun p => [some (.ref r), some (.int w), some (.int now), some (.str nm), some (.str rk), some (.str st), some (.str la), some (.ref p)]) (rows := ([[nm, "100", st, la], [nm, ("0" : Str) ++ rk, st, la], [nm, "", st, la]] : List (List Str))) (ew_lst (wa_cons (w1_lst (ea_cons (ev_var rfl) (ea_cons ev_c (ea_cons (ev_var rfl) (ea_cons (ev_var rfl) ea_nil)))) (Nat.le_of_ble_eq_true rfl)) (wa_cons (w1_lst (ea_cons (ev_var rfl) (ea_cons (ev_op ev_c (ev_var rfl) (rv_addS (szl (by decide +kernel) a2))) (ea_cons (ev_var rfl) (ea_cons (ev_var rfl) ea_nil)))) (Nat.le_of_ble_eq_true rfl)) (wa_cons (w1_lst (ea_cons (ev_var rfl) (ea_cons ev_c (ea_cons (ev_var rfl) (ea_cons (ev_var rfl) ea_nil)))) (Nat.le_of_ble_eq_true rfl)) wa_nil))) (Nat.le_of_ble_eq_true rfl)) (fun _ => rfl) fun b0 H1 ts0 e1 hR0 hm0 => ?_
    have hl0 : (ts0.map (·.2)).length = 3 := by rw [hm0]; rfl
    refine q_asgWt (fun p => [some (.ref r), some (.int w), some (.int now), some (.str nm), some (.str rk), some (.str st), some (.str la), some (.ref p)]) (rows := ts0.map (·.2) ++ ([[nm ++ "-", rk, st, la], [nm, rk, "Ready", la], [nm, rk, "ready", SI (now + 1)]] : List (List Str))) (ew_cat (ew_var rfl hR0 rfl) (ew_lst (wa_cons (w1_lst (ea_cons (ev_op (ev_var rfl) ev_c (rv_addS (szl a1 (by decide +kernel)))) (ea_cons (ev_var rfl) (ea_cons (ev_var rfl) (ea_cons (ev_var rfl) ea_nil)))) (Nat.le_of_ble_eq_true rfl)) (wa_cons (w1_lst (ea_cons (ev_var rfl) (ea_cons (ev_var rfl) (ea_cons ev_c (ea_cons (ev_var rfl) ea_nil)))) (Nat.le_of_ble_eq_true rfl)) (wa_cons (w1_lst (ea_cons (ev_var rfl) (ea_cons (ev_var rfl) (ea_cons ev_c (ea_cons (ev_cb (ea_cons (ev_op (ev_var rfl) ev_c rv_I0) ea_nil) (rc_strI (by omega))) ea_nil)))) (Nat.le_of_ble_eq_true rfl)) wa_nil))) (Nat.le_of_ble_eq_true rfl)) (by rw [hl0]; exact Nat.le_of_ble_eq_true rfl)) (fun _ => rfl) fun b1 H2 ts1 e2 hR1 hm1 => ?_
    have hl1 : (ts1.map (·.2)).length = 6 := by rw [hm1, List.length_append, hl0]; rfl
    refine q_asgWt (fun p => [some (.ref r), some (.int w), some (.int now), some (.str nm), some (.str rk), some (.str st), some (.str la), some (.ref p)]) (rows := ts1.map (·.2) ++ ([[nm, rk, "asleep", "0"], [nm, rk, "asleep", "1001"], [nm, rk, "waiting", "A"]] : List (List Str))) (ew_cat (ew_var rfl hR1 rfl) (ew_lst (wa_cons (w1_lst (ea_cons (ev_var rfl) (ea_cons (ev_var rfl) (ea_cons ev_c (ea_cons ev_c ea_nil)))) (Nat.le_of_ble_eq_true rfl)) (wa_cons (w1_lst (ea_cons (ev_var rfl) (ea_cons (ev_var rfl) (ea_cons ev_c (ea_cons ev_c ea_nil)))) (Nat.le_of_ble_eq_true rfl)) (wa_cons (w1_lst (ea_cons (ev_var rfl) (ea_cons (ev_var rfl) (ea_cons ev_c (ea_cons ev_c ea_nil)))) (Nat.le_of_ble_eq_true rfl)) wa_nil))) (Nat.le_of_ble_eq_true rfl)) (by rw [hl1]; exact Nat.le_of_ble_eq_true rfl)) (fun _ => rfl) fun b2 H3 ts2 e3 hR2 hm2 => ?_
    have hl2 : (ts2.map (·.2)).length = 9 := by rw [hm2, List.length_append, hl1]; rfl
    refine q_asgWt (fun p => [some (.ref r), some (.int w), some (.int now), some (.str nm), some (.str rk), some (.str st), some (.str la), some (.ref p)]) (rows := ts2.map (·.2) ++ ([[nm, rk, st], [nm, rk, st, la, la], ["", nm, rk, st, la], [""]] : List (List Str))) (ew_cat (ew_var rfl hR2 rfl) (ew_lst (wa_cons (w1_lst (ea_cons (ev_var rfl) (ea_cons (ev_var rfl) (ea_cons (ev_var rfl) ea_nil))) (Nat.le_of_ble_eq_true rfl)) (wa_cons (w1_lst (ea_cons (ev_var rfl) (ea_cons (ev_var rfl) (ea_cons (ev_var rfl) (ea_cons (ev_var rfl) (ea_cons (ev_var rfl) ea_nil))))) (Nat.le_of_ble_eq_true rfl)) (wa_cons (w1_lst (ea_cons ev_c (ea_cons (ev_var rfl) (ea_cons (ev_var rfl) (ea_cons (ev_var rfl) (ea_cons (ev_var rfl) ea_nil))))) (Nat.le_of_ble_eq_true rfl)) (wa_cons (w1_lst (ea_cons ev_c ea_nil) (Nat.le_of_ble_eq_true rfl)) wa_nil)))) (Nat.le_of_ble_eq_true rfl)) (by rw [hl2]; exact Nat.le_of_ble_eq_true rfl)) (fun _ => rfl) fun b3 H4 ts3 e4 hR3 hm3 => ?_
    have hl3 : (ts3.map (·.2)).length = 13 := by rw [hm3, List.length_append, hl2]; rfl
    refine q_asgWt (fun p => [some (.ref r), some (.int w), some (.int now), some (.str nm), some (.str rk), some (.str st), some (.str la), some (.ref p)]) (rows := ts3.map (·.2) ++ ([[nm, rk, st, la, ""], [nm, "", rk, st, la], [nm, ("+" : Str) ++ rk, st, la]] : List (List Str))) (ew_cat (ew_var rfl hR3 rfl) (ew_lst (wa_cons (w1_lst (ea_cons (ev_var rfl) (ea_cons (ev_var rfl) (ea_cons (ev_var rfl) (ea_cons (ev_var rfl) (ea_cons ev_c ea_nil))))) (Nat.le_of_ble_eq_true rfl)) (wa_cons (w1_lst (ea_cons (ev_var rfl) (ea_cons ev_c (ea_cons (ev_var rfl) (ea_cons (ev_var rfl) (ea_cons (ev_var rfl) ea_nil))))) (Nat.le_of_ble_eq_true rfl)) (wa_cons (w1_lst (ea_cons (ev_var rfl) (ea_cons (ev_op ev_c (ev_var rfl) (rv_addS (szl (by decide +kernel) a2))) (ea_cons (ev_var rfl) (ea_cons (ev_var rfl) ea_nil)))) (Nat.le_of_ble_eq_true rfl)) wa_nil))) (Nat.le_of_ble_eq_true rfl)) (by rw [hl3]; exact Nat.le_of_ble_eq_true rfl)) (fun _ => rfl) fun b4 H5 ts4 e5 hR4 hm4 => ?_
    have hl4 : (ts4.map (·.2)).length = 16 := by rw [hm4, List.length_append, hl3]; rfl
    refine q_asgWt (fun p => [some (.ref r), some (.int w), some (.int now), some (.str nm), some (.str rk), some (.str st), some (.str la), some (.ref p)]) (rows := ts4.map (·.2) ++ ([[nm, rk, "ready", "00"], [nm, rk, "asleep", "01"], [nm, rk, "ready", "-0"]] : List (List Str))) (ew_cat (ew_var rfl hR4 rfl) (ew_lst (wa_cons (w1_lst (ea_cons (ev_var rfl) (ea_cons (ev_var rfl) (ea_cons ev_c (ea_cons ev_c ea_nil)))) (Nat.le_of_ble_eq_true rfl)) (wa_cons (w1_lst (ea_cons (ev_var rfl) (ea_cons (ev_var rfl) (ea_cons ev_c (ea_cons ev_c ea_nil)))) (Nat.le_of_ble_eq_true rfl)) (wa_cons (w1_lst (ea_cons (ev_var rfl) (ea_cons (ev_var rfl) (ea_cons ev_c (ea_cons ev_c ea_nil)))) (Nat.le_of_ble_eq_true rfl)) wa_nil))) (Nat.le_of_ble_eq_true rfl)) (by rw [hl4]; exact Nat.le_of_ble_eq_true rfl)) (fun _ => rfl) fun b5 H6 ts5 e6 hR5 hm5 => ?_
    have hl5 : (ts5.map (·.2)).length = 19 := by rw [hm5, List.length_append, hl4]; rfl
    refine q_asgWt (fun p => [some (.ref r), some (.int w), some (.int now), some (.str nm), some (.str rk), some (.str st), some (.str la), some (.ref p)]) (rows := ts5.map (·.2) ++ ([[nm, rk, "", la], [nm, rk, "asleep", "5 "], [nm, "1_1", st, la]] : List (List Str))) (ew_cat (ew_var rfl hR5 rfl) (ew_lst (wa_cons (w1_lst (ea_cons (ev_var rfl) (ea_cons (ev_var rfl) (ea_cons ev_c (ea_cons (ev_var rfl) ea_nil)))) (Nat.le_of_ble_eq_true rfl)) (wa_cons (w1_lst (ea_cons (ev_var rfl) (ea_cons (ev_var rfl) (ea_cons ev_c (ea_cons ev_c ea_nil)))) (Nat.le_of_ble_eq_true rfl)) (wa_cons (w1_lst (ea_cons (ev_var rfl) (ea_cons ev_c (ea_cons (ev_var rfl) (ea_cons (ev_var rfl) ea_nil)))) (Nat.le_of_ble_eq_true rfl)) wa_nil))) (Nat.le_of_ble_eq_true rfl)) (by rw [hl5]; exact Nat.le_of_ble_eq_true rfl)) (fun _ => rfl) fun b6 H7 ts6 e7 hR6 hm6 => ?_
    have hl6 : (ts6.map (·.2)).length = 22 := by rw [hm6, List.length_append, hl5]; rfl
    refine q_asgWt (fun p => [some (.ref r), some (.int w), some (.int now), some (.str nm), some (.str rk), some (.str st), some (.str la), some (.ref p)]) (rows := ts6.map (·.2) ++ ([[nm ++ ("\t" : Str) ++ rk, st, la], [nm, rk, st, la ++ "\t"], [nm, ("-" : Str) ++ rk, st, la]] : List (List Str))) (ew_cat (ew_var rfl hR6 rfl) (ew_lst (wa_cons (w1_lst (ea_cons (ev_op (ev_op (ev_var rfl) ev_c (rv_addS (szl a1 (by decide +kernel)))) (ev_var rfl) (rv_addS (szl a5 a2))) (ea_cons (ev_var rfl) (ea_cons (ev_var rfl) ea_nil))) (Nat.le_of_ble_eq_true rfl)) (wa_cons (w1_lst (ea_cons (ev_var rfl) (ea_cons (ev_var rfl) (ea_cons (ev_var rfl) (ea_cons (ev_op (ev_var rfl) ev_c (rv_addS (szl a4 (by decide +kernel)))) ea_nil)))) (Nat.le_of_ble_eq_true rfl)) (wa_cons (w1_lst (ea_cons (ev_var rfl) (ea_cons (ev_op ev_c (ev_var rfl) (rv_addS (szl (by decide +kernel) a2))) (ea_cons (ev_var rfl) (ea_cons (ev_var rfl) ea_nil)))) (Nat.le_of_ble_eq_true rfl)) wa_nil))) (Nat.le_of_ble_eq_true rfl)) (by rw [hl6]; exact Nat.le_of_ble_eq_true rfl)) (fun _ => rfl) fun b7 H8 ts7 e8 hR7 hm7 => ?_
    have hl7 : (ts7.map (·.2)).length = 25 := by rw [hm7, List.length_append, hl6]; rfl
    refine q_asgWt (fun p => [some (.ref r), some (.int w), some (.int now), some (.str nm), some (.str rk), some (.str st), some (.str la), some (.ref p)]) (rows := ts7.map (·.2) ++ ([[nm, rk, "waiting", ""], [nm, rk, st ++ "\t", la], [nm, rk, "asleep", "-5"]] : List (List Str))) (ew_cat (ew_var rfl hR7 rfl) (ew_lst (wa_cons (w1_lst (ea_cons (ev_var rfl) (ea_cons (ev_var rfl) (ea_cons ev_c (ea_cons ev_c ea_nil)))) (Nat.le_of_ble_eq_true rfl)) (wa_cons (w1_lst (ea_cons (ev_var rfl) (ea_cons (ev_var rfl) (ea_cons (ev_op (ev_var rfl) ev_c (rv_addS (szl a3 (by decide +kernel)))) (ea_cons (ev_var rfl) ea_nil)))) (Nat.le_of_ble_eq_true rfl)) (wa_cons (w1_lst (ea_cons (ev_var rfl) (ea_cons (ev_var rfl) (ea_cons ev_c (ea_cons ev_c ea_nil)))) (Nat.le_of_ble_eq_true rfl)) wa_nil))) (Nat.le_of_ble_eq_true rfl)) (by rw [hl7]; exact Nat.le_of_ble_eq_true rfl)) (fun _ => rfl) fun b8 H9 ts8 e9 hR8 hm8 => ?_
    have hl8 : (ts8.map (·.2)).length = 28 := by rw [hm8, List.length_append, hl7]; rfl
    refine q_asgWt (fun p => [some (.ref r), some (.int w), some (.int now), some (.str nm), some (.str rk), some (.str st), some (.str la), some (.ref p)]) (rows := ts8.map (·.2) ++ ([[nm, rk, "ready", "+0"], [nm, rk, "asleep", "+5"], [nm, rk, "asleep", "1_0"]] : List (List Str))) (ew_cat (ew_var rfl hR8 rfl) (ew_lst (wa_cons (w1_lst (ea_cons (ev_var rfl) (ea_cons (ev_var rfl) (ea_cons ev_c (ea_cons ev_c ea_nil)))) (Nat.le_of_ble_eq_true rfl)) (wa_cons (w1_lst (ea_cons (ev_var rfl) (ea_cons (ev_var rfl) (ea_cons ev_c (ea_cons ev_c ea_nil)))) (Nat.le_of_ble_eq_true rfl)) (wa_cons (w1_lst (ea_cons (ev_var rfl) (ea_cons (ev_var rfl) (ea_cons ev_c (ea_cons ev_c ea_nil)))) (Nat.le_of_ble_eq_true rfl)) wa_nil))) (Nat.le_of_ble_eq_true rfl)) (by rw [hl8]; exact Nat.le_of_ble_eq_true rfl)) (fun _ => rfl) fun b9 H10 ts9 e10 hR9 hm9 => ?_
    have hl9 : (ts9.map (·.2)).length = 31 := by rw [hm9, List.length_append, hl8]; rfl
    refine q_asgWt (fun p => [some (.ref r), some (.int w), some (.int now), some (.str nm), some (.str rk), some (.str st), some (.str la), some (.ref p)]) (rows := ts9.map (·.2) ++ ([[nm, rk, "ready", "0_0"], [nm, rk, "asleep", ("1" : Str) ++ zs12]] : List (List Str))) (ew_cat (ew_var rfl hR9 rfl) (ew_lst (wa_cons (w1_lst (ea_cons (ev_var rfl) (ea_cons (ev_var rfl) (ea_cons ev_c (ea_cons ev_c ea_nil)))) (Nat.le_of_ble_eq_true rfl)) (wa_cons (w1_lst (ea_cons (ev_var rfl) (ea_cons (ev_var rfl) (ea_cons ev_c (ea_cons (ev_op ev_c (ev_op ev_c ev_c (rv_repS (by decide) (by decide) (by decide +kernel) (by decide +kernel))) (rv_addS (szl (by decide +kernel) (by decide +kernel)))) ea_nil)))) (Nat.le_of_ble_eq_true rfl)) wa_nil)) (Nat.le_of_ble_eq_true rfl)) (by rw [hl9]; exact Nat.le_of_ble_eq_true rfl)) (fun _ => rfl) fun b10 H11 ts10 e11 hR10 hm10 => ?_
    have hl10 : (ts10.map (·.2)).length = 33 := by rw [hm10, List.length_append, hl9]; rfl
    refine q_asgWt (fun p => [some (.ref r), some (.int w), some (.int now), some (.str nm), some (.str rk), some (.str st), some (.str la), some (.ref p)]) (rows := ts10.map (·.2) ++ ([[bs13, rk, st, la], [nm, rk, "waiting", bs13], [nm, rk, "waiting", "b-"]] : List (List Str))) (ew_cat (ew_var rfl hR10 rfl) (ew_lst (wa_cons (w1_lst (ea_cons (ev_op ev_c ev_c (rv_repS (by decide) (by decide) (by decide +kernel) (by decide +kernel))) (ea_cons (ev_var rfl) (ea_cons (ev_var rfl) (ea_cons (ev_var rfl) ea_nil)))) (Nat.le_of_ble_eq_true rfl)) (wa_cons (w1_lst (ea_cons (ev_var rfl) (ea_cons (ev_var rfl) (ea_cons ev_c (ea_cons (ev_op ev_c ev_c (rv_repS (by decide) (by decide) (by decide +kernel) (by decide +kernel))) ea_nil)))) (Nat.le_of_ble_eq_true rfl)) (wa_cons (w1_lst (ea_cons (ev_var rfl) (ea_cons (ev_var rfl) (ea_cons ev_c (ea_cons ev_c ea_nil)))) (Nat.le_of_ble_eq_true rfl)) wa_nil))) (Nat.le_of_ble_eq_true rfl)) (by rw [hl10]; exact Nat.le_of_ble_eq_true rfl)) (fun _ => rfl) fun b11 H12 ts11 e12 hR11 hm11 => ?_
    have hl11 : (ts11.map (·.2)).length = 36 := by rw [hm11, List.length_append, hl10]; rfl
    have e99 := ((((((((((((e0.trans e1).trans e2).trans e3).trans e4).trans e5).trans e6).trans e7).trans e8).trans e9).trans e10).trans e11).trans e12)
    have hm99 : ts11.map (·.2) = rowRows nm rk st la (SI (now + 1)) := by
      rw [hm11, hm10, hm9, hm8, hm7, hm6, hm5, hm4, hm3, hm2, hm1, hm0]
      rfl
    rw [List.length_map] at hl11
    have hq : ts11[w.toNat]? = some (ts11[w.toNat]'(by omega)) := List.getElem?_eq_getElem _
    generalize ts11[w.toNat]'(by omega) = q at hq
    have h2 : (rowRows nm rk st la (SI (now + 1))).getD w.toNat [] = q.2 := by
      rw [← hm99, List.getD_eq_getElem?_getD, List.getElem?_map, hq]
      rfl
    refine s_ret (v := .ref q.1) (ev_op (ev_var rfl) (ev_var rfl) (rv_ixL (sq_of hR11.1) (at_of (j := w.toNat) (by omega) (by rw [List.getElem?_map, hq]; rfl)))) fun H99 e100 => k q.1 H99 (e99.trans e100) ?_
    rw [h2]
    exact e100 _ _ (hR11.2 q (List.mem_of_getElem? hq))
/-! ### L_spoilt -/
theorem sc_L_spoilt : FnScope ["_law_rows", "_law_way", "_law_at", "_law_now", "_law_k"] ["_law_rows", "_law_way", "_law_at", "_law_now"] (defScope s_L_spoilt) := ⟨rfl, rfl, rfl, by decide +kernel, rfl, by decide +kernel, by decide +kernel⟩
def sp_L_spoilt (K : PySem.W.Frag) : Sp := fun vs H Q _ => ∃ (a : Addr) (d : Dk) (ts : List (Addr × List Str)) (w at' : Int), vs = [.ref a, .int w, .int at', .int d.now] ∧ RwAt H a ts ∧ ts.map (·.2) = wordsOf d ∧ d.Ok ∧ d.now < 1000000000000 ∧ 0 ≤ w ∧ w < 61 ∧
  ∀ b us H', Ex H H' → RwAt H' b us → (∀ r ∈ us.map (·.2), Sm r) → us.length ≤ 63 → readD (textL ((us.map (·.2)).map rowT)) = none → Q (.ref b) H'
theorem ok_L_spoilt {P : Program} {w : World} {K : PySem.W.Frag} {mg : Str → Option Value} {base : Heap} (T : Txt K mg) : ∃ fd, FnOk P w K mg base (CX0) 2 (He.ga K "_law_spoilt") fd ["_law_rows", "_law_way", "_law_at", "_law_now"] (sp_L_spoilt K) ∧ Binds K fd ["_law_rows", "_law_way", "_law_at", "_law_now"] [] ∧ FunD K "_law_spoilt" "_law_spoilt" (defArgs s_L_spoilt) (defBody s_L_spoilt) (defScope s_L_spoilt) [] [] (He.ga K "_law_spoilt") fd := by
  obtain ⟨fd, F⟩ := f_L_spoilt T
  obtain ⟨d_L_head, G_L_head, b_L_head, _⟩ := ok_L_head (P := P) (w := w) (base := base) T
  obtain ⟨d_L_row, G_L_row, b_L_row, _⟩ := ok_L_row (P := P) (w := w) (base := base) T
  refine ⟨fd, ok0 F sc_L_spoilt (fun vs H Q E h => ?_) (fun cdv A outer s H vs Q E hr h => ?_), FunD.bindsN F fun _ _ _ _ _ _ us hl => match us, hl with | [_, _, _, _], _ => rfl, F⟩
  · (repeat (obtain ⟨_, h⟩ := h)); subst_vars; rfl
  · obtain ⟨a, d, ts, w, at', rfl, hR, hm, ok, ht, w0, w1, k⟩ := h
    refine ⟨_, (pss_cons (ps_if (pt_cmpR op_lt (pv 1) pe_int (nomark _)) (pss_one (ps_ret (pe_op op_cat (pe_lst (pa_cons (pe_call G_L_head (hr.mono (by decide)) rfl (g_L_head T) (kp_L_head T) b_L_head .nil pass0 (pa_cons (pe_ix (ix_listK (K := K) rfl) (pv 0) pe_int (fun _ _ => rfl)) (pa_cons (pv 1) pa_nil))) pa_nil)) (pe_slice (sl_listK (K := K) rfl) (pv 0) (po_some pe_int) po_none))))
        pss_nil)
        (pss_cons (ps_if (pt_cmpR op_eq (pe_callB (call_lenK (K := K) rfl) rfl (b_len T) (by decide +kernel) (pa_cons (pv 0) pa_nil)) pe_int (nomark _)) (pss_one (ps_ret (pe_op op_cat (pv 0) (pe_lst (pa_cons (pe_lst (pa_cons pe_str (pa_cons pe_str (pa_cons pe_str (pa_cons pe_str pa_nil))))) pa_nil)))))
        pss_nil)
        (pss_cons (ps_set (i := 4) sc_L_spoilt.nd rfl (Or.inl rfl) (pe_op op_add pe_int (pe_op op_mod (pv 2) (pe_op op_sub (pe_callB (call_lenK (K := K) rfl) rfl (b_len T) (by decide +kernel) (pa_cons (pv 0) pa_nil)) pe_int))))
        (pss_cons (ps_if (pt_cmpR op_lt (pv 1) pe_int (nomark _)) (pss_one (ps_ret (pe_op op_cat (pe_op op_cat (pe_slice (sl_listK (K := K) rfl) (pv 0) po_none (po_some (pv 4))) (pe_lst (pa_cons (pe_call G_L_row (hr.mono (by decide)) rfl (g_L_row T) (kp_L_row T) b_L_row .nil pass0 (pa_cons (pe_ix (ix_listK (K := K) rfl) (pv 0) (pv 4) (fun _ _ => rfl)) (pa_cons (pe_op op_sub (pv 1) pe_int) (pa_cons (pv 3) pa_nil)))) pa_nil))) (pe_slice (sl_listK (K := K) rfl) (pv 0) (po_some (pe_op op_add (pv 4) pe_int)) po_none))))
        pss_nil)
        (pss_cons (ps_if (pt_cmpR op_eq (pv 1) pe_int (nomark _)) (pss_one (ps_ret (pe_op op_cat (pe_op op_cat (pe_slice (sl_listK (K := K) rfl) (pv 0) po_none (po_some (pv 4))) (pe_lst (pa_cons (pe_ix (ix_listK (K := K) rfl) (pv 0) pe_int (fun _ _ => rfl)) pa_nil))) (pe_slice (sl_listK (K := K) rfl) (pv 0) (po_some (pv 4)) po_none))))
        pss_nil)
        (pss_cons (ps_if (pt_cmpR op_eq (pv 1) pe_int (nomark _)) (pss_one (ps_ret (pe_op op_cat (pe_lst (pa_cons (pe_lst (pa_cons pe_str (pa_cons (pe_ix (ix_listK (K := K) rfl) (pe_ix (ix_listK (K := K) rfl) (pv 0) pe_int (fun _ _ => rfl)) pe_int (fun _ _ => rfl)) (pa_cons (pe_callTy call_str_int rfl (b_str T) (by decide +kernel) (pa_cons (pe_op op_sub (pe_callB (call_lenK (K := K) rfl) rfl (b_len T) (by decide +kernel) (pa_cons (pv 0) pa_nil)) pe_int) pa_nil)) (pa_cons (pe_ix (ix_listK (K := K) rfl) (pe_ix (ix_listK (K := K) rfl) (pv 0) pe_int (fun _ _ => rfl)) pe_int (fun _ _ => rfl)) pa_nil))))) pa_nil)) (pe_slice (sl_listK (K := K) rfl) (pv 0) (po_some pe_int) po_none))))
        pss_nil)
        (pss_one (ps_ret (pe_op op_cat (pv 0) (pe_lst (pa_cons (pe_ix (ix_listK (K := K) rfl) (pv 0) (pv 4) (fun _ _ => rfl)) pa_nil))))))))))), ?_⟩
    have h60 := ok.len60
    have p1 := ok.p1
    have p2 := ok.p2
    have r1 := ok.r1
    have r2 := ok.r2
    have n0 := ok.n0
    have hlen : ts.length = d.line.length + 1 := by
      rw [← List.length_map (f := fun q : Addr × List Str => q.2), hm]
      unfold wordsOf
      rw [List.length_cons, List.length_map]
    have hlm : ((ts.map fun q => V.ref q.1).length : Int) = (d.line.length : Int) + 1 := by rw [List.length_map, hlen]; omega
    have f1 := fw_int (i := d.pace) (by omega) (by omega)
    have f2 := fw_int (i := d.room) (by omega) (by omega)
    have f3 := fw_int (i := d.now) (by omega) (by omega)
    have hhd : (ts.map (·.2))[(0 : Int).toNat]? = some (headW d) := by rw [hm]; rfl
    have fin : ∀ (H0 : Hp) (rows : List (List Str)), Ex H H0 → ((∀ r ∈ rows, Sm r) ∧ readD (textL (rows.map rowT)) = none) → rows.length ≤ 63 → ∀ p H1 us, Ex H0 H1 → RwAt H1 p us → us.map (·.2) = rows → Q (.ref p) H1 := fun H0 rows e0 hb hl p H1 us e1 hU hn => by
      refine k p us H1 (e0.trans e1) hU (by rw [hn]; exact hb.1) ?_ (by rw [hn]; exact hb.2)
      rw [← List.length_map (f := fun q : Addr × List Str => q.2), hn]
      exact hl
    refine q_when (b := decide (w < 22)) (et_test (ev_op (ev_var rfl) ev_c rv_I0)) (fun hb H1 e1 => ?_) fun hb1 H1 e1 => ?_
    · have hw := of_decide_eq_true hb
      have hws := mem_getD (l := headRows (SI d.pace) (SI d.room) (SI d.now)) (i := w.toNat) (by rw [head_len22]; omega)
      have hR1 := hR.ex e1
      refine s_retW (rows := [(headRows (SI d.pace) (SI d.room) (SI d.now)).getD w.toNat []] ++ (ts.map (·.2)).drop (1 : Int).toNat) (ew_cat (ew_lst (wa_cons (fun H2 e2 Q2 q2 => ?_) wa_nil) (Nat.le_of_ble_eq_true rfl)) (ew_from (ev_var rfl) ev_c hR1 (by decide) (by show 1 ≤ _; omega)) (by rw [List.length_drop, List.length_map, List.length_singleton]; omega)) (fin H1 _ e1 ?_ ?_)
      · refine w1_at (K := K) (ev_var rfl) ev_c hR1 (by decide) hhd H2 e2 _ fun r H3 e3 hr3 => ev_var rfl H3 (Ex.refl H3) _ fun H4 e4 => ?_
        exact ⟨r, "desk", SI d.pace, SI d.room, SI d.now, w, rfl, e4 _ _ hr3, f1.2, f2.2, f3.2, w0, hw, fun q H5 e5 hq => q2 q H5 (e3.trans (e4.trans e5)) hq⟩
      · rw [hm]
        exact bad_head ok ht hws
      · rw [List.length_append, List.length_drop, List.length_map, List.length_singleton]
        omega
    have hw1 := of_decide_eq_false hb1
    refine q_when (b := decide ((d.line.length : Int) = 0)) (et_is (et_test (ev_op (ev_cb (ea_cons (ev_var rfl) ea_nil) (rc_lenS (sq_of (hR.ex e1).1))) ev_c (rv_eq rfl))) ?g0) (fun hb H2 e2 => ?_) fun hb2 H2 e2 => ?_
    case g0 =>
      rw [hlm]
      refine decide_eq_decide.mpr ⟨fun h => ?_, fun h => ?_⟩
      · have : (d.line.length : Int) + 1 = 1 := by injection h
        omega
      · rw [h]
        rfl
    · have h0 := of_decide_eq_true hb
      have hnil : d.line = [] := List.length_eq_zero_iff.mp (by omega)
      have hR2 := hR.ex (e1.trans e2)
      have hs : Sm ["ab", "7", "asleep", "0"] := by
        refine sm_of (by simp) (fws_cons ?_ (fws_cons ?_ (fws_cons ?_ (fws_cons ?_ fws_nil)))) <;> decide +kernel
      refine s_retW (rows := wordsOf d ++ [(["ab", "7", "asleep", "0"] : List Str)]) (ew_cat (ew_var rfl hR2 hm) (ew_lst (wa_cons (w1_lst (ea_cons ev_c (ea_cons ev_c (ea_cons ev_c (ea_cons ev_c ea_nil)))) (Nat.le_of_ble_eq_true rfl)) wa_nil) (Nat.le_of_ble_eq_true rfl)) ?_) (fin H2 _ (e1.trans e2) ?_ ?_)
      · rw [← hm, List.length_map, List.length_singleton]
        omega
      · have := bad_row ok ht (ws := ["ab", "7", "asleep", "0"]) (pre := []) (post := []) hs (fun e he => by
          rw [split_fw (n := 32) (by simp) (by refine fws_cons ?_ (fws_cons ?_ (fws_cons ?_ (fws_cons ?_ fws_nil))) <;> decide +kernel)]
          exact co_asleep (t := 0) rfl (by decide +kernel) (by omega)) (fun r hr => by cases hr) (fun r hr => by cases hr)
        have e9 : wordsOf d ++ [(["ab", "7", "asleep", "0"] : List Str)] = headW d :: ([] ++ (["ab", "7", "asleep", "0"] : List Str) :: []) := by
          unfold wordsOf
          rw [hnil]
          rfl
        rw [e9]
        exact this
      · rw [← hm, List.length_append, List.length_map, List.length_singleton]
        omega
    have hpos : 0 < d.line.length := by
      have := of_decide_eq_false hb2
      omega
    have e12 := e1.trans e2
    have b0 := Int.emod_nonneg at' (b := (d.line.length : Int)) (by omega)
    have b1 := Int.emod_lt_of_pos at' (b := (d.line.length : Int)) (by omega)
    refine q_asg (v := .int (1 + at' % (d.line.length : Int))) (ev_is (ev_op ev_c (ev_op (ev_var rfl) (ev_op (ev_cb (ea_cons (ev_var rfl) ea_nil) (rc_lenS (sq_of (hR.ex e12).1))) ev_c rv_I0) (rv_I (by rw [hlm]; show (0 : Int) < _; omega))) rv_I0) (by rw [hlm, Int.add_sub_cancel])) fun H3 e3 => ?_
    have e13 := e12.trans e3
    obtain ⟨j, hj⟩ : ∃ j : Nat, at' % (d.line.length : Int) = (j : Int) := ⟨(at' % (d.line.length : Int)).toNat, by omega⟩
    rw [hj] at b0 b1 ⊢
    have hk : (1 + (j : Int)).toNat = j + 1 := by omega
    have hc : d.line[j]? = some (d.line[j]'(by omega)) := List.getElem?_eq_getElem _
    generalize d.line[j]'(by omega) = c at hc
    have hcl := List.mem_of_getElem? hc
    have hcok := ok.cl c hcl
    have hrow : (ts.map (·.2))[(1 + (j : Int)).toNat]? = some (rowW d.now c) := by
      rw [hm, hk]
      show (d.line.map (rowW d.now))[j]? = _
      rw [List.getElem?_map, hc]
      rfl
    have smA : ∀ n, ∀ r ∈ (d.line.map (rowW d.now)).take n, Sm r := fun n r hr => sm_words ok ht r (List.mem_cons_of_mem _ (List.mem_of_mem_take hr))
    have smB : ∀ n, ∀ r ∈ (d.line.map (rowW d.now)).drop n, Sm r := fun n r hr => sm_words ok ht r (List.mem_cons_of_mem _ (List.mem_of_mem_drop hr))
    have htk : (ts.map (·.2)).take (1 + (j : Int)).toNat = headW d :: (d.line.map (rowW d.now)).take j := by
      rw [hm, hk]
      rfl
    refine q_when (b := decide (w < 58)) (et_test (ev_op (ev_var rfl) ev_c rv_I0)) (fun hb H4 e4 => ?_) fun hb4 H4 e4 => ?_
    · have hw := of_decide_eq_true hb
      have g1 := fw_name hcok.1
      have g2 := fw_int (i := c.rk) hcok.2.1 (by have := hcok.2.2.1; omega)
      have g3 := fw_st c.md
      have g4 := fw_mark ht c.md hcok.2.2.2
      have hR4 := hR.ex (e13.trans e4)
      have hws := mem_getD (l := rowRows c.nm (SI c.rk) c.md.st (markS d.now c.md) (SI (d.now + 1))) (i := (w - 22).toNat) (by rw [row_len36]; omega)
      obtain ⟨hs, hbad⟩ := row_bad hcok n0 ht _ hws
      have hd2 : (ts.map (·.2)).drop (1 + (j : Int) + 1).toNat = (d.line.map (rowW d.now)).drop (j + 1) := by
        rw [hm, show (1 + (j : Int) + 1).toNat = j + 1 + 1 from by omega]
        rfl
      refine s_retW (rows := ((ts.map (·.2)).take (1 + (j : Int)).toNat ++ [(rowRows c.nm (SI c.rk) c.md.st (markS d.now c.md) (SI (d.now + 1))).getD (w - 22).toNat []]) ++ (ts.map (·.2)).drop (1 + (j : Int) + 1).toNat) (ew_cat (ew_cat (ew_to (ev_var rfl) (ev_var rfl) hR4 (by omega) (by omega)) (ew_lst (wa_cons (fun H5 e5 Q2 q2 => ?_) wa_nil) (Nat.le_of_ble_eq_true rfl)) ?_) (ew_from (ev_var rfl) (ev_op (ev_var rfl) ev_c rv_I0) hR4 (by omega) (by omega)) ?_) (fin H4 _ (e13.trans e4) ?_ ?_)
      · refine w1_at (K := K) (ev_var rfl) (ev_var rfl) hR4 (by omega) hrow H5 e5 _ fun r H6 e6 hr6 => ea_cons (x := .int (w - 22)) (ev_op (ev_var rfl) ev_c rv_I0) (ea_cons (ev_var rfl) ea_nil) H6 (Ex.refl H6) _ fun H7 e7 => ?_
        exact ⟨r, c.nm, SI c.rk, c.md.st, markS d.now c.md, w - 22, d.now, rfl, e7 _ _ hr6, g1.2, g2.2, g3.2, g4.2, by omega, by omega, n0, ht, fun q H8 e8 hq => q2 q H8 (e6.trans (e7.trans e8)) hq⟩
      · rw [List.length_take, List.length_map, List.length_singleton]
        omega
      · rw [List.length_append, List.length_take, List.length_drop, List.length_map, List.length_singleton]
        omega
      · have := bad_row ok ht (pre := (d.line.map (rowW d.now)).take j) (post := (d.line.map (rowW d.now)).drop (j + 1)) hs hbad (smA j) (smB (j + 1))
        rw [htk, hd2]
        show (∀ r ∈ (headW d :: (d.line.map (rowW d.now)).take j) ++ [_] ++ (d.line.map (rowW d.now)).drop (j + 1), Sm r) ∧ _
        rw [List.cons_append, List.cons_append, List.append_assoc]
        exact this
      · rw [List.length_append, List.length_append, List.length_take, List.length_drop, List.length_map, List.length_singleton]
        omega
    have hw4 := of_decide_eq_false hb4
    refine q_when (b := decide (w = 58)) (et_mix0 (ev_var rfl)) (fun hb H5 e5 => ?_) fun hb5 H5 e5 => ?_
    · have hR5 := hR.ex (e13.trans (e4.trans e5))
      have hd2 : (ts.map (·.2)).drop (1 + (j : Int)).toNat = (d.line.map (rowW d.now)).drop j := by
        rw [hm, hk]
        rfl
      refine s_retW (rows := ((ts.map (·.2)).take (1 + (j : Int)).toNat ++ [headW d]) ++ (ts.map (·.2)).drop (1 + (j : Int)).toNat) (ew_cat (ew_cat (ew_to (ev_var rfl) (ev_var rfl) hR5 (by omega) (by omega)) (ew_lst (wa_cons (w1_at (ev_var rfl) ev_c hR5 (by decide) hhd) wa_nil) (Nat.le_of_ble_eq_true rfl)) ?_) (ew_from (ev_var rfl) (ev_var rfl) hR5 (by omega) (by omega)) ?_) (fin H5 _ (e13.trans (e4.trans e5)) ?_ ?_)
      · rw [List.length_take, List.length_map, List.length_singleton]
        omega
      · rw [List.length_append, List.length_take, List.length_drop, List.length_map, List.length_singleton]
        omega
      · have := bad_row ok ht (pre := (d.line.map (rowW d.now)).take j) (post := (d.line.map (rowW d.now)).drop j) (sm_words ok ht (headW d) (List.mem_cons_self ..)) (fun e _ => head_row ok ht e) (smA j) (smB j)
        rw [htk, hd2]
        show (∀ r ∈ (headW d :: (d.line.map (rowW d.now)).take j) ++ [_] ++ (d.line.map (rowW d.now)).drop j, Sm r) ∧ _
        rw [List.cons_append, List.cons_append, List.append_assoc]
        exact this
      · rw [List.length_append, List.length_append, List.length_take, List.length_drop, List.length_map, List.length_singleton]
        omega
    have hw5 := of_decide_eq_false hb5
    refine q_when (b := decide (w = 59)) (et_mix0 (ev_var rfl)) (fun hb H6 e6 => ?_) fun hb6 H6 e6 => ?_
    · have e16 := e13.trans (e4.trans (e5.trans e6))
      have hR6 := hR.ex e16
      refine s_retW (rows := [(["desk", SI d.pace, SI ((d.line.length : Int) - 1), SI d.now] : List Str)] ++ (ts.map (·.2)).drop (1 : Int).toNat) (ew_cat (ew_lst (wa_cons (w1_lst (ea_cons ev_c (ea_cons (ev_word2 (w1_at (ev_var rfl) ev_c hR6 (by decide) hhd) (fun _ _ => ev_c) (by decide) rfl) (ea_cons (ev_cb (ea_cons (ev_is (ev_op (ev_cb (ea_cons (ev_var rfl) ea_nil) (rc_lenS (sq_of hR6.1))) ev_c rv_I0) (by rw [hlm]; show V.int _ = V.int _; congr 1; omega)) ea_nil) (rc_strI (by omega))) (ea_cons (ev_word2 (w1_at (ev_var rfl) ev_c hR6 (by decide) hhd) (fun _ _ => ev_c) (by decide) rfl) ea_nil)))) (Nat.le_of_ble_eq_true rfl)) wa_nil) (Nat.le_of_ble_eq_true rfl)) (ew_from (ev_var rfl) ev_c hR6 (by decide) (by show 1 ≤ _; omega)) ?_) (fin H6 _ e16 ?_ ?_)
      · rw [List.length_drop, List.length_map, List.length_singleton]
        omega
      · rw [hm]
        exact bad_room ok ht (fun h => by rw [h] at hpos; cases hpos)
      · rw [List.length_append, List.length_drop, List.length_map, List.length_singleton]
        omega
    · have e16 := e13.trans (e4.trans (e5.trans e6))
      have hR6 := hR.ex e16
      refine s_retW (rows := wordsOf d ++ [rowW d.now c]) (ew_cat (ew_var rfl hR6 hm) (ew_lst (wa_cons (w1_at (ev_var rfl) (ev_var rfl) hR6 (by omega) hrow) wa_nil) (Nat.le_of_ble_eq_true rfl)) ?_) (fin H6 _ e16 ?_ ?_)
      · rw [← hm, List.length_map, List.length_singleton]
        omega
      · exact bad_twice ok ht hcl
      · rw [← hm, List.length_append, List.length_map, List.length_singleton]
        omega
/-! ### row_of -/
theorem sc_row_of : FnScope ["desk", "caller", "words"] ["desk", "caller"] (defScope s_row_of) := ⟨rfl, rfl, rfl, by decide +kernel, rfl, by decide +kernel, by decide +kernel⟩
def sp_row_of (K : PySem.W.Frag) : Sp := fun vs H Q _ => ∃ (p a : Addr) (d : Dk) (l : Addr) (ps : List Pr) (c : Cl), vs = [.ref p, .ref a] ∧ DkAt K H p d l ps ∧ CAt K H a c ∧ ClOk d.now c ∧ 0 ≤ d.now ∧ d.now < 100000000000000 ∧ RetV (.str (rowS d.now c)) H Q
theorem cv_row_of {K : PySem.W.Frag} {H : Hp} {p a l : Addr} {d : Dk} {ps : List Pr} {c : Cl} (D : DkAt K H p d l ps) (C : CAt K H a c) (h : ClOk d.now c) (h0 : 0 ≤ d.now) (h1 : d.now < 100000000000000) : SpV (sp_row_of K) ([.ref p, .ref a] ++ []) H (.str (rowS d.now c)) := spv_call fun _ e _ _ k => ⟨p, a, d, l, ps, c, rfl, D.ex e, C.ex e, h, h0, h1, k⟩
theorem ok_row_of {P : Program} {w : World} {K : PySem.W.Frag} {mg : Str → Option Value} {base : Heap} (T : Txt K mg) : ∃ fd, FnOk P w K mg base (CX0) 1 (He.ga K "row_of") fd ["desk", "caller"] (sp_row_of K) ∧ Binds K fd ["desk", "caller"] [] ∧ FunD K "row_of" "row_of" (defArgs s_row_of) (defBody s_row_of) (defScope s_row_of) [] [] (He.ga K "row_of") fd := by
  obtain ⟨fd, F⟩ := f_row_of T
  refine ⟨fd, ok0 F sc_row_of (fun vs H Q E h => ?_) (fun cdv A outer s H vs Q E hr h => ?_), FunD.bindsN F fun _ _ _ _ _ _ us hl => match us, hl with | [_, _], _ => rfl, F⟩
  · (repeat (obtain ⟨_, h⟩ := h)); subst_vars; rfl
  · obtain ⟨p, a, d, l, ps, c, rfl, D, C, hc, h0, h1, k⟩ := h
    refine ⟨_, (pss_cons (ps_set (i := 2) sc_row_of.nd rfl (Or.inl rfl) (pe_lst (pa_cons (pe_fldK (K := K) rfl (pv 1) rfl) (pa_cons (pe_callTy call_str_int rfl (b_str T) (by decide +kernel) (pa_cons (pe_fldK (K := K) rfl (pv 1) rfl) pa_nil)) (pa_cons (pe_fldK (K := K) rfl (pv 1) rfl) pa_nil)))))
        (pss_cons (ps_if (pt_cmpR op_eq (pe_fldK (K := K) rfl (pv 1) rfl) pe_str (nomark _)) (pss_one (ps_expr (pe_bm PySem.F.plainAttrs_list PySem.F.slot_list_append PySem.F.type_list_append mt_append (pv 2) (pa_cons (pe_callTy call_str_int rfl (b_str T) (by decide +kernel) (pa_cons (pe_op op_sub (pe_fldK (K := K) rfl (pv 0) rfl) (pe_fldK (K := K) rfl (pv 1) rfl)) pa_nil)) pa_nil))))
        (pss_one (ps_if (pt_cmpR op_eq (pe_fldK (K := K) rfl (pv 1) rfl) pe_str (nomark _)) (pss_one (ps_expr (pe_bm PySem.F.plainAttrs_list PySem.F.slot_list_append PySem.F.type_list_append mt_append (pv 2) (pa_cons (pe_callTy call_str_int rfl (b_str T) (by decide +kernel) (pa_cons (pe_op op_sub (pe_fldK (K := K) rfl (pv 1) rfl) (pe_fldK (K := K) rfl (pv 0) rfl)) pa_nil)) pa_nil))))
        (pss_one (ps_expr (pe_bm PySem.F.plainAttrs_list PySem.F.slot_list_append PySem.F.type_list_append mt_append (pv 2) (pa_cons (pe_fldK (K := K) rfl (pv 1) rfl) pa_nil)))))))
        (pss_one (ps_ret (pe_join pe_str (pv 2)))))), ?_⟩
    have hw := rowW_len hc h0 h1
    have hsum := sum_le hw
    have hcc := hc
    obtain ⟨g1, g2, g3, g4⟩ := hcc
    refine q_asgL (xs := [.str c.nm, .str (Str.ofString (toString c.rk)), .str c.md.st]) (el_lst (ea_cons (ev_label T (ev_var rfl) C) (ea_cons (ev_cb (ea_cons (ev_grade T (ev_var rfl) C) ea_nil) (rc_strI (by omega))) (ea_cons (ev_stand T (ev_var rfl) C) ea_nil))) (by show 3 ≤ 100000; decide)) fun w H1 nw e1 hw1 => ?_
    have D1 := D.ex e1
    have C1 := C.ex e1
    have fin : ∀ {H4 : Hp} {σ : L2.St} {D : Ends}, Ex H H4 → H4 w = some (.lst ((rowW d.now c).map V.str)) → D.rt = Q → σ[2]? = some (some (.ref w)) → tRet (tM1 (fun x xs H Q => ∃ a p, ∃ ys : List Str, x = .str a ∧ xs = [.ref p] ∧ (SqL K H p (ys.map V.str) ∨ SqT K H p (ys.map V.str)) ∧ (ys.map (·.length)).sum + ys.length * a.length ≤ 16777216 ∧ Q (.str (Txt.join a ys)) H) (tC (.str " ")) (tVar 2)) D σ H4 := fun {H4 σ D} e4 hp4 hD hσ => by
      refine s_ret (ev_joinA (p := w) (ys := rowW d.now c) ev_c (ev_var hσ) (sq_of hp4) ?_) fun H5 e5 => ?_
      · have h3 : (rowW d.now c).length = 4 := rfl
        rw [h3] at hsum ⊢
        rw [show (" " : Str).length = 1 from by decide +kernel]
        omega
      · rw [hD]
        exact k H5 (e4.trans e5)
    cases hm : c.md with
    | rdy s =>
      rw [hm] at g4
      have g4 : 0 ≤ s ∧ s ≤ d.now := g4
      refine q_if (b := true) (et_is (et_test (ev_op (ev_stand T (ev_var rfl) C1) ev_c (rv_eq rfl))) (by rw [decV, st_ready, hm]; rfl)) (fun _ H2 e2 => ?_) (fun h => by cases h)
      refine s_app (hl := e2 _ _ hw1) (ev_var rfl) (v := .str (Str.ofString (toString (d.now - s)))) (ev_cb (ea_cons (ev_op (ev_now T (ev_var rfl) (D1.ex e2)) (ev_is (ev_mark T (ev_var rfl) (C1.ex e2)) (by rw [hm]; rfl)) rv_I0) ea_nil) (rc_strI (by omega))) (by show 3 < 100000; decide) fun H3 e3 => ?_
      exact fin (Ex.mut (e1.trans (e2.trans e3)) nw) (by rw [upd_same]; unfold rowW markS; rw [hm]; rfl) rfl rfl
    | slp s =>
      rw [hm] at g4
      have g4 : d.now < s ∧ s ≤ d.now + 1000 := g4
      refine q_if (b := false) (et_is (et_test (ev_op (ev_stand T (ev_var rfl) C1) ev_c (rv_eq rfl))) (by rw [decV, st_ready, hm]; rfl)) (fun h => by cases h) (fun _ H2 e2 => ?_)
      refine s_if (b := true) (et_is (et_test (ev_op (ev_stand T (ev_var rfl) (C1.ex e2)) ev_c (rv_eq rfl))) (by rw [decV, st_asleep, hm]; rfl)) (fun _ H3 e3 => ?_) (fun h => by cases h)
      refine s_app (hl := (e2.trans e3) _ _ hw1) (ev_var rfl) (v := .str (Str.ofString (toString (s - d.now)))) (ev_cb (ea_cons (ev_op (ev_is (ev_mark T (ev_var rfl) (C1.ex (e2.trans e3))) (by rw [hm]; rfl)) (ev_now T (ev_var rfl) (D1.ex (e2.trans e3))) rv_I0) ea_nil) (rc_strI (by omega))) (by show 3 < 100000; decide) fun H4 e4 => ?_
      exact fin (Ex.mut (e1.trans ((e2.trans e3).trans e4)) nw) (by rw [upd_same]; unfold rowW markS; rw [hm]; rfl) rfl rfl
    | wtg s =>
      refine q_if (b := false) (et_is (et_test (ev_op (ev_stand T (ev_var rfl) C1) ev_c (rv_eq rfl))) (by rw [decV, st_ready, hm]; rfl)) (fun h => by cases h) (fun _ H2 e2 => ?_)
      refine s_if (b := false) (et_is (et_test (ev_op (ev_stand T (ev_var rfl) (C1.ex e2)) ev_c (rv_eq rfl))) (by rw [decV, st_asleep, hm]; rfl)) (fun h => by cases h) (fun _ H3 e3 => ?_)
      refine s_app (hl := (e2.trans e3) _ _ hw1) (ev_var rfl) (v := .str s) (ev_is (ev_mark T (ev_var rfl) (C1.ex (e2.trans e3))) (by rw [hm]; rfl)) (by show 3 < 100000; decide) fun H4 e4 => ?_
      exact fin (Ex.mut (e1.trans ((e2.trans e3).trans e4)) nw) (by rw [upd_same]; unfold rowW markS; rw [hm]; rfl) rfl rfl
/-! ### shown -/
theorem sc_shown : FnScope ["desk", "rows", "caller", "row"] ["desk"] (defScope s_shown) := ⟨rfl, rfl, rfl, by decide +kernel, rfl, by decide +kernel, by decide +kernel⟩
def sp_shown (K : PySem.W.Frag) : Sp := fun vs H Q _ => ∃ (p : Addr) (d : Dk) (l : Addr) (ps : List Pr), vs = [.ref p] ∧ DkAt K H p d l ps ∧ d.Ok ∧ d.now < 100000000000000 ∧ RetV (.str (shownD d)) H Q
theorem cv_shown {K : PySem.W.Frag} {H : Hp} {p l : Addr} {d : Dk} {ps : List Pr} (D : DkAt K H p d l ps) (ok : d.Ok) (h1 : d.now < 100000000000000) : SpV (sp_shown K) ([.ref p] ++ []) H (.str (shownD d)) := spv_call fun _ e _ _ k => ⟨p, d, l, ps, rfl, D.ex e, ok, h1, k⟩
theorem ok_shown {P : Program} {w : World} {K : PySem.W.Frag} {mg : Str → Option Value} {base : Heap} (T : Txt K mg) : ∃ fd, FnOk P w K mg base (CX0) 2 (He.ga K "shown") fd ["desk"] (sp_shown K) ∧ Binds K fd ["desk"] [] ∧ FunD K "shown" "shown" (defArgs s_shown) (defBody s_shown) (defScope s_shown) [] [] (He.ga K "shown") fd := by
  obtain ⟨fd, F⟩ := f_shown T
  obtain ⟨d_row_of, G_row_of, b_row_of, _⟩ := ok_row_of (P := P) (w := w) (base := base) T
  refine ⟨fd, ok0 F sc_shown (fun vs H Q E h => ?_) (fun cdv A outer s H vs Q E hr h => ?_), FunD.bindsN F fun _ _ _ _ _ _ us hl => match us, hl with | [_], _ => rfl, F⟩
  · (repeat (obtain ⟨_, h⟩ := h)); subst_vars; rfl
  · obtain ⟨p, d, l, ps, rfl, D, ok, h1, k⟩ := h
    refine ⟨_, (pss_cons (ps_set (i := 1) sc_shown.nd rfl (Or.inl rfl) (pe_lst (pa_cons (pe_op op_add_str (pe_op op_add_str (pe_op op_add_str (pe_op op_add_str (pe_op op_add_str pe_str (pe_callTy call_str_int rfl (b_str T) (by decide +kernel) (pa_cons (pe_fldK (K := K) rfl (pv 0) rfl) pa_nil))) pe_str) (pe_callTy call_str_int rfl (b_str T) (by decide +kernel) (pa_cons (pe_fldK (K := K) rfl (pv 0) rfl) pa_nil))) pe_str) (pe_callTy call_str_int rfl (b_str T) (by decide +kernel) (pa_cons (pe_fldK (K := K) rfl (pv 0) rfl) pa_nil))) pa_nil)))
        (pss_cons (ps_for PassesOwn.never rfl (pi_listK (K := K) rfl (pe_fldK (K := K) rfl (pv 0) rfl)) (pg_name (i := 2) sc_shown.nd rfl (Or.inl rfl))
        (pss_one (ps_expr (pe_bm PySem.F.plainAttrs_list PySem.F.slot_list_append PySem.F.type_list_append mt_append (pv 1) (pa_cons (pe_call G_row_of (hr.mono (by decide)) rfl (g_row_of T) (kp_row_of T) b_row_of .nil pass0 (pa_cons (pv 0) (pa_cons (pv 2) pa_nil))) pa_nil)))))
        (pss_one (ps_ret (pe_join pe_str (pe_lc (own := [("row", 3)]) (g := gName 3) (tt := tYes) rfl sc_shown.nd (pi_listK (K := K) rfl (pv 1)) (blkOk_by (own := [("row", 3)]) (N := ["desk", "rows", "caller", "row"]) (sc := defScope s_shown) (by decide +kernel)) (fun _ _ _ _ _ => (pg_name (i := 3) sc_shown.nd rfl (Or.inl rfl))) (fun _ _ _ _ _ => pts_nil) (fun _ _ _ _ _ => (pe_op op_add_str (pv 3) pe_str)))))))), ?_⟩
    have h0 := ok.n0
    have p1 := ok.p1
    have p2 := ok.p2
    have r1 := ok.r1
    have r2 := ok.r2
    have h60 := ok.len60
    have l1 := len_int (i := d.pace) (by omega) (by omega)
    have l2 := len_int (i := d.room) (by omega) (by omega)
    have l3 := len_int (i := d.now) h0 (by omega)
    have hd5 : ("desk " : Str).length = 5 := by decide +kernel
    have h11 : (" " : Str).length = 1 := by decide +kernel
    have h12 : ("\n" : Str).length = 1 := by decide +kernel
    have hz : ∀ {n : Nat}, n ≤ 1000 → n ≤ sizeLine := fun h => sz_of (by omega)
    have hhl : (headS d).length ≤ 60 := by
      unfold headS
      simp only [len_app]
      omega
    refine q_asgL (xs := [headS d].map V.str) (el_lst (ea_cons ?h ea_nil) (by show 1 ≤ 100000; decide)) fun r H1 nr e1 hr1 => ?_
    case h =>
      unfold headS
      refine ev_op (ev_op (ev_op (ev_op (ev_op ev_c (ev_cb (ea_cons (ev_pace T (ev_var rfl) D) ea_nil) (rc_strI (by omega))) (rv_addS ?_)) ev_c (rv_addS ?_)) (ev_cb (ea_cons (ev_room T (ev_var rfl) D) ea_nil) (rc_strI (by omega))) (rv_addS ?_)) ev_c (rv_addS ?_)) (ev_cb (ea_cons (ev_now T (ev_var rfl) D) ea_nil) (rc_strI (by omega))) (rv_addS ?_)
      all_goals
        refine hz ?_
        try simp only [len_app]
        omega
    have hpl : ps.length = d.line.length := D.len
    refine q_forLn (K := K) (xs := ps.map fun q => V.ref q.1) (ev_line T (ev_var rfl) (D.ex e1)) (sq_of (e1 _ _ D.ln))
      (fun i σ' H' => Ex H H' ∧ ∃ v, σ' = [some (.ref p), some (.ref r), v, none] ∧ H' r = some (.lst ((headS d :: (d.line.take i).map (rowS d.now)).map V.str)))
      (fun H2 e2 => ⟨e1.trans e2, none, rfl, e2 _ _ hr1⟩) (fun i σ' H' _ ⟨e2, _⟩ => sq_of (e2 _ _ D.ln)) ?_ ?_
    · rintro i x σ' H' hi ⟨e2, v, rfl, hr2⟩
      rw [List.getElem?_map] at hi
      cases hq : ps[i]? with
      | none => rw [hq] at hi; cases hi
      | some q =>
        rw [hq] at hi
        cases hi
        have hm := List.mem_of_getElem? hq
        have hqd : q.2 ∈ d.line := by rw [D.eq]; exact List.mem_map.mpr ⟨q, hm, rfl⟩
        have hlt := (List.getElem?_eq_some_iff.mp hq).1
        refine s_app (hl := hr2) (ev_var rfl) (ev_call (ea_cons (ev_var rfl) (ea_cons (ev_var rfl) ea_nil)) (cv_row_of (D.ex e2) ((D.at_ q hm).ex e2) (ok.cl q.2 hqd) h0 h1)) (by rw [List.length_map, List.length_cons, List.length_map]; have := List.length_take_le i d.line; omega) fun H3 e3 => ⟨Ex.mut (e2.trans e3) nr, _, rfl, ?_⟩
        rw [upd_same]
        have hdl : d.line[i]? = some q.2 := by rw [D.eq, List.getElem?_map, hq]; rfl
        rw [List.take_succ, hdl]
        simp
    · rintro σ' H' ⟨e2, v, rfl, hr2⟩
      have htk : d.line.take (ps.map fun q => V.ref q.1).length = d.line := List.take_of_length_le (by rw [List.length_map]; omega)
      rw [htk] at hr2
      have hrow : ∀ r ∈ rowsS d, r.length ≤ 64 := fun r hr => by
        unfold rowsS at hr
        rcases List.mem_cons.mp hr with rfl | hr
        · omega
        · obtain ⟨c, hc, rfl⟩ := List.mem_map.mp hr
          exact row_len (ok.cl c hc) h0 h1
      have hrl : (rowsS d).length = d.line.length + 1 := by unfold rowsS; rw [List.length_cons, List.length_map]
      refine s_ret (v := .str (shownD d)) ?h2 fun H3 e3 => k H3 (e2.trans e3)
      unfold shownD
      refine ev_joinL ev_c ?l ?z
      case l =>
        have hg : ((rowsS d).map fun r : Str => r ++ "\n").map V.str = ((rowsS d).filter fun _ => true).map fun r : Str => V.str (r ++ "\n") := by
          rw [filter_true, List.map_map]
          rfl
        rw [hg]
        exact el_lcM (K := K) (ps := rowsS d) (uu := fun r => V.str r) (fun _ => true) (fun r : Str => V.str (r ++ "\n")) (ev_var rfl) (sq_of hr2) (by omega) (fun _ => rfl) (fun _ _ _ _ => et_yes) fun r hr H4 e4 _ => ev_op (ev_var rfl) ev_c (rv_addS (hz (by have := hrow r hr; omega)))
      case z =>
        have := sum_le (ws := (rowsS d).map fun r : Str => r ++ "\n") (n := 65) fun w hw => by
          obtain ⟨r, hr, rfl⟩ := List.mem_map.mp hw
          have := hrow r hr
          rw [len_app]
          omega
        rw [List.length_map] at this ⊢
        rw [show ("" : Str).length = 0 from by decide +kernel]
        omega
/-! ### L_whole -/
theorem sc_L_whole : FnScope ["_law_found"] ["_law_found"] (defScope s_L_whole) := ⟨rfl, rfl, rfl, by decide +kernel, rfl, by decide +kernel, by decide +kernel⟩
def sp_L_whole (_ : PySem.W.Frag) : Sp := fun vs H Q _ => ∃ (i : Int), vs = [.int i] ∧ RetV (.bl true) H Q
theorem cv_L_whole {K : PySem.W.Frag} {H : Hp} {i : Int} : SpV (sp_L_whole K) ([.int i] ++ []) H (.bl true) := spv_call fun _ _ _ _ k => ⟨i, rfl, k⟩
local macro_rules | `(tactic| tm_at "rr.cv") => `(tactic| exact cv_L_whole)
theorem ok_L_whole {P : Program} {w : World} {K : PySem.W.Frag} {mg : Str → Option Value} {base : Heap} (T : Txt K mg) : ∃ fd, FnOk P w K mg base (CX0) 1 (He.ga K "_law_whole") fd ["_law_found"] (sp_L_whole K) ∧ Binds K fd ["_law_found"] [] ∧ FunD K "_law_whole" "_law_whole" (defArgs s_L_whole) (defBody s_L_whole) (defScope s_L_whole) [] [] (He.ga K "_law_whole") fd := by
  obtain ⟨fd, F⟩ := f_L_whole T
  refine ⟨fd, ok0 F sc_L_whole (fun vs H Q E h => ?_) (fun cdv A outer s H vs Q E hr h => ?_), FunD.bindsN F fun _ _ _ _ _ _ us hl => match us, hl with | [_], _ => rfl, F⟩
  · (repeat (obtain ⟨_, h⟩ := h)); subst_vars; rfl
  · obtain ⟨i, rfl, k⟩ := h
    refine ⟨_, (pss_one (ps_ret (pe_and (pe_callB (call_isiK' (K := K) rfl) rfl (b_isinstance T) (by decide +kernel) (pa_cons (pv 0) (pa_cons (pe_bltn (v := .ty "int") rfl (b_int T) (by decide +kernel) rfl) pa_nil))) (pe_one (pe_not (pe_callB (call_isiK' (K := K) rfl) rfl (b_isinstance T) (by decide +kernel) (pa_cons (pv 0) (pa_cons (pe_bltn (v := .ty "bool") rfl (b_bool T) (by decide +kernel) rfl) pa_nil)))))))), ?_⟩
    exact s_ret (ev_andV (ev_cb (ea_cons (ev_var rfl) (ea_cons ev_c ea_nil)) rc_isi_int) fun _ => ev_notV (ev_cb (ea_cons (ev_var rfl) (ea_cons ev_c ea_nil)) rc_isi_int_bool)) k
/-! ### L_texts -/
theorem sc_L_texts : FnScope ["_law_found", "_law_due", "_law_k"] ["_law_found", "_law_due"] (defScope s_L_texts) := ⟨rfl, rfl, rfl, by decide +kernel, rfl, by decide +kernel, by decide +kernel⟩
theorem ev_callLL {σ : L2.St} {H : Hp} {ta tb : TE} {sp : Sp} {E : XK} {xs ys : List V} {z : V} (h1 : EvL ta σ H xs) (h2 : EvL tb σ H ys) (hs : ∀ p q H1, Ex H H1 → H1 p = some (.lst xs) → H1 q = some (.lst ys) → SpV sp ([.ref p, .ref q] ++ []) H1 z) : Ev (tCall sp [] E (tCons ta (tCons tb tNil))) σ H z := fun H1 e Q k =>
  h1 H1 e _ fun p H2 hp e2 hp2 => h2 H2 (e.trans e2) _ fun q H3 hq e3 hq3 => hs p q H3 ((e.trans e2).trans e3) (e3 _ _ hp2) hq3 H3 (Ex.refl H3) Q (fun H4 e4 => k H4 ((e2.trans e3).trans e4)) E
theorem rc_isi_str {K : PySem.W.Frag} {H : Hp} {s : Str} : RC (rIsi K) [.str s, .ty "str"] H (.bl true) := rc_isi (t' := .non) (.ty _) (fun H1 e => .base (.str s)) (kit_ty (by decide +kernel))
def sp_L_texts (_ : PySem.W.Frag) : Sp := fun vs H Q _ => ∃ (a b : Addr) (xs : List (Option Str)), vs = [.ref a, .ref b] ∧ H a = some (.lst (xs.map optS)) ∧ H b = some (.lst (xs.map optS)) ∧ xs.length ≤ 1000 ∧ RetV (.bl true) H Q
theorem ok_L_texts {P : Program} {w : World} {K : PySem.W.Frag} {mg : Str → Option Value} {base : Heap} (T : Txt K mg) : ∃ fd, FnOk P w K mg base (CX0) 1 (He.ga K "_law_texts") fd ["_law_found", "_law_due"] (sp_L_texts K) ∧ Binds K fd ["_law_found", "_law_due"] [] ∧ FunD K "_law_texts" "_law_texts" (defArgs s_L_texts) (defBody s_L_texts) (defScope s_L_texts) [] [] (He.ga K "_law_texts") fd := by
  obtain ⟨fd, F⟩ := f_L_texts T
  refine ⟨fd, ok0 F sc_L_texts (fun vs H Q E h => ?_) (fun cdv A outer s H vs Q E hr h => ?_), FunD.bindsN F fun _ _ _ _ _ _ us hl => match us, hl with | [_, _], _ => rfl, F⟩
  · (repeat (obtain ⟨_, h⟩ := h)); subst_vars; rfl
  · obtain ⟨a, b, xs, rfl, ha, hb0, hz, k⟩ := h
    refine ⟨_, (pss_cons (ps_if (PW.pt (pw_or (pt_not (pt_val (pe_callB (call_isiK' (K := K) rfl) rfl (b_isinstance T) (by decide +kernel) (pa_cons (pv 0) (pa_cons (pe_bltn (v := .ty "list") rfl (b_list T) (by decide +kernel) rfl) pa_nil))))) (pw_or1 (pt_cmpR op_ne (pe_callB (call_lenK (K := K) rfl) rfl (b_len T) (by decide +kernel) (pa_cons (pv 0) pa_nil)) (pe_callB (call_lenK (K := K) rfl) rfl (b_len T) (by decide +kernel) (pa_cons (pv 1) pa_nil)) (nomark _))))) (pss_one (ps_ret pe_bl))
        pss_nil)
        (pss_cons (ps_for PassesOwn.never rfl (pi_range1 rfl (b_range T) (pa_cons (pe_callB (call_lenK (K := K) rfl) rfl (b_len T) (by decide +kernel) (pa_cons (pv 1) pa_nil)) pa_nil)) (pg_name (i := 2) sc_L_texts.nd rfl (Or.inl rfl))
        (pss_one (ps_if (pt_cmpR op_isN (pe_ix (ix_listK (K := K) rfl) (pv 1) (pv 2) (fun _ _ => rfl)) pe_non (nomark _)) (pss_one (ps_if (pt_cmpR op_notN (pe_ix (ix_listK (K := K) rfl) (pv 0) (pv 2) (fun _ _ => rfl)) pe_non (nomark _)) (pss_one (ps_ret pe_bl))
        pss_nil))
        (pss_one (ps_if (PW.pt (pw_or (pt_not (pt_val (pe_callB (call_isiK' (K := K) rfl) rfl (b_isinstance T) (by decide +kernel) (pa_cons (pe_ix (ix_listK (K := K) rfl) (pv 0) (pv 2) (fun _ _ => rfl)) (pa_cons (pe_bltn (v := .ty "str") rfl (b_str T) (by decide +kernel) rfl) pa_nil))))) (pw_or1 (pt_cmpR op_ne (pe_ix (ix_listK (K := K) rfl) (pv 0) (pv 2) (fun _ _ => rfl)) (pe_ix (ix_listK (K := K) rfl) (pv 1) (pv 2) (fun _ _ => rfl)) (nomark _))))) (pss_one (ps_ret pe_bl))
        pss_nil)))))
        (pss_one (ps_ret pe_bl)))), ?_⟩
    have la : ((xs.map optS).length : Int) = (xs.length : Int) := by rw [List.length_map]
    refine q_when (b := false) ?h1 (fun hb H4 e4 => by cases hb) (fun hb H1 e1 => ?_)
    case h1 =>
      refine et_is (et_or (a := false) (b := false) (et_is (et_not (et_B (ev_cb (ea_cons (ev_var rfl) (ea_cons ev_c ea_nil)) (rc_isi_list ha)))) rfl) fun _ => et_is (et_test (ev_op (ev_cb (ea_cons (ev_var rfl) ea_nil) (rc_lenS (sq_of ha))) (ev_cb (ea_cons (ev_var rfl) ea_nil) (rc_lenS (sq_of hb0))) (rv_ne rfl))) (by simp)) rfl
    refine q_forR1 (n := ((xs.map optS).length : Int)) (ea_cons (ev_cb (ea_cons (ev_var rfl) ea_nil) (rc_lenS (sq_of (e1 _ _ hb0)))) ea_nil) (by rw [la]; omega)
      (fun i σ' H' => Ex H H' ∧ ∃ v, σ' = [some (.ref a), some (.ref b), v]) (fun H2 e2 => ⟨e1.trans e2, none, rfl⟩) ?_ ?_
    · rintro i σ' H' hi ⟨e2, v, rfl⟩
      rw [la] at hi
      obtain ⟨x, hx⟩ : ∃ x, xs[i]? = some x := ⟨_, List.getElem?_eq_getElem (by omega)⟩
      have hat : atI (xs.map optS) (i : Int) = some (optS x) := at_of rfl (by rw [List.getElem?_map, hx]; rfl)
      have fa : ∀ {H3}, Ex H' H3 → Ev (tOp (rIxL K) (tVar 0) (tVar 2)) [some (.ref a), some (.ref b), some (.int (i : Int))] H3 (optS x) := fun e => ev_op (ev_var rfl) (ev_var rfl) (rv_ixL (sq_of ((e2.trans e) _ _ ha)) hat)
      have fb : ∀ {H3}, Ex H' H3 → Ev (tOp (rIxL K) (tVar 1) (tVar 2)) [some (.ref a), some (.ref b), some (.int (i : Int))] H3 (optS x) := fun e => ev_op (ev_var rfl) (ev_var rfl) (rv_ixL (sq_of ((e2.trans e) _ _ hb0)) hat)
      cases x with
      | none =>
        refine s_if (b := true) (et_is (et_test (ev_op (fb (Ex.refl _)) ev_c rv_isN)) rfl) (fun _ H3 e3 => ?_) (fun h => by cases h)
        exact s_when (b := false) (et_is (et_test (ev_op (fa e3) ev_c rv_notN)) rfl) (fun h => by cases h) (fun _ H4 e4 => ⟨e2.trans (e3.trans e4), _, rfl⟩)
      | some s =>
        refine s_if (b := false) (et_is (et_test (ev_op (fb (Ex.refl _)) ev_c rv_isN)) rfl) (fun h => by cases h) (fun _ H3 e3 => ?_)
        refine s_when (b := false) (et_is (et_or (a := false) (b := false) (et_is (et_not (et_B (ev_cb (ea_cons (fa e3) (ea_cons ev_c ea_nil)) rc_isi_str))) rfl) fun _ => et_is (et_test (ev_op (fa e3) (fb e3) (rv_ne rfl))) (by simp)) rfl) (fun h => by cases h) (fun _ H4 e4 => ⟨e2.trans (e3.trans e4), _, rfl⟩)
    · rintro σ' H' ⟨e2, v, rfl⟩
      exact s_ret ev_c fun H3 e3 => k H3 (e2.trans e3)
/-! ### desk_one -/
theorem sc_desk_one : FnScope ["self", "name", "caller"] ["self", "name"] (defScope s_desk_one) := ⟨rfl, rfl, rfl, by decide +kernel, rfl, by decide +kernel, by decide +kernel⟩
def sp_desk_one (K : PySem.W.Frag) : Sp := fun vs H Q E => ∃ (p : Addr) (d : Dk) (l : Addr) (ps : List Pr) (nm : Str), vs = [.ref p, .str nm] ∧ DkAt K H p d l ps ∧
  (∀ q ∈ ps, q.2.nm = nm → ∀ H', Ex H H' → Q (.ref q.1) H') ∧ ((∀ q ∈ ps, q.2.nm ≠ nm) → ∀ H', Ex H H' → E (.ref (He.ga K "Unknown")) none H')
theorem ok_desk_one {P : Program} {w : World} {K : PySem.W.Frag} {mg : Str → Option Value} {base : Heap} (T : Txt K mg) : ∃ fd, FnOk P w K mg base (L2N.CX P w) 1 (He.ma K (He.ga K "Desk") "one") fd ["self", "name"] (sp_desk_one K) ∧ Binds K fd ["self", "name"] [] ∧ FunD K "one" "Desk.one" (defArgs s_desk_one) (defBody s_desk_one) (defScope s_desk_one) [] [] (He.ma K (He.ga K "Desk") "one") fd := by
  obtain ⟨fd, F⟩ := f_desk_one T
  refine ⟨fd, okXN F sc_desk_one (fun vs H Q E h => ?_) (fun cdv A outer s H vs Q E hr h => ?_), FunD.bindsN F fun _ _ _ _ _ _ us hl => match us, hl with | [_, _], _ => rfl, F⟩
  · (repeat (obtain ⟨_, h⟩ := h)); subst_vars; rfl
  · obtain ⟨p, d, l, ps, nm, rfl, D, k, kE⟩ := h
    refine ⟨_, (pss_cons (ps_for (passes_of rfl) rfl (pi_listK (K := K) rfl (pe_fldK (K := K) rfl (pv 0) rfl)) (pg_name (i := 2) sc_desk_one.nd rfl (Or.inl rfl))
        (pss_one (ps_if (pt_cmpR op_eq (pe_fldK (K := K) rfl (pv 2) rfl) (pv 1) (nomark _)) (pss_one (ps_ret (pv 2)))
        pss_nil)))
        (pss_one (L2N.ps_raise rfl (L2N.takes_of rfl rfl rfl rfl) (L2N.pmk_own PySem.F.excBase_ValueError (x_Unknown T).1 (g_Unknown T) (x_Unknown T).2.1 (raises_own (x_Unknown T).2.2.1 (x_Unknown T).2.2.2) rfl)))), ?_⟩
    refine q_forLn (K := K) (xs := ps.map fun q => V.ref q.1) (ev_line T (ev_var rfl) D) (sq_of D.ln) (fun i σ' H' => Ex H H' ∧ (∃ v, σ' = [some (.ref p), some (.str nm), v]) ∧ ∀ q ∈ ps.take i, q.2.nm ≠ nm) (fun H1 e1 => ⟨e1, ⟨none, rfl⟩, fun q hq => by simp at hq⟩) (fun i σ' H' _ ⟨e1, _⟩ => sq_of (e1 _ _ D.ln)) ?_ ?_
    · rintro i x σ' H' hi ⟨e1, ⟨v, rfl⟩, hall⟩
      rw [List.getElem?_map] at hi
      cases hq : ps[i]? with
      | none => rw [hq] at hi; cases hi
      | some q =>
        rw [hq] at hi
        cases hi
        have hm := List.mem_of_getElem? hq
        refine s_when (b := decide (q.2.nm = nm)) ?h (fun hb H2 e2 => ?_) (fun hb H2 e2 => ?_)
        case h =>
          rw [← decV]
          exact et_test (ev_op (ev_label T (ev_var rfl) ((D.at_ q hm).ex e1)) (ev_var rfl) (rv_eq rfl))
        · exact s_ret (ev_var rfl) fun H3 e3 => k q hm (of_decide_eq_true hb) H3 ((e1.trans e2).trans e3)
        · refine ⟨e1.trans e2, ⟨_, rfl⟩, fun r hr => ?_⟩
          rw [List.take_succ, hq] at hr
          rcases List.mem_append.mp hr with hr | hr
          · exact hall r hr
          · simp at hr
            rw [hr]
            exact of_decide_eq_false hb
    · rintro σ' H' ⟨e1, ⟨v, rfl⟩, hall⟩
      refine kE (fun q hq => hall q ?_) H' e1
      rw [List.length_map, List.take_length]
      exact hq
/-! ### desk_state -/
theorem sc_desk_state : FnScope ["self", "name"] ["self", "name"] (defScope s_desk_state) := ⟨rfl, rfl, rfl, by decide +kernel, rfl, by decide +kernel, by decide +kernel⟩
def sp_desk_state (K : PySem.W.Frag) : Sp := fun vs H Q E => ∃ (p : Addr) (d : Dk) (l : Addr) (ps : List Pr) (nm : Str), vs = [.ref p, .str nm] ∧ DkAt K H p d l ps ∧ d.Wf ∧ (d.get nm = none → ∀ H', Ex H H' → E (.ref (He.ga K "Unknown")) none H') ∧ ∀ c, d.get nm = some c → RetV (.str c.md.st) H Q
theorem cv_state {K : PySem.W.Frag} {H : Hp} {p l : Addr} {d : Dk} {ps : List Pr} {c : Cl} {nm : Str} (h : DkAt K H p d l ps) (W : d.Wf) (hc : d.get nm = some c) : SpV (sp_desk_state K) (.ref p :: ([.str nm] ++ [])) H (.str c.md.st) :=
  spv_meth fun _ e _ _ k => ⟨p, d, l, ps, nm, rfl, h.ex e, W, fun hn => (by rw [hn] at hc; cases hc), fun c' h' => by rw [hc] at h'; cases h'; exact k⟩
theorem ok_desk_state {P : Program} {w : World} {K : PySem.W.Frag} {mg : Str → Option Value} {base : Heap} (T : Txt K mg) : ∃ fd, FnOk P w K mg base (L2N.CX P w) 2 (He.ma K (He.ga K "Desk") "state") fd ["self", "name"] (sp_desk_state K) ∧ Binds K fd ["self", "name"] [] ∧ FunD K "state" "Desk.state" (defArgs s_desk_state) (defBody s_desk_state) (defScope s_desk_state) [] [] (He.ma K (He.ga K "Desk") "state") fd := by
  obtain ⟨fd, F⟩ := f_desk_state T
  obtain ⟨d_desk_one, G_desk_one, b_desk_one, _⟩ := ok_desk_one (P := P) (w := w) (base := base) T
  refine ⟨fd, okXN F sc_desk_state (fun vs H Q E h => ?_) (fun cdv A outer s H vs Q E hr h => ?_), FunD.bindsN F fun _ _ _ _ _ _ us hl => match us, hl with | [_, _], _ => rfl, F⟩
  · (repeat (obtain ⟨_, h⟩ := h)); subst_vars; rfl
  · obtain ⟨p, d, l, ps, nm, rfl, D, W, kE, k⟩ := h
    refine ⟨_, (pss_one (ps_ret (pe_fldK (K := K) rfl (pe_meth (pv 0) (c_Desk T) (m_desk_one T) G_desk_one (hr.mono (by decide)) b_desk_one .nil (L2N.passes_call (L2N.takes_of rfl rfl rfl rfl) (fun _ _ _ _ h => h)) (pa_cons (pv 1) pa_nil)) rfl))), ?_⟩
    obtain ⟨dx, hp⟩ := D.ob
    refine ⟨_, rfl, p, dx, _, rfl, hp, rfl, _, rfl, p, d, l, ps, nm, rfl, D, fun q hq hn H1 e1 => ?_, fun hn H1 e1 => kE (D.get_none hn) H1 e1⟩
    subst hn
    obtain ⟨dc, hc⟩ := (D.at_ q hq).ex e1
    exact ⟨q.1, aC K, dc, _, _, rfl, hc, c_Caller T, n_Caller_stand T, rfl, k q.2 (D.get_of W hq) H1 e1⟩
/-! ### desk_rank -/
theorem sc_desk_rank : FnScope ["self", "name"] ["self", "name"] (defScope s_desk_rank) := ⟨rfl, rfl, rfl, by decide +kernel, rfl, by decide +kernel, by decide +kernel⟩
def sp_desk_rank (K : PySem.W.Frag) : Sp := fun vs H Q E => ∃ (p : Addr) (d : Dk) (l : Addr) (ps : List Pr) (nm : Str), vs = [.ref p, .str nm] ∧ DkAt K H p d l ps ∧ d.Wf ∧ (d.get nm = none → ∀ H', Ex H H' → E (.ref (He.ga K "Unknown")) none H') ∧ ∀ c, d.get nm = some c → RetV (.int c.rk) H Q
theorem cv_rank {K : PySem.W.Frag} {H : Hp} {p l : Addr} {d : Dk} {ps : List Pr} {c : Cl} {nm : Str} (h : DkAt K H p d l ps) (W : d.Wf) (hc : d.get nm = some c) : SpV (sp_desk_rank K) (.ref p :: ([.str nm] ++ [])) H (.int c.rk) :=
  spv_meth fun _ e _ _ k => ⟨p, d, l, ps, nm, rfl, h.ex e, W, fun hn => (by rw [hn] at hc; cases hc), fun c' h' => by rw [hc] at h'; cases h'; exact k⟩
theorem ok_desk_rank {P : Program} {w : World} {K : PySem.W.Frag} {mg : Str → Option Value} {base : Heap} (T : Txt K mg) : ∃ fd, FnOk P w K mg base (L2N.CX P w) 2 (He.ma K (He.ga K "Desk") "rank") fd ["self", "name"] (sp_desk_rank K) ∧ Binds K fd ["self", "name"] [] ∧ FunD K "rank" "Desk.rank" (defArgs s_desk_rank) (defBody s_desk_rank) (defScope s_desk_rank) [] [] (He.ma K (He.ga K "Desk") "rank") fd := by
  obtain ⟨fd, F⟩ := f_desk_rank T
  obtain ⟨d_desk_one, G_desk_one, b_desk_one, _⟩ := ok_desk_one (P := P) (w := w) (base := base) T
  refine ⟨fd, okXN F sc_desk_rank (fun vs H Q E h => ?_) (fun cdv A outer s H vs Q E hr h => ?_), FunD.bindsN F fun _ _ _ _ _ _ us hl => match us, hl with | [_, _], _ => rfl, F⟩
  · (repeat (obtain ⟨_, h⟩ := h)); subst_vars; rfl
  · obtain ⟨p, d, l, ps, nm, rfl, D, W, kE, k⟩ := h
    refine ⟨_, (pss_one (ps_ret (pe_fldK (K := K) rfl (pe_meth (pv 0) (c_Desk T) (m_desk_one T) G_desk_one (hr.mono (by decide)) b_desk_one .nil (L2N.passes_call (L2N.takes_of rfl rfl rfl rfl) (fun _ _ _ _ h => h)) (pa_cons (pv 1) pa_nil)) rfl))), ?_⟩
    obtain ⟨dx, hp⟩ := D.ob
    refine ⟨_, rfl, p, dx, _, rfl, hp, rfl, _, rfl, p, d, l, ps, nm, rfl, D, fun q hq hn H1 e1 => ?_, fun hn H1 e1 => kE (D.get_none hn) H1 e1⟩
    subst hn
    obtain ⟨dc, hc⟩ := (D.at_ q hq).ex e1
    exact ⟨q.1, aC K, dc, _, _, rfl, hc, c_Caller T, n_Caller_grade T, rfl, k q.2 (D.get_of W hq) H1 e1⟩
/-! ### desk_need_ready -/
theorem sc_desk_need_ready : FnScope ["self", "caller"] ["self", "caller"] (defScope s_desk_need_ready) := ⟨rfl, rfl, rfl, by decide +kernel, rfl, by decide +kernel, by decide +kernel⟩
def sp_desk_need_ready (K : PySem.W.Frag) : Sp := fun vs H Q E => ∃ (p a : Addr) (c : Cl), vs = [.ref p, .ref a] ∧ CAt K H a c ∧ (c.md.isR = true → ∀ H', Ex H H' → Q .non H') ∧ (c.md.isR = false → ∀ H', Ex H H' → E (.ref (He.ga K "NotReady")) none H')
theorem ok_desk_need_ready {P : Program} {w : World} {K : PySem.W.Frag} {mg : Str → Option Value} {base : Heap} (T : Txt K mg) : ∃ fd, FnOk P w K mg base (L2N.CX P w) 1 (He.ma K (He.ga K "Desk") "need_ready") fd ["self", "caller"] (sp_desk_need_ready K) ∧ Binds K fd ["self", "caller"] [] ∧ FunD K "need_ready" "Desk.need_ready" (defArgs s_desk_need_ready) (defBody s_desk_need_ready) (defScope s_desk_need_ready) [] [] (He.ma K (He.ga K "Desk") "need_ready") fd := by
  obtain ⟨fd, F⟩ := f_desk_need_ready T
  refine ⟨fd, okXN F sc_desk_need_ready (fun vs H Q E h => ?_) (fun cdv A outer s H vs Q E hr h => ?_), FunD.bindsN F fun _ _ _ _ _ _ us hl => match us, hl with | [_, _], _ => rfl, F⟩
  · (repeat (obtain ⟨_, h⟩ := h)); subst_vars; rfl
  · obtain ⟨p, a, c, rfl, C, k, kE⟩ := h
    refine ⟨_, (pss_one (ps_if (pt_cmpR op_ne (pe_fldK (K := K) rfl (pv 1) rfl) pe_str (nomark _)) (pss_one (L2N.ps_raise rfl (L2N.takes_of rfl rfl rfl rfl) (L2N.pmk_own PySem.F.excBase_ValueError (x_NotReady T).1 (g_NotReady T) (x_NotReady T).2.1 (raises_own (x_NotReady T).2.2.1 (x_NotReady T).2.2.2) rfl)))
        pss_nil)), ?_⟩
    refine s_when (b := !c.md.isR) ?h (fun hb H1 e1 => ?_) (fun hb H1 e1 => ?_)
    case h =>
      rw [← st_ready, ← decV]
      exact et_test (ev_op (ev_stand T (ev_var rfl) C) ev_c (rv_ne rfl))
    · exact kE (by simpa using hb) H1 e1
    · exact k (by simpa using hb) H1 e1
/-! ### desk_waited -/
theorem sc_desk_waited : FnScope ["self", "name", "caller"] ["self", "name"] (defScope s_desk_waited) := ⟨rfl, rfl, rfl, by decide +kernel, rfl, by decide +kernel, by decide +kernel⟩
def waitedErr (d : Dk) (nm : Str) : Option Str := match d.get nm with
  | none => some "Unknown"
  | some c => if c.md.isR = true then none else some "NotReady"
def sp_desk_waited (K : PySem.W.Frag) : Sp := fun vs H Q E => ∃ (p : Addr) (d : Dk) (l : Addr) (ps : List Pr) (nm : Str), vs = [.ref p, .str nm] ∧ DkAt K H p d l ps ∧ d.Wf ∧ (∀ e, waitedErr d nm = some e → ∀ H', Ex H H' → E (.ref (He.ga K e)) none H') ∧
  ∀ c, d.get nm = some c → c.md.isR = true → RetV (.int (d.now - c.md.since)) H Q
theorem cv_waited {K : PySem.W.Frag} {H : Hp} {p l : Addr} {d : Dk} {ps : List Pr} {c : Cl} {nm : Str} (h : DkAt K H p d l ps) (W : d.Wf) (hc : d.get nm = some c) (hr : c.md.isR = true) : SpV (sp_desk_waited K) (.ref p :: ([.str nm] ++ [])) H (.int (d.now - c.md.since)) :=
  spv_meth fun _ e _ _ k => ⟨p, d, l, ps, nm, rfl, h.ex e, W, fun er hn => (by unfold waitedErr at hn; rw [hc] at hn; dsimp only at hn; rw [if_pos hr] at hn; cases hn), fun c' h' _ => by rw [hc] at h'; cases h'; exact k⟩
theorem ok_desk_waited {P : Program} {w : World} {K : PySem.W.Frag} {mg : Str → Option Value} {base : Heap} (T : Txt K mg) : ∃ fd, FnOk P w K mg base (L2N.CX P w) 2 (He.ma K (He.ga K "Desk") "waited") fd ["self", "name"] (sp_desk_waited K) ∧ Binds K fd ["self", "name"] [] ∧ FunD K "waited" "Desk.waited" (defArgs s_desk_waited) (defBody s_desk_waited) (defScope s_desk_waited) [] [] (He.ma K (He.ga K "Desk") "waited") fd := by
  obtain ⟨fd, F⟩ := f_desk_waited T
  obtain ⟨d_desk_one, G_desk_one, b_desk_one, _⟩ := ok_desk_one (P := P) (w := w) (base := base) T
  obtain ⟨d_desk_need_ready, G_desk_need_ready, b_desk_need_ready, _⟩ := ok_desk_need_ready (P := P) (w := w) (base := base) T
  refine ⟨fd, okXN F sc_desk_waited (fun vs H Q E h => ?_) (fun cdv A outer s H vs Q E hr h => ?_), FunD.bindsN F fun _ _ _ _ _ _ us hl => match us, hl with | [_, _], _ => rfl, F⟩
  · (repeat (obtain ⟨_, h⟩ := h)); subst_vars; rfl
  · obtain ⟨p, d, l, ps, nm, rfl, D, W, kE, k⟩ := h
    refine ⟨_, (pss_cons (ps_set (i := 2) sc_desk_waited.nd rfl (Or.inl rfl) (pe_meth (pv 0) (c_Desk T) (m_desk_one T) G_desk_one (hr.mono (by decide)) b_desk_one .nil (L2N.passes_call (L2N.takes_of rfl rfl rfl rfl) (fun _ _ _ _ h => h)) (pa_cons (pv 1) pa_nil)))
        (pss_cons (ps_expr (pe_meth (pv 0) (c_Desk T) (m_desk_need_ready T) G_desk_need_ready (hr.mono (by decide)) b_desk_need_ready .nil (L2N.passes_call (L2N.takes_of rfl rfl rfl rfl) (fun _ _ _ _ h => h)) (pa_cons (pv 2) pa_nil)))
        (pss_one (ps_ret (pe_op op_sub (pe_fldK (K := K) rfl (pv 0) rfl) (pe_fldK (K := K) rfl (pv 2) rfl)))))), ?_⟩
    unfold waitedErr at kE
    obtain ⟨dx, hp⟩ := D.ob
    refine q_meth (ev_var rfl) hp rfl (ea_cons (ev_var rfl) ea_nil) fun H1 e1 => ?_
    refine ⟨p, d, l, ps, nm, rfl, D.ex e1, fun q hq hn H2 e2 => ?_, fun hn H2 e2 => kE _ (by rw [D.get_none hn]) H2 (e1.trans e2)⟩
    subst hn
    rw [D.get_of W hq] at kE
    have k := k q.2 (D.get_of W hq)
    have e12 := e1.trans e2
    refine q_dmeth (ev_var rfl) (e12 _ _ hp) rfl (ea_cons (ev_var rfl) ea_nil) fun H3 e3 => ?_
    refine ⟨p, q.1, q.2, rfl, (D.at_ q hq).ex (e12.trans e3), fun hr H4 e4 => ?_, fun hr H4 e4 => kE _ (if_neg (by rw [hr]; decide)) H4 ((e12.trans e3).trans e4)⟩
    have e14 := (e12.trans e3).trans e4
    have hm := ev_mark (ta := tVar 2) (σ := [some (.ref p), some (.str q.2.nm), some (.ref q.1)]) T (ev_var rfl) ((D.at_ q hq).ex e14)
    rw [mark_rdy hr] at hm
    exact s_ret (ev_op (ev_now T (ev_var rfl) (D.ex e14)) hm rv_I0) fun H5 e5 => k hr H5 (e14.trans e5)
theorem intT {i : Int} (h0 : 0 ≤ i) (h1 : i < 1000000000000000) : PySem.intText? (SI i) = some i ∧ (SI i).length ≤ 640 := by
  have hl := len_int h0 h1
  obtain ⟨n, rfl⟩ := Int.eq_ofNat_of_zero_le h0
  refine ⟨TL.int_num ?_, by show (Str.ofString (toString ((n : Nat) : Int))).length ≤ 640; omega⟩
  have := TL.numL_len (n := n) (k := 15) (by decide) (by omega)
  omega
/-! ### L_number -/
theorem sc_L_number : FnScope ["_law_row_here", "_law_state"] ["_law_row_here", "_law_state"] (defScope s_L_number) := ⟨rfl, rfl, rfl, by decide +kernel, rfl, by decide +kernel, by decide +kernel⟩
def sp_L_number (_ : PySem.W.Frag) : Sp := fun vs H Q _ => ∃ (r : Addr) (nm rk z m st : Str) (v : V), vs = [.ref r, .str st] ∧ H r = some (.lst ([nm, rk, z, m].map V.str)) ∧ (z = st → ∃ n, v = .int n ∧ PySem.intText? m = some n ∧ m.length ≤ 640) ∧ (z ≠ st → v = .non) ∧ RetV v H Q
theorem cv_L_number {K : PySem.W.Frag} {H : Hp} {r : Addr} {nm rk z m st : Str} {v : V} (h : H r = some (.lst ([nm, rk, z, m].map V.str))) (h1 : z = st → ∃ n, v = .int n ∧ PySem.intText? m = some n ∧ m.length ≤ 640) (h2 : z ≠ st → v = .non) : SpV (sp_L_number K) ([.ref r, .str st] ++ []) H v := spv_call fun _ e _ _ k => ⟨r, nm, rk, z, m, st, v, rfl, e _ _ h, h1, h2, k⟩
theorem ok_L_number {P : Program} {w : World} {K : PySem.W.Frag} {mg : Str → Option Value} {base : Heap} (T : Txt K mg) : ∃ fd, FnOk P w K mg base (CX0) 1 (He.ga K "_law_number") fd ["_law_row_here", "_law_state"] (sp_L_number K) ∧ Binds K fd ["_law_row_here", "_law_state"] [] ∧ FunD K "_law_number" "_law_number" (defArgs s_L_number) (defBody s_L_number) (defScope s_L_number) [] [] (He.ga K "_law_number") fd := by
  obtain ⟨fd, F⟩ := f_L_number T
  refine ⟨fd, ok0 F sc_L_number (fun vs H Q E h => ?_) (fun cdv A outer s H vs Q E hr h => ?_), FunD.bindsN F fun _ _ _ _ _ _ us hl => match us, hl with | [_, _], _ => rfl, F⟩
  · (repeat (obtain ⟨_, h⟩ := h)); subst_vars; rfl
  · obtain ⟨r, nm, rk, z, m, st, v, rfl, hr1, h1, h2, k⟩ := h
    refine ⟨_, (pss_cons (ps_if (pt_cmpR op_eq (pe_ix (ix_listK (K := K) rfl) (pv 0) pe_int (fun _ _ => rfl)) (pv 1) (nomark _)) (pss_one (ps_ret (pe_callTy call_int_str rfl (b_int T) (by decide +kernel) (pa_cons (pe_ix (ix_listK (K := K) rfl) (pv 0) pe_int (fun _ _ => rfl)) pa_nil))))
        pss_nil)
        (pss_one (ps_ret pe_non))), ?_⟩
    refine q_when (b := decide (z = st)) ?g (fun hb H1 e1 => ?_) fun hb H1 e1 => ?_
    case g =>
      rw [← decV]
      exact et_test (ev_op (ev_op (ev_var rfl) ev_c (rv_ixL (i := 2) (sq_of hr1) atW.2.2.1)) (ev_var rfl) (rv_eq rfl))
    · obtain ⟨n, rfl, hn, hl⟩ := h1 (of_decide_eq_true hb)
      exact s_ret (ev_cb (ea_cons (ev_op (ev_var rfl) ev_c (rv_ixL (i := 3) (sq_of (e1 _ _ hr1)) atW.2.2.2)) ea_nil) (rc_intS hn hl)) fun H2 e2 => k H2 (e1.trans e2)
    · rw [h2 (of_decide_eq_false hb)] at k
      exact s_ret ev_c fun H2 e2 => k H2 (e1.trans e2)
/-! ### desk_bell -/
theorem sc_desk_bell : FnScope ["self", "name", "caller"] ["self", "name"] (defScope s_desk_bell) := ⟨rfl, rfl, rfl, by decide +kernel, rfl, by decide +kernel, by decide +kernel⟩
def bellV (c : Cl) : V := match c.md with
  | .wtg b => .str b
  | _ => .non
def sp_desk_bell (K : PySem.W.Frag) : Sp := fun vs H Q E => ∃ (p : Addr) (d : Dk) (l : Addr) (ps : List Pr) (nm : Str), vs = [.ref p, .str nm] ∧ DkAt K H p d l ps ∧ d.Wf ∧ (d.get nm = none → ∀ H', Ex H H' → E (.ref (He.ga K "Unknown")) none H') ∧ ∀ c, d.get nm = some c → RetV (bellV c) H Q
theorem cv_bell {K : PySem.W.Frag} {H : Hp} {p l : Addr} {d : Dk} {ps : List Pr} {c : Cl} {nm : Str} (h : DkAt K H p d l ps) (W : d.Wf) (hc : d.get nm = some c) : SpV (sp_desk_bell K) (.ref p :: ([.str nm] ++ [])) H (bellV c) :=
  spv_meth fun _ e _ _ k => ⟨p, d, l, ps, nm, rfl, h.ex e, W, fun hn => (by rw [hn] at hc; cases hc), fun c' h' => by rw [hc] at h'; cases h'; exact k⟩
theorem ok_desk_bell {P : Program} {w : World} {K : PySem.W.Frag} {mg : Str → Option Value} {base : Heap} (T : Txt K mg) : ∃ fd, FnOk P w K mg base (L2N.CX P w) 2 (He.ma K (He.ga K "Desk") "bell") fd ["self", "name"] (sp_desk_bell K) ∧ Binds K fd ["self", "name"] [] ∧ FunD K "bell" "Desk.bell" (defArgs s_desk_bell) (defBody s_desk_bell) (defScope s_desk_bell) [] [] (He.ma K (He.ga K "Desk") "bell") fd := by
  obtain ⟨fd, F⟩ := f_desk_bell T
  obtain ⟨d_desk_one, G_desk_one, b_desk_one, _⟩ := ok_desk_one (P := P) (w := w) (base := base) T
  refine ⟨fd, okXN F sc_desk_bell (fun vs H Q E h => ?_) (fun cdv A outer s H vs Q E hr h => ?_), FunD.bindsN F fun _ _ _ _ _ _ us hl => match us, hl with | [_, _], _ => rfl, F⟩
  · (repeat (obtain ⟨_, h⟩ := h)); subst_vars; rfl
  · obtain ⟨p, d, l, ps, nm, rfl, D, W, kE, k⟩ := h
    refine ⟨_, (pss_cons (ps_set (i := 2) sc_desk_bell.nd rfl (Or.inl rfl) (pe_meth (pv 0) (c_Desk T) (m_desk_one T) G_desk_one (hr.mono (by decide)) b_desk_one .nil (L2N.passes_call (L2N.takes_of rfl rfl rfl rfl) (fun _ _ _ _ h => h)) (pa_cons (pv 1) pa_nil)))
        (pss_cons (ps_if (pt_cmpR op_eq (pe_fldK (K := K) rfl (pv 2) rfl) pe_str (nomark _)) (pss_one (ps_ret (pe_fldK (K := K) rfl (pv 2) rfl)))
        pss_nil)
        (pss_one (ps_ret pe_non)))), ?_⟩
    obtain ⟨dx, hp⟩ := D.ob
    refine q_meth (ev_var rfl) hp rfl (ea_cons (ev_var rfl) ea_nil) fun H1 e1 => ?_
    refine ⟨p, d, l, ps, nm, rfl, D.ex e1, fun q hq hn H2 e2 => ?_, fun hn H2 e2 => kE (D.get_none hn) H2 (e1.trans e2)⟩
    subst hn
    have k := k q.2 (D.get_of W hq)
    have e12 := e1.trans e2
    have C2 := (D.at_ q hq).ex e12
    unfold bellV at k
    refine q_when (b := q.2.md.isW) ?h (fun hb H3 e3 => ?_) (fun hb H3 e3 => ?_)
    case h =>
      rw [← st_waiting, ← decV]
      exact et_test (ev_op (ev_stand T (ev_var rfl) C2) ev_c (rv_eq rfl))
    · obtain ⟨t, ht⟩ : ∃ t, q.2.md = .wtg t := by
        cases em : q.2.md with
        | rdy s => rw [em] at hb; cases hb
        | slp s => rw [em] at hb; cases hb
        | wtg s => exact ⟨s, rfl⟩
      rw [ht] at k
      have e13 := e12.trans e3
      have hm := ev_mark (ta := tVar 2) (σ := [some (.ref p), some (.str q.2.nm), some (.ref q.1)]) T (ev_var rfl) ((D.at_ q hq).ex e13)
      rw [ht] at hm
      exact s_ret hm fun H5 e5 => k H5 (e13.trans e5)
    · refine s_ret ev_c fun H5 e5 => ?_
      have := k H5 ((e12.trans e3).trans e5)
      cases em : q.2.md with
      | rdy s => rw [em] at this; exact this
      | slp s => rw [em] at this; exact this
      | wtg s => rw [em] at hb; cases hb
/-! ### desk_left -/
theorem sc_desk_left : FnScope ["self", "name", "caller"] ["self", "name"] (defScope s_desk_left) := ⟨rfl, rfl, rfl, by decide +kernel, rfl, by decide +kernel, by decide +kernel⟩
def leftV (d : Dk) (c : Cl) : V := match c.md with
  | .slp t => .int (t - d.now)
  | _ => .non
def sp_desk_left (K : PySem.W.Frag) : Sp := fun vs H Q E => ∃ (p : Addr) (d : Dk) (l : Addr) (ps : List Pr) (nm : Str), vs = [.ref p, .str nm] ∧ DkAt K H p d l ps ∧ d.Wf ∧ (d.get nm = none → ∀ H', Ex H H' → E (.ref (He.ga K "Unknown")) none H') ∧ ∀ c, d.get nm = some c → RetV (leftV d c) H Q
theorem cv_left {K : PySem.W.Frag} {H : Hp} {p l : Addr} {d : Dk} {ps : List Pr} {c : Cl} {nm : Str} (h : DkAt K H p d l ps) (W : d.Wf) (hc : d.get nm = some c) : SpV (sp_desk_left K) (.ref p :: ([.str nm] ++ [])) H (leftV d c) :=
  spv_meth fun _ e _ _ k => ⟨p, d, l, ps, nm, rfl, h.ex e, W, fun hn => (by rw [hn] at hc; cases hc), fun c' h' => by rw [hc] at h'; cases h'; exact k⟩
theorem ok_desk_left {P : Program} {w : World} {K : PySem.W.Frag} {mg : Str → Option Value} {base : Heap} (T : Txt K mg) : ∃ fd, FnOk P w K mg base (L2N.CX P w) 2 (He.ma K (He.ga K "Desk") "left") fd ["self", "name"] (sp_desk_left K) ∧ Binds K fd ["self", "name"] [] ∧ FunD K "left" "Desk.left" (defArgs s_desk_left) (defBody s_desk_left) (defScope s_desk_left) [] [] (He.ma K (He.ga K "Desk") "left") fd := by
  obtain ⟨fd, F⟩ := f_desk_left T
  obtain ⟨d_desk_one, G_desk_one, b_desk_one, _⟩ := ok_desk_one (P := P) (w := w) (base := base) T
  refine ⟨fd, okXN F sc_desk_left (fun vs H Q E h => ?_) (fun cdv A outer s H vs Q E hr h => ?_), FunD.bindsN F fun _ _ _ _ _ _ us hl => match us, hl with | [_, _], _ => rfl, F⟩
  · (repeat (obtain ⟨_, h⟩ := h)); subst_vars; rfl
  · obtain ⟨p, d, l, ps, nm, rfl, D, W, kE, k⟩ := h
    refine ⟨_, (pss_cons (ps_set (i := 2) sc_desk_left.nd rfl (Or.inl rfl) (pe_meth (pv 0) (c_Desk T) (m_desk_one T) G_desk_one (hr.mono (by decide)) b_desk_one .nil (L2N.passes_call (L2N.takes_of rfl rfl rfl rfl) (fun _ _ _ _ h => h)) (pa_cons (pv 1) pa_nil)))
        (pss_cons (ps_if (pt_cmpR op_eq (pe_fldK (K := K) rfl (pv 2) rfl) pe_str (nomark _)) (pss_one (ps_ret (pe_op op_sub (pe_fldK (K := K) rfl (pv 2) rfl) (pe_fldK (K := K) rfl (pv 0) rfl))))
        pss_nil)
        (pss_one (ps_ret pe_non)))), ?_⟩
    obtain ⟨dx, hp⟩ := D.ob
    refine q_meth (ev_var rfl) hp rfl (ea_cons (ev_var rfl) ea_nil) fun H1 e1 => ?_
    refine ⟨p, d, l, ps, nm, rfl, D.ex e1, fun q hq hn H2 e2 => ?_, fun hn H2 e2 => kE (D.get_none hn) H2 (e1.trans e2)⟩
    subst hn
    have k := k q.2 (D.get_of W hq)
    have e12 := e1.trans e2
    have C2 := (D.at_ q hq).ex e12
    unfold leftV at k
    refine q_when (b := q.2.md.isS) ?h (fun hb H3 e3 => ?_) (fun hb H3 e3 => ?_)
    case h =>
      rw [← st_asleep, ← decV]
      exact et_test (ev_op (ev_stand T (ev_var rfl) C2) ev_c (rv_eq rfl))
    · obtain ⟨t, ht⟩ : ∃ t, q.2.md = .slp t := by
        cases em : q.2.md with
        | rdy s => rw [em] at hb; cases hb
        | slp s => exact ⟨s, rfl⟩
        | wtg s => rw [em] at hb; cases hb
      rw [ht] at k
      have e13 := e12.trans e3
      have hm := ev_mark (ta := tVar 2) (σ := [some (.ref p), some (.str q.2.nm), some (.ref q.1)]) T (ev_var rfl) ((D.at_ q hq).ex e13)
      rw [ht] at hm
      exact s_ret (ev_op hm (ev_now T (ev_var rfl) (D.ex e13)) rv_I0) fun H5 e5 => k H5 (e13.trans e5)
    · refine s_ret ev_c fun H5 e5 => ?_
      have := k H5 ((e12.trans e3).trans e5)
      cases em : q.2.md with
      | rdy s => rw [em] at this; exact this
      | slp s => rw [em] at hb; cases hb
      | wtg s => rw [em] at this; exact this
def EvTA (tr : TA) (σ : L2.St) (H : Hp) (vss : List (List V)) : Prop := ∀ H1, Ex H H1 → ∀ Q : List V → Hp → Prop, (∀ (ts : List Addr) H2, Ex H1 H2 → ts.length = vss.length → (∀ (i : Nat) t vs, ts[i]? = some t → vss[i]? = some vs → H2 t = some (.tup vs)) → Q (ts.map V.ref) H2) → tr σ H1 Q
theorem ta_nil {σ : L2.St} {H : Hp} : EvTA tNil σ H [] := fun H1 e Q q => q [] H1 (Ex.refl _) rfl (fun i t vs h _ => by cases h)
theorem ta_cons {σ : L2.St} {H : Hp} {te : TE} {tr : TA} {vs : List V} {vss : List (List V)} (h : EvU te σ H vs) (hr : EvTA tr σ H vss) : EvTA (tCons te tr) σ H (vs :: vss) := fun H1 e Q q => h H1 e _ fun p H2 _ e2 hp => hr H2 (e.trans e2) _ fun ts H3 e3 hl ht => q (p :: ts) H3 (e2.trans e3) (by rw [List.length_cons, List.length_cons, hl]) fun i t us h1 h2 => by
  cases i with
  | zero => cases h1; cases h2; exact e3 _ _ hp
  | succ i => exact ht i t us h1 h2
theorem q_forTups {K : PySem.W.Frag} {σ : L2.St} {H : Hp} {tr : TA} {g : TG} {tu tz : TS} {D : Ends} {vss : List (List V)} (h : EvTA tr σ H vss) (hz : vss.length ≤ 1000) (R : L2.St → Prop) (r0 : R σ)
    (hs : ∀ H1, Ex H H1 → ∀ t vs σ' H', vs ∈ vss → Ex H1 H' → H1 t = some (.tup vs) → R σ' → g (.ref t) σ' H' fun σ2 H2 => tu { D with nx := fun σ3 H3 => Ex H1 H3 ∧ R σ3, ct := fun σ3 H3 => Ex H1 H3 ∧ R σ3, bk := tz D } σ2 H2)
    (hd : ∀ σ' H', Ex H H' → R σ' → tz D σ' H') : tSeq (tFor (iList K (tLst tr)) g tu) tz D σ H := h H (Ex.refl H) _ fun ts H1 e1 hl ht => ⟨sz_of (by rw [List.length_map, hl]; omega), fun p hp => by
  have e2 : Ex H (upd H1 p (.lst (ts.map V.ref))) := e1.trans (Ex.new hp)
  have hp2 : (upd H1 p (.lst (ts.map V.ref))) p = some (.lst (ts.map V.ref)) := upd_same
  have ht2 : ∀ (i : Nat) t vs, ts[i]? = some t → vss[i]? = some vs → (upd H1 p (.lst (ts.map V.ref))) t = some (.tup vs) := fun i t vs h1 h2 => (Ex.new hp) _ _ (ht i t vs h1 h2)
  generalize upd H1 p (.lst (ts.map V.ref)) = H2 at *
  refine ⟨p, rfl, ⟨_, sq_of hp2⟩, for_list (fun i σ' H' => Ex H2 H' ∧ R σ') ⟨Ex.refl _, r0⟩ (fun i σ' H' _ x => sq_of (x.1 _ _ hp2)) (fun i x σ' H' hi y => ?_) (fun σ' H' y => hd σ' H' (e2.trans y.1) y.2)⟩
  rw [List.getElem?_map] at hi
  obtain ⟨t, hti, rfl⟩ := Option.map_eq_some_iff.mp hi
  have hlt := (List.getElem?_eq_some_iff.mp hti).1
  have hv : vss[i]? = some (vss[i]'(by omega)) := List.getElem?_eq_getElem _
  exact hs H2 e2 t _ σ' H' (List.mem_of_getElem? hv) y.1 (ht2 i t _ hti hv) y.2⟩
theorem el_lcNW {α : Type} {K : PySem.W.Frag} {σ : L2.St} {H : Hp} {ps : List α} {uu : α → V} {tl te : TE} {j : Nat} {ws : List Nat} (w : α → V) (h : EvL tl σ H (ps.map uu)) (hz : ps.length ≤ 40000) (hw : ∀ x, wipe ((wipe σ ws).set j (some x)) ws = wipe σ ws)
    (he : ∀ q ∈ ps, ∀ H1, Ex H H1 → Ev te ((wipe σ ws).set j (some (uu q))) H1 (w q)) : EvL (tLc (iList K tl) (gName j) tYes te ws) σ H (ps.map w) := fun H1 e Q q => h H1 e _ fun a H2 na e2 ha => by
  have hg : (ps.filter fun _ => true).map w = ps.map w := by rw [filter_true]
  have g := el_lcM (K := K) (σ := σ) (H := H2) (tl := tC (.ref a)) (te := te) (t := tYes) (j := j) (ws := ws) (ps := ps) (uu := uu) (fun _ => true) w ev_c (sq_of ha) hz hw (fun _ _ _ _ => et_yes) (fun x hx H3 e3 _ => he x hx H3 ((e.trans e2).trans e3))
  rw [hg] at g
  exact g H2 (Ex.refl _) Q fun r H3 nr e3 hr => q r H3 (fresh_back e2 nr) (e2.trans e3) hr
/-! ### L_stands -/
theorem sc_L_stands : FnScope ["_law_desk", "_law_rows", "_law_found", "_law_due", "_law_row_here", "_law_bell"] ["_law_desk", "_law_rows"] (defScope s_L_stands) := ⟨rfl, rfl, rfl, by decide +kernel, rfl, by decide +kernel, by decide +kernel⟩
def sp_L_stands (K : PySem.W.Frag) : Sp := fun vs H Q _ => ∃ (p a : Addr) (d : Dk) (l : Addr) (ps : List Pr) (ts : List (Addr × List Str)), vs = [.ref p, .ref a] ∧ DkAt K H p d l ps ∧ d.Ok ∧ d.now < 1000000000000 ∧ RwAt H a ts ∧ ts.map (·.2) = wordsOf d ∧ RetV (.bl true) H Q
theorem ok_L_stands {P : Program} {w : World} {K : PySem.W.Frag} {mg : Str → Option Value} {base : Heap} (T : Txt K mg) : ∃ fd, FnOk P w K mg base (CX0) 3 (He.ga K "_law_stands") fd ["_law_desk", "_law_rows"] (sp_L_stands K) ∧ Binds K fd ["_law_desk", "_law_rows"] [] ∧ FunD K "_law_stands" "_law_stands" (defArgs s_L_stands) (defBody s_L_stands) (defScope s_L_stands) [] [] (He.ga K "_law_stands") fd := by
  obtain ⟨fd, F⟩ := f_L_stands T
  obtain ⟨d_L_whole, G_L_whole, b_L_whole, _⟩ := ok_L_whole (P := P) (w := w) (base := base) T
  obtain ⟨d_L_texts, G_L_texts, b_L_texts, _⟩ := ok_L_texts (P := P) (w := w) (base := base) T
  obtain ⟨d_desk_names, G_desk_names, b_desk_names, _⟩ := ok_desk_names (P := P) (w := w) (base := base) T
  obtain ⟨d_desk_state, G_desk_state, b_desk_state, _⟩ := ok_desk_state (P := P) (w := w) (base := base) T
  obtain ⟨d_desk_rank, G_desk_rank, b_desk_rank, _⟩ := ok_desk_rank (P := P) (w := w) (base := base) T
  obtain ⟨d_desk_waited, G_desk_waited, b_desk_waited, _⟩ := ok_desk_waited (P := P) (w := w) (base := base) T
  obtain ⟨d_L_number, G_L_number, b_L_number, _⟩ := ok_L_number (P := P) (w := w) (base := base) T
  obtain ⟨d_desk_bell, G_desk_bell, b_desk_bell, _⟩ := ok_desk_bell (P := P) (w := w) (base := base) T
  obtain ⟨d_desk_left, G_desk_left, b_desk_left, _⟩ := ok_desk_left (P := P) (w := w) (base := base) T
  refine ⟨fd, ok0 F sc_L_stands (fun vs H Q E h => ?_) (fun cdv A outer s H vs Q E hr h => ?_), FunD.bindsN F fun _ _ _ _ _ _ us hl => match us, hl with | [_, _], _ => rfl, F⟩
  · (repeat (obtain ⟨_, h⟩ := h)); subst_vars; rfl
  · obtain ⟨p, a, d, l, ps, ts, rfl, DD, ok, ht, hR, hm, k⟩ := h
    refine ⟨_, (pss_cons (ps_for PassesOwn.never rfl (pi_listK (K := K) rfl (pe_lst (pa_cons (pe_tup (pa_cons (pe_fldK (K := K) rfl (pv 0) rfl) (pa_cons (pe_ix (ix_listK (K := K) rfl) (pe_ix (ix_listK (K := K) rfl) (pv 1) pe_int (fun _ _ => rfl)) pe_int (fun _ _ => rfl)) pa_nil))) (pa_cons (pe_tup (pa_cons (pe_fldK (K := K) rfl (pv 0) rfl) (pa_cons (pe_ix (ix_listK (K := K) rfl) (pe_ix (ix_listK (K := K) rfl) (pv 1) pe_int (fun _ _ => rfl)) pe_int (fun _ _ => rfl)) pa_nil))) (pa_cons (pe_tup (pa_cons (pe_fldK (K := K) rfl (pv 0) rfl) (pa_cons (pe_ix (ix_listK (K := K) rfl) (pe_ix (ix_listK (K := K) rfl) (pv 1) pe_int (fun _ _ => rfl)) pe_int (fun _ _ => rfl)) pa_nil))) pa_nil))))) (pg_tup rfl (pgs_cons (pg_name (i := 2) sc_L_stands.nd rfl (Or.inl rfl)) (pgs_cons (pg_name (i := 3) sc_L_stands.nd rfl (Or.inl rfl)) pgs_nil)))
        (pss_one (ps_if (PW.pt (pw_or (pt_not (pt_val (pe_call G_L_whole (hr.mono (by decide)) rfl (g_L_whole T) (kp_L_whole T) b_L_whole .nil pass0 (pa_cons (pv 2) pa_nil)))) (pw_or1 (pt_cmpR op_ne (pv 2) (pe_callTy call_int_str rfl (b_int T) (by decide +kernel) (pa_cons (pv 3) pa_nil)) (nomark _))))) (pss_one (ps_ret pe_bl))
        pss_nil)))
        (pss_cons (ps_if (pt_not (pt_val (pe_call G_L_texts (hr.mono (by decide)) rfl (g_L_texts T) (kp_L_texts T) b_L_texts .nil pass0 (pa_cons (pe_meth0 (pv 0) (c_Desk T) (m_desk_names T) G_desk_names (hr.mono (by decide)) b_desk_names .nil pass0) (pa_cons (pe_lc (own := [("_law_row_here", 4)]) (g := gName 4) (tt := tYes) rfl sc_L_stands.nd (pi_listK (K := K) rfl (pe_slice (sl_listK (K := K) rfl) (pv 1) (po_some pe_int) po_none)) (blkOk_by (own := [("_law_row_here", 4)]) (N := ["_law_desk", "_law_rows", "_law_found", "_law_due", "_law_row_here", "_law_bell"]) (sc := defScope s_L_stands) (by decide +kernel)) (fun _ _ _ _ _ => (pg_name (i := 4) sc_L_stands.nd rfl (Or.inl rfl))) (fun _ _ _ _ _ => pts_nil) (fun _ _ _ _ _ => (pe_ix (ix_listK (K := K) rfl) (pv 4) pe_int (fun _ _ => rfl)))) pa_nil))))) (pss_one (ps_ret pe_bl))
        pss_nil)
        (pss_cons (ps_for PassesOwn.never rfl (pi_listK (K := K) rfl (pe_slice (sl_listK (K := K) rfl) (pv 1) (po_some pe_int) po_none)) (pg_name (i := 4) sc_L_stands.nd rfl (Or.inl rfl))
        (pss_cons (ps_if (PW.pt (pw_or (pt_cmpR op_ne (pe_meth (pv 0) (c_Desk T) (m_desk_rank T) G_desk_rank (hr.mono (by decide)) b_desk_rank .nil passLN (pa_cons (pe_ix (ix_listK (K := K) rfl) (pv 4) pe_int (fun _ _ => rfl)) pa_nil)) (pe_callTy call_int_str rfl (b_int T) (by decide +kernel) (pa_cons (pe_ix (ix_listK (K := K) rfl) (pv 4) pe_int (fun _ _ => rfl)) pa_nil)) (nomark _)) (pw_or1 (pt_cmpR op_ne (pe_meth (pv 0) (c_Desk T) (m_desk_state T) G_desk_state (hr.mono (by decide)) b_desk_state .nil passLN (pa_cons (pe_ix (ix_listK (K := K) rfl) (pv 4) pe_int (fun _ _ => rfl)) pa_nil)) (pe_ix (ix_listK (K := K) rfl) (pv 4) pe_int (fun _ _ => rfl)) (nomark _))))) (pss_one (ps_ret pe_bl))
        pss_nil)
        (pss_cons (ps_if (PW.pt (pw_and (pt_cmpR op_eq (pe_ix (ix_listK (K := K) rfl) (pv 4) pe_int (fun _ _ => rfl)) pe_str (nomark _)) (pw_and1 (pt_cmpR op_ne (pe_meth (pv 0) (c_Desk T) (m_desk_waited T) G_desk_waited (hr.mono (by decide)) b_desk_waited .nil passLN (pa_cons (pe_ix (ix_listK (K := K) rfl) (pv 4) pe_int (fun _ _ => rfl)) pa_nil)) (pe_call G_L_number (hr.mono (by decide)) rfl (g_L_number T) (kp_L_number T) b_L_number .nil pass0 (pa_cons (pv 4) (pa_cons pe_str pa_nil))) (nomark _))))) (pss_one (ps_ret pe_bl))
        pss_nil)
        (pss_cons (ps_set (i := 5) sc_L_stands.nd rfl (Or.inl rfl) (pe_ix (ix_listK (K := K) rfl) (pe_lst (pa_cons pe_non (pa_cons (pe_ix (ix_listK (K := K) rfl) (pv 4) pe_int (fun _ _ => rfl)) pa_nil))) (pe_callTy call_int1 rfl (b_int T) (by decide +kernel) (pa_cons (pe_cmpR op_eq (pe_ix (ix_listK (K := K) rfl) (pv 4) pe_int (fun _ _ => rfl)) pe_str (nomark _)) pa_nil)) (fun _ _ => rfl)))
        (pss_one (ps_if (PW.pt (pw_or (pt_cmpR op_ne (pe_meth (pv 0) (c_Desk T) (m_desk_left T) G_desk_left (hr.mono (by decide)) b_desk_left .nil passLN (pa_cons (pe_ix (ix_listK (K := K) rfl) (pv 4) pe_int (fun _ _ => rfl)) pa_nil)) (pe_call G_L_number (hr.mono (by decide)) rfl (g_L_number T) (kp_L_number T) b_L_number .nil pass0 (pa_cons (pv 4) (pa_cons pe_str pa_nil))) (nomark _)) (pw_or1 (pt_cmpR op_ne (pe_meth (pv 0) (c_Desk T) (m_desk_bell T) G_desk_bell (hr.mono (by decide)) b_desk_bell .nil passLN (pa_cons (pe_ix (ix_listK (K := K) rfl) (pv 4) pe_int (fun _ _ => rfl)) pa_nil)) (pv 5) (nomark _))))) (pss_one (ps_ret pe_bl))
        pss_nil))))))
        (pss_one (ps_ret pe_bl))))), ?_⟩
    have h60 := ok.len60
    have p1 := ok.p1
    have p2 := ok.p2
    have r1 := ok.r1
    have r2 := ok.r2
    have n0 := ok.n0
    obtain ⟨dx, hp⟩ := DD.ob
    have hhd : (ts.map (·.2))[(0 : Int).toNat]? = some (headW d) := by rw [hm]; rfl
    have hlen : ts.length = d.line.length + 1 := by
      rw [← List.length_map (f := fun q : Addr × List Str => q.2), hm]
      unfold wordsOf
      rw [List.length_cons, List.length_map]
    have hmd : (ts.drop 1).map (·.2) = d.line.map (rowW d.now) := by
      rw [List.map_drop, hm]
      rfl
    refine q_forTups (K := K) (vss := [[.int d.pace, .str (SI d.pace)], [.int d.room, .str (SI d.room)], [.int d.now, .str (SI d.now)]]) (ta_cons (eu_tup (ea_cons (ev_pace T (ev_var rfl) DD) (ea_cons (ev_word2 (w1_at (ev_var rfl) ev_c hR (by decide) hhd) (fun _ _ => ev_c) (by decide) rfl) ea_nil)) (by show 2 ≤ 100000; decide)) (ta_cons (eu_tup (ea_cons (ev_room T (ev_var rfl) DD) (ea_cons (ev_word2 (w1_at (ev_var rfl) ev_c hR (by decide) hhd) (fun _ _ => ev_c) (by decide) rfl) ea_nil)) (by show 2 ≤ 100000; decide)) (ta_cons (eu_tup (ea_cons (ev_now T (ev_var rfl) DD) (ea_cons (ev_word2 (w1_at (ev_var rfl) ev_c hR (by decide) hhd) (fun _ _ => ev_c) (by decide) rfl) ea_nil)) (by show 2 ≤ 100000; decide)) ta_nil))) (Nat.le_of_ble_eq_true rfl)
      (fun σ' => ∃ v2 v3, σ' = [some (.ref p), some (.ref a), v2, v3, none, none]) ⟨none, none, rfl⟩ ?_ ?_
    · rintro H1 e1 t vs σ' H' hv e2 ht1 ⟨v2, v3, rfl⟩
      obtain ⟨v, rfl, v0, v1⟩ : ∃ v : Int, vs = [.int v, .str (SI v)] ∧ 0 ≤ v ∧ v < 1000000000000000 := by
        simp only [List.mem_cons, List.not_mem_nil, or_false] at hv
        rcases hv with rfl | rfl | rfl
        · exact ⟨_, rfl, by omega, by omega⟩
        · exact ⟨_, rfl, by omega, by omega⟩
        · exact ⟨_, rfl, by omega, by omega⟩
      obtain ⟨g1, g2⟩ := intT v0 v1
      refine ⟨t, _, rfl, st_of (e2 _ _ ht1), rfl, ?_⟩
      refine ⟨_, _, rfl, ⟨_, _, rfl, ⟨rfl, ?_⟩⟩⟩
      exact s_when (b := false) (et_is (et_or (a := false) (b := false) (et_is (et_not (et_B (ev_call (ea_cons (ev_var rfl) ea_nil) cv_L_whole))) rfl) fun _ => et_is (et_test (ev_op (ev_var rfl) (ev_cb (ea_cons (ev_var rfl) ea_nil) (rc_intS g1 g2)) (rv_ne rfl))) (by simp)) rfl) (fun h => by cases h) fun _ H5 e5 => ⟨e2.trans e5, _, _, rfl⟩
    rintro σ' H1 e1 ⟨v2, v3, rfl⟩
    have hR1 := hR.ex e1
    have DD1 := DD.ex e1
    have hp1 := e1 _ _ hp
    have hdr : ∀ q ∈ ts.drop 1, ∃ c ∈ d.line, q.2 = rowW d.now c ∧ H1 q.1 = some (.lst ((rowW d.now c).map V.str)) := fun q hq => by
      have h1 : q.2 ∈ (ts.drop 1).map (·.2) := List.mem_map.mpr ⟨q, hq, rfl⟩
      rw [hmd] at h1
      obtain ⟨c, hc, e⟩ := List.mem_map.mp h1
      exact ⟨c, hc, e.symm, by rw [e]; exact hR1.2 q (List.mem_of_mem_drop hq)⟩
    refine q_when (b := false) ?h1 (fun h => by cases h) fun _ H2 e2 => ?_
    case h1 =>
      refine et_is (et_not (et_B (ev_callLL (z := .bl true) (ys := d.line.map fun c => V.str c.nm) (el_meth (ev_var rfl) hp1 rfl ea_nil (cv_names DD1 (by omega))) ?l fun x y H3 e3 hx hy => ?t))) rfl
      case l =>
        have hg : (ts.drop 1).map (fun q : Addr × List Str => V.str (q.2.getD 0 "")) = d.line.map fun c => V.str c.nm := by
          rw [show (ts.drop 1).map (fun q : Addr × List Str => V.str (q.2.getD 0 "")) = ((ts.drop 1).map (·.2)).map fun r => V.str (r.getD 0 "") by rw [List.map_map]; rfl, hmd, List.map_map]
          rfl
        rw [← hg]
        refine el_lcNW (K := K) (uu := fun q : Addr × List Str => V.ref q.1) _ (el_from (i := 1) (ev_var rfl) ev_c hR1 (by decide) (by show 1 ≤ _; omega)) (by rw [List.length_drop]; omega) (fun _ => rfl) fun q hq H3 e3 => ?_
        obtain ⟨c, hc, e, hq1⟩ := hdr q hq
        rw [e]
        exact ev_op (ev_var rfl) ev_c (rv_ixL (i := 0) (sq_of (e3 _ _ hq1)) rfl)
      case t =>
        have hm9 : (d.line.map fun c => V.str c.nm) = (d.line.map fun c => some c.nm).map optS := by
          rw [List.map_map]
          rfl
        rw [hm9] at hx hy
        exact spv_call fun H4 e4 Q E kk => ⟨x, y, _, rfl, e4 _ _ hx, e4 _ _ hy, by rw [List.length_map]; omega, kk⟩
    have e12 := e1.trans e2
    refine q_forNLn (K := K) (xs := (ts.drop 1).map fun q => V.ref q.1) (el_from (i := 1) (ev_var rfl) ev_c (hR1.ex e2) (by decide) (by show 1 ≤ _; omega))
      (fun z i σ' H' => Ex H2 H' ∧ H' z = some (.lst ((ts.drop 1).map fun q => V.ref q.1)) ∧ ∃ v4 v5, σ' = [some (.ref p), some (.ref a), v2, v3, v4, v5])
      (fun z H3 nz e3 hz => ⟨e3, hz, none, none, rfl⟩) (fun z i σ' H' _ ⟨_, hz, _⟩ => sq_of hz) ?_ ?_
    · rintro z i x σ' H' hi ⟨e3, hz, v4, v5, rfl⟩
      rw [List.getElem?_map] at hi
      obtain ⟨q, hqi, rfl⟩ := Option.map_eq_some_iff.mp hi
      obtain ⟨c, hc, _, hq1⟩ := hdr q (List.mem_of_getElem? hqi)
      have hg := Dk.get_of ok.nd hc
      obtain ⟨g1, g2, g3, g4⟩ := ok.cl c hc
      have D' := DD1.ex (e2.trans e3)
      have hp' := (e2.trans e3) _ _ hp1
      have hq' := (e2.trans e3) _ _ hq1
      have hrk := intT (i := c.rk) g2 (by omega)
      have hA1 : c.md.st = "asleep" → ∃ n, leftV d c = .int n ∧ PySem.intText? (markS d.now c.md) = some n ∧ (markS d.now c.md).length ≤ 640 := by
        obtain ⟨nm, rk, md⟩ := c
        cases md with
        | rdy s2 => exact fun h => absurd h rdy_asl.1
        | wtg s2 => exact fun h => absurd h rdy_asl.2.2.symm
        | slp s2 =>
          have g4 : d.now < s2 ∧ s2 ≤ d.now + 1000 := g4
          have := intT (i := s2 - d.now) (by omega) (by omega)
          exact fun _ => ⟨_, rfl, this.1, this.2⟩
      have hA2 : c.md.st ≠ "asleep" → leftV d c = .non := by
        obtain ⟨nm, rk, md⟩ := c
        cases md with
        | rdy s2 => exact fun _ => rfl
        | wtg s2 => exact fun _ => rfl
        | slp s2 => exact fun h => absurd rfl h
      have hB : atI [.non, .str (markS d.now c.md)] (if decide (c.md.st = ("waiting" : Str)) = true then 1 else 0) = some (bellV c) := by
        obtain ⟨nm, rk, md⟩ := c
        cases md with
        | rdy s2 => rw [show decide ((Md.rdy s2).st = ("waiting" : Str)) = false from st_waiting (.rdy s2)]; rfl
        | slp s2 => rw [show decide ((Md.slp s2).st = ("waiting" : Str)) = false from st_waiting (.slp s2)]; rfl
        | wtg s2 => rw [show decide ((Md.wtg s2).st = ("waiting" : Str)) = true from st_waiting (.wtg s2)]; rfl
      have hC : c.md.st = "ready" → c.md.isR = true ∧ PySem.intText? (markS d.now c.md) = some (d.now - c.md.since) ∧ (markS d.now c.md).length ≤ 640 := by
        obtain ⟨nm, rk, md⟩ := c
        cases md with
        | slp s2 => exact fun h => absurd h rdy_asl.1.symm
        | wtg s2 => exact fun h => absurd h rdy_asl.2.1.symm
        | rdy s2 =>
          have g4 : 0 ≤ s2 ∧ s2 ≤ d.now := g4
          have := intT (i := d.now - s2) (by omega) (by omega)
          exact fun _ => ⟨rfl, this.1, this.2⟩
      have hsc1 : scal (leftV d c) (leftV d c) = true := by unfold leftV; split <;> rfl
      have hsc2 : scal (bellV c) (bellV c) = true := by unfold bellV; split <;> rfl
      have w0 : ∀ {σ : L2.St} {H4 : Hp}, σ[4]? = some (some (.ref q.1)) → Ex H' H4 → Ev (tOp (rIxL K) (tVar 4) (tC (.int 0))) σ H4 (.str c.nm) := fun h0 x => ev_op (ev_var h0) ev_c (rv_ixL (i := 0) (sq_of (x _ _ hq')) rfl)
      have w1 : ∀ {σ : L2.St} {H4 : Hp}, σ[4]? = some (some (.ref q.1)) → Ex H' H4 → Ev (tOp (rIxL K) (tVar 4) (tC (.int 1))) σ H4 (.str (SI c.rk)) := fun h0 x => ev_op (ev_var h0) ev_c (rv_ixL (i := 1) (sq_of (x _ _ hq')) rfl)
      have w2 : ∀ {σ : L2.St} {H4 : Hp}, σ[4]? = some (some (.ref q.1)) → Ex H' H4 → Ev (tOp (rIxL K) (tVar 4) (tC (.int 2))) σ H4 (.str c.md.st) := fun h0 x => ev_op (ev_var h0) ev_c (rv_ixL (i := 2) (sq_of (x _ _ hq')) rfl)
      have w3 : ∀ {σ : L2.St} {H4 : Hp}, σ[4]? = some (some (.ref q.1)) → Ex H' H4 → Ev (tOp (rIxL K) (tVar 4) (tC (.int 3))) σ H4 (.str (markS d.now c.md)) := fun h0 x => ev_op (ev_var h0) ev_c (rv_ixL (i := 3) (sq_of (x _ _ hq')) rfl)
      have x0 := Ex.refl H'
      refine q_when (b := false) (et_is (et_or (a := false) (b := false) (et_is (et_test (ev_op (ev_meth (ev_var rfl) hp' rfl (ea_cons (w0 rfl x0) ea_nil) (cv_rank D' ok.wf hg)) (ev_cb (ea_cons (w1 rfl x0) ea_nil) (rc_intS hrk.1 hrk.2)) (rv_ne rfl))) (by simp)) fun _ => et_is (et_test (ev_op (ev_meth (ev_var rfl) hp' rfl (ea_cons (w0 rfl x0) ea_nil) (cv_state D' ok.wf hg)) (w2 rfl x0) (rv_ne rfl))) (by simp)) rfl) (fun h => by cases h) fun _ H4 x4 => ?_
      refine q_when (b := false) (et_is (et_and (a := decide (c.md.st = ("ready" : Str))) (b := false) ?t1 fun hr => ?t2) (Bool.and_false _)) (fun h => by cases h) fun _ H5 x5 => ?_
      case t1 =>
        rw [← decV]
        exact et_test (ev_op (w2 rfl x4) ev_c (rv_eq rfl))
      case t2 =>
        have hr := of_decide_eq_true hr
        obtain ⟨c1, c2, c3⟩ := hC hr
        exact et_is (et_test (ev_op (ev_meth (ev_var rfl) (x4 _ _ hp') rfl (ea_cons (w0 rfl x4) ea_nil) (cv_waited (D'.ex x4) ok.wf hg c1)) (ev_call (ea_cons (ev_var rfl) (ea_cons ev_c ea_nil)) (cv_L_number (v := .int (d.now - c.md.since)) (x4 _ _ hq') (fun _ => ⟨_, rfl, c2, c3⟩) (fun h => absurd hr h))) (rv_ne rfl))) (by simp)
      have x05 := x4.trans x5
      refine q_asg (v := bellV c) (ev_opL1 (xs := [.non, .str (markS d.now c.md)]) (el_lst (ea_cons ev_c (ea_cons (w3 rfl x05) ea_nil)) (by show 2 ≤ 100000; decide)) (fun H6 x6 => ev_cb (ea_cons (ev_is (ev_op (w2 rfl (x05.trans x6)) ev_c (rv_eq rfl)) (congrArg V.bl (decV _ _))) ea_nil) rc_int_bl) fun r H6 h6 x6 => rv_ixL (sq_of h6) hB) fun H6 x6 => ?_
      have x06 := x05.trans x6
      refine s_when (b := false) (et_is (et_or (a := false) (b := false) (et_is (et_test (ev_op (ev_meth (ev_var rfl) (x06 _ _ hp') rfl (ea_cons (w0 rfl x06) ea_nil) (cv_left (D'.ex x06) ok.wf hg)) (ev_call (ea_cons (ev_var rfl) (ea_cons ev_c ea_nil)) (cv_L_number (x06 _ _ hq') hA1 hA2)) (rv_ne hsc1))) (by simp)) fun _ => et_is (et_test (ev_op (ev_meth (ev_var rfl) (x06 _ _ hp') rfl (ea_cons (w0 rfl x06) ea_nil) (cv_bell (D'.ex x06) ok.wf hg)) (ev_var rfl) (rv_ne hsc2))) (by simp)) rfl) (fun h => by cases h) fun _ H7 x7 => ⟨e3.trans (x06.trans x7), (x06.trans x7) _ _ hz, _, _, rfl⟩
    · rintro z σ' H' ⟨e3, _, v4, v5, rfl⟩
      exact s_ret ev_c fun H4 e4 => k H4 (e12.trans (e3.trans e4))
/-! ### law -/
theorem sc_law : FnScope ["_law_script", "_law_far", "_law_now", "_law_room", "_law_many", "_law_rows", "_law_k", "_law_way", "_law_text_here", "_law_desk"] ["_law_script"] (defScope s_law) := ⟨rfl, rfl, rfl, by decide +kernel, rfl, by decide +kernel, by decide +kernel⟩
theorem s_ret3 {σ : L2.St} {H : Hp} {D : Ends} {sp1 sp2 sp3 : Sp} {E1 E2 E3 : XK} {tr : TA} {vs : List V} (h : EvA tr σ H vs) (k : ∀ H1, Ex H H1 → sp3 (vs ++ []) H1 (fun x H2 => sp2 ([x] ++ []) H2 (fun y H3 => sp1 ([y] ++ []) H3 D.rt E1) E2) E3) : tRet (tCall sp1 [] E1 (tCons (tCall sp2 [] E2 (tCons (tCall sp3 [] E3 tr) tNil)) tNil)) D σ H := h H (Ex.refl H) _ k
theorem q_asgWn {σ : L2.St} {H : Hp} {D : Ends} {tz : TS} {tr : TA} {rows : List (List Str)} {i : Nat} (h : EvWA tr σ H rows) (hz : rows.length ≤ 1000) (k : ∀ p H1 ts, H p = none → Ex H H1 → RwAt H1 p ts → ts.map (·.2) = rows → tz D (σ.set i (some (.ref p))) H1) : tSeq (tAsg (tLst tr) (gName i)) tz D σ H :=
  h H (Ex.refl H) _ fun ts H1 e1 ht hm => ⟨sz_of (by rw [List.length_map, ← List.length_map (f := fun q : Addr × List Str => q.2), hm]; omega), fun p hp => k p _ ts (fresh_back e1 hp) (e1.trans (Ex.new hp)) ⟨upd_same, fun q hq => (Ex.new hp) _ _ (ht q hq)⟩ hm⟩
theorem words_cons (d : Dk) : ∀ r ∈ wordsOf d, ∃ a b q, r = a :: b :: q := fun r hr => by
  unfold wordsOf at hr
  rcases List.mem_cons.mp hr with rfl | hr
  · exact ⟨_, _, _, rfl⟩
  · obtain ⟨c, _, rfl⟩ := List.mem_map.mp hr
    exact ⟨_, _, _, rfl⟩
theorem words_last (d : Dk) : ∃ rows r, wordsOf d = rows ++ [r] ∧ rowT r ≠ "" := by
  have hne : wordsOf d ≠ [] := by simp [wordsOf]
  refine ⟨(wordsOf d).dropLast, (wordsOf d).getLast hne, (List.dropLast_concat_getLast hne).symm, ?_⟩
  obtain ⟨a, b, q, e⟩ := words_cons d _ (List.getLast_mem hne)
  rw [e]
  exact rowT_ne
theorem refs_ne {H : Hp} {b r : Addr} {x : Addr} {xs ys : List V} {y : Str} (h1 : H b = some (.lst (V.ref x :: xs))) (h2 : H r = some (.lst (V.str y :: ys))) : r ≠ b := fun e => by
  rw [e, h1] at h2
  injection h2 with h2
  injection h2 with h2
  injection h2 with h2 _
  cases h2
theorem RwAt.snoc {H : Hp} {b r : Addr} {ts : List (Addr × List Str)} {w : Str} {ws : List Str} (h : RwAt H b ts) (h0 : ∀ q ∈ ts, ∃ a l, q.2 = a :: l) (hne : ts ≠ []) (hr : H r = some (.lst ((w :: ws).map V.str))) : RwAt (upd H b (.lst ((ts.map fun q => V.ref q.1) ++ [.ref r]))) b (ts ++ [(r, w :: ws)]) := by
  obtain ⟨t, us, rfl⟩ : ∃ t us, ts = t :: us := by
    cases ts with
    | nil => exact absurd rfl hne
    | cons t us => exact ⟨t, us, rfl⟩
  have hb : H b = some (.lst (V.ref t.1 :: us.map fun q => V.ref q.1)) := h.1
  refine ⟨by rw [List.map_append]; exact upd_same, fun q hq => ?_⟩
  rcases List.mem_append.mp hq with hq | hq
  · obtain ⟨a, l, e⟩ := h0 q hq
    have h2 := h.2 q hq
    have h3 := h2
    rw [e] at h3
    rw [upd_ne (refs_ne hb h3)]
    exact h2
  · rw [List.mem_singleton] at hq
    rw [hq, upd_ne (refs_ne hb hr)]
    exact hr
theorem names_nodup {s : Int} {n : Nat} (hn : n ≤ 80) : ((List.range n).map fun j : Nat => nameBy (j : Int) s).Nodup := by
  refine List.pairwise_map.mpr (List.Pairwise.imp_of_mem ?_ (List.nodup_range (n := n)))
  intro a b ha hb hab e
  have ha := List.mem_range.mp ha
  have hb := List.mem_range.mp hb
  have := nameBy_inj (c := s) (by omega) (by omega) (by omega) (by omega) e
  omega
def sp_law (K : PySem.W.Frag) : Sp := fun vs H Q _ => ∃ (a : Addr) (ns : List Int), vs = [.ref a] ∧ SqL K H a (ns.map V.int) ∧ ns.length ≤ 63 ∧ ∀ H', Q (.bl true) H'
theorem ok_law {P : Program} {w : World} {K : PySem.W.Frag} {mg : Str → Option Value} {base : Heap} (T : Txt K mg) : ∃ fd, FnOk P w K mg base (CX0) 6 (He.ga K "law") fd ["_law_script"] (sp_law K) ∧ Binds K fd ["_law_script"] [] ∧ FunD K "law" "law" (defArgs s_law) (defBody s_law) (defScope s_law) [] [] (He.ga K "law") fd := by
  obtain ⟨fd, F⟩ := f_law T
  obtain ⟨d_L_cell_at, G_L_cell_at, b_L_cell_at, _⟩ := ok_L_cell_at (P := P) (w := w) (base := base) T
  obtain ⟨d_L_caller, G_L_caller, b_L_caller, _⟩ := ok_L_caller (P := P) (w := w) (base := base) T
  obtain ⟨d_L_mix, G_L_mix, b_L_mix, _⟩ := ok_L_mix (P := P) (w := w) (base := base) T
  obtain ⟨d_L_refused, G_L_refused, b_L_refused, _⟩ := ok_L_refused (P := P) (w := w) (base := base) T
  obtain ⟨d_L_text, G_L_text, b_L_text, _⟩ := ok_L_text (P := P) (w := w) (base := base) T
  obtain ⟨d_L_spoilt, G_L_spoilt, b_L_spoilt, _⟩ := ok_L_spoilt (P := P) (w := w) (base := base) T
  obtain ⟨d_read, G_read, b_read, _⟩ := ok_read (P := P) (w := w) (base := base) T
  obtain ⟨d_shown, G_shown, b_shown, _⟩ := ok_shown (P := P) (w := w) (base := base) T
  obtain ⟨d_L_stands, G_L_stands, b_L_stands, _⟩ := ok_L_stands (P := P) (w := w) (base := base) T
  refine ⟨fd, ok0 F sc_law (fun vs H Q E h => ?_) (fun cdv A outer s H vs Q E hr h => ?_), FunD.bindsN F fun _ _ _ _ _ _ us hl => match us, hl with | [_], _ => rfl, F⟩
  · (repeat (obtain ⟨_, h⟩ := h)); subst_vars; rfl
  · obtain ⟨a, ns, rfl, hS, hns, k⟩ := h
    refine ⟨_, (pss_cons (ps_set (i := 1) sc_law.nd rfl (Or.inl rfl) (pe_call G_L_cell_at (hr.mono (by decide)) rfl (g_L_cell_at T) (kp_L_cell_at T) b_L_cell_at .nil pass0 (pa_cons (pv 0) (pa_cons pe_int pa_nil))))
        (pss_cons (ps_set (i := 2) sc_law.nd rfl (Or.inl rfl) (pe_ix (ix_listK (K := K) rfl) (pe_lst (pa_cons pe_int (pa_cons (pe_op op_mod (pv 1) pe_int) (pa_cons (pe_op op_mod (pv 1) (pe_op op_pow pe_int pe_int)) pa_nil)))) (pe_op op_mod (pe_call G_L_cell_at (hr.mono (by decide)) rfl (g_L_cell_at T) (kp_L_cell_at T) b_L_cell_at .nil pass0 (pa_cons (pv 0) (pa_cons pe_int pa_nil))) pe_int) (fun _ _ => rfl)))
        (pss_cons (ps_set (i := 3) sc_law.nd rfl (Or.inl rfl) (pe_op op_add pe_int (pe_op op_mod (pe_call G_L_cell_at (hr.mono (by decide)) rfl (g_L_cell_at T) (kp_L_cell_at T) b_L_cell_at .nil pass0 (pa_cons (pv 0) (pa_cons pe_int pa_nil))) pe_int)))
        (pss_cons (ps_set (i := 4) sc_law.nd rfl (Or.inl rfl) (pe_callB (call_min2 rfl) rfl (b_min T) (by decide +kernel) (pa_cons (pv 3) (pa_cons (pe_op op_mod (pe_op op_fdiv (pe_call G_L_cell_at (hr.mono (by decide)) rfl (g_L_cell_at T) (kp_L_cell_at T) b_L_cell_at .nil pass0 (pa_cons (pv 0) (pa_cons pe_int pa_nil))) pe_int) pe_int) pa_nil))))
        (pss_cons (ps_if (pt_cmpR op_eq (pe_op op_mod (pe_op op_fdiv (pe_call G_L_cell_at (hr.mono (by decide)) rfl (g_L_cell_at T) (kp_L_cell_at T) b_L_cell_at .nil pass0 (pa_cons (pv 0) (pa_cons pe_int pa_nil))) pe_int) pe_int) pe_int (nomark _)) (pss_one (ps_set (i := 4) sc_law.nd rfl (Or.inl rfl) (pv 3)))
        pss_nil)
        (pss_cons (ps_set (i := 5) sc_law.nd rfl (Or.inl rfl) (pe_lst (pa_cons (pe_lst (pa_cons pe_str (pa_cons (pe_callTy call_str_int rfl (b_str T) (by decide +kernel) (pa_cons (pe_op op_add pe_int (pe_op op_mod (pe_call G_L_cell_at (hr.mono (by decide)) rfl (g_L_cell_at T) (kp_L_cell_at T) b_L_cell_at .nil pass0 (pa_cons (pv 0) (pa_cons pe_int pa_nil))) pe_int)) pa_nil)) (pa_cons (pe_callTy call_str_int rfl (b_str T) (by decide +kernel) (pa_cons (pv 3) pa_nil)) (pa_cons (pe_callTy call_str_int rfl (b_str T) (by decide +kernel) (pa_cons (pv 2) pa_nil)) pa_nil))))) pa_nil)))
        (pss_cons (ps_for PassesOwn.never rfl (pi_range1 rfl (b_range T) (pa_cons (pv 4) pa_nil)) (pg_name (i := 6) sc_law.nd rfl (Or.inl rfl))
        (pss_one (ps_expr (pe_bm PySem.F.plainAttrs_list PySem.F.slot_list_append PySem.F.type_list_append mt_append (pv 5) (pa_cons (pe_call G_L_caller (hr.mono (by decide)) rfl (g_L_caller T) (kp_L_caller T) b_L_caller .nil pass0 (pa_cons (pv 0) (pa_cons (pv 6) (pa_cons (pv 2) pa_nil)))) pa_nil)))))
        (pss_cons (ps_set (i := 7) sc_law.nd rfl (Or.inl rfl) (pe_call G_L_mix (hr.mono (by decide)) rfl (g_L_mix T) (kp_L_mix T) b_L_mix .nil pass0 (pa_cons (pe_call G_L_cell_at (hr.mono (by decide)) rfl (g_L_cell_at T) (kp_L_cell_at T) b_L_cell_at .nil pass0 (pa_cons (pv 0) (pa_cons pe_int pa_nil))) (pa_cons pe_int (pa_cons pe_int pa_nil)))))
        (pss_cons (ps_if (pt_cmpR op_gt (pv 7) pe_int (nomark _)) (pss_one (ps_set (i := 7) sc_law.nd rfl (Or.inl rfl) pe_int))
        pss_nil)
        (pss_cons (ps_if (pt_cmpR op_lt (pv 7) pe_int (nomark _)) (pss_one (ps_ret (pe_call G_L_refused (hr.mono (by decide)) rfl (g_L_refused T) (kp_L_refused T) b_L_refused .nil pass0 (pa_cons (pe_call G_L_text (hr.mono (by decide)) rfl (g_L_text T) (kp_L_text T) b_L_text .nil pass0 (pa_cons (pe_call G_L_spoilt (hr.mono (by decide)) rfl (g_L_spoilt T) (kp_L_spoilt T) b_L_spoilt .nil pass0 (pa_cons (pv 5) (pa_cons (pv 7) (pa_cons (pe_call G_L_cell_at (hr.mono (by decide)) rfl (g_L_cell_at T) (kp_L_cell_at T) b_L_cell_at .nil pass0 (pa_cons (pv 0) (pa_cons pe_int pa_nil))) (pa_cons (pv 2) pa_nil))))) pa_nil)) pa_nil))))
        pss_nil)
        (pss_cons (ps_set (i := 8) sc_law.nd rfl (Or.inl rfl) (pe_call G_L_text (hr.mono (by decide)) rfl (g_L_text T) (kp_L_text T) b_L_text .nil pass0 (pa_cons (pv 5) pa_nil)))
        (pss_cons (ps_if (pt_cmpR op_lt (pv 7) pe_int (nomark _)) (pss_one (ps_ret (pe_call G_L_refused (hr.mono (by decide)) rfl (g_L_refused T) (kp_L_refused T) b_L_refused .nil pass0 (pa_cons (pe_ix (ix_listK (K := K) rfl) (pe_lst (pa_cons (pe_slice sl_str (pv 8) po_none (po_some (pe_un un_neg pe_int))) (pa_cons (pe_op op_add_str (pv 8) pe_str) (pa_cons pe_str (pa_cons (pe_op op_add_str (pv 8) pe_str) (pa_cons (pe_op op_add_str pe_str (pv 8)) (pa_cons pe_str pa_nil))))))) (pe_op op_sub (pv 7) pe_int) (fun _ _ => rfl)) pa_nil))))
        pss_nil)
        (pss_cons (ps_set (i := 9) sc_law.nd rfl (Or.inl rfl) (pe_call G_read (hr.mono (by decide)) rfl (g_read T) (kp_read T) b_read .nil passLN (pa_cons (pv 8) pa_nil)))
        (pss_one (ps_ret (pe_and (pe_call G_L_stands (hr.mono (by decide)) rfl (g_L_stands T) (kp_L_stands T) b_L_stands .nil pass0 (pa_cons (pv 9) (pa_cons (pv 5) pa_nil))) (pe_one (pe_cmpR op_eq (pe_call G_shown (hr.mono (by decide)) rfl (g_shown T) (kp_shown T) b_shown .nil pass0 (pa_cons (pv 9) pa_nil)) (pv 8) (nomark _))))))))))))))))))), ?_⟩
    refine q_asg (v := .int (cellAt ns 4)) (ev_call (ea_cons (ev_var rfl) (ea_cons ev_c ea_nil)) (cv_L_cell_at hS (by decide))) fun H1 e1 => ?_
    have hS := ex_l e1 hS
    have c20 := Int.emod_nonneg (cellAt ns 2) (b := 3) (by decide)
    have c21 := Int.emod_lt_of_pos (cellAt ns 2) (b := 3) (by decide)
    obtain ⟨v, ⟨now, rfl, n0, n1⟩, hv⟩ := pick_any (xs := [.int 0, .int (cellAt ns 4 % 2000), .int (cellAt ns 4 % 1000000000000)]) (i := cellAt ns 2 % 3) (P := fun v => ∃ n : Int, v = .int n ∧ 0 ≤ n ∧ n < 1000000000000) c20 (by simpa using c21) (fun x hx => by
      simp only [List.mem_cons, List.not_mem_nil, or_false] at hx
      rcases hx with rfl | rfl | rfl
      · exact ⟨_, rfl, by omega, by omega⟩
      · exact ⟨_, rfl, by omega, by omega⟩
      · exact ⟨_, rfl, by omega, by omega⟩)
    refine q_asg (v := .int now) (ev_opL1 (xs := [.int 0, .int (cellAt ns 4 % 2000), .int (cellAt ns 4 % 1000000000000)]) (el_lst (ea_cons ev_c (ea_cons (ev_op (ev_var rfl) ev_c (rv_I (by decide))) (ea_cons ?g1 ea_nil))) (by show 3 ≤ 100000; decide)) (fun H2 e2 => ev_op (ev_call (ea_cons (ev_var rfl) (ea_cons ev_c ea_nil)) (cv_L_cell_at (ex_l e2 hS) (by decide))) ev_c (rv_I (by decide))) (fun r H2 h2 e2 => rv_ixL (sq_of h2) hv)) fun H2 e2 => ?_
    case g1 => exact ev_op (ev_var rfl) (ev_op ev_c ev_c (rv_I (by unfold CPow; decide))) (rv_I (by decide))
    have hS := ex_l e2 hS
    clear hv
    have c30 := Int.emod_nonneg (cellAt ns 3) (b := 60) (by decide)
    have c31 := Int.emod_lt_of_pos (cellAt ns 3) (b := 60) (by decide)
    obtain ⟨ro, hro, r1, r2⟩ : ∃ ro : Int, 1 + cellAt ns 3 % 60 = ro ∧ 1 ≤ ro ∧ ro ≤ 60 := ⟨_, rfl, by omega, by omega⟩
    refine q_asg (v := .int ro) (ev_is (ev_op ev_c (ev_op (ev_call (ea_cons (ev_var rfl) (ea_cons ev_c ea_nil)) (cv_L_cell_at hS (by decide))) ev_c (rv_I (by decide))) rv_I0) (by rw [hro])) fun H3 e3 => ?_
    have hS := ex_l e3 hS
    have c70 := Int.emod_nonneg (cellAt ns 2 / 3) (b := 7) (by decide)
    obtain ⟨m, m0, m1, hm1, hm2⟩ : ∃ m : Int, 0 ≤ m ∧ m ≤ ro ∧ (cellAt ns 2 / 21 % 5 = 1 → ro = m) ∧ (¬ cellAt ns 2 / 21 % 5 = 1 → (if cellAt ns 2 / 3 % 7 < ro then cellAt ns 2 / 3 % 7 else ro) = m) := by
      by_cases h : cellAt ns 2 / 21 % 5 = 1
      · exact ⟨ro, by omega, by omega, fun _ => rfl, fun h2 => absurd h h2⟩
      · refine ⟨_, ?_, ?_, fun h2 => absurd h2 h, fun _ => rfl⟩ <;> split <;> omega
    refine q_asg (v := .int (if cellAt ns 2 / 3 % 7 < ro then cellAt ns 2 / 3 % 7 else ro)) (ev_cb (ea_cons (ev_var rfl) (ea_cons (ev_op (ev_op (ev_call (ea_cons (ev_var rfl) (ea_cons ev_c ea_nil)) (cv_L_cell_at hS (by decide))) ev_c (rv_I ⟨by decide, by decide⟩)) ev_c (rv_I (by decide))) ea_nil)) rc_min2) fun H4 e4 => ?_
    have hS := ex_l e4 hS
    refine q_ifAsg (b := decide (cellAt ns 2 / 21 % 5 = 1)) (v := .int m) (et_mix0 (ev_op (ev_op (ev_call (ea_cons (ev_var rfl) (ea_cons ev_c ea_nil)) (cv_L_cell_at hS (by decide))) ev_c (rv_I ⟨by decide, by decide⟩)) ev_c (rv_I (by decide)))) (fun hb => ev_is (ev_var rfl) (by rw [hm1 (of_decide_eq_true hb)])) (fun hb => by rw [hm2 (of_decide_eq_false hb)]; rfl) fun H5 e5 => ?_
    have hS := ex_l e5 hS
    clear hm1 hm2
    have c10 := Int.emod_nonneg (cellAt ns 1) (b := 1000) (by decide)
    have c11 := Int.emod_lt_of_pos (cellAt ns 1) (b := 1000) (by decide)
    obtain ⟨pa, hpa, p1, p2⟩ : ∃ pa : Int, 1 + cellAt ns 1 % 1000 = pa ∧ 1 ≤ pa ∧ pa ≤ 1000 := ⟨_, rfl, by omega, by omega⟩
    refine q_asgWn (rows := [["desk", SI pa, SI ro, SI now]]) (wa_cons (w1_lst (ea_cons ev_c (ea_cons (ev_cb (ea_cons (ev_is (ev_op ev_c (ev_op (ev_call (ea_cons (ev_var rfl) (ea_cons ev_c ea_nil)) (cv_L_cell_at hS (by decide))) ev_c (rv_I (by decide))) rv_I0) (by rw [hpa])) ea_nil) (rc_strI (by omega))) (ea_cons (ev_cb (ea_cons (ev_var rfl) ea_nil) (rc_strI (by omega))) (ea_cons (ev_cb (ea_cons (ev_var rfl) ea_nil) (rc_strI (by omega))) ea_nil)))) (Nat.le_of_ble_eq_true rfl)) wa_nil) (Nat.le_of_ble_eq_true rfl) fun b H6 ts0 nb e6 hR0 hm0 => ?_
    refine q_forR1 (n := m) (ea_cons (ev_var rfl) ea_nil) (by omega)
      (fun i σ' H' => Ex H5 H' ∧ ∃ v6 L ts, σ' = [some (.ref a), some (.int (cellAt ns 4)), some (.int now), some (.int ro), some (.int m), some (.ref b), v6, none, none, none] ∧ RwAt H' b ts ∧ ts.map (·.2) = wordsOf ⟨pa, ro, now, L⟩ ∧ L.map (·.nm) = (List.range i).map (fun j : Nat => nameBy (j : Int) (cellAt ns 0)) ∧ ∀ c ∈ L, ClOk now c)
      (fun H7 e7 => ⟨e6.trans e7, none, [], ts0, rfl, hR0.ex e7, hm0, rfl, fun c hc => by cases hc⟩) ?_ ?_
    · rintro i σ' H' hi ⟨e7, v6, L, ts, rfl, hR, hm, hnm, hcl⟩
      have hlen : ts.length = L.length + 1 := by
        rw [← List.length_map (f := fun q : Addr × List Str => q.2), hm]
        unfold wordsOf
        rw [List.length_cons, List.length_map]
      have hli : L.length = i := by
        have := congrArg List.length hnm
        rw [List.length_map, List.length_map, List.length_range] at this
        exact this
      have hSq := ex_l e7 hS
      refine ⟨_, rfl, .inl ⟨rfl, _, SqL.of hR.1⟩, aa_call (vs := [.ref a, .int (i : Int), .int now]) (ea_cons (ev_var rfl) (ea_cons (ev_var rfl) (ea_cons (ev_var rfl) ea_nil))) fun H8 e8 => ⟨a, ns, (i : Int), now, rfl, ex_l e8 hSq, by omega, by omega, n0, n1, fun c r H9 hcn hcok e9 hr => ?_⟩⟩
      have hR9 := hR.ex (e8.trans e9)
      refine ⟨b, _, .ref r, rfl, rfl, hR9.1, sz_lt (by rw [List.length_map]; omega), ?_⟩
      have hsn := hR9.snoc (r := r) (fun q hq => by
        have h1 : q.2 ∈ ts.map (·.2) := List.mem_map.mpr ⟨q, hq, rfl⟩
        rw [hm] at h1
        obtain ⟨x, y, l, e⟩ := words_cons _ _ h1
        exact ⟨x, y :: l, e⟩) (fun h => by rw [h] at hlen; cases hlen) (w := c.nm) (ws := [SI c.rk, c.md.st, markS now c.md]) hr
      refine ⟨Ex.mut (e7.trans (e8.trans e9)) nb, _, L ++ [c], _, rfl, hsn, ?_, ?_, fun x hx => ?_⟩
      · rw [List.map_append, hm]
        unfold wordsOf
        show _ = _ :: (L ++ [c]).map (rowW now)
        rw [List.map_append]
        rfl
      · rw [List.map_append, hnm, List.range_succ, List.map_append, List.map_singleton, List.map_singleton, hcn]
      · rcases List.mem_append.mp hx with hx | hx
        · exact hcl x hx
        · rw [List.mem_singleton] at hx
          rw [hx]
          exact hcok
    rintro σ' H7 ⟨e7, v6, L, ts, rfl, hR, hm, hnm, hcl⟩
    have hS := ex_l e7 hS
    have hli : L.length = m.toNat := by
      have := congrArg List.length hnm
      rw [List.length_map, List.length_map, List.length_range] at this
      exact this
    obtain ⟨d, hd⟩ : ∃ d : Dk, d = ⟨pa, ro, now, L⟩ := ⟨_, rfl⟩
    have hnow : d.now = now := by rw [hd]
    have ok : d.Ok := by
      rw [hd]
      exact ⟨p1, p2, r1, r2, n0, by show (L.length : Int) ≤ ro; omega, by show (L.map (·.nm)).Nodup; rw [hnm]; exact names_nodup (by omega), hcl⟩
    rw [← hd] at hm
    have ht : d.now < 1000000000000 := by omega
    have h60 := ok.len60
    have hlen : ts.length = d.line.length + 1 := by
      rw [← List.length_map (f := fun q : Addr × List Str => q.2), hm]
      unfold wordsOf
      rw [List.length_cons, List.length_map]
    have hwl : (wordsOf d).length ≤ 63 := by
      rw [← hm, List.length_map]
      omega
    clear hd hnm hcl hR0 hm0 e7 e6 nb e5 e4 e3 e2 e1 hli
    have w0 := mix_nonneg (c := cellAt ns 5) (p := 10091) (m := 107) (by decide)
    have w1 := mix_lt (c := cellAt ns 5) (p := 10091) (m := 107) (by decide)
    refine q_asg (v := .int (mix (cellAt ns 5) 10091 107)) (ev_call (ea_cons (ev_call (ea_cons (ev_var rfl) (ea_cons ev_c ea_nil)) (cv_L_cell_at hS (by decide))) (ea_cons ev_c (ea_cons ev_c ea_nil))) (cv_L_mix (by decide) (by decide))) fun H8 e8 => ?_
    generalize mix (cellAt ns 5) 10091 107 = w' at *
    obtain ⟨w, hw0, hw1, hwa, hwb⟩ : ∃ w : Int, 0 ≤ w ∧ w ≤ 98 ∧ (w' > 98 → 59 = w) ∧ (¬ w' > 98 → w' = w) := by
      by_cases h : w' > 98
      · exact ⟨59, by decide, by decide, fun _ => rfl, fun h2 => absurd h h2⟩
      · exact ⟨w', w0, by omega, fun h2 => absurd h2 h, fun _ => rfl⟩
    refine q_ifAsg (b := decide (w' > 98)) (v := .int w) (et_test (ev_op (ev_var rfl) ev_c rv_I0)) (fun hb => ev_is ev_c (by rw [hwa (of_decide_eq_true hb)])) (fun hb => by rw [hwb (of_decide_eq_false hb)]; rfl) fun H9 e9 => ?_
    have hR9 := hR.ex (e8.trans e9)
    have hS9 := ex_l (e8.trans e9) hS
    clear hwa hwb w0 w1
    refine q_when (b := decide (w < 61)) (et_test (ev_op (ev_var rfl) ev_c rv_I0)) (fun hb H10 e10 => ?_) fun hb H10 e10 => ?_
    · refine s_ret3 (vs := [.ref b, .int w, .int (cellAt ns 6), .int now]) (ea_cons (ev_var rfl) (ea_cons (ev_var rfl) (ea_cons (ev_call (ea_cons (ev_var rfl) (ea_cons ev_c ea_nil)) (cv_L_cell_at (ex_l e10 hS9) (by decide))) (ea_cons (ev_var rfl) ea_nil)))) fun H11 e11 => ?_
      rw [← hnow]
      exact ⟨b, d, ts, w, cellAt ns 6, rfl, hR9.ex (e10.trans e11), hm, ok, ht, hw0, of_decide_eq_true hb, fun b2 us H12 e12 hU hs hl hbad => ⟨b2, us, rfl, hU, hs, hl, fun H13 e13 => ⟨_, rfl, by have := smt_len hs (by rw [List.length_map]; exact hl); omega, hbad, fun H14 e14 => k H14⟩⟩⟩
    have hsm := sm_words ok ht
    have hR10 := hR9.ex e10
    have htl := smt_len hsm hwl
    refine q_asg (v := .str (textL ((ts.map (·.2)).map rowT))) (ev_call (ea_cons (ev_var rfl) ea_nil) (cv_L_text hR10 (by rw [hm]; exact hsm) (by omega))) fun H11 e11 => ?_
    rw [hm]
    have hw61 := of_decide_eq_false hb
    have hbA : readD (cutS (textL ((wordsOf d).map rowT)) none (some (-1))) = none := by
      obtain ⟨rows, r, e, hr⟩ := words_last d
      rw [e]
      exact bad_cut (by rw [← e]; exact hsm) hr
    have hbB := bad_x hsm
    have hbC := bad_nlA ok ht
    have hbD := bad_nlB hsm
    have hsh := shown_words d
    generalize textL ((wordsOf d).map rowT) = t at *
    have hz : t.length ≤ 100000 := by omega
    refine q_when (b := decide (w < 67)) (et_test (ev_op (ev_var rfl) ev_c rv_I0)) (fun hb2 H12 e12 => ?_) fun hb2 H12 e12 => ?_
    · have hb2 := of_decide_eq_true hb2
      have x1 : ("x" : Str).length = 1 := by decide +kernel
      have x2 : ("\n" : Str).length = 1 := by decide +kernel
      have x3 := cutS_length t none (some (-1))
      obtain ⟨v, ⟨u, rfl, u1, u2⟩, hv⟩ := pick_any (xs := [.str (cutS t none (some (-1))), .str (t ++ "x"), .str "", .str (t ++ "\n"), .str (("\n" : Str) ++ t), .str "\n"]) (i := w - 61) (P := fun v => ∃ u : Str, v = .str u ∧ u.length ≤ 20000 ∧ readD u = none) (by omega) (by show w - 61 < 6; omega) (fun x hx => by
        simp only [List.mem_cons, List.not_mem_nil, or_false] at hx
        rcases hx with rfl | rfl | rfl | rfl | rfl | rfl
        · exact ⟨_, rfl, by omega, hbA⟩
        · exact ⟨_, rfl, by rw [len_app]; omega, hbB⟩
        · exact ⟨_, rfl, by decide +kernel, readD_empty⟩
        · exact ⟨_, rfl, by rw [len_app]; omega, hbC⟩
        · exact ⟨_, rfl, by rw [len_app]; omega, hbD⟩
        · exact ⟨_, rfl, by decide +kernel, bad_nlC⟩)
      refine s_ret (v := .bl true) (ev_call (ea_cons (ev_opL1 (xs := [.str (cutS t none (some (-1))), .str (t ++ "x"), .str "", .str (t ++ "\n"), .str (("\n" : Str) ++ t), .str "\n"]) (el_lst (ea_cons (ev_slS (ev_var rfl) eo_none (eo_some (ev_un ev_c ru_neg)) hz) (ea_cons (ev_op (ev_var rfl) ev_c (rv_addS (sz_of (by omega)))) (ea_cons ev_c (ea_cons (ev_op (ev_var rfl) ev_c (rv_addS (sz_of (by omega)))) (ea_cons (ev_op ev_c (ev_var rfl) (rv_addS (sz_of (by omega)))) (ea_cons ev_c ea_nil)))))) (by show 6 ≤ 100000; decide)) (fun H13 e13 => ev_op (ev_var rfl) ev_c rv_I0) fun r H13 h13 e13 => rv_ixL (sq_of h13) hv) ea_nil) (cv_L_refused u1 u2)) fun H13 e13 => k H13
    have hrd := read_shown ok ht
    rw [hsh] at hrd
    refine q_call (vs := [.str t]) (ea_cons (ev_var rfl) ea_nil) fun H13 e13 => ⟨t, rfl, by omega, fun hn => (by rw [hrd] at hn; cases hn), fun d2 hd2 p H14 np D => ?_⟩
    rw [hrd] at hd2
    cases hd2
    obtain ⟨l, ps, DD, ff⟩ := D
    have hR14 := hR10.ex (e11.trans (e12.trans (e13.trans ff.ex)))
    refine s_ret (v := .bl true) (ev_is (ev_andV (a := true) (b := true) (ev_call (vs := [.ref p, .ref b]) (ea_cons (ev_var rfl) (ea_cons (ev_var rfl) ea_nil)) (spv_call fun H15 e15 Q E kk => ⟨p, b, d, l, ps, ts, rfl, DD.ex e15, ok, ht, hR14.ex e15, hm, kk⟩)) fun _ => ev_is (ev_op (ev_call (ea_cons (ev_var rfl) ea_nil) (cv_shown DD ok (by omega))) (ev_var rfl) (rv_eq rfl)) (congrArg V.bl (decide_eq_true (by rw [hsh])))) rfl) fun H15 e15 => k H15
end Rr
namespace Rr
open PySem PySem.Spec PyProof.Rows L2
theorem facts {P : Program} {w : World} {K : PySem.W.Frag} {h : Heap} {mg : Str → Option Value} {f : Addr} (X : K.In h) (G : h.Ns mainGlobals mg) (hfa : mg ("law" : Str) = some (.ref f)) (c : He.SaysD fa fn K) (cx : excK K = true) :
    ∃ fd : FuncData, (∀ (s : Shared) (v : Value), BindsTo s fd ⟨[v], []⟩ [("_law_script", v)]) ∧ ∀ base : Heap, K.In base → base.Ns mainGlobals mg → FnOk P w K mg base CX0 6 f fd ["_law_script"] (sp_law K) := by
  have T : Txt K mg := ⟨c, ⟨h, X, G⟩, cx⟩
  have e := hfa.symm.trans (g_law T)
  cases e
  obtain ⟨fd, F⟩ := f_law T
  have b := FunD.bindsA (ps := ["_law_script"]) F fun _ _ _ _ _ _ us hl => match us, hl with | [_], _ => rfl
  refine ⟨fd, fun s v => b s [v] rfl, fun base _ _ => ?_⟩
  obtain ⟨fd', G', _, F'⟩ := ok_law (P := P) (w := w) (base := base) T
  exact (funD_same F F') ▸ G'
end Rr
open PySem PySem.W PySem.Calls PyProof.Rows
set_option maxRecDepth 100000 in
set_option maxHeartbeats 0 in
theorem PySem.Challenge.cw_rrdesk_k11_read_holds : PySem.Challenge.rw_rrdesk_k11_read.Holds := by
  w_on; o_law
  refine HandSHeadRun.head_any (r := OpenLaw.row PySem.Challenge.rw_rrdesk_k11_read) (q := view (OpenLaw.row PySem.Challenge.rw_rrdesk_k11_read).prog [50]) (H := Rr.hk) (ob := Rr.ob) (M := 6000) (loose := Rr.loose) (d := HandSHeadRun.topDef (OpenLaw.row PySem.Challenge.rw_rrdesk_k11_read).prog 50) (kwd := []) Rr.ob_eq
    (by kernel_rfl) (fun s => by kernel_rfl) Rr.run (by kernel_rfl) (by kernel_rfl) (by kernel_rfl) (by rfl) (by first | assumption | decide +kernel) (by decide +kernel) ⟨rfl, rfl, rfl, rfl, rfl, by decide +kernel⟩ ?hw ?hc
  case hw => w_witness2
  case hc =>
    refine L2.walk_ofE (l := PySem.Challenge.rw_rrdesk_k11_read) (n := 63) (k := 6) (x := "_law_script") (CX := L2.CX0) rfl (by decide) (by kernel_rfl) ⟨rfl, by decide, by decide⟩ ?F (fun _ _ _ _ z => z)
    intro w mg fa h Y G hmg0
    obtain ⟨K, KX, c, cx⟩ := Y
    have hmg : mg ("law" : PySem.Str) = some (.ref fa) := by
      have e : (HandSHeadRun.topDef (OpenLaw.row PySem.Challenge.rw_rrdesk_k11_read).prog 50).name = ("law" : PySem.Str) := by kernel_rfl
      rw [← e]
      exact hmg0
    obtain ⟨fd, hb, hF⟩ := Rr.facts (P := (PySem.Challenge.rw_rrdesk_k11_read).prog) (w := w) KX G hmg c cx
    exact ⟨K, fd, Rr.sp_law K, KX, hb, fun H a ns hl _ hS => ⟨a, ns, rfl, hS, hl, fun _ => rfl⟩, hF⟩

#print axioms PySem.Challenge.cw_rrdesk_k11_read_holds

