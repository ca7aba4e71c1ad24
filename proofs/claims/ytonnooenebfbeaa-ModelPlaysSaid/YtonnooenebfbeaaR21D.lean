/- The reference's model: Took, Open. -/
import Derived.Test.YtonnooenebfbeaaR21C
import Derived.Test.YtonnooenebfbeaaMdlOpen
namespace Go.Proofs.Ytonnooenebfbeaa
open Go.RowKit

def rtookE (c : Cfg) (L : List RP) (node src dst : Int) (d : ByteArray) : Int := if c.is node = true ∧ c.is src = true then (if dst = node ∧ (qOf L src node).head? = some d then 0 else 13) else 5
def isOf (src node : Int) (p : RP) : Bool := decide (p.1 = src) && decide (p.2.1 = node)
def rtook (L : List RP) (src node : Int) : List RP := L.eraseP (isOf src node)

theorem qOf_none {L : List RP} {j : Nat} {src node : Int} (h : qOf (L.take j) src node = []) : ∀ p ∈ L.take j, isOf src node p = false := by
  intro p hp
  unfold qOf at h
  rw [List.map_eq_nil_iff, List.filter_eq_nil_iff] at h
  have := h p hp
  simpa [isOf] using this
theorem rtook_at {L : List RP} {j : Nat} {p : RP} {src node : Int} (h : qOf (L.take j) src node = []) (hp : L[j]? = some p) (hi : p.1 = src ∧ p.2.1 = node) : rtook L src node = L.take j ++ L.drop (j + 1) := by
  have hj : j < L.length := (List.getElem?_eq_some_iff.1 hp).1
  have hpe : L[j] = p := (List.getElem?_eq_some_iff.1 hp).2
  have e : L = L.take j ++ p :: L.drop (j + 1) := by
    conv => lhs; rw [← List.take_append_drop j L, List.drop_eq_getElem_cons hj, hpe]
  unfold rtook
  conv => lhs; rw [e]
  rw [List.eraseP_append_right _ (fun q hq => by rw [qOf_none h q hq]; simp), List.eraseP_cons_of_pos (by simp [isOf, hi])]
theorem qOf_at {L : List RP} {j : Nat} {p : RP} {src node : Int} (h : qOf (L.take j) src node = []) (hp : L[j]? = some p) (hi : p.1 = src ∧ p.2.1 = node) : (qOf L src node).head? = some p.2.2 := by
  have hj : j < L.length := (List.getElem?_eq_some_iff.1 hp).1
  have hpe : L[j] = p := (List.getElem?_eq_some_iff.1 hp).2
  have e : L = L.take j ++ p :: L.drop (j + 1) := by
    conv => lhs; rw [← List.take_append_drop j L, List.drop_eq_getElem_cons hj, hpe]
  have e2 : qOf L src node = qOf (L.take j) src node ++ qOf (p :: L.drop (j + 1)) src node := by
    conv => lhs; rw [e]
    simp [qOf]
  rw [e2, h]
  simp [qOf, hi]

/-- 'append(s, t...)' of rows that are known, onto a slice that the call owns. -/
theorem wpList_appendM {P : Program} {ops : Array Oper} {rest : List Oper} {o : Oper} {a : Act} {Q : Exit → Act → World → Prop} {w : World} (hgd : o.guard = none) (s x : Operand) (t : TypeId)
    (ho : o.op = .call { callee := .builtin .append, args := #[s, x], argTypes := #[t, t] })
    (base : Nat) (e : TypeId) (z : Value) (size bytes : Nat) (ht : P.underlying t = some (.slice e)) (hinfo : (P.info? e).map (fun i => (i.zero, i.size, i.bytes)) = some (some z, size, bytes)) (hzs : z.cells.size = size) (hsz : 0 < size)
    (v : Value) (n : Nat) (xs : List Value) (hs : a.eval s = v) (hown : w.ownsRow base e size v n xs) (ad : Addr) (m c : Nat) (news : List Value) (hx : a.eval x = .slice (some ad) m c) (hl : news.length = m * size)
    (hnews : ∀ j u, news[j]? = some u → w.cell? (ad.add j) = some u) (h1 : ∀ u ∈ news, u.oneCell' = true)
    (h63 : n + m ≤ maxLen) (hbytes : (n + m) * bytes ≤ 140737488355328) (hbase : base ≤ w.heap.size)
    (h : ∀ v' w', w'.ownsRow base e size v' (n + m) (xs ++ news) → Mod (fun k => v.ownBlock = some k) w w' → (v'.ownBlock = v.ownBlock ∨ v'.ownBlock = some w.heap.size) → wpList P ops Q rest (a.put o.dst v') w') :
    wpList P ops Q (o :: rest) a w := by
  obtain ⟨i, hi, hz, hsize, hby⟩ := info_parts hinfo
  exact wpList_append_own_at w hgd s x t ho base e i z size bytes ht hi hz hsize hby hzs hsz v n xs hs hown ad m c news hx hl hnews h1 h63 hbytes hbase fun v' w' h2 h3 _ h5 => h v' w' h2 ((Mod.refl _ w).grown h3 (fun k hk => Or.inl hk)) h5

section
variable {w : World} {b bc : Nat} {v : Value} {c : Cfg} {k : Nat} {L : List RP} {C : List Bool}

/-- Another row of packets, in new memory. -/
theorem RefIn.put9 {w' : World} {L' : List RP} {k' : Nat} {v' : Value} (h : RefIn w b bc v c k L C) (m : Mod (fun _ => False) w w') (hrow : w'.ownsRow 0 36 4 v' L'.length (rowsP L')) (hg : ∀ q, v'.ownBlock = some q → w.heap.size ≤ q) (hl : L'.length ≤ k') :
    RefIn (w'.setCell ⟨b, 9, none⟩ v') b bc v' c k' L' C := by
  have hb := h.blk.lt
  have hc := h.cb.lt
  have hne := h.ne
  have ms : Mod (fun q => q = b) w' (w'.setCell ⟨b, 9, none⟩ v') := (Mod.refl (fun q => q = b) w').setCell (p := ⟨b, 9, none⟩) (Or.inl rfl) _
  refine ⟨?_, own_laterR hrow ms (fun q hq e => ?_), (h.cb.later m (by simp)).later ms (fun e => hne e.symm), h.cl, h.ne, fun q hq => ?_, hl⟩
  · have := (h.blk.later m (by simp)).set 9 v'
    simpa using this
  · have := hg q hq
    omega
  · have := hg q hq
    exact ⟨by omega, by omega⟩

set_option maxRecDepth 100000 in
set_option maxHeartbeats 6400000 in
theorem run_RTook (node src dst sq : Int) (d : ByteArray) (h : RefIn w b bc v c k L C) (hk : k ≤ 100000) :
    Calls Try.prog 29 #[.pointer (some ⟨b, 0, none⟩), .int .i64 node, .agg #[.int .i64 src, .int .i64 dst, .int .i64 sq, .string d]] w fun e w' =>
      e = .returned (.int .i64 (rtookE c L node src dst d)) ∧
      ((rtookE c L node src dst d ≠ 0 ∧ Mod (fun _ => False) w w') ∨
       (rtookE c L node src dst d = 0 ∧ Mod (own3 b bc v) w w' ∧ ∃ v', RefIn w' b bc v' c k (rtook L src node) C ∧ ∀ g, own3 b bc v' g → own3 b bc v g ∨ w.heap.size ≤ g)) := by
  have kP := Blk.made w #[.int .i64 src, .int .i64 dst, .int .i64 sq, .string d] 36
  have m0 : Mod (fun _ => False) w (w.alloc (.cells #[.int .i64 src, .int .i64 dst, .int .i64 sq, .string d] 36)) := (Mod.refl _ _).alloc _
  have H0 := Lib.hid h
  have hlt0 : ∀ g, own3 b bc v g → g < w.heap.size := fun g hg => h.own_lt hg
  have HLT := Lib.hid hlt0
  generalize hE : rtookE c L node src dst d = E
  have HE := Lib.hid hE
  have hlk := h.lk
  obtain ⟨a, cap, rfl, hcap, hmax⟩ := own_formM h.row
  obtain ⟨n, hn⟩ : ∃ n, L.length = n := ⟨_, rfl⟩
  rw [hn] at hlk hcap
  have HN := Lib.hid hn
  unfold maxLen at hmax
  have hsl : (Value.slice a L.length cap) = .slice a n cap := by rw [hn]
  rw [hsl] at H0 HLT ⊢
  clear h hE hlt0 hn hsl
  go_enter Try.func29, Try.ntmps29
  go_wp2_with fail
  have H := Lib.hid (H0.out.later m0 (by simp))
  have hbP : w.heap.size ≠ b ∧ w.heap.size ≠ bc := ⟨fun e => by have := HLT.out b (Or.inl rfl); omega, fun e => by have := HLT.out bc (Or.inr (Or.inl rfl)); omega⟩
  generalize w.alloc (.cells #[.int .i64 src, .int .i64 dst, .int .i64 sq, .string d] 36) = w1 at kP m0 H ⊢
  have p0 := kP.cell 0
  have p1 := kP.cell 1
  have p3 := kP.cell 3
  simp at p0 p1 p3
  refine (run_RIs node H.out).mono ?_
  rintro e w2 ⟨rfl, rfl⟩
  cases hn : c.is node with
  | false =>
    have hv : E = 5 := by rw [← HE.out]; unfold rtookE; rw [if_neg (by rw [hn]; simp)]
    have HV := Lib.hid hv
    clear hn hv
    go_wp2
    go_ret
    exact ⟨by rw [HV.out]; rfl, Or.inl ⟨by rw [HV.out]; decide, m0⟩⟩
  | true =>
    go_wp2_with fail
    refine (run_RIs src H.out).mono ?_
    rintro e w1 ⟨rfl, rfl⟩
    cases hn2 : c.is src with
    | false =>
      have hv : E = 5 := by rw [← HE.out]; unfold rtookE; rw [if_neg (by rw [hn2]; simp)]
      have HV := Lib.hid hv
      clear hn hn2 hv
      go_wp2
      go_ret
      exact ⟨by rw [HV.out]; rfl, Or.inl ⟨by rw [HV.out]; decide, m0⟩⟩
    | true =>
      have hv : E = if dst = node ∧ (qOf L src node).head? = some d then 0 else 13 := by rw [← HE.out]; unfold rtookE; rw [if_pos ⟨hn, hn2⟩]
      have HV := Lib.hid hv
      clear hn hn2 hv HE
      obtain ⟨-, -, -, -, -, -, -, -, -, c9, -⟩ := ref_cells H.out
      have hbl := H.out.blk.lt
      have hPl := kP.lt
      go_wp2
      go_loopw [7] (fun i wr => ∃ j : Nat, j ≤ n ∧ i = .int .i64 j ∧ Drw w1 wr ∧ qOf (L.take j) src node = []) (fun i _ => n - (intOf i).toNat)
      case atStart => exact ⟨0, by omega, by simp, Drw.refl _, by simp [qOf]⟩
      case round =>
        obtain ⟨j, hj, rfl, hd, hq0⟩ := hrel
        obtain ⟨wA, rfl⟩ : ∃ wo : World, wo = wr := ⟨_, rfl⟩
        have HQ0 := Lib.hid hq0
        clear hq0
        have c9 := (hd.cell ⟨b, 9, none⟩).trans c9
        have p0 := (hd.cell ⟨w.heap.size, 0, none⟩).trans p0
        have p1 := (hd.cell ⟨w.heap.size, 1, none⟩).trans p1
        have p3 := (hd.cell ⟨w.heap.size, 3, none⟩).trans p3
        by_cases hlt : j < n
        · obtain ⟨p, hp⟩ : ∃ p, L[j]? = some p := ⟨_, List.getElem?_eq_getElem (by have := HN.out; omega)⟩
          obtain ⟨g, cap', e0, hg, -, -, hcell⟩ := own_at H.out.row (j := 0) (by rw [rowsP_len, HN.out]; omega)
          have e : a = some ⟨g, 0, none⟩ := by simp at e0; exact e0.1
          clear e0
          subst e
          have d0 := (hd.cell ⟨g, j * 4 + 0, none⟩).trans ((hcell (j * 4 + 0) (by rw [rowsP_len, HN.out]; omega)).trans (rowsP_get hp (by decide)))
          have d1 := (hd.cell ⟨g, j * 4 + 1, none⟩).trans ((hcell (j * 4 + 1) (by rw [rowsP_len, HN.out]; omega)).trans (rowsP_get hp (by decide)))
          have d3 := (hd.cell ⟨g, j * 4 + 3, none⟩).trans ((hcell (j * 4 + 3) (by rw [rowsP_len, HN.out]; omega)).trans (rowsP_get hp (by decide)))
          simp [rcells] at d0 d1 d3
          have hst := qOf_step hp src node
          rw [HQ0.out, List.nil_append] at hst
          have HST := Lib.hid hst
          have HP := Lib.hid hp
          have HCELL := Lib.hid hcell
          clear hst hp hcell
          have b0 : (0 : Int) ≤ (j : Int) := by omega
          have b1 : (j : Int) < (n : Int) := by omega
          go_upto_region 6 with fail
          by_cases hm : p.1 = src ∧ p.2.1 = node
          · have q1 : (p.1 != src) = false := by simp [hm.1]
            have q2 : (p.2.1 != node) = false := by simp [hm.2]
            have HM := Lib.hid hm
            clear hm
            go_cut [51] (fun z w' => z = .bool false ∧ Drw w1 w')
            case first => as_aux_lemma =>
              go_quiet (fail)
              all_goals go_wp2_with fail
              all_goals go_meet
              all_goals exact ⟨by simp, hd.trans (Drw.drewN _ _)⟩
            case rest =>
            obtain ⟨rfl, hd2⟩ := hcut
            have p1 := (hd2.cell ⟨w.heap.size, 1, none⟩).trans ((hd.cell _).symm.trans p1)
            have p3 := (hd2.cell ⟨w.heap.size, 3, none⟩).trans ((hd.cell _).symm.trans p3)
            have c9 := (hd2.cell ⟨b, 9, none⟩).trans ((hd.cell _).symm.trans c9)
            have d3 := (hd2.cell ⟨g, j * 4 + 3, none⟩).trans ((hd.cell _).symm.trans d3)
            obtain ⟨wB, rfl⟩ : ∃ wo : World, wo = wc := ⟨_, rfl⟩
            have HQA := Lib.hid (qOf_at HQ0.out HP.out HM.out)
            clear d0 d1 hd p0 
            go_upto_region 7 with fail
            by_cases hok : dst = node ∧ p.2.2 = d
            · have HOK := Lib.hid hok
              go_cut [68] (fun z w' => z = .bool false ∧ Drw w1 w')
              case first => as_aux_lemma =>
                obtain ⟨h1, h2⟩ := hok
                have q1 : (dst != node) = false := by simp [h1]
                have h3 : p.2.2.toList = d.toList := by rw [h2]
                clear h1 h2
                go_quiet (fail)
                all_goals go_wp2_with fail
                all_goals go_meet
                all_goals exact ⟨by simp [h3], hd2.trans (Drw.drewN _ _)⟩
              case rest =>
              obtain ⟨rfl, hd3⟩ := hcut
              clear hok
              have hv : E = 0 := by
                rw [HV.out, if_pos]
                exact ⟨HOK.out.1, by rw [HQA.out, HOK.out.2]⟩
              have HV2 := Lib.hid hv
              have hra := rtook_at HQ0.out HP.out HM.out
              have HRA := Lib.hid hra
              clear hv hra p1 p3 d3 c9
              have mC := hd3.mod (fun _ => False)
              have H3 := Lib.hid (H.out.later mC (by simp))
              obtain ⟨wC, rfl⟩ : ∃ wo : World, wo = wc := ⟨_, rfl⟩
              obtain ⟨-, -, -, -, -, -, -, -, -, c9, -⟩ := ref_cells H3.out
              have hsC := mC.size
              have hbC := H3.out.blk.lt
              obtain ⟨g', cap2, e, hgC, -, -, hcC⟩ := own_at H3.out.row (j := 0) (by rw [rowsP_len, HN.out]; omega)
              rw [HN.out] at e
              obtain ⟨rfl, rfl⟩ : g = g' ∧ cap = cap2 := by simpa using e
              have HCC := Lib.hid hcC
              have j64 : IntKind.i64.wrap ((j : Int) + 1) = ((j + 1 : Nat) : Int) := by rw [IntWalk.i64_in _ (by omega)]; omega
              have hln : (rowsP L).length = n * 4 := by rw [rowsP_len, HN.out]
              clear hcC e
              have news1 : ∀ i u, (rowsP (L.take j))[i]? = some u → wC.cell? ((⟨g, 0, none⟩ : Addr).add i) = some u := by
                intro i u hu
                have hi : i < j * 4 := by
                  have := (List.getElem?_eq_some_iff.1 hu).1
                  rw [rowsP_len, List.length_take, HN.out] at this
                  omega
                have ee : (⟨g, 0, none⟩ : Addr).add i = ⟨g, i, none⟩ := by unfold Addr.add; split <;> simp_all
                rw [ee, HCC.out i (by omega), ← hu, rowsP_take, List.getElem?_take, if_pos hi]
              have NEWS1 := Lib.hid news1
              clear news1
              go_upto_region 11 with (at_builtin; refine wpList_appendM rfl _ _ 52 rfl w.heap.size 36 (.agg #[.int .i64 0, .int .i64 0, .int .i64 0, .string ⟨#[]⟩]) 4 40 Try.underlying52 info_pkt rfl (by decide) (.slice none 0 0) 0 [] rfl (World.ownsRow_nil _ _ _ _) ⟨g, 0, none⟩ j cap (rowsP (L.take j)) rfl (by rw [rowsP_len, List.length_take, HN.out]; omega) NEWS1.out rowsP_one (by unfold maxLen; omega) (by omega) (by omega) ?_; intro v1 wD own1 grow1 at1)
              have mD : Mod (fun _ => False) wC wD := grow1.mono (fun i hi e => by cases e)
              have H4 := Lib.hid (H3.out.later mD (by simp))
              obtain ⟨-, -, -, -, -, -, -, -, -, c9, -⟩ := ref_cells H4.out
              have c9z := H4.out.blk.fz 9
              obtain ⟨g', cap3, e, hgD, -, -, hcD⟩ := own_at H4.out.row (j := 0) (by rw [rowsP_len, HN.out]; omega)
              rw [HN.out] at e
              obtain ⟨rfl, rfl⟩ : g = g' ∧ cap = cap3 := by simpa using e
              have news2 : ∀ i u, (rowsP (L.drop (j + 1)))[i]? = some u → wD.cell? ((⟨g, (j + 1) * 4, none⟩ : Addr).add i) = some u := by
                intro i u hu
                have hi : i < (n - (j + 1)) * 4 := by
                  have := (List.getElem?_eq_some_iff.1 hu).1
                  rw [rowsP_len, List.length_drop, HN.out] at this
                  omega
                have ee : (⟨g, (j + 1) * 4, none⟩ : Addr).add i = ⟨g, (j + 1) * 4 + i, none⟩ := by unfold Addr.add; split <;> simp_all
                rw [ee, hcD _ (by omega), ← hu, rowsP_drop, List.getElem?_drop]
              have NEWS2 := Lib.hid news2
              have OWN1 := Lib.hid own1
              have hsD := mD.size
              clear e hcD news2 grow1 own1
              have hadd : ∃ ad : Addr, (∀ i u, (rowsP (L.drop (j + 1)))[i]? = some u → wD.cell? (ad.add i) = some u) ∧ ad = if cap - (j + 1) = 0 then ⟨g, 0, none⟩ else ⟨g, (j + 1) * 4, none⟩ := by
                refine ⟨_, ?_, rfl⟩
                split
                · intro i u hu
                  have := (List.getElem?_eq_some_iff.1 hu).1
                  rw [rowsP_len, List.length_drop, HN.out] at this
                  omega
                · exact NEWS2.out
              obtain ⟨ad, news3, had⟩ := hadd
              have NEWS3 := Lib.hid news3
              clear news3
              by_cases hcz : cap - (j + 1) = 0
              · rw [if_pos hcz] at had
                subst had
                have hcz2 : cap = j + 1 := by omega
                have hl1 : 0 + j = j := by omega
                have hl2 : (rowsP (L.drop (j + 1))).length = (n - (j + 1)) * 4 := by rw [rowsP_len, List.length_drop, HN.out]
                have HL2 := Lib.hid hl2
                clear hl2
                go_wp2_with (at_builtin; refine wpList_appendM rfl _ _ 52 rfl w.heap.size 36 (.agg #[.int .i64 0, .int .i64 0, .int .i64 0, .string ⟨#[]⟩]) 4 40 Try.underlying52 info_pkt rfl (by decide) v1 (0 + j) _ rfl OWN1.out ⟨g, 0, none⟩ (n - (j + 1)) _ (rowsP (L.drop (j + 1))) rfl HL2.out NEWS3.out rowsP_one (by unfold maxLen; omega) (by omega) (by omega) ?_; intro v2 wE own2 grow2 at2; obtain ⟨a2, p2, rfl, -, -⟩ := own_formM own2; have hE9 := H4.out.later (S := fun g => v1.ownBlock = some g) grow2 (by intro g1 h1 h2; have := HLT.out g1 h1; have := (OWN1.out.lt g1 h2).1; omega); have HE9 := Lib.hid hE9; have z9 := HE9.out.blk.fz 9; have y9 := HE9.out.blk.cell 9; simp at y9; clear hE9)
                go_ret
                have mE : Mod (fun _ => False) w wE := ⟨grow2.os.trans (((m0.trans mC (by simp)).trans mD (by simp)).os), grow2.tape.trans (((m0.trans mC (by simp)).trans mD (by simp)).tape), grow2.output.trans (((m0.trans mC (by simp)).trans mD (by simp)).output), Nat.le_trans (((m0.trans mC (by simp)).trans mD (by simp)).size) grow2.size, fun i hi _ => (grow2.block i (by have := ((m0.trans mC (by simp)).trans mD (by simp)).size; omega) (fun h2 => by have := (OWN1.out.lt i h2).1; omega)).trans (((m0.trans mC (by simp)).trans mD (by simp)).block i hi (by simp))⟩
                have hlow : ∀ q, (Value.slice a2 (0 + j + (n - (j + 1))) p2).ownBlock = some q → w.heap.size ≤ q := fun q hq => (own2.lt q hq).1
                have hlen : (rtook L src node).length = 0 + j + (n - (j + 1)) := by rw [HRA.out, List.length_append, List.length_take, List.length_drop, HN.out]; omega
                have hrow : wE.ownsRow 0 36 4 (.slice a2 (0 + j + (n - (j + 1))) p2) (rtook L src node).length (rowsP (rtook L src node)) := by
                  rw [hlen]
                  have e : rowsP (rtook L src node) = [] ++ rowsP (L.take j) ++ rowsP (L.drop (j + 1)) := by rw [HRA.out, rowsP_app]; rfl
                  rw [e]
                  exact own_base own2 (Nat.zero_le _)
                rw [Nat.zero_add] at hrow hlow
                refine ⟨by rw [HV2.out]; rfl, Or.inr ⟨HV2.out, (mE.mono (fun i hi e => e.elim)).setCell (p := ⟨b, 9, none⟩) (Or.inl (Or.inl rfl)) _, _, H0.out.put9 mE hrow hlow (by rw [hlen]; omega), fun q hq => ?_⟩⟩
                rcases hq with hq | hq | hq
                · exact Or.inl (Or.inl hq)
                · exact Or.inl (Or.inr (Or.inl hq))
                · exact Or.inr (hlow q hq)
              · rw [if_neg hcz] at had
                subst had
                have hl1 : 0 + j = j := by omega
                have hl2 : (rowsP (L.drop (j + 1))).length = (n - (j + 1)) * 4 := by rw [rowsP_len, List.length_drop, HN.out]
                have HL2 := Lib.hid hl2
                clear hl2
                go_wp2_with (at_builtin; refine wpList_appendM rfl _ _ 52 rfl w.heap.size 36 (.agg #[.int .i64 0, .int .i64 0, .int .i64 0, .string ⟨#[]⟩]) 4 40 Try.underlying52 info_pkt rfl (by decide) v1 (0 + j) _ rfl OWN1.out ⟨g, (j + 1) * 4, none⟩ (n - (j + 1)) _ (rowsP (L.drop (j + 1))) rfl HL2.out NEWS3.out rowsP_one (by unfold maxLen; omega) (by omega) (by omega) ?_; intro v2 wE own2 grow2 at2; obtain ⟨a2, p2, rfl, -, -⟩ := own_formM own2; have hE9 := H4.out.later (S := fun g => v1.ownBlock = some g) grow2 (by intro g1 h1 h2; have := HLT.out g1 h1; have := (OWN1.out.lt g1 h2).1; omega); have HE9 := Lib.hid hE9; have z9 := HE9.out.blk.fz 9; have y9 := HE9.out.blk.cell 9; simp at y9; clear hE9)
                go_ret
                have mE : Mod (fun _ => False) w wE := ⟨grow2.os.trans (((m0.trans mC (by simp)).trans mD (by simp)).os), grow2.tape.trans (((m0.trans mC (by simp)).trans mD (by simp)).tape), grow2.output.trans (((m0.trans mC (by simp)).trans mD (by simp)).output), Nat.le_trans (((m0.trans mC (by simp)).trans mD (by simp)).size) grow2.size, fun i hi _ => (grow2.block i (by have := ((m0.trans mC (by simp)).trans mD (by simp)).size; omega) (fun h2 => by have := (OWN1.out.lt i h2).1; omega)).trans (((m0.trans mC (by simp)).trans mD (by simp)).block i hi (by simp))⟩
                have hlow : ∀ q, (Value.slice a2 (0 + j + (n - (j + 1))) p2).ownBlock = some q → w.heap.size ≤ q := fun q hq => (own2.lt q hq).1
                have hlen : (rtook L src node).length = 0 + j + (n - (j + 1)) := by rw [HRA.out, List.length_append, List.length_take, List.length_drop, HN.out]; omega
                have hrow : wE.ownsRow 0 36 4 (.slice a2 (0 + j + (n - (j + 1))) p2) (rtook L src node).length (rowsP (rtook L src node)) := by
                  rw [hlen]
                  have e : rowsP (rtook L src node) = [] ++ rowsP (L.take j) ++ rowsP (L.drop (j + 1)) := by rw [HRA.out, rowsP_app]; rfl
                  rw [e]
                  exact own_base own2 (Nat.zero_le _)
                rw [Nat.zero_add] at hrow hlow
                refine ⟨by rw [HV2.out]; rfl, Or.inr ⟨HV2.out, (mE.mono (fun i hi e => e.elim)).setCell (p := ⟨b, 9, none⟩) (Or.inl (Or.inl rfl)) _, _, H0.out.put9 mE hrow hlow (by rw [hlen]; omega), fun q hq => ?_⟩⟩
                rcases hq with hq | hq | hq
                · exact Or.inl (Or.inl hq)
                · exact Or.inl (Or.inr (Or.inl hq))
                · exact Or.inr (hlow q hq)
            · have hv : E = 13 := by
                rw [HV.out, if_neg]
                rintro ⟨h1, h2⟩
                rw [HQA.out] at h2
                exact hok ⟨h1, by simpa using h2⟩
              have HV2 := Lib.hid hv
              clear hv
              go_cut [68] (fun z w' => z = .bool true ∧ Drw w1 w')
              case first => as_aux_lemma =>
                by_cases h1 : dst = node
                · have q1 : (dst != node) = false := by simp [h1]
                  have h2 : ¬ p.2.2.toList = d.toList := fun e => hok ⟨h1, list_inj e⟩
                  have h3 : ¬ d.toList = p.2.2.toList := fun e => h2 e.symm
                  clear h1 hok
                  go_quiet (fail)
                  all_goals go_wp2_with fail
                  all_goals go_meet
                  all_goals exact ⟨by simp [h2, h3], hd2.trans (Drw.drewN _ _)⟩
                · have q1 : (dst != node) = true := by simp [h1]
                  clear h1 hok
                  go_quiet (fail)
                  all_goals go_wp2_with fail
                  all_goals go_meet
                  all_goals exact ⟨by simp, hd2.trans (Drw.drewN _ _)⟩
              case rest =>
              obtain ⟨rfl, hd3⟩ := hcut
              have mf := m0.trans (hd3.mod (fun _ => False)) (fun i hi e => e)
              clear hok
              go_wp2
              go_ret
              exact ⟨by rw [HV2.out]; rfl, Or.inl ⟨by rw [HV2.out]; decide, mf⟩⟩
          · have HM := Lib.hid hm
            go_cut [51] (fun z w' => z = .bool true ∧ Drw w1 w')
            case first => as_aux_lemma =>
              by_cases hps : p.1 = src
              · have q1 : (p.1 != src) = false := by simp [hps]
                have q2 : (p.2.1 != node) = true := by simp; exact fun e => hm ⟨hps, e⟩
                clear hps hm
                go_quiet (fail)
                all_goals go_wp2_with fail
                all_goals go_meet
                all_goals exact ⟨by simp [q1, q2], hd.trans (Drw.drewN _ _)⟩
              · have q1 : (p.1 != src) = true := by simp [hps]
                clear hps hm
                go_quiet (fail)
                all_goals go_wp2_with fail
                all_goals go_meet
                all_goals exact ⟨by simp [q1], hd.trans (Drw.drewN _ _)⟩
            case rest =>
            obtain ⟨rfl, hd2⟩ := hcut
            clear hm
            go_wp2
            go_roundw
            case rel => exact ⟨j + 1, by omega, by go_num, hd2, by rw [HST.out, if_neg HM.out]⟩
            case measure => simp [intOf]; omega
        · have hjn : j = n := by omega
          subst hjn
          have hq : qOf L src node = [] := by
            have := HQ0.out
            rw [List.take_of_length_le (by have := HN.out; omega)] at this
            exact this
          have hv : E = 13 := by rw [HV.out, if_neg]; rintro ⟨-, h⟩; rw [hq] at h; simp at h
          have HV2 := Lib.hid hv
          clear hv hq
          have mf := m0.trans (hd.mod (fun _ => False)) (fun i hi e => e)
          go_wp2
          go_ret
          exact ⟨by rw [HV2.out]; rfl, Or.inl ⟨by rw [HV2.out]; decide, mf⟩⟩

end

set_option maxRecDepth 100000 in
set_option maxHeartbeats 3200000 in
theorem run_ROpen (c : Cfg) (w : World) (hc : c.Ok) :
    Calls Try.prog 22 #[.agg c.cells] w fun e w' => ∃ b bc, e = .returned (.tuple #[.pointer (some ⟨b, 0, none⟩), .int .i64 0]) ∧ Mod (fun _ => False) w w' ∧
      RefIn w' b bc (.slice none 0 0) c 0 [] (List.replicate c.nodes.toNat false) ∧ w.heap.size ≤ b ∧ w.heap.size ≤ bc := by
  have kb := Blk.made w c.cells 25
  have m0 : Mod (fun _ => False) w (w.alloc (.cells c.cells 25)) := (Mod.refl _ _).alloc _
  have HC := Lib.hid hc
  have h0 : c.chk = 0 := c.chk_iff.2 hc
  have HZ := Lib.hid h0
  simp only [Cfg.cells] at kb m0 ⊢
  clear hc h0
  obtain ⟨N, hN⟩ : ∃ N : Nat, c.nodes = (N : Int) := ⟨c.nodes.toNat, by have := c.nodes_bd; omega⟩
  have HNN := Lib.hid hN
  have HTN := Lib.hid (show c.nodes.toNat = N by omega)
  rw [HTN.out]
  clear hN
  go_enter Try.func22, Try.ntmps22
  go_wp2_with fail
  refine (ref_Check c _).mono ?_
  rw [HZ.out]
  rintro e w1 ⟨rfl, m1⟩
  have k1 := kb.later m1 (by simp)
  have mm1 := m0.trans m1 (by simp)
  clear kb m0 m1
  go_upto_region 4 with fail
  have k2 := k1.drew
  have mm2 := mm1.drew
  have hlt := k1.lt
  go_region_held3 (fun w' => w'.cell? ⟨w.heap.size, 0, none⟩ = some (Value.int .i64 c.W) ∧ w'.cell? ⟨w.heap.size, 1, none⟩ = some (Value.int .i64 c.H) ∧ w'.cell? ⟨w.heap.size, 2, none⟩ = some (Value.int .i64 c.Lanes) ∧ w'.cell? ⟨w.heap.size, 3, none⟩ = some (Value.int .i64 c.Depth) ∧ w'.cell? ⟨w.heap.size, 4, none⟩ = some (Value.int .i64 c.Ring) ∧ w'.cell? ⟨w.heap.size, 5, none⟩ = some (Value.int .i64 c.Inbox) ∧ w'.cell? ⟨w.heap.size, 6, none⟩ = some (Value.int .i64 c.Bound) ∧ w'.cell? ⟨w.heap.size, 7, none⟩ = some (Value.bool c.West) ∧ w'.cell? ⟨w.heap.size, 8, none⟩ = some (Value.bool c.Cast))
    (first
      | exact cfg_cells k8
      | exact cfg_cells k9
      | exact cfg_cells k2
      | go_keep)
    ((go_at_call 19; refine (ref_Nodes c _).mono ?_; rw [HNN.out]; rintro e w9 ⟨rfl, m9⟩; have k9 := k2.later m9 (by simp); have mm9 := mm2.trans m9 (by simp); obtain ⟨w8, hr8, f8, m8⟩ := run_made_c N HNN.out w9; have k8 := k9.later m8 (by simp); have mm8 := mm9.trans m8 (by simp)))
  go_wp2_with fail
  go_ret2
  have s9 := f8.lt
  have sw := mm9.size
  have hrep : ((List.replicate N false).map Value.bool).toArray = Array.replicate N (Value.bool false) := by simp
  have hlr : (List.replicate N false).length = N := by simp
  have hb8 := Blk.made w8 #[.int .i64 c.W, .int .i64 c.H, .int .i64 c.Lanes, .int .i64 c.Depth, .int .i64 c.Ring, .int .i64 c.Inbox, .int .i64 c.Bound, .bool c.West, .bool c.Cast, .slice none 0 0, .slice (some ⟨w9.heap.size, 0, none⟩) N N] 59
  refine ⟨w8.heap.size, w9.heap.size, rfl, mm8.alloc _, ⟨by rw [hlr]; exact hb8, World.ownsRow_nil _ _ _ _, by rw [hrep]; exact f8.alloc _, by rw [hlr, HNN.out], by omega, (fun g hg => by cases hg), by simp⟩, by omega, by omega⟩

end Go.Proofs.Ytonnooenebfbeaa
