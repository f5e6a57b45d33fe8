/- QueueFolds: the main walk. -/
import Derived.Test.YthknfikjanoflaaQFH
set_option linter.unusedVariables false
set_option linter.unusedSimpArgs false
namespace Go.Proofs.Ythknfikjanoflaa
open Go.RowKit

/-- Is data j a push that counts, with an id? -/
def hadAt (log : List ByteArray) (id : Int) (j : Nat) : Bool := match log[j]? with
  | some d => (PE d).isSome && (evP d).push && (((evP d).id : Int) == id) && countsF log j
  | none => false
theorem had_at {log : List ByteArray} (id : Int) : ∀ k, k ≤ log.length → hadF (runQ qst0 (log.take k)) id = (List.range k).any (hadAt log id)
  | 0, _ => rfl
  | k + 1, hk => by
    have ih := had_at (log := log) id k (by omega)
    obtain ⟨d, hd⟩ : ∃ d, log[k]? = some d := ⟨_, List.getElem?_eq_getElem (by omega)⟩
    have hc := counts_new hd
    rw [List.range_succ, List.any_append, ← ih, take_snoc hd, runQ_snoc]
    simp only [List.any_cons, List.any_nil, Bool.or_false]
    unfold hadAt
    rw [hd]
    simp only
    obtain ⟨st, hst⟩ : ∃ st, st = runQ qst0 (log.take k) := ⟨_, rfl⟩
    rw [← hst] at hc ⊢
    unfold addQ at hc ⊢
    unfold evP
    cases hp : PE d with
    | none =>
      rw [show parseQ (sB d) = none from hp]
      simp [hadF]
    | some e =>
      rw [show parseQ (sB d) = some e from hp] at hc ⊢
      simp only [Option.isSome_some, Option.getD_some, Bool.true_and] at hc ⊢
      cases hpu : e.push with
      | true =>
        rw [hpu] at hc
        simp only [if_true, Bool.true_and] at hc ⊢
        unfold pushQ at hc ⊢
        by_cases hh : hadF { st with many := st.many + 1 } (e.id : Int) = true
        · rw [if_pos hh] at hc ⊢
          rw [hc]
          simp [hadF]
        · rw [if_neg hh] at hc ⊢
          rw [hc]
          unfold hadF
          simp only [getA_put]
          by_cases h : id = (e.id : Int)
          · simp [h]
          · rw [if_neg h]
            have : ((e.id : Int) == id) = false := by simpa using fun h2 => h h2.symm
            rw [this]
            simp
      | false =>
        rw [hpu] at hc
        simp only [Bool.false_eq_true, if_false, Bool.false_and, Bool.or_false] at hc ⊢
        unfold popQ
        split
        · rfl
        · split <;> rfl
theorem itemAt_ev {log : List ByteArray} {k : Nat} {d : ByteArray} (hd : log[k]? = some d) {p : Bool} {n : Nat} {s : ByteArray} (hp : evP d = ⟨p, n, s⟩) : itemAt log k = s := by
  unfold itemAt evAt
  rw [hd]
  unfold evP at hp
  simp only
  cases h : PE d with
  | none => rw [h] at hp; simp only [Option.getD_none] at hp; cases hp; rfl
  | some e => rw [h] at hp; simp only [Option.getD_some] at hp; rw [hp]
theorem takesN_at (log : List ByteArray) : ∀ {n k : Nat}, k < n → (takesN log n)[k]? = some (gotF log (takesN log k) k)
  | 0, k, h => by omega
  | n + 1, k, h => by
    rw [takesN_succ]
    by_cases hk : k < n
    · rw [List.getElem?_append_left (by rw [takesN_len]; exact hk)]
      exact takesN_at log hk
    · obtain rfl : k = n := by omega
      rw [List.getElem?_append_right (by rw [takesN_len]; exact Nat.le_refl _), takesN_len, Nat.sub_self]
      rfl
/-- A pop that counts: its event. -/
theorem pe_of_counts {log : List ByteArray} {k : Nat} {d : ByteArray} (hd : log[k]? = some d) (hc : countsF log k = true) : PE d = some (evP d) := by
  unfold countsF at hc
  rw [hd] at hc
  simp only at hc
  unfold evP
  cases h : PE d with
  | none => rw [h] at hc; cases hc
  | some e => rfl
theorem gotF_ge (log : List ByteArray) (outs : List Int) (k : Nat) : gotF log outs k = -1 ∨ ∃ j : Nat, j < k ∧ gotF log outs k = (j : Int) := by
  have := gotF_lt log outs k
  unfold gotF at this ⊢
  split
  · split
    · rename_i j hj
      have := List.mem_of_find?_eq_some hj
      rw [List.mem_range] at this
      exact .inr ⟨j, this, rfl⟩
    · exact .inl rfl
  · exact .inl rfl
theorem gotV_form (st : QSt) (id : Int) : ∃ (s : ByteArray) (o i : Bool), gotV st id = .tuple #[.string s, .bool o, .bool i] := by
  unfold gotV
  split
  · exact ⟨_, _, _, rfl⟩
  · exact ⟨_, _, _, rfl⟩
theorem runQ_bdF (log : List ByteArray) (h : log.length ≤ 24) : (runQ qst0 log).l.length ≤ 4194304 ∧ (runQ qst0 log).many < 4194304 := by
  have h1 := runQ_len log qst0
  have h2 : qst0.l.length = 0 := rfl
  have h3 : qst0.many = 0 := rfl
  rw [h2, h3] at h1
  exact ⟨by omega, by omega⟩
theorem take_24F {log : List ByteArray} (k : Nat) (h : log.length ≤ 24) : (log.take k).length ≤ 24 := by rw [List.length_take]; omega
/-- What is there, and its items, behind a log. -/
theorem fold_rows (log : List ByteArray) : ∃ (ts : List Int) (is : List ByteArray) (n2 : Nat), ts = (thereN log log.length).map (fun j : Nat => (j : Int)) ∧ is = itemsF (runQ qst0 log) ∧ (runQ qst0 log).l.length = n2 ∧ ts.length = n2 ∧ is.length = n2 ∧
    (∀ i, i < n2 → ∃ kk : Nat, ts[i]? = some (kk : Int) ∧ kk < log.length ∧ is[i]? = some (itemAt log kk)) ∧ (n2 = 0 → leastF (runQ qst0 log) = log.length) ∧ (0 < n2 → ts[0]? = some ((leastF (runQ qst0 log) : Nat) : Int)) := by
  have h := fold_at (log := log) log.length (Nat.le_refl _)
  rw [List.take_length] at h
  obtain ⟨st, hst⟩ : ∃ st, st = runQ qst0 log := ⟨_, rfl⟩
  rw [← hst] at h ⊢
  refine ⟨_, _, st.l.length, rfl, rfl, rfl, by rw [← h.l]; simp, by simp [itemsF], fun i hi => ?_, fun h0 => ?_, fun h0 => ?_⟩
  · obtain ⟨x, hx⟩ : ∃ x, st.l[i]? = some x := ⟨_, List.getElem?_eq_getElem hi⟩
    refine ⟨x.2, ?_, ?_, ?_⟩
    · rw [← h.l, List.map_map, List.getElem?_map, hx]; rfl
    · have : x.2 ∈ thereN log log.length := by rw [← h.l]; exact List.mem_map_of_mem (List.mem_of_getElem? hx)
      unfold thereN at this
      exact List.mem_range.1 (List.mem_filter.1 this).1
    · unfold itemsF
      rw [List.getElem?_map, hx, ← h.it x (List.mem_of_getElem? hx)]
      rfl
  · have : st.l = [] := List.eq_nil_of_length_eq_zero h0
    unfold leastF
    rw [this]
    exact h.many
  · rw [← h.l]
    unfold leastF
    cases hl : st.l with
    | nil => rw [hl] at h0; simp at h0
    | cons x l => simp
theorem wrap_upF {i n : Nat} (h : i < n) (hn : n ≤ 4194304) : wrap64 ((i : Int) + 1) = (i : Int) + 1 := IntWalk.wrap64_in _ (by omega)
theorem meas_upF {i n : Nat} (h : i < n) : n - (intOf (.int .i64 ((i : Int) + 1))).toNat < n - (intOf (.int .i64 (i : Int))).toNat := by simp only [intOf]; omega
theorem had_new {log : List ByteArray} {id : Int} {k : Nat} {d : ByteArray} (hp : log[k]? = some d) {ep : Bool} {en : Nat} {es : ByteArray} (hev : evP d = ⟨ep, en, es⟩) {ck si ie hb : Bool} (hck : countsF log k = ck) (hsi : (PE d).isSome = si) (hie : ((en : Int) == id) = ie) (hhb : (List.range k).any (hadAt log id) = hb) :
    (List.range (k + 1)).any (hadAt log id) = (hb || (si && ep && ie && ck)) := by
  rw [List.range_succ, List.any_append, hhb]
  simp only [List.any_cons, List.any_nil, Bool.or_false]
  unfold hadAt
  rw [hp]
  simp only
  rw [hev, hsi, hck]
  simp only
  rw [hie]
/-- The last two loops. -/
def Fo2 (w6 : World) (n : Nat) (v : Value) (wi : World) : Prop := ∃ i : Nat, i ≤ n ∧ v = .int .i64 (i : Int) ∧ Below w6.heap.size w6 wi
def Fo3 (w6 : World) (log : List ByteArray) (id : Int) (vh v : Value) (wi : World) : Prop := ∃ k : Nat, k ≤ log.length ∧ v = .int .i64 (k : Int) ∧ vh = .bool ((List.range k).any (hadAt log id)) ∧ Below w6.heap.size w6 wi
/-- The first loop: what each data says, and each pop gets. -/
def Fo1 (w0 : World) (B q b1 b2 : Nat) (log : List ByteArray) (vt v : Value) (wi : World) : Prop := ∃ k : Nat, k ≤ log.length ∧ v = .int .i64 (k : Int) ∧ ORow 1 iO wi B vt (takesN log log.length) ∧ QX w0 wi q b1 b2 (runQ qst0 (log.take k)) (fun k => vt.ownBlock = some k)

set_option maxRecDepth 100000 in
set_option maxHeartbeats 8000000 in
theorem folds_main (a : Option Addr) (cap : Nat) (log : List ByteArray) (id : Int) (w : World) (ro : RowAt w a 1 oS log) (hd : ∀ d ∈ log, d.size ≤ 140737488351232) (hl : log.length ≤ 140737488351232) :
    Calls Try.prog 8 #[.slice a log.length cap, .int .i64 id] w fun e w' => e = .returned (.bool true) ∧ Below w.heap.size w w' := by
  have HN := Lib.hid (qnew_any w)
  have HRO := Lib.hid ro
  have HD := Lib.hid hd
  have HF := Lib.hid (fun w' (hb : Below w.heap.size w w') => fewq_any a cap log w' (ro.below hb) hl)
  clear ro hd
  go_enter Try.func8, Try.ntmps8
  go_wp2_with fail
  refine HN.out.mono ?_
  intro e w1 hpost
  obtain ⟨q, b1, b2, rfl, Q1⟩ := qnew_in (Ch.refl _ w) hpost
  have K1 := Lib.hid Q1
  clear HN hpost Q1
  go_wp2_with fail
  refine (HF.out w1 K1.out.ch.below).mono ?_
  rintro e w2 ⟨⟨b, rfl, hfew⟩, hb2⟩
  have K2 := Lib.hid (K1.out.below hb2)
  clear HF hb2 K1
  cases b
  · go_wp2_with fail
    refine (alive_any _).mono ?_
    rintro e w7 ⟨rfl, hb7⟩
    go_wp2_with fail
    go_ret
    exact ⟨rfl, (K2.out.ch.call hb7).below⟩
  · have h24 := hfew rfl
    have H24 := Lib.hid h24
    have HTK := Lib.hid (takes_any a cap log w2 (HRO.out.below K2.out.ch.below) h24 HD.out)
    clear hfew
    go_wp2_with fail
    refine HTK.out.mono ?_
    rintro e w3 ⟨vt, rfl, h1, h2⟩
    obtain ⟨a4, c4, e4, -, -⟩ := h1.slice
    rw [takesN_len] at e4
    subst e4
    have KX := Lib.hid (show QX w w3 q b1 b2 (runQ qst0 (log.take 0)) (fun k => (Value.slice a4 log.length c4).ownBlock = some k) from K2.out.toX h2.below (fun k hk => h1.own hk))
    have KR := Lib.hid h1
    clear h1 h2 HTK K2 h24
    go_wp2_with fail
    go_loopw [47] (fun v wi => Fo1 w w2.heap.size q b1 b2 log (.slice a4 log.length c4) v wi) (fun v _ => log.length - (intOf v).toNat)
    case atStart => exact ⟨0, Nat.zero_le _, rfl, KR.out, KX.out⟩
    case round =>
      obtain ⟨k, hk, rfl, h1, h2⟩ := hrel
      clear KR KX
      have KR := Lib.hid h1
      have KX := Lib.hid h2
      clear h1 h2
      by_cases hlt : k < log.length
      · have ht : decide ((k : Int) < (log.length : Int)) = true := by simpa using hlt
        have ht2 : decide (log.length ≤ k) = false := by simpa using hlt
        have hk2 : wrap64 ((k : Int) + 1) = (k : Int) + 1 := IntWalk.wrap64_in _ (by omega)
        obtain ⟨d, hp⟩ : ∃ x, log[k]? = some x := ⟨_, List.getElem?_eq_getElem hlt⟩
        obtain ⟨⟨ep, en, es⟩, hev⟩ : ∃ e, evP d = e := ⟨_, rfl⟩
        have HPX := Lib.hid (rparse_ev d wr (HD.out d (List.mem_of_getElem? hp)) hev)
        have HPU := Lib.hid (pushAt_ev hp hev)
        have HP := Lib.hid hp
        have HEV := Lib.hid hev
        obtain ⟨b0, off, ea, hb0, hcells⟩ := HRO.out k d hp
        have q0 : wr.cell? ⟨b0, off + k, none⟩ = some (.string d) := by
          have := (KX.out.toIn.ch.below.cell (p := ⟨b0, _, none⟩) hb0).trans (hcells 0 _ rfl)
          simpa using this
        have HEA := Lib.hid ea
        obtain ⟨ck, hck⟩ : ∃ c, countsF log k = c := ⟨_, rfl⟩
        have HCK := Lib.hid hck
        have HADD := Lib.hid (show addQ (runQ qst0 (log.take k)) (sB d) = (runQ qst0 (log.take (k + 1)), ck) by rw [take_snoc hp, runQ_snoc, ← hck, counts_new hp])
        rw [ea]
        clear hp hev hcells ea hck
        go_wp2_with fail
        refine HPX.out.mono ?_
        rintro e w6 ⟨rfl, hb6⟩
        have C6 := hb6.alloc hb6.size (.cells #[.bool ep, .int .i64 (en : Nat), .string es] 27)
        have KX6 := Lib.hid (KX.out.more (Y := fun k => (Value.slice a4 log.length c4).ownBlock = some k ∨ k = w6.heap.size) C6 (fun k hk => hk.imp (fun h => h) (fun h => by subst h; exact ⟨hb6.size, by simp⟩)))
        have KR6 := Lib.hid (KR.out.below C6)
        have KE6 := Lib.hid (Blk.new w6 #[.bool ep, .int .i64 (en : Nat), .string es] 27)
        have HCN := counts_any a cap log k (w6.alloc (.cells #[.bool ep, .int .i64 (en : Nat), .string es] 27)) (HRO.out.below KX6.out.toIn.ch.below) HD.out hlt (by omega)
        rw [HEA.out, HCK.out] at HCN
        have HCN := Lib.hid HCN
        clear C6 hb6 q0 HPX KX KR
        go_wp2_with fail
        refine HCN.out.mono ?_
        rintro e w7 ⟨rfl, hb7⟩
        have KX7 := Lib.hid (KX6.out.below hb7)
        have KR7 := Lib.hid (KR6.out.below hb7)
        have KE7 := Lib.hid (KE6.out.below hb7)
        have hbd := runQ_bdF (log.take k) (take_24F k H24.out)
        have HA := Lib.hid (KX7.out.add d (HD.out d (List.mem_of_getElem? HP.out)) hbd.1 hbd.2 HADD.out)
        clear KX6 KR6 KE6 hb7 HCN hbd
        go_wp2_with fail
        refine HA.out.mono ?_
        rintro e w8 ⟨rfl, KX8', C8⟩
        have KX8 := Lib.hid KX8'
        have KR8 := Lib.hid (KR7.out.ch C8 (fun g e h => h (.inl e)))
        have KE8 := Lib.hid (KE7.out.ch C8 (fun h => h (.inr rfl)))
        obtain ⟨z1, z2⟩ := KE8.out.cells
        have HG := KX8.out.toIn.got (en : Int)
        clear KX7 KR7 KE7 KX8' C8 HA
        cases hck : ck with
        | false =>
          obtain ⟨gs, go, gi, hgv⟩ := gotV_form (runQ qst0 (log.take (k + 1))) (en : Int)
          rw [hgv] at HG
          have HG := Lib.hid HG
          clear hgv
          subst hck
          go_wp2_with fail
          refine HG.out.mono ?_
          rintro e w9 ⟨rfl, hb9⟩
          have KX9 := Lib.hid (KX8.out.more (Y := fun k => (Value.slice a4 log.length c4).ownBlock = some k) hb9 (fun k hk => .inl (.inl hk)))
          have KR9 := Lib.hid (KR8.out.below hb9)
          obtain ⟨z3, z4⟩ := (KE8.out.below hb9).cells
          clear hb9 HG KX8 KR8 KE8 z1 z2
          go_wp2_with fail
          go_roundw
          case rel => exact ⟨k + 1, hlt, by simp, KR9.out, KX9.out⟩
          case measure => simp only [intOf]; omega
        | true =>
          cases hep : ep with
          | true =>
            obtain ⟨gs, go, gi, hgv⟩ := gotV_form (runQ qst0 (log.take (k + 1))) (en : Int)
            rw [hgv] at HG
            have HG := Lib.hid HG
            clear hgv
            subst hck
            subst hep
            go_wp2_with fail
            refine HG.out.mono ?_
            rintro e w9 ⟨rfl, hb9⟩
            have KX9 := Lib.hid (KX8.out.more (Y := fun k => (Value.slice a4 log.length c4).ownBlock = some k) hb9 (fun k hk => .inl (.inl hk)))
            have KR9 := Lib.hid (KR8.out.below hb9)
            obtain ⟨z3, z4⟩ := (KE8.out.below hb9).cells
            clear hb9 HG KX8 KR8 KE8 z1 z2
            go_wp2_with fail
            go_roundw
            case rel => exact ⟨k + 1, hlt, by simp, KR9.out, KX9.out⟩
            case measure => simp only [intOf]; omega
          | false =>
            subst hck
            subst hep
            have hpe := pe_of_counts HP.out HCK.out
            rw [HEV.out] at hpe
            have hfg := fold_got HP.out hpe rfl HCK.out
            have htk := takesN_at log hlt
            simp only at hfg
            rw [hfg] at HG
            rcases gotF_ge log (takesN log k) k with hgf | ⟨j, hj, hgf⟩
            · rw [hgf] at HG htk
              have HG := Lib.hid (show Calls _ _ _ _ fun e w' => e = .returned (.tuple #[.string ⟨#[]⟩, .bool false, .bool true]) ∧ Below w8.heap.size w8 w' from HG)
              have HTK := Lib.hid htk
              clear hpe hfg htk hgf
              go_wp2_with fail
              refine HG.out.mono ?_
              rintro e w9 ⟨rfl, hb9⟩
              have KX9 := Lib.hid (KX8.out.more (Y := fun k => (Value.slice a4 log.length c4).ownBlock = some k) hb9 (fun k hk => .inl (.inl hk)))
              have KR9 := Lib.hid (KR8.out.below hb9)
              obtain ⟨z3, z4⟩ := (KE8.out.below hb9).cells
              obtain ⟨g, o1, c1, e1, hat⟩ := KR9.out.at iO_len HTK.out
              rw [takesN_len] at e1
              obtain ⟨rfl, rfl⟩ : a4 = some ⟨g, o1, none⟩ ∧ c4 = c1 := by cases e1; exact ⟨rfl, rfl⟩
              have y1 : w9.cell? ⟨g, o1 + k, none⟩ = some (.int .i64 (-1)) := by simpa using hat 0 _ rfl
              clear hb9 HG KX8 KR8 KE8 z1 z2 hat e1
              go_wp2_with fail
              go_roundw
              case rel => exact ⟨k + 1, hlt, by simp, KR9.out, KX9.out⟩
              case measure => simp only [intOf]; omega
            · rw [hgf] at HG htk
              have HG := Lib.hid (show Calls _ _ _ _ fun e w' => e = .returned (.tuple #[.string (itemAt log j), .bool true, .bool true]) ∧ Below w8.heap.size w8 w' from by rw [if_neg (show ¬ ((j : Nat) : Int) < 0 by omega), Int.toNat_natCast] at HG; exact HG)
              have HTK := Lib.hid htk
              obtain ⟨y, hy⟩ : ∃ x, log[j]? = some x := ⟨_, List.getElem?_eq_getElem (by omega)⟩
              obtain ⟨⟨fp, fn, fs⟩, hfv⟩ : ∃ e, evP y = e := ⟨_, rfl⟩
              rw [itemAt_ev hy hfv] at HG
              have HPY := Lib.hid (fun wj => rparse_ev y wj (HD.out y (List.mem_of_getElem? hy)) hfv)
              have HHY := Lib.hid (HRO.out j y hy)
              clear hpe hfg htk hgf hy hfv
              go_wp2_with fail
              refine HG.out.mono ?_
              rintro e w9 ⟨rfl, hb9⟩
              have KX9 := Lib.hid (KX8.out.more (Y := fun k => (Value.slice a4 log.length c4).ownBlock = some k) hb9 (fun k hk => .inl (.inl hk)))
              have KR9 := Lib.hid (KR8.out.below hb9)
              obtain ⟨z3, z4⟩ := (KE8.out.below hb9).cells
              obtain ⟨g, o1, c1, e1, hat⟩ := KR9.out.at iO_len HTK.out
              rw [takesN_len] at e1
              obtain ⟨rfl, rfl⟩ : a4 = some ⟨g, o1, none⟩ ∧ c4 = c1 := by cases e1; exact ⟨rfl, rfl⟩
              have y1 : w9.cell? ⟨g, o1 + k, none⟩ = some (.int .i64 (j : Int)) := by simpa using hat 0 _ rfl
              obtain ⟨b1', o2, e2, hb1, hcells⟩ := HHY.out
              obtain ⟨rfl, rfl⟩ : b1' = b0 ∧ o2 = off := by have := e2.symm.trans HEA.out; cases this; exact ⟨rfl, rfl⟩
              have q1 : w9.cell? ⟨b1', o2 + j, none⟩ = some (.string y) := by
                have := (KX9.out.toIn.ch.below.cell (p := ⟨b1', _, none⟩) hb1).trans (hcells 0 _ rfl)
                simpa using this
              have t0 : decide ((0 : Int) ≤ (j : Int)) = true := by simp
              have t3 : decide (log.length ≤ j) = false := by simp; omega
              clear hb9 HG KX8 KR8 KE8 z1 z2 hat e1 e2 hcells hb1
              go_wp2_with fail
              refine (HPY.out _).mono ?_
              rintro e w10 ⟨rfl, hb10⟩
              have C10 := hb10.alloc hb10.size (.cells #[.bool fp, .int .i64 (fn : Nat), .string fs] 27)
              have KX10 := Lib.hid (KX9.out.below C10)
              have KR10 := Lib.hid (KR9.out.below C10)
              obtain ⟨z5, z6⟩ := (Blk.new w10 #[.bool fp, .int .i64 (fn : Nat), .string fs] 27).cells
              clear C10 hb10 KX9 KR9 y1 q1 z3 z4
              go_wp2_with fail
              go_roundw
              case rel => exact ⟨k + 1, hlt, by simp, KR10.out, KX10.out⟩
              case measure => simp only [intOf]; omega
      · have ht : decide ((k : Int) < (log.length : Int)) = false := by simpa using hlt
        have hkl : k = log.length := by omega
        subst hkl
        rw [List.take_length] at KX
        clear hlt
        have HTH := Lib.hid (there_any a cap log wr (HRO.out.below KX.out.toIn.ch.below) H24.out HD.out)
        obtain ⟨ts, is, n2, hts, his, hl2, hl3, hl4, hat2, hl0, hl1⟩ := fold_rows log
        have HTS := Lib.hid hts
        have HIS := Lib.hid his
        have HN2 := Lib.hid hl2
        have HAT := Lib.hid hat2
        have HL0 := Lib.hid hl0
        have HL1 := Lib.hid hl1
        rw [← hts] at HTH
        clear hts his hat2 hl0 hl1 hl2
        have hbd := runQ_bdF log H24.out
        go_wp2_with fail
        refine HTH.out.mono ?_
        rintro e w4 ⟨vh, rfl, h1, h2⟩
        have KX4 := Lib.hid (KX.out.more (Y := fun k => vh.ownBlock = some k) h2.below (fun k hk => .inr (h1.own hk)))
        have KH4 := Lib.hid h1
        have HIT := Lib.hid (KX4.out.toIn.items hbd.1)
        clear h1 h2 HTH KX KR
        go_wp2_with fail
        refine HIT.out.mono ?_
        rintro e w5 ⟨vi, rfl, h1, h2⟩
        rw [← HIS.out] at h1
        have KX5 := Lib.hid (KX4.out.more (Y := fun k => vh.ownBlock = some k ∨ vi.ownBlock = some k) h2 (fun k hk => hk.imp (fun h => h) (fun h => h1.own h)))
        have KH5 := Lib.hid (KH4.out.below h2)
        have KI5 := Lib.hid h1
        obtain ⟨ah, ch, eh, -, -⟩ := KH4.out.slice
        obtain ⟨ai, ci, ei, -⟩ := h1.slice
        rw [hl3] at eh
        rw [hl4] at ei
        subst eh
        subst ei
        have HLN := Lib.hid (KX5.out.toIn.len)
        rw [HN2.out] at HLN
        clear h1 h2 HIT KX4 KH4
        go_wp2_with fail
        refine HLN.out.mono ?_
        rintro e w6 ⟨rfl, hb6⟩
        have KX6 := Lib.hid (KX5.out.below hb6)
        have KH6 := Lib.hid (KH5.out.below hb6)
        have KI6 := Lib.hid (KI5.out.ch (Ch.of_below (fun _ => False) hb6) (fun _ _ h => h))
        obtain ⟨lv, hlv⟩ : ∃ lv, leastF (runQ qst0 log) = lv := ⟨_, rfl⟩
        rw [hlv] at HL0 HL1
        have HLV := Lib.hid hlv
        clear hb6 HLN KX5 KH5 KI5 hlv
        have HN2B := Lib.hid (show n2 ≤ 4194304 by rw [← HN2.out]; exact hbd.1)
        clear hbd hk ht
        rcases Nat.eq_zero_or_pos n2 with hn0 | hn0
        · subst hn0
          obtain rfl : lv = log.length := HL0.out rfl
          go_wp2_with fail
          go_loopw [139] (fun v wi => Fo2 w6 0 v wi) (fun v _ => 0 - (intOf v).toNat)
          case atStart => exact ⟨0, Nat.zero_le _, rfl, Below.refl _ _⟩
          case round =>
            obtain ⟨i, hi, rfl, hbb⟩ := hrel
            have KBB := Lib.hid hbb
            clear hbb
            by_cases hlt : i < 0
            · skip
              exact absurd hlt (Nat.not_lt_zero i)
            · skip
              have ht : decide ((i : Int) < (0 : Int)) = false := by simp
              have htn : decide (i < 0) = false := by simp
              have KX7 := Lib.hid (KX6.out.below KBB.out)
              clear KX6 KH6 KI6 KBB hlt
              go_wp2_with fail
              clear HAT HL0 HL1 HTS HIS HN2 ht htn hi
              go_loopw [25, 162] (fun vh v wi => Fo3 wr log id vh v wi) (fun _ v _ => log.length - (intOf v).toNat)
              case atStart => exact ⟨0, Nat.zero_le _, rfl, rfl, Below.refl _ _⟩
              case round =>
                obtain ⟨k, hk3, rfl, hvh, hbb⟩ := hrel
                obtain ⟨hb, hhb⟩ : ∃ b, (List.range k).any (hadAt log id) = b := ⟨_, rfl⟩
                rw [hhb] at hvh
                subst hvh
                have KBB := Lib.hid hbb
                have HHB := Lib.hid hhb
                clear hbb hhb
                by_cases hlt : k < log.length
                · have ht : decide ((k : Int) < (log.length : Int)) = true := by simpa using hlt
                  have htn : decide (k < log.length) = true := by simpa using hlt
                  have ht2 : decide (log.length ≤ k) = false := by simpa using hlt
                  have hi2 : wrap64 ((k : Int) + 1) = (k : Int) + 1 := wrap_upF hlt (Nat.le_trans H24.out (by decide))
                  obtain ⟨d, hp⟩ : ∃ x, log[k]? = some x := ⟨_, List.getElem?_eq_getElem hlt⟩
                  obtain ⟨⟨ep, en, es⟩, hev⟩ : ∃ e, evP d = e := ⟨_, rfl⟩
                  have HPX := Lib.hid (rparse_ev d wr (HD.out d (List.mem_of_getElem? hp)) hev)
                  obtain ⟨ck, hck⟩ : ∃ c, countsF log k = c := ⟨_, rfl⟩
                  obtain ⟨si, hsi⟩ : ∃ c, (PE d).isSome = c := ⟨_, rfl⟩
                  obtain ⟨ie, hie⟩ : ∃ c, ((en : Int) == id) = c := ⟨_, rfl⟩
                  have HNEW := Lib.hid (had_new (id := id) hp hev hck hsi hie HHB.out)
                  obtain ⟨b0, off, ea, hb0, hcells⟩ := HRO.out k d hp
                  have q0 : wr.cell? ⟨b0, off + k, none⟩ = some (.string d) := by
                    have := ((KX7.out.below KBB.out).toIn.ch.below.cell (p := ⟨b0, _, none⟩) hb0).trans (hcells 0 _ rfl)
                    simpa using this
                  rw [hsi] at HPX
                  have HCN := Lib.hid (fun wj (hb : Below w.heap.size w wj) => counts_any a cap log k wj (HRO.out.below hb) HD.out hlt (Nat.le_trans H24.out (by decide)))
                  rw [hck] at HCN
                  have hid1 : decide ((en : Int) = id) = ie := by rw [← hie]; rfl
                  subst ea
                  clear hp hev hcells hck hsi
                  go_wp2_with fail
                  refine HPX.out.mono ?_
                  rintro e w10 ⟨rfl, hb10⟩
                  have C10 := hb10.alloc hb10.size (.cells #[.bool ep, .int .i64 (en : Nat), .string es] 27)
                  have KC3 := Lib.hid (KBB.out.trans (C10.mono KBB.out.size))
                  obtain ⟨z5, z6⟩ := (Blk.new w10 #[.bool ep, .int .i64 (en : Nat), .string es] 27).cells
                  clear C10 hb10 KBB q0 HPX hb0
                  cases hb with
                  | true =>
                    go_wp2_with fail
                    go_roundw
                    case rel => exact ⟨k + 1, hlt, by first | simp; done | (rw [hi2]; simp), by rw [HNEW.out]; rfl, KC3.out⟩
                    case measure => (try rw [hi2]); exact meas_upF hlt
                  | false =>
                    cases si with
                    | false =>
                      go_wp2_with fail
                      go_roundw
                      case rel => exact ⟨k + 1, hlt, by first | simp; done | (rw [hi2]; simp), by rw [HNEW.out]; rfl, KC3.out⟩
                      case measure => (try rw [hi2]); exact meas_upF hlt
                    | true =>
                      cases ep with
                      | false =>
                        go_wp2_with fail
                        go_roundw
                        case rel => exact ⟨k + 1, hlt, by first | simp; done | (rw [hi2]; simp), by rw [HNEW.out]; rfl, KC3.out⟩
                        case measure => (try rw [hi2]); exact meas_upF hlt
                      | true =>
                        cases ie with
                        | false =>
                          go_wp2_with fail
                          go_roundw
                          case rel => exact ⟨k + 1, hlt, by first | simp; done | (rw [hi2]; simp), by rw [HNEW.out]; rfl, KC3.out⟩
                          case measure => (try rw [hi2]); exact meas_upF hlt
                        | true =>
                          have KX8 := Lib.hid (KX7.out.below KC3.out)
                          have HCM := Lib.hid (HCN.out _ KX8.out.toIn.ch.below)
                          clear HCN
                          go_wp2_with fail
                          refine HCM.out.mono ?_
                          rintro e w11 ⟨rfl, hb11⟩
                          have KC3 := Lib.hid (KC3.out.trans (hb11.mono KC3.out.size))
                          clear hb11 HCM KX8 z5 z6
                          go_wp2_with fail
                          go_roundw
                          case rel => exact ⟨k + 1, hlt, by first | simp; done | (rw [hi2]; simp), by rw [HNEW.out]; rfl, KC3.out⟩
                          case measure => (try rw [hi2]); exact meas_upF hlt
                · have ht : decide ((k : Int) < (log.length : Int)) = false := by simpa using hlt
                  have htn : decide (k < log.length) = false := by simpa using hlt
                  have hkl : k = log.length := Nat.le_antisymm hk3 (Nat.le_of_not_lt hlt)
                  have KX8 := Lib.hid (KX7.out.below KBB.out)
                  have hhf := had_at (log := log) id log.length (Nat.le_refl _)
                  rw [List.take_length] at hhf
                  have HHF := Lib.hid (show hadF (runQ qst0 log) id = hb by rw [hhf, ← hkl]; exact HHB.out)
                  clear hlt KX7 KBB hkl hhf
                  go_wp2_with fail
                  refine (alive_any _).mono ?_
                  rintro e w12 ⟨rfl, hb12⟩
                  have KX9 := Lib.hid (KX8.out.below hb12)
                  have HLE := KX9.out.toIn.least
                  rw [HLV.out] at HLE
                  have HLE := Lib.hid HLE
                  clear hb12 KX8
                  go_wp2_with fail
                  refine HLE.out.mono ?_
                  rintro e w13 ⟨rfl, hb13⟩
                  have KX10 := Lib.hid (KX9.out.below hb13)
                  have HHA := KX10.out.toIn.had id
                  rw [HHF.out] at HHA
                  have HHA := Lib.hid HHA
                  clear hb13 KX9 HLE
                  go_wp2_with fail
                  refine HHA.out.mono ?_
                  rintro e w14 ⟨rfl, hb14⟩
                  have KX11 := Lib.hid (KX10.out.below hb14)
                  clear hb14 KX10 HHA
                  go_wp2_with fail
                  go_ret
                  exact ⟨by simp, KX11.out.toIn.ch.below⟩
        · have tp : decide ((0 : Int) < (n2 : Int)) = true := by simpa using hn0
          have tp0 : decide (n2 ≤ 0) = false := by simp; omega
          obtain ⟨g, o1, c1, e1, hat⟩ := KH6.out.at iO_len (HL1.out hn0)
          rw [hl3] at e1
          obtain ⟨rfl, rfl⟩ : ah = some ⟨g, o1, none⟩ ∧ ch = c1 := by cases e1; exact ⟨rfl, rfl⟩
          have y1 : w6.cell? ⟨g, o1, none⟩ = some (.int .i64 (lv : Int)) := by simpa using hat 0 _ rfl
          clear hat e1
          go_wp2_with fail
          clear y1 hn0 tp tp0
          go_loopw [139] (fun v wi => Fo2 w6 n2 v wi) (fun v _ => n2 - (intOf v).toNat)
          case atStart => exact ⟨0, Nat.zero_le _, rfl, Below.refl _ _⟩
          case round =>
            obtain ⟨i, hi, rfl, hbb⟩ := hrel
            have KBB := Lib.hid hbb
            clear hbb
            by_cases hlt : i < n2
            · skip
              have ht : decide ((i : Int) < (n2 : Int)) = true := by simpa using hlt
              have ht2 : decide (n2 ≤ i) = false := by simpa using hlt
              have hi2 : wrap64 ((i : Int) + 1) = (i : Int) + 1 := wrap_upF hlt HN2B.out
              obtain ⟨kk, k1, k2, k3⟩ := HAT.out i hlt
              have tk : decide (log.length ≤ kk) = false := by simpa using k2
              obtain ⟨y, hy⟩ : ∃ x, log[kk]? = some x := ⟨_, List.getElem?_eq_getElem k2⟩
              obtain ⟨⟨fp, fn, fs⟩, hfv⟩ : ∃ e, evP y = e := ⟨_, rfl⟩
              rw [itemAt_ev hy hfv] at k3
              have HPY := Lib.hid (fun wj => rparse_ev y wj (HD.out y (List.mem_of_getElem? hy)) hfv)
              obtain ⟨b0, off, ea, hb0, hcells⟩ := HRO.out kk y hy
              have q1 : wr.cell? ⟨b0, off + kk, none⟩ = some (.string y) := by
                have := ((KX6.out.below KBB.out).toIn.ch.below.cell (p := ⟨b0, _, none⟩) hb0).trans (hcells 0 _ rfl)
                simpa using this
              obtain ⟨g2, o2, c2, e2, hat⟩ := (KH6.out.below KBB.out).at iO_len k1
              rw [hl3] at e2
              obtain ⟨ea2, ec2⟩ : ((some ⟨g, o1, none⟩) : Option Addr) = some ⟨g2, o2, none⟩ ∧ ch = c2 := by cases e2; exact ⟨rfl, rfl⟩
              have y2 : wr.cell? ⟨g2, o2 + i, none⟩ = some (.int .i64 (kk : Int)) := by simpa using hat 0 _ rfl
              obtain ⟨g3, c3, e3, y3⟩ := (KI6.out.ch (Ch.of_below (fun _ => False) KBB.out) (fun _ _ h => h)).at k3
              rw [hl4] at e3
              obtain ⟨ea3, ec3⟩ : ai = some ⟨g3, 0, none⟩ ∧ ci = c3 := by cases e3; exact ⟨rfl, rfl⟩
              have KI7 := Lib.hid (fun (wj : World) (hb : Below w6.heap.size w6 wj) => (KI6.out.ch (Ch.of_below (fun _ => False) hb) (fun _ _ h => h)).at k3)
              clear k1 k3 hy hfv hcells hat e2 ec2 e3 ec3
              subst ea
              cases ea2
              subst ea3
              go_wp2_with fail
              refine (HPY.out _).mono ?_
              rintro e w10 ⟨rfl, hb10⟩
              have C10 := hb10.alloc hb10.size (.cells #[.bool fp, .int .i64 (fn : Nat), .string fs] 27)
              have KBC := Lib.hid (KBB.out.trans (C10.mono KBB.out.size))
              obtain ⟨z5, z6⟩ := (Blk.new w10 #[.bool fp, .int .i64 (fn : Nat), .string fs] 27).laterCells
              obtain ⟨g4, c4', e4, y4⟩ := KI7.out _ KBC.out
              rw [hl4] at e4
              obtain rfl : g4 = g3 := by cases e4; rfl
              have y5 := fun x : Later (w10.alloc (.cells #[.bool fp, .int .i64 (fn : Nat), .string fs] 27)) => (x.h.cell (p := ⟨g4, i, none⟩) (cell_spot y4).2).trans y4
              clear C10 hb10 KBB q1 y2 y3 y4 e4 KI7
              go_wp2_with fail
              refine wp_region_later (by kernel_rfl) (by kernel_rfl) ?_
              iterate 7 (go_big_quiet_step (fail))
              refine wpQuiet_nil ?_
              rintro _ ⟨yl, rfl⟩
              have KBD := Lib.hid (KBC.out.trans (yl.h.mono KBC.out.size))
              clear KBC z5 z6 y5
              generalize yl.w = wy at KBD ⊢
              clear yl HPY hb0 tk k2
              clear HAT HL0 HL1 HLV HTS HIS HN2
              go_wp2_with fail
              go_roundw
              case rel => exact ⟨i + 1, hlt, by first | simp; done | (rw [hi2]; simp), KBD.out⟩
              case measure => (try rw [hi2]); exact meas_upF hlt
            · skip
              have ht : decide ((i : Int) < (n2 : Int)) = false := by simpa using hlt
              have htn : decide (i < n2) = false := by simpa using hlt
              have KX7 := Lib.hid (KX6.out.below KBB.out)
              clear KX6 KH6 KI6 KBB hlt
              go_wp2_with fail
              clear HAT HL0 HL1 HTS HIS HN2 ht htn hi
              go_loopw [25, 162] (fun vh v wi => Fo3 wr log id vh v wi) (fun _ v _ => log.length - (intOf v).toNat)
              case atStart => exact ⟨0, Nat.zero_le _, rfl, rfl, Below.refl _ _⟩
              case round =>
                obtain ⟨k, hk3, rfl, hvh, hbb⟩ := hrel
                obtain ⟨hb, hhb⟩ : ∃ b, (List.range k).any (hadAt log id) = b := ⟨_, rfl⟩
                rw [hhb] at hvh
                subst hvh
                have KBB := Lib.hid hbb
                have HHB := Lib.hid hhb
                clear hbb hhb
                by_cases hlt : k < log.length
                · have ht : decide ((k : Int) < (log.length : Int)) = true := by simpa using hlt
                  have htn : decide (k < log.length) = true := by simpa using hlt
                  have ht2 : decide (log.length ≤ k) = false := by simpa using hlt
                  have hi2 : wrap64 ((k : Int) + 1) = (k : Int) + 1 := wrap_upF hlt (Nat.le_trans H24.out (by decide))
                  obtain ⟨d, hp⟩ : ∃ x, log[k]? = some x := ⟨_, List.getElem?_eq_getElem hlt⟩
                  obtain ⟨⟨ep, en, es⟩, hev⟩ : ∃ e, evP d = e := ⟨_, rfl⟩
                  have HPX := Lib.hid (rparse_ev d wr (HD.out d (List.mem_of_getElem? hp)) hev)
                  obtain ⟨ck, hck⟩ : ∃ c, countsF log k = c := ⟨_, rfl⟩
                  obtain ⟨si, hsi⟩ : ∃ c, (PE d).isSome = c := ⟨_, rfl⟩
                  obtain ⟨ie, hie⟩ : ∃ c, ((en : Int) == id) = c := ⟨_, rfl⟩
                  have HNEW := Lib.hid (had_new (id := id) hp hev hck hsi hie HHB.out)
                  obtain ⟨b0, off, ea, hb0, hcells⟩ := HRO.out k d hp
                  have q0 : wr.cell? ⟨b0, off + k, none⟩ = some (.string d) := by
                    have := ((KX7.out.below KBB.out).toIn.ch.below.cell (p := ⟨b0, _, none⟩) hb0).trans (hcells 0 _ rfl)
                    simpa using this
                  rw [hsi] at HPX
                  have HCN := Lib.hid (fun wj (hb : Below w.heap.size w wj) => counts_any a cap log k wj (HRO.out.below hb) HD.out hlt (Nat.le_trans H24.out (by decide)))
                  rw [hck] at HCN
                  have hid1 : decide ((en : Int) = id) = ie := by rw [← hie]; rfl
                  subst ea
                  clear hp hev hcells hck hsi
                  go_wp2_with fail
                  refine HPX.out.mono ?_
                  rintro e w10 ⟨rfl, hb10⟩
                  have C10 := hb10.alloc hb10.size (.cells #[.bool ep, .int .i64 (en : Nat), .string es] 27)
                  have KC3 := Lib.hid (KBB.out.trans (C10.mono KBB.out.size))
                  obtain ⟨z5, z6⟩ := (Blk.new w10 #[.bool ep, .int .i64 (en : Nat), .string es] 27).cells
                  clear C10 hb10 KBB q0 HPX hb0
                  cases hb with
                  | true =>
                    go_wp2_with fail
                    go_roundw
                    case rel => exact ⟨k + 1, hlt, by first | simp; done | (rw [hi2]; simp), by rw [HNEW.out]; rfl, KC3.out⟩
                    case measure => (try rw [hi2]); exact meas_upF hlt
                  | false =>
                    cases si with
                    | false =>
                      go_wp2_with fail
                      go_roundw
                      case rel => exact ⟨k + 1, hlt, by first | simp; done | (rw [hi2]; simp), by rw [HNEW.out]; rfl, KC3.out⟩
                      case measure => (try rw [hi2]); exact meas_upF hlt
                    | true =>
                      cases ep with
                      | false =>
                        go_wp2_with fail
                        go_roundw
                        case rel => exact ⟨k + 1, hlt, by first | simp; done | (rw [hi2]; simp), by rw [HNEW.out]; rfl, KC3.out⟩
                        case measure => (try rw [hi2]); exact meas_upF hlt
                      | true =>
                        cases ie with
                        | false =>
                          go_wp2_with fail
                          go_roundw
                          case rel => exact ⟨k + 1, hlt, by first | simp; done | (rw [hi2]; simp), by rw [HNEW.out]; rfl, KC3.out⟩
                          case measure => (try rw [hi2]); exact meas_upF hlt
                        | true =>
                          have KX8 := Lib.hid (KX7.out.below KC3.out)
                          have HCM := Lib.hid (HCN.out _ KX8.out.toIn.ch.below)
                          clear HCN
                          go_wp2_with fail
                          refine HCM.out.mono ?_
                          rintro e w11 ⟨rfl, hb11⟩
                          have KC3 := Lib.hid (KC3.out.trans (hb11.mono KC3.out.size))
                          clear hb11 HCM KX8 z5 z6
                          go_wp2_with fail
                          go_roundw
                          case rel => exact ⟨k + 1, hlt, by first | simp; done | (rw [hi2]; simp), by rw [HNEW.out]; rfl, KC3.out⟩
                          case measure => (try rw [hi2]); exact meas_upF hlt
                · have ht : decide ((k : Int) < (log.length : Int)) = false := by simpa using hlt
                  have htn : decide (k < log.length) = false := by simpa using hlt
                  have hkl : k = log.length := Nat.le_antisymm hk3 (Nat.le_of_not_lt hlt)
                  have KX8 := Lib.hid (KX7.out.below KBB.out)
                  have hhf := had_at (log := log) id log.length (Nat.le_refl _)
                  rw [List.take_length] at hhf
                  have HHF := Lib.hid (show hadF (runQ qst0 log) id = hb by rw [hhf, ← hkl]; exact HHB.out)
                  clear hlt KX7 KBB hkl hhf
                  go_wp2_with fail
                  refine (alive_any _).mono ?_
                  rintro e w12 ⟨rfl, hb12⟩
                  have KX9 := Lib.hid (KX8.out.below hb12)
                  have HLE := KX9.out.toIn.least
                  rw [HLV.out] at HLE
                  have HLE := Lib.hid HLE
                  clear hb12 KX8
                  go_wp2_with fail
                  refine HLE.out.mono ?_
                  rintro e w13 ⟨rfl, hb13⟩
                  have KX10 := Lib.hid (KX9.out.below hb13)
                  have HHA := KX10.out.toIn.had id
                  rw [HHF.out] at HHA
                  have HHA := Lib.hid HHA
                  clear hb13 KX9 HLE
                  go_wp2_with fail
                  refine HHA.out.mono ?_
                  rintro e w14 ⟨rfl, hb14⟩
                  have KX11 := Lib.hid (KX10.out.below hb14)
                  clear hb14 KX10 HHA
                  go_wp2_with fail
                  go_ret
                  exact ⟨by simp, KX11.out.toIn.ch.below⟩
/-- QueueFolds answers true. -/
theorem folds_row (a : Option Addr) (cap : Nat) (log : List ByteArray) (m : Int) (w : World) (hlc : log.length ≤ cap) (ro : RowAt w a 1 oS log) (hd : ∀ d ∈ log, d.size ≤ 140737488351232) (hl : log.length * 16 ≤ 140737488351232) (_ : (Lit.int .i64 m).wf = true) :
    Calls Try.prog 8 #[.slice a log.length cap, .int .i64 m] w fun e w' => e = .returned (.bool true) ∧ Below w.heap.size w w' :=
  folds_main a cap log m w ro hd (by omega)
end Go.Proofs.Ythknfikjanoflaa
