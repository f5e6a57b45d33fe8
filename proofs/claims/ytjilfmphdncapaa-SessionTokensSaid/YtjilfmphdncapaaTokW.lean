/- SessionTokens: the walk. -/
import Derived.Test.YtjilfmphdncapaaTokD
set_option linter.unusedVariables false
set_option linter.unusedSimpArgs false
namespace Go.Proofs.Ytjilfmphdncapaa
open Go.RowKit

theorem eqRefTokT (d : Nat) (w : World) (x0 y0 x1 y1 : Int) :
    (Op.equalIn (d + 2) 23 (.agg #[.int .i64 x0, .int .i64 x1]) (.agg #[.int .i64 y0, .int .i64 y1])).run Try.prog w = .ok (x0 == y0 && (x1 == y1)) w := by
  refine runEq_struct Try.underlying23 (by kernel_rfl) ?_
  refine runEqFields_cons (by decide) (by go_simp; rfl) (by go_simp; rfl) (by go_simp) ?_
  exact runEqFields_last (by decide) (by go_simp; rfl) (by go_simp; rfl) (by go_simp)
attribute [local go_sem high] eqTok eqRefTokT

theorem decV_form (l : List Nat) : ∃ (pa pb : Int) (pc : Bool), decV l = .tuple #[.agg #[.int .i64 pa, .int .i64 pb], .bool pc] := by
  unfold decV
  cases decF l with
  | none => exact ⟨_, _, _, rfl⟩
  | some x => exact ⟨_, _, _, rfl⟩
theorem decV_tok {a b : Int} (h : rightB a b = true) : decV (tokL a b) = .tuple #[.agg #[.int .i64 a, .int .i64 b], .bool true] := by
  have hb := rightB_bounds h
  obtain ⟨m, rfl⟩ : ∃ m : Nat, a = (m : Int) := ⟨a.toNat, by omega⟩
  obtain ⟨n, rfl⟩ : ∃ n : Nat, b = (n : Int) := ⟨b.toNat, by omega⟩
  have h2 := decF_tok h
  unfold decV tokL
  rw [Int.toNat_natCast, Int.toNat_natCast, h2]

abbrev tk (a b : Int) : Array Value := #[.int .i64 a, .int .i64 b]
structure Boxes (w0 w : World) (b3 b4 b7 b8 : Nat) (a b c d : Int) : Prop where
  h3 : Blk w b3 (tk a b) 23
  h4 : Blk w b4 (tk c d) 23
  h7 : Blk w b7 (tk a b) 24
  h8 : Blk w b8 (tk c d) 24
  ch : Ch (fun _ => False) w0 w
theorem Boxes.below {w0 w w1 : World} {b3 b4 b7 b8 : Nat} {a b c d : Int} (h : Boxes w0 w b3 b4 b7 b8 a b c d) (hb : Below w.heap.size w w1) : Boxes w0 w1 b3 b4 b7 b8 a b c d :=
  ⟨h.h3.below hb, h.h4.below hb, h.h7.below hb, h.h8.below hb, h.ch.call hb⟩
theorem Boxes.cells {w0 w : World} {b3 b4 b7 b8 : Nat} {a b c d : Int} (h : Boxes w0 w b3 b4 b7 b8 a b c d) :
    (∀ o, w.cell? ⟨b3, o, none⟩ = (tk a b)[o]?) ∧ (∀ o, w.cell? ⟨b4, o, none⟩ = (tk c d)[o]?) ∧ (∀ o, w.cell? ⟨b7, o, none⟩ = (tk a b)[o]?) ∧ (∀ o, w.cell? ⟨b8, o, none⟩ = (tk c d)[o]?) :=
  ⟨h.h3.cell, h.h4.cell, h.h7.cell, h.h8.cell⟩

set_option maxRecDepth 100000 in
set_option maxHeartbeats 8000000 in
theorem tokens_any (a b c d : Int) (ad : Option Addr) (cap : Nat) (bs : List Nat) (w : World) (ro : RowAt w ad 1 b1 bs) (wb : ∀ b ∈ bs, b < 256) (hlen : bs.length ≤ 140737488351232) :
    Calls Try.prog 8 #[.agg #[.int .i64 a, .int .i64 b], .agg #[.int .i64 c, .int .i64 d], .slice ad bs.length cap] w fun e w' => e = .returned (.bool true) ∧ Below w.heap.size w w' := by
  have HRO := Lib.hid ro
  have HWB := Lib.hid wb
  obtain ⟨pa, pb, pc, hdx⟩ := decV_form bs
  have HDX := Lib.hid hdx
  clear ro wb hdx
  go_enter Try.func8, Try.ntmps8
  go_upto_region 1 with fail
  go_cut [7, 8] (fun s7 s8 wx => ∃ b7 b8 : Nat, s7 = .pointer (some ⟨b7, 0, none⟩) ∧ s8 = .pointer (some ⟨b8, 0, none⟩) ∧ Boxes w wx w.heap.size (w.heap.size + 1) b7 b8 a b c d)
  case first =>
    go_region
    all_goals
      go_wp2_with fail
      go_meet
      exact ⟨_, _, rfl, rfl, ⟨by (repeat (first | (with_reducible refine Blk.new' ?_; first | rfl | (simp; done) | (simp; omega)) | with_reducible refine Blk.drew ?_ | with_reducible refine Blk.alloc ?_ _)), by (repeat (first | (with_reducible refine Blk.new' ?_; first | rfl | (simp; done) | (simp; omega)) | with_reducible refine Blk.drew ?_ | with_reducible refine Blk.alloc ?_ _)), by (repeat (first | (with_reducible refine Blk.new' ?_; first | rfl | (simp; done) | (simp; omega)) | with_reducible refine Blk.drew ?_ | with_reducible refine Blk.alloc ?_ _)), by (repeat (first | (with_reducible refine Blk.new' ?_; first | rfl | (simp; done) | (simp; omega)) | with_reducible refine Blk.drew ?_ | with_reducible refine Blk.alloc ?_ _)), by (repeat (first | with_reducible assumption | with_reducible exact Ch.refl _ _ | with_reducible refine Ch.drew ?_ | with_reducible refine Ch.alloc ?_ _ | (with_reducible refine Ch.set' ?_ ?_; focus (first | (right; rfl; done) | (left; simp; done) | (left; simp; omega) | (left; omega) | (right; simp; done) | (right; simp; omega)))))⟩⟩
  case rest =>
    obtain ⟨b7, b8, rfl, rfl, hF⟩ := hcut
    have F0 := Lib.hid hF
    obtain ⟨q3, q4, q7, q8⟩ := hF.cells
    clear hF
    cases hrt : rightB a b with
    | true =>
      have HRT := Lib.hid hrt
      have HTLT := Lib.hid (tokL_lt a b)
      have HDT := Lib.hid (decV_tok hrt)
      have HTL := Lib.hid (show (tokL a b).length ≤ 1000 from by
        have h1 := rightB_bounds hrt
        have h2 := encN_len 8 a.toNat (by omega)
        have h3 := encN_len 8 b.toNat (by omega)
        unfold tokL
        rw [List.length_append]
        omega)
      have E1 := Lib.hid (encode_ok a b wc hrt)
      clear hrt
      go_wp2_with fail
      refine E1.out.mono ?_
      rintro e w1 ⟨v, rfl, R1, hb1⟩
      have F1 := Lib.hid (F0.out.below hb1)
      obtain ⟨a1, cap1, rfl, hrow1⟩ := R1.at
      have G1 := Lib.hid hrow1
      clear E1 R1 hb1 hrow1 q3 q4 q7 q8 F0
      obtain ⟨q3, q4, q7, q8⟩ := F1.out.cells
      have E2 := Lib.hid (refencode_ok a b w1 HRT.out)
      go_wp2_with fail
      refine E2.out.mono ?_
      rintro e w2 ⟨a2, cap2, rfl, hrow2, hb2⟩
      have F2 := Lib.hid (F1.out.below hb2)
      have G2 := Lib.hid (G1.out.below hb2)
      have J2 := Lib.hid hrow2
      clear E2 hb2 hrow2 q3 q4 q7 q8 F1 G1
      have E3 := decode_any ad cap bs w2 (HRO.out.below F2.out.ch.below) HWB.out hlen
      rw [HDX.out] at E3
      have E3 := Lib.hid E3
      go_wp2_with fail
      refine E3.out.mono ?_
      rintro e w3 ⟨rfl, hb3⟩
      have F3 := Lib.hid ((F2.out.below hb3).below (below1 w3 (.cells (tk pa pb) 24)))
      have G3 := Lib.hid ((G2.out.below hb3).below (below1 w3 (.cells (tk pa pb) 24)))
      have J3 := Lib.hid ((J2.out.below hb3).below (below1 w3 (.cells (tk pa pb) 24)))
      have K3 := Lib.hid (Blk.new w3 (tk pa pb) 24)
      clear E3 hb3 F2 G2 J2
      have E4 := refdecode_any ad cap bs (w3.alloc (.cells (tk pa pb) 24)) (HRO.out.below F3.out.ch.below) HWB.out hlen
      rw [HDX.out] at E4
      have E4 := Lib.hid E4
      go_wp2_with fail
      refine E4.out.mono ?_
      rintro e w4 ⟨rfl, hb4⟩
      have F4 := Lib.hid ((F3.out.below hb4).below (below1 w4 (.cells (tk pa pb) 23)))
      have G4 := Lib.hid ((G3.out.below hb4).below (below1 w4 (.cells (tk pa pb) 23)))
      have J4 := Lib.hid ((J3.out.below hb4).below (below1 w4 (.cells (tk pa pb) 23)))
      have K4 := Lib.hid ((K3.out.below hb4).below (below1 w4 (.cells (tk pa pb) 23)))
      have M4 := Lib.hid (Blk.new w4 (tk pa pb) 23)
      have s1 := row_string_all G4.out HTLT.out cap1
      have s2 := row_string_all J4.out HTLT.out cap2
      obtain ⟨k1, k2⟩ := K4.out.cells
      obtain ⟨m1, m2⟩ := M4.out.cells
      have hk4 := K4.out.lt
      clear E4 hb4 F3 G3 J3 K3
      have E5 := decode_any a1 cap1 (tokL a b) (w4.alloc (.cells (tk pa pb) 23)) G4.out HTLT.out (by have := HTL.out; omega)
      rw [HDT.out] at E5
      have E5 := Lib.hid E5
      go_wp2_with fail
      refine E5.out.mono ?_
      rintro e w5 ⟨rfl, hb5⟩
      have F5 := (F4.out.below hb5).below (below1 w5 (.cells (tk a b) 24))
      have N5 := Blk.new w5 (tk a b) 24
      obtain ⟨q3, q3'⟩ := F5.h3.laterCells
      obtain ⟨q4, q4'⟩ := F5.h4.laterCells
      obtain ⟨q7, q7'⟩ := F5.h7.laterCells
      obtain ⟨q8, q8'⟩ := F5.h8.laterCells
      obtain ⟨n5, n5'⟩ := N5.laterCells
      have HF5 := Lib.hid F5
      clear E5 hb5 F4 G4 J4 K4 M4 s1 s2 k1 k2 m1 m2 N5 F5
      have A1 := Lib.hid (fun x : Later (w5.alloc (.cells (tk a b) 24)) => alive_any x.w)
      have A2 := Lib.hid (fun x : Later (w5.alloc (.cells (tk a b) 24)) => right_any a b x.w)
      have A3 := Lib.hid (fun x : Later (w5.alloc (.cells (tk a b) 24)) => refRight_any a b x.w)
      have A4 := Lib.hid (fun x : Later (w5.alloc (.cells (tk a b) 24)) => less_any a b c d x.w)
      have A5 := Lib.hid (fun x : Later (w5.alloc (.cells (tk a b) 24)) => refLess_any a b c d x.w)
      have A6 := Lib.hid (fun x : Later (w5.alloc (.cells (tk a b) 24)) => max_any a b c d x.w)
      have A7 := Lib.hid (fun x : Later (w5.alloc (.cells (tk a b) 24)) => refMax_any a b c d x.w)
      go_wp2_with fail
      refine wp_region_later (by kernel_rfl) (by kernel_rfl) ?_
      repeat (go_big_quiet_step (first | (go_at_call 11; exact Calls.later (A1.out _)) | (go_at_call 25; exact Calls.later (A2.out _)) | (go_at_call 26; exact Calls.later (A3.out _)) | (go_at_call 10; exact Calls.later (A4.out _)) | (go_at_call 27; exact Calls.later (A5.out _)) | (go_at_call 9; exact Calls.later (A6.out _)) | (go_at_call 19; exact Calls.later (A7.out _))))
      refine wpQuiet_nil ?_
      rintro _ ⟨x, rfl⟩
      go_wp2_with fail
      go_ret
      exact ⟨rfl, (HF5.out.ch.call x.h).below⟩
    | false =>
      have HRT := Lib.hid hrt
      obtain ⟨qa, qb, qc, hdn⟩ := decV_form []
      have E1 := Lib.hid (encode_bad a b wc hrt)
      clear hrt
      go_wp2_with fail
      refine E1.out.mono ?_
      rintro e w1 ⟨rfl, hb1⟩
      have F1 := Lib.hid (F0.out.below hb1)
      clear E1 hb1 q3 q4 q7 q8 F0
      obtain ⟨q3, q4, q7, q8⟩ := F1.out.cells
      have E2 := Lib.hid (refencode_bad a b w1 HRT.out)
      go_wp2_with fail
      refine E2.out.mono ?_
      rintro e w2 ⟨rfl, hb2⟩
      have F2 := Lib.hid (F1.out.below hb2)
      clear E2 hb2 q3 q4 q7 q8 F1
      have E3 := decode_any ad cap bs w2 (HRO.out.below F2.out.ch.below) HWB.out hlen
      rw [HDX.out] at E3
      have E3 := Lib.hid E3
      go_wp2_with fail
      refine E3.out.mono ?_
      rintro e w3 ⟨rfl, hb3⟩
      have F3 := Lib.hid ((F2.out.below hb3).below (below1 w3 (.cells (tk pa pb) 24)))
      have K3 := Lib.hid (Blk.new w3 (tk pa pb) 24)
      clear E3 hb3 F2
      have E4 := refdecode_any ad cap bs (w3.alloc (.cells (tk pa pb) 24)) (HRO.out.below F3.out.ch.below) HWB.out hlen
      rw [HDX.out] at E4
      have E4 := Lib.hid E4
      go_wp2_with fail
      refine E4.out.mono ?_
      rintro e w4 ⟨rfl, hb4⟩
      have F4 := Lib.hid ((F3.out.below hb4).below (below1 w4 (.cells (tk pa pb) 23)))
      have K4 := Lib.hid ((K3.out.below hb4).below (below1 w4 (.cells (tk pa pb) 23)))
      have M4 := Lib.hid (Blk.new w4 (tk pa pb) 23)
      have s1 := row_string_all (w := w4.alloc (.cells (tk pa pb) 23)) (a := none) (bs := []) (fun i x h => by simp at h) (by simp) 0
      obtain ⟨k1, k2⟩ := K4.out.cells
      obtain ⟨m1, m2⟩ := M4.out.cells
      have hk4 := K4.out.lt
      clear E4 hb4 F3 K3
      have E5 := decode_any none 0 [] (w4.alloc (.cells (tk pa pb) 23)) (fun i x h => by simp at h) (by simp) (by simp)
      rw [hdn] at E5
      have E5 : Calls Try.prog 23 #[.slice none 0 0] _ _ := E5
      have E5 := Lib.hid E5
      have s1 : (convert 57 9 (.slice none 0 0)).run Try.prog (w4.alloc (.cells (tk pa pb) 23)) = .ok (.string (bS [])) (w4.alloc (.cells (tk pa pb) 23)) := s1
      clear hdn
      go_wp2_with fail
      refine E5.out.mono ?_
      rintro e w5 ⟨rfl, hb5⟩
      have F5 := (F4.out.below hb5).below (below1 w5 (.cells (tk qa qb) 24))
      have N5 := Blk.new w5 (tk qa qb) 24
      obtain ⟨q3, q3'⟩ := F5.h3.laterCells
      obtain ⟨q4, q4'⟩ := F5.h4.laterCells
      obtain ⟨q7, q7'⟩ := F5.h7.laterCells
      obtain ⟨q8, q8'⟩ := F5.h8.laterCells
      obtain ⟨n5, n5'⟩ := N5.laterCells
      have HF5 := Lib.hid F5
      clear E5 hb5 F4 K4 M4 s1 k1 k2 m1 m2 N5 F5
      have A1 := Lib.hid (fun x : Later (w5.alloc (.cells (tk qa qb) 24)) => alive_any x.w)
      have A2 := Lib.hid (fun x : Later (w5.alloc (.cells (tk qa qb) 24)) => right_any a b x.w)
      have A3 := Lib.hid (fun x : Later (w5.alloc (.cells (tk qa qb) 24)) => refRight_any a b x.w)
      have A4 := Lib.hid (fun x : Later (w5.alloc (.cells (tk qa qb) 24)) => less_any a b c d x.w)
      have A5 := Lib.hid (fun x : Later (w5.alloc (.cells (tk qa qb) 24)) => refLess_any a b c d x.w)
      have A6 := Lib.hid (fun x : Later (w5.alloc (.cells (tk qa qb) 24)) => max_any a b c d x.w)
      have A7 := Lib.hid (fun x : Later (w5.alloc (.cells (tk qa qb) 24)) => refMax_any a b c d x.w)
      go_wp2_with fail
      refine wp_region_later (by kernel_rfl) (by kernel_rfl) ?_
      repeat (go_big_quiet_step (first | (go_at_call 11; exact Calls.later (A1.out _)) | (go_at_call 25; exact Calls.later (A2.out _)) | (go_at_call 26; exact Calls.later (A3.out _)) | (go_at_call 10; exact Calls.later (A4.out _)) | (go_at_call 27; exact Calls.later (A5.out _)) | (go_at_call 9; exact Calls.later (A6.out _)) | (go_at_call 19; exact Calls.later (A7.out _))))
      refine wpQuiet_nil ?_
      rintro _ ⟨x, rfl⟩
      go_wp2_with fail
      go_ret
      exact ⟨rfl, (HF5.out.ch.call x.h).below⟩

/-- SessionTokens answers true. -/
theorem tokens_row (s t : Int × Int) (ad : Option Addr) (cap : Nat) (bs : List Nat) (w : World) (_ : (Lit.int .i64 s.1).wf = true ∧ (Lit.int .i64 s.2).wf = true) (_ : (Lit.int .i64 t.1).wf = true ∧ (Lit.int .i64 t.2).wf = true) (_ : bs.length ≤ cap) (ro : RowAt w ad 1 b1 bs) (wb : ∀ b ∈ bs, b < 256) (y : bs.length * 1 ≤ 140737488351232) :
    Calls Try.prog 8 #[.agg #[.int .i64 s.1, .int .i64 s.2], .agg #[.int .i64 t.1, .int .i64 t.2], .slice ad bs.length cap] w fun e w' => e = .returned (.bool true) ∧ Below w.heap.size w w' :=
  tokens_any s.1 s.2 t.1 t.2 ad cap bs w ro wb (by omega)
end Go.Proofs.Ytjilfmphdncapaa
