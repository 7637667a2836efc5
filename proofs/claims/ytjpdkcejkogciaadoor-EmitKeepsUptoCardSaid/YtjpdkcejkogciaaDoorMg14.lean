/-
  Own texts put together: EmG, EmH, EmI, EmK, EmL, EmM, EmN.
-/
import Derived.Test.YtjpdkcejkogciaaDoorMg13
/-
  Package emit: row.
-/
set_option linter.unusedSimpArgs false
set_option linter.unusedVariables false
namespace Go.Proofs.YtjpdkcejkogciaaDoor
open Go.Wx Cd

theorem arr13 : Tryd.prog.underlying 117 = some (.array (Tryd.prog.arrayLen 117) (Tryd.prog.elem 117)) := by kernel_rfl
theorem arr13_len : Tryd.prog.arrayLen 117 = 13 := by kernel_rfl
theorem arr13_elem : Tryd.prog.elem 117 = 3 := by kernel_rfl
theorem idxQ {D : World → Prop} {kq : Value → Prop} {i : Int} (j : Nat) (hi : i = j) (hj : j < 13) (h : kq (.pointer (some ⟨0, j, none⟩))) : EvRunQ Tryd.prog D (Instr.indexAt 117 (.pointer (some ⟨0, 0, none⟩)) (.int .i64 i)) kq := by
  subst hi
  refine runQ (v := .pointer (some ⟨0, j, none⟩)) (fun w _ => ?_) h
  rw [run_indexAt_array w _ _ _ _ arr13, arr13_len, if_pos (by omega), arr13_elem, int_size w]
  simp [Result.andThen, add_off]

theorem done_get {op : Int} (h : op = 62 ∨ op = 63 ∨ op = 64 ∨ op = 65 ∨ op = 66 ∨ op = 68 ∨ op = 71 ∨ op = 73) : doneL[(op - 61).toNat]? = some (doneOp op) := by
  rcases h with rfl | rfl | rfl | rfl | rfl | rfl | rfl | rfl <;> rfl
theorem doneOp_bd (op : Int) : I64 (doneOp op) := by
  unfold doneOp I64
  repeat' split
  all_goals omega

section
variable {p : Flt} {f : Nat}

set_option maxHeartbeats 1000000 in
theorem row_step (hcaps : CapsOk p) (hP : RowP p f) : RowP p (f + 1) := by
  intro x C w0 X pe out rest ps h w hf hok hT hE h0 hbd hpl hol hps
  obtain ⟨n, ks⟩ := x
  have hsz : tsize (.mk n ks) = 1 + tsizes ks := rfl
  obtain ⟨h70, c, hc, hcl⟩ := ok_ndF hok
  have h70 : ¬ n.op = 70 := by simpa using h70
  have hops := ndF_op hc
  have hcb := ndF_bd hcaps hc
  obtain ⟨G, hG⟩ : ∃ g, gen (.mk n ks) h ps out.length = g := ⟨_, rfl⟩
  rw [hG]
  simp only [gen] at hG
  simp only [glen] at hol
  obtain ⟨lf, hlf⟩ : ∃ l, row (.mk n ks) ++ rest = l := ⟨_, rfl⟩
  have hlfc : lf = n :: (rows ks ++ rest) := by rw [← hlf]; simp [row]
  rw [hlf] at hE
  refine ⟨⟨_, Tryd.func39, rfl, by decide⟩, ?_⟩
  refine calls_of (args := [_, _]) 94 [] τok Tryd.func39 rfl rfl rfl (Nat.le_of_ble_eq_true rfl) ?_
  obtain ⟨vo0, al0, cl0, vp0, rs0, hV0⟩ := hE
  obtain ⟨ao, co, hvo⟩ := hV0.raw.len
  have hlen0 := hV0.ins.length
  rw [hlen0] at hvo
  have hB0 := hV0.blk
  rw [hvo] at hB0
  refine drawR τok (by kernel_rfl) ?_
  refine ldR (hB0.cl rfl) ?_
  refine ldR (hB0.cl rfl) ?_
  intro m
  refine br_no (show ¬ ((16384 : Int) < out.length) by omega) ?_
  obtain ⟨w1, hw1⟩ : ∃ w1 : World, w1 = { w with drawn := m } := ⟨_, rfl⟩
  have hV1 : EmV C w0 X pe out lf ps vo0 al0 cl0 vp0 rs0 w1 := hV0.tr (by rw [hw1]; exact (Kp.refl [] w).dr _)
  rw [← hw1]
  refine ld (hV1.blk.cl rfl).cell ?_
  refine br_no (show ¬ ((lf.length : Int) = 0) by rw [hlfc]; simp; omega) ?_
  obtain ⟨_, _, _, i1, i2, i3, _⟩ := sl_nd hV1.left (i := 0) (x := n) (by rw [hlfc]; rfl)
  refine ev_call (next_ct (n := n) (r := rows ks ++ rest) (by rw [← hlfc]; exact ⟨_, _, _, _, _, hV1⟩)) ?_
  rintro e w2 ⟨rfl, hE2⟩
  obtain ⟨vo2, al2, cl2, vp2, rs2, hV2⟩ := hE2
  refine new fun b4 w3 hb4 hB4 hs3 hk3 => ?_
  refine stN hB4 rfl (by simp [Value.oneCell']) fun w4 hB4 hs4 hk4 => ?_
  have hB4 : Bk w4.heap b4 [.int .i64 n.op, .int .i64 n.a, .int .i64 n.b] 47 := hB4
  have hk24 : Kp [] w2 w4 := hk3.newSt hb4 hk4
  have hV4 := hV2.tr hk24
  obtain ⟨X4, hX4⟩ : ∃ X4, X4 = ownedL pe vo2 vp2 rs2 := ⟨_, rfl⟩
  have hb4X : b4 ∉ X4 := fun hx => by rw [hX4] at hx; have := hV2.ownedL_lt b4 hx; omega
  have hR4 := hV4.rebase
  rw [← hX4] at hR4
  have fin : ∀ {out' lf'} {w'}, EmS C w4 X4 pe out' lf' ps w' → EmS C w0 X pe out' lf' ps w' := fun {out' lf'} {w'} h' => by rw [hX4] at h'; exact hV4.back h'
  have hE4 : EmS C w4 X4 pe out (rows ks ++ rest) ps w4 := ⟨_, _, _, _, _, hR4⟩
  refine ld (hB4.cl rfl).cell ?_
  refine br_dec (fun o61 => ?_) (fun o61 => ?_)
  · rw [if_pos o61] at hG hol
    have hks : ks = [] := by
      unfold ndF at hc
      simp [o61] at hc
      exact List.length_eq_zero_iff.1 (by omega)
    have hna : 0 ≤ n.a ∧ n.a < ps.length := by
      unfold ndF at hc
      simp [o61, inM] at hc
      omega
    subst hks
    obtain ⟨ap, cp, hvp, hsl⟩ := hV4.pls.den (by omega)
    obtain ⟨q, hq⟩ : ∃ q, ps[n.a.toNat]? = some q := ⟨ps[n.a.toNat]'(by omega), by simp⟩
    obtain ⟨pb, po, hpa, hpc, hq64⟩ := hsl.int hq
    have hBe := hV4.blk
    rw [hvp] at hBe
    refine drawG τok (fun u => Bk u.heap b4 [.int .i64 n.op, .int .i64 n.a, .int .i64 n.b] 47) ?_
    refine readsG τok [0, 1, 2, 3, 5, 6] 4 #[true, true, true, true, false, true, true, false, false, false] rfl rfl (by kernel_rfl) (by kernel_rfl) (by kernel_rfl) hB4 ?_
    refine ldQ (fun u hu => hu.cl rfl) ?_
    refine nextG τok 4 3 #[true, true, true, true, true, true, true, false, false, false] rfl rfl rfl (by kernel_rfl) ?_
    refine ld (hBe.cl rfl).cell ?_
    refine ⟨.inl hB4, ?_⟩
    refine nextG τok 7 2 #[true, true, true, true, true, true, true, true, false, false] rfl rfl rfl (by kernel_rfl) ?_
    refine ixE hpa n.a.toNat (by omega) (by omega) ?_
    refine ⟨.inl hB4, ?_⟩
    refine nextG τok 8 1 #[true, true, true, true, true, true, true, true, true, false] rfl rfl rfl (by kernel_rfl) ?_
    refine ld hpc.2.cl.cell ?_
    refine ⟨.inl hB4, ?_⟩
    refine nextG τok 9 0 #[true, true, true, true, true, true, true, true, true, true] rfl rfl rfl (by kernel_rfl) ?_
    refine ev_call (put_ct (C := C) (w0 := w4) (X := X4) ⟨_, _, _, _, _, hR4.tr ((Kp.refl [] w4).dr _)⟩ 3 q 0 ⟨by omega, by omega⟩ hq64 ⟨by omega, by omega⟩ (by omega)) ?_
    rintro e w6 ⟨rfl, hE6⟩
    refine ⟨.inl (hB4.kp hE6.kp' hb4X), ?_⟩
    refine doneG (by kernel_rfl) ?_
    refine ⟨rfl, fin ?_⟩
    have hg : ps.getD n.a.toNat 0 = q := by rw [List.getD_eq_getElem?_getD, hq]; rfl
    rw [← hG, hg]
    simpa [rows] using hE6
  rw [if_neg o61] at hG hol
  refine br_dec (fun o67 => ?_) (fun o67 => ?_)
  · rw [if_pos o67] at hG hol
    obtain ⟨v, x, rfl, hv, hx⟩ := ok_let hok o67
    simp only [rows, List.append_nil, List.append_assoc] at hE4
    simp only [tsizes] at hsz
    simp only [glens] at hol
    have tv := tsize_pos v
    have tx := tsize_pos x
    have lv := gen_len v _ hv h ps out.length
    refine ev_call (hP v C w4 X4 pe out _ ps h w4 (by omega) hv hT hE4 h0 (by omega) (by omega) (by omega) hps) ?_
    rintro e w5 ⟨rfl, hE5⟩
    refine ev_call (under_ct hP hT x 1 (by omega) (by omega) hx hE5 h0 (by omega) (by omega) (by simp [lv, slides]; omega) hps) ?_
    rintro e w6 ⟨rfl, hE6⟩
    refine ⟨rfl, fin ?_⟩
    rw [← hG]
    simp only [genLet]
    rw [← List.append_assoc]
    rw [List.length_append] at hE6
    exact hE6
  rw [if_neg o67] at hG hol
  refine br_dec (fun o72 => ?_) (fun o72 => ?_)
  · rw [if_pos o72] at hG hol
    obtain ⟨v, z, x, rfl, hv, hz, hx⟩ := ok_peel hok o72
    simp only [rows, List.append_nil, List.append_assoc] at hE4
    simp only [tsizes] at hsz
    simp only [glens] at hol
    refine ev_call (peel_ct hcaps hP hT v z x (by omega) hv hz hx hE4 h0 (by omega) (by omega) (by omega) hps) ?_
    rintro e w6 ⟨rfl, hE6⟩
    rw [hG] at hE6
    exact ⟨rfl, fin hE6⟩
  rw [if_neg o72] at hG hol
  refine br_dec (fun o69 => ?_) (fun o69 => ?_)
  · rw [if_pos o69] at hG hol
    obtain ⟨v, arms, rfl, hb, hv, ha⟩ := ok_sw hok o69
    have h16 : arms.length ≤ 16 := by
      unfold ndF at hc
      simp [o69, inM] at hc
      omega
    simp only [rows, List.append_assoc] at hE4
    simp only [tsizes] at hsz
    simp only [glens, List.length_cons, Nat.add_sub_cancel] at hol
    refine ldN [.int .i64 n.op, .int .i64 n.a, .int .i64 n.b] rfl (fun j v hj => by rw [Nat.zero_add]; exact hB4.cl hj) ?_
    refine ev_call (earms_ct hcaps hP hT n i2 i3 v arms hb h16 (by omega) hv ha hE4 h0 (by omega) (by omega) (by omega) hps) ?_
    rintro e w6 ⟨rfl, hE6⟩
    rw [hG] at hE6
    exact ⟨rfl, fin hE6⟩
  rw [if_neg o69, if_neg h70] at hG hol
  have hall := ok_all hok o67 o72 o69 h70
  have lall := genAll_len ks ps.length hall h ps out.length
  have hgen : genAll ks h ps out.length ++ [ins0 (doneOp n.op) n.a n.b] = G := hG
  have lo5 : (out ++ genAll ks h ps out.length).length ≤ 1048576 := by simp [lall]; omega
  have call : (ks.length : Int) = c → CallOk Tryd.prog 67 ∧ Calls Tryd.prog 67 #[.pointer (some ⟨pe, 0, none⟩), .int .i64 c, .int .i64 h] w4 (fun e w' => e = .returned (.tuple #[]) ∧ EmS C w4 X4 pe (out ++ genAll ks h ps out.length) rest ps w') := fun e => by
    have := rows_ct (h := h) hP hT ks (by omega) hall hE4 (by omega) h0 (by omega) (by omega) (by omega) hps
    rw [e] at this
    exact this
  have hkc : (ks.length : Int) = c := by omega
  have val : c = (if n.op = 66 ∨ n.op = 73 then 2 else if n.op = 71 then 1 else if n.op = 65 ∨ n.op = 68 then n.b else 0) := by
    unfold ndF at hc
    rcases hops with o | o | o | o | o | o | o | o | o | o | o | o | o <;> simp [o] at hc ⊢ <;> omega
  refine br_dec (fun o65 => ?_) (fun o65 => ?_)
  · refine br_yes o65 ?_
    refine ld (hB4.cl rfl).cell ?_
    have hv : c = n.b := by rw [val, if_neg (by omega), if_neg (by omega), if_pos (by omega)]
    refine ev_call (by rw [← hv]; exact call hkc) ?_
    rintro e w5 ⟨rfl, hE5⟩
    have hB45 := hB4.kp hE5.kp' hb4X
    refine drawG τok (fun u => Bk u.heap b4 [.int .i64 n.op, .int .i64 n.a, .int .i64 n.b] 47 ∧ Sub C u) ?_
    obtain ⟨vo5, al5, cl5, vp5, rs5, hV5⟩ := hE5
    refine readsG τok [0, 1, 2, 3, 4, 5, 6, 7, 8, 9] 1 #[true, true, true, true, true, true, true, true, true, true, false] rfl rfl (by kernel_rfl) (by kernel_rfl) (by kernel_rfl) ⟨hB45, hV5.sub⟩ ?_
    refine ldQ (fun u hu => hu.1.cl rfl) ?_
    refine int64 (by omega) (by omega) ?_
    refine idxQ (n.op - 61).toNat (by omega) (by omega) ?_
    refine ldQ (fun u hu => hu.2 _ _ _ (hT _ _ (done_get (by omega)))) ?_
    refine ldQ (fun u hu => hu.1.cl rfl) ?_
    refine ldQ (fun u hu => hu.1.cl rfl) ?_
    refine nextG τok 10 0 #[true, true, true, true, true, true, true, true, true, true, true] rfl rfl rfl (by kernel_rfl) ?_
    refine ev_call (put_ct (C := C) (w0 := w4) (X := X4) ⟨_, _, _, _, _, hV5.tr ((Kp.refl [] w5).dr _)⟩ (doneOp n.op) n.a n.b (doneOp_bd _) i2 i3 (by omega)) ?_
    rintro e w6 ⟨rfl, hE6⟩
    refine ⟨.inl ⟨hB4.kp hE6.kp' hb4X, by obtain ⟨_, _, _, _, _, hV6⟩ := hE6; exact hV6.sub⟩, ?_⟩
    refine doneG (by kernel_rfl) ?_
    exact ⟨rfl, fin (by rw [← hgen, ← List.append_assoc]; exact hE6)⟩
  refine br_dec (fun o68 => ?_) (fun o68 => ?_)
  · refine ld (hB4.cl rfl).cell ?_
    have hv : c = n.b := by rw [val, if_neg (by omega), if_neg (by omega), if_pos (by omega)]
    refine ev_call (by rw [← hv]; exact call hkc) ?_
    rintro e w5 ⟨rfl, hE5⟩
    have hB45 := hB4.kp hE5.kp' hb4X
    refine drawG τok (fun u => Bk u.heap b4 [.int .i64 n.op, .int .i64 n.a, .int .i64 n.b] 47 ∧ Sub C u) ?_
    obtain ⟨vo5, al5, cl5, vp5, rs5, hV5⟩ := hE5
    refine readsG τok [0, 1, 2, 3, 4, 5, 6, 7, 8, 9] 1 #[true, true, true, true, true, true, true, true, true, true, false] rfl rfl (by kernel_rfl) (by kernel_rfl) (by kernel_rfl) ⟨hB45, hV5.sub⟩ ?_
    refine ldQ (fun u hu => hu.1.cl rfl) ?_
    refine int64 (by omega) (by omega) ?_
    refine idxQ (n.op - 61).toNat (by omega) (by omega) ?_
    refine ldQ (fun u hu => hu.2 _ _ _ (hT _ _ (done_get (by omega)))) ?_
    refine ldQ (fun u hu => hu.1.cl rfl) ?_
    refine ldQ (fun u hu => hu.1.cl rfl) ?_
    refine nextG τok 10 0 #[true, true, true, true, true, true, true, true, true, true, true] rfl rfl rfl (by kernel_rfl) ?_
    refine ev_call (put_ct (C := C) (w0 := w4) (X := X4) ⟨_, _, _, _, _, hV5.tr ((Kp.refl [] w5).dr _)⟩ (doneOp n.op) n.a n.b (doneOp_bd _) i2 i3 (by omega)) ?_
    rintro e w6 ⟨rfl, hE6⟩
    refine ⟨.inl ⟨hB4.kp hE6.kp' hb4X, by obtain ⟨_, _, _, _, _, hV6⟩ := hE6; exact hV6.sub⟩, ?_⟩
    refine doneG (by kernel_rfl) ?_
    exact ⟨rfl, fin (by rw [← hgen, ← List.append_assoc]; exact hE6)⟩
  refine br_dec (fun o66 => ?_) (fun o66 => ?_)
  · refine br_yes o66 ?_
    have hv : c = 2 := by rw [val, if_pos (by omega)]
    refine ev_call (by rw [← hv]; exact call hkc) ?_
    rintro e w5 ⟨rfl, hE5⟩
    have hB45 := hB4.kp hE5.kp' hb4X
    refine drawG τok (fun u => Bk u.heap b4 [.int .i64 n.op, .int .i64 n.a, .int .i64 n.b] 47 ∧ Sub C u) ?_
    obtain ⟨vo5, al5, cl5, vp5, rs5, hV5⟩ := hE5
    refine readsG τok [0, 1, 2, 3, 4, 5, 6, 7, 8, 9] 1 #[true, true, true, true, true, true, true, true, true, true, false] rfl rfl (by kernel_rfl) (by kernel_rfl) (by kernel_rfl) ⟨hB45, hV5.sub⟩ ?_
    refine ldQ (fun u hu => hu.1.cl rfl) ?_
    refine int64 (by omega) (by omega) ?_
    refine idxQ (n.op - 61).toNat (by omega) (by omega) ?_
    refine ldQ (fun u hu => hu.2 _ _ _ (hT _ _ (done_get (by omega)))) ?_
    refine ldQ (fun u hu => hu.1.cl rfl) ?_
    refine ldQ (fun u hu => hu.1.cl rfl) ?_
    refine nextG τok 10 0 #[true, true, true, true, true, true, true, true, true, true, true] rfl rfl rfl (by kernel_rfl) ?_
    refine ev_call (put_ct (C := C) (w0 := w4) (X := X4) ⟨_, _, _, _, _, hV5.tr ((Kp.refl [] w5).dr _)⟩ (doneOp n.op) n.a n.b (doneOp_bd _) i2 i3 (by omega)) ?_
    rintro e w6 ⟨rfl, hE6⟩
    refine ⟨.inl ⟨hB4.kp hE6.kp' hb4X, by obtain ⟨_, _, _, _, _, hV6⟩ := hE6; exact hV6.sub⟩, ?_⟩
    refine doneG (by kernel_rfl) ?_
    exact ⟨rfl, fin (by rw [← hgen, ← List.append_assoc]; exact hE6)⟩
  refine br_dec (fun o73 => ?_) (fun o73 => ?_)
  · have hv : c = 2 := by rw [val, if_pos (by omega)]
    refine ev_call (by rw [← hv]; exact call hkc) ?_
    rintro e w5 ⟨rfl, hE5⟩
    have hB45 := hB4.kp hE5.kp' hb4X
    refine drawG τok (fun u => Bk u.heap b4 [.int .i64 n.op, .int .i64 n.a, .int .i64 n.b] 47 ∧ Sub C u) ?_
    obtain ⟨vo5, al5, cl5, vp5, rs5, hV5⟩ := hE5
    refine readsG τok [0, 1, 2, 3, 4, 5, 6, 7, 8, 9] 1 #[true, true, true, true, true, true, true, true, true, true, false] rfl rfl (by kernel_rfl) (by kernel_rfl) (by kernel_rfl) ⟨hB45, hV5.sub⟩ ?_
    refine ldQ (fun u hu => hu.1.cl rfl) ?_
    refine int64 (by omega) (by omega) ?_
    refine idxQ (n.op - 61).toNat (by omega) (by omega) ?_
    refine ldQ (fun u hu => hu.2 _ _ _ (hT _ _ (done_get (by omega)))) ?_
    refine ldQ (fun u hu => hu.1.cl rfl) ?_
    refine ldQ (fun u hu => hu.1.cl rfl) ?_
    refine nextG τok 10 0 #[true, true, true, true, true, true, true, true, true, true, true] rfl rfl rfl (by kernel_rfl) ?_
    refine ev_call (put_ct (C := C) (w0 := w4) (X := X4) ⟨_, _, _, _, _, hV5.tr ((Kp.refl [] w5).dr _)⟩ (doneOp n.op) n.a n.b (doneOp_bd _) i2 i3 (by omega)) ?_
    rintro e w6 ⟨rfl, hE6⟩
    refine ⟨.inl ⟨hB4.kp hE6.kp' hb4X, by obtain ⟨_, _, _, _, _, hV6⟩ := hE6; exact hV6.sub⟩, ?_⟩
    refine doneG (by kernel_rfl) ?_
    exact ⟨rfl, fin (by rw [← hgen, ← List.append_assoc]; exact hE6)⟩
  refine br_dec (fun o71 => ?_) (fun o71 => ?_)
  · have hv : c = 1 := by rw [val, if_neg (by omega), if_pos (by omega)]
    refine ev_call (by rw [← hv]; exact call hkc) ?_
    rintro e w5 ⟨rfl, hE5⟩
    have hB45 := hB4.kp hE5.kp' hb4X
    refine drawG τok (fun u => Bk u.heap b4 [.int .i64 n.op, .int .i64 n.a, .int .i64 n.b] 47 ∧ Sub C u) ?_
    obtain ⟨vo5, al5, cl5, vp5, rs5, hV5⟩ := hE5
    refine readsG τok [0, 1, 2, 3, 4, 5, 6, 7, 8, 9] 1 #[true, true, true, true, true, true, true, true, true, true, false] rfl rfl (by kernel_rfl) (by kernel_rfl) (by kernel_rfl) ⟨hB45, hV5.sub⟩ ?_
    refine ldQ (fun u hu => hu.1.cl rfl) ?_
    refine int64 (by omega) (by omega) ?_
    refine idxQ (n.op - 61).toNat (by omega) (by omega) ?_
    refine ldQ (fun u hu => hu.2 _ _ _ (hT _ _ (done_get (by omega)))) ?_
    refine ldQ (fun u hu => hu.1.cl rfl) ?_
    refine ldQ (fun u hu => hu.1.cl rfl) ?_
    refine nextG τok 10 0 #[true, true, true, true, true, true, true, true, true, true, true] rfl rfl rfl (by kernel_rfl) ?_
    refine ev_call (put_ct (C := C) (w0 := w4) (X := X4) ⟨_, _, _, _, _, hV5.tr ((Kp.refl [] w5).dr _)⟩ (doneOp n.op) n.a n.b (doneOp_bd _) i2 i3 (by omega)) ?_
    rintro e w6 ⟨rfl, hE6⟩
    refine ⟨.inl ⟨hB4.kp hE6.kp' hb4X, by obtain ⟨_, _, _, _, _, hV6⟩ := hE6; exact hV6.sub⟩, ?_⟩
    refine doneG (by kernel_rfl) ?_
    exact ⟨rfl, fin (by rw [← hgen, ← List.append_assoc]; exact hE6)⟩
  have hks : ks = [] := List.length_eq_zero_iff.1 (by
    have : c = 0 := by rw [val, if_neg (by omega), if_neg (by omega), if_neg (by omega)]
    omega)
  subst hks
  obtain ⟨w5, hw5⟩ : ∃ w5, w5 = w4 := ⟨_, rfl⟩
  have hE5 : EmS C w4 X4 pe (out ++ genAll [] h ps out.length) rest ps w5 := by rw [hw5]; simpa [genAll, rows] using hE4
  rw [← hw5]
  have hB45 := hB4.kp hE5.kp' hb4X
  refine drawG τok (fun u => Bk u.heap b4 [.int .i64 n.op, .int .i64 n.a, .int .i64 n.b] 47 ∧ Sub C u) ?_
  obtain ⟨vo5, al5, cl5, vp5, rs5, hV5⟩ := hE5
  refine readsG τok [0, 1, 2, 3, 4, 5, 6, 7, 8, 9] 1 #[true, true, true, true, true, true, true, true, true, true, false] rfl rfl (by kernel_rfl) (by kernel_rfl) (by kernel_rfl) ⟨hB45, hV5.sub⟩ ?_
  refine ldQ (fun u hu => hu.1.cl rfl) ?_
  refine int64 (by omega) (by omega) ?_
  refine idxQ (n.op - 61).toNat (by omega) (by omega) ?_
  refine ldQ (fun u hu => hu.2 _ _ _ (hT _ _ (done_get (by omega)))) ?_
  refine ldQ (fun u hu => hu.1.cl rfl) ?_
  refine ldQ (fun u hu => hu.1.cl rfl) ?_
  refine nextG τok 10 0 #[true, true, true, true, true, true, true, true, true, true, true] rfl rfl rfl (by kernel_rfl) ?_
  refine ev_call (put_ct (C := C) (w0 := w4) (X := X4) ⟨_, _, _, _, _, hV5.tr ((Kp.refl [] w5).dr _)⟩ (doneOp n.op) n.a n.b (doneOp_bd _) i2 i3 (by omega)) ?_
  rintro e w6 ⟨rfl, hE6⟩
  refine ⟨.inl ⟨hB4.kp hE6.kp' hb4X, by obtain ⟨_, _, _, _, _, hV6⟩ := hE6; exact hV6.sub⟩, ?_⟩
  refine doneG (by kernel_rfl) ?_
  exact ⟨rfl, fin (by rw [← hgen, ← List.append_assoc]; exact hE6)⟩

theorem row_all (hcaps : CapsOk p) : ∀ f, RowP p f
  | 0 => fun x C w0 X pe out rest ps h w hf => by have := tsize_pos x; omega
  | f + 1 => row_step hcaps (row_all hcaps f)
end
end Go.Proofs.YtjpdkcejkogciaaDoor

/-
  Package emit: block.
-/
set_option linter.unusedSimpArgs false
set_option linter.unusedVariables false
namespace Cd
open Go Go.Wx
/-- the code of a tree where so many places are taken -/
def blockE (x : Tr) (m : Nat) : List Ins := gen x (m : Int) (rng 0 m) 0 ++ [ins0 6 0 0]
/-- two lists side by side, in memory -/
theorem sl_of {α β : Type} {R : Rd α} {Q : Rd β} {C D : Mem} {a : Option Addr} {rs : List α} {l : List β} {p : α → β → Prop} (h : Sl R C a rs) (h2 : All2 p rs l) (hs : R.sz = Q.sz)
    (hk : ∀ r x b o, p r x → R.At C b o r → Q.At D b o x) : Sl Q D a l := by
  have hlen := h2.length
  refine ⟨by rw [← hlen]; exact h.1, ?_⟩
  rcases h.2 with h0 | ⟨b, o, ha, hc⟩
  · left; omega
  · refine .inr ⟨b, o, ha, fun i x hi => ?_⟩
    obtain ⟨r, hr, hp⟩ := h2.get hi
    have := hc i r hr
    rw [hs] at this
    exact hk r x _ _ hp this
end Cd
namespace Go.Proofs.YtjpdkcejkogciaaDoor
open Go.Wx Cd

section
variable {C : Mem} {w0 : World} {X : List Nat} {pe : Nat} {out : List Ins} {lf : List Nd} {ps : List Int} {vo : Value} {al : Option Addr} {cl : Nat} {vp : Value} {rs : List Raw} {w : World}
/-- what has been made, as code -/
theorem EmV.result (h : EmV C w0 X pe out lf ps vo al cl vp rs w) (hol : out.length ≤ 1048576) {lo : Nat} (hlo : lo ≤ pe + 1) : ∃ a cap, vo = .slice a out.length cap ∧ Sl rIns (New lo w) a out := by
  have hlen := h.ins.length
  obtain ⟨a, cap, hvo, hsl⟩ := h.raw.den (by omega)
  refine ⟨a, cap, by rw [hvo, hlen], sl_of hsl h.ins rfl ?_⟩
  rintro r x b o ⟨e1, e2, e3, i1, i2, i3, h16, hO⟩ ⟨cs, ⟨rfl, _⟩, hcc⟩
  obtain ⟨a', cap', hto, hsl'⟩ := hO.den (by omega)
  refine ⟨_, ⟨a', cap', rfl, hsl'.mono fun b o v hv => ⟨Nat.le_trans hlo hv.1, hv.2⟩, i1, i2, i3⟩, fun j u hu => ?_⟩
  rw [← e1, ← e2, ← e3, ← hto] at hu
  exact ⟨Nat.le_trans hlo (hcc j u hu).1, (hcc j u hu).2⟩

theorem EmV.start {C : Mem} {w w1 : World} (hS : Sub C w) (k : Kp [] w w1) {pe : Nat} (hpe : w.heap.size ≤ pe) (hB : Bk w1.heap pe [.slice none 0 0, .slice al lf.length cl, .slice none 0 0, .int .i64 16384] 88)
    (hl : Sl rNd C al lf) (hc : lf.length ≤ cl) : EmS C w [] pe [] lf [] w1 := by
  refine ⟨_, al, cl, _, [], hS.tr k, k, fun h => by omega, fun b o v hcv => ⟨hS.lt b o v hcv, by simp⟩, hB, hl, hc, Own.nil _ _ hB.lt, Own.nil _ _ hB.lt, trivial, ?_, ?_⟩
  · rintro i j u v g hi hj h1 h2
    match i, hi with
    | 0, hi => simp at hi; subst hi; cases h1
    | 1, hi => simp at hi; subst hi; cases h1
  · rintro u hu g hg
    simp at hu
    subst hu
    cases hg
end

section
variable {p : Flt} {C : Mem} {w : World}
set_option maxHeartbeats 1000000 in
theorem eblock_ct (hcaps : CapsOk p) (hS : Sub C w) (hT : Tab C) (x : Tr) (a : Option Addr) (cap : Nat) (hl : Sl rNd C a (row x)) (hcap : (row x).length ≤ cap) (m : Nat) (hm : m ≤ 256) (hok : okT (cntF p) nxF x ((m : Int), false)) (hsz : tsize x ≤ 8192) :
    CallOk Tryd.prog 23 ∧ Calls Tryd.prog 23 #[.slice a (row x).length cap, .int .i64 m] w (fun e w' => ∃ a' cap', e = .returned (.slice a' (blockE x m).length cap') ∧ Sl rIns (New w.heap.size w') a' (blockE x m) ∧ Kp [] w w') := by
  refine ⟨⟨_, Tryd.func23, rfl, by decide⟩, ?_⟩
  refine calls_of (args := [_, _]) 34 [.tmp 4] τok Tryd.func23 rfl rfl rfl (Nat.le_of_ble_eq_true rfl) ?_
  obtain ⟨lf, hlf⟩ : ∃ l, row x = l := ⟨_, rfl⟩
  rw [hlf] at hl hcap
  rw [hlf]
  refine new fun pe w1 hpe hB1 hs1 hk1 => ?_
  have hE0 : EmS C w [] pe [] lf [] w1 := EmV.start hS hk1 (by omega) hB1 hl hcap
  have hgl := glen_bd x _ hok
  refine lp τok (σ := Nat) (fun q => [(5, .pointer (some ⟨pe, 0, none⟩)), (1, .int .i64 m), (10, .int .i64 m), (11, .int .i64 q)])
    (fun q w' => q ≤ m ∧ EmS C w [] pe [] lf (rng 0 q) w') (fun q => m - q) 0 rfl
    ⟨rfl, rfl, rfl, rfl, trivial⟩ ⟨Nat.zero_le _, by simpa [rng] using hE0⟩ ?_
  rintro i w2 ⟨hi, hE2⟩
  obtain ⟨vo, al, cl, vp, rs, hV⟩ := hE2
  have hrl : (rng 0 i).length = i := by simp [rng]
  refine br_dec (fun g1 => ?_) (fun g1 => ?_)
  · have hil : i < m := by omega
    refine ld (hV.blk.cl rfl).cell ?_
    refine fill [.int .i64 i] rfl ?_
    refine new fun b1 w3 hb1 hB1 hs1 hk1 => ?_
    refine (hV.tr hk1).pushPlace (q := i) ⟨by omega, by omega⟩ (hB1.cl rfl) (by simp [hrl]; omega) fun vp' w4 hst => ?_
    refine hst _ fun w5 hV5 => ?_
    refine int64 (by omega) (by omega) ?_
    refine ⟨i + 1, by omega, rfl, ⟨rfl, rfl, rfl, rfl, trivial⟩, hil, ?_⟩
    have : rng 0 (i + 1) = rng 0 i ++ [(i : Int)] := by simp [rng, List.range_succ]
    rw [this]
    exact ⟨_, _, _, _, _, hV5⟩
  · have him : i = m := by omega
    subst him
    have hE2 : EmS C w [] pe [] (row x ++ []) (rng 0 i) w2 := by rw [List.append_nil, hlf]; exact ⟨_, _, _, _, _, hV⟩
    refine ev_call (row_all hcaps (tsize x) x C w [] pe [] [] (rng 0 i) i w2 (Nat.le_refl _) (by rw [hrl]; exact hok) hT hE2 (by omega) (by omega) (by rw [hrl]; omega) (by simp; omega) (fun q hq => ?_)) ?_
    · simp only [rng, List.mem_map, List.mem_range] at hq
      obtain ⟨j, hj, rfl⟩ := hq
      omega
    rintro e w3 ⟨rfl, hE3⟩
    simp only [List.nil_append, List.length_nil] at hE3
    have hgn := gen_len x _ hok i (rng 0 i) 0
    refine ev_call (put_ct hE3 6 0 0 (by constructor <;> omega) (by constructor <;> omega) (by constructor <;> omega) (by omega)) ?_
    rintro e w4 ⟨rfl, hE4⟩
    obtain ⟨vo, al, cl, vp, rs, hV4⟩ := hE4
    refine ld (hV4.blk.cl rfl).cell ?_
    obtain ⟨a', cap', hvo, hsl⟩ := hV4.result (by simp; omega) (lo := w.heap.size) (by omega)
    refine ⟨a', cap', ?_, hsl, hV4.kp⟩
    rw [hvo]
    rfl
end
end Go.Proofs.YtjpdkcejkogciaaDoor

/-
  Package emit: Make: what it makes; small parts.
-/
set_option linter.unusedSimpArgs false
set_option linter.unusedVariables false
namespace Cd
open Go Go.Wx

def treeF (p : Flt) (t : List Nd) (m : Nat) : Tr := ((treeOf (cnt := cntF p) (nx := nxF) ((m : Int), false) t)).getD (.mk ⟨0, 0, 0⟩ [])
def codeE (p : Flt) (t : List Nd) (m : Nat) : List Ins := blockE (treeF p t m) m
def fnE (p : Flt) (f : Ffn) : Fn := ⟨f.caps, codeE p f.body (f.caps + 1).toNat⟩
def bodyE (p : Flt) (b : List Nd) : List Ins := if 0 < b.length then codeE p b 0 else []
def codeM (p : Flt) (q : Brd) : Cod := ⟨q.nat, q.shapes, p.funs.map (fnE p), p.bodies.map (bodyE p), codeE p p.main 0⟩
def codZ : Cod := ⟨0, [], [], [], []⟩
def difM : List (List Nd) → List (List Nd) → Bool
  | b :: bs, c :: cs => (decide (0 < b.length) != decide (0 < c.length)) || difM bs cs
  | _, _ => false
def makeM (p : Flt) (q : Brd) : Cod × Int :=
  if rightF p ≠ 0 then (codZ, rightF p)
  else if rightB q ≠ 0 then (codZ, rightB q)
  else if p.bodies.length ≠ q.bodies.length then (codZ, 1)
  else if difM p.bodies q.bodies then (codZ, 1)
  else if checkM (codeM p q) ≠ 0 then (codZ, checkM (codeM p q))
  else (codeM p q, 0)
def weightF (p : Flt) : Nat := p.main.length + (p.funs.map fun f => 1 + f.body.length).sum + (p.bodies.map fun b => 1 + b.length).sum

theorem codZ_den (C : Mem) : rCod.den C [.int .i64 0, .slice none 0 0, .slice none 0 0, .slice none 0 0, .slice none 0 0] codZ :=
  ⟨none, 0, none, 0, none, 0, none, 0, rfl, Sl.nil _ _ _, Sl.nil _ _ _, Sl.nil _ _ _, Sl.nil _ _ _, by constructor <;> simp [codZ]⟩

structure Fok (p : Flt) : Prop where
  funs : p.funs.length ≤ 4096
  bodies : p.bodies.length ≤ 64
  caps : CapsOk p
  fun_ : ∀ f ∈ p.funs, wholeF p f.body (f.caps + 1) = true
  body : ∀ b ∈ p.bodies, 0 < b.length → wholeF p b 0 = true
  main : wholeF p p.main 0 = true
theorem fok_of {p : Flt} (h : rightF p = 0) : Fok p := by
  unfold rightF at h
  split at h
  · omega
  rename_i h1
  split at h
  · omega
  rename_i h2
  split at h
  · omega
  rename_i h3
  split at h
  · omega
  rename_i h4
  split at h
  · omega
  rename_i h5
  simp only [Bool.not_eq_false, List.all_eq_true, Bool.or_eq_true, decide_eq_true_eq] at h3 h4 h5
  refine ⟨by omega, by omega, fun f hf => ?_, h3, fun b hb hp => (h4 b hb).resolve_left (by omega), h5⟩
  have h2 : p.funs.any (fun f => !inM f.caps 0 255) = false := by simpa using h2
  rw [List.any_eq_false] at h2
  simpa [inM] using h2 f hf
theorem whole_tree {p : Flt} {t : List Nd} {m : Nat} (h : wholeF p t (m : Int) = true) : t = row (treeF p t m) ∧ okT (cntF p) nxF (treeF p t m) ((m : Int), false) := by
  unfold wholeF at h
  simp only [Bool.and_eq_true, decide_eq_true_eq] at h
  obtain ⟨x, hx⟩ := Option.isSome_iff_exists.1 h.2
  have := treeOf_some hx
  unfold treeF
  rw [hx]
  exact this
theorem codeE_len {p : Flt} {t : List Nd} {m : Nat} (h : wholeF p t (m : Int) = true) : (codeE p t m).length ≤ 2 * t.length := by
  obtain ⟨h1, h2⟩ := whole_tree h
  have h3 := glen_bd _ _ h2
  have h4 := gen_len _ _ h2 m (rng 0 m) 0
  have h5 := row_len (treeF p t m)
  rw [← h1] at h5
  unfold codeE blockE
  simp only [List.length_append, List.length_cons, List.length_nil]
  omega
end Cd
namespace Go.Proofs.YtjpdkcejkogciaaDoor
open Go.Wx Cd

section
variable {p : Flt} {C : Mem} {w : World}
theorem codeE_ct (hcaps : CapsOk p) (hS : Sub C w) (hT : Tab C) (t : List Nd) (a : Option Addr) (cap : Nat) (hl : Sl rNd C a t) (hcap : t.length ≤ cap) (m : Nat) (hm : m ≤ 256) (hok : wholeF p t (m : Int) = true) (hsz : t.length ≤ 8192) :
    CallOk Tryd.prog 23 ∧ Calls Tryd.prog 23 #[.slice a t.length cap, .int .i64 m] w (fun e w' => ∃ a' cap', e = .returned (.slice a' (codeE p t m).length cap') ∧ Sl rIns (New w.heap.size w') a' (codeE p t m) ∧ Kp [] w w') := by
  obtain ⟨h1, h2⟩ := whole_tree hok
  have h5 := row_len (treeF p t m)
  rw [← h1] at h5
  have := eblock_ct hcaps hS hT (treeF p t m) a cap (by rw [← h1]; exact hl) (by rw [← h1]; exact hcap) m hm h2 (by omega)
  rw [← h1] at this
  exact this

theorem cloneB_ct (hS : Sub C w) (l : List Bool) (a : Option Addr) (cap : Nat) (hl : Sl rBool C a l) :
    CallOk Tryd.prog 22 ∧ Calls Tryd.prog 22 #[.slice a l.length cap] w (fun e w' => ∃ v, e = .returned v ∧ Own rBool 4 w.heap.size w' v l ∧ Kp [] w w') := by
  refine ⟨⟨_, Tryd.func22, rfl, by decide⟩, ?_⟩
  have hll := hl.1
  refine calls_of (args := [_]) 8 [.tmp 2] τok Tryd.func22 rfl rfl rfl (Nat.le_of_ble_eq_true rfl) ?_
  refine eqNil τok rfl ?_
  refine br (fun h1 => ?_) (fun h1 => ?_)
  · have ha : a = none := by cases a <;> simp_all
    have hnil : l = [] := by
      rcases hl.2 with h0 | ⟨b, o, e, _⟩
      · exact List.length_eq_zero_iff.1 h0
      · rw [ha] at e; cases e
    subst hnil
    exact ⟨_, rfl, Own.nil _ _ (Nat.le_refl _), Kp.refl _ _⟩
  refine fill [] rfl ?_
  refine new fun b1 w1 hb1 hB1 hs1 hk1 => ?_
  have hO : Own rBool 4 w.heap.size w1 (.slice (some ⟨b1, 0, none⟩) 0 0) [] := Own.empty rBool hB1 (by omega)
  refine hO.apF τok rfl rfl Nat.one_pos flatB (hS.tr hk1) l hl (by simp; omega) (by simp [maxLen]; omega) fun v' w2 hO2 hk2 _ => ?_
  refine ⟨v', rfl, by simpa using hO2, hk1.trans hk2 fun x hx hl => ?_⟩
  have hx : x = b1 := by simpa [Value.ownBlock, eq_comm] using hx
  omega
end
end Go.Proofs.YtjpdkcejkogciaaDoor

/-
  Reference 21: one, behind.
-/
set_option linter.unusedSimpArgs false
set_option linter.unusedVariables false
namespace Cd
open Go Go.Wx

theorem sh9_len (k : Nat) : ∀ l : List Int, (sh9 k l).length = l.length
  | [] => rfl
  | [t] => rfl
  | t :: m :: r => by simp [sh9, sh9_len k r]
theorem sh9_get (k : Nat) : ∀ (l : List Int) (j : Nat) (t : Int), l[j]? = some t → (sh9 k l)[j]? = some (if j % 2 = 0 then t + k else t)
  | [], j, t, h => by simp at h
  | [u], 0, t, h => by simp at h; subst h; rfl
  | [u], j + 1, t, h => by simp at h
  | u :: m :: r, 0, t, h => by simp at h; subst h; rfl
  | u :: m :: r, 1, t, h => by simp at h; subst h; rfl
  | u :: m :: r, j + 2, t, h => by
    simp only [sh9, List.getElem?_cons_succ] at h ⊢
    rw [sh9_get k r j t h]
    rw [show (j + 2) % 2 = j % 2 by omega]
theorem shift_len (k : Nat) (x : Ins) : (shift k x).to.length = x.to.length := by
  simp only [shift]
  split
  · exact sh9_len k _
  · simp
theorem shift_get {k : Nat} {x : Ins} {j : Nat} {t : Int} (h : x.to[j]? = some t) : (shift k x).to[j]? = some (if x.op ≠ 9 ∨ j % 2 = 0 then t + k else t) := by
  simp only [shift]
  split
  · rename_i h9
    rw [sh9_get k _ _ _ h]
    simp [h9]
  · rename_i h9
    rw [List.getElem?_map, h]
    simp [h9]

/-- an instruction as it lies in memory, and what it says -/
def RawAt (lo : Nat) (v : Value) (w : World) (r : Raw) (x : Ins) : Prop := r.op = x.op ∧ r.a = x.a ∧ r.b = x.b ∧ I64 x.op ∧ I64 x.a ∧ I64 x.b ∧ ∃ at' ct, r.to = .slice at' x.to.length ct ∧ Sl rInt (Dn lo v w) at' x.to
theorem dn_step {lo : Nat} {v v' : Value} {w w' : World} (hkp : Kp v.ownBlock.toList w w') (hb : v'.ownBlock = v.ownBlock ∨ v'.ownBlock = some w.heap.size) : ∀ b o u, Dn lo v w b o u → Dn lo v' w' b o u := fun b o u hu => by
  refine ⟨hu.1, ?_, hu.2.2.kp hkp (by simpa using fun e => hu.2.1 e.symm)⟩
  rcases hb with e1 | e1
  · rw [e1]; exact hu.2.1
  · rw [e1]
    have := hu.2.2.lt
    intro e2
    have := Option.some.inj e2
    omega
theorem RawAt.step {lo : Nat} {v v' : Value} {w w' : World} {r : Raw} {x : Ins} (hkp : Kp v.ownBlock.toList w w') (hb : v'.ownBlock = v.ownBlock ∨ v'.ownBlock = some w.heap.size) (h : RawAt lo v w r x) : RawAt lo v' w' r x := by
  obtain ⟨h1, h2, h3, h4, h5, h6, a, c, h7, h8⟩ := h
  exact ⟨h1, h2, h3, h4, h5, h6, a, c, h7, h8.mono (dn_step hkp hb)⟩
theorem RawAt.tr {lo : Nat} {v : Value} {w w' : World} {r : Raw} {x : Ins} (hkp : Kp [] w w') (h : RawAt lo v w r x) : RawAt lo v w' r x := by
  obtain ⟨h1, h2, h3, h4, h5, h6, a, c, h7, h8⟩ := h
  exact ⟨h1, h2, h3, h4, h5, h6, a, c, h7, h8.mono fun b o u hu => ⟨hu.1, hu.2.1, hu.2.2.kp hkp (by simp)⟩⟩
def RawC (C : Mem) (r : Raw) (x : Ins) : Prop := r.op = x.op ∧ r.a = x.a ∧ r.b = x.b ∧ I64 x.op ∧ I64 x.a ∧ I64 x.b ∧ ∃ at' ct, r.to = .slice at' x.to.length ct ∧ Sl rInt C at' x.to
theorem all2_of {α β : Type} {p : α → β → Prop} {l : List β} {n : Nat} (hn : l.length = n) (h : ∀ (i : Nat) (x : β), l[i]? = some x → ∃ r, p r x) : ∃ rs, All2 p rs l := by
  induction l generalizing n with
  | nil => exact ⟨[], trivial⟩
  | cons x l ih =>
    obtain ⟨r, hr⟩ := h 0 x rfl
    obtain ⟨rs, hrs⟩ := ih rfl fun i y hi => h (i + 1) y (by simpa using hi)
    exact ⟨r :: rs, hr, hrs⟩
/-- code in memory, raw -/
theorem sl_raw {C : Mem} {a : Option Addr} {l : List Ins} (h : Sl rIns C a l) : ∃ rs, Sl rRaw C a rs ∧ All2 (RawC C) rs l := by
  rcases h.2 with h0 | ⟨b, o, ha, hc⟩
  · have : l = [] := List.length_eq_zero_iff.1 h0
    subst this
    exact ⟨[], Sl.nil _ _ _, trivial⟩
  · obtain ⟨rs, hrs⟩ := all2_of (p := fun (r : Raw × Nat) (x : Ins × Nat) => r.2 = x.2 ∧ RawC C r.1 x.1 ∧ rRaw.At C b (o + x.2 * 4) r.1) (l := l.zipIdx) rfl (by
      rintro i ⟨x, j⟩ hi
      have hj : l[j]? = some x := by
        have := List.mem_of_getElem? hi
        rw [List.mem_zipIdx_iff_getElem?] at this
        simpa using this
      obtain ⟨cs, ⟨a', ct, rfl, h1, h2, h3, h4⟩, h5⟩ := hc j x hj
      exact ⟨(⟨x.op, x.a, x.b, .slice a' x.to.length ct⟩, j), rfl, ⟨rfl, rfl, rfl, h2, h3, h4, a', ct, rfl, h1⟩, _, ⟨rfl, rfl⟩, h5⟩)
    have hlen := hrs.length
    simp only [List.length_zipIdx] at hlen
    have key : ∀ i x, l[i]? = some x → ∃ r, (rs.map Prod.fst)[i]? = some r ∧ RawC C r x ∧ rRaw.At C b (o + i * 4) r := by
      intro i x hi
      obtain ⟨r, h1, h2, h3, h4⟩ := hrs.get (i := i) (a := (x, i)) (by rw [List.getElem?_zipIdx, hi]; simp)
      exact ⟨r.1, by rw [List.getElem?_map, h1]; rfl, h3, h4⟩
    refine ⟨rs.map Prod.fst, ⟨by rw [List.length_map, hlen]; exact h.1, .inr ⟨b, o, ha, fun i r hi => ?_⟩⟩, ?_⟩
    · have hil := get_lt hi
      rw [List.length_map, hlen] at hil
      obtain ⟨r', h1, _, h3⟩ := key i l[i] (by simp)
      rw [hi] at h1
      obtain rfl := Option.some.inj h1
      exact h3
    · clear hc h
      have hl2 : (rs.map Prod.fst).length = l.length := by simp [hlen]
      have key2 : ∀ i x, l[i]? = some x → ∃ r, (rs.map Prod.fst)[i]? = some r ∧ RawC C r x := fun i x hi => by
        obtain ⟨r, h1, h2, _⟩ := key i x hi
        exact ⟨r, h1, h2⟩
      generalize rs.map Prod.fst = ms at hl2 key2 ⊢
      clear key hlen hrs
      induction l generalizing ms with
      | nil => match ms, hl2 with | [], _ => trivial
      | cons x l ih =>
        match ms, hl2 with
        | m :: ms, hl2 =>
          obtain ⟨r, h1, h2⟩ := key2 0 x rfl
          have h1 : m = r := by simpa using h1
          subst h1
          exact ⟨h2, ih ms (by simpa using hl2) fun i y hi => by simpa using key2 (i + 1) y (by simpa using hi)⟩
end Cd
namespace Go.Proofs.YtjpdkcejkogciaaDoor
open Go.Wx Cd

theorem one21_ct (op a b : Int) (t : Option Addr) (n c : Nat) (w : World) : CallOk Tryd.prog 75 ∧ Calls Tryd.prog 75 #[.int .i64 op, .int .i64 a, .int .i64 b, .slice t n c] w (fun e w' => e = .returned (.slice (some ⟨w.heap.size, 0, none⟩) 1 1) ∧ Bk w'.heap w.heap.size [.int .i64 op, .int .i64 a, .int .i64 b, .slice t n c] 50 ∧ Kp [] w w' ∧ w'.heap.size = w.heap.size + 1) := by
  refine ⟨⟨_, Tryd.func75, rfl, by decide⟩, ?_⟩
  refine calls_of (args := [_, _, _, _]) 15 [.tmp 8] τok Tryd.func75 rfl rfl rfl (Nat.le_of_ble_eq_true rfl) ?_
  refine fill [.int .i64 op, .int .i64 a, .int .i64 b, .slice t n c] rfl ?_
  refine new fun b1 w1 hb1 hB1 hs1 hk1 => ?_
  subst hb1
  exact ⟨rfl, hB1, hk1, hs1⟩
end Go.Proofs.YtjpdkcejkogciaaDoor

/-
  Reference 21: behind.
-/
set_option linter.unusedSimpArgs false
set_option linter.unusedVariables false
namespace Cd
open Go Go.Wx
/-- where it goes on is told by small numbers -/
def ToOk (B : Int) (l : List Ins) : Prop := ∀ x ∈ l, ∀ t ∈ x.to, 0 ≤ t ∧ t ≤ B
end Cd
namespace Go.Proofs.YtjpdkcejkogciaaDoor
open Go.Wx Cd

section
variable {C : Mem} {w : World}
set_option maxHeartbeats 2000000 in
theorem behindR_ct (hS : Sub C w) (ra : List Raw) (aa : Option Addr) (ca : Nat) (ha : Sl rRaw C aa ra) (lb : List Ins) (ab : Option Addr) (cb : Nat) (hb : Sl rIns C ab lb) (hra : ra.length ≤ 1048576) (hto : ToOk 1048576 lb) :
    CallOk Tryd.prog 77 ∧ Calls Tryd.prog 77 #[.slice aa ra.length ca, .slice ab lb.length cb] w (fun e w' => ∃ v rb, e = .returned v ∧ Own rRaw 50 w.heap.size w' v (ra ++ rb) ∧ All2 (RawAt w.heap.size v w') rb (lb.map (shift ra.length)) ∧ Kp [] w w') := by
  refine ⟨⟨_, Tryd.func77, rfl, by decide⟩, ?_⟩
  have hbl := hb.1
  refine calls_of (args := [_, _]) 79 [.tmp 4] τok Tryd.func77 rfl rfl rfl (Nat.le_of_ble_eq_true rfl) ?_
  refine fill [] rfl ?_
  refine new fun b1 w1 hb1 hB1 hs1 hk1 => ?_
  have hO : Own rRaw 50 w.heap.size w1 (.slice (some ⟨b1, 0, none⟩) 0 0) [] := Own.empty rRaw hB1 (by omega)
  refine hO.apF τok rfl rfl (by decide) flatRaw (hS.tr hk1) ra ha (by simp; omega) (by simp [maxLen]; omega) fun v2 w2 hO2 hk2 _ => ?_
  have hk02 : Kp [] w w2 := hk1.own hk2 hO
  rw [List.nil_append] at hO2
  refine lp τok (σ := Nat × Value) (fun q => [(0, .slice aa ra.length ca), (1, .slice ab lb.length cb), (5, q.2), (6, .int .i64 q.1)])
    (fun q u => q.1 ≤ lb.length ∧ Kp [] w u ∧ ∃ rb, Own rRaw 50 w.heap.size u q.2 (ra ++ rb) ∧ All2 (RawAt w.heap.size q.2 u) rb ((lb.take q.1).map (shift ra.length))) (fun q => lb.length - q.1) (0, v2) rfl
    ⟨rfl, rfl, rfl, rfl, trivial⟩ ⟨Nat.zero_le _, hk02, [], by simpa using hO2, trivial⟩ ?_
  clear hO hO2 hk1 hk2 hk02 hB1 hs1 hb1
  rintro ⟨k, v⟩ u ⟨hk, hku, rb, hO, hA⟩
  simp only at hk hO hA
  refine br_dec (fun g1 => ?_) (fun g1 => ?_)
  rotate_left
  · rw [List.take_of_length_le (by omega)] at hA
    exact ⟨v, rb, rfl, hO, hA, hku⟩
  have hkl : k < lb.length := by omega
  obtain ⟨x, hx, _⟩ := drop_get hkl
  obtain ⟨bb, ob, hab, at', ct, hsto, i1, i2, i3, hcells⟩ := sl_ins hb hx
  have hSu := hS.tr hku
  have hxto : ∀ t ∈ x.to, 0 ≤ t ∧ t ≤ 1048576 := hto x (List.mem_of_getElem? hx)
  have hrbl : rb.length = k := by rw [hA.length]; simp; omega
  subst hab
  refine drawG τok (fun z => Sub C z) ?_
  refine readsG τok [0, 1, 2, 3, 4, 5, 6, 7, 8, 9, 10, 11, 12, 13, 14, 15] 2 #[true, true, true, true, true, true, true, true, true, true, true, true, true, true, true, true, false, false] rfl rfl (by kernel_rfl) (by kernel_rfl) (by kernel_rfl) (by exact fun b o v hc => hSu b o v hc) ?_
  refine ix k rfl hkl ?_
  refine ldQ (fun z hz => hz _ _ _ (hcells 0 _ rfl)) ?_
  refine ix k rfl hkl ?_
  refine ldQ (fun z hz => hz _ _ _ (hcells 1 _ rfl)) ?_
  refine ix k rfl hkl ?_
  refine ldQ (fun z hz => hz _ _ _ (hcells 2 _ rfl)) ?_
  refine nextG τok 16 1 #[true, true, true, true, true, true, true, true, true, true, true, true, true, true, true, true, true, false] rfl rfl rfl (by kernel_rfl) ?_
  refine new fun b7 u1 hb7 hB7 hs7 hk7 => ?_
  have hk7 : Kp [] u u1 := hk7.rd
  have hb7 : b7 = u.heap.size := hb7
  refine ⟨.inl (hSu.tr hk7), ?_⟩
  refine nextG τok 17 0 #[true, true, true, true, true, true, true, true, true, true, true, true, true, true, true, true, true, true] rfl rfl rfl (by kernel_rfl) ?_
  refine stN (vs := [.int .i64 x.op, .int .i64 x.a, .int .i64 x.b, .slice none 0 0]) hB7 rfl (by simp [Value.oneCell']) fun u2 hB7 hs2 hk2 => ?_
  have hk02 : Kp [] u u2 := hk7.newSt hb7 hk2
  refine ⟨.inl (hSu.tr hk02), ?_⟩
  refine doneG (by kernel_rfl) ?_
  have hb72 : b7 < u2.heap.size := by omega
  clear hk7 hk2
  obtain ⟨lt, hlt⟩ : ∃ l, (shift ra.length x).to = l := ⟨_, rfl⟩
  have hltl : lt.length = x.to.length := by rw [← hlt]; exact shift_len _ _
  have hsl := hsto.1
  refine lp τok (σ := Nat) (fun j => [(0, .slice aa ra.length ca), (1, .slice (some ⟨bb, ob, none⟩) lb.length cb), (5, v), (6, .int .i64 k), (7, .pointer (some ⟨b7, 0, none⟩)), (8, .int .i64 j)])
    (fun j z => j ≤ x.to.length ∧ Kp [b7] u2 z ∧ ∃ vt, Own rInt 3 u2.heap.size z vt (lt.take j) ∧ Bk z.heap b7 [.int .i64 x.op, .int .i64 x.a, .int .i64 x.b, vt] 50) (fun j => x.to.length - j) 0 rfl
    ⟨rfl, rfl, rfl, rfl, rfl, rfl, trivial⟩ ⟨Nat.zero_le _, Kp.refl _ _, _, Own.nil _ _ (Nat.le_refl _), hB7⟩ ?_
  clear hB7
  rintro j z ⟨hj, hkz, vt, hOt, hBz⟩
  have hSz : Sub C z := (hSu.tr hk02).kp hkz fun b o v hc hx => by
    have := hSu.lt b o v hc
    simp at hx
    omega
  refine ix k rfl hkl ?_
  refine ld (hSz _ _ _ (hcells 3 _ rfl)).cell ?_
  refine br_dec (fun g2 => ?_) (fun g2 => ?_)
  · have hjl : j < x.to.length := by omega
    obtain ⟨t, ht, _⟩ := drop_get hjl
    obtain ⟨bt, ot, hat, hct, h64⟩ := hsto.int ht
    have htb := hxto t (List.mem_of_getElem? ht)
    have hst := shift_get (k := ra.length) ht
    have htl : (lt.take j).length = j := by simp; omega
    rw [hlt] at hst
    refine ix k rfl hkl ?_
    refine ld (hSz _ _ _ (hcells 3 _ rfl)).cell ?_
    refine ixE hat j rfl hjl ?_
    refine ld (hSz _ _ _ hct).cell ?_
    refine ix k rfl hkl ?_
    refine ld (hSz _ _ _ (hcells 0 _ rfl)).cell ?_
    refine br_dec (fun o9 => ?_) (fun o9 => ?_)
    · rw [if_pos (.inl o9)] at hst
      refine int64 (by omega) (by omega) ?_
      obtain ⟨tt, htt⟩ : ∃ tt, t + (ra.length : Int) = tt := ⟨_, rfl⟩
      rw [htt] at hst
      rw [htt]
      have htt : I64 tt := by constructor <;> omega
      refine ld (hBz.cl rfl).cell ?_
      refine fill [.int .i64 tt] rfl ?_
      refine new fun bn z2 hbn hBn hsn hkn => ?_
      refine (hOt.kp hkn).ap1 τok rfl rfl Nat.one_pos tt [.int .i64 tt] ⟨rfl, htt⟩ (fun i t hi => by rw [Nat.zero_add]; exact hBn.cl hi) (by rw [htl]; omega) (by rw [htl]; simp only [maxLen]; omega) fun vt' z3 hO3 hk3 hb3 => ?_
      have hX3 : ∀ g ∈ vt.ownBlock.toList, u2.heap.size ≤ g := fun g hg => (hOt.block g (by simpa using hg)).1
      have hB3 := (hBz.kp hkn (by simp)).kp hk3 (fun hx => by have := hX3 _ hx; omega)
      obtain ⟨aq, cq, hvq⟩ := hO3.len
      refine st hB3 (by simp) (by rw [hvq]; rfl) fun z4 hB4 hs4 hk4 => ?_
      refine int64 (by omega) (by omega) ?_
      have hkz4 : Kp [b7] u2 z4 := ((hkz.tr hkn).ownX hk3 (hOt.kp hkn)).trans hk4 fun x hx _ => hx
      refine ⟨j + 1, by omega, rfl, ⟨rfl, rfl, rfl, rfl, rfl, rfl, trivial⟩, hjl, hkz4, vt', ?_, hB4⟩
      rw [take_get hst]
      exact hO3.kpl hk4 (by simp; omega)
    · refine rem64 (by omega) (by omega) ?_
      refine br_dec (fun g3 => ?_) (fun g3 => ?_)
      · rw [if_pos (.inr (by omega))] at hst
        refine int64 (by omega) (by omega) ?_
        obtain ⟨tt, htt⟩ : ∃ tt, t + (ra.length : Int) = tt := ⟨_, rfl⟩
        rw [htt] at hst
        rw [htt]
        have htt : I64 tt := by constructor <;> omega
        refine ld (hBz.cl rfl).cell ?_
        refine fill [.int .i64 tt] rfl ?_
        refine new fun bn z2 hbn hBn hsn hkn => ?_
        refine (hOt.kp hkn).ap1 τok rfl rfl Nat.one_pos tt [.int .i64 tt] ⟨rfl, htt⟩ (fun i t hi => by rw [Nat.zero_add]; exact hBn.cl hi) (by rw [htl]; omega) (by rw [htl]; simp only [maxLen]; omega) fun vt' z3 hO3 hk3 hb3 => ?_
        have hX3 : ∀ g ∈ vt.ownBlock.toList, u2.heap.size ≤ g := fun g hg => (hOt.block g (by simpa using hg)).1
        have hB3 := (hBz.kp hkn (by simp)).kp hk3 (fun hx => by have := hX3 _ hx; omega)
        obtain ⟨aq, cq, hvq⟩ := hO3.len
        refine st hB3 (by simp) (by rw [hvq]; rfl) fun z4 hB4 hs4 hk4 => ?_
        refine int64 (by omega) (by omega) ?_
        have hkz4 : Kp [b7] u2 z4 := ((hkz.tr hkn).ownX hk3 (hOt.kp hkn)).trans hk4 fun x hx _ => hx
        refine ⟨j + 1, by omega, rfl, ⟨rfl, rfl, rfl, rfl, rfl, rfl, trivial⟩, hjl, hkz4, vt', ?_, hB4⟩
        rw [take_get hst]
        exact hO3.kpl hk4 (by simp; omega)
      · rw [if_neg (by omega)] at hst
        obtain ⟨tt, htt⟩ : ∃ tt, t = tt := ⟨_, rfl⟩
        rw [htt] at hst
        rw [htt]
        have htt : I64 tt := by constructor <;> omega
        refine ld (hBz.cl rfl).cell ?_
        refine fill [.int .i64 tt] rfl ?_
        refine new fun bn z2 hbn hBn hsn hkn => ?_
        refine (hOt.kp hkn).ap1 τok rfl rfl Nat.one_pos tt [.int .i64 tt] ⟨rfl, htt⟩ (fun i t hi => by rw [Nat.zero_add]; exact hBn.cl hi) (by rw [htl]; omega) (by rw [htl]; simp only [maxLen]; omega) fun vt' z3 hO3 hk3 hb3 => ?_
        have hX3 : ∀ g ∈ vt.ownBlock.toList, u2.heap.size ≤ g := fun g hg => (hOt.block g (by simpa using hg)).1
        have hB3 := (hBz.kp hkn (by simp)).kp hk3 (fun hx => by have := hX3 _ hx; omega)
        obtain ⟨aq, cq, hvq⟩ := hO3.len
        refine st hB3 (by simp) (by rw [hvq]; rfl) fun z4 hB4 hs4 hk4 => ?_
        refine int64 (by omega) (by omega) ?_
        have hkz4 : Kp [b7] u2 z4 := ((hkz.tr hkn).ownX hk3 (hOt.kp hkn)).trans hk4 fun x hx _ => hx
        refine ⟨j + 1, by omega, rfl, ⟨rfl, rfl, rfl, rfl, rfl, rfl, trivial⟩, hjl, hkz4, vt', ?_, hB4⟩
        rw [take_get hst]
        exact hO3.kpl hk4 (by simp; omega)
  · rw [List.take_of_length_le (by omega)] at hOt
    have hkuz : Kp [] u z := hk02.trans hkz fun x hx hl => by simp at hx; omega
    obtain ⟨aq, cq, hvq, hSq⟩ := (hOt.low' (lo' := u.heap.size) hk02.size).den (by omega)
    subst hvq
    rw [hltl] at *
    refine ldN [.int .i64 x.op, .int .i64 x.a, .int .i64 x.b, .slice aq x.to.length cq] rfl (fun j v hj => by rw [Nat.zero_add]; exact hBz.cl hj) ?_
    refine fill [.int .i64 x.op, .int .i64 x.a, .int .i64 x.b, .slice aq x.to.length cq] rfl ?_
    refine new fun bn z2 hbn hBn hsn hkn => ?_
    have hk02' := hkuz.tr hkn
    obtain ⟨av, cv, hvv⟩ := hO.len
    have hlen : (ra ++ rb).length ≤ 1048576 + 1099511627776 := by simp; omega
    refine (hO.kp hk02').ap1 τok rfl rfl (by decide) ⟨x.op, x.a, x.b, .slice aq x.to.length cq⟩ [.int .i64 x.op, .int .i64 x.a, .int .i64 x.b, .slice aq x.to.length cq] ⟨rfl, rfl⟩ (fun i t hi => by rw [Nat.zero_add]; exact hBn.cl hi) (by omega) (by simp only [maxLen]; omega) fun v' z3 hO3 hk3 hb3 => ?_
    refine int64 (by omega) (by omega) ?_
    refine ⟨(k + 1, v'), by simp only; omega, rfl, ⟨rfl, rfl, rfl, rfl, trivial⟩, hkl, hku.trans (hk02'.weak (by simp) |>.trans hk3 (fun x hx _ => hx)) (fun x hx hl => by
      have := (hO.block x (by simpa using hx)).1
      omega), rb ++ [⟨x.op, x.a, x.b, .slice aq x.to.length cq⟩], by rw [← List.append_assoc]; exact hO3, ?_⟩
    simp only
    rw [take_get hx, List.map_append]
    have hin : All2 (RawAt w.heap.size v z2) rb ((lb.take k).map (shift ra.length)) := hA.mono fun r y hy => hy.tr hk02'
    refine (hin.mono fun r y hy => hy.step hk3 hb3).append ⟨?_, trivial⟩
    refine ⟨rfl, rfl, rfl, i1, i2, i3, aq, cq, by rw [shift_len], ?_⟩
    rw [hlt]
    exact (hSq.mono (new_dn hO hkn)).mono (dn_step hk3 hb3)
end
end Go.Proofs.YtjpdkcejkogciaaDoor

/-
  Reference 21: behind, over code; what a row's numbers are; under.
-/
set_option linter.unusedSimpArgs false
set_option linter.unusedVariables false
namespace Cd
open Go Go.Wx
theorem ToOk.nil {B : Int} : ToOk B [] := fun x hx => by cases hx
theorem ToOk.app {B : Int} {l m : List Ins} (h : ToOk B l) (h' : ToOk B m) : ToOk B (l ++ m) := fun x hx => by
  rcases List.mem_append.1 hx with hx | hx
  · exact h x hx
  · exact h' x hx
theorem ToOk.one {B op a b : Int} : ToOk B [ins0 op a b] := fun x hx => by
  simp at hx
  subst hx
  intro t ht
  cases ht
theorem ToOk.slides {B m : Int} : ToOk B (slides m) := by
  unfold Cd.slides
  split
  · exact ToOk.one
  · exact ToOk.nil
theorem ToOk.to1 {B op : Int} {e : List Int} (he : ∀ t ∈ e, 0 ≤ t ∧ t ≤ B) : ToOk B [⟨op, 0, 0, e⟩] := fun x hx => by
  simp at hx
  subst hx
  exact he
section
variable {p : Flt}
theorem armsTo_ok {B : Int} (hB : 16 ≤ B) : ∀ (l : List Tr) (tk : Int) (b : Nat), (∀ x ∈ l, okT (cntF p) nxF x (tk, true)) → (b : Int) + armsLen l ≤ B → ∀ t ∈ armsTo l b, 0 ≤ t ∧ t ≤ B
  | [], _, _, _, _, t, ht => by cases ht
  | x :: r, tk, b, hok, hb, t, ht => by
    have hx := hok x (by simp)
    obtain ⟨n, ks⟩ := x
    obtain ⟨o, _⟩ := ok_ndF hx
    obtain ⟨y, rfl, h0, h16, _⟩ := ok_arm hx (by simpa using o)
    simp only [armsLen] at hb
    simp only [armsTo, List.mem_cons] at ht
    rcases ht with rfl | rfl | ht
    · split at hb <;> omega
    · simp only [Tr.n]
      omega
    · cases r with
      | nil => cases ht
      | cons z r =>
        simp only [List.isEmpty_cons, Bool.false_eq_true, if_false] at hb
        exact armsTo_ok hB (z :: r) tk (b + glen (.mk n [y]) + 1) (fun x hx => hok x (by simp [hx])) (by omega) t ht
mutual
theorem gen_to {B : Int} (hB : 16 ≤ B) : ∀ (x : Tr) (s : Int × Bool), okT (cntF p) nxF x s → ∀ (h : Int) (ps : List Int) (b : Nat), (b : Int) + glen x ≤ B → ToOk B (gen x h ps b)
  | .mk n ks, s, hok, h, ps, b, hb => by
    simp only [gen]
    simp only [glen] at hb
    by_cases o1 : n.op = 61
    · rw [if_pos o1]; exact ToOk.one
    rw [if_neg o1] at hb ⊢
    by_cases o2 : n.op = 67
    · rw [if_pos o2] at hb ⊢
      obtain ⟨v, x, rfl, h1, h2⟩ := ok_let hok o2
      simp only [glens] at hb
      simp only [genLet, underG]
      rw [gen_len v _ h1]
      exact (gen_to hB v _ h1 h ps b (by omega)).app ((gen_to hB x _ h2 _ _ _ (by omega)).app ToOk.slides)
    rw [if_neg o2] at hb ⊢
    by_cases o3 : n.op = 72
    · rw [if_pos o3] at hb ⊢
      obtain ⟨v, z, x, rfl, h1, h2, h3⟩ := ok_peel hok o3
      simp only [glens] at hb
      simp only [genPeel, underG]
      refine (gen_to hB v _ h1 h ps b (by omega)).app ?_
      refine ToOk.app (l := [_]) (ToOk.to1 (fun t ht => by simp at ht; subst ht; constructor <;> omega)) ?_
      refine ((gen_to hB x _ h3 _ _ _ (by omega)).app ToOk.slides).app ?_
      exact ToOk.app (l := [_]) (ToOk.to1 (fun t ht => by simp at ht; subst ht; constructor <;> omega)) (gen_to hB z _ h2 _ _ _ (by omega))
    rw [if_neg o3] at hb ⊢
    by_cases o4 : n.op = 69
    · rw [if_pos o4] at hb ⊢
      obtain ⟨v, arms, rfl, hbn, h1, h2⟩ := ok_sw hok o4
      simp only [glens, List.length_cons, Nat.add_sub_cancel] at hb
      simp only [genSw]
      have hal := armsLen_eq arms
      refine (gen_to hB v _ h1 h ps b (by omega)).app ?_
      cases arms with
      | nil => exact ToOk.nil
      | cons y r =>
        simp only [List.isEmpty_cons, Bool.false_eq_true, if_false]
        simp only [List.length_cons] at hal hb
        refine ToOk.app (l := [_]) (fun x hx => ?_) (genArms_to hB (y :: r) s.1 h2 h ps _ _ (by omega) (fun t ht => by simp at ht; subst ht; constructor <;> omega))
        simp at hx
        subst hx
        exact armsTo_ok hB (y :: r) s.1 _ h2 (by omega)
    rw [if_neg o4] at hb ⊢
    by_cases o5 : n.op = 70
    · rw [if_pos o5] at hb ⊢
      obtain ⟨x, rfl, h0, h16, h1⟩ := ok_arm hok o5
      simp only [glens] at hb
      simp only [genArm, underG]
      exact (gen_to hB x _ h1 _ _ _ (by omega)).app ToOk.slides
    rw [if_neg o5] at hb ⊢
    exact (genAll_to hB ks s.1 (ok_all hok o2 o3 o4 o5) h ps b (by omega)).app ToOk.one
theorem genAll_to {B : Int} (hB : 16 ≤ B) : ∀ (l : List Tr) (tk : Int), (∀ x ∈ l, okT (cntF p) nxF x (tk, false)) → ∀ (h : Int) (ps : List Int) (b : Nat), (b : Int) + glens l ≤ B → ToOk B (genAll l h ps b)
  | [], _, _, _, _, _, _ => ToOk.nil
  | x :: r, tk, hok, h, ps, b, hb => by
    simp only [glens] at hb
    simp only [genAll]
    rw [gen_len x _ (hok x (by simp))]
    exact (gen_to hB x _ (hok x (by simp)) h ps b (by omega)).app (genAll_to hB r tk (fun y hy => hok y (by simp [hy])) _ _ _ (by omega))
theorem genArms_to {B : Int} (hB : 16 ≤ B) : ∀ (l : List Tr) (tk : Int), (∀ x ∈ l, okT (cntF p) nxF x (tk, true)) → ∀ (h : Int) (ps : List Int) (b : Nat) (e : List Int), (b : Int) + armsLen l ≤ B → (∀ t ∈ e, 0 ≤ t ∧ t ≤ B) → ToOk B (genArms l h ps b e)
  | [], _, _, _, _, _, _, _, _ => ToOk.nil
  | x :: r, tk, hok, h, ps, b, e, hb, he => by
    simp only [armsLen] at hb
    simp only [genArms]
    refine (gen_to hB x _ (hok x (by simp)) h ps b (by split at hb <;> omega)).app ?_
    cases r with
    | nil => exact ToOk.nil
    | cons z r =>
      simp only [List.isEmpty_cons, Bool.false_eq_true, if_false] at hb ⊢
      exact (ToOk.to1 he).app (genArms_to hB (z :: r) tk (fun y hy => hok y (by simp [hy])) _ _ _ _ (by omega) he)
end
end
end Cd
namespace Go.Proofs.YtjpdkcejkogciaaDoor
open Go.Wx Cd

/-- code that may be appended to -/
def Cd1 (lo : Nat) (u : World) (v : Value) (l : List Ins) : Prop := ∃ rs, Own rRaw 50 lo u v rs ∧ All2 (RawAt lo v u) rs l
section
variable {lo : Nat} {w u z : World} {v : Value} {l : List Ins}
theorem Cd1.tr (h : Cd1 lo u v l) (k : Kp [] u z) : Cd1 lo z v l := by
  obtain ⟨rs, h1, h2⟩ := h
  exact ⟨rs, h1.kp k, h2.mono fun r x hx => hx.tr k⟩
theorem Cd1.done' (h : Cd1 lo u v l) (hn : l.length ≤ 1099511627776) : ∃ a c, v = .slice a l.length c ∧ Sl rIns (New lo u) a l := by
  obtain ⟨rs, h1, h2⟩ := h
  have hlen := h2.length
  obtain ⟨a', c', hv, hs⟩ := h1.den (by omega)
  refine ⟨a', c', by rw [hv, hlen], sl_of hs h2 rfl ?_⟩
  rintro r x b o ⟨e1, e2, e3, i1, i2, i3, a'', ct, hto', hsl'⟩ ⟨cs, ⟨rfl, _⟩, hcc⟩
  refine ⟨_, ⟨a'', ct, rfl, hsl'.mono fun b o u hu => ⟨hu.1, hu.2.2⟩, i1, i2, i3⟩, fun j u hu => ?_⟩
  rw [← e1, ← e2, ← e3, ← hto'] at hu
  exact hcc j u hu
theorem Cd1.done (h : Cd1 lo u v l) (hn : l.length ≤ 1048576) : ∃ a c, v = .slice a l.length c ∧ Sl rIns (New lo u) a l := h.done' (by omega)
theorem behindO_ct (hlo : lo ≤ w.heap.size) (la lb : List Ins) (aa ab : Option Addr) (ca cb : Nat) (ha : Sl rIns (New lo w) aa la) (hb : Sl rIns (New lo w) ab lb) (hla : la.length ≤ 1048576) (hto : ToOk 1048576 lb) :
    CallOk Tryd.prog 77 ∧ Calls Tryd.prog 77 #[.slice aa la.length ca, .slice ab lb.length cb] w (fun e w' => ∃ v, e = .returned v ∧ Cd1 lo w' v (la ++ lb.map (shift la.length)) ∧ (∀ g, v.ownBlock = some g → w.heap.size ≤ g) ∧ Kp [] w w') := by
  obtain ⟨ra, hra, hA⟩ := sl_raw ha
  have hlen := hA.length
  have := behindR_ct (New.sub lo w) ra aa ca hra lb ab cb hb (by omega) hto
  rw [hlen] at this
  refine ⟨this.1, ?_⟩
  refine Calls.mono this.2 fun e w' he => ?_
  obtain ⟨v, rb, rfl, hO, hB, hk⟩ := he
  have r1 : All2 (RawAt lo v w') ra la := hA.mono fun r x hx => by
    obtain ⟨h1, h2, h3, h4, h5, h6, a, c, h7, h8⟩ := hx
    exact ⟨h1, h2, h3, h4, h5, h6, a, c, h7, h8.mono fun b o u hu => ⟨hu.1, fun e => by have := (hO.block b e.symm).1; have := hu.2.lt; omega, hu.2.kp hk (by simp)⟩⟩
  have r2 : All2 (RawAt lo v w') rb (lb.map (shift la.length)) := hB.mono fun r x hx => by
    obtain ⟨h1, h2, h3, h4, h5, h6, a, c, h7, h8⟩ := hx
    exact ⟨h1, h2, h3, h4, h5, h6, a, c, h7, h8.mono fun b o u hu => ⟨Nat.le_trans hlo hu.1, hu.2⟩⟩
  exact ⟨v, rfl, ⟨_, hO.low' hlo, r1.append r2⟩, fun g hg => (hO.block g hg).1, hk⟩
theorem Cd1.low {lo' : Nat} (h : Cd1 lo u v l) (hl : lo' ≤ lo) : Cd1 lo' u v l := by
  obtain ⟨rs, h1, h2⟩ := h
  refine ⟨rs, h1.low' hl, h2.mono fun r x hx => ?_⟩
  obtain ⟨h1, h2, h3, h4, h5, h6, a, c, h7, h8⟩ := hx
  exact ⟨h1, h2, h3, h4, h5, h6, a, c, h7, h8.mono fun b o u hu => ⟨Nat.le_trans hl hu.1, hu.2⟩⟩
theorem behind_ct (hlo : lo ≤ w.heap.size) (la lb : List Ins) (aa ab : Option Addr) (ca cb : Nat) (ha : Sl rIns (New lo w) aa la) (hb : Sl rIns (New lo w) ab lb) (hla : la.length ≤ 1048576) (hlb : lb.length ≤ 1048576) (hto : ToOk 1048576 lb) :
    CallOk Tryd.prog 77 ∧ Calls Tryd.prog 77 #[.slice aa la.length ca, .slice ab lb.length cb] w (fun e w' => ∃ a' c', e = .returned (.slice a' (la ++ lb.map (shift la.length)).length c') ∧ Sl rIns (New lo w') a' (la ++ lb.map (shift la.length)) ∧ Cd1 lo w' (.slice a' (la ++ lb.map (shift la.length)).length c') (la ++ lb.map (shift la.length)) ∧ Kp [] w w') := by
  have := behindO_ct hlo la lb aa ab ca cb ha hb hla hto
  refine ⟨this.1, ?_⟩
  refine Calls.mono this.2 fun e w' he => ?_
  obtain ⟨v, rfl, hC, _, hk⟩ := he
  obtain ⟨a', c', rfl, hs⟩ := hC.done' (by simp; omega)
  exact ⟨a', c', rfl, hs, hC, hk⟩
theorem one_cd {b : Nat} (hb : lo ≤ b) {op a c : Int} (hB : Bk w.heap b [.int .i64 op, .int .i64 a, .int .i64 c, .slice none 0 0] 50) (h1 : I64 op) (h2 : I64 a) (h3 : I64 c) : Cd1 lo w (.slice (some ⟨b, 0, none⟩) 1 1) [ins0 op a c] :=
  ⟨[⟨op, a, c, .slice none 0 0⟩], ⟨⟨[[.int .i64 op, .int .i64 a, .int .i64 c, .slice none 0 0]], own_bk (n := 1) hB hb (by simp [rRaw]) (by simp [maxLen]), ⟨rfl, rfl⟩, trivial⟩, Nat.le_trans hb (Nat.le_of_lt hB.lt)⟩, ⟨rfl, rfl, rfl, h1, h2, h3, none, 0, rfl, Sl.nil _ _ _⟩, trivial⟩
theorem one_sl {b : Nat} (hb : lo ≤ b) {op a c : Int} (hB : Bk w.heap b [.int .i64 op, .int .i64 a, .int .i64 c, .slice none 0 0] 50) (h1 : I64 op) (h2 : I64 a) (h3 : I64 c) : Sl rIns (New lo w) (some ⟨b, 0, none⟩) [ins0 op a c] := by
  refine ⟨by simp, .inr ⟨b, 0, rfl, fun i x hi => ?_⟩⟩
  match i, hi with
  | 0, hi =>
    simp at hi
    subst hi
    exact ⟨_, ⟨none, 0, rfl, Sl.nil _ _ _, h1, h2, h3⟩, fun j u hu => ⟨hb, _, _, hB, by rw [show 0 + 0 * rIns.sz + j = j by simp]; rw [List.getElem?_toArray]; exact hu⟩⟩
end
end Go.Proofs.YtjpdkcejkogciaaDoor

/-
  Reference 21: under.
-/
set_option linter.unusedSimpArgs false
set_option linter.unusedVariables false
namespace Go.Proofs.YtjpdkcejkogciaaDoor
open Go.Wx Cd

/-- the reference's rows of so many nodes at most are made rightly -/
def RowR (p : Flt) (f : Nat) : Prop := ∀ (x : Tr) (C D : Mem) (a : Option Addr) (cap : Nat) (rest : List Nd) (h : Int) (ps : List Int) (ap : Option Addr) (cp : Nat) (w : World), tsize x ≤ f → okT (cntF p) nxF x (ps.length, false) → Sub C w → Sub D w →
  Sl rNd C a (row x ++ rest) → (row x ++ rest).length ≤ cap → Sl rInt D ap ps → 0 ≤ h → h + 300 * tsize x ≤ 1099511627776 → ps.length + 16 * tsize x ≤ 1048576 → tsize x ≤ 8192 →
  CallOk Tryd.prog 51 ∧ Calls Tryd.prog 51 #[.slice a (row x ++ rest).length cap, .int .i64 h, .slice ap ps.length cp] w (fun e w' => ∃ a' c', e = .returned (.tuple #[.slice a' (gen x h ps 0).length c', .int .i64 (tsize x)]) ∧ Sl rIns (New w.heap.size w') a' (gen x h ps 0) ∧ Cd1 w.heap.size w' (.slice a' (gen x h ps 0).length c') (gen x h ps 0) ∧ Kp [] w w')

section
variable {p : Flt} {f : Nat} {C D : Mem} {rest : List Nd} {ps : List Int} {h : Int} {w : World}
theorem under21_ct (hR : RowR p f) (x : Tr) (m : Nat) (hm : m ≤ 16) (hf : tsize x ≤ f) (hok : okT (cntF p) nxF x (ps.length + m, false)) (hS : Sub C w) (hD : Sub D w) (a : Option Addr) (cap : Nat) (hl : Sl rNd C a (row x ++ rest)) (hcap : (row x ++ rest).length ≤ cap)
    (ap : Option Addr) (cp : Nat) (hp : Sl rInt D ap ps) (h0 : 0 ≤ h) (hbd : h + 300 * (1 + tsize x) ≤ 1099511627776) (hpl : ps.length + 16 * (1 + tsize x) ≤ 1048576) (hsz : tsize x ≤ 8192) :
    CallOk Tryd.prog 76 ∧ Calls Tryd.prog 76 #[.slice a (row x ++ rest).length cap, .int .i64 h, .int .i64 m, .slice ap ps.length cp] w (fun e w' => ∃ a' c', e = .returned (.tuple #[.slice a' (underG m (gen x) h ps 0).length c', .int .i64 (tsize x)]) ∧ Sl rIns (New w.heap.size w') a' (underG m (gen x) h ps 0) ∧ Cd1 w.heap.size w' (.slice a' (underG m (gen x) h ps 0).length c') (underG m (gen x) h ps 0) ∧ Kp [] w w') := by
  refine ⟨⟨_, Tryd.func76, rfl, by decide⟩, ?_⟩
  refine calls_of (args := [_, _, _, _]) 45 [.tmp 8, .tmp 9] τok Tryd.func76 rfl rfl rfl (Nat.le_of_ble_eq_true rfl) ?_
  obtain ⟨nt, hnt⟩ : ∃ n, (row x ++ rest).length = n := ⟨_, rfl⟩
  refine fill [] rfl ?_
  refine new fun b1 w1 hb1 hB1 hs1 hk1 => ?_
  have hO : Own rInt 3 w.heap.size w1 (.slice (some ⟨b1, 0, none⟩) 0 0) [] := Own.empty rInt hB1 (by omega)
  refine hO.apF τok rfl rfl Nat.one_pos flatI (hD.tr hk1) ps hp (by simp; omega) (by simp [maxLen]; omega) fun v2 w2 hO2 hk2 _ => ?_
  have hk02 : Kp [] w w2 := hk1.own hk2 hO
  rw [List.nil_append] at hO2
  refine lp τok (σ := Nat × Value) (fun q => [(0, .slice a (row x ++ rest).length cap), (1, .int .i64 h), (2, .int .i64 m), (10, q.2), (11, .int .i64 q.1)])
    (fun q u => q.1 ≤ m ∧ Kp [] w u ∧ Own rInt 3 w.heap.size u q.2 (ps ++ rng h q.1)) (fun q => m - q.1) (0, v2) rfl
    ⟨rfl, rfl, rfl, rfl, rfl, trivial⟩ ⟨Nat.zero_le _, hk02, by simpa [rng] using hO2⟩ ?_
  clear hO hO2 hk1 hk2 hk02 hB1 hs1 hb1
  rintro ⟨i, v⟩ u ⟨hi, hku, hO⟩
  simp only at hi hO
  have hrl : (ps ++ rng h i).length = ps.length + i := by simp [rng]
  obtain ⟨av, cv, hvv, hsv⟩ := hO.den (by omega)
  subst hvv
  refine br_dec (fun g1 => ?_) (fun g1 => ?_)
  · have hil : i < m := by omega
    refine int64 (by omega) (by omega) ?_
    refine fill [.int .i64 (h + i)] rfl ?_
    refine new fun b2 w3 hb2 hB2 hs2 hk2 => ?_
    refine (hO.kp hk2).ap1 τok rfl rfl Nat.one_pos (h + i) [.int .i64 (h + i)] ⟨rfl, by constructor <;> omega⟩ (fun j t hj => by rw [Nat.zero_add]; exact hB2.cl hj) (by omega) (by rw [hrl]; simp only [maxLen]; omega) fun v' w4 hO4 hk4 _ => ?_
    refine int64 (by omega) (by omega) ?_
    refine ⟨(i + 1, v'), by simp only; omega, rfl, ⟨rfl, rfl, rfl, rfl, rfl, trivial⟩, by simp only; omega, (hku.tr hk2).own hk4 (hO.kp hk2), ?_⟩
    have : rng h (i + 1) = rng h i ++ [h + i] := by simp [rng, List.range_succ]
    simp only
    rw [this, ← List.append_assoc]
    exact hO4
  · have him : i = m := by omega
    subst him
    have hg := gen_len x _ hok
    have hgb := glen_bd x _ hok
    have hmn : ((i : Int)).toNat = i := by omega
    refine int64 (by omega) (by omega) ?_
    refine ev_call (hR x C (New w.heap.size u) a cap rest (h + i) (ps ++ rng h i) av cv u hf (by rw [hrl]; simpa using hok) (hS.tr hku) (New.sub _ _) hl hcap hsv (by omega) (by omega) (by omega) hsz) ?_
    rintro e w3 ⟨a3, c3, rfl, hs3, hC3, hk3⟩
    have hk03 := hku.tr hk3
    have hs3 : Sl rIns (New w.heap.size w3) a3 (gen x (h + i) (ps ++ rng h i) 0) := hs3.mono fun b o t ht => ⟨Nat.le_trans hku.size ht.1, ht.2⟩
    have hgl := hg (h + i) (ps ++ rng h i) 0
    refine br_dec (fun g2 => ?_) (fun g2 => ?_)
    · refine ev_call (one21_ct 14 i 0 none 0 0 w3) ?_
      rintro e w4 ⟨rfl, hB4, hk4, hs4⟩
      have hs34 : Sl rIns (New w.heap.size w4) a3 (gen x (h + i) (ps ++ rng h i) 0) := hs3.mono fun b o t ht => ⟨ht.1, ht.2.kp hk4 (by simp)⟩
      refine ev_call (behind_ct (lo := w.heap.size) (by have := hk03.size; omega) _ [ins0 14 i 0] a3 _ c3 1 hs34 (one_sl (by have := hk03.size; omega) hB4 (by constructor <;> omega) (by constructor <;> omega) (by constructor <;> omega)) (by omega) (by simp) ToOk.one) ?_
      rintro e w5 ⟨a5, c5, rfl, hs5, hC5, hk5⟩
      have e5 : gen x (h + i) (ps ++ rng h i) 0 ++ [ins0 14 (i : Int) 0].map (shift (gen x (h + i) (ps ++ rng h i) 0).length) = underG i (gen x) h ps 0 := by
        simp only [underG, slides, List.map_cons, List.map_nil, shift_ins0]
        rw [if_pos (by omega), hmn]
      rw [e5] at hs5 hC5
      rw [e5]
      exact ⟨a5, c5, rfl, hs5, hC5, (hk03.tr hk4).tr hk5⟩
    · have e5 : gen x (h + i) (ps ++ rng h i) 0 = underG i (gen x) h ps 0 := by
        simp only [underG, slides]
        rw [if_neg (by omega), hmn, List.append_nil]
      rw [e5] at hs3 hC3
      rw [e5]
      exact ⟨a3, c3, rfl, hs3, hC3.low hku.size, hk03⟩
end
end Go.Proofs.YtjpdkcejkogciaaDoor

