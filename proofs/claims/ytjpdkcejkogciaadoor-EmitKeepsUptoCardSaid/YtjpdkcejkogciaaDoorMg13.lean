/-
  Own texts put together: EmC, EmD, EmE, EmF.
-/
import Derived.Test.YtjpdkcejkogciaaDoorMg12
/-
  Package emit: put, here, next, kids, cut.
-/
set_option linter.unusedSimpArgs false
set_option linter.unusedVariables false
namespace Go.Proofs.YtjpdkcejkogciaaDoor
open Go.Wx Cd

section
variable {C : Mem} {w0 : World} {X : List Nat} {pe : Nat} {out : List Ins} {lf : List Nd} {ps : List Int} {w : World}

theorem put_ct (h : EmS C w0 X pe out lf ps w) (op a b : Int) (h1 : I64 op) (h2 : I64 a) (h3 : I64 b) (hn : out.length ≤ 1048576) :
    CallOk Tryd.prog 40 ∧ Calls Tryd.prog 40 #[.pointer (some ⟨pe, 0, none⟩), .int .i64 op, .int .i64 a, .int .i64 b] w (fun e w' => e = .returned (.int .i64 out.length) ∧ EmS C w0 X pe (out ++ [ins0 op a b]) lf ps w') := by
  obtain ⟨vo, al, cl, vp, rs, h⟩ := h
  refine ⟨⟨_, Tryd.func40, rfl, by decide⟩, ?_⟩
  refine calls_of (args := [_, _, _, _]) 28 [.tmp 8] τok Tryd.func40 rfl rfl rfl (Nat.le_of_ble_eq_true rfl) ?_
  refine ld (h.blk.cl rfl).cell ?_
  refine fill [.int .i64 op, .int .i64 a, .int .i64 b, .slice none 0 0] rfl ?_
  refine new fun b1 w1 hb1 hB1 hs1 hk1 => ?_
  refine (h.tr hk1).pushIns h1 h2 h3 (fun j u hj => hB1.cl hj) hn fun vo' w2 hst => ?_
  refine hst _ fun w3 hE => ?_
  refine ld (hE.blk.cl rfl).cell ?_
  obtain ⟨ao, co, hvo⟩ := hE.raw.len
  have hlen := hE.ins.length
  rw [hlen] at hvo
  subst hvo
  have hol2 : (out ++ [ins0 op a b]).length = out.length + 1 := by simp
  refine int64 (by omega) (by omega) ?_
  refine ⟨?_, _, _, _, _, _, hE⟩
  simp [one]

theorem EmV.atIns {vo : Value} {al : Option Addr} {cl : Nat} {vp : Value} {rs : List Raw} (h : EmV C w0 X pe out lf ps vo al cl vp rs w) (hol : out.length ≤ 1048576) {i : Nat} {r : Raw} (hr : rs[i]? = some r) : ∃ g cap, vo = .slice (some ⟨g, 0, none⟩) out.length cap ∧ Cl w.heap g (0 + i * 4 + 3) r.to ∧ pe + 1 ≤ g := by
  have hlen := h.ins.length
  obtain ⟨a, cap, hvo, hsl⟩ := h.raw.den (by omega)
  obtain ⟨b, o, rfl, hc⟩ := hsl.at (get_lt hr)
  obtain ⟨cs, ⟨rfl, _⟩, hcc⟩ := hc i r hr
  have hcell := hcc 3 _ rfl
  have ho : o = 0 := by
    obtain ⟨css, h1, _⟩ := h.raw.row
    rcases h1.2 with ⟨e, h0⟩ | ⟨g, cap', cur, e, _⟩
    · rw [hvo] at e; cases e
    · rw [hvo] at e
      injection e with e1 e2 e3
      have e1 := Option.some.inj e1
      injection e1
  subst ho
  exact ⟨b, cap, by rw [hvo, hlen], hcell.2.cl, (h.owned (u := vo) (by simp) (by rw [hvo]; rfl)).1⟩

theorem _root_.Go.Wx.forkG {P : Program} {n : Nat} {S : World → Prop} {l : List Oper} {K : Exit → St → World → Prop} {fuel : Nat} {listed : Array Bool} {s : St} {w : World} (T : St → World → Prop) (fuel' : Nat) (listed' : Array Bool)
    (tail : ∀ s w, T s w → EvAnyG P n S l K fuel' listed' s w) (main : (∀ s w, T s w → EvAnyG P n S l K fuel' listed' s w) → EvAnyG P n S l K fuel listed s w) : EvAnyG P n S l K fuel listed s w := main tail

theorem here_ct (h : EmS C w0 X pe out lf ps w) (i : Nat) {x : Ins} (hx : out[i]? = some x) (hn : x.to.length + 1 ≤ 1048576) (hol : out.length ≤ 1048576) :
    CallOk Tryd.prog 87 ∧ Calls Tryd.prog 87 #[.pointer (some ⟨pe, 0, none⟩), .int .i64 i] w (fun e w' => e = .returned (.tuple #[]) ∧ EmS C w0 X pe (addTo out i out.length) lf ps w') := by
  obtain ⟨vo, al, cl, vp, rs, h⟩ := h
  have hil := get_lt hx
  have hlen := h.ins.length
  obtain ⟨r, hr⟩ : ∃ r, rs[i]? = some r := ⟨rs[i]'(by omega), by simp⟩
  obtain ⟨g, cap, hvo, hcell, hgl⟩ := h.atIns hol hr
  refine ⟨⟨_, Tryd.func87, rfl, by decide⟩, ?_⟩
  refine calls_of (args := [_, _]) 26 [] τok Tryd.func87 rfl rfl rfl (Nat.le_of_ble_eq_true rfl) ?_
  have hgo : vo.ownBlock = some g := by rw [hvo]; rfl
  have hne : g ∉ r.to.ownBlock.toList := h.others (k := i + 2) (v := r.to) (by simp [hr]) (i := 0) rfl (by omega) hgo
  have hB : Bk w.heap pe [.slice (some ⟨g, 0, none⟩) out.length cap, .slice al lf.length cl, vp, .int .i64 16384] 88 := by rw [← hvo]; exact h.blk
  refine drawG τok (fun u => Bk u.heap pe [.slice (some ⟨g, 0, none⟩) out.length cap, .slice al lf.length cl, vp, .int .i64 16384] 88) ?_
  refine readsG τok [0, 1, 2, 3, 4, 5, 6, 7, 8, 9, 10, 11, 13, 14, 15, 16, 17] 6 #[true, true, true, true, true, true, true, true, true, true, true, true, false, true, true, true, true, true, false, false, false, false, false] rfl rfl (by kernel_rfl) (by kernel_rfl) (by kernel_rfl) hB ?_
  refine ldQ (fun u hu => hu.cl rfl) ?_
  refine ldQ (fun u hu => hu.cl rfl) ?_
  refine ix i rfl hil ?_
  refine ldQ (fun u hu => hu.cl rfl) ?_
  refine forkG (fun s u => ∃ b1, s.d = [] ∧ Has s [(7, .slice (some ⟨g, 0, none⟩) out.length cap), (8, .int .i64 i), (16, r.to), (22, .slice (some ⟨b1, 0, none⟩) 1 1)] ∧ Kp [] w u ∧ Bk u.heap b1 [.int .i64 out.length] 3) 4 #[true, true, true, true, true, true, true, true, true, true, true, true, true, true, true, true, true, true, true, false, false, false, false] ?_ fun tail => ?_
  · rintro ⟨se, sd⟩ w1 ⟨b1, rfl, hs, hk1, hB1⟩
    refine weakG _ hs ?_
    refine nextG τok 19 3 #[true, true, true, true, true, true, true, true, true, true, true, true, true, true, true, true, true, true, true, true, false, false, false] rfl rfl rfl (by kernel_rfl) ?_
    refine (h.tr hk1).pushTo hr hx (q := out.length) ⟨by omega, by omega⟩ (hB1.cl rfl) hn hol fun g' cap' tv' w2 hvo' hB2 hk2 hst => ?_
    rw [hvo] at hvo'
    injection hvo' with e1 e2 e3
    have e1 := Option.some.inj e1
    injection e1 with e1
    subst e1 e3
    rw [hvo] at hB2
    refine ⟨.inl hB2, ?_⟩
    refine nextG τok 20 2 #[true, true, true, true, true, true, true, true, true, true, true, true, true, true, true, true, true, true, true, true, true, false, false] rfl rfl rfl (by kernel_rfl) ?_
    refine ix i rfl hil ?_
    refine ⟨.inl hB2, ?_⟩
    refine nextG τok 21 1 #[true, true, true, true, true, true, true, true, true, true, true, true, true, true, true, true, true, true, true, true, true, true, false] rfl rfl rfl (by kernel_rfl) ?_
    refine ⟨.inl hB2, ?_⟩
    refine nextG τok 22 0 #[true, true, true, true, true, true, true, true, true, true, true, true, true, true, true, true, true, true, true, true, true, true, true] rfl rfl rfl (by kernel_rfl) ?_
    rw [add_off]
    refine hst _ fun w3 hE hB3 => ?_
    rw [hvo] at hB3
    refine ⟨.inl hB3, ?_⟩
    refine doneG (by kernel_rfl) ?_
    exact ⟨rfl, hE⟩
  · refine twoG τok 12 18 5 #[true, true, true, true, true, true, true, true, true, true, true, true, true, true, true, true, true, true, false, false, false, false, false] #[true, true, true, true, true, true, true, true, true, true, true, true, false, true, true, true, true, true, true, false, false, false, false] rfl rfl rfl rfl rfl (by kernel_rfl) ?_ ?_
    · refine ld hcell.cell ?_
      refine ⟨.inl hB, ?_⟩
      refine nextG τok 18 4 #[true, true, true, true, true, true, true, true, true, true, true, true, true, true, true, true, true, true, true, false, false, false, false] rfl rfl rfl (by kernel_rfl) ?_
      refine fill [.int .i64 out.length] rfl ?_
      refine new fun b1 w1 hb1 hB1 hs1 hk1 => ?_
      have hk1 : Kp [] w w1 := hk1.rd
      exact ⟨.inl (hB.kp hk1 (by simp)), tail _ _ ⟨b1, rfl, ⟨rfl, rfl, rfl, rfl, trivial⟩, hk1, hB1⟩⟩
    · refine fill [.int .i64 out.length] rfl ?_
      refine new fun b1 w1 hb1 hB1 hs1 hk1 => ?_
      have hk1 : Kp [] w w1 := hk1.rd
      refine ⟨.inl (hB.kp hk1 (by simp)), ?_⟩
      refine nextG τok 12 4 #[true, true, true, true, true, true, true, true, true, true, true, true, true, true, true, true, true, true, true, false, false, false, false] rfl rfl rfl (by kernel_rfl) ?_
      refine ld (hcell.kp hk1 (by simp)).cell ?_
      exact ⟨.inl (hB.kp hk1 (by simp)), tail _ _ ⟨b1, rfl, ⟨rfl, rfl, rfl, rfl, trivial⟩, hk1, hB1⟩⟩

theorem next_ct {n : Nd} {r : List Nd} (h : EmS C w0 X pe out (n :: r) ps w) :
    CallOk Tryd.prog 63 ∧ Calls Tryd.prog 63 #[.pointer (some ⟨pe, 0, none⟩)] w (fun e w' => e = .returned (.agg #[.int .i64 n.op, .int .i64 n.a, .int .i64 n.b]) ∧ EmS C w0 X pe out r ps w') := by
  obtain ⟨vo, al, cl, vp, rs, h⟩ := h
  refine ⟨⟨_, Tryd.func63, rfl, by decide⟩, ?_⟩
  refine calls_of (args := [_]) 19 [.cell 2 47] τok Tryd.func63 rfl rfl rfl (Nat.le_of_ble_eq_true rfl) ?_
  obtain ⟨b, o, hal, i1, i2, i3, hcells⟩ := sl_nd h.left (i := 0) (x := n) rfl
  refine new fun b2 w1 hb2 hB2 hs1 hk1 => ?_
  have h1 := h.tr hk1
  refine ld (h1.blk.cl rfl).cell ?_
  refine ixE hal 0 rfl (by simp) ?_
  refine ldN [.int .i64 n.op, .int .i64 n.a, .int .i64 n.b] rfl (fun j v hj => h1.sub _ _ _ (hcells j v hj)) ?_
  refine new fun b3 w2 hb3 hB3 hs2 hk2 => ?_
  refine stN hB3 rfl (by simp [Value.oneCell']) fun w3 hB3 hs3 hk3 => ?_
  have hB3 : Bk w3.heap b3 [.int .i64 n.op, .int .i64 n.a, .int .i64 n.b] 47 := hB3
  have hk13 : Kp [] w1 w3 := hk2.newSt hb3 hk3
  have h3 := h1.tr hk13
  obtain ⟨a', hsl, hSl⟩ := h3.left.from h3.cap 1 (by simp)
  refine ld (h3.blk.cl rfl).cell ?_
  refine slcL' τok rfl 1 _ rfl (by simp) hsl ?_
  refine h3.setLeft hSl (by have := h3.cap; simp at this ⊢; omega) fun w4 h4 hk4 => ?_
  have hpl := h.blk.lt
  have hB24 : Bk w4.heap b2 [.int .i64 0, .int .i64 0, .int .i64 0] 47 := (show Bk w1.heap b2 [.int .i64 0, .int .i64 0, .int .i64 0] 47 from hB2).kp hk13 (by simp) |>.kp hk4 (by simp; omega)
  have hB34 := hB3.kp hk4 (by simp; have := hk1.size; omega)
  refine ldN [.int .i64 n.op, .int .i64 n.a, .int .i64 n.b] rfl (fun j v hj => by rw [Nat.zero_add]; exact hB34.cl hj) ?_
  refine stN hB24 rfl (by simp [Value.oneCell']) fun w5 hB5 hs5 hk5 => ?_
  refine resN τok rfl [.int .i64 n.op, .int .i64 n.a, .int .i64 n.b] rfl (fun j v hj => hB5.cl hj) ?_
  exact ⟨rfl, _, _, _, _, _, h4.kpx hk5 (fun y hy => by
    have hy : y = b2 := by simpa using hy
    subst hy
    exact ⟨by omega, by have := h.kp.size; omega, fun u hu hg => by have := (h.owned (u := u) hu hg).2; omega⟩)⟩

def okE (p : Flt) (x : Tr) : Prop := ∃ s, okT (cntF p) nxF x s
theorem okE_kids {p : Flt} {n : Nd} {ks : List Tr} (h : okE p (.mk n ks)) : (∃ tk c, ndF p tk n = some c ∧ c.toNat = ks.length) ∧ ∀ x ∈ ks, okE p x := by
  obtain ⟨s, h⟩ := h
  obtain ⟨_, c, hc, hl⟩ := ok_ndF h
  refine ⟨⟨s.1, c, hc, hl⟩, ?_⟩
  have key : ∀ (l : List Tr) (k : Nat), okL (cntF p) nxF l n s k → ∀ x ∈ l, okE p x := by
    intro l
    induction l with
    | nil => intro k _ x hx; cases hx
    | cons y r ih =>
      intro k ⟨h1, h2⟩ x hx
      rcases List.mem_cons.1 hx with rfl | hx
      · exact ⟨_, h1⟩
      · exact ih (k + 1) h2 x hx
  exact key ks 0 h.2

theorem ekids_ct {p : Flt} {tk : Int} {n : Nd} {c : Int} (hc : ndF p tk n = some c) (nb : I64 n.b) (w : World) : CallOk Tryd.prog 99 ∧ Calls Tryd.prog 99 #[.agg #[.int .i64 n.op, .int .i64 n.a, .int .i64 n.b]] w (fun e w' => e = .returned (.int .i64 c) ∧ Kp [] w w') := by
  have ho := ndF_op hc
  have val : c = (if n.op = 66 ∨ n.op = 67 ∨ n.op = 73 then 2 else if n.op = 70 ∨ n.op = 71 then 1 else if n.op = 72 then 3 else if n.op = 65 ∨ n.op = 68 then n.b else if n.op = 69 then 1 + n.b else 0) := by
    unfold ndF at hc
    rcases ho with o | o | o | o | o | o | o | o | o | o | o | o | o <;> simp [o] at hc ⊢ <;> omega
  have hb69 : n.op = 69 → n.b ≤ 16 := fun o => by
    unfold ndF at hc
    simp [o, inM] at hc
    omega
  refine ⟨⟨_, Tryd.func99, rfl, by decide⟩, ?_⟩
  refine calls_of (args := [_]) 24 [.tmp 2] τok Tryd.func99 rfl rfl rfl (Nat.le_of_ble_eq_true rfl) ?_
  refine new fun bn w1 hbn hN hsn hk1 => ?_
  have hN : Bk w1.heap bn [.int .i64 n.op, .int .i64 n.a, .int .i64 n.b] 47 := hN
  have ret : ∀ x w', Kp [] w w' → c = x → Ending.returned (one [.int .i64 x]) = .returned (.int .i64 c) ∧ Kp [] w w' := fun n w' h e => ⟨by rw [e]; rfl, h⟩
  refine ld (hN.cl rfl).cell ?_
  refine br_dec (fun o66 => ?_) (fun o66 => ?_)
  · refine br_yes o66 ?_
    exact ret _ _ hk1 (by rw [val, if_pos (by omega)])
  refine br_dec (fun o67 => ?_) (fun o67 => ?_)
  · refine br_yes o67 ?_
    exact ret _ _ hk1 (by rw [val, if_pos (by omega)])
  refine br_dec (fun o73 => ?_) (fun o73 => ?_)
  · exact ret _ _ hk1 (by rw [val, if_pos (by omega)])
  refine br_dec (fun o70 => ?_) (fun o70 => ?_)
  · refine br_yes o70 ?_
    exact ret _ _ hk1 (by rw [val, if_neg (by omega), if_pos (by omega)])
  refine br_dec (fun o71 => ?_) (fun o71 => ?_)
  · exact ret _ _ hk1 (by rw [val, if_neg (by omega), if_pos (by omega)])
  refine br_dec (fun o72 => ?_) (fun o72 => ?_)
  · exact ret _ _ hk1 (by rw [val, if_neg (by omega), if_neg (by omega), if_pos (by omega)])
  refine br_dec (fun o65 => ?_) (fun o65 => ?_)
  · refine br_yes o65 ?_
    refine ld (hN.cl rfl).cell ?_
    exact ret _ _ hk1 (by rw [val, if_neg (by omega), if_neg (by omega), if_neg (by omega), if_pos (by omega)])
  refine br_dec (fun o68 => ?_) (fun o68 => ?_)
  · refine ld (hN.cl rfl).cell ?_
    exact ret _ _ hk1 (by rw [val, if_neg (by omega), if_neg (by omega), if_neg (by omega), if_pos (by omega)])
  refine br_dec (fun o69 => ?_) (fun o69 => ?_)
  · refine ld (hN.cl rfl).cell ?_
    have := hb69 o69
    refine int64 (by have := nb.1; omega) (by omega) ?_
    exact ret _ _ hk1 (by rw [val, if_neg (by omega), if_neg (by omega), if_neg (by omega), if_neg (by omega), if_pos o69])
  · exact ret _ _ hk1 (by rw [val, if_neg (by omega), if_neg (by omega), if_neg (by omega), if_neg (by omega), if_neg o69])

theorem cut_ct {p : Flt} (hcaps : CapsOk p) {x : Tr} {rest : List Nd} (hx : okE p x) (h : EmS C w0 X pe out (row x ++ rest) ps w) :
    CallOk Tryd.prog 86 ∧ Calls Tryd.prog 86 #[.pointer (some ⟨pe, 0, none⟩)] w (fun e w' => ∃ a c, e = .returned (.slice a (row x).length c) ∧ Sl rNd C a (row x) ∧ (row x).length ≤ c ∧ EmS C w0 X pe out rest ps w') := by
  obtain ⟨lf, hlf⟩ : ∃ lf, row x ++ rest = lf := ⟨_, rfl⟩
  rw [hlf] at h
  obtain ⟨vo, al, cl, vp, rs, h⟩ := h
  refine ⟨⟨_, Tryd.func86, rfl, by decide⟩, ?_⟩
  refine calls_of (args := [_]) 46 [.tmp 2] τok Tryd.func86 rfl rfl rfl (Nat.le_of_ble_eq_true rfl) ?_
  have hl := h.left.1
  refine lp τok (σ := Nat × List Tr) (fun q => [(0, .pointer (some ⟨pe, 0, none⟩)), (3, .int .i64 q.1), (4, .int .i64 q.2.length)])
    (fun q w' => q.1 ≤ lf.length ∧ lf.drop q.1 = rows q.2 ++ rest ∧ q.1 + (rows q.2).length = (row x).length ∧ (∀ y ∈ q.2, okE p y) ∧ Kp [] w w' ∧ q.2.length ≤ 1 + 255 * q.1) (fun q => lf.length - q.1) (0, [x]) rfl
    ⟨rfl, rfl, rfl, trivial⟩ ⟨Nat.zero_le _, by simp [rows, hlf], by simp [rows], by simpa using hx, Kp.refl _ _, by simp⟩ ?_
  rintro ⟨k, fr⟩ w1 ⟨hk, hfr, hlen, hok, hk1, hbd⟩
  simp only at hk hfr hlen hbd
  have h1 := h.tr hk1
  refine br_dec (fun g1 => ?_) (fun g1 => ?_)
  · refine ld (h1.blk.cl rfl).cell ?_
    match fr, g1, hfr, hlen, hok, hbd with
    | .mk n ks :: fr, _, hfr, hlen, hok, hbd =>
      have hlt : k < lf.length := by
        have := congrArg List.length hfr
        simp only [rows, row, List.length_drop, List.length_append, List.length_cons] at this
        omega
      obtain ⟨n', hn, hd⟩ := drop_get hlt
      rw [hd] at hfr
      simp only [rows, row, List.cons_append, List.append_assoc, List.cons.injEq] at hfr
      obtain ⟨rfl, hfr⟩ := hfr
      obtain ⟨⟨tk, c, hc, hcl⟩, hkids⟩ := okE_kids (hok (.mk n' ks) (by simp))
      have hcb := ndF_bd hcaps hc
      obtain ⟨b, o, hal, i1, i2, i3, hcells⟩ := sl_nd h1.left hn
      refine br_dec (fun g2 => ?_) (fun g2 => ?_)
      · refine ld (h1.blk.cl rfl).cell ?_
        refine ixE hal k rfl hlt ?_
        refine ldN [.int .i64 n'.op, .int .i64 n'.a, .int .i64 n'.b] rfl (fun j v hj => h1.sub _ _ _ (hcells j v hj)) ?_
        refine ev_call (ekids_ct hc i3 w1) ?_
        rintro e w2 ⟨rfl, hk2⟩
        simp only [List.length_cons] at hbd
        refine int64 (by omega) (by omega) ?_
        refine int64 (by simp only [List.length_cons]; omega) (by simp only [List.length_cons]; omega) ?_
        refine int64 (by omega) (by omega) ?_
        refine ⟨(k + 1, ks ++ fr), by simp only; omega, rfl, ⟨rfl, rfl, ?_, trivial⟩, by simp only; omega, ?_, ?_, ?_, hk1.tr hk2, ?_⟩
        · show some (Value.int .i64 _) = some (.int .i64 _)
          simp only [List.length_append, List.length_cons]
          congr 2
          omega
        · simp only [rows_app, List.append_assoc]
          exact hfr
        · simp only [rows_app, List.length_append]
          simp only [rows, row, List.length_append, List.length_cons] at hlen
          omega
        · intro y hy
          rcases List.mem_append.1 hy with hy | hy
          · exact hkids y hy
          · exact hok y (by simp [hy])
        · simp only [List.length_append]
          omega
      · exact absurd (show ((k : Nat) : Int) < (lf.length : Int) by omega) g2
  · match fr, g1, hfr, hlen with
    | _ :: _, g1, _, _ => exact absurd (by simp only [List.length_cons]; omega) g1
    | [], _, hfr, hlen =>
      simp only [rows, List.nil_append, List.length_nil, Nat.add_zero] at hfr hlen
      subst hlen
      have htake : lf.take (row x).length = row x := by rw [← hlf]; simp
      obtain ⟨b, o, hal, hcc⟩ : ∃ b o, al = some ⟨b, o, none⟩ ∧ True := by
        have hp := row_pos x
        have hlt : 0 < lf.length := by rw [← hlf]; simp; omega
        obtain ⟨n', hn, _⟩ := drop_get hlt
        obtain ⟨b, o, hal, _⟩ := sl_nd h1.left hn
        exact ⟨b, o, hal, trivial⟩
      subst hal
      refine ld (h1.blk.cl rfl).cell ?_
      refine slcH' τok rfl (row x).length _ rfl (by have := h1.cap; omega) sliced_hi ?_
      refine ld (h1.blk.cl rfl).cell ?_
      obtain ⟨a', hsl, hSl⟩ := h1.left.from h1.cap (row x).length hk
      refine slcL' τok rfl (row x).length _ rfl hk hsl ?_
      refine h1.setLeft hSl (by have := h1.cap; rw [List.length_drop]; omega) fun w2 h2 hk2 => ?_
      refine ⟨_, _, rfl, by have := h1.left.take (row x).length; rwa [htake] at this, by have := h1.cap; omega, ?_⟩
      rw [hfr] at h2
      exact ⟨_, _, _, _, _, h2⟩
end
end Go.Proofs.YtjpdkcejkogciaaDoor

/-
  Package emit: rows, under, peel.
-/
set_option linter.unusedSimpArgs false
set_option linter.unusedVariables false
namespace Go.Proofs.YtjpdkcejkogciaaDoor
open Go.Wx Cd

def ownedL (pe : Nat) (vo vp : Value) (rs : List Raw) : List Nat := pe :: (vo :: vp :: rs.map Raw.to).filterMap Value.ownBlock
section
variable {C : Mem} {w0 : World} {X : List Nat} {pe : Nat} {out : List Ins} {lf : List Nd} {ps : List Int} {vo : Value} {al : Option Addr} {cl : Nat} {vp : Value} {rs : List Raw} {w w' : World}

theorem EmV.ownedL_lt (h : EmV C w0 X pe out lf ps vo al cl vp rs w) : ∀ x ∈ ownedL pe vo vp rs, x < w.heap.size := by
  intro x hx
  rcases List.mem_cons.1 hx with rfl | hx
  · exact h.blk.lt
  · obtain ⟨u, hu, hg⟩ := List.mem_filterMap.1 hx
    exact (h.owned hu hg).2
theorem EmV.rebase (h : EmV C w0 X pe out lf ps vo al cl vp rs w) : EmV C w (ownedL pe vo vp rs) pe out lf ps vo al cl vp rs w :=
  ⟨h.sub, Kp.refl _ _, fun _ => List.mem_cons_self, fun b o v hc => ⟨h.sub.lt b o v hc, fun hx => by
    rcases List.mem_cons.1 hx with rfl | hx
    · exact (h.nc hc).1 rfl
    · obtain ⟨u, hu, hg⟩ := List.mem_filterMap.1 hx
      exact (h.nc hc).2 u hu hg⟩, h.blk, h.left, h.cap, h.pls, h.raw, h.ins, h.apart, fun u hu g hg _ => List.mem_cons_of_mem _ (List.mem_filterMap.2 ⟨u, hu, hg⟩)⟩
theorem EmV.ownedX (h : EmV C w0 X pe out lf ps vo al cl vp rs w) : ∀ x ∈ ownedL pe vo vp rs, x < w0.heap.size → x ∈ X := by
  intro x hx hl
  rcases List.mem_cons.1 hx with rfl | hx
  · exact h.px hl
  · obtain ⟨u, hu, hg⟩ := List.mem_filterMap.1 hx
    exact h.own u hu x hg hl
theorem EmS.kp' (h : EmS C w0 X pe out lf ps w) : Kp X w0 w := by
  obtain ⟨_, _, _, _, _, h⟩ := h
  exact h.kp
theorem EmV.back {out' : List Ins} {lf' : List Nd} {ps' : List Int} (h : EmV C w0 X pe out lf ps vo al cl vp rs w) (h' : EmS C w (ownedL pe vo vp rs) pe out' lf' ps' w') : EmS C w0 X pe out' lf' ps' w' := by
  obtain ⟨vo', al', cl', vp', rs', h'⟩ := h'
  refine ⟨vo', al', cl', vp', rs', h'.sub, h.kp.trans h'.kp fun x hx hl => h.ownedX x hx hl, h.px, h.old, h'.blk, h'.left, h'.cap, h'.pls, h'.raw, h'.ins, h'.apart, fun u hu g hg hl => ?_⟩
  exact h.ownedX g (h'.own u hu g hg (by have := h.kp.size; omega)) hl

/-- places are taken away again -/
theorem EmV.popPlaces {qs : List Int} (h : EmV C w0 X pe out lf (ps ++ qs) vo al cl vp rs w) : ∃ a cap, vp = .slice a (ps ++ qs).length cap ∧ ps.length ≤ cap ∧ sliced a 0 ps.length cap 1 = .slice a ps.length cap ∧
    ∀ {K : World → Prop}, (∀ w', EmS C w0 X pe out lf ps w' → K w') → EvSt w ⟨pe, 2, none⟩ (.slice a ps.length cap) K := by
  obtain ⟨a, cap, hvp, hO, hc, ha⟩ := h.pls.cut
  refine ⟨a, cap, hvp, by simp at hc; omega, ?_, fun {K} hK => Go.Wx.st h.blk (by simp) rfl fun w' hB hsz hk => hK w' ?_⟩
  · rcases ha with rfl | ⟨g, rfl⟩
    · simp [sliced]
    · exact sliced_hi
  · obtain ⟨h1, h2, h3, h4, h5⟩ := h.kpe hk
    have hob : ∀ n, (Value.slice a n cap).ownBlock = vp.ownBlock := fun n => by
      rw [hvp]
      cases a <;> rfl
    refine ⟨vo, al, cl, _, rs, h1, h2, h.px, h.old, hB, h.left, h.cap, hO.kpl hk (by simp), h4, h5, ?_, fun u hu g hg hl => ?_⟩
    · have := h.apart.set (k := 1) (v := vp) (v' := .slice a ps.length cap) rfl (.inl (hob _))
      simpa using this
    · simp only [List.mem_cons] at hu
      rcases hu with rfl | rfl | hu
      · exact h.own _ (by simp) g hg hl
      · exact h.own vp (by simp) g (by rw [← hob ps.length]; exact hg) hl
      · exact h.own u (by simp only [List.mem_cons]; exact .inr (.inr hu)) g hg hl
end

/-- the table of what is done behind the kids -/
def doneL : List Int := [0, 1, 2, 7, 4, 5, 0, 8, 0, 0, 10, 0, 12]
def Tab (C : Mem) : Prop := ∀ (j : Nat) (v : Int), doneL[j]? = some v → C 0 j (.int .i64 v)

/-- rows of so many nodes at most are emitted rightly -/
def RowP (p : Flt) (f : Nat) : Prop := ∀ (x : Tr) (C : Mem) (w0 : World) (X : List Nat) (pe : Nat) (out : List Ins) (rest : List Nd) (ps : List Int) (h : Int) (w : World), tsize x ≤ f → okT (cntF p) nxF x (ps.length, false) → Tab C →
  EmS C w0 X pe out (row x ++ rest) ps w → 0 ≤ h → h + 300 * tsize x ≤ 1099511627776 → ps.length + 16 * tsize x ≤ 1048576 → out.length + glen x ≤ 16384 → (∀ q ∈ ps, 0 ≤ q ∧ q ≤ 1099511627776) →
  CallOk Tryd.prog 39 ∧ Calls Tryd.prog 39 #[.pointer (some ⟨pe, 0, none⟩), .int .i64 h] w (fun e w' => e = .returned (.tuple #[]) ∧ EmS C w0 X pe (out ++ gen x h ps out.length) rest ps w')

section
variable {p : Flt} {f : Nat} {C : Mem} {w0 : World} {X : List Nat} {pe : Nat} {out : List Ins} {rest : List Nd} {ps : List Int} {h : Int} {w : World}

theorem rows_ct (hP : RowP p f) (hT : Tab C) (ks : List Tr) (hf : tsizes ks ≤ f) (hok : ∀ x ∈ ks, okT (cntF p) nxF x (ps.length, false)) (hE : EmS C w0 X pe out (rows ks ++ rest) ps w) (hk255 : ks.length ≤ 255) (h0 : 0 ≤ h) (hbd : h + 300 * (1 + tsizes ks) ≤ 1099511627776)
    (hpl : ps.length + 16 * tsizes ks ≤ 1048576) (hol : out.length + glens ks ≤ 16384) (hps : ∀ q ∈ ps, 0 ≤ q ∧ q ≤ 1099511627776) :
    CallOk Tryd.prog 67 ∧ Calls Tryd.prog 67 #[.pointer (some ⟨pe, 0, none⟩), .int .i64 ks.length, .int .i64 h] w (fun e w' => e = .returned (.tuple #[]) ∧ EmS C w0 X pe (out ++ genAll ks h ps out.length) rest ps w') := by
  refine ⟨⟨_, Tryd.func67, rfl, by decide⟩, ?_⟩
  refine calls_of (args := [_, _, _]) 17 [] τok Tryd.func67 rfl rfl rfl (Nat.le_of_ble_eq_true rfl) ?_
  refine lp τok (σ := Nat × List Ins) (fun q => [(0, .pointer (some ⟨pe, 0, none⟩)), (2, .int .i64 h), (7, .int .i64 ks.length), (8, .int .i64 q.1)])
    (fun q w' => q.1 ≤ ks.length ∧ EmS C w0 X pe q.2 (rows (ks.drop q.1) ++ rest) ps w' ∧ q.2 ++ genAll (ks.drop q.1) (h + q.1) ps q.2.length = out ++ genAll ks h ps out.length ∧ q.2.length + glens (ks.drop q.1) = out.length + glens ks ∧ tsizes (ks.drop q.1) ≤ tsizes ks) (fun q => ks.length - q.1) (0, out) rfl
    ⟨rfl, rfl, rfl, rfl, trivial⟩ ⟨Nat.zero_le _, hE, by simp, rfl, Nat.le_refl _⟩ ?_
  rintro ⟨i, o⟩ w1 ⟨hi, hE1, hg, hl, hts⟩
  simp only at hi hE1 hg hl hts
  refine br_dec (fun g1 => ?_) (fun g1 => ?_)
  · have hil : i < ks.length := by omega
    obtain ⟨x, hx, hd⟩ := drop_get hil
    have hxm := List.mem_of_getElem? hx
    have hokx := hok x hxm
    rw [hd] at hE1 hg hl hts
    simp only [rows, List.append_assoc] at hE1
    simp only [genAll] at hg
    simp only [glens] at hl
    simp only [tsizes] at hts
    have hgl := gen_len x _ hokx (h + i) ps o.length
    refine int64 (by omega) (by omega) ?_
    refine ev_call (hP x C w0 X pe o _ ps (h + i) w1 (by omega) hokx hT hE1 (by omega) (by omega) (by omega) (by omega) hps) ?_
    rintro e w2 ⟨rfl, hE2⟩
    refine int64 (by omega) (by omega) ?_
    refine ⟨(i + 1, o ++ gen x (h + i) ps o.length), by simp only; omega, rfl, ⟨rfl, rfl, rfl, rfl, trivial⟩, hil, hE2, ?_, ?_, by simp only; omega⟩
    · simp only [List.length_append]
      rw [← hg, List.append_assoc]
      simp only [Int.natCast_add, Int.add_assoc]
      rfl
    · simp only [List.length_append, hgl]
      omega
  · rw [List.drop_eq_nil_of_le (by omega)] at hE1 hg
    simp only [genAll, List.append_nil] at hg
    subst hg
    exact ⟨rfl, hE1⟩

theorem under_ct (hP : RowP p f) (hT : Tab C) (x : Tr) (m : Nat) (hm : m ≤ 16) (hf : tsize x ≤ f) (hok : okT (cntF p) nxF x (ps.length + m, false)) (hE : EmS C w0 X pe out (row x ++ rest) ps w) (h0 : 0 ≤ h) (hbd : h + 300 * (1 + tsize x) ≤ 1099511627776)
    (hpl : ps.length + 16 * (1 + tsize x) ≤ 1048576) (hol : out.length + glen x + (slides m).length ≤ 16384) (hps : ∀ q ∈ ps, 0 ≤ q ∧ q ≤ 1099511627776) :
    CallOk Tryd.prog 64 ∧ Calls Tryd.prog 64 #[.pointer (some ⟨pe, 0, none⟩), .int .i64 m, .int .i64 h] w (fun e w' => e = .returned (.tuple #[]) ∧ EmS C w0 X pe (out ++ underG m (gen x) h ps out.length) rest ps w') := by
  refine ⟨⟨_, Tryd.func64, rfl, by decide⟩, ?_⟩
  refine calls_of (args := [_, _, _]) 49 [] τok Tryd.func64 rfl rfl rfl (Nat.le_of_ble_eq_true rfl) ?_
  obtain ⟨vo, al, cl, vp, rs, hV⟩ := hE
  obtain ⟨ap0, cp0, hvp⟩ := hV.pls.len
  have hB := hV.blk
  rw [hvp] at hB
  refine ld (hB.cl rfl).cell ?_
  refine lp τok (σ := Nat) (fun q => [(0, .pointer (some ⟨pe, 0, none⟩)), (1, .int .i64 m), (2, .int .i64 h), (6, .int .i64 ps.length), (13, .int .i64 m), (14, .int .i64 q)])
    (fun q w' => q ≤ m ∧ EmS C w0 X pe out (row x ++ rest) (ps ++ rng h q) w') (fun q => m - q) 0 rfl
    ⟨rfl, rfl, rfl, rfl, rfl, rfl, trivial⟩ ⟨Nat.zero_le _, by simpa [rng] using ⟨vo, al, cl, vp, rs, hV⟩⟩ ?_
  clear hV hB hvp
  rintro i w1 ⟨hi, hE1⟩
  obtain ⟨vo, al, cl, vp, rs, hV⟩ := hE1
  have hrl : (rng h i).length = i := by simp [rng]
  refine br_dec (fun g1 => ?_) (fun g1 => ?_)
  · have hil : i < m := by omega
    refine ld (hV.blk.cl rfl).cell ?_
    refine int64 (by omega) (by omega) ?_
    refine fill [.int .i64 (h + i)] rfl ?_
    refine new fun b1 w2 hb1 hB1 hs1 hk1 => ?_
    refine (hV.tr hk1).pushPlace (q := h + i) ⟨by omega, by omega⟩ (hB1.cl rfl) (by simp [hrl]; omega) fun vp' w3 hst => ?_
    refine hst _ fun w4 hV4 => ?_
    refine int64 (by omega) (by omega) ?_
    refine ⟨i + 1, by omega, rfl, ⟨rfl, rfl, rfl, rfl, rfl, rfl, trivial⟩, hil, ?_⟩
    have : rng h (i + 1) = rng h i ++ [h + i] := by simp [rng, List.range_succ]
    rw [this, ← List.append_assoc]
    exact ⟨_, _, _, _, _, hV4⟩
  · have him : i = m := by omega
    subst him
    refine int64 (by omega) (by omega) ?_
    have hpsl : (ps ++ rng h i).length = ps.length + i := by simp [hrl]
    refine ev_call (hP x C w0 X pe out rest (ps ++ rng h i) (h + i) w1 hf (by rw [hpsl]; simpa using hok) hT ⟨_, _, _, _, _, hV⟩ (by omega) (by omega) (by rw [hpsl]; omega) (by omega) (fun q hq => ?_)) ?_
    · rcases List.mem_append.1 hq with hq | hq
      · exact hps q hq
      · simp only [rng, List.mem_map, List.mem_range] at hq
        obtain ⟨j, hj, rfl⟩ := hq
        omega
    rintro e w2 ⟨rfl, hE2⟩
    obtain ⟨vo2, al2, cl2, vp2, rs2, hV2⟩ := hE2
    obtain ⟨a2, c2, hvp2, hc2, hsl2, hst2⟩ := hV2.popPlaces
    have hB2 := hV2.blk
    rw [hvp2] at hB2
    refine ld (hB2.cl rfl).cell ?_
    refine slcH' τok rfl ps.length _ rfl hc2 hsl2 ?_
    refine hst2 fun w3 hE3 => ?_
    have hgl := gen_len x _ hok (h + i) (ps ++ rng h i) out.length
    refine br_dec (fun g2 => ?_) (fun g2 => ?_)
    · refine ev_call (put_ct hE3 14 i 0 ⟨by omega, by omega⟩ ⟨by omega, by omega⟩ ⟨by omega, by omega⟩ (by simp [hgl]; omega)) ?_
      rintro e w4 ⟨rfl, hE4⟩
      refine ⟨rfl, ?_⟩
      have hs : slides (i : Int) = [ins0 14 i 0] := by unfold slides; rw [if_pos g2]
      simp only [underG, hs, Int.toNat_natCast]
      rw [← List.append_assoc]
      exact hE4
    · refine ⟨rfl, ?_⟩
      have hs : slides (i : Int) = [] := by unfold slides; rw [if_neg g2]
      simp only [underG, hs, Int.toNat_natCast, List.append_nil]
      exact hE3
end
end Go.Proofs.YtjpdkcejkogciaaDoor

/-
  Package emit: peel, arms.
-/
set_option linter.unusedSimpArgs false
set_option linter.unusedVariables false
namespace Go.Proofs.YtjpdkcejkogciaaDoor
open Go.Wx Cd

section
variable {p : Flt} {f : Nat} {C : Mem} {w0 : World} {X : List Nat} {pe : Nat} {out : List Ins} {rest : List Nd} {ps : List Int} {h : Int} {w : World}

theorem peel_ct (hcaps : CapsOk p) (hP : RowP p f) (hT : Tab C) (v z s : Tr) (hf : tsize v + tsize z + tsize s ≤ f) (hv : okT (cntF p) nxF v (ps.length, false)) (hz : okT (cntF p) nxF z (ps.length, false)) (hs : okT (cntF p) nxF s (ps.length + 1, false))
    (hE : EmS C w0 X pe out (row v ++ (row z ++ (row s ++ rest))) ps w) (h0 : 0 ≤ h) (hbd : h + 300 * (1 + (tsize v + tsize z + tsize s)) ≤ 1099511627776)
    (hpl : ps.length + 16 * (1 + (tsize v + tsize z + tsize s)) ≤ 1048576) (hol : out.length + (glen v + glen z + glen s + 3) ≤ 16384) (hps : ∀ q ∈ ps, 0 ≤ q ∧ q ≤ 1099511627776) :
    CallOk Tryd.prog 65 ∧ Calls Tryd.prog 65 #[.pointer (some ⟨pe, 0, none⟩), .int .i64 h] w (fun e w' => e = .returned (.tuple #[]) ∧ EmS C w0 X pe (out ++ genPeel [v, z, s] h ps out.length) rest ps w') := by
  have tv := tsize_pos v
  have tz := tsize_pos z
  have ts := tsize_pos s
  have lv := gen_len v _ hv h ps out.length
  obtain ⟨GV, hGV⟩ : ∃ g, gen v h ps out.length = g := ⟨_, rfl⟩
  have lGV : GV.length = glen v := by rw [← hGV]; exact lv
  refine ⟨⟨_, Tryd.func65, rfl, by decide⟩, ?_⟩
  refine calls_of (args := [_, _]) 41 [] τok Tryd.func65 rfl rfl rfl (Nat.le_of_ble_eq_true rfl) ?_
  refine ev_call (hP v C w0 X pe out _ ps h w (by omega) hv hT hE h0 (by omega) (by omega) (by omega) hps) ?_
  rintro e w1 ⟨rfl, hE1⟩
  rw [hGV] at hE1
  refine ev_call (cut_ct hcaps ⟨_, hz⟩ hE1) ?_
  rintro e w2 ⟨az, cz, rfl, hSz, hcz, hE2⟩
  have i0 : I64 0 := ⟨by omega, by omega⟩
  have lB : (out ++ GV).length = out.length + glen v := by simp [lGV]
  refine ev_call (put_ct hE2 11 0 0 ⟨by omega, by omega⟩ i0 i0 (by omega)) ?_
  rintro e w3 ⟨rfl, hE3⟩
  have l3 : (out ++ GV ++ [ins0 11 0 0]).length = out.length + glen v + 1 := by simp [lGV]; omega
  refine ev_call (under_ct hP hT s 1 (by omega) (by omega) hs hE3 h0 (by omega) (by omega) (by rw [l3]; simp [slides]; omega) hps) ?_
  rintro e w4 ⟨rfl, hE4⟩
  rw [l3] at hE4
  obtain ⟨U, hU⟩ : ∃ g, underG ((1 : Nat) : Int) (gen s) h ps (out.length + glen v + 1) = g := ⟨_, rfl⟩
  have lU : U.length = glen s + 1 := by
    rw [← hU]
    have := gen_len s _ hs (h + 1) (ps ++ rng h 1) (out.length + glen v + 1)
    simp [underG, slides, this]
  rw [hU] at hE4
  have l4 : (out ++ GV ++ [ins0 11 0 0] ++ U).length = out.length + glen v + 1 + (glen s + 1) := by simp [lGV, lU]; omega
  refine ev_call (put_ct hE4 13 0 0 ⟨by omega, by omega⟩ i0 i0 (by omega)) ?_
  rintro e w5 ⟨rfl, hE5⟩
  rw [l4]
  have eo : out ++ GV ++ [ins0 11 0 0] ++ U ++ [ins0 13 0 0] = (out ++ GV) ++ ins0 11 0 0 :: (U ++ [ins0 13 0 0]) := by simp
  rw [eo] at hE5
  have l5 : ((out ++ GV) ++ ins0 11 0 0 :: (U ++ [ins0 13 0 0])).length = out.length + glen v + 1 + (glen s + 1) + 1 := by simp [lGV, lU]; omega
  rw [lB]
  refine ev_call (by have := here_ct hE5 (out ++ GV).length (x := ins0 11 0 0) (by simp) (by simp [ins0]) (by omega); rw [lB] at this; exact this) ?_
  rintro e w6 ⟨rfl, hE6⟩
  rw [← lB, addTo_mid, l5] at hE6
  obtain ⟨O6, hO6⟩ : ∃ g, (out ++ GV) ++ (⟨(ins0 11 0 0).op, (ins0 11 0 0).a, (ins0 11 0 0).b, (ins0 11 0 0).to ++ [((out.length + glen v + 1 + (glen s + 1) + 1 : Nat) : Int)]⟩ : Ins) :: (U ++ [ins0 13 0 0]) = g := ⟨_, rfl⟩
  rw [hO6] at hE6
  have l6 : O6.length = out.length + glen v + 1 + (glen s + 1) + 1 := by rw [← hO6]; simp [lGV, lU]; omega
  obtain ⟨vo, al, cl, vp, rs, hV6⟩ := hE6
  refine ld (hV6.blk.cl rfl).cell ?_
  refine hV6.setLeft (al' := az) (lf' := row z) (cl' := cz) hSz hcz fun w7 hV7 hk7 => ?_
  have hE7 : EmS C w0 X pe O6 (row z ++ []) ps w7 := by rw [List.append_nil]; exact ⟨_, _, _, _, _, hV7⟩
  refine ev_call (hP z C w0 X pe O6 [] ps h w7 (by omega) hz hT hE7 h0 (by omega) (by omega) (by omega) hps) ?_
  rintro e w8 ⟨rfl, hE8⟩
  rw [l6] at hE8
  obtain ⟨GZ, hGZ⟩ : ∃ g, gen z h ps (out.length + glen v + 1 + (glen s + 1) + 1) = g := ⟨_, rfl⟩
  have lGZ : GZ.length = glen z := by rw [← hGZ]; exact gen_len z _ hz _ _ _
  rw [hGZ] at hE8
  obtain ⟨vo8, al8, cl8, vp8, rs8, hV8⟩ := hE8
  refine hV8.setLeft hV6.left hV6.cap fun w9 hV9 hk9 => ?_
  have e9 : O6 ++ GZ = ((out ++ GV) ++ (⟨11, 0, 0, [((out.length + glen v + 1 + (glen s + 1) + 1 : Nat) : Int)]⟩ : Ins) :: U) ++ ins0 13 0 0 :: GZ := by
    rw [← hO6]
    simp [ins0]
  obtain ⟨A, hA⟩ : ∃ A, (out ++ GV) ++ (⟨11, 0, 0, [((out.length + glen v + 1 + (glen s + 1) + 1 : Nat) : Int)]⟩ : Ins) :: U = A := ⟨_, rfl⟩
  have l9 : A.length = out.length + glen v + 1 + (glen s + 1) := by rw [← hA]; simp [lGV, lU]; omega
  rw [hA] at e9
  have hE9 : EmS C w0 X pe (O6 ++ GZ) rest ps w9 := ⟨_, _, _, _, _, hV9⟩
  rw [e9] at hE9
  have l10 : (A ++ ins0 13 0 0 :: GZ).length = out.length + glen v + 1 + (glen s + 1) + 1 + glen z := by rw [← e9]; simp [l6, lGZ]
  refine ev_call (by have := here_ct hE9 A.length (x := ins0 13 0 0) (by simp) (by simp [ins0]) (by rw [l10]; omega); rw [l9] at this; exact this) ?_
  rintro e w10 ⟨rfl, hE10⟩
  refine ⟨rfl, ?_⟩
  have hm := addTo_mid A GZ (ins0 13 0 0) ((A ++ ins0 13 0 0 :: GZ).length : Int)
  rw [l9] at hm
  rw [hm, l10, ← hA] at hE10
  have hU' : underG 1 (gen s) h ps (out.length + glen v + 1) = U := hU
  simp only [genPeel, hGV, hGZ, hU']
  simpa [ins0] using hE10
end
end Go.Proofs.YtjpdkcejkogciaaDoor

/-
  Package emit: arms.
-/
set_option linter.unusedSimpArgs false
set_option linter.unusedVariables false
namespace Go.Proofs.YtjpdkcejkogciaaDoor
open Go.Wx Cd

section
variable {p : Flt} {f : Nat} {C : Mem} {w0 : World} {X : List Nat} {pe : Nat} {out : List Ins} {lf rest : List Nd} {ps : List Int} {h : Int} {vo : Value} {al : Option Addr} {cl : Nat} {vp : Value} {rs : List Raw} {w w' : World}

/-- a block is none of the emitter's -/
def NotOwn (pe : Nat) (vo vp : Value) (rs : List Raw) (b : Nat) : Prop := b ≠ pe ∧ ∀ u ∈ vo :: vp :: rs.map Raw.to, u.ownBlock ≠ some b
theorem notOwn_of {b : Nat} (hb : b ∉ ownedL pe vo vp rs) : NotOwn pe vo vp rs b :=
  ⟨fun e => hb (by rw [e]; exact List.mem_cons_self), fun u hu hg => hb (List.mem_cons_of_mem _ (List.mem_filterMap.2 ⟨u, hu, hg⟩))⟩
theorem NotOwn.of {b : Nat} (h : NotOwn pe vo vp rs b) : b ∉ ownedL pe vo vp rs := by
  intro hx
  rcases List.mem_cons.1 hx with rfl | hx
  · exact h.1 rfl
  · obtain ⟨u, hu, hg⟩ := List.mem_filterMap.1 hx
    exact h.2 u hu hg
/-- what was none of the emitter's stays so -/
theorem EmV.notOwn (h : EmV C w0 X pe out lf ps vo al cl vp rs w) {b : Nat} (hb : b < w0.heap.size) (hx : b ∉ X) : NotOwn pe vo vp rs b :=
  ⟨fun e => hx (by rw [e]; exact h.px (by omega)), fun u hu hg => hx (h.own u hu b hg hb)⟩

theorem EmV.backV {out' : List Ins} {lf' : List Nd} {ps' : List Int} {vo' : Value} {al' : Option Addr} {cl' : Nat} {vp' : Value} {rs' : List Raw} (h : EmV C w0 X pe out lf ps vo al cl vp rs w) (h' : EmV C w (ownedL pe vo vp rs) pe out' lf' ps' vo' al' cl' vp' rs' w') : EmV C w0 X pe out' lf' ps' vo' al' cl' vp' rs' w' :=
  ⟨h'.sub, h.kp.trans h'.kp fun x hx hl => h.ownedX x hx hl, h.px, h.old, h'.blk, h'.left, h'.cap, h'.pls, h'.raw, h'.ins, h'.apart, fun u hu g hg hl => h.ownedX g (h'.own u hu g hg (by have := h.kp.size; omega)) hl⟩

def natI (l : List Nat) : List Int := l.map fun (k : Nat) => (k : Int)

set_option maxHeartbeats 1000000 in
theorem earms_ct (hcaps : CapsOk p) (hP : RowP p f) (hT : Tab C) (n : Nd) (na : I64 n.a) (nb : I64 n.b) (v : Tr) (arms : List Tr) (hnb : (arms.length : Int) = n.b) (h16 : arms.length ≤ 16) (hf : tsize v + tsizes arms ≤ f) (hv : okT (cntF p) nxF v (ps.length, false)) (harms : ∀ x ∈ arms, okT (cntF p) nxF x (ps.length, true))
    (hE : EmS C w0 X pe out (row v ++ (rows arms ++ rest)) ps w) (h0 : 0 ≤ h) (hbd : h + 300 * (1 + (tsize v + tsizes arms)) ≤ 1099511627776)
    (hpl : ps.length + 16 * (1 + (tsize v + tsizes arms)) ≤ 1048576) (hol : out.length + (glen v + glens arms + arms.length) ≤ 16384) (hps : ∀ q ∈ ps, 0 ≤ q ∧ q ≤ 1099511627776) :
    CallOk Tryd.prog 66 ∧ Calls Tryd.prog 66 #[.pointer (some ⟨pe, 0, none⟩), .agg #[.int .i64 n.op, .int .i64 n.a, .int .i64 n.b], .int .i64 h] w (fun e w' => e = .returned (.tuple #[]) ∧ EmS C w0 X pe (out ++ genSw n (v :: arms) h ps out.length) rest ps w') := by
  have tv := tsize_pos v
  have lv := gen_len v _ hv h ps out.length
  obtain ⟨B, hB⟩ : ∃ B, out ++ gen v h ps out.length = B := ⟨_, rfl⟩
  have lB : B.length = out.length + glen v := by rw [← hB]; simp [lv]
  refine ⟨⟨_, Tryd.func66, rfl, by decide⟩, ?_⟩
  refine calls_of (args := [_, _, _]) 85 [] τok Tryd.func66 rfl rfl rfl (Nat.le_of_ble_eq_true rfl) ?_
  obtain ⟨vo0, al0, cl0, vp0, rs0, hV0⟩ := hE
  refine new fun b4 w1 hb4 hB4 hs1 hk1 => ?_
  have hB4 : Bk w1.heap b4 [.int .i64 n.op, .int .i64 n.a, .int .i64 n.b] 47 := hB4
  have hV1 := hV0.tr hk1
  obtain ⟨XX, hXX⟩ : ∃ XX, XX = ownedL pe vo0 vp0 rs0 := ⟨_, rfl⟩
  have hb4X : b4 ∉ XX := fun hx => by rw [hXX] at hx; have := hV0.ownedL_lt b4 hx; omega
  have hR1 := hV1.rebase
  rw [← hXX] at hR1
  have fin : ∀ {out'} {w'}, EmS C w1 XX pe out' rest ps w' → EmS C w0 X pe out' rest ps w' := fun {out'} {w'} h' => by rw [hXX] at h'; exact hV1.back h'
  refine ev_call (hP v C w1 XX pe out _ ps h w1 (by omega) hv hT ⟨_, _, _, _, _, hR1⟩ h0 (by omega) (by omega) (by omega) hps) ?_
  rintro e w2 ⟨rfl, hE2⟩
  rw [hB] at hE2
  have hB42 := hB4.kp hE2.kp' hb4X
  refine ld (hB42.cl rfl).cell ?_
  refine br_dec (fun g0 => ?_) (fun g0 => ?_)
  · have : arms = [] := List.length_eq_zero_iff.1 (by omega)
    subst this
    refine ⟨rfl, fin ?_⟩
    simp only [genSw, List.isEmpty_nil, if_true, List.append_nil, hB]
    simpa [rows] using hE2
  refine ld (hB42.cl rfl).cell ?_
  refine ld (hB42.cl rfl).cell ?_
  refine ev_call (put_ct hE2 9 n.a n.b ⟨by omega, by omega⟩ na nb (by omega)) ?_
  rintro e w3 ⟨rfl, hE3⟩
  have hB43 := hB4.kp hE3.kp' hb4X
  have hga := armsLen_eq arms
  refine ld (hB43.cl rfl).cell ?_
  obtain ⟨vo3, al3, cl3, vp3, rs3, hV3⟩ := hE3
  refine lp τok (σ := Nat × Value) (fun q => [(0, .pointer (some ⟨pe, 0, none⟩)), (2, .int .i64 h), (4, .pointer (some ⟨b4, 0, none⟩)), (6, .int .i64 B.length), (7, q.2), (25, .int .i64 n.b), (26, .int .i64 q.1)])
    (fun q w' => q.1 ≤ arms.length ∧ ∃ T G E vo al cl vp rs, EmV C w1 XX pe (B ++ ⟨9, n.a, n.b, T⟩ :: G) (rows (arms.drop q.1) ++ rest) ps vo al cl vp rs w' ∧ Own rInt 3 w1.heap.size w' q.2 (natI E) ∧ (∀ g, q.2.ownBlock = some g → NotOwn pe vo vp rs g) ∧
      T ++ armsTo (arms.drop q.1) (B.length + 1 + G.length) = armsTo arms (B.length + 1) ∧ G ++ genArms (arms.drop q.1) h ps (B.length + 1 + G.length) [] = genArms arms h ps (B.length + 1) [] ∧ E ++ gotoPos (arms.drop q.1) (B.length + 1 + G.length) = gotoPos arms (B.length + 1) ∧
      G.length + armsLen (arms.drop q.1) = armsLen arms ∧ T.length = 2 * q.1 ∧ tsizes (arms.drop q.1) ≤ tsizes arms ∧ E.length ≤ q.1) (fun q => arms.length - q.1) (0, .slice none 0 0) rfl
    ⟨rfl, rfl, rfl, rfl, rfl, rfl, rfl, trivial⟩ ⟨Nat.zero_le _, [], [], [], vo3, al3, cl3, vp3, rs3, hV3, Own.nil _ _ hV3.kp.size, (fun g hg => by cases hg), rfl, rfl, rfl, by simp, rfl, Nat.le_refl _, Nat.le_refl _⟩ ?_
  clear hV3 hE2 hB42 hB43
  rintro ⟨i, ve⟩ w5 ⟨hi, T, G, E, vo, al, cl, vp, rs, hV, hOe, hNe, hT1, hG1, hE1, hGl, hTl, hts, hEl⟩
  simp only at hi hV hOe hNe hT1 hG1 hE1 hGl hTl hts hEl
  have hk15 := hV.kp
  have lo : (B ++ (⟨9, n.a, n.b, T⟩ : Ins) :: G).length = B.length + 1 + G.length := by simp; omega
  refine br_dec (fun g1 => ?_) (fun g1 => ?_)
  · have hil : i < arms.length := by omega
    obtain ⟨⟨an, aks⟩, hx, hd⟩ := drop_get hil
    have hokx := harms _ (List.mem_of_getElem? hx)
    have o70 : an.op = 70 := by
      have := (ok_ndF hokx).1
      simpa using this
    obtain ⟨ax, rfl, ha0, ha16, hokax⟩ := ok_arm hokx o70
    rw [hd] at hV hT1 hG1 hE1 hGl hts
    have hgarm : glen (.mk an [ax]) = glen ax + (slides an.a).length := by simp [glen, glens, o70]
    have hgenarm : ∀ b, gen (.mk an [ax]) h ps b = underG an.a (gen ax) h ps b := fun b => by simp [gen, genArm, o70]
    have htarm : tsize (.mk an [ax]) = 1 + tsize ax := by simp [tsize, tsizes]
    simp only [tsizes, htarm] at hts
    have hlen70 := gen_len (.mk an [ax]) _ hokx h ps (B.length + 1 + G.length)
    obtain ⟨lf', hlf'⟩ : ∃ l, rows (.mk an [ax] :: arms.drop (i + 1)) ++ rest = l := ⟨_, rfl⟩
    have hlfc : lf' = an :: (row ax ++ (rows (arms.drop (i + 1)) ++ rest)) := by rw [← hlf']; simp [rows, row]
    rw [hlf'] at hV
    refine ld (hV.blk.cl rfl).cell ?_
    refine br_no (show ¬ ((lf'.length : Int) = 0) by rw [hlfc]; simp; omega) ?_
    have hR5 := hV.rebase
    obtain ⟨X5, hX5⟩ : ∃ X5, X5 = ownedL pe vo vp rs := ⟨_, rfl⟩
    rw [← hX5] at hR5
    refine ev_call (next_ct (n := an) (r := row ax ++ (rows (arms.drop (i + 1)) ++ rest)) (by rw [← hlfc]; exact ⟨_, _, _, _, _, hR5⟩)) ?_
    rintro e w6 ⟨rfl, hE6⟩
    obtain ⟨vo6, al6, cl6, vp6, rs6, hV6⟩ := hE6
    refine new fun b9 w7 hb9 hB9 hs7 hk7 => ?_
    refine stN hB9 rfl (by simp [Value.oneCell']) fun w8 hB9 hs8 hk8 => ?_
    have hB9 : Bk w8.heap b9 [.int .i64 an.op, .int .i64 an.a, .int .i64 an.b] 47 := hB9
    have hk68 : Kp [] w6 w8 := hk7.newSt hb9 hk8
    have hV8 := hV6.tr hk68
    obtain ⟨X8, hX8⟩ : ∃ X8, X8 = ownedL pe vo6 vp6 rs6 := ⟨_, rfl⟩
    have hb9X : b9 ∉ X8 := fun hx => by rw [hX8] at hx; have := hV6.ownedL_lt b9 hx; omega
    have hb9lt := hB9.lt
    have hR8 := hV8.rebase
    rw [← hX8] at hR8
    -- the ends' row
    have hge : ∀ g, ve.ownBlock = some g → g < w5.heap.size ∧ g ∉ X5 := fun g hg => ⟨(hOe.block g hg).2, by rw [hX5]; exact (hNe g hg).of⟩
    have hge8 : ∀ g, ve.ownBlock = some g → g < w8.heap.size ∧ g ∉ X8 := fun g hg => ⟨by have := (hge g hg).1; have := hV6.kp.size; have := hk68.size; omega, by rw [hX8]; exact (hV6.notOwn (hge g hg).1 (hge g hg).2).of⟩
    have hOe8 : Own rInt 3 w1.heap.size w8 ve (natI E) := (hOe.kpn flatI hV6.kp fun g hg => (hge g hg).2).kp hk68
    -- where it begins
    refine ev_call (by have := here_ct (C := C) (w0 := w8) (X := X8) ⟨_, _, _, _, _, hR8⟩ B.length (x := ⟨9, n.a, n.b, T⟩) (by simp) (by simp [hTl]; omega) (by rw [lo]; omega); exact this) ?_
    rintro e w9 ⟨rfl, hE9⟩
    rw [addTo_mid, lo] at hE9
    simp only at hE9
    obtain ⟨vo9, al9, cl9, vp9, rs9, hV9⟩ := hE9
    have hB99 := hB9.kp hV9.kp hb9X
    have hN9 := hV9.notOwn hb9lt hb9X
    have hx9 : (B ++ (⟨9, n.a, n.b, T ++ [((B.length + 1 + G.length : Nat) : Int)]⟩ : Ins) :: G)[B.length]? = some ⟨9, n.a, n.b, T ++ [((B.length + 1 + G.length : Nat) : Int)]⟩ := by simp
    have lo9 : (B ++ (⟨9, n.a, n.b, T ++ [((B.length + 1 + G.length : Nat) : Int)]⟩ : Ins) :: G).length = B.length + 1 + G.length := by simp; omega
    have hlen9 := hV9.ins.length
    obtain ⟨r9, hr9⟩ : ∃ r, rs9[B.length]? = some r := ⟨rs9[B.length]'(by omega), by simp⟩
    obtain ⟨g, cap, hvo, hcell, hgl⟩ := hV9.atIns (by rw [lo9]; omega) hr9
    have hgo : vo9.ownBlock = some g := by rw [hvo]; rfl
    have hne : g ∉ r9.to.ownBlock.toList := hV9.others (k := B.length + 2) (v := r9.to) (by simp [hr9]) (i := 0) rfl (by omega) hgo
    have hBe : Bk w9.heap pe [.slice (some ⟨g, 0, none⟩) (B ++ (⟨9, n.a, n.b, T ++ [((B.length + 1 + G.length : Nat) : Int)]⟩ : Ins) :: G).length cap, .slice al9 (row ax ++ (rows (arms.drop (i + 1)) ++ rest)).length cl9, vp9, .int .i64 16384] 88 := by rw [← hvo]; exact hV9.blk
    have hbi : B.length < (B ++ (⟨9, n.a, n.b, T ++ [((B.length + 1 + G.length : Nat) : Int)]⟩ : Ins) :: G).length := by rw [lo9]; omega
    refine drawG τok (fun u => Bk u.heap pe [.slice (some ⟨g, 0, none⟩) (B ++ (⟨9, n.a, n.b, T ++ [((B.length + 1 + G.length : Nat) : Int)]⟩ : Ins) :: G).length cap, .slice al9 (row ax ++ (rows (arms.drop (i + 1)) ++ rest)).length cl9, vp9, .int .i64 16384] 88 ∧ Bk u.heap b9 [.int .i64 an.op, .int .i64 an.a, .int .i64 an.b] 47) ?_
    refine readsG τok [0, 1, 2, 3, 4, 5, 6, 7, 8, 9, 10, 11, 13, 14] 6 #[true, true, true, true, true, true, true, true, true, true, true, true, false, true, true, false, false, false, false, false] rfl rfl (by kernel_rfl) (by kernel_rfl) (by kernel_rfl) ⟨hBe, hB99⟩ ?_
    refine ldQ (fun u hu => hu.1.cl rfl) ?_
    refine ldQ (fun u hu => hu.1.cl rfl) ?_
    refine ix B.length rfl hbi ?_
    refine ldQ (fun u hu => hu.2.cl rfl) ?_
    refine forkG (fun s u => ∃ b1, s.d = [] ∧ Has s [(0, .pointer (some ⟨pe, 0, none⟩)), (2, .int .i64 h), (4, .pointer (some ⟨b4, 0, none⟩)), (6, .int .i64 B.length), (7, ve), (8, .int .i64 i), (9, .pointer (some ⟨b9, 0, none⟩)), (25, .int .i64 n.b), (26, .int .i64 i), (43, .slice (some ⟨g, 0, none⟩) (B ++ (⟨9, n.a, n.b, T ++ [((B.length + 1 + G.length : Nat) : Int)]⟩ : Ins) :: G).length cap), (44, .int .i64 B.length), (52, r9.to), (55, .slice (some ⟨b1, 0, none⟩) 1 1)] ∧ Kp [] w9 u ∧ Bk u.heap b1 [.int .i64 an.a] 3) 4 #[true, true, true, true, true, true, true, true, true, true, true, true, true, true, true, true, false, false, false, false] ?_ fun tail => ?_
    · rintro ⟨se, sd⟩ w10 ⟨b1, rfl, hs, hk10, hB1⟩
      refine weakG _ hs ?_
      refine nextG τok 16 3 #[true, true, true, true, true, true, true, true, true, true, true, true, true, true, true, true, true, false, false, false] rfl rfl rfl (by kernel_rfl) ?_
      refine (hV9.tr hk10).pushTo hr9 hx9 (q := an.a) ⟨by omega, by omega⟩ (hB1.cl rfl) (by simp [hTl]; omega) (by rw [lo9]; omega) fun g' cap' tv' w11 hvo' hB11 hk11 hst => ?_
      rw [hvo] at hvo'
      injection hvo' with e1 e2 e3
      have e1 := Option.some.inj e1
      injection e1 with e1
      subst e1 e3
      rw [hvo] at hB11
      have hb9n : b9 ∉ r9.to.ownBlock.toList := fun hx => hN9.2 r9.to (by simp; exact .inr (.inr ⟨r9, List.mem_of_getElem? hr9, rfl⟩)) (by simpa using hx)
      have hB911 := (hB99.kp hk10 (by simp)).kp hk11 hb9n
      refine ⟨.inl ⟨hB11, hB911⟩, ?_⟩
      refine nextG τok 17 2 #[true, true, true, true, true, true, true, true, true, true, true, true, true, true, true, true, true, true, false, false] rfl rfl rfl (by kernel_rfl) ?_
      refine ix B.length rfl hbi ?_
      refine ⟨.inl ⟨hB11, hB911⟩, ?_⟩
      refine nextG τok 18 1 #[true, true, true, true, true, true, true, true, true, true, true, true, true, true, true, true, true, true, true, false] rfl rfl rfl (by kernel_rfl) ?_
      refine ⟨.inl ⟨hB11, hB911⟩, ?_⟩
      refine nextG τok 19 0 #[true, true, true, true, true, true, true, true, true, true, true, true, true, true, true, true, true, true, true, true] rfl rfl rfl (by kernel_rfl) ?_
      rw [add_off]
      refine hst _ fun w12 hE12 hB12 => ?_
      rw [hvo] at hB12
      have hB912 := hB9.kp hE12.kp' hb9X
      refine ⟨.inl ⟨hB12, hB912⟩, ?_⟩
      refine doneG (by kernel_rfl) ?_
      rw [addTo_mid] at hE12
      simp only [List.append_assoc, List.cons_append, List.nil_append] at hE12
      obtain ⟨O3, hO3⟩ : ∃ o, B ++ (⟨9, n.a, n.b, T ++ [((B.length + 1 + G.length : Nat) : Int), an.a]⟩ : Ins) :: G = o := ⟨_, rfl⟩
      rw [hO3] at hE12
      have lO3 : O3.length = B.length + 1 + G.length := by rw [← hO3]; simp; omega
      refine ld (hB912.cl rfl).cell ?_
      obtain ⟨m, hm⟩ : ∃ m : Nat, an.a = m := ⟨an.a.toNat, by omega⟩
      have hsl : (slides an.a).length ≤ 1 := by unfold slides; split <;> simp
      simp only [armsLen, hgarm] at hGl
      refine ev_call (by have := under_ct (h := h) hP hT ax m (by omega) (by omega) (by rw [hm] at hokax; simpa using hokax) hE12 h0 (by omega) (by omega) (by rw [lO3, ← hm]; omega) hps; rw [← hm] at this; exact this) ?_
      rintro e w13 ⟨rfl, hE13⟩
      rw [lO3, ← hgenarm] at hE13
      obtain ⟨GA, hGA⟩ : ∃ o, gen (.mk an [ax]) h ps (B.length + 1 + G.length) = o := ⟨_, rfl⟩
      rw [hGA] at hE13 hlen70
      have hk113 : Kp XX w1 w13 := by
        have k813 := hE13.kp'
        rw [hX8] at k813
        exact hV.kp.trans (Kp.trans hV8.kp k813 fun x hx hl => hV8.ownedX x hx hl) fun x hx hl => by rw [hX5] at hx; exact hV.ownedX x hx hl
      have hB413 := hB4.kp hk113 hb4X
      refine ld (hB413.cl rfl).cell ?_
      refine int64 (by omega) (by omega) ?_
      refine br_dec (fun g2 => ?_) (fun g2 => ?_)
      · have hlast : (arms.drop (i + 1)).isEmpty = false := by
          cases hq : arms.drop (i + 1) with
          | nil => have := congrArg List.length hq; simp at this; omega
          | cons y r => rfl
        rw [hlast] at hGl
        simp only [Bool.false_eq_true, if_false] at hGl
        rw [hgarm] at hlen70
        have i0 : I64 0 := ⟨by omega, by omega⟩
        have lO4 : (O3 ++ GA).length = B.length + 1 + G.length + (glen ax + (slides an.a).length) := by simp [lO3, hlen70]
        refine ev_call (put_ct hE13 13 0 0 ⟨by omega, by omega⟩ i0 i0 (by omega)) ?_
        rintro e w14 ⟨rfl, hE14⟩
        obtain ⟨vo14, al14, cl14, vp14, rs14, hV14⟩ := hE14
        refine fill [.int .i64 (O3 ++ GA).length] rfl ?_
        refine new fun b15 w15 hb15 hB15 hs15 hk15' => ?_
        have hV14' := hV14
        rw [hX8] at hV14'
        have hW14 : EmV C w1 XX pe _ _ _ _ _ _ _ _ w14 := hV.backV (by rw [← hX5]; exact hV8.backV hV14')
        have hW15 := hW14.tr hk15'
        have hOe15 : Own rInt 3 w1.heap.size w15 ve (natI E) := (hOe8.kpn flatI hV14.kp fun g hg => (hge8 g hg).2).kp hk15'
        have hN15 : ∀ g, ve.ownBlock = some g → NotOwn pe vo14 vp14 rs14 g := fun g hg => hV14.notOwn (hge8 g hg).1 (hge8 g hg).2
        refine hOe15.ap1 τok rfl rfl Nat.one_pos (((O3 ++ GA).length : Nat) : Int) [.int .i64 (O3 ++ GA).length] ⟨rfl, by omega, by omega⟩ (fun j u hj => by
          match j with
          | 0 =>
            have hj : some (Value.int .i64 ((O3 ++ GA).length : Int)) = some u := hj
            have hj := Option.some.inj hj
            subst hj
            exact hB15.cl rfl
          | j + 1 => simp at hj) (by simp [natI]; omega) (by simp [natI, maxLen]; omega) fun ve' w16 hOe16 hk16 hown => ?_
        have hW16 := hW15.kpx hk16 fun y hy => by
          have hy : ve.ownBlock = some y := by simpa using hy
          exact ⟨fun e => (hN15 y hy).1 e.symm, (hOe15.block y hy).1, fun u hu => (hN15 y hy).2 u hu⟩
        refine int64 (by omega) (by omega) ?_
        refine ⟨(i + 1, ve'), by simp only; omega, rfl, ⟨rfl, rfl, rfl, rfl, rfl, rfl, rfl, trivial⟩, hil, T ++ [((B.length + 1 + G.length : Nat) : Int), an.a], G ++ GA ++ [ins0 13 0 0], E ++ [(O3 ++ GA).length], vo14, al14, cl14, vp14, rs14, ?_, by simpa [natI] using hOe16, fun g' hg' => ?_, ?_, ?_, ?_, ?_, ?_, by simp only; omega, by simp only [List.length_append, List.length_cons, List.length_nil]; omega⟩
        · have : O3 ++ GA ++ [ins0 13 0 0] = B ++ (⟨9, n.a, n.b, T ++ [((B.length + 1 + G.length : Nat) : Int), an.a]⟩ : Ins) :: (G ++ GA ++ [ins0 13 0 0]) := by rw [← hO3]; simp
          rw [← this]
          exact hW16
        · rcases hown with eo | eo
          · rw [eo] at hg'
            exact hN15 g' hg'
          · rw [eo] at hg'
            have hg' := Option.some.inj hg'
            refine ⟨fun ee => ?_, fun u hu ee => ?_⟩
            · have := hW15.blk.lt; omega
            · have := (hW15.owned hu ee).2; omega
        · rw [← hT1]
          simp only [armsTo, Tr.n, List.append_assoc, List.cons_append, List.nil_append, List.length_append, List.length_cons, List.length_nil, hlen70, hgarm]
          rw [show B.length + 1 + (G.length + (glen ax + (slides an.a).length + (0 + 1))) = B.length + 1 + G.length + (glen ax + (slides an.a).length) + 1 by omega]
        · rw [← hG1]
          simp only [genArms, hlast, Bool.false_eq_true, if_false, hGA, List.append_assoc, List.cons_append, List.nil_append, List.length_append, List.length_cons, List.length_nil, hlen70, hgarm]
          rw [show B.length + 1 + (G.length + (glen ax + (slides an.a).length + (0 + 1))) = B.length + 1 + G.length + (glen ax + (slides an.a).length) + 1 by omega]
          rfl
        · rw [← hE1]
          simp only [gotoPos, hlast, Bool.false_eq_true, if_false, lO4, List.append_assoc, List.cons_append, List.nil_append, List.length_append, List.length_cons, List.length_nil, hlen70, hgarm]
          rw [show B.length + 1 + (G.length + (glen ax + (slides an.a).length + (0 + 1))) = B.length + 1 + G.length + (glen ax + (slides an.a).length) + 1 by omega]
        · simp only [List.length_append, List.length_cons, List.length_nil, hlen70]
          omega
        · simp only [List.length_append, List.length_cons, List.length_nil]
          omega
      · have hlast : arms.drop (i + 1) = [] := List.drop_eq_nil_of_le (by omega)
        rw [hlast] at hGl hT1 hG1 hE1 hE13
        simp only [List.isEmpty_nil, if_true, armsLen] at hGl
        rw [hgarm] at hlen70
        obtain ⟨vo14, al14, cl14, vp14, rs14, hV14⟩ := hE13
        have hV14' := hV14
        rw [hX8] at hV14'
        have hW14 : EmV C w1 XX pe _ _ _ _ _ _ _ _ w13 := hV.backV (by rw [← hX5]; exact hV8.backV hV14')
        have hOe15 : Own rInt 3 w1.heap.size w13 ve (natI E) := hOe8.kpn flatI hV14.kp fun g hg => (hge8 g hg).2
        refine int64 (by omega) (by omega) ?_
        refine ⟨(i + 1, ve), by simp only; omega, rfl, ⟨rfl, rfl, rfl, rfl, rfl, rfl, rfl, trivial⟩, hil, T ++ [((B.length + 1 + G.length : Nat) : Int), an.a], G ++ GA, E, vo14, al14, cl14, vp14, rs14, ?_, hOe15, fun g hg => hV14.notOwn (hge8 g hg).1 (hge8 g hg).2, ?_, ?_, ?_, ?_, ?_, by simp only [hlast, tsizes]; omega, by simp only; omega⟩
        · have : O3 ++ GA = B ++ (⟨9, n.a, n.b, T ++ [((B.length + 1 + G.length : Nat) : Int), an.a]⟩ : Ins) :: (G ++ GA) := by rw [← hO3]; simp
          rw [← this]
          simp only [hlast]
          exact hW14
        · rw [← hT1]
          simp only [hlast, armsTo, Tr.n, List.append_nil]
        · rw [← hG1]
          simp [hlast, genArms, hGA]
        · rw [← hE1]
          simp [hlast, gotoPos]
        · simp only [hlast, List.length_append, hlen70, armsLen]
          omega
        · simp only [List.length_append, List.length_cons, List.length_nil]
          omega
    · refine twoG τok 12 15 5 #[true, true, true, true, true, true, true, true, true, true, true, true, true, true, true, false, false, false, false, false] #[true, true, true, true, true, true, true, true, true, true, true, true, false, true, true, true, false, false, false, false] rfl rfl rfl rfl rfl (by kernel_rfl) ?_ ?_
      · refine ld hcell.cell ?_
        refine ⟨.inl ⟨hBe, hB99⟩, ?_⟩
        refine nextG τok 15 4 #[true, true, true, true, true, true, true, true, true, true, true, true, true, true, true, true, false, false, false, false] rfl rfl rfl (by kernel_rfl) ?_
        refine fill [.int .i64 an.a] rfl ?_
        refine new fun b1 w10 hb1 hB1 hs10 hk10 => ?_
        have hk10 : Kp [] w9 w10 := hk10.rd
        exact ⟨.inl ⟨hBe.kp hk10 (by simp), hB99.kp hk10 (by simp)⟩, tail _ _ ⟨b1, rfl, ⟨rfl, rfl, rfl, rfl, rfl, rfl, rfl, rfl, rfl, rfl, rfl, rfl, rfl, trivial⟩, hk10, hB1⟩⟩
      · refine fill [.int .i64 an.a] rfl ?_
        refine new fun b1 w10 hb1 hB1 hs10 hk10 => ?_
        have hk10 : Kp [] w9 w10 := hk10.rd
        refine ⟨.inl ⟨hBe.kp hk10 (by simp), hB99.kp hk10 (by simp)⟩, ?_⟩
        refine nextG τok 12 4 #[true, true, true, true, true, true, true, true, true, true, true, true, true, true, true, true, false, false, false, false] rfl rfl rfl (by kernel_rfl) ?_
        refine ld (hcell.kp hk10 (by simp)).cell ?_
        exact ⟨.inl ⟨hBe.kp hk10 (by simp), hB99.kp hk10 (by simp)⟩, tail _ _ ⟨b1, rfl, ⟨rfl, rfl, rfl, rfl, rfl, rfl, rfl, rfl, rfl, rfl, rfl, rfl, rfl, trivial⟩, hk10, hB1⟩⟩
  · have hin : i = arms.length := by omega
    subst hin
    rw [List.drop_length] at hV hT1 hG1 hE1
    simp only [armsTo, genArms, gotoPos, rows, List.append_nil, List.nil_append] at hV hT1 hG1 hE1
    subst hT1 hG1 hE1
    have lG : (genArms arms h ps (B.length + 1) []).length = armsLen arms := genArms_len arms ps.length harms h ps (B.length + 1) []
    obtain ⟨va, vc, rfl, _⟩ := hOe.den (by simp [natI]; omega)
    have hnl : (natI (gotoPos arms (B.length + 1))).length = (gotoPos arms (B.length + 1)).length := by simp [natI]
    have hR5 := hV.rebase
    obtain ⟨X5, hX5⟩ : ∃ X5, X5 = ownedL pe vo vp rs := ⟨_, rfl⟩
    rw [← hX5] at hR5
    have hge : ∀ g, (Value.slice va (natI (gotoPos arms (B.length + 1))).length vc).ownBlock = some g → g ∉ X5 := fun g hg => by rw [hX5]; exact (hNe g hg).of
    obtain ⟨EE, hEE⟩ : ∃ e, B.length + 1 + armsLen arms = e := ⟨_, rfl⟩
    refine lp τok (σ := Nat) (fun k => [(0, .pointer (some ⟨pe, 0, none⟩)), (75, .slice va (natI (gotoPos arms (B.length + 1))).length vc), (76, .int .i64 (natI (gotoPos arms (B.length + 1))).length), (77, .int .i64 k)])
      (fun k w' => k ≤ (gotoPos arms (B.length + 1)).length ∧ ∃ l A, (∀ x ∈ l, okT (cntF p) nxF x (ps.length, true)) ∧ (gotoPos arms (B.length + 1)).drop k = gotoPos l A.length ∧ EmS C w5 X5 pe (A ++ genArms l h ps A.length []) rest ps w' ∧
        A ++ genArms l h ps A.length [(EE : Int)] = (B ++ [⟨9, n.a, n.b, armsTo arms (B.length + 1)⟩]) ++ genArms arms h ps (B.length + 1) [(EE : Int)] ∧ (A ++ genArms l h ps A.length []).length = EE) (fun k => (gotoPos arms (B.length + 1)).length - k) 0 rfl
      ⟨rfl, rfl, rfl, rfl, trivial⟩ ⟨Nat.zero_le _, arms, B ++ [⟨9, n.a, n.b, armsTo arms (B.length + 1)⟩], harms, by simp, ?_, by simp, by simp [lG]; omega⟩ ?_
    · have : (B ++ [(⟨9, n.a, n.b, armsTo arms (B.length + 1)⟩ : Ins)]).length = B.length + 1 := by simp
      rw [this]
      refine ⟨vo, al, cl, vp, rs, ?_⟩
      simpa using hR5
    rintro k w6 ⟨hk, l, A, hl, hdr, hE6, hfin, hlen⟩
    refine br_dec (fun g2 => ?_) (fun g2 => ?_)
    · have hkl : k < (gotoPos arms (B.length + 1)).length := by omega
      obtain ⟨q, hq, hdq⟩ := drop_get hkl
      rw [hdq] at hdr
      match l, hdr, hl with
      | [], hdr, _ => simp [gotoPos] at hdr
      | [x], hdr, _ => simp [gotoPos] at hdr
      | x :: y :: r, hdr, hl =>
        have g2 : gotoPos (x :: y :: r) A.length = (A.length + glen x) :: gotoPos (y :: r) (A.length + glen x + 1) := by rw [gotoPos]; simp
        rw [g2] at hdr
        simp only [List.cons.injEq] at hdr
        obtain ⟨hqe, hdr2⟩ := hdr
        subst hqe
        have hO6 := hOe.kpn flatI hE6.kp' fun g hg => hge g hg
        obtain ⟨va', vc', he', hsl⟩ := hO6.den (by simp [natI]; omega)
        injection he' with e1 e2 e3
        subst e1 e3
        obtain ⟨b, o, hva, hcell, _⟩ := hsl.int (i := k) (x := ((A.length + glen x : Nat) : Int)) (by simp [natI, hq])
        refine ixE hva k rfl (by rw [hnl]; exact hkl) ?_
        refine ldC (New.sub _ w6) hcell ?_
        have e1 := gen_len x _ (hl x (by simp)) h ps A.length
        have g : ∀ e, genArms (x :: y :: r) h ps A.length e = gen x h ps A.length ++ (⟨13, 0, 0, e⟩ :: genArms (y :: r) h ps (A.length + glen x + 1) e) := fun e => by rw [genArms]; simp
        rw [g, ← List.append_assoc] at hE6 hfin hlen
        have hA : (A ++ gen x h ps A.length).length = A.length + glen x := by simp [e1]
        refine ev_call (by have := here_ct hE6 (A ++ gen x h ps A.length).length (x := ⟨13, 0, 0, []⟩) (by simp) (by simp) (by rw [hlen]; omega); rw [hA] at this; exact this) ?_
        rintro e w7 ⟨rfl, hE7⟩
        have hm := addTo_mid (A ++ gen x h ps A.length) (genArms (y :: r) h ps (A.length + glen x + 1) []) ⟨13, 0, 0, []⟩ ((A ++ gen x h ps A.length ++ ⟨13, 0, 0, []⟩ :: genArms (y :: r) h ps (A.length + glen x + 1) []).length : Int)
        rw [hA] at hm
        rw [hm, hlen] at hE7
        simp only [List.nil_append] at hE7
        have lA' : (A ++ gen x h ps A.length ++ [(⟨13, 0, 0, [(EE : Int)]⟩ : Ins)]).length = A.length + glen x + 1 := by simp [e1]; omega
        refine int64 (by omega) (by omega) ?_
        refine ⟨k + 1, by omega, rfl, ⟨rfl, rfl, rfl, rfl, trivial⟩, hkl, y :: r, A ++ gen x h ps A.length ++ [⟨13, 0, 0, [(EE : Int)]⟩], fun z hz => hl z (by simp at hz ⊢; right; exact hz), by rw [lA']; exact hdr2, ?_, ?_, ?_⟩
        · rw [lA']
          simpa using hE7
        · rw [lA', ← hfin]
          simp
        · rw [lA', ← hlen]
          simp
    · rw [List.drop_eq_nil_of_le (by rw [hnl] at g2; omega)] at hdr
      have hnil : genArms l h ps A.length [] = genArms l h ps A.length [(EE : Int)] := by
        match l, hdr with
        | [], _ => rfl
        | [x], _ => simp [genArms]
        | x :: y :: r, hdr =>
          have g2 : gotoPos (x :: y :: r) A.length = (A.length + glen x) :: gotoPos (y :: r) (A.length + glen x + 1) := by rw [gotoPos]; simp
          rw [g2] at hdr
          cases hdr
      rw [hnil, hfin] at hE6
      refine ⟨rfl, fin ?_⟩
      rw [hX5] at hE6
      have hb := hV.back hE6
      have harm : arms.isEmpty = false := by
        cases hq : arms with
        | nil => subst hq; simp at hnb; exact absurd hnb.symm g0
        | cons y r => rfl
      simp only [genSw, harm, Bool.false_eq_true, if_false]
      rw [← List.append_assoc, hB, ← lB, hEE]
      simpa using hb
end
end Go.Proofs.YtjpdkcejkogciaaDoor

