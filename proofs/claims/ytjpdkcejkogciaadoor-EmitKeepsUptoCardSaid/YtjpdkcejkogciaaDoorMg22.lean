/-
  Own texts put together: EmCa, EmKa, EmKb.
-/
import Derived.Test.YtjpdkcejkogciaaDoorMg21
import Derived.Laws.StructEq
/-
  Reference 18: CopyFlatted.
-/
set_option linter.unusedSimpArgs false
set_option linter.unusedVariables false
namespace Go.Wx
theorem Own.denc {α : Type} {R : Rd α} {e lo : Nat} {w : World} {v : Value} {l : List α} (h : Own R e lo w v l) (hl : l.length ≤ 1099511627776) : ∃ a cap, v = .slice a l.length cap ∧ l.length ≤ cap ∧ Sl R (New lo w) a l := by
  obtain ⟨a, cap, hv, hs⟩ := h.den hl
  obtain ⟨a', cap', hv', hc⟩ := h.cap
  rw [hv] at hv'
  injection hv' with e1 e2 e3
  subst e1 e3
  exact ⟨a, cap, hv, hc, hs⟩
end Go.Wx
namespace Go.Proofs.YtjpdkcejkogciaaDoor
open Go.Wx Cd
set_option maxHeartbeats 4000000 in
theorem copyFlat_ct {C : Mem} {w : World} (hS : Sub C w) {cf : List Value} {p : Flt} (hp : rFlt.den C cf p) :
    CallOk Tryd.prog 12 ∧ Calls Tryd.prog 12 #[.agg cf.toArray] w (fun e w' => ∃ cs, e = .returned (.agg cs.toArray) ∧ rFlt.den (New w.heap.size w') cs p ∧ Kp [] w w') := by
  refine ⟨⟨_, Tryd.func12, rfl, by decide⟩, ?_⟩
  obtain ⟨a1, c1, a2, c2, a3, c3, rfl, h1, h2, h3, h4⟩ := hp
  have hl1 := h1.1
  have hl2 := h2.1
  have hl3 := h3.1
  refine calls_of (args := [_]) 58 [.cell 2 27] τok Tryd.func12 rfl rfl rfl (Nat.le_of_ble_eq_true rfl) ?_
  refine new fun b1 w1 hb1 hB1 hs1 hk1 => ?_
  refine new fun b2 w2 hb2 hB2 hs2 hk2 => ?_
  have hB1 : Bk w2.heap b1 [.slice a1 p.funs.length c1, .slice a2 p.bodies.length c2, .slice a3 p.main.length c3] 27 := Bk.kp hB1 hk2 (by simp)
  have hk02 := hk1.tr hk2
  refine fill [] rfl ?_
  refine new fun b6 w3 hb6 hB6 hs6 hk6 => ?_
  have hk03 := hk02.tr hk6
  refine ld ((hB1.kp hk6 (by simp)).cl rfl).cell ?_
  have hO6 : Own rNd 47 w2.heap.size w3 (.slice (some ⟨b6, 0, none⟩) 0 0) [] := Own.empty rNd hB6 (by omega)
  refine hO6.apF τok rfl rfl (by decide) flatNd (hS.tr hk03) p.main h3 (by simp; omega) (by simp [maxLen]; omega) fun v4 w4 hO4 hk4 _ => ?_
  have hk24 : Kp [] w2 w4 := hk6.own hk4 hO6
  rw [List.nil_append] at hO4
  obtain ⟨am, cm, hvm, hcm, hsm⟩ := hO4.denc hl3
  subst hvm
  refine new fun b3 w5 hb3 hB3 hs5 hk5 => ?_
  refine stN (vs := [.slice none 0 0, .slice none 0 0, .slice am p.main.length cm]) hB3 rfl (by simp [Value.oneCell']) fun w6 hB3 hs6' hk6' => ?_
  have hk46 : Kp [] w4 w6 := hk5.newSt hb3 hk6'
  have hk26 := hk24.tr hk46
  have hB1 := hB1.kp hk26 (by simp)
  have hB2 := Bk.kp hB2 hk26 (by simp)
  have hk06 := hk02.tr hk26
  have hz1 := hk1.size
  have hz24 := hk24.size
  have hb1l : b1 < w2.heap.size := by omega
  have hb2l : b2 < w2.heap.size := by omega
  have hb3l : b3 < w6.heap.size := hB3.lt
  have hb3g : w2.heap.size ≤ b3 := by omega
  have hsm : Sl rNd (fun b o t => w2.heap.size ≤ b ∧ b ≠ b3 ∧ Cu w6.heap b o t) am p.main := hsm.mono fun b o t ht => ⟨ht.1, fun e => by have := ht.2.lt; omega, ht.2.kp hk46 (by simp)⟩
  clear hk5 hk6' hs5 hs6' hk6 hk4 hO4 hO6 hB6 hs6 hb6
  -- functions
  refine lp τok (σ := Nat × Value) (fun q => [(1, .pointer (some ⟨b1, 0, none⟩)), (2, .pointer (some ⟨b2, 0, none⟩)), (3, .pointer (some ⟨b3, 0, none⟩)), (4, .int .i64 q.1)])
    (fun q u => q.1 ≤ p.funs.length ∧ Kp [b3] w6 u ∧ Bk u.heap b3 [q.2, .slice none 0 0, .slice am p.main.length cm] 27 ∧ Own rFfn 55 w6.heap.size u q.2 (p.funs.take q.1)) (fun q => p.funs.length - q.1) (0, .slice none 0 0) rfl
    ⟨rfl, rfl, rfl, rfl, trivial⟩ ⟨Nat.zero_le _, Kp.refl _ _, hB3, Own.nil _ _ (Nat.le_refl _)⟩ ?_
  rintro ⟨k, v0⟩ u ⟨hk, hkp, hB3, hO⟩
  simp only at hk hB3 hO
  have hB1u := hB1.kp hkp (by simp; omega)
  have k0u : Kp [] w u := hk06.trans hkp (fun x hx hl => by simp at hx; omega)
  have hSu := hS.tr k0u
  refine ld (hB1u.cl rfl).cell ?_
  refine br_dec (fun g1 => ?_) (fun g1 => ?_)
  · have hkl : k < p.funs.length := by omega
    obtain ⟨x, hx, _⟩ := drop_get hkl
    obtain ⟨bx, ox, hax, ax, cx, hsx, hxc, hc0, hc1, hcap⟩ := sl_ffn h1 hx
    subst hax
    have hxl := hsx.1
    have htl : (p.funs.take k).length = k := by simp; omega
    refine drawG τok (fun z => Bk z.heap b3 [v0, .slice none 0 0, .slice am p.main.length cm] 27 ∧ Bk z.heap b1 [.slice (some ⟨bx, ox, none⟩) p.funs.length c1, .slice a2 p.bodies.length c2, .slice a3 p.main.length c3] 27 ∧ Sub C z) ?_
    refine readsG τok [0, 1, 2, 3, 4, 5, 6, 7, 9, 10, 11, 12, 13, 14] 7 #[true, true, true, true, true, true, true, true, false, true, true, true, true, true, true, false, false, false, false, false, false] rfl rfl (by kernel_rfl) (by kernel_rfl) (by kernel_rfl) ⟨hB3, hB1u, (by exact fun b o v hc => hSu b o v hc)⟩ ?_
    refine ldQ (fun z hz => hz.1.cl rfl) ?_
    refine ldQ (fun z hz => hz.2.1.cl rfl) ?_
    refine ix k rfl hkl ?_
    refine ldQ (fun z hz => hz.2.2 _ _ _ hc0) ?_
    refine ldQ (fun z hz => hz.2.1.cl rfl) ?_
    refine ix k rfl hkl ?_
    refine ldQ (fun z hz => hz.2.2 _ _ _ hc1) ?_
    refine nextG τok 8 6 #[true, true, true, true, true, true, true, true, true, true, true, true, true, true, true, false, false, false, false, false, false] rfl rfl rfl (by kernel_rfl) ?_
    refine fill [] rfl ?_
    refine new fun b5 u1 hb5 hB5 hs5 hk5 => ?_
    have hk5 : Kp [] u u1 := hk5.rd
    have hb5 : b5 = u.heap.size := hb5
    refine ⟨.inl ⟨hB3.kp hk5 (by simp), hB1u.kp hk5 (by simp), hSu.tr hk5⟩, ?_⟩
    refine nextG τok 15 5 #[true, true, true, true, true, true, true, true, true, true, true, true, true, true, true, true, false, false, false, false, false] rfl rfl rfl (by kernel_rfl) ?_
    have hO5 : Own rNd 47 u.heap.size u1 (.slice (some ⟨b5, 0, none⟩) 0 0) [] := Own.empty rNd hB5 (by omega)
    refine hO5.apF τok rfl rfl (by decide) flatNd (hSu.tr hk5) x.body hsx (by simp; omega) (by simp [maxLen]; omega) fun v6 u2 hO6 hk6 _ => ?_
    have hk02' : Kp [] u u2 := hk5.own hk6 hO5
    rw [List.nil_append] at hO6
    obtain ⟨a6, c6, hv6, hc6, hs6⟩ := hO6.denc (by omega)
    subst hv6
    refine ⟨.inl ⟨hB3.kp hk02' (by simp), hB1u.kp hk02' (by simp), hSu.tr hk02'⟩, ?_⟩
    refine nextG τok 16 4 #[true, true, true, true, true, true, true, true, true, true, true, true, true, true, true, true, true, false, false, false, false] rfl rfl rfl (by kernel_rfl) ?_
    refine ⟨.inl ⟨hB3.kp hk02' (by simp), hB1u.kp hk02' (by simp), hSu.tr hk02'⟩, ?_⟩
    refine nextG τok 17 3 #[true, true, true, true, true, true, true, true, true, true, true, true, true, true, true, true, true, true, false, false, false] rfl rfl rfl (by kernel_rfl) ?_
    refine fill [.int .i64 x.caps, .slice a6 x.body.length c6] rfl ?_
    refine new fun b7 u3 hb7 hB7 hs7 hk7 => ?_
    have hk03' := hk02'.tr hk7
    refine ⟨.inl ⟨hB3.kp hk03' (by simp), hB1u.kp hk03' (by simp), hSu.tr hk03'⟩, ?_⟩
    refine nextG τok 18 2 #[true, true, true, true, true, true, true, true, true, true, true, true, true, true, true, true, true, true, true, false, false] rfl rfl rfl (by kernel_rfl) ?_
    have hblk := hO.block
    refine (hO.kp hk03').ap1 τok rfl rfl (by decide) x [.int .i64 x.caps, .slice a6 x.body.length c6] ⟨a6, c6, rfl, hs6.mono (new_dn hO hk7), hxc, hc6⟩ (fun j t hj => by rw [Nat.zero_add]; exact hB7.cl hj) (by rw [htl]; omega) (by rw [htl]; simp only [maxLen]; omega) fun v8 u4 hO8 hk8 _ => ?_
    have hX : ∀ g ∈ v0.ownBlock.toList, w6.heap.size ≤ g := fun g hg => (hblk g (by simpa using hg)).1
    have hB34 := (hB3.kp hk03' (by simp)).kp hk8 (fun hx => by have := hX _ hx; omega)
    have hB14 := (hB1u.kp hk03' (by simp)).kp hk8 (fun hx => by have := hX _ hx; have := hk26.size; omega)
    have hS4 : Sub C u4 := (hSu.tr hk03').kp hk8 fun b o v hc hx => by have := hX _ hx; have := hS.lt b o v hc; have := hk06.size; omega
    refine ⟨.inl ⟨hB34, hB14, hS4⟩, ?_⟩
    refine nextG τok 19 1 #[true, true, true, true, true, true, true, true, true, true, true, true, true, true, true, true, true, true, true, true, false] rfl rfl rfl (by kernel_rfl) ?_
    refine ⟨.inl ⟨hB34, hB14, hS4⟩, ?_⟩
    refine nextG τok 20 0 #[true, true, true, true, true, true, true, true, true, true, true, true, true, true, true, true, true, true, true, true, true] rfl rfl rfl (by kernel_rfl) ?_
    obtain ⟨aw, cw, hvw⟩ := hO8.len
    refine st hB34 (by simp) (by rw [hvw]; rfl) fun u5 hB35 hs9 hk9 => ?_
    refine ⟨.inr (by kernel_rfl), ?_⟩
    refine doneG (by kernel_rfl) ?_
    refine int64 (by (try simp only); omega) (by (try simp only); omega) ?_
    refine ⟨(k + 1, v8), by simp only; omega, rfl, ⟨rfl, rfl, rfl, rfl, trivial⟩, hkl, ((hkp.tr hk03').ownX hk8 (hO.kp hk03')).trans hk9 (fun x hx _ => hx), hB35, ?_⟩
    simp only
    rw [take_get hx]
    exact hO8.kpl hk9 (by simp; omega)
  rw [List.take_of_length_le (by omega)] at hO
  obtain ⟨afn, cfn, hvf, hSf⟩ := hO.den (by omega)
  subst hvf
  clear hk g1
  -- bodies
  obtain ⟨uF, huF⟩ : ∃ z, u = z := ⟨_, rfl⟩
  rw [huF] at hB3 hkp hB1u k0u hSu hSf
  rw [huF]
  clear hO huF u
  have hzF := hkp.size
  have hz26 := hk26.size
  have hz02 := hk02.size
  refine lp τok (σ := Nat × Value) (fun q => [(1, .pointer (some ⟨b1, 0, none⟩)), (2, .pointer (some ⟨b2, 0, none⟩)), (3, .pointer (some ⟨b3, 0, none⟩)), (5, .int .i64 q.1)])
    (fun q u => q.1 ≤ p.bodies.length ∧ Kp [b3] uF u ∧ Bk u.heap b3 [.slice afn p.funs.length cfn, q.2, .slice am p.main.length cm] 27 ∧ Own (rSk rNd) 25 uF.heap.size u q.2 (p.bodies.take q.1)) (fun q => p.bodies.length - q.1) (0, .slice none 0 0) rfl
    ⟨rfl, rfl, rfl, rfl, trivial⟩ ⟨Nat.zero_le _, Kp.refl _ _, hB3, Own.nil _ _ (Nat.le_refl _)⟩ ?_
  clear hB3
  rintro ⟨k, v0⟩ u ⟨hk, hkq, hB3, hO⟩
  simp only at hk hB3 hO
  have hB1u := hB1u.kp hkq (by simp; omega)
  have k0z : Kp [] w u := k0u.trans hkq (fun x hx hl => by simp at hx; omega)
  have hSu := hS.tr k0z
  refine ld (hB1u.cl rfl).cell ?_
  refine br_dec (fun g1 => ?_) (fun g1 => ?_)
  · have hkl : k < p.bodies.length := by omega
    obtain ⟨x, hx, _⟩ := drop_get hkl
    obtain ⟨bx, ox, hax, ax, cx, hcx, hcap, hsx⟩ := h2.sk hx
    subst hax
    have hxl := hsx.1
    have htl : (p.bodies.take k).length = k := by simp; omega
    refine drawG τok (fun z => Bk z.heap b3 [.slice afn p.funs.length cfn, v0, .slice am p.main.length cm] 27 ∧ Bk z.heap b1 [.slice a1 p.funs.length c1, .slice (some ⟨bx, ox, none⟩) p.bodies.length c2, .slice a3 p.main.length c3] 27 ∧ Sub C z) ?_
    refine readsG τok [0, 1, 3, 4, 5, 6, 7] 6 #[true, true, false, true, true, true, true, true, false, false, false, false, false] rfl rfl (by kernel_rfl) (by kernel_rfl) (by kernel_rfl) ⟨hB3, hB1u, (by exact fun b o v hc => hSu b o v hc)⟩ ?_
    refine ldQ (fun z hz => hz.1.cl rfl) ?_
    refine ldQ (fun z hz => hz.2.1.cl rfl) ?_
    refine ix k rfl hkl ?_
    refine ldQ (fun z hz => hz.2.2 _ _ _ hcx) ?_
    refine nextG τok 2 5 #[true, true, true, true, true, true, true, true, false, false, false, false, false] rfl rfl rfl (by kernel_rfl) ?_
    refine fill [] rfl ?_
    refine new fun b5 u1 hb5 hB5 hs5 hk5 => ?_
    have hk5 : Kp [] u u1 := hk5.rd
    have hb5 : b5 = u.heap.size := hb5
    refine ⟨.inl ⟨hB3.kp hk5 (by simp), hB1u.kp hk5 (by simp), hSu.tr hk5⟩, ?_⟩
    refine nextG τok 8 4 #[true, true, true, true, true, true, true, true, true, false, false, false, false] rfl rfl rfl (by kernel_rfl) ?_
    have hO5 : Own rNd 47 u.heap.size u1 (.slice (some ⟨b5, 0, none⟩) 0 0) [] := Own.empty rNd hB5 (by omega)
    refine hO5.apF τok rfl rfl (by decide) flatNd (hSu.tr hk5) x hsx (by simp; omega) (by simp [maxLen]; omega) fun v6 u2 hO6 hk6 _ => ?_
    have hk02' : Kp [] u u2 := hk5.own hk6 hO5
    rw [List.nil_append] at hO6
    obtain ⟨a6, c6, hv6, hc6, hs6⟩ := hO6.denc (by omega)
    subst hv6
    refine ⟨.inl ⟨hB3.kp hk02' (by simp), hB1u.kp hk02' (by simp), hSu.tr hk02'⟩, ?_⟩
    refine nextG τok 9 3 #[true, true, true, true, true, true, true, true, true, true, false, false, false] rfl rfl rfl (by kernel_rfl) ?_
    refine fill [.slice a6 x.length c6] rfl ?_
    refine new fun b7 u3 hb7 hB7 hs7 hk7 => ?_
    have hk03' := hk02'.tr hk7
    refine ⟨.inl ⟨hB3.kp hk03' (by simp), hB1u.kp hk03' (by simp), hSu.tr hk03'⟩, ?_⟩
    refine nextG τok 10 2 #[true, true, true, true, true, true, true, true, true, true, true, false, false] rfl rfl rfl (by kernel_rfl) ?_
    have hblk := hO.block
    refine (hO.kp hk03').ap1 τok rfl rfl (by decide) x [.slice a6 x.length c6] ⟨a6, c6, rfl, hc6, hs6.mono (new_dn hO hk7)⟩ (fun j t hj => by rw [Nat.zero_add]; exact hB7.cl hj) (by rw [htl]; omega) (by rw [htl]; simp only [maxLen]; omega) fun v8 u4 hO8 hk8 _ => ?_
    have hX : ∀ g ∈ v0.ownBlock.toList, uF.heap.size ≤ g := fun g hg => (hblk g (by simpa using hg)).1
    have hB34 := (hB3.kp hk03' (by simp)).kp hk8 (fun hx => by have := hX _ hx; omega)
    have hB14 := (hB1u.kp hk03' (by simp)).kp hk8 (fun hx => by have := hX _ hx; omega)
    have hS4 : Sub C u4 := (hSu.tr hk03').kp hk8 fun b o v hc hx => by have := hX _ hx; have := hS.lt b o v hc; omega
    refine ⟨.inl ⟨hB34, hB14, hS4⟩, ?_⟩
    refine nextG τok 11 1 #[true, true, true, true, true, true, true, true, true, true, true, true, false] rfl rfl rfl (by kernel_rfl) ?_
    refine ⟨.inl ⟨hB34, hB14, hS4⟩, ?_⟩
    refine nextG τok 12 0 #[true, true, true, true, true, true, true, true, true, true, true, true, true] rfl rfl rfl (by kernel_rfl) ?_
    obtain ⟨aw, cw, hvw⟩ := hO8.len
    refine st hB34 (by simp) (by rw [hvw]; rfl) fun u5 hB35 hs9 hk9 => ?_
    refine ⟨.inr (by kernel_rfl), ?_⟩
    refine doneG (by kernel_rfl) ?_
    refine int64 (by (try simp only); omega) (by (try simp only); omega) ?_
    refine ⟨(k + 1, v8), by simp only; omega, rfl, ⟨rfl, rfl, rfl, rfl, trivial⟩, hkl, ((hkq.tr hk03').ownX hk8 (hO.kp hk03')).trans hk9 (fun x hx _ => hx), hB35, ?_⟩
    simp only
    rw [take_get hx]
    exact hO8.kpl hk9 (by simp; omega)
  rw [List.take_of_length_le (by omega)] at hO
  obtain ⟨abd, cbd, hvb, hSb⟩ := hO.den (by omega)
  subst hvb
  have hk6u : Kp [b3] w6 u := hkp.trans hkq (fun x hx _ => hx)
  have hB2u := Bk.kp hB2 hk6u (by simp; omega)
  refine ldN [.slice afn p.funs.length cfn, .slice abd p.bodies.length cbd, .slice am p.main.length cm] rfl (fun j v hj => by rw [Nat.zero_add]; exact hB3.cl hj) ?_
  refine stN (vs := [.slice afn p.funs.length cfn, .slice abd p.bodies.length cbd, .slice am p.main.length cm]) hB2u rfl (by simp [Value.oneCell']) fun w7 hB7 hs7 hk7 => ?_
  refine resN τok rfl [.slice afn p.funs.length cfn, .slice abd p.bodies.length cbd, .slice am p.main.length cm] rfl (fun j v hj => hB7.cl hj) ?_
  refine ⟨_, rfl, ⟨afn, cfn, abd, cbd, am, cm, rfl, ?_, ?_, ?_, hcm⟩, k0z.trans hk7 fun x hx hl => by simp at hx; omega⟩
  · exact hSf.mono fun b o v hv => ⟨by have := hv.1; omega, (hv.2.kp hkq (by have := hv.1; simp; omega)).kp hk7 (by have := hv.1; simp; omega)⟩
  · exact hSb.mono fun b o v hv => ⟨by have := hv.1; omega, hv.2.kp hk7 (by have := hv.1; simp; omega)⟩
  · exact hsm.mono fun b o v hv => ⟨by have := hv.1; omega, (hv.2.2.kp hk6u (by simpa using hv.2.1)).kp hk7 (by have := hv.1; simp; omega)⟩
end Go.Proofs.YtjpdkcejkogciaaDoor

/-
  Package emit: rows and programs compared: the same where they read alike.
-/
set_option linter.unusedSimpArgs false
set_option linter.unusedVariables false
namespace Go.Proofs.YtjpdkcejkogciaaDoor
open Go.Wx Cd

theorem neqNd_run (x y : Operand) (n : Nd) (w : World) : (do eqGuard .neq 47 x y (.agg #[.int .i64 n.op, .int .i64 n.a, .int .i64 n.b]) (.agg #[.int .i64 n.op, .int .i64 n.a, .int .i64 n.b]); binOp .neq 47 (.agg #[.int .i64 n.op, .int .i64 n.a, .int .i64 n.b]) (.agg #[.int .i64 n.op, .int .i64 n.a, .int .i64 n.b]) : Sem Value).run Tryd.prog w = .ok (.bool false) w := by
  have hfs : (Tryd.prog.fieldsOf 47).toList.map (fun f => (f.name != "_", f.offset, f.type)) = [(true, 0, 3), (true, 1, 3), (true, 2, 3)] := by kernel_rfl
  have hu : Tryd.prog.underlying 47 = some (.struct (Tryd.prog.fieldsOf 47)) := by kernel_rfl
  have hm : Tryd.prog.eqGuardType Tryd.prog.depth 47 = false := by kernel_rfl
  have hst : Tryd.prog.stoodInHeld 47 = false := by kernel_rfl
  simp only [Sem.run_bind, run_eqGuard_agg w .neq 47 x y _ _ hm, Result.andThen_ok, run_neq_struct]
  rw [show (10000 : Nat) = 9999 + 1 from rfl, run_equalIn_struct w 9999 47 _ _ hu hst]
  generalize (Tryd.prog.fieldsOf 47).toList = fs at hfs
  have hfl : fs.length = 3 := by have := congrArg List.length hfs; simpa using this
  match fs, hfl, hfs with
  | [f, g, h], _, hfs =>
    simp only [List.map_cons, List.map_nil, List.cons.injEq, Prod.mk.injEq, bne_iff_ne, ne_eq, and_true] at hfs
    obtain ⟨⟨n1, o1, t1⟩, ⟨n2, o2, t2⟩, n3, o3, t3⟩ := hfs
    have e1 : ∀ (a b : Int) (w : World), (Op.equalIn 9999 3 (.int .i64 a) (.int .i64 b)).run Tryd.prog w = .ok (a == b) w := fun a b w => by rw [show (9999 : Nat) = 9998 + 1 from rfl]; exact run_equalIn_int w 9998 3 .i64 .i64 a b Tryd.underlying3
    have p0 : ∀ (a b c : Value) (w : World), (part 3 #[a, b, c] 0).run Tryd.prog w = .ok a w := fun a b c w => by simp [part, isAgg, run_underlying Tryd.underlying3]
    have p1 : ∀ (a b c : Value) (w : World), (part 3 #[a, b, c] 1).run Tryd.prog w = .ok b w := fun a b c w => by simp [part, isAgg, run_underlying Tryd.underlying3]
    have p2 : ∀ (a b c : Value) (w : World), (part 3 #[a, b, c] 2).run Tryd.prog w = .ok c w := fun a b c w => by simp [part, isAgg, run_underlying Tryd.underlying3]
    simp [Op.eqFields, n1, n2, n3, o1, o2, o3, t1, t2, t3, p0, p1, p2, e1]
theorem neqPrm_run (x y : Operand) (n : Int × Int) (w : World) : (do eqGuard .neq 77 x y (.agg #[.int .i64 n.1, .int .i64 n.2]) (.agg #[.int .i64 n.1, .int .i64 n.2]); binOp .neq 77 (.agg #[.int .i64 n.1, .int .i64 n.2]) (.agg #[.int .i64 n.1, .int .i64 n.2]) : Sem Value).run Tryd.prog w = .ok (.bool false) w := by
  have hfs : (Tryd.prog.fieldsOf 77).toList.map (fun f => (f.name != "_", f.offset, f.type)) = [(true, 0, 3), (true, 1, 3)] := by kernel_rfl
  have hu : Tryd.prog.underlying 77 = some (.struct (Tryd.prog.fieldsOf 77)) := by kernel_rfl
  have hm : Tryd.prog.eqGuardType Tryd.prog.depth 77 = false := by kernel_rfl
  have hst : Tryd.prog.stoodInHeld 77 = false := by kernel_rfl
  simp only [Sem.run_bind, run_eqGuard_agg w .neq 77 x y _ _ hm, Result.andThen_ok, run_neq_struct]
  rw [show (10000 : Nat) = 9999 + 1 from rfl, run_equalIn_struct w 9999 77 _ _ hu hst]
  generalize (Tryd.prog.fieldsOf 77).toList = fs at hfs
  have hfl : fs.length = 2 := by have := congrArg List.length hfs; simpa using this
  match fs, hfl, hfs with
  | [f, g], _, hfs =>
    simp only [List.map_cons, List.map_nil, List.cons.injEq, Prod.mk.injEq, bne_iff_ne, ne_eq, and_true] at hfs
    obtain ⟨⟨n1, o1, t1⟩, n2, o2, t2⟩ := hfs
    have e1 : ∀ (a b : Int) (w : World), (Op.equalIn 9999 3 (.int .i64 a) (.int .i64 b)).run Tryd.prog w = .ok (a == b) w := fun a b w => by rw [show (9999 : Nat) = 9998 + 1 from rfl]; exact run_equalIn_int w 9998 3 .i64 .i64 a b Tryd.underlying3
    have p0 : ∀ (a b : Value) (w : World), (part 3 #[a, b] 0).run Tryd.prog w = .ok a w := fun a b w => by simp [part, isAgg, run_underlying Tryd.underlying3]
    have p1 : ∀ (a b : Value) (w : World), (part 3 #[a, b] 1).run Tryd.prog w = .ok b w := fun a b w => by simp [part, isAgg, run_underlying Tryd.underlying3]
    simp [Op.eqFields, n1, n2, o1, o2, t1, t2, p0, p1, e1]

section
variable {C D : Mem} {w : World} (hS : Sub C w) (hD : Sub D w)
include hS hD
theorem same18_ct (l : List Nd) (a a' : Option Addr) (c c' : Nat) (hl : Sl rNd C a l) (hm : Sl rNd D a' l) :
    CallOk Tryd.prog 29 ∧ Calls Tryd.prog 29 #[.slice a l.length c, .slice a' l.length c'] w (fun e w' => e = .returned (.bool true) ∧ Kp [] w w') := by
  refine ⟨⟨_, Tryd.func29, rfl, by decide⟩, ?_⟩
  have hlen := hl.1
  refine calls_of (args := [_, _]) 26 [.tmp 4] τok Tryd.func29 rfl rfl rfl (Nat.le_of_ble_eq_true rfl) ?_
  refine br_no (by simp) ?_
  refine lp τok (σ := Nat) (fun k => [(0, .slice a l.length c), (1, .slice a' l.length c'), (5, .int .i64 k)]) (fun k w' => k ≤ l.length ∧ Kp [] w w') (fun k => l.length - k) 0 rfl
    ⟨rfl, rfl, rfl, trivial⟩ ⟨Nat.zero_le _, Kp.refl _ _⟩ ?_
  rintro k w1 ⟨hk, hkp⟩
  refine br_dec (fun h => ?_) (fun h => ?_)
  · have hlt : k < l.length := by omega
    obtain ⟨x, hx, _⟩ := drop_get hlt
    obtain ⟨b, o, ha, _, _, _, hc0⟩ := sl_nd hl hx
    obtain ⟨b', o', ha', _, _, _, hc0'⟩ := sl_nd hm hx
    subst ha ha'
    refine drawQ τok (fun w' => Kp [] w1 w') (by kernel_rfl) ((Kp.refl [] w1).dr _) ?_
    refine ix k rfl hlt ?_
    refine ldNK [.int .i64 x.op, .int .i64 x.a, .int .i64 x.b] rfl (fun j v hj => (hS.tr hkp) _ _ _ (hc0 j v hj)) ?_
    refine ix k rfl hlt ?_
    refine ldNK [.int .i64 x.op, .int .i64 x.a, .int .i64 x.b] rfl (fun j v hj => (hD.tr hkp) _ _ _ (hc0' j v hj)) ?_
    refine runQ (v := .bool false) (fun w _ => neqNd_run _ _ x w) ?_
    intro w2 hk2
    refine int64 (by omega) (by omega) ?_
    exact ⟨k + 1, by omega, rfl, ⟨rfl, rfl, rfl, trivial⟩, hlt, hkp.tr hk2⟩
  · exact ⟨rfl, hkp⟩
theorem same14_ct (l : List Nd) (a a' : Option Addr) (c c' : Nat) (hl : Sl rNd C a l) (hm : Sl rNd D a' l) :
    CallOk Tryd.prog 30 ∧ Calls Tryd.prog 30 #[.slice a l.length c, .slice a' l.length c'] w (fun e w' => e = .returned (.bool true) ∧ Kp [] w w') := by
  refine ⟨⟨_, Tryd.func30, rfl, by decide⟩, ?_⟩
  have hlen := hl.1
  refine calls_of (args := [_, _]) 26 [.tmp 4] τok Tryd.func30 rfl rfl rfl (Nat.le_of_ble_eq_true rfl) ?_
  refine br_no (by simp) ?_
  refine lp τok (σ := Nat) (fun k => [(0, .slice a l.length c), (1, .slice a' l.length c'), (5, .int .i64 k)]) (fun k w' => k ≤ l.length ∧ Kp [] w w') (fun k => l.length - k) 0 rfl
    ⟨rfl, rfl, rfl, trivial⟩ ⟨Nat.zero_le _, Kp.refl _ _⟩ ?_
  rintro k w1 ⟨hk, hkp⟩
  refine br_dec (fun h => ?_) (fun h => ?_)
  · have hlt : k < l.length := by omega
    obtain ⟨x, hx, _⟩ := drop_get hlt
    obtain ⟨b, o, ha, _, _, _, hc0⟩ := sl_nd hl hx
    obtain ⟨b', o', ha', _, _, _, hc0'⟩ := sl_nd hm hx
    subst ha ha'
    refine drawQ τok (fun w' => Kp [] w1 w') (by kernel_rfl) ((Kp.refl [] w1).dr _) ?_
    refine ix k rfl hlt ?_
    refine ldNK [.int .i64 x.op, .int .i64 x.a, .int .i64 x.b] rfl (fun j v hj => (hS.tr hkp) _ _ _ (hc0 j v hj)) ?_
    refine ix k rfl hlt ?_
    refine ldNK [.int .i64 x.op, .int .i64 x.a, .int .i64 x.b] rfl (fun j v hj => (hD.tr hkp) _ _ _ (hc0' j v hj)) ?_
    refine runQ (v := .bool false) (fun w _ => neqNd_run _ _ x w) ?_
    intro w2 hk2
    refine int64 (by omega) (by omega) ?_
    exact ⟨k + 1, by omega, rfl, ⟨rfl, rfl, rfl, trivial⟩, hlt, hkp.tr hk2⟩
  · exact ⟨rfl, hkp⟩
end
end Go.Proofs.YtjpdkcejkogciaaDoor

/-
  Package emit: SameFlatted.
-/
set_option linter.unusedSimpArgs false
set_option linter.unusedVariables false
namespace Go.Proofs.YtjpdkcejkogciaaDoor
open Go.Wx Cd
section
variable {C D : Mem} {w : World}
set_option maxHeartbeats 1000000 in
theorem sameFlatted_ct (hC : Sub C w) (hD : Sub D w) {cs cs' : List Value} (p : Flt) (h : rFlt.den C cs p) (h' : rFlt.den D cs' p) :
    CallOk Tryd.prog 15 ∧ Calls Tryd.prog 15 #[.agg cs.toArray, .agg cs'.toArray] w (fun e w' => e = .returned (.bool true) ∧ Kp [] w w') := by
  refine ⟨⟨_, Tryd.func15, rfl, by decide⟩, ?_⟩
  obtain ⟨a1, c1, a2, c2, a3, c3, rfl, h1, h2, h3, _⟩ := h
  obtain ⟨a1', c1', a2', c2', a3', c3', rfl, h1', h2', h3', _⟩ := h'
  have hl1 := h1.1
  have hl2 := h2.1
  refine calls_of (args := [_, _]) 86 [.tmp 4] τok Tryd.func15 rfl rfl rfl (Nat.le_of_ble_eq_true rfl) ?_
  refine new fun b2 w1 hb2 hB2 hs1 hk1 => ?_
  refine new fun b3 w2 hb3 hB3 hs2 hk2 => ?_
  have hB2 : Bk w2.heap b2 [.slice a1 p.funs.length c1, .slice a2 p.bodies.length c2, .slice a3 p.main.length c3] 27 := Bk.kp hB2 hk2 (by simp)
  have hB3 : Bk w2.heap b3 [.slice a1' p.funs.length c1', .slice a2' p.bodies.length c2', .slice a3' p.main.length c3'] 27 := hB3
  have hk02 := hk1.tr hk2
  refine ld (hB2.cl rfl).cell ?_
  refine ld (hB3.cl rfl).cell ?_
  refine br_no (by simp) ?_
  refine ld (hB2.cl rfl).cell ?_
  refine ld (hB3.cl rfl).cell ?_
  refine br_no (by simp) ?_
  refine ld (hB2.cl rfl).cell ?_
  refine ld (hB3.cl rfl).cell ?_
  refine ev_call (same18_ct (hC.tr hk02) (hD.tr hk02) p.main a3 a3' c3 c3' h3 h3') ?_
  rintro e w3 ⟨rfl, hk3⟩
  refine lp τok (σ := Nat) (fun k => [(2, .pointer (some ⟨b2, 0, none⟩)), (3, .pointer (some ⟨b3, 0, none⟩)), (5, .int .i64 k)]) (fun k w' => Kp [] w2 w') (fun k => p.funs.length - k) 0 rfl ⟨rfl, rfl, rfl, trivial⟩ hk3 ?_
  rintro k w5 hk5
  have hB5 := hB2.kp hk5 (by simp)
  have hB5' := hB3.kp hk5 (by simp)
  refine ld (hB5.cl rfl).cell ?_
  refine br_dec (fun h => ?_) (fun h => ?_)
  · have hlt : k < p.funs.length := by omega
    obtain ⟨f, hf, _⟩ := drop_get hlt
    obtain ⟨b, o, rfl, af, cf, hcode, _, hcp, hcc, _⟩ := sl_ffn h1 hf
    obtain ⟨b', o', rfl, af', cf', hcode', _, hcp', hcc', _⟩ := sl_ffn h1' hf
    refine drawQ τok (fun w' => Kp [] w5 w') (by kernel_rfl) ((Kp.refl [] w5).dr _) ?_
    refine ldK (hB5.cl rfl) ?_
    refine ix k rfl hlt ?_
    refine ldK ((hC.tr (hk02.tr hk5)) _ _ _ hcp) ?_
    refine ldK (hB5'.cl rfl) ?_
    refine ix k rfl hlt ?_
    refine ldK ((hD.tr (hk02.tr hk5)) _ _ _ hcp') ?_
    refine br_dec (fun hc => ?_) (fun _ => ?_)
    · exact absurd rfl hc
    refine ldK (hB5.cl rfl) ?_
    refine ix k rfl hlt ?_
    refine ldK ((hC.tr (hk02.tr hk5)) _ _ _ hcc) ?_
    refine ldK (hB5'.cl rfl) ?_
    refine ix k rfl hlt ?_
    refine ldK ((hD.tr (hk02.tr hk5)) _ _ _ hcc') ?_
    refine callK (v := .bool true) (fun w' hk' => same18_ct (hC.tr ((hk02.tr hk5).tr hk')) (hD.tr ((hk02.tr hk5).tr hk')) f.body af af' cf cf' hcode hcode') ?_
    intro w7 hk7
    refine int64 (by omega) (by omega) ?_
    exact ⟨k + 1, by omega, rfl, ⟨rfl, rfl, rfl, trivial⟩, hk5.tr hk7⟩
  · refine lp τok (σ := Nat) (fun k => [(2, .pointer (some ⟨b2, 0, none⟩)), (3, .pointer (some ⟨b3, 0, none⟩)), (6, .int .i64 k)]) (fun k w' => Kp [] w2 w') (fun k => p.bodies.length - k) 0 rfl ⟨rfl, rfl, rfl, trivial⟩ hk5 ?_
    rintro k w6 hk6
    have hB6 := hB2.kp hk6 (by simp)
    have hB6' := hB3.kp hk6 (by simp)
    refine ld (hB6.cl rfl).cell ?_
    refine br_dec (fun h => ?_) (fun h => ?_)
    · have hlt : k < p.bodies.length := by omega
      obtain ⟨x, hx, _⟩ := drop_get hlt
      obtain ⟨b, o, rfl, ax, cx, hcell, _, hcode⟩ := h2.sk hx
      obtain ⟨b', o', rfl, ax', cx', hcell', _, hcode'⟩ := h2'.sk hx
      refine drawQ τok (fun w' => Kp [] w6 w') (by kernel_rfl) ((Kp.refl [] w6).dr _) ?_
      refine ldK (hB6.cl rfl) ?_
      refine ix k rfl hlt ?_
      refine ldK ((hC.tr (hk02.tr hk6)) _ _ _ hcell) ?_
      refine ldK (hB6'.cl rfl) ?_
      refine ix k rfl hlt ?_
      refine ldK ((hD.tr (hk02.tr hk6)) _ _ _ hcell') ?_
      refine callK (v := .bool true) (fun w' hk' => same18_ct (hC.tr ((hk02.tr hk6).tr hk')) (hD.tr ((hk02.tr hk6).tr hk')) x ax ax' cx cx' hcode hcode') ?_
      intro w7 hk7
      refine int64 (by omega) (by omega) ?_
      exact ⟨k + 1, by omega, rfl, ⟨rfl, rfl, rfl, trivial⟩, hk6.tr hk7⟩
    · exact ⟨rfl, hk02.tr hk6⟩
end
end Go.Proofs.YtjpdkcejkogciaaDoor

