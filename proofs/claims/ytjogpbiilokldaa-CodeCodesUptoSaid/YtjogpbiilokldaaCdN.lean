/-
  Code: the writer, and Encode.
-/
import Derived.Test.YtjogpbiilokldaaCdM
set_option linter.unusedSimpArgs false
set_option linter.unusedVariables false
namespace Go.Proofs.Ytjogpbiilokldaa
open Go.Wx Cd

theorem _root_.Go.Wx.Own.capLe {α : Type} {R : Rd α} {e lo : Nat} {w : World} {v : Value} {l : List α} (h : Own R e lo w v l) : ∀ a n c, v = .slice a n c → n ≤ c := by
  obtain ⟨css, h1, _⟩ := h.row
  rintro a n c rfl
  rcases h1.2 with ⟨e1, h0⟩ | ⟨g', cap, cur, e1, _, _, hn, hm, hc, _⟩
  · cases e1; exact Nat.le_refl _
  · cases e1; omega

/-- a writer at p has written these bytes -/
def Wr (p : Nat) (l : List Nat) (w : World) : Prop := ∃ a cap, Bk w.heap p [.slice a l.length cap] 75 ∧ Sl rU8 (New (p + 1) w) a l ∧ l.length ≤ cap
theorem Wr.kp {p : Nat} {l : List Nat} {w w' : World} (h : Wr p l w) (k : Kp [] w w') : Wr p l w' := by
  obtain ⟨a, cap, h1, h2, h3⟩ := h
  exact ⟨a, cap, h1.kp k (by simp), h2.mono (New.up (Nat.le_refl _) k), h3⟩
theorem Wr.lt {p : Nat} {l : List Nat} {w : World} (h : Wr p l w) : p < w.heap.size := by
  obtain ⟨a, cap, h1, _⟩ := h
  exact h1.lt

theorem sub_p {C : Mem} {w w' : World} {p : Nat} (h : Sub C w) (k : Kp [p] w w') (hp : ∀ b o v, C b o v → b ≠ p) : Sub C w' := h.kp k fun b o v hc => by simpa using hp b o v hc

theorem nums_ct {D : Mem} {w : World} {p : Nat} {l : List Nat} (h : Wr p l w) (hD : Sub D w) (xs : List Int) (ax : Option Addr) (cx : Nat) (hx : Sl rInt D ax xs) (hpos : ∀ x ∈ xs, 0 ≤ x) (hll : (l ++ numsB xs).length ≤ 549755813888) :
    CallOk Try.prog 30 ∧ Calls Try.prog 30 #[.pointer (some ⟨p, 0, none⟩), .slice ax xs.length cx] w (fun e w' => e = .returned (.tuple #[]) ∧ Wr p (l ++ numsB xs) w' ∧ Kp [p] w w') := by
  refine ⟨⟨_, Try.func30, rfl, by decide⟩, ?_⟩
  have hpl := h.lt
  obtain ⟨a, cap, hB, hS, _⟩ := h
  refine calls_of (args := [_, _]) 16 [] τok Try.func30 rfl rfl rfl (Nat.le_of_ble_eq_true rfl) ?_
  refine ld (hB.cl rfl).cell ?_
  refine ev_call (put_ct (New.sub _ w) hD l xs a ax cap cx hS hx hpos hll) ?_
  rintro e w1 ⟨v, rfl, hO, hk1⟩
  have hcap := hO.capLe
  obtain ⟨a', cap', rfl, hS'⟩ := hO.den (by omega)
  have hcap := hcap _ _ _ rfl
  have hB1 := hB.kp hk1 (by simp)
  refine st hB1 (by simp) rfl fun w2 hB2 hs2 hk2 => ?_
  refine ⟨rfl, ⟨a', cap', hB2, hS'.mono fun b o u hu => ?_, hcap⟩, (hk1.weak (by simp)).trans hk2 (fun x hx _ => hx)⟩
  exact ⟨by have := hu.1; omega, hu.2.kp hk2 (by have := hu.1; simp; omega)⟩

/-- numbers laid in a row for a call -/
theorem ints_row {w : World} {b : Nat} {xs : List Int} (h : Bk w.heap b (xs.map (Value.int .i64)) 3) (h64 : ∀ x ∈ xs, I64 x) (hl : xs.length ≤ 1099511627776) : Sl rInt (New b w) (some ⟨b, 0, none⟩) xs := by
  refine ⟨hl, .inr ⟨b, 0, rfl, fun i x hi => ⟨[.int .i64 x], ⟨rfl, h64 x (List.mem_of_getElem? hi)⟩, fun j v hj => ⟨Nat.le_refl _, h.cu ?_⟩⟩⟩⟩
  match j with
  | 0 =>
    simp at hj
    subst hj
    show (xs.map (Value.int .i64))[0 + i * 1 + 0]? = some _
    simp [hi]
  | j + 1 => simp at hj

theorem wblock_ct {C : Mem} {w : World} (hS : Sub C w) {p : Nat} {l : List Nat} (h : Wr p l w) (hp : ∀ b o v, C b o v → b ≠ p) (code : List Ins) (a : Option Addr) (cap : Nat) (hc : Sl rIns C a code) (hok : ∀ n ∈ code, InsOk n) (hlen : code.length ≤ 16384) (hll : (l ++ blockB code).length ≤ 549755813888) :
    CallOk Try.prog 32 ∧ Calls Try.prog 32 #[.pointer (some ⟨p, 0, none⟩), .slice a code.length cap] w (fun e w' => e = .returned (.tuple #[]) ∧ Wr p (l ++ blockB code) w' ∧ Kp [p] w w') := by
  refine ⟨⟨_, Try.func32, rfl, by decide⟩, ?_⟩
  have hpl := h.lt
  refine calls_of (args := [_, _]) 34 [] τok Try.func32 rfl rfl rfl (Nat.le_of_ble_eq_true rfl) ?_
  have hpre : ∀ k, k ≤ code.length → (l ++ (numsB [(code.length : Int)] ++ (code.take k).flatMap insB)).length ≤ 549755813888 := fun k hk => by
    have e : blockB code = numsB [(code.length : Int)] ++ ((code.take k).flatMap insB ++ (code.drop k).flatMap insB) := by
      rw [← List.flatMap_append, List.take_append_drop]; rfl
    rw [e] at hll
    simp only [List.length_append] at hll ⊢
    omega
  refine fill [.int .i64 code.length] rfl ?_
  refine new fun b1 w1 hb1 hB1 hs1 hk1 => ?_
  refine ev_call (nums_ct (h.kp hk1) (New.sub b1 w1) [(code.length : Int)] (some ⟨b1, 0, none⟩) 1 (ints_row hB1 (by simp [I64]; omega) (by simp)) (by simp) (by have := hpre 0 (Nat.zero_le _); simpa using this)) ?_
  rintro e w2 ⟨rfl, hW2, hk2⟩
  have hk12 : Kp [p] w w2 := (hk1.weak (by simp)).trans hk2 (fun x hx _ => hx)
  refine lp τok (σ := Nat) (fun k => [(0, .pointer (some ⟨p, 0, none⟩)), (11, .slice a code.length cap), (12, .int .i64 code.length), (13, .int .i64 k)])
    (fun k w' => k ≤ code.length ∧ Wr p (l ++ (numsB [(code.length : Int)] ++ (code.take k).flatMap insB)) w' ∧ Kp [p] w w') (fun k => code.length - k) 0 rfl ⟨rfl, rfl, rfl, rfl, trivial⟩ ⟨Nat.zero_le _, by simpa using hW2, hk12⟩ ?_
  rintro k w3 ⟨hk, hW, hkp⟩
  refine br_dec (fun h1 => ?_) (fun h1 => ?_)
  · have hlt : k < code.length := by omega
    obtain ⟨n, hn, hd⟩ := drop_get hlt
    have hok1 := hok n (List.mem_of_getElem? hn)
    have htake : (code.take (k + 1)).flatMap insB = (code.take k).flatMap insB ++ insB n := by rw [take_get hn]; simp
    have hS3 := sub_p hS hkp hp
    obtain ⟨b, o, rfl, an, tc, hto, nop, na, nb, hcells⟩ := sl_ins hc hn
    refine ix k rfl hlt ?_
    refine ldNC hS3 [.int .i64 n.op, .int .i64 n.a, .int .i64 n.b, .slice an n.to.length tc] rfl hcells ?_
    refine new fun b4 w4 hb4 hB4 hs4 hk4 => ?_
    refine stN hB4 rfl (by simp [Value.oneCell']) fun w5 hB5 hs5 hk5 => ?_
    have hk35 : Kp [] w3 w5 := hk4.newSt hb4 hk5
    have hW5 := hW.kp hk35
    have hp5 := hW.lt
    (repeat first | refine ldC ‹Sub _ _› (by assumption) ?_ | refine ld (Cl.cell (by first | assumption | exact Bk.cl (by assumption) rfl)) ?_ | refine ldK (by first | assumption | exact Bk.cl (by assumption) rfl | exact ‹Sub _ _› _ _ _ (by assumption)) ?_)
    refine fill [.int .i64 n.op, .int .i64 n.a, .int .i64 n.b, .int .i64 n.to.length] rfl ?_
    refine new fun b6 w6 hb6 hB6 hs6 hk6 => ?_
    have hlen1 := hok1.len
    have hpre1 := hpre (k + 1) hlt
    rw [htake, insB] at hpre1
    refine ev_call (nums_ct (hW5.kp hk6) (New.sub b6 w6) [n.op, n.a, n.b, (n.to.length : Int)] (some ⟨b6, 0, none⟩) 4 (ints_row hB6 ?_ (by simp)) ?_ (by simp only [List.length_append] at hpre1 ⊢; omega)) ?_
    · intro x hx
      simp at hx
      rcases hx with rfl | rfl | rfl | rfl
      · exact nop
      · exact na
      · exact nb
      · unfold I64; omega
    · intro x hx
      have := hok1.op; have := hok1.a; have := hok1.b
      simp at hx
      omega
    rintro e w7 ⟨rfl, hW7, hk7⟩
    have hk37 : Kp [p] w3 w7 := ((hk35.tr hk6).weak (by simp)).trans hk7 (fun x hx _ => hx)
    have hB7 := (hB5.kp hk6 (by simp)).kp hk7 (by simp; omega)
    refine ld (hB7.cl rfl).cell ?_
    have hk07 : Kp [p] w w7 := hkp.trans hk37 (fun x hx _ => hx)
    refine ev_call (nums_ct hW7 (sub_p hS hk07 hp) n.to an tc hto (fun x hx => (hok1.to x hx).1) (by simp only [List.length_append] at hpre1 ⊢; omega)) ?_
    rintro e w8 ⟨rfl, hW8, hk8⟩
    refine int64 (by omega) (by omega) ?_
    refine ⟨k + 1, by omega, rfl, ⟨rfl, rfl, rfl, rfl, trivial⟩, hlt, ?_, hk07.trans hk8 (fun x hx _ => hx)⟩
    rw [htake, insB]
    simpa [List.append_assoc] using hW8
  · rw [List.take_of_length_le (by omega)] at hW
    exact ⟨rfl, hW, hkp⟩
end Go.Proofs.Ytjogpbiilokldaa
