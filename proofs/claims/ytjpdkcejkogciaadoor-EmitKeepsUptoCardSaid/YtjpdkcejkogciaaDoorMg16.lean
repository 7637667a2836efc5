/-
  Own texts put together: EmT.
-/
import Derived.Test.YtjpdkcejkogciaaDoorMg15
/-
  Reference 21: Row.
-/
set_option linter.unusedSimpArgs false
set_option linter.unusedVariables false
namespace Go.Proofs.YtjpdkcejkogciaaDoor
open Go.Wx Cd

section
variable {p : Flt} {f : Nat}
set_option maxHeartbeats 8000000 in
theorem row21_step (hcaps : CapsOk p) (hR : RowR p f) : RowR p (f + 1) := by
  intro x C D a cap rest h ps ap cp w hf hok hS hD hl hcap hp h0 hbd hpl hsz8
  obtain ⟨n, ks⟩ := x
  have hsz : tsize (.mk n ks) = 1 + tsizes ks := rfl
  obtain ⟨h70, c, hc, hcl⟩ := ok_ndF hok
  have h70 : ¬ n.op = 70 := by simpa using h70
  have hops := ndF_op hc
  have hcb := ndF_bd hcaps hc
  have hglb := glen_bd _ _ hok
  obtain ⟨RES, hG⟩ : ∃ g, gen (.mk n ks) h ps 0 = g := ⟨_, rfl⟩
  rw [hG]
  have hglG := gen_len _ _ hok h ps 0
  rw [hG] at hglG
  simp only [gen] at hG
  simp only [glen] at hglb hglG
  refine ⟨⟨_, Tryd.func51, rfl, by decide⟩, ?_⟩
  refine calls_of (args := [_, _, _]) 185 [.tmp 6, .tmp 7] τok Tryd.func51 rfl rfl rfl (Nat.le_of_ble_eq_true rfl) ?_
  obtain ⟨L, hL⟩ : ∃ L, row (.mk n ks) ++ rest = L := ⟨_, rfl⟩
  have hLc : L = n :: (rows ks ++ rest) := by rw [← hL]; simp [row]
  rw [hL] at hl hcap
  rw [hL]
  have hLlen : L.length = 1 + tsizes ks + rest.length := by rw [hLc]; simp [rows_len]; omega
  have hLl := hl.1
  have hdrop : ∀ j, L.drop (1 + tsizes (ks.take j)) = rows (ks.drop j) ++ rest := fun j => by
    rw [hLc, Nat.add_comm, List.drop_succ_cons]
    exact rows_drop ks j rest
  obtain ⟨_, _, ha0, i1, i2, i3, hcells⟩ := sl_nd hl (i := 0) (x := n) (by rw [hLc]; rfl)
  refine ixE ha0 0 rfl (by omega) ?_
  refine ldN [.int .i64 n.op, .int .i64 n.a, .int .i64 n.b] rfl (fun j v hj => hS _ _ _ (hcells j v hj)) ?_
  refine new fun b8 w1 hb8 hB8 hs1 hk1 => ?_
  refine stN (vs := [.int .i64 n.op, .int .i64 n.a, .int .i64 n.b]) hB8 rfl (by simp [Value.oneCell']) fun w2 hB8 hs2 hk2 => ?_
  have hk02 : Kp [] w w2 := hk1.newSt hb8 hk2
  have hS2 := hS.tr hk02
  have hD2 := hD.tr hk02
  have hB8 : Bk w2.heap b8 [.int .i64 n.op, .int .i64 n.a, .int .i64 n.b] 47 := hB8
  clear hk1 hk2 hs1 hs2
  refine ld (hB8.cl rfl).cell ?_
  refine br_dec (fun o61 => ?_) (fun o61 => ?_)
  · rw [if_pos o61] at hG
    have hks : ks = [] := by
      unfold ndF at hc
      simp [o61] at hc
      exact List.length_eq_zero_iff.1 (by omega)
    have hna : 0 ≤ n.a ∧ n.a < ps.length := by
      unfold ndF at hc
      simp [o61, inM] at hc
      omega
    subst hks
    obtain ⟨q, hq⟩ : ∃ q, ps[n.a.toNat]? = some q := ⟨ps[n.a.toNat]'(by omega), by simp⟩
    obtain ⟨pb, po, hpa, hpc, hq64⟩ := hp.int hq
    refine ld (hB8.cl rfl).cell ?_
    refine ixE hpa n.a.toNat (by omega) (by omega) ?_
    refine ld (hD2 _ _ _ hpc).cell ?_
    refine ev_call (one21_ct 3 q 0 none 0 0 w2) ?_
    rintro e w3 ⟨rfl, hB3, hk3, hs3⟩
    have hg : ps.getD n.a.toNat 0 = q := by rw [List.getD_eq_getElem?_getD, hq]; rfl
    rw [hg] at hG
    rw [← hG]
    exact ⟨_, 1, rfl, one_sl hk02.size hB3 (by constructor <;> omega) hq64 (by constructor <;> omega), one_cd hk02.size hB3 (by constructor <;> omega) hq64 (by constructor <;> omega), hk02.tr hk3⟩
  rw [if_neg o61] at hG hglb hglG
  have val : n.op ≠ 67 → n.op ≠ 72 → n.op ≠ 69 → c = (if n.op = 66 ∨ n.op = 73 then 2 else if n.op = 71 then 1 else if n.op = 65 ∨ n.op = 68 then n.b else 0) := fun e1 e2 e3 => by
    unfold ndF at hc
    rcases hops with o | o | o | o | o | o | o | o | o | o | o | o | o <;> simp [o] at hc e1 e2 e3 ⊢ <;> omega
  refine br_dec (fun o65 => ?_) (fun o65 => ?_)
  · refine br_yes o65 ?_
    refine ld (hB8.cl rfl).cell ?_
    have hcnt : (ks.length : Int) = n.b := by
      have := val (by omega) (by omega) (by omega)
      rw [if_neg (by omega), if_neg (by omega), if_pos (by omega)] at this
      omega
    rw [if_neg (show ¬ n.op = 67 by omega), if_neg (show ¬ n.op = 72 by omega), if_neg (show ¬ n.op = 69 by omega), if_neg h70] at hG hglb hglG
    have hall := ok_all hok (by omega) (by omega) (by omega) h70
    refine lp τok (σ := Nat × List Ins × Option Addr × Nat) (fun q => [(0, .slice a L.length cap), (1, .int .i64 h), (2, .slice ap ps.length cp), (8, .pointer (some ⟨b8, 0, none⟩)), (9, .int .i64 (1 + tsizes (ks.take q.1) : Nat)), (10, .int .i64 n.b), (22, .slice q.2.2.1 q.2.1.length q.2.2.2), (23, .int .i64 q.1)])
      (fun q u => q.1 ≤ ks.length ∧ Kp [] w2 u ∧ Sl rIns (New w.heap.size u) q.2.2.1 q.2.1 ∧ q.2.1 ++ genAll (ks.drop q.1) (h + q.1) ps q.2.1.length = genAll ks h ps 0 ∧ q.2.1.length + glens (ks.drop q.1) = glens ks) (fun q => ks.length - q.1) (0, [], none, 0) rfl
      ⟨rfl, rfl, rfl, rfl, eqI (by simp [tsizes]), rfl, rfl, rfl, trivial⟩ ⟨Nat.zero_le _, Kp.refl _ _, Sl.nil _ _ _, by simp, by simp⟩ ?_
    rintro ⟨j, acc, aac, cac⟩ u ⟨hj, hku, hsa, hac, hal⟩
    simp only at hj hsa hac hal
    have hk0u : Kp [] w u := hk02.tr hku
    have htj := tsizes_le ks j
    refine br_dec (fun g1 => ?_) (fun g1 => ?_)
    · have hjl : j < ks.length := by omega
      obtain ⟨x, hx, hdx⟩ := drop_get hjl
      have hxm := List.mem_of_getElem? hx
      have hokx := hall x hxm
      have htk := tsizes_take ks j _ hx
      have hts1 := tsizes_le ks (j + 1)
      have hxs := tsizes_mem ks x hxm
      have hgx := glen_bd _ _ hokx
      have hgl := gen_len _ _ hokx (h + j) ps 0
      obtain ⟨K, hK⟩ : ∃ K, 1 + tsizes (ks.take j) = K := ⟨_, rfl⟩
      have hdj : L.drop K = row x ++ (rows (ks.drop (j + 1)) ++ rest) := by
        rw [← hK, hdrop, hdx]
        simp [rows]
      rw [hdx] at hac hal
      simp only [genAll] at hac
      simp only [glens] at hal
      obtain ⟨a2, hsl2, hSl2⟩ := hl.from hcap K (by omega)
      rw [hdj] at hsl2 hSl2
      refine slcL' τok rfl K _ (by simp only [hK]) (by omega) hsl2 ?_
      refine int64 (by first | omega | (simp only; omega)) (by first | omega | (simp only; omega)) ?_
      refine ev_call (hR x C D a2 (cap - K) (rows (ks.drop (j + 1)) ++ rest) (h + j) ps ap cp u (by omega) hokx (hS.tr hk0u) (hD.tr hk0u) hSl2 (by rw [← hdj, List.length_drop]; omega) hp (by omega) (by omega) (by omega) (by omega)) ?_
      rintro e u1 ⟨a3, c3, rfl, hs3, _, hk3⟩
      obtain ⟨code, hcode⟩ : ∃ l, gen x (h + j) ps 0 = l := ⟨_, rfl⟩
      have hto : ToOk 1048576 code := by rw [← hcode]; exact gen_to (by omega) x _ hokx _ ps 0 (by omega)
      have hsh : gen x (h + j) ps acc.length = code.map (shift acc.length) := by
        have := gen_sh x _ hokx (h + j) ps 0 acc.length
        rwa [Nat.zero_add, hcode] at this
      rw [hcode] at hs3 hgl
      rw [hcode]
      rw [hsh] at hac
      refine ev_call (behind_ct (lo := w.heap.size) (hk0u.tr hk3).size acc code aac a3 cac c3 (hsa.mono fun b o t ht => ⟨ht.1, ht.2.kp hk3 (by simp)⟩) (hs3.mono fun b o t ht => ⟨Nat.le_trans hk0u.size ht.1, ht.2⟩) (by omega) (by omega) hto) ?_
      rintro e u2 ⟨a4, c4, rfl, hs4, _, hk4⟩
      refine int64 (by first | omega | (simp only; omega)) (by first | omega | (simp only; omega)) ?_
      refine int64 (by first | omega | (simp only; omega)) (by first | omega | (simp only; omega)) ?_
      refine ⟨(j + 1, acc ++ code.map (shift acc.length), a4, c4), by simp only; omega, rfl, ⟨rfl, rfl, rfl, rfl, eqI (by simp only; omega), rfl, rfl, rfl, trivial⟩, by simp only; omega, (hku.tr hk3).tr hk4, hs4, ?_, ?_⟩
      · simp only [List.length_append, List.length_map] at hac ⊢
        rw [← hac, List.append_assoc]
        simp only [Int.natCast_add, Int.add_assoc]
        rfl
      · simp only [List.length_append, List.length_map]
        rw [hgl]
        omega
    have hjn : j = ks.length := by omega
    subst hjn
    rw [List.drop_length] at hac hal
    simp only [genAll, List.append_nil, glens, Nat.add_zero] at hac hal
    have hT0 : tsizes (ks.take (ks.length, acc, aac, cac).1) = tsizes ks := by simp only; rw [List.take_length]
    rw [hT0]
    refine MV.made fun bm m0 hbm hV hsm hkm0 => ?_
    have hkm := Kp.refl [bm] m0
    refine hV.put (by omega) (by constructor <;> omega) (by constructor <;> omega) fun mz hV hkp => ?_
    have hkm := hkm.trans hkp (fun x hx _ => hx)
    clear hkp
    refine hV.put (by omega) (by constructor <;> omega) (by constructor <;> omega) fun mz hV hkp => ?_
    have hkm := hkm.trans hkp (fun x hx _ => hx)
    clear hkp
    refine hV.put (by omega) (by constructor <;> omega) (by constructor <;> omega) fun mz hV hkp => ?_
    have hkm := hkm.trans hkp (fun x hx _ => hx)
    clear hkp
    refine hV.put (by omega) (by constructor <;> omega) (by constructor <;> omega) fun mz hV hkp => ?_
    have hkm := hkm.trans hkp (fun x hx _ => hx)
    clear hkp
    refine hV.put (by omega) (by constructor <;> omega) (by constructor <;> omega) fun mz hV hkp => ?_
    have hkm := hkm.trans hkp (fun x hx _ => hx)
    clear hkp
    refine hV.put (by omega) (by constructor <;> omega) (by constructor <;> omega) fun mz hV hkp => ?_
    have hkm := hkm.trans hkp (fun x hx _ => hx)
    clear hkp
    refine hV.put (by omega) (by constructor <;> omega) (by constructor <;> omega) fun mz hV hkp => ?_
    have hkm := hkm.trans hkp (fun x hx _ => hx)
    clear hkp
    refine hV.put (by omega) (by constructor <;> omega) (by constructor <;> omega) fun mz hV hkp => ?_
    have hkm := hkm.trans hkp (fun x hx _ => hx)
    clear hkp
    have hkum : Kp [] u mz := hkm0.trans hkm fun x hx hl => by simp at hx; omega
    have hB8m := (hB8.kp hku (by simp)).kp hkum (by simp)
    refine ld (hB8m.cl rfl).cell ?_
    refine hV.look1 i1 ?_
    refine ld (hB8m.cl rfl).cell ?_
    refine ld (hB8m.cl rfl).cell ?_
    have htab : (tabF n.op).getD 0 = doneOp n.op := tabF_get (by omega)
    have hdo : I64 (doneOp n.op) := doneOp_bd _
    refine ev_call (one21_ct ((tabF n.op).getD 0) n.a n.b none 0 0 mz) ?_
    rw [htab]
    rintro e u3 ⟨rfl, hB3, hk3, hs3⟩
    have hku3 : Kp [] u u3 := hkum.tr hk3
    have hmz : w.heap.size ≤ mz.heap.size := (hk0u.tr hkum).size
    refine ev_call (behind_ct (lo := w.heap.size) (hk0u.tr hku3).size acc [ins0 (doneOp n.op) n.a n.b] aac _ cac 1 (hsa.mono fun b o t ht => ⟨ht.1, ht.2.kp hku3 (by simp)⟩) (one_sl hmz hB3 hdo i2 i3) (by omega) (by simp) ToOk.one) ?_
    rintro e u4 ⟨a4, c4, rfl, hs4, hC4, hk4⟩
    have hfin : acc ++ [ins0 (doneOp n.op) n.a n.b].map (shift acc.length) = RES := by
      rw [← hG, hac]
      simp [shift_ins0]
    rw [hfin] at hs4 hC4
    rw [hfin]
    refine ⟨a4, c4, ?_, hs4, hC4, (hk0u.tr hku3).tr hk4⟩
    rw [hsz]
    rfl
  refine br_dec (fun o68 => ?_) (fun o68 => ?_)
  · refine ld (hB8.cl rfl).cell ?_
    have hcnt : (ks.length : Int) = n.b := by
      have := val (by omega) (by omega) (by omega)
      rw [if_neg (by omega), if_neg (by omega), if_pos (by omega)] at this
      omega
    rw [if_neg (show ¬ n.op = 67 by omega), if_neg (show ¬ n.op = 72 by omega), if_neg (show ¬ n.op = 69 by omega), if_neg h70] at hG hglb hglG
    have hall := ok_all hok (by omega) (by omega) (by omega) h70
    refine lp τok (σ := Nat × List Ins × Option Addr × Nat) (fun q => [(0, .slice a L.length cap), (1, .int .i64 h), (2, .slice ap ps.length cp), (8, .pointer (some ⟨b8, 0, none⟩)), (9, .int .i64 (1 + tsizes (ks.take q.1) : Nat)), (10, .int .i64 n.b), (22, .slice q.2.2.1 q.2.1.length q.2.2.2), (23, .int .i64 q.1)])
      (fun q u => q.1 ≤ ks.length ∧ Kp [] w2 u ∧ Sl rIns (New w.heap.size u) q.2.2.1 q.2.1 ∧ q.2.1 ++ genAll (ks.drop q.1) (h + q.1) ps q.2.1.length = genAll ks h ps 0 ∧ q.2.1.length + glens (ks.drop q.1) = glens ks) (fun q => ks.length - q.1) (0, [], none, 0) rfl
      ⟨rfl, rfl, rfl, rfl, eqI (by simp [tsizes]), rfl, rfl, rfl, trivial⟩ ⟨Nat.zero_le _, Kp.refl _ _, Sl.nil _ _ _, by simp, by simp⟩ ?_
    rintro ⟨j, acc, aac, cac⟩ u ⟨hj, hku, hsa, hac, hal⟩
    simp only at hj hsa hac hal
    have hk0u : Kp [] w u := hk02.tr hku
    have htj := tsizes_le ks j
    refine br_dec (fun g1 => ?_) (fun g1 => ?_)
    · have hjl : j < ks.length := by omega
      obtain ⟨x, hx, hdx⟩ := drop_get hjl
      have hxm := List.mem_of_getElem? hx
      have hokx := hall x hxm
      have htk := tsizes_take ks j _ hx
      have hts1 := tsizes_le ks (j + 1)
      have hxs := tsizes_mem ks x hxm
      have hgx := glen_bd _ _ hokx
      have hgl := gen_len _ _ hokx (h + j) ps 0
      obtain ⟨K, hK⟩ : ∃ K, 1 + tsizes (ks.take j) = K := ⟨_, rfl⟩
      have hdj : L.drop K = row x ++ (rows (ks.drop (j + 1)) ++ rest) := by
        rw [← hK, hdrop, hdx]
        simp [rows]
      rw [hdx] at hac hal
      simp only [genAll] at hac
      simp only [glens] at hal
      obtain ⟨a2, hsl2, hSl2⟩ := hl.from hcap K (by omega)
      rw [hdj] at hsl2 hSl2
      refine slcL' τok rfl K _ (by simp only [hK]) (by omega) hsl2 ?_
      refine int64 (by first | omega | (simp only; omega)) (by first | omega | (simp only; omega)) ?_
      refine ev_call (hR x C D a2 (cap - K) (rows (ks.drop (j + 1)) ++ rest) (h + j) ps ap cp u (by omega) hokx (hS.tr hk0u) (hD.tr hk0u) hSl2 (by rw [← hdj, List.length_drop]; omega) hp (by omega) (by omega) (by omega) (by omega)) ?_
      rintro e u1 ⟨a3, c3, rfl, hs3, _, hk3⟩
      obtain ⟨code, hcode⟩ : ∃ l, gen x (h + j) ps 0 = l := ⟨_, rfl⟩
      have hto : ToOk 1048576 code := by rw [← hcode]; exact gen_to (by omega) x _ hokx _ ps 0 (by omega)
      have hsh : gen x (h + j) ps acc.length = code.map (shift acc.length) := by
        have := gen_sh x _ hokx (h + j) ps 0 acc.length
        rwa [Nat.zero_add, hcode] at this
      rw [hcode] at hs3 hgl
      rw [hcode]
      rw [hsh] at hac
      refine ev_call (behind_ct (lo := w.heap.size) (hk0u.tr hk3).size acc code aac a3 cac c3 (hsa.mono fun b o t ht => ⟨ht.1, ht.2.kp hk3 (by simp)⟩) (hs3.mono fun b o t ht => ⟨Nat.le_trans hk0u.size ht.1, ht.2⟩) (by omega) (by omega) hto) ?_
      rintro e u2 ⟨a4, c4, rfl, hs4, _, hk4⟩
      refine int64 (by first | omega | (simp only; omega)) (by first | omega | (simp only; omega)) ?_
      refine int64 (by first | omega | (simp only; omega)) (by first | omega | (simp only; omega)) ?_
      refine ⟨(j + 1, acc ++ code.map (shift acc.length), a4, c4), by simp only; omega, rfl, ⟨rfl, rfl, rfl, rfl, eqI (by simp only; omega), rfl, rfl, rfl, trivial⟩, by simp only; omega, (hku.tr hk3).tr hk4, hs4, ?_, ?_⟩
      · simp only [List.length_append, List.length_map] at hac ⊢
        rw [← hac, List.append_assoc]
        simp only [Int.natCast_add, Int.add_assoc]
        rfl
      · simp only [List.length_append, List.length_map]
        rw [hgl]
        omega
    have hjn : j = ks.length := by omega
    subst hjn
    rw [List.drop_length] at hac hal
    simp only [genAll, List.append_nil, glens, Nat.add_zero] at hac hal
    have hT0 : tsizes (ks.take (ks.length, acc, aac, cac).1) = tsizes ks := by simp only; rw [List.take_length]
    rw [hT0]
    refine MV.made fun bm m0 hbm hV hsm hkm0 => ?_
    have hkm := Kp.refl [bm] m0
    refine hV.put (by omega) (by constructor <;> omega) (by constructor <;> omega) fun mz hV hkp => ?_
    have hkm := hkm.trans hkp (fun x hx _ => hx)
    clear hkp
    refine hV.put (by omega) (by constructor <;> omega) (by constructor <;> omega) fun mz hV hkp => ?_
    have hkm := hkm.trans hkp (fun x hx _ => hx)
    clear hkp
    refine hV.put (by omega) (by constructor <;> omega) (by constructor <;> omega) fun mz hV hkp => ?_
    have hkm := hkm.trans hkp (fun x hx _ => hx)
    clear hkp
    refine hV.put (by omega) (by constructor <;> omega) (by constructor <;> omega) fun mz hV hkp => ?_
    have hkm := hkm.trans hkp (fun x hx _ => hx)
    clear hkp
    refine hV.put (by omega) (by constructor <;> omega) (by constructor <;> omega) fun mz hV hkp => ?_
    have hkm := hkm.trans hkp (fun x hx _ => hx)
    clear hkp
    refine hV.put (by omega) (by constructor <;> omega) (by constructor <;> omega) fun mz hV hkp => ?_
    have hkm := hkm.trans hkp (fun x hx _ => hx)
    clear hkp
    refine hV.put (by omega) (by constructor <;> omega) (by constructor <;> omega) fun mz hV hkp => ?_
    have hkm := hkm.trans hkp (fun x hx _ => hx)
    clear hkp
    refine hV.put (by omega) (by constructor <;> omega) (by constructor <;> omega) fun mz hV hkp => ?_
    have hkm := hkm.trans hkp (fun x hx _ => hx)
    clear hkp
    have hkum : Kp [] u mz := hkm0.trans hkm fun x hx hl => by simp at hx; omega
    have hB8m := (hB8.kp hku (by simp)).kp hkum (by simp)
    refine ld (hB8m.cl rfl).cell ?_
    refine hV.look1 i1 ?_
    refine ld (hB8m.cl rfl).cell ?_
    refine ld (hB8m.cl rfl).cell ?_
    have htab : (tabF n.op).getD 0 = doneOp n.op := tabF_get (by omega)
    have hdo : I64 (doneOp n.op) := doneOp_bd _
    refine ev_call (one21_ct ((tabF n.op).getD 0) n.a n.b none 0 0 mz) ?_
    rw [htab]
    rintro e u3 ⟨rfl, hB3, hk3, hs3⟩
    have hku3 : Kp [] u u3 := hkum.tr hk3
    have hmz : w.heap.size ≤ mz.heap.size := (hk0u.tr hkum).size
    refine ev_call (behind_ct (lo := w.heap.size) (hk0u.tr hku3).size acc [ins0 (doneOp n.op) n.a n.b] aac _ cac 1 (hsa.mono fun b o t ht => ⟨ht.1, ht.2.kp hku3 (by simp)⟩) (one_sl hmz hB3 hdo i2 i3) (by omega) (by simp) ToOk.one) ?_
    rintro e u4 ⟨a4, c4, rfl, hs4, hC4, hk4⟩
    have hfin : acc ++ [ins0 (doneOp n.op) n.a n.b].map (shift acc.length) = RES := by
      rw [← hG, hac]
      simp [shift_ins0]
    rw [hfin] at hs4 hC4
    rw [hfin]
    refine ⟨a4, c4, ?_, hs4, hC4, (hk0u.tr hku3).tr hk4⟩
    rw [hsz]
    rfl
  refine br_dec (fun o66 => ?_) (fun o66 => ?_)
  · refine br_yes o66 ?_
    have hcnt : (ks.length : Int) = 2 := by
      have := val (by omega) (by omega) (by omega)
      rw [if_pos (by omega)] at this
      omega
    rw [if_neg (show ¬ n.op = 67 by omega), if_neg (show ¬ n.op = 72 by omega), if_neg (show ¬ n.op = 69 by omega), if_neg h70] at hG hglb hglG
    have hall := ok_all hok (by omega) (by omega) (by omega) h70
    refine lp τok (σ := Nat × List Ins × Option Addr × Nat) (fun q => [(0, .slice a L.length cap), (1, .int .i64 h), (2, .slice ap ps.length cp), (8, .pointer (some ⟨b8, 0, none⟩)), (9, .int .i64 (1 + tsizes (ks.take q.1) : Nat)), (10, .int .i64 2), (22, .slice q.2.2.1 q.2.1.length q.2.2.2), (23, .int .i64 q.1)])
      (fun q u => q.1 ≤ ks.length ∧ Kp [] w2 u ∧ Sl rIns (New w.heap.size u) q.2.2.1 q.2.1 ∧ q.2.1 ++ genAll (ks.drop q.1) (h + q.1) ps q.2.1.length = genAll ks h ps 0 ∧ q.2.1.length + glens (ks.drop q.1) = glens ks) (fun q => ks.length - q.1) (0, [], none, 0) rfl
      ⟨rfl, rfl, rfl, rfl, eqI (by simp [tsizes]), rfl, rfl, rfl, trivial⟩ ⟨Nat.zero_le _, Kp.refl _ _, Sl.nil _ _ _, by simp, by simp⟩ ?_
    rintro ⟨j, acc, aac, cac⟩ u ⟨hj, hku, hsa, hac, hal⟩
    simp only at hj hsa hac hal
    have hk0u : Kp [] w u := hk02.tr hku
    have htj := tsizes_le ks j
    refine br_dec (fun g1 => ?_) (fun g1 => ?_)
    · have hjl : j < ks.length := by omega
      obtain ⟨x, hx, hdx⟩ := drop_get hjl
      have hxm := List.mem_of_getElem? hx
      have hokx := hall x hxm
      have htk := tsizes_take ks j _ hx
      have hts1 := tsizes_le ks (j + 1)
      have hxs := tsizes_mem ks x hxm
      have hgx := glen_bd _ _ hokx
      have hgl := gen_len _ _ hokx (h + j) ps 0
      obtain ⟨K, hK⟩ : ∃ K, 1 + tsizes (ks.take j) = K := ⟨_, rfl⟩
      have hdj : L.drop K = row x ++ (rows (ks.drop (j + 1)) ++ rest) := by
        rw [← hK, hdrop, hdx]
        simp [rows]
      rw [hdx] at hac hal
      simp only [genAll] at hac
      simp only [glens] at hal
      obtain ⟨a2, hsl2, hSl2⟩ := hl.from hcap K (by omega)
      rw [hdj] at hsl2 hSl2
      refine slcL' τok rfl K _ (by simp only [hK]) (by omega) hsl2 ?_
      refine int64 (by first | omega | (simp only; omega)) (by first | omega | (simp only; omega)) ?_
      refine ev_call (hR x C D a2 (cap - K) (rows (ks.drop (j + 1)) ++ rest) (h + j) ps ap cp u (by omega) hokx (hS.tr hk0u) (hD.tr hk0u) hSl2 (by rw [← hdj, List.length_drop]; omega) hp (by omega) (by omega) (by omega) (by omega)) ?_
      rintro e u1 ⟨a3, c3, rfl, hs3, _, hk3⟩
      obtain ⟨code, hcode⟩ : ∃ l, gen x (h + j) ps 0 = l := ⟨_, rfl⟩
      have hto : ToOk 1048576 code := by rw [← hcode]; exact gen_to (by omega) x _ hokx _ ps 0 (by omega)
      have hsh : gen x (h + j) ps acc.length = code.map (shift acc.length) := by
        have := gen_sh x _ hokx (h + j) ps 0 acc.length
        rwa [Nat.zero_add, hcode] at this
      rw [hcode] at hs3 hgl
      rw [hcode]
      rw [hsh] at hac
      refine ev_call (behind_ct (lo := w.heap.size) (hk0u.tr hk3).size acc code aac a3 cac c3 (hsa.mono fun b o t ht => ⟨ht.1, ht.2.kp hk3 (by simp)⟩) (hs3.mono fun b o t ht => ⟨Nat.le_trans hk0u.size ht.1, ht.2⟩) (by omega) (by omega) hto) ?_
      rintro e u2 ⟨a4, c4, rfl, hs4, _, hk4⟩
      refine int64 (by first | omega | (simp only; omega)) (by first | omega | (simp only; omega)) ?_
      refine int64 (by first | omega | (simp only; omega)) (by first | omega | (simp only; omega)) ?_
      refine ⟨(j + 1, acc ++ code.map (shift acc.length), a4, c4), by simp only; omega, rfl, ⟨rfl, rfl, rfl, rfl, eqI (by simp only; omega), rfl, rfl, rfl, trivial⟩, by simp only; omega, (hku.tr hk3).tr hk4, hs4, ?_, ?_⟩
      · simp only [List.length_append, List.length_map] at hac ⊢
        rw [← hac, List.append_assoc]
        simp only [Int.natCast_add, Int.add_assoc]
        rfl
      · simp only [List.length_append, List.length_map]
        rw [hgl]
        omega
    have hjn : j = ks.length := by omega
    subst hjn
    rw [List.drop_length] at hac hal
    simp only [genAll, List.append_nil, glens, Nat.add_zero] at hac hal
    have hT0 : tsizes (ks.take (ks.length, acc, aac, cac).1) = tsizes ks := by simp only; rw [List.take_length]
    rw [hT0]
    refine MV.made fun bm m0 hbm hV hsm hkm0 => ?_
    have hkm := Kp.refl [bm] m0
    refine hV.put (by omega) (by constructor <;> omega) (by constructor <;> omega) fun mz hV hkp => ?_
    have hkm := hkm.trans hkp (fun x hx _ => hx)
    clear hkp
    refine hV.put (by omega) (by constructor <;> omega) (by constructor <;> omega) fun mz hV hkp => ?_
    have hkm := hkm.trans hkp (fun x hx _ => hx)
    clear hkp
    refine hV.put (by omega) (by constructor <;> omega) (by constructor <;> omega) fun mz hV hkp => ?_
    have hkm := hkm.trans hkp (fun x hx _ => hx)
    clear hkp
    refine hV.put (by omega) (by constructor <;> omega) (by constructor <;> omega) fun mz hV hkp => ?_
    have hkm := hkm.trans hkp (fun x hx _ => hx)
    clear hkp
    refine hV.put (by omega) (by constructor <;> omega) (by constructor <;> omega) fun mz hV hkp => ?_
    have hkm := hkm.trans hkp (fun x hx _ => hx)
    clear hkp
    refine hV.put (by omega) (by constructor <;> omega) (by constructor <;> omega) fun mz hV hkp => ?_
    have hkm := hkm.trans hkp (fun x hx _ => hx)
    clear hkp
    refine hV.put (by omega) (by constructor <;> omega) (by constructor <;> omega) fun mz hV hkp => ?_
    have hkm := hkm.trans hkp (fun x hx _ => hx)
    clear hkp
    refine hV.put (by omega) (by constructor <;> omega) (by constructor <;> omega) fun mz hV hkp => ?_
    have hkm := hkm.trans hkp (fun x hx _ => hx)
    clear hkp
    have hkum : Kp [] u mz := hkm0.trans hkm fun x hx hl => by simp at hx; omega
    have hB8m := (hB8.kp hku (by simp)).kp hkum (by simp)
    refine ld (hB8m.cl rfl).cell ?_
    refine hV.look1 i1 ?_
    refine ld (hB8m.cl rfl).cell ?_
    refine ld (hB8m.cl rfl).cell ?_
    have htab : (tabF n.op).getD 0 = doneOp n.op := tabF_get (by omega)
    have hdo : I64 (doneOp n.op) := doneOp_bd _
    refine ev_call (one21_ct ((tabF n.op).getD 0) n.a n.b none 0 0 mz) ?_
    rw [htab]
    rintro e u3 ⟨rfl, hB3, hk3, hs3⟩
    have hku3 : Kp [] u u3 := hkum.tr hk3
    have hmz : w.heap.size ≤ mz.heap.size := (hk0u.tr hkum).size
    refine ev_call (behind_ct (lo := w.heap.size) (hk0u.tr hku3).size acc [ins0 (doneOp n.op) n.a n.b] aac _ cac 1 (hsa.mono fun b o t ht => ⟨ht.1, ht.2.kp hku3 (by simp)⟩) (one_sl hmz hB3 hdo i2 i3) (by omega) (by simp) ToOk.one) ?_
    rintro e u4 ⟨a4, c4, rfl, hs4, hC4, hk4⟩
    have hfin : acc ++ [ins0 (doneOp n.op) n.a n.b].map (shift acc.length) = RES := by
      rw [← hG, hac]
      simp [shift_ins0]
    rw [hfin] at hs4 hC4
    rw [hfin]
    refine ⟨a4, c4, ?_, hs4, hC4, (hk0u.tr hku3).tr hk4⟩
    rw [hsz]
    rfl
  refine br_dec (fun o73 => ?_) (fun o73 => ?_)
  · have hcnt : (ks.length : Int) = 2 := by
      have := val (by omega) (by omega) (by omega)
      rw [if_pos (by omega)] at this
      omega
    rw [if_neg (show ¬ n.op = 67 by omega), if_neg (show ¬ n.op = 72 by omega), if_neg (show ¬ n.op = 69 by omega), if_neg h70] at hG hglb hglG
    have hall := ok_all hok (by omega) (by omega) (by omega) h70
    refine lp τok (σ := Nat × List Ins × Option Addr × Nat) (fun q => [(0, .slice a L.length cap), (1, .int .i64 h), (2, .slice ap ps.length cp), (8, .pointer (some ⟨b8, 0, none⟩)), (9, .int .i64 (1 + tsizes (ks.take q.1) : Nat)), (10, .int .i64 2), (22, .slice q.2.2.1 q.2.1.length q.2.2.2), (23, .int .i64 q.1)])
      (fun q u => q.1 ≤ ks.length ∧ Kp [] w2 u ∧ Sl rIns (New w.heap.size u) q.2.2.1 q.2.1 ∧ q.2.1 ++ genAll (ks.drop q.1) (h + q.1) ps q.2.1.length = genAll ks h ps 0 ∧ q.2.1.length + glens (ks.drop q.1) = glens ks) (fun q => ks.length - q.1) (0, [], none, 0) rfl
      ⟨rfl, rfl, rfl, rfl, eqI (by simp [tsizes]), rfl, rfl, rfl, trivial⟩ ⟨Nat.zero_le _, Kp.refl _ _, Sl.nil _ _ _, by simp, by simp⟩ ?_
    rintro ⟨j, acc, aac, cac⟩ u ⟨hj, hku, hsa, hac, hal⟩
    simp only at hj hsa hac hal
    have hk0u : Kp [] w u := hk02.tr hku
    have htj := tsizes_le ks j
    refine br_dec (fun g1 => ?_) (fun g1 => ?_)
    · have hjl : j < ks.length := by omega
      obtain ⟨x, hx, hdx⟩ := drop_get hjl
      have hxm := List.mem_of_getElem? hx
      have hokx := hall x hxm
      have htk := tsizes_take ks j _ hx
      have hts1 := tsizes_le ks (j + 1)
      have hxs := tsizes_mem ks x hxm
      have hgx := glen_bd _ _ hokx
      have hgl := gen_len _ _ hokx (h + j) ps 0
      obtain ⟨K, hK⟩ : ∃ K, 1 + tsizes (ks.take j) = K := ⟨_, rfl⟩
      have hdj : L.drop K = row x ++ (rows (ks.drop (j + 1)) ++ rest) := by
        rw [← hK, hdrop, hdx]
        simp [rows]
      rw [hdx] at hac hal
      simp only [genAll] at hac
      simp only [glens] at hal
      obtain ⟨a2, hsl2, hSl2⟩ := hl.from hcap K (by omega)
      rw [hdj] at hsl2 hSl2
      refine slcL' τok rfl K _ (by simp only [hK]) (by omega) hsl2 ?_
      refine int64 (by first | omega | (simp only; omega)) (by first | omega | (simp only; omega)) ?_
      refine ev_call (hR x C D a2 (cap - K) (rows (ks.drop (j + 1)) ++ rest) (h + j) ps ap cp u (by omega) hokx (hS.tr hk0u) (hD.tr hk0u) hSl2 (by rw [← hdj, List.length_drop]; omega) hp (by omega) (by omega) (by omega) (by omega)) ?_
      rintro e u1 ⟨a3, c3, rfl, hs3, _, hk3⟩
      obtain ⟨code, hcode⟩ : ∃ l, gen x (h + j) ps 0 = l := ⟨_, rfl⟩
      have hto : ToOk 1048576 code := by rw [← hcode]; exact gen_to (by omega) x _ hokx _ ps 0 (by omega)
      have hsh : gen x (h + j) ps acc.length = code.map (shift acc.length) := by
        have := gen_sh x _ hokx (h + j) ps 0 acc.length
        rwa [Nat.zero_add, hcode] at this
      rw [hcode] at hs3 hgl
      rw [hcode]
      rw [hsh] at hac
      refine ev_call (behind_ct (lo := w.heap.size) (hk0u.tr hk3).size acc code aac a3 cac c3 (hsa.mono fun b o t ht => ⟨ht.1, ht.2.kp hk3 (by simp)⟩) (hs3.mono fun b o t ht => ⟨Nat.le_trans hk0u.size ht.1, ht.2⟩) (by omega) (by omega) hto) ?_
      rintro e u2 ⟨a4, c4, rfl, hs4, _, hk4⟩
      refine int64 (by first | omega | (simp only; omega)) (by first | omega | (simp only; omega)) ?_
      refine int64 (by first | omega | (simp only; omega)) (by first | omega | (simp only; omega)) ?_
      refine ⟨(j + 1, acc ++ code.map (shift acc.length), a4, c4), by simp only; omega, rfl, ⟨rfl, rfl, rfl, rfl, eqI (by simp only; omega), rfl, rfl, rfl, trivial⟩, by simp only; omega, (hku.tr hk3).tr hk4, hs4, ?_, ?_⟩
      · simp only [List.length_append, List.length_map] at hac ⊢
        rw [← hac, List.append_assoc]
        simp only [Int.natCast_add, Int.add_assoc]
        rfl
      · simp only [List.length_append, List.length_map]
        rw [hgl]
        omega
    have hjn : j = ks.length := by omega
    subst hjn
    rw [List.drop_length] at hac hal
    simp only [genAll, List.append_nil, glens, Nat.add_zero] at hac hal
    have hT0 : tsizes (ks.take (ks.length, acc, aac, cac).1) = tsizes ks := by simp only; rw [List.take_length]
    rw [hT0]
    refine MV.made fun bm m0 hbm hV hsm hkm0 => ?_
    have hkm := Kp.refl [bm] m0
    refine hV.put (by omega) (by constructor <;> omega) (by constructor <;> omega) fun mz hV hkp => ?_
    have hkm := hkm.trans hkp (fun x hx _ => hx)
    clear hkp
    refine hV.put (by omega) (by constructor <;> omega) (by constructor <;> omega) fun mz hV hkp => ?_
    have hkm := hkm.trans hkp (fun x hx _ => hx)
    clear hkp
    refine hV.put (by omega) (by constructor <;> omega) (by constructor <;> omega) fun mz hV hkp => ?_
    have hkm := hkm.trans hkp (fun x hx _ => hx)
    clear hkp
    refine hV.put (by omega) (by constructor <;> omega) (by constructor <;> omega) fun mz hV hkp => ?_
    have hkm := hkm.trans hkp (fun x hx _ => hx)
    clear hkp
    refine hV.put (by omega) (by constructor <;> omega) (by constructor <;> omega) fun mz hV hkp => ?_
    have hkm := hkm.trans hkp (fun x hx _ => hx)
    clear hkp
    refine hV.put (by omega) (by constructor <;> omega) (by constructor <;> omega) fun mz hV hkp => ?_
    have hkm := hkm.trans hkp (fun x hx _ => hx)
    clear hkp
    refine hV.put (by omega) (by constructor <;> omega) (by constructor <;> omega) fun mz hV hkp => ?_
    have hkm := hkm.trans hkp (fun x hx _ => hx)
    clear hkp
    refine hV.put (by omega) (by constructor <;> omega) (by constructor <;> omega) fun mz hV hkp => ?_
    have hkm := hkm.trans hkp (fun x hx _ => hx)
    clear hkp
    have hkum : Kp [] u mz := hkm0.trans hkm fun x hx hl => by simp at hx; omega
    have hB8m := (hB8.kp hku (by simp)).kp hkum (by simp)
    refine ld (hB8m.cl rfl).cell ?_
    refine hV.look1 i1 ?_
    refine ld (hB8m.cl rfl).cell ?_
    refine ld (hB8m.cl rfl).cell ?_
    have htab : (tabF n.op).getD 0 = doneOp n.op := tabF_get (by omega)
    have hdo : I64 (doneOp n.op) := doneOp_bd _
    refine ev_call (one21_ct ((tabF n.op).getD 0) n.a n.b none 0 0 mz) ?_
    rw [htab]
    rintro e u3 ⟨rfl, hB3, hk3, hs3⟩
    have hku3 : Kp [] u u3 := hkum.tr hk3
    have hmz : w.heap.size ≤ mz.heap.size := (hk0u.tr hkum).size
    refine ev_call (behind_ct (lo := w.heap.size) (hk0u.tr hku3).size acc [ins0 (doneOp n.op) n.a n.b] aac _ cac 1 (hsa.mono fun b o t ht => ⟨ht.1, ht.2.kp hku3 (by simp)⟩) (one_sl hmz hB3 hdo i2 i3) (by omega) (by simp) ToOk.one) ?_
    rintro e u4 ⟨a4, c4, rfl, hs4, hC4, hk4⟩
    have hfin : acc ++ [ins0 (doneOp n.op) n.a n.b].map (shift acc.length) = RES := by
      rw [← hG, hac]
      simp [shift_ins0]
    rw [hfin] at hs4 hC4
    rw [hfin]
    refine ⟨a4, c4, ?_, hs4, hC4, (hk0u.tr hku3).tr hk4⟩
    rw [hsz]
    rfl
  refine br_dec (fun o71 => ?_) (fun o71 => ?_)
  · have hcnt : (ks.length : Int) = 1 := by
      have := val (by omega) (by omega) (by omega)
      rw [if_neg (by omega), if_pos (by omega)] at this
      omega
    rw [if_neg (show ¬ n.op = 67 by omega), if_neg (show ¬ n.op = 72 by omega), if_neg (show ¬ n.op = 69 by omega), if_neg h70] at hG hglb hglG
    have hall := ok_all hok (by omega) (by omega) (by omega) h70
    refine lp τok (σ := Nat × List Ins × Option Addr × Nat) (fun q => [(0, .slice a L.length cap), (1, .int .i64 h), (2, .slice ap ps.length cp), (8, .pointer (some ⟨b8, 0, none⟩)), (9, .int .i64 (1 + tsizes (ks.take q.1) : Nat)), (10, .int .i64 1), (22, .slice q.2.2.1 q.2.1.length q.2.2.2), (23, .int .i64 q.1)])
      (fun q u => q.1 ≤ ks.length ∧ Kp [] w2 u ∧ Sl rIns (New w.heap.size u) q.2.2.1 q.2.1 ∧ q.2.1 ++ genAll (ks.drop q.1) (h + q.1) ps q.2.1.length = genAll ks h ps 0 ∧ q.2.1.length + glens (ks.drop q.1) = glens ks) (fun q => ks.length - q.1) (0, [], none, 0) rfl
      ⟨rfl, rfl, rfl, rfl, eqI (by simp [tsizes]), rfl, rfl, rfl, trivial⟩ ⟨Nat.zero_le _, Kp.refl _ _, Sl.nil _ _ _, by simp, by simp⟩ ?_
    rintro ⟨j, acc, aac, cac⟩ u ⟨hj, hku, hsa, hac, hal⟩
    simp only at hj hsa hac hal
    have hk0u : Kp [] w u := hk02.tr hku
    have htj := tsizes_le ks j
    refine br_dec (fun g1 => ?_) (fun g1 => ?_)
    · have hjl : j < ks.length := by omega
      obtain ⟨x, hx, hdx⟩ := drop_get hjl
      have hxm := List.mem_of_getElem? hx
      have hokx := hall x hxm
      have htk := tsizes_take ks j _ hx
      have hts1 := tsizes_le ks (j + 1)
      have hxs := tsizes_mem ks x hxm
      have hgx := glen_bd _ _ hokx
      have hgl := gen_len _ _ hokx (h + j) ps 0
      obtain ⟨K, hK⟩ : ∃ K, 1 + tsizes (ks.take j) = K := ⟨_, rfl⟩
      have hdj : L.drop K = row x ++ (rows (ks.drop (j + 1)) ++ rest) := by
        rw [← hK, hdrop, hdx]
        simp [rows]
      rw [hdx] at hac hal
      simp only [genAll] at hac
      simp only [glens] at hal
      obtain ⟨a2, hsl2, hSl2⟩ := hl.from hcap K (by omega)
      rw [hdj] at hsl2 hSl2
      refine slcL' τok rfl K _ (by simp only [hK]) (by omega) hsl2 ?_
      refine int64 (by first | omega | (simp only; omega)) (by first | omega | (simp only; omega)) ?_
      refine ev_call (hR x C D a2 (cap - K) (rows (ks.drop (j + 1)) ++ rest) (h + j) ps ap cp u (by omega) hokx (hS.tr hk0u) (hD.tr hk0u) hSl2 (by rw [← hdj, List.length_drop]; omega) hp (by omega) (by omega) (by omega) (by omega)) ?_
      rintro e u1 ⟨a3, c3, rfl, hs3, _, hk3⟩
      obtain ⟨code, hcode⟩ : ∃ l, gen x (h + j) ps 0 = l := ⟨_, rfl⟩
      have hto : ToOk 1048576 code := by rw [← hcode]; exact gen_to (by omega) x _ hokx _ ps 0 (by omega)
      have hsh : gen x (h + j) ps acc.length = code.map (shift acc.length) := by
        have := gen_sh x _ hokx (h + j) ps 0 acc.length
        rwa [Nat.zero_add, hcode] at this
      rw [hcode] at hs3 hgl
      rw [hcode]
      rw [hsh] at hac
      refine ev_call (behind_ct (lo := w.heap.size) (hk0u.tr hk3).size acc code aac a3 cac c3 (hsa.mono fun b o t ht => ⟨ht.1, ht.2.kp hk3 (by simp)⟩) (hs3.mono fun b o t ht => ⟨Nat.le_trans hk0u.size ht.1, ht.2⟩) (by omega) (by omega) hto) ?_
      rintro e u2 ⟨a4, c4, rfl, hs4, _, hk4⟩
      refine int64 (by first | omega | (simp only; omega)) (by first | omega | (simp only; omega)) ?_
      refine int64 (by first | omega | (simp only; omega)) (by first | omega | (simp only; omega)) ?_
      refine ⟨(j + 1, acc ++ code.map (shift acc.length), a4, c4), by simp only; omega, rfl, ⟨rfl, rfl, rfl, rfl, eqI (by simp only; omega), rfl, rfl, rfl, trivial⟩, by simp only; omega, (hku.tr hk3).tr hk4, hs4, ?_, ?_⟩
      · simp only [List.length_append, List.length_map] at hac ⊢
        rw [← hac, List.append_assoc]
        simp only [Int.natCast_add, Int.add_assoc]
        rfl
      · simp only [List.length_append, List.length_map]
        rw [hgl]
        omega
    have hjn : j = ks.length := by omega
    subst hjn
    rw [List.drop_length] at hac hal
    simp only [genAll, List.append_nil, glens, Nat.add_zero] at hac hal
    have hT0 : tsizes (ks.take (ks.length, acc, aac, cac).1) = tsizes ks := by simp only; rw [List.take_length]
    rw [hT0]
    refine MV.made fun bm m0 hbm hV hsm hkm0 => ?_
    have hkm := Kp.refl [bm] m0
    refine hV.put (by omega) (by constructor <;> omega) (by constructor <;> omega) fun mz hV hkp => ?_
    have hkm := hkm.trans hkp (fun x hx _ => hx)
    clear hkp
    refine hV.put (by omega) (by constructor <;> omega) (by constructor <;> omega) fun mz hV hkp => ?_
    have hkm := hkm.trans hkp (fun x hx _ => hx)
    clear hkp
    refine hV.put (by omega) (by constructor <;> omega) (by constructor <;> omega) fun mz hV hkp => ?_
    have hkm := hkm.trans hkp (fun x hx _ => hx)
    clear hkp
    refine hV.put (by omega) (by constructor <;> omega) (by constructor <;> omega) fun mz hV hkp => ?_
    have hkm := hkm.trans hkp (fun x hx _ => hx)
    clear hkp
    refine hV.put (by omega) (by constructor <;> omega) (by constructor <;> omega) fun mz hV hkp => ?_
    have hkm := hkm.trans hkp (fun x hx _ => hx)
    clear hkp
    refine hV.put (by omega) (by constructor <;> omega) (by constructor <;> omega) fun mz hV hkp => ?_
    have hkm := hkm.trans hkp (fun x hx _ => hx)
    clear hkp
    refine hV.put (by omega) (by constructor <;> omega) (by constructor <;> omega) fun mz hV hkp => ?_
    have hkm := hkm.trans hkp (fun x hx _ => hx)
    clear hkp
    refine hV.put (by omega) (by constructor <;> omega) (by constructor <;> omega) fun mz hV hkp => ?_
    have hkm := hkm.trans hkp (fun x hx _ => hx)
    clear hkp
    have hkum : Kp [] u mz := hkm0.trans hkm fun x hx hl => by simp at hx; omega
    have hB8m := (hB8.kp hku (by simp)).kp hkum (by simp)
    refine ld (hB8m.cl rfl).cell ?_
    refine hV.look1 i1 ?_
    refine ld (hB8m.cl rfl).cell ?_
    refine ld (hB8m.cl rfl).cell ?_
    have htab : (tabF n.op).getD 0 = doneOp n.op := tabF_get (by omega)
    have hdo : I64 (doneOp n.op) := doneOp_bd _
    refine ev_call (one21_ct ((tabF n.op).getD 0) n.a n.b none 0 0 mz) ?_
    rw [htab]
    rintro e u3 ⟨rfl, hB3, hk3, hs3⟩
    have hku3 : Kp [] u u3 := hkum.tr hk3
    have hmz : w.heap.size ≤ mz.heap.size := (hk0u.tr hkum).size
    refine ev_call (behind_ct (lo := w.heap.size) (hk0u.tr hku3).size acc [ins0 (doneOp n.op) n.a n.b] aac _ cac 1 (hsa.mono fun b o t ht => ⟨ht.1, ht.2.kp hku3 (by simp)⟩) (one_sl hmz hB3 hdo i2 i3) (by omega) (by simp) ToOk.one) ?_
    rintro e u4 ⟨a4, c4, rfl, hs4, hC4, hk4⟩
    have hfin : acc ++ [ins0 (doneOp n.op) n.a n.b].map (shift acc.length) = RES := by
      rw [← hG, hac]
      simp [shift_ins0]
    rw [hfin] at hs4 hC4
    rw [hfin]
    refine ⟨a4, c4, ?_, hs4, hC4, (hk0u.tr hku3).tr hk4⟩
    rw [hsz]
    rfl
  refine br_dec (fun o67 => ?_) (fun o67 => ?_)
  · rw [if_pos o67] at hG hglb hglG
    obtain ⟨v, x, rfl, hv, hx⟩ := ok_let hok o67
    simp only [tsizes] at hsz hLlen
    simp only [glens] at hglb hglG
    have d1 : L.drop 1 = row v ++ (row x ++ rest) := by
      have := hdrop 0
      simpa [tsizes, rows] using this
    have d2 : L.drop (1 + tsize v) = row x ++ rest := by
      have := hdrop 1
      simpa [tsizes, rows] using this
    have tv := tsize_pos v
    have tx := tsize_pos x
    have hgv := gen_len v _ hv h ps 0
    have hgx := gen_len x _ hx (h + 1) (ps ++ rng h 1) 0
    have hbv := glen_bd v _ hv
    have hbx := glen_bd x _ hx
    obtain ⟨a1, hsl1, hSl1⟩ := hl.from hcap 1 (by omega)
    obtain ⟨a2, hsl2, hSl2⟩ := hl.from hcap (1 + tsize v) (by omega)
    rw [d1] at hsl1 hSl1
    rw [d2] at hsl2 hSl2
    refine slcL' τok rfl 1 _ rfl (by omega) hsl1 ?_
    refine ev_call (hR v C D a1 (cap - 1) (row x ++ rest) h ps ap cp w2 (by omega) hv hS2 hD2 hSl1 (by rw [← d1, List.length_drop]; omega) hp h0 (by omega) (by omega) (by omega)) ?_
    rintro e w3 ⟨a3, c3, rfl, hs3, _, hk3⟩
    refine int64 (by omega) (by omega) ?_
    refine slcL' τok rfl (1 + tsize v) _ (by omega) (by omega) hsl2 ?_
    refine ev_call (under21_ct hR x 1 (by omega) (by omega) hx (hS2.tr hk3) (hD2.tr hk3) a2 (cap - (1 + tsize v)) hSl2 (by rw [← d2, List.length_drop]; omega) ap cp hp h0 (by omega) (by omega) (by omega)) ?_
    rintro e w4 ⟨a4, c4, rfl, hs4, _, hk4⟩
    have hU : underG ((1 : Nat) : Int) (gen x) h ps 0 = underG 1 (gen x) h ps 0 := rfl
    have hul : (underG ((1 : Nat) : Int) (gen x) h ps 0).length ≤ 1048576 := by simp [underG, slides, hgx]; omega
    refine ev_call (behind_ct (lo := w.heap.size) ((hk02.tr hk3).tr hk4).size _ _ a3 a4 c3 c4 (hs3.mono fun b o t ht => ⟨Nat.le_trans hk02.size ht.1, ht.2.kp hk4 (by simp)⟩) (hs4.mono fun b o t ht => ⟨Nat.le_trans (hk02.tr hk3).size ht.1, ht.2⟩) (by omega) hul
      (by simp only [underG]; exact (gen_to (by omega) x _ hx _ _ 0 (by omega)).app ToOk.slides)) ?_
    rintro e w5 ⟨a5, c5, rfl, hs5, hC5, hk5⟩
    refine int64 (by omega) (by omega) ?_
    refine int64 (by omega) (by omega) ?_
    have hfin : gen v h ps 0 ++ (underG ((1 : Nat) : Int) (gen x) h ps 0).map (shift (gen v h ps 0).length) = RES := by
      rw [← hG, ← underG_sh hx]
      simp only [genLet]
      rfl
    rw [hfin] at hs5 hC5
    rw [hfin]
    refine ⟨a5, c5, ?_, hs5, hC5, ((hk02.tr hk3).tr hk4).tr hk5⟩
    simp [one, tsize, tsizes]
    omega
  rw [if_neg o67] at hG hglb hglG
  refine br_dec (fun o72 => ?_) (fun o72 => ?_)
  · rw [if_pos o72] at hG hglb hglG
    obtain ⟨v, z, x, rfl, hv, hz, hx⟩ := ok_peel hok o72
    simp only [tsizes] at hsz hLlen
    simp only [glens] at hglb hglG
    have d1 : L.drop 1 = row v ++ (row z ++ (row x ++ rest)) := by
      have := hdrop 0
      simpa [tsizes, rows] using this
    have d2 : L.drop (1 + tsize v) = row z ++ (row x ++ rest) := by
      have := hdrop 1
      simpa [tsizes, rows] using this
    have d3 : L.drop (1 + tsize v + tsize z) = row x ++ rest := by
      have := hdrop 2
      simpa [tsizes, rows, Nat.add_assoc] using this
    have tv := tsize_pos v
    have tx := tsize_pos x
    have tz := tsize_pos z
    have hgv := gen_len v _ hv h ps 0
    have hgz := gen_len z _ hz h ps 0
    have hgx := gen_len x _ hx (h + 1) (ps ++ rng h 1) 0
    have hbv := glen_bd v _ hv
    have hbz := glen_bd z _ hz
    have hbx := glen_bd x _ hx
    obtain ⟨a1, hsl1, hSl1⟩ := hl.from hcap 1 (by omega)
    obtain ⟨a2, hsl2, hSl2⟩ := hl.from hcap (1 + tsize v) (by omega)
    obtain ⟨a3, hsl3, hSl3⟩ := hl.from hcap (1 + tsize v + tsize z) (by omega)
    rw [d1] at hsl1 hSl1
    rw [d2] at hsl2 hSl2
    rw [d3] at hsl3 hSl3
    refine slcL' τok rfl 1 _ rfl (by omega) hsl1 ?_
    refine ev_call (hR v C D a1 (cap - 1) (row z ++ (row x ++ rest)) h ps ap cp w2 (by omega) hv hS2 hD2 hSl1 (by rw [← d1, List.length_drop]; omega) hp h0 (by omega) (by omega) (by omega)) ?_
    rintro e w3 ⟨av, cv, rfl, hsv, _, hk3⟩
    refine int64 (by omega) (by omega) ?_
    refine slcL' τok rfl (1 + tsize v) _ (by omega) (by omega) hsl2 ?_
    refine ev_call (hR z C D a2 (cap - (1 + tsize v)) (row x ++ rest) h ps ap cp w3 (by omega) hz (hS2.tr hk3) (hD2.tr hk3) hSl2 (by rw [← d2, List.length_drop]; omega) hp h0 (by omega) (by omega) (by omega)) ?_
    rintro e w4 ⟨az, cz, rfl, hsz4, _, hk4⟩
    refine int64 (by omega) (by omega) ?_
    refine int64 (by omega) (by omega) ?_
    refine slcL' τok rfl (1 + tsize v + tsize z) _ (by omega) (by omega) hsl3 ?_
    have hk24 := hk3.tr hk4
    refine ev_call (under21_ct hR x 1 (by omega) (by omega) hx (hS2.tr hk24) (hD2.tr hk24) a3 (cap - (1 + tsize v + tsize z)) hSl3 (by rw [← d3, List.length_drop]; omega) ap cp hp h0 (by omega) (by omega) (by omega)) ?_
    rintro e w5 ⟨ax, cx, rfl, hsx, _, hk5⟩
    obtain ⟨U, hU⟩ : ∃ U, underG ((1 : Nat) : Int) (gen x) h ps 0 = U := ⟨_, rfl⟩
    have hUl : U.length = glen x + 1 := by rw [← hU]; simp [underG, slides, hgx]
    have hUto : ToOk 1048576 U := by rw [← hU]; simp only [underG]; exact (gen_to (by omega) x _ hx _ _ 0 (by omega)).app ToOk.slides
    have hUs : underG 1 (gen x) h ps (glen v + 1) = U.map (shift (glen v + 1)) := by
      have := underG_sh hx 1 h ps 0 (glen v + 1)
      rw [Nat.zero_add] at this
      rw [this, ← hU]
      rfl
    rw [hU] at hsx
    rw [hU]
    have hk05 : Kp [] w w5 := (hk02.tr hk24).tr hk5
    refine int64 (by omega) (by omega) ?_
    refine int64 (by omega) (by omega) ?_
    obtain ⟨q1, hq1⟩ : ∃ q : Int, 1 + (U.length : Int) + 1 = q := ⟨_, rfl⟩
    rw [hq1]
    have iq1 : I64 q1 := by constructor <;> omega
    refine fill [.int .i64 q1] rfl ?_
    refine new fun b6 w6 hb6 hB6 hs6 hk6 => ?_
    refine ev_call (one21_ct 11 0 0 (some ⟨b6, 0, none⟩) 1 1 w6) ?_
    rintro e w7 ⟨rfl, hB7, hk7, hs7⟩
    have hk57 := hk6.tr hk7
    have hk07 := hk05.tr hk57
    have hz05 := hk05.size
    have hz06 := (hk05.tr hk6).size
    have h1sl : Sl rIns (New w.heap.size w7) (some ⟨w6.heap.size, 0, none⟩) [⟨11, 0, 0, [q1]⟩] := one_to hz06 (by omega) hB7 (hB6.kp hk7 (by simp)) (by constructor <;> simp) iq1
    refine ev_call (behindO_ct (lo := w.heap.size) hk07.size [⟨11, 0, 0, [q1]⟩] U _ ax 1 cx h1sl (hsx.mono fun b o t ht => ⟨Nat.le_trans (hk02.tr hk24).size ht.1, ht.2.kp hk57 (by simp)⟩) (by simp) hUto) ?_
    rintro e w8 ⟨v8, rfl, hC8, hv8, hk8⟩
    have hk08 := hk07.tr hk8
    obtain ⟨A1, hA1⟩ : ∃ A : List Ins, [⟨11, 0, 0, [q1]⟩] ++ U.map (shift ([⟨11, 0, 0, [q1]⟩] : List Ins).length) = A := ⟨_, rfl⟩
    have hA1l : A1.length = 1 + (glen x + 1) := by rw [← hA1]; simp [hUl]; omega
    rw [hA1] at hC8
    obtain ⟨a8, c8, hv8e, hs8⟩ := hC8.done (by omega)
    subst hv8e
    refine int64 (by omega) (by omega) ?_
    refine int64 (by omega) (by omega) ?_
    obtain ⟨q2, hq2⟩ : ∃ q : Int, (A1.length : Int) + 1 + ((gen z h ps 0).length : Int) = q := ⟨_, rfl⟩
    rw [hq2]
    have iq2 : I64 q2 := by constructor <;> omega
    refine fill [.int .i64 q2] rfl ?_
    refine new fun b9 w9 hb9 hB9 hs9 hk9 => ?_
    refine fill [.int .i64 13, .int .i64 0, .int .i64 0, .slice (some ⟨b9, 0, none⟩) 1 1] rfl ?_
    refine new fun b10 w10 hb10 hB10 hs10 hk10 => ?_
    refine hC8.goto (q := q2) (hk9.tr hk10) (by omega) iq2 (be := b9) (by omega) (hB9.kp hk10 (by simp)) hB10 fun v11 w11 hC11 hk11 => ?_
    have hk811 : Kp [] w7 w11 := ((hk8.tr hk9).tr hk10).trans hk11 fun b hb hl => by have := hv8 b (by simpa using hb); omega
    have hk011 : Kp [] w w11 := hk07.tr hk811
    obtain ⟨A2, hA2⟩ : ∃ A : List Ins, A1 ++ [⟨13, 0, 0, [q2]⟩] = A := ⟨_, rfl⟩
    have hA2l : A2.length = 1 + (glen x + 1) + 1 := by rw [← hA2]; simp [hA1l]
    rw [hA2] at hC11
    obtain ⟨a11, c11, hv11, hs11⟩ := hC11.done (by omega)
    subst hv11
    refine ev_call (behind_ct (lo := w.heap.size) hk011.size A2 (gen z h ps 0) a11 az c11 cz hs11 (hsz4.mono fun b o t ht => ⟨Nat.le_trans (hk02.tr hk3).size ht.1, ht.2.kp ((hk5.tr hk57).tr hk811) (by simp)⟩) (by omega) (by omega) (gen_to (by omega) z _ hz _ _ 0 (by omega))) ?_
    rintro e w12 ⟨a12, c12, rfl, hs12, _, hk12⟩
    obtain ⟨A3, hA3⟩ : ∃ A : List Ins, A2 ++ (gen z h ps 0).map (shift A2.length) = A := ⟨_, rfl⟩
    have hA3l : A3.length = 1 + (glen x + 1) + 1 + glen z := by rw [← hA3]; simp [hA2l, hgz]
    have hA3e : A3 = ⟨11, 0, 0, [q1]⟩ :: (U.map (shift 1) ++ ⟨13, 0, 0, [q2]⟩ :: (gen z h ps 0).map (shift (1 + (glen x + 1) + 1))) := by
      rw [← hA3, hA2l, ← hA2, ← hA1]
      simp
    rw [hA3] at hs12
    rw [hA3]
    have hA3to : ToOk 1048576 A3 := by
      rw [hA3e]
      refine ToOk.app (l := [_]) (ToOk.to1 (fun t ht => by simp at ht; subst ht; constructor <;> omega)) ?_
      refine ToOk.app (l := U.map (shift 1)) ?_ (ToOk.app (l := [_]) (ToOk.to1 (fun t ht => by simp at ht; subst ht; constructor <;> omega)) ?_)
      · have e1 : U.map (shift 1) = underG 1 (gen x) h ps (0 + 1) := by rw [underG_sh hx, ← hU]; rfl
        rw [e1]
        simp only [underG]
        exact (gen_to (by omega) x _ hx _ _ _ (by omega)).app ToOk.slides
      · rw [← gen_sh z _ hz]
        exact gen_to (by omega) z _ hz _ _ _ (by omega)
    refine ev_call (behind_ct (lo := w.heap.size) (hk011.tr hk12).size (gen v h ps 0) A3 av a12 cv c12 (hsv.mono fun b o t ht => ⟨Nat.le_trans hk02.size ht.1, ht.2.kp ((((hk4.tr hk5).tr hk57).tr hk811).tr hk12) (by simp)⟩) hs12 (by omega) (by omega) hA3to) ?_
    rintro e w13 ⟨a13, c13, rfl, hs13, hC13, hk13⟩
    refine int64 (by omega) (by omega) ?_
    refine int64 (by omega) (by omega) ?_
    refine int64 (by omega) (by omega) ?_
    have hfin : gen v h ps 0 ++ A3.map (shift (gen v h ps 0).length) = RES := by
      have e1 : (U.map (shift 1)).map (shift (glen v)) = underG 1 (gen x) h ps (0 + glen v + 1) := by
        rw [show 0 + glen v + 1 = 0 + 1 + glen v by omega, underG_sh hx, underG_sh hx, ← hU]
        rfl
      have e2 : ((gen z h ps 0).map (shift (1 + (glen x + 1) + 1))).map (shift (glen v)) = gen z h ps (0 + glen v + 1 + (glen x + 1) + 1) := by
        rw [show 0 + glen v + 1 + (glen x + 1) + 1 = 0 + (1 + (glen x + 1) + 1) + glen v by omega, gen_sh z _ hz, gen_sh z _ hz]
      have e3 : shift (glen v) ⟨11, 0, 0, [q1]⟩ = ⟨11, 0, 0, [((0 + glen v + 1 + (glen x + 1) + 1 : Nat) : Int)]⟩ := by
        have : q1 + (glen v : Int) = ((0 + glen v + 1 + (glen x + 1) + 1 : Nat) : Int) := by omega
        rw [← this]
        rfl
      have e4 : shift (glen v) ⟨13, 0, 0, [q2]⟩ = ⟨13, 0, 0, [((0 + glen v + 1 + (glen x + 1) + 1 + glen z : Nat) : Int)]⟩ := by
        have : q2 + (glen v : Int) = ((0 + glen v + 1 + (glen x + 1) + 1 + glen z : Nat) : Int) := by omega
        rw [← this]
        rfl
      rw [← hG, hA3e, hgv]
      simp only [genPeel, List.map_cons, List.map_append]
      rw [e1, e2, e3, e4]
    rw [hfin] at hs13 hC13
    rw [hfin]
    refine ⟨a13, c13, ?_, hs13, hC13, (hk011.tr hk12).tr hk13⟩
    simp [one, tsize, tsizes]
    omega
  rw [if_neg o72] at hG hglb hglG
  refine br_dec (fun o69 => ?_) (fun o69 => ?_)
  · rw [if_pos o69] at hG hglb hglG
    obtain ⟨v, arms, rfl, hb, hv, ha⟩ := ok_sw hok o69
    have h16 : arms.length ≤ 16 := by
      unfold ndF at hc
      simp [o69, inM] at hc
      omega
    simp only [tsizes] at hsz hLlen
    have hL2 : n :: (row v ++ (rows arms ++ rest)) = L := by rw [hLc]; simp [rows]
    have call := arms21_ct hR n v arms hb h16 i2 (by omega) hv ha hS2 hD2 a cap (by rw [hL2]; exact hl) (by rw [hL2]; exact hcap) ap cp hp h0 (by omega) (by omega) (by omega)
    rw [hL2, hG] at call
    refine ev_call call ?_
    rintro e w3 ⟨a3, c3, rfl, hs3, hC3, hk3⟩
    exact ⟨a3, c3, rfl, hs3.mono fun b o t ht => ⟨Nat.le_trans hk02.size ht.1, ht.2⟩, hC3.low hk02.size, hk02.tr hk3⟩
  obtain ⟨nz, hnz⟩ : ∃ z : Int, 0 = z := ⟨_, rfl⟩
  have hcnt : (ks.length : Int) = nz := by
    rw [← hnz]
    have := val (by omega) (by omega) (by omega)
    rw [if_neg (by omega), if_neg (by omega), if_neg (by omega)] at this
    omega
  rw [if_neg o69, if_neg h70] at hG hglb hglG
  have hall := ok_all hok (by omega) (by omega) (by omega) h70
  refine lp τok (σ := Nat × List Ins × Option Addr × Nat) (fun q => [(0, .slice a L.length cap), (1, .int .i64 h), (2, .slice ap ps.length cp), (8, .pointer (some ⟨b8, 0, none⟩)), (9, .int .i64 (1 + tsizes (ks.take q.1) : Nat)), (10, .int .i64 nz), (22, .slice q.2.2.1 q.2.1.length q.2.2.2), (23, .int .i64 q.1)])
    (fun q u => q.1 ≤ ks.length ∧ Kp [] w2 u ∧ Sl rIns (New w.heap.size u) q.2.2.1 q.2.1 ∧ q.2.1 ++ genAll (ks.drop q.1) (h + q.1) ps q.2.1.length = genAll ks h ps 0 ∧ q.2.1.length + glens (ks.drop q.1) = glens ks) (fun q => ks.length - q.1) (0, [], none, 0) rfl
    ⟨rfl, rfl, rfl, rfl, eqI (by simp [tsizes]), eqI hnz, rfl, rfl, trivial⟩ ⟨Nat.zero_le _, Kp.refl _ _, Sl.nil _ _ _, by simp, by simp⟩ ?_
  rintro ⟨j, acc, aac, cac⟩ u ⟨hj, hku, hsa, hac, hal⟩
  simp only at hj hsa hac hal
  have hk0u : Kp [] w u := hk02.tr hku
  have htj := tsizes_le ks j
  refine br_dec (fun g1 => ?_) (fun g1 => ?_)
  · have hjl : j < ks.length := by omega
    obtain ⟨x, hx, hdx⟩ := drop_get hjl
    have hxm := List.mem_of_getElem? hx
    have hokx := hall x hxm
    have htk := tsizes_take ks j _ hx
    have hts1 := tsizes_le ks (j + 1)
    have hxs := tsizes_mem ks x hxm
    have hgx := glen_bd _ _ hokx
    have hgl := gen_len _ _ hokx (h + j) ps 0
    obtain ⟨K, hK⟩ : ∃ K, 1 + tsizes (ks.take j) = K := ⟨_, rfl⟩
    have hdj : L.drop K = row x ++ (rows (ks.drop (j + 1)) ++ rest) := by
      rw [← hK, hdrop, hdx]
      simp [rows]
    rw [hdx] at hac hal
    simp only [genAll] at hac
    simp only [glens] at hal
    obtain ⟨a2, hsl2, hSl2⟩ := hl.from hcap K (by omega)
    rw [hdj] at hsl2 hSl2
    refine slcL' τok rfl K _ (by simp only [hK]) (by omega) hsl2 ?_
    refine int64 (by first | omega | (simp only; omega)) (by first | omega | (simp only; omega)) ?_
    refine ev_call (hR x C D a2 (cap - K) (rows (ks.drop (j + 1)) ++ rest) (h + j) ps ap cp u (by omega) hokx (hS.tr hk0u) (hD.tr hk0u) hSl2 (by rw [← hdj, List.length_drop]; omega) hp (by omega) (by omega) (by omega) (by omega)) ?_
    rintro e u1 ⟨a3, c3, rfl, hs3, _, hk3⟩
    obtain ⟨code, hcode⟩ : ∃ l, gen x (h + j) ps 0 = l := ⟨_, rfl⟩
    have hto : ToOk 1048576 code := by rw [← hcode]; exact gen_to (by omega) x _ hokx _ ps 0 (by omega)
    have hsh : gen x (h + j) ps acc.length = code.map (shift acc.length) := by
      have := gen_sh x _ hokx (h + j) ps 0 acc.length
      rwa [Nat.zero_add, hcode] at this
    rw [hcode] at hs3 hgl
    rw [hcode]
    rw [hsh] at hac
    refine ev_call (behind_ct (lo := w.heap.size) (hk0u.tr hk3).size acc code aac a3 cac c3 (hsa.mono fun b o t ht => ⟨ht.1, ht.2.kp hk3 (by simp)⟩) (hs3.mono fun b o t ht => ⟨Nat.le_trans hk0u.size ht.1, ht.2⟩) (by omega) (by omega) hto) ?_
    rintro e u2 ⟨a4, c4, rfl, hs4, _, hk4⟩
    refine int64 (by first | omega | (simp only; omega)) (by first | omega | (simp only; omega)) ?_
    refine int64 (by first | omega | (simp only; omega)) (by first | omega | (simp only; omega)) ?_
    refine ⟨(j + 1, acc ++ code.map (shift acc.length), a4, c4), by simp only; omega, rfl, ⟨rfl, rfl, rfl, rfl, eqI (by simp only; omega), rfl, rfl, rfl, trivial⟩, by simp only; omega, (hku.tr hk3).tr hk4, hs4, ?_, ?_⟩
    · simp only [List.length_append, List.length_map] at hac ⊢
      rw [← hac, List.append_assoc]
      simp only [Int.natCast_add, Int.add_assoc]
      rfl
    · simp only [List.length_append, List.length_map]
      rw [hgl]
      omega
  have hjn : j = ks.length := by omega
  subst hjn
  rw [List.drop_length] at hac hal
  simp only [genAll, List.append_nil, glens, Nat.add_zero] at hac hal
  have hT0 : tsizes (ks.take (ks.length, acc, aac, cac).1) = tsizes ks := by simp only; rw [List.take_length]
  rw [hT0]
  refine MV.made fun bm m0 hbm hV hsm hkm0 => ?_
  have hkm := Kp.refl [bm] m0
  refine hV.put (by omega) (by constructor <;> omega) (by constructor <;> omega) fun mz hV hkp => ?_
  have hkm := hkm.trans hkp (fun x hx _ => hx)
  clear hkp
  refine hV.put (by omega) (by constructor <;> omega) (by constructor <;> omega) fun mz hV hkp => ?_
  have hkm := hkm.trans hkp (fun x hx _ => hx)
  clear hkp
  refine hV.put (by omega) (by constructor <;> omega) (by constructor <;> omega) fun mz hV hkp => ?_
  have hkm := hkm.trans hkp (fun x hx _ => hx)
  clear hkp
  refine hV.put (by omega) (by constructor <;> omega) (by constructor <;> omega) fun mz hV hkp => ?_
  have hkm := hkm.trans hkp (fun x hx _ => hx)
  clear hkp
  refine hV.put (by omega) (by constructor <;> omega) (by constructor <;> omega) fun mz hV hkp => ?_
  have hkm := hkm.trans hkp (fun x hx _ => hx)
  clear hkp
  refine hV.put (by omega) (by constructor <;> omega) (by constructor <;> omega) fun mz hV hkp => ?_
  have hkm := hkm.trans hkp (fun x hx _ => hx)
  clear hkp
  refine hV.put (by omega) (by constructor <;> omega) (by constructor <;> omega) fun mz hV hkp => ?_
  have hkm := hkm.trans hkp (fun x hx _ => hx)
  clear hkp
  refine hV.put (by omega) (by constructor <;> omega) (by constructor <;> omega) fun mz hV hkp => ?_
  have hkm := hkm.trans hkp (fun x hx _ => hx)
  clear hkp
  have hkum : Kp [] u mz := hkm0.trans hkm fun x hx hl => by simp at hx; omega
  have hB8m := (hB8.kp hku (by simp)).kp hkum (by simp)
  refine ld (hB8m.cl rfl).cell ?_
  refine hV.look1 i1 ?_
  refine ld (hB8m.cl rfl).cell ?_
  refine ld (hB8m.cl rfl).cell ?_
  have htab : (tabF n.op).getD 0 = doneOp n.op := tabF_get (by omega)
  have hdo : I64 (doneOp n.op) := doneOp_bd _
  refine ev_call (one21_ct ((tabF n.op).getD 0) n.a n.b none 0 0 mz) ?_
  rw [htab]
  rintro e u3 ⟨rfl, hB3, hk3, hs3⟩
  have hku3 : Kp [] u u3 := hkum.tr hk3
  have hmz : w.heap.size ≤ mz.heap.size := (hk0u.tr hkum).size
  refine ev_call (behind_ct (lo := w.heap.size) (hk0u.tr hku3).size acc [ins0 (doneOp n.op) n.a n.b] aac _ cac 1 (hsa.mono fun b o t ht => ⟨ht.1, ht.2.kp hku3 (by simp)⟩) (one_sl hmz hB3 hdo i2 i3) (by omega) (by simp) ToOk.one) ?_
  rintro e u4 ⟨a4, c4, rfl, hs4, hC4, hk4⟩
  have hfin : acc ++ [ins0 (doneOp n.op) n.a n.b].map (shift acc.length) = RES := by
    rw [← hG, hac]
    simp [shift_ins0]
  rw [hfin] at hs4 hC4
  rw [hfin]
  refine ⟨a4, c4, ?_, hs4, hC4, (hk0u.tr hku3).tr hk4⟩
  rw [hsz]
  rfl
theorem row21_all (hcaps : CapsOk p) : ∀ f, RowR p f
  | 0 => fun x C D a cap rest h ps ap cp w hf => by have := tsize_pos x; omega
  | f + 1 => row21_step hcaps (row21_all hcaps f)
end
end Go.Proofs.YtjpdkcejkogciaaDoor

