/- Walks: Counts at a valid list. -/
import Derived.Test.YtipaapplingbnaaDoorCx
namespace Go.Proofs.YtipaapplingbnaaDoor
open Go.RowKit Go.Deep

theorem VRow.alloc {w : World} {g : Nat} {l : List Vc} (h : VRow w g l) (o : Obj) : VRow (w.alloc o) g l := Blk.alloc h o
theorem VRow.below {w w' : World} {B g : Nat} {l : List Vc} (h : VRow w g l) (hb : Below B w w') (hg : g < B) : VRow w' g l := Blk.below h hb hg
theorem VRow.lt {w : World} {g : Nat} {l : List Vc} (h : VRow w g l) : g < w.heap.size := Blk.lt h
theorem only_set6 (w : World) (g p : Nat) (vs : List Value) : Only g w (w.setCells g p vs) := by
  induction vs generalizing w p with
  | nil => exact Only.refl _ _
  | cons v vs ih => exact ((Only.refl g w).setCell p v).trans (ih _ _)
/-- A vector stored into a row of vectors, as an arm of the walk. -/
theorem wpList_putv {ops : Array Oper} {rest : List Oper} {o : Oper} {a : Act} {w : World} {Q : Exit → Act → World → Prop} (hgd : o.guard = none) (x y : Operand) (ho : o.op = .store 25 x y)
    (g k : Nat) (l : List Vc) (v : Vc) (hx : a.eval x = .pointer (some ⟨g, k * 6, none⟩)) (hy : a.eval y = .agg v.cells) (hrow : VRow w g l) (hk : k < l.length)
    (h : ∀ w', VRow w' g (l.set k v) → Only g w w' → wpList Tryd.prog ops Q rest (a.put o.dst undef) w') : wpList Tryd.prog ops Q (o :: rest) a w :=
  wpList_store_mid hgd 25 x y ho g (k * 6) v.cells hx hy (fun j hj => ⟨by rw [hrow.cell k j hk hj]; rfl, hrow.frozen _⟩) size_vec (by simp [Value.oneCell'])
    (h _ (hrow.put k v hk) (only_set6 w g (k * 6) v.cells.toList))
/-- The first k rows copied. -/
def copied (l : List Cm) (k : Nat) : List Vc := (vecs l).take k ++ List.replicate (l.length - k) zeroV
theorem copied_len (l : List Cm) (k : Nat) (hk : k ≤ l.length) : (copied l k).length = l.length := by simp [copied, vecs]; omega
theorem copied_zero (l : List Cm) : copied l 0 = List.replicate l.length zeroV := by simp [copied]
theorem copied_all (l : List Cm) : copied l l.length = vecs l := by
  unfold copied
  rw [List.take_of_length_le (by simp [vecs]), Nat.sub_self]
  simp
theorem copied_set (l : List Cm) (k : Nat) (hk : k < l.length) : (copied l k).set k l[k].v = copied l (k + 1) := by
  unfold copied
  rw [List.set_append_right _ _ (by simp [vecs]; omega), List.take_succ_eq_append_getElem (by simpa [vecs] using hk), List.append_assoc]
  congr 1
  rw [show k - ((vecs l).take k).length = 0 by simp [vecs]; omega, show l.length - k = (l.length - (k + 1)) + 1 by omega, List.replicate_succ]
  simp [vecs]
def C1Rel (w : World) (v : Vc) (l : List Cm) (g : Nat) (i : Value) (wx : World) : Prop :=
  ∃ k : Nat, k ≤ l.length ∧ i = .int .i64 k ∧ Hid (Below w.heap.size w wx) ∧ Hid (Blk wx w.heap.size 25 v.cells) ∧ Hid (VRow wx g (copied l k))
def C2Rel (wa : World) (l : List Cm) (m0 : Nat) (mask whole : Value) (wx : World) : Prop :=
  ∃ (k : Nat) (d : Int), k ≤ 64 ∧ mask = .int .i64 k ∧ whole = .int .i64 d ∧ Below wa.heap.size wa wx ∧ ((d = 0 ∧ k ≤ m0) ∨ (d ≠ 0 ∧ k = m0 + 1 ∧ d = cW l m0))
structure C3At (w wx : World) (v : Vc) (l : List Cm) (m0 g go gr k : Nat) : Prop where
  below : Below w.heap.size w wx
  box : Blk wx w.heap.size 25 v.cells
  rows : VRow wx g (vecs l)
  out : IRow wx go (outs l v m0 k)
  rest : Blk wx gr 25 (restV l v m0 k).cells
structure Kept3 (w3 : World) (v : Vc) (b0 go : Nat) (os : List Int) (r : Vc) : Prop where
  out : IRow w3 go os
  rest : Blk w3 (go + 1) 25 r.cells
  box : Blk w3 b0 25 v.cells
theorem Kept3.on {w3 w4 : World} {v : Vc} {b0 go : Nat} {os : List Int} {r : Vc} (h : Kept3 w3 v b0 go os r) (hb : Below w3.heap.size w3 w4) : Kept3 w4 v b0 go os r := ⟨Blk.below h.out hb (Blk.lt h.out), h.rest.below hb h.rest.lt, h.box.below hb h.box.lt⟩
theorem Kept3.only {w3 w4 : World} {v : Vc} {b0 go g : Nat} {os : List Int} {r : Vc} (h : Kept3 w3 v b0 go os r) (o : Only g w3 w4) (hg : go ≠ g ∧ go + 1 ≠ g ∧ b0 ≠ g) : Kept3 w4 v b0 go os r := ⟨o.blk h.out hg.1, o.blk h.rest hg.2.1, o.blk h.box hg.2.2⟩
def C3Rel (w : World) (v : Vc) (l : List Cm) (m0 g go gr : Nat) (n i : Value) (wx : World) : Prop :=
  ∃ k : Nat, k ≤ l.length ∧ i = .int .i64 k ∧ n = .bool (nones l v m0 k) ∧ Hid (C3At w wx v l m0 g go gr k)

set_option maxRecDepth 100000 in
set_option maxHeartbeats 8000000 in
theorem counts_good (w : World) (A : Option Addr) (c : Nat) (l : List Cm) (v : Vc) (hr : RdN w w.heap.size A l) (hs : ∀ x ∈ l, x.nm.length ≤ 9223372036854775807) (hL : ValidL l) (hv : v.ok = true) :
    Calls Tryd.prog 10 #[.slice A l.length c, .agg #[.int .i64 v.a, .int .i64 v.b, .int .i64 v.c, .int .i64 v.d, .int .i64 v.e, .int .i64 v.f]] w (CntEnds w l v) := by
  have hl6 := hL.hi
  have hl1 := hL.lo
  have hal := (Below.refl w.heap.size w).alloc (Nat.le_refl _) (.cells v.cells 25)
  have HV := Lib.hid (valid_any (w.alloc (.cells v.cells 25)) A c l (hr.up hal) hs (by omega))
  rw [validB_true hL] at HV
  have HBL := Lib.hid (Blk.new w 25 v.cells)
  have HAL := Lib.hid hal
  have HIV := Lib.hid fun w1 => interval_any w1 v
  rw [hv] at HIV
  obtain ⟨m0, hF⟩ := first_of hL.ind
  have HF := Lib.hid hF
  have HLV := Lib.hid hL
  have HVO := Lib.hid hv
  have HS := Lib.hid hs
  have HR := Lib.hid hr
  have hm64 := hF.lt
  have hmkv := make_vecs l.length hl6
  have hmki := make_ints l.length (by omega)
  clear hr hs hal hL hv hF
  go_enter Tryd.func10, Tryd.ntmps10
  go_wp2_with (first
    | (go_at_call 12; refine HV.out.mono ?_; rintro e w1 ⟨rfl, b1⟩; have K1 := HBL.out.below b1 HBL.out.lt; have p0 := K1.cell 0; have p1 := K1.cell 1; have p2 := K1.cell 2; have p3 := K1.cell 3; have p4 := K1.cell 4; have p5 := K1.cell 5; simp at p0 p1 p2 p3 p4 p5; replace b1 := Lib.hid b1; replace K1 := Lib.hid K1)
    | (go_at_call 20; refine (HIV.out _).mono ?_; rintro e w2 ⟨rfl, b2⟩; have K2 := K1.out.below b2 K1.out.lt; replace b2 := Lib.hid b2; replace K2 := Lib.hid K2))
  have HB2 := Lib.hid (below_on (HAL.out.trans (b1.out.mono HAL.out.size)) b2.out)
  obtain ⟨g, hg⟩ : ∃ g, g = w2.heap.size := ⟨_, rfl⟩
  rw [← hg]
  have hgw : w.heap.size < g := by rw [hg]; exact K2.out.lt
  have HV0 : Hid (VRow (w2.alloc (.cells (rcells Vc.cs (List.replicate l.length zeroV)).toArray 25)) g (copied l 0)) := by
    rw [copied_zero, hg]
    exact Blk.new w2 _ _
  clear p0 p1 p2 p3 p4 p5
  go_loopw [30] (fun i wx => C1Rel w v l g i wx) (fun i _ => l.length - (intOf i).toNat)
  case atStart => exact ⟨0, Nat.zero_le _, rfl, HB2.out.alloc HB2.out.size _, K2.out.alloc _, HV0⟩
  case round =>
    clear HV0 hg
    obtain ⟨k, hk, rfl, HB, HK, HW⟩ := hrel
    by_cases hlt : k < l.length
    · obtain ⟨ad, rfl, had, hca⟩ := (HR.out.up HB.out).at hlt
      obtain ⟨q0, q1, q2, q3, q4, q5, q6⟩ := hca
      have HSET := Lib.hid (copied_set l k hlt)
      have hcl := copied_len l k hk
      generalize hx : l[k] = x at *
      clear hx
      have HW2 := Lib.hid (HW.out.alloc (.cells x.cells 50))
      have hgl := HW.out.lt
      have hbz := HB.out.size
      go_wp2_with (refine wpList_putv rfl (.tmp 39) (.tmp 38) rfl g k _ x.v rfl rfl HW2.out (by omega) ?_; intro w3 v3 o3; rw [HSET.out] at v3; replace v3 := Lib.hid v3; replace o3 := Lib.hid o3)
      go_roundw
      case rel => exact ⟨k + 1, by omega, by go_num, (HB.out.alloc HB.out.size _).trans (o3.out.below (by omega) (by simp; omega)), o3.out.blk (HK.out.alloc _) (by omega), v3.out⟩
      case measure => simp [intOf]; omega
    · obtain rfl : k = l.length := by omega
      rw [copied_all] at HW
      obtain ⟨wa, hwa⟩ : ∃ wa, wa = wr := ⟨_, rfl⟩
      subst hwa
      have hbz := HB.out.size
      have hgl := HW.out.lt
      go_wp2_with fail
      go_loopw [9, 10] (fun mask whole wx => C2Rel wa l m0 mask whole wx) (fun mask _ _ => 65 - (intOf mask).toNat)
      case atStart => exact ⟨0, 0, by omega, rfl, rfl, Below.refl _ _, .inl ⟨rfl, Nat.zero_le _⟩⟩
      case round =>
        obtain ⟨k, d, hk, rfl, rfl, hB, hcase⟩ := hrel
        by_cases hd : d = 0
        · have hkm : k ≤ m0 := by rcases hcase with h | h; exact h.2; exact absurd hd h.1
          subst hd
          have HBI := Lib.hid (bits_any wr k (by omega))
          have hFl := HF.out.len
          rw [List.length_map] at hFl
          by_cases hlen : (cols k).length = l.length
          · have HDT := Lib.hid (det_any wr (some ⟨g, 0, none⟩) l.length k (vecs l) ((HW.out.below hB hgl).rd) (by simp [vecs]; omega) (fun u hu => by obtain ⟨x, hx, rfl⟩ := List.mem_map.1 hu; exact HLV.out.vecs x hx) (by omega) (by rw [hlen]; simp [vecs]))
            rw [show (vecs l).length = l.length by simp [vecs]] at HDT
            have HLE := Lib.hid (HF.out.least k)
            have HNE := Lib.hid HF.out.ne
            have HROW := Lib.hid (rows_eq l)
            have HST : Hid ((k = m0 → Dt ((vecs l).map Vc.at) (cols k) ≠ 0 ∧ Dt ((vecs l).map Vc.at) (cols k) = cW l m0) ∧ (k ≠ m0 → Dt ((vecs l).map Vc.at) (cols k) = 0)) := by
              refine ⟨fun e => ?_, fun e => ?_⟩
              · subst e
                exact ⟨by rw [HROW.out]; exact HNE.out, rfl⟩
              · rw [HROW.out]
                exact HLE.out (by omega) (by rw [hlen, List.length_map])
            rw [hlen] at HBI
            generalize Dt ((vecs l).map Vc.at) (cols k) = D at *
            clear hlen hFl hcase
            go_wp2_with (first
              | (go_at_call 21; refine HBI.out.mono ?_; rintro e w' ⟨rfl, rfl⟩)
              | (go_at_call 22; refine HDT.out.mono ?_; rintro e w4 ⟨rfl, b4⟩; replace b4 := Lib.hid b4))
            go_roundw
            case rel =>
              refine ⟨k + 1, D, by omega, by go_num, rfl, below_on hB b4.out, ?_⟩
              by_cases e : k = m0
              · exact .inr ⟨(HST.out.1 e).1, by omega, (HST.out.1 e).2⟩
              · exact .inl ⟨HST.out.2 e, by omega⟩
            case measure => simp [intOf]; omega
          · have hkn : k ≠ m0 := fun e => hlen (by rw [e]; exact hFl)
            have hle : (((cols k).length : Int) == (l.length : Int)) = false := by rw [beq_eq_false_iff_ne]; omega
            clear hFl hlen hcase
            generalize (cols k).length = z at *
            go_wp2_with (go_at_call 21; refine HBI.out.mono ?_; rintro e w' ⟨rfl, rfl⟩)
            go_roundw
            case rel => exact ⟨k + 1, 0, by omega, by go_num, rfl, hB, .inl ⟨rfl, by omega⟩⟩
            case measure => simp [intOf]; omega
        · obtain ⟨-, hk2, hdw⟩ : d ≠ 0 ∧ k = m0 + 1 ∧ d = cW l m0 := by rcases hcase with h | h; exact absurd h.1 hd; exact h
          have hdf : (d == 0) = false := by rw [beq_eq_false_iff_ne]; exact hd
          have HWB := Lib.hid (below_on HB.out hB)
          have HKB := Lib.hid (HK.out.below hB HK.out.lt)
          have HRW := Lib.hid (HW.out.below hB hgl)
          have p0 := HKB.out.cell 0
          have p1 := HKB.out.cell 1
          have p2 := HKB.out.cell 2
          have p3 := HKB.out.cell 3
          have p4 := HKB.out.cell 4
          have p5 := HKB.out.cell 5
          simp at p0 p1 p2 p3 p4 p5
          have hwl := HKB.out.lt
          have hgw2 := HRW.out.lt
          have hk1 : (k : Int) - 1 = (m0 : Int) := by omega
          clear hk2
          have HDW := Lib.hid hdw
          have HDN := Lib.hid hd
          clear hcase hd hdw
          obtain ⟨wb, hwb⟩ : ∃ wb, wb = wr := ⟨_, rfl⟩
          subst hwb
          have HST3 : Hid (C3At w ((wb.alloc (.cells (icells (List.replicate l.length 0)).toArray 3)).alloc (.cells v.cells 25)) v l m0 g wb.heap.size (wb.heap.size + 1) 0) :=
            ⟨(HWB.out.alloc HWB.out.size _).alloc (by have := HWB.out.size; simp; omega) _, (HKB.out.alloc _).alloc _, (HRW.out.alloc _).alloc _, by rw [outs_zero]; exact (Blk.new wb 3 _).alloc _, by
              have := Blk.new (wb.alloc (.cells (icells (List.replicate l.length 0)).toArray 3)) 25 v.cells
              simpa [restV] using this⟩
          go_wp2_with fail
          go_loopw [12, 61] (fun n i wx => C3Rel w v l m0 g wb.heap.size (wb.heap.size + 1) n i wx) (fun _ i _ => l.length - (intOf i).toNat)
          case atStart => exact ⟨0, Nat.zero_le _, rfl, rfl, HST3⟩
          case round =>
            clear HST3 p0 p1 p2 p3 p4 p5
            obtain ⟨k, hk, rfl, rfl, HC⟩ := hrel
            by_cases hlt : k < l.length
            · have hvl := HC.out.rows.lt
              obtain ⟨ad, rfl, had, hca⟩ := (HR.out.up HC.out.below).at hlt
              obtain ⟨q0, q1, q2, q3, q4, q5, q6⟩ := hca
              have hxok := HLV.out.vecs _ (List.getElem_mem hlt)
              have hgx : l.getD k ⟨[], zeroV⟩ = l[k] := by simp [List.getD_eq_getElem?_getD, hlt]
              have hvx : (vecs l)[k]'(by simpa [vecs] using hlt) = l[k].v := by simp [vecs]
              have HRS : Hid (restV l v m0 (k + 1) = (restV l v m0 k).addm (-(cQ l v m0 k)) l[k].v) := by
                show _ = _
                rw [restV, hgx]
              have HBACK : Hid ((((vecs l).set k v).set k l[k].v) = vecs l) := by
                show _ = _
                rw [List.set_set, ← hvx, List.set_getElem_self]
              have HNS := Lib.hid (nones_succ l v m0 k)
              have HOS := Lib.hid (outs_succ l v m0 k hlt)
              have HOL := Lib.hid (outs_len l v m0 k)
              have HOG : Hid ((outs l v m0 k).getD k 0 = 0) := by
                show _ = _
                simp [outs, List.getD_eq_getElem?_getD, hlt]
              have hNb := cN_bound HLV.out.vecs HVO.out hl6 hm64 k
              have hQb := cQ_bound HLV.out.vecs HVO.out hl6 hm64 k
              have HRB := Lib.hid (rest_bound HLV.out.vecs HVO.out hl6 hm64 k hk)
              have HDET : Hid (∀ w3 : World, VRow w3 g ((vecs l).set k v) → Calls Tryd.prog 22 #[.slice (some ⟨g, 0, none⟩) l.length l.length, .int .i64 (m0 : Int)] w3 fun e w' => e = .returned (.int .i64 (cN l v m0 k)) ∧ Below w3.heap.size w3 w') := fun w3 h3 => by
                have := det_any w3 (some ⟨g, 0, none⟩) l.length m0 ((vecs l).set k v) h3.rd (by simp [vecs]; omega) (fun u hu => by
                  rcases List.mem_or_eq_of_mem_set hu with h | h
                  · obtain ⟨x, hx, rfl⟩ := List.mem_map.1 h
                    exact HLV.out.vecs x hx
                  · rw [h]; exact HVO.out) hm64 (by have := HF.out.len; simp [vecs] at this ⊢; omega)
                rw [show ((vecs l).set k v).length = l.length by simp [vecs]] at this
                exact this
              have hqd : (cN l v m0 k).tdiv (cW l m0) = cQ l v m0 k := rfl
              have hrd : (cN l v m0 k).tmod (cW l m0) = cR l v m0 k := rfl
              rw [← HDW.out] at hqd hrd
              have HC2 : Hid (IRow (wr.alloc (.cells l[k].cells 50)) wb.heap.size (outs l v m0 k) ∧ Blk (wr.alloc (.cells l[k].cells 50)) (wb.heap.size + 1) 25 (restV l v m0 k).cells ∧ Blk (wr.alloc (.cells l[k].cells 50)) w.heap.size 25 v.cells) := ⟨HC.out.out.alloc _, HC.out.rest.alloc _, HC.out.box.alloc _⟩
              have HKEEP : Hid (∀ w3 : World, Only g (wr.alloc (.cells l[k].cells 50)) w3 → Kept3 w3 v w.heap.size wb.heap.size (outs l v m0 k) (restV l v m0 k)) := fun w3 o => ⟨o.blk HC2.out.1 (by omega), o.blk HC2.out.2.1 (by omega), o.blk HC2.out.2.2 (by omega)⟩
              have HBA := Lib.hid (HC.out.below.alloc HC.out.below.size (.cells l[k].cells 50))
              have KC := Lib.hid (Blk.new wr 50 l[k].cells)
              have HRW1 := Lib.hid (HC.out.rows.alloc (.cells l[k].cells 50))
              have HKV := Lib.hid (show k < (vecs l).length by simpa [vecs] using hlt)
              have HKV2 := Lib.hid (show k < ((vecs l).set k v).length by simpa [vecs] using hlt)
              have HKO := Lib.hid (show k < (outs l v m0 k).length by rw [HOL.out]; exact hlt)
              have HGW := Lib.hid (show w.heap.size ≤ g by omega)
              have hgr : g < wr.heap.size := hvl
              have hor : wb.heap.size + 1 < wr.heap.size := HC.out.rest.lt
              have HGC := Lib.hid (show wr.heap.size ≠ g by omega)
              have HGO := Lib.hid (show wb.heap.size ≠ g ∧ wb.heap.size + 1 ≠ g ∧ w.heap.size ≠ g by omega)
              have p0 := HC.out.box.cell 0
              have p1 := HC.out.box.cell 1
              have p2 := HC.out.box.cell 2
              have p3 := HC.out.box.cell 3
              have p4 := HC.out.box.cell 4
              have p5 := HC.out.box.cell 5
              simp at p0 p1 p2 p3 p4 p5
              have HCB := Lib.hid HC.out.below
              have hwr0 : w.heap.size < wr.heap.size := by omega
              generalize l[k] = x at *
              generalize cN l v m0 k = N at *
              generalize cQ l v m0 k = Q at *
              generalize cR l v m0 k = R at *
              clear HC HC2 hgx hvx hvl
              rcases hnn : nones l v m0 k with _ | _
              · rw [hnn] at HNS
                clear hnn
                go_wp2_with (first
                  | (refine wpList_putv rfl (.tmp 69) (.tmp 68) rfl g k _ v rfl rfl HRW1.out HKV.out ?_; intro w3 v3 o3; have HDT := Lib.hid (HDET.out w3 v3); have HB3 := Lib.hid (HBA.out.trans (o3.below HGW.out HBA.out.size)); have KC3 := Lib.hid (o3.blk KC.out HGC.out); have C3 := Lib.hid (HKEEP.out w3 o3); replace v3 := Lib.hid v3; clear o3)
                  | (go_at_call 22; refine HDT.out.mono ?_; rintro e w4 ⟨rfl, b4⟩; have KC4 := Lib.hid (KC3.out.below b4 KC3.out.lt); have HRW4 := Lib.hid (v3.out.below b4 v3.out.lt); have C4 := Lib.hid (C3.out.on b4); have HB4 := Lib.hid (below_on HB3.out b4); have f1 := KC4.out.cell 1; have f2 := KC4.out.cell 2; have f3 := KC4.out.cell 3; have f4 := KC4.out.cell 4; have f5 := KC4.out.cell 5; have f6 := KC4.out.cell 6; simp at f1 f2 f3 f4 f5 f6; clear b4)
                  | (refine wpList_putv rfl (.tmp 77) (.tmp 76) rfl g k _ x.v rfl rfl HRW4.out HKV2.out ?_; intro w5 v5 o5; rw [HBACK.out] at v5; have HB5 := Lib.hid (HB4.out.trans (o5.below HGW.out HB4.out.size)); have KC5 := Lib.hid (o5.blk KC4.out HGC.out); have C5 := Lib.hid (C4.out.only o5 HGO.out); replace v5 := Lib.hid v5; clear o5; have oc := C5.out.1.cell k HKO.out; have of := C5.out.1.frozen k; rw [HOG.out] at oc; have h1 := KC5.out.cell 1; have h2 := KC5.out.cell 2; have h3 := KC5.out.cell 3; have h4 := KC5.out.cell 4; have h5 := KC5.out.cell 5; have h6 := KC5.out.cell 6; simp at h1 h2 h3 h4 h5 h6))
                obtain ⟨w6, hw6⟩ : ∃ w6, w6 = w5.setCell ⟨wb.heap.size, k, none⟩ (.int .i64 Q) := ⟨_, rfl⟩
                have C6 : Hid (Kept3 w6 v w.heap.size wb.heap.size (outs l v m0 (k + 1)) (restV l v m0 k)) := by
                  rw [hw6, ← HOS.out]
                  exact ⟨C5.out.1.put k Q, C5.out.2.far (by simp) _, C5.out.3.far (by have := hwr0; simp; omega) _⟩
                have K6 : Hid (Blk w6 wr.heap.size 50 x.cells) := by
                  rw [hw6]
                  exact KC5.out.far (by simp; omega) _
                have V6 : Hid (VRow w6 g (vecs l)) := by
                  rw [hw6]
                  exact Blk.far v5.out (by have := HGO.out.1; simp; omega) _
                have B6 : Hid (Below w.heap.size w w6) := by
                  rw [hw6]
                  exact HB5.out.setCell (by simp; omega) _
                have i1 := K6.out.cell 1
                have i2 := K6.out.cell 2
                have i3 := K6.out.cell 3
                have i4 := K6.out.cell 4
                have i5 := K6.out.cell 5
                have i6 := K6.out.cell 6
                simp at i1 i2 i3 i4 i5 i6
                have oq := C6.out.1.cell k (by rw [outs_len]; exact hlt)
                have hoq : (outs l v m0 (k + 1)).getD k 0 = Q := by
                  rw [← HOS.out]
                  have h1 := HKO.out
                  simp [List.getD_eq_getElem?_getD, h1]
                rw [hoq] at oq
                have HADD := Lib.hid (add_any w6.drew (wb.heap.size + 1) (restV l v m0 k) x.v (-Q) C6.out.2 (by omega) hxok HRB.out)
                rw [← HRS.out] at HADD
                have wq : IntKind.i64.wrap (-Q) = -Q := IntWalk.i64_in _ ⟨by omega, by omega⟩
                rw [← hw6]
                clear hw6 hoq hNb
                go_region_with (go_at_call 19; refine HADD.out.mono ?_; rintro e w7 ⟨rfl, o7, k7⟩; replace o7 := Lib.hid o7; replace k7 := Lib.hid k7)
                all_goals
                  go_wp2_with fail
                  go_roundw
                  case rel =>
                    refine ⟨k + 1, by omega, by go_num, ?_, ⟨B6.out.drew.trans (o7.out.below (by omega) B6.out.size), o7.out.blk C6.out.3 (by omega), o7.out.blk V6.out (fun e => HGO.out.2.1 e.symm), o7.out.blk C6.out.1 (by omega), k7.out⟩⟩
                    rw [HNS.out]
                    congr 1
                    by_cases h : R = 0 <;> simp [h]
                  case measure => simp [intOf]; omega
              · rw [hnn] at HNS
                clear hnn
                go_wp2_with (first
                  | (refine wpList_putv rfl (.tmp 69) (.tmp 68) rfl g k _ v rfl rfl HRW1.out HKV.out ?_; intro w3 v3 o3; have HDT := Lib.hid (HDET.out w3 v3); have HB3 := Lib.hid (HBA.out.trans (o3.below HGW.out HBA.out.size)); have KC3 := Lib.hid (o3.blk KC.out HGC.out); have C3 := Lib.hid (HKEEP.out w3 o3); replace v3 := Lib.hid v3; clear o3)
                  | (go_at_call 22; refine HDT.out.mono ?_; rintro e w4 ⟨rfl, b4⟩; have KC4 := Lib.hid (KC3.out.below b4 KC3.out.lt); have HRW4 := Lib.hid (v3.out.below b4 v3.out.lt); have C4 := Lib.hid (C3.out.on b4); have HB4 := Lib.hid (below_on HB3.out b4); have f1 := KC4.out.cell 1; have f2 := KC4.out.cell 2; have f3 := KC4.out.cell 3; have f4 := KC4.out.cell 4; have f5 := KC4.out.cell 5; have f6 := KC4.out.cell 6; simp at f1 f2 f3 f4 f5 f6; clear b4)
                  | (refine wpList_putv rfl (.tmp 77) (.tmp 76) rfl g k _ x.v rfl rfl HRW4.out HKV2.out ?_; intro w5 v5 o5; rw [HBACK.out] at v5; have HB5 := Lib.hid (HB4.out.trans (o5.below HGW.out HB4.out.size)); have KC5 := Lib.hid (o5.blk KC4.out HGC.out); have C5 := Lib.hid (C4.out.only o5 HGO.out); replace v5 := Lib.hid v5; clear o5; have oc := C5.out.1.cell k HKO.out; have of := C5.out.1.frozen k; rw [HOG.out] at oc; have h1 := KC5.out.cell 1; have h2 := KC5.out.cell 2; have h3 := KC5.out.cell 3; have h4 := KC5.out.cell 4; have h5 := KC5.out.cell 5; have h6 := KC5.out.cell 6; simp at h1 h2 h3 h4 h5 h6))
                obtain ⟨w6, hw6⟩ : ∃ w6, w6 = w5.setCell ⟨wb.heap.size, k, none⟩ (.int .i64 Q) := ⟨_, rfl⟩
                have C6 : Hid (Kept3 w6 v w.heap.size wb.heap.size (outs l v m0 (k + 1)) (restV l v m0 k)) := by
                  rw [hw6, ← HOS.out]
                  exact ⟨C5.out.1.put k Q, C5.out.2.far (by simp) _, C5.out.3.far (by have := hwr0; simp; omega) _⟩
                have K6 : Hid (Blk w6 wr.heap.size 50 x.cells) := by
                  rw [hw6]
                  exact KC5.out.far (by simp; omega) _
                have V6 : Hid (VRow w6 g (vecs l)) := by
                  rw [hw6]
                  exact Blk.far v5.out (by have := HGO.out.1; simp; omega) _
                have B6 : Hid (Below w.heap.size w w6) := by
                  rw [hw6]
                  exact HB5.out.setCell (by simp; omega) _
                have i1 := K6.out.cell 1
                have i2 := K6.out.cell 2
                have i3 := K6.out.cell 3
                have i4 := K6.out.cell 4
                have i5 := K6.out.cell 5
                have i6 := K6.out.cell 6
                simp at i1 i2 i3 i4 i5 i6
                have oq := C6.out.1.cell k (by rw [outs_len]; exact hlt)
                have hoq : (outs l v m0 (k + 1)).getD k 0 = Q := by
                  rw [← HOS.out]
                  have h1 := HKO.out
                  simp [List.getD_eq_getElem?_getD, h1]
                rw [hoq] at oq
                have HADD := Lib.hid (add_any w6.drew (wb.heap.size + 1) (restV l v m0 k) x.v (-Q) C6.out.2 (by omega) hxok HRB.out)
                rw [← HRS.out] at HADD
                have wq : IntKind.i64.wrap (-Q) = -Q := IntWalk.i64_in _ ⟨by omega, by omega⟩
                rw [← hw6]
                clear hw6 hoq hNb
                go_region_with (go_at_call 19; refine HADD.out.mono ?_; rintro e w7 ⟨rfl, o7, k7⟩; replace o7 := Lib.hid o7; replace k7 := Lib.hid k7)
                all_goals
                  go_wp2_with fail
                  go_roundw
                  case rel =>
                    refine ⟨k + 1, by omega, by go_num, ?_, ⟨B6.out.drew.trans (o7.out.below (by omega) B6.out.size), o7.out.blk C6.out.3 (by omega), o7.out.blk V6.out (fun e => HGO.out.2.1 e.symm), o7.out.blk C6.out.1 (by omega), k7.out⟩⟩
                    rw [HNS.out]
                    congr 1
                    all_goals (by_cases h : R = 0 <;> simp [h])
                  case measure => simp [intOf]; omega
            · obtain rfl : k = l.length := by omega
              have hwne : cW l m0 ≠ 0 := by rw [← HDW.out]; exact HDN.out
              have hvalid : ValidL l ∧ v.ok = true := ⟨HLV.out, HVO.out⟩
              have HCB := Lib.hid HC.out.below
              have HCR := Lib.hid HC.out.rest
              have HCO := Lib.hid HC.out.out
              clear HC
              by_cases hex : ∃ cs, MakesV l cs v
              · obtain ⟨cs, hcs⟩ := hex
                obtain ⟨hk, hvv⟩ := cnt_makes hvalid hcs
                rw [makes_none hcs hwne]
                rw [makes_rest hcs hwne] at HCR
                rw [outs_full, makes_qs hcs hwne] at HCO
                have hcl := hcs.1
                have HCD := Lib.hid HCO.out.rd
                have HACC := Lib.hid (account_any wr A (some ⟨wb.heap.size, 0, none⟩) c l.length l cs (HR.out.up HCB.out) HS.out (by omega) HCD.out (by omega))
                have hacc : accB l cs = inRange cs := by
                  unfold accB
                  rw [validB_true HLV.out, decide_eq_true hcl]
                  simp
                rw [hacc] at HACC
                rw [hcl] at HACC
                have t0 := HCR.out.cell 0
                have t1 := HCR.out.cell 1
                have t2 := HCR.out.cell 2
                have t3 := HCR.out.cell 3
                have t4 := HCR.out.cell 4
                have t5 := HCR.out.cell 5
                simp [zeroV] at t0 t1 t2 t3 t4 t5
                have hne : ∀ w, (binOp .neq 25 (.agg #[.int .i64 0, .int .i64 0, .int .i64 0, .int .i64 0, .int .i64 0, .int .i64 0]) (.agg #[.int .i64 0, .int .i64 0, .int .i64 0, .int .i64 0, .int .i64 0, .int .i64 0])).run Tryd.prog w = .ok (.bool false) w := fun w => by
                  have h0 := neq_vec zeroV zeroV w
                  have h1 : decide (zeroV = zeroV) = true := decide_eq_true rfl
                  rw [h1] at h0
                  exact h0
                rcases hin : inRange cs with _ | _
                · rw [hin] at HACC hk hvv
                  have HK9 := Lib.hid hk
                  have HV9 := Lib.hid hvv
                  clear hk hvv hin hcs hvalid hwne hacc
                  go_wp2_with (go_at_call 18; refine HACC.out.mono ?_; rintro e w9 ⟨rfl, b9⟩; replace b9 := Lib.hid b9)
                  go_ret2
                  unfold CntEnds
                  rw [HK9.out, HV9.out]
                  exact ⟨below_on HCB.out b9.out, none, 0, rfl, RdI.nil _ _ _, Nat.le_refl _⟩
                · rw [hin] at HACC hk hvv
                  have HK9 := Lib.hid hk
                  have HV9 := Lib.hid hvv
                  have HCL := Lib.hid hcl
                  clear hk hvv hin hcs hvalid hwne hacc hcl
                  go_wp2_with (go_at_call 18; refine HACC.out.mono ?_; rintro e w9 ⟨rfl, b9⟩; replace b9 := Lib.hid b9)
                  go_ret2
                  unfold CntEnds
                  rw [HK9.out, HV9.out]
                  exact ⟨below_on HCB.out b9.out, some ⟨wb.heap.size, 0, none⟩, l.length, by simp only [reduceIte, HCL.out]; rfl, HCD.out.up b9.out, by simp only [reduceIte]; have := HCL.out; omega⟩
              · obtain ⟨hk, hvv⟩ := cnt_none hvalid hex
                have HK9 := Lib.hid hk
                have HV9 := Lib.hid hvv
                have hrest : nones l v m0 l.length = false → restV l v m0 l.length ≠ zeroV := fun _ e => hex ⟨_, rest_makes e⟩
                rcases hnn : nones l v m0 l.length with _ | _
                · have hne : ∀ w, _ := fun w => neq_vec (restV l v m0 l.length) zeroV w
                  have hde : decide (restV l v m0 l.length = zeroV) = false := decide_eq_false (hrest hnn)
                  simp only [hde, Bool.not_false] at hne
                  change ∀ w, (binOp .neq 25 _ (.agg #[.int .i64 0, .int .i64 0, .int .i64 0, .int .i64 0, .int .i64 0, .int .i64 0])).run Tryd.prog w = _ at hne
                  generalize restV l v m0 l.length = T at *
                  have t0 := HCR.out.cell 0
                  have t1 := HCR.out.cell 1
                  have t2 := HCR.out.cell 2
                  have t3 := HCR.out.cell 3
                  have t4 := HCR.out.cell 4
                  have t5 := HCR.out.cell 5
                  simp at t0 t1 t2 t3 t4 t5
                  clear hk hvv hvalid hwne hrest hnn hex hde
                  go_wp2_with fail
                  go_ret2
                  unfold CntEnds
                  rw [HK9.out, HV9.out]
                  exact ⟨HCB.out, none, 0, rfl, RdI.nil _ _ _, Nat.le_refl _⟩
                · clear hk hvv hvalid hwne hrest hnn hex
                  go_wp2_with fail
                  go_ret2
                  unfold CntEnds
                  rw [HK9.out, HV9.out]
                  exact ⟨HCB.out, none, 0, rfl, RdI.nil _ _ _, Nat.le_refl _⟩

theorem counts_any (w : World) (A : Option Addr) (c : Nat) (l : List Cm) (v : Vc) (hr : RdN w w.heap.size A l) (hs : ∀ x ∈ l, x.nm.length ≤ 9223372036854775807) (hll : l.length ≤ 9223372036854775807) :
    Calls Tryd.prog 10 #[.slice A l.length c, .agg #[.int .i64 v.a, .int .i64 v.b, .int .i64 v.c, .int .i64 v.d, .int .i64 v.e, .int .i64 v.f]] w (CntEnds w l v) := by
  by_cases h : ValidL l ∧ v.ok = true
  · exact counts_good w A c l v hr hs h.1 h.2
  · exact counts_bad w A c l v hr hs hll h

end Go.Proofs.YtipaapplingbnaaDoor
