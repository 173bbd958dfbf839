/- A part of the proof: nothing is stated here for its own sake. -/
import Derived.Test.YtbploiccompocaaGreatDoorPiE
import Derived.Lib.Overlaps
import Derived.Maps.RangeRun
section
namespace Go.Proofs.YtbploiccompocaaGreatDoor
open Go Go.X Go.Proofs
set_option linter.unusedVariables false
theorem zeroTree1:(∀ v∈(Builtin.zeroCells (Value.agg #[.int .i64 0,.string ⟨#[]⟩,.slice none 0 0,.slice none 0 0]).cells 1).toList,v.oneCell'=true)∧(Builtin.zeroCells (Value.agg #[.int .i64 0,.string ⟨#[]⟩,.slice none 0 0,.slice none 0 0]).cells 1).toList.length=1*4:=by decide +kernel
theorem zeroStr1:(∀ v∈(Builtin.zeroCells (Value.string ⟨#[]⟩).cells 1).toList,v.oneCell'=true)∧(Builtin.zeroCells (Value.string ⟨#[]⟩).cells 1).toList.length=1*1:=by decide +kernel
theorem Delete_tree {h:Heap} {s:Sl} {b:Nat} {cs:Array Value} (ha:s.a=some ⟨b,0,none⟩) (hb:Blk h b cs) (hc:s.cap*4≤cs.size) (hl:s.len≤s.cap) (h1:∀ u∈cut cs 0 (s.len*4),u.oneCell'=true) {k:Nat} (hk:k < s.len) (hbig:s.len≤140737488355328) {K:Value→Heap→Prop}
  (hK:∀ (h':Heap) (cs':Array Value),Blk h' b cs'→cs'.size=cs.size→h'.size=h.size→(∀ j,j≠b→h'[j]?=h[j]?)→cut cs' 0 ((s.len - 1)*4)=(cut cs 0 (s.len*4)).take (k*4)++(cut cs 0 (s.len*4)).drop ((k+1)*4)→K (.slice s.a (s.len - 1) s.cap) h'):
  XC Tryz.prog 135 #[slV s,.int .i64 (k:Int),.int .i64 ((k+1:Nat):Int)] h K:=by
 apply sh_slices_Delete_api_Value_api_Value s (k:Int) ((k+1:Nat):Int)
 refine⟨.inr ⟨_,rfl⟩,⟨by omega,by omega,by omega,by omega⟩,fun hx=>?_,fun _=>⟨.inl rfl,⟨by omega,by omega,by omega,by omega⟩,.inl rfl,⟨by omega,by omega,by omega,by omega⟩,?_⟩⟩
 ·simp at hx;omega
 ·simp only [Int.toNat_natCast,Int.toNat_zero,Nat.sub_zero,resl_zero]
  refine del_in elemTree ha hb hc hl h1 hk fun h2 b2 z2 f2=>⟨⟨s.a,s.len - 1,s.cap⟩,rfl,.inr ⟨_,rfl⟩,⟨by simp only;omega,by simp only;omega,by simp only;omega,by simp only;omega⟩,?_⟩
  simp only [Int.toNat_natCast]
  have m1:s.len*4≤s.cap*4:=Nat.mul_le_mul_right _ hl
  have hsz:(upd cs (k*4) (cut cs ((k+1)*4) ((s.len - (k+1))*4))).size=cs.size:=upd_size (by rw [cut_len (by omega)];omega)
  have e:s.len=s.len - 1+1:=by omega
  rw [show s.len - (s.len - 1)=s.len - 1+1 - (s.len - 1) by omega]
  refine clear_in elemTree zeroTree1.1 zeroTree1.2 ha b2 (by rw [hsz];exact hc) (by omega) fun h3 c3 b3 s3 q3 z3 f3=>⟨rfl,?_⟩
  exact hK h3 c3 b3 (by rw [s3,hsz]) (by omega) (fun j hj=>(f3 j hj).trans (f2 j hj)) (del_cells (by omega) hk q3)
theorem Delete_str {h:Heap} {s:Sl} {b:Nat} {cs:Array Value} (ha:s.a=some ⟨b,0,none⟩) (hb:Blk h b cs) (hc:s.cap*1≤cs.size) (hl:s.len≤s.cap) (h1:∀ u∈cut cs 0 (s.len*1),u.oneCell'=true) {k:Nat} (hk:k < s.len) (hbig:s.len≤140737488355328) {K:Value→Heap→Prop}
  (hK:∀ (h':Heap) (cs':Array Value),Blk h' b cs'→cs'.size=cs.size→h'.size=h.size→(∀ j,j≠b→h'[j]?=h[j]?)→cut cs' 0 ((s.len - 1)*1)=(cut cs 0 (s.len*1)).take (k*1)++(cut cs 0 (s.len*1)).drop ((k+1)*1)→K (.slice s.a (s.len - 1) s.cap) h'):
  XC Tryz.prog 136 #[slV s,.int .i64 (k:Int),.int .i64 ((k+1:Nat):Int)] h K:=by
 apply sh_slices_Delete_string_string s (k:Int) ((k+1:Nat):Int)
 refine⟨.inr ⟨_,rfl⟩,⟨by omega,by omega,by omega,by omega⟩,fun hx=>?_,fun _=>⟨.inl rfl,⟨by omega,by omega,by omega,by omega⟩,.inl rfl,⟨by omega,by omega,by omega,by omega⟩,?_⟩⟩
 ·simp at hx;omega
 ·simp only [Int.toNat_natCast,Int.toNat_zero,Nat.sub_zero,resl_zero]
  refine del_in elemStr ha hb hc hl h1 hk fun h2 b2 z2 f2=>⟨⟨s.a,s.len - 1,s.cap⟩,rfl,.inr ⟨_,rfl⟩,⟨by simp only;omega,by simp only;omega,by simp only;omega,by simp only;omega⟩,?_⟩
  simp only [Int.toNat_natCast]
  have m1:s.len*1≤s.cap*1:=Nat.mul_le_mul_right _ hl
  have hsz:(upd cs (k*1) (cut cs ((k+1)*1) ((s.len - (k+1))*1))).size=cs.size:=upd_size (by rw [cut_len (by omega)];omega)
  rw [show s.len - (s.len - 1)=s.len - 1+1 - (s.len - 1) by omega]
  refine clear_in elemStr zeroStr1.1 zeroStr1.2 ha b2 (by rw [hsz];exact hc) (by omega) fun h3 c3 b3 s3 q3 z3 f3=>⟨rfl,?_⟩
  exact hK h3 c3 b3 (by rw [s3,hsz]) (by omega) (fun j hj=>(f3 j hj).trans (f2 j hj)) (del_cells (by omega) hk q3)
theorem resl_lt {a:Option Addr} {b k c:Nat} (ha:a=some ⟨b,0,none⟩) (h:k < c):resl a 4 k c=some ⟨b,k*4,none⟩:=by
 unfold resl
 rw [if_neg (by omega),ha];simp [add_none]
theorem ins3_get {P vs X:List Value} {k q:Nat} (hP:P.length=k*4) (hv:vs.length=4):(P++vs++X)[q]?=if q < k*4 then P[q]? else if q < (k+1)*4 then vs[q - k*4]? else X[q - (k+1)*4]?:=by
 split
 ·rw [List.append_assoc,List.getElem?_append_left (by omega)]
 ·split
  ·rw [List.append_assoc,List.getElem?_append_right (by omega),hP,List.getElem?_append_left (by omega)]
  ·rw [List.getElem?_append_right (by rw [List.length_append];omega),List.length_append,hP,hv]
   congr 1;omega
theorem ins_cells1 {c2:Array Value} {k m:Nat} {vs X:List Value} (hv:vs.length=4) (hl:(k+1)*4+X.length≤c2.size) (hm:m=(k+1)*4+X.length):cut (upd (upd c2 ((k+1)*4) X) (k*4) vs) 0 m=cut c2 0 (k*4)++vs++X:=by
 subst hm
 have hs:=upd_size hl
 have hP:(cut c2 0 (k*4)).length=k*4:=cut_len (by omega)
 apply List.ext_getElem?
 intro q
 rw [cutAt_get,ins3_get hP hv]
 split
 ·rw [Nat.zero_add,upd_get (by rw [hs,hv];omega),hv]
  split
  ·rw [upd_get hl,if_pos (by omega),cutAt_get,if_pos (by assumption),Nat.zero_add]
  ·by_cases h2:q < (k+1)*4
   ·rw [if_pos (by omega),if_pos h2]
   ·rw [if_neg (by omega),if_neg h2,upd_get hl,if_neg (by omega),if_pos (by omega)]
 ·rw [if_neg (by omega),if_neg (by omega),List.getElem?_eq_none (by omega)]
theorem ins_cells2 {c2:Array Value} {k m:Nat} {vs X:List Value} (hv:vs.length=4) (hl:(k+1)*4+X.length≤c2.size) (hm:m=(k+1)*4+X.length):cut (upd (upd c2 (k*4) vs) ((k+1)*4) X) 0 m=cut c2 0 (k*4)++vs++X:=by
 subst hm
 have hl2:k*4+vs.length≤c2.size:=by omega
 have hs:=upd_size hl2
 have hP:(cut c2 0 (k*4)).length=k*4:=cut_len (by omega)
 apply List.ext_getElem?
 intro q
 rw [cutAt_get,ins3_get hP hv]
 split
 ·rw [Nat.zero_add,upd_get (by rw [hs];omega)]
  by_cases h1:q < k*4
  ·rw [if_pos (by omega),if_pos h1,upd_get hl2,if_pos h1,cutAt_get,if_pos h1,Nat.zero_add]
  ·rw [if_neg h1]
   by_cases h2:q < (k+1)*4
   ·rw [if_pos h2,if_pos h2,upd_get hl2,if_neg h1,if_pos (by omega)]
   ·rw [if_neg h2,if_neg h2,if_pos (by omega)]
 ·rw [if_neg (by omega),if_neg (by omega),List.getElem?_eq_none (by omega)]
theorem overlaps_go {h:Heap} {bv b:Nat} {vs cs:Array Value} (hv:Blk h bv vs) (hb:Blk h b cs) (hcs:0 < cs.size) (hne:bv≠b) {o l c:Nat} {K:Value→Heap→Prop} (hK:K (.bool false) h):
  extF Tryz.prog 196 #[.slice (some ⟨bv,0,none⟩) 1 1,.slice (some ⟨b,o,none⟩) l c] h K:=by
 intro B d
 obtain⟨T1,e1⟩:=hv
 obtain⟨T2,e2⟩:=hb
 refine⟨.bool false,d,h,?_,hK⟩
 obtain⟨i,hi,hz,hsz,hby⟩:=elemTree.info
 rw [run_callFunc_extern Tryz.func196 (by kernel_rfl) (by kernel_rfl) (by kernel_rfl) (e:=Extern.SlicesOverlaps.overlaps #[23,23] #[4]) (by kernel_rfl),
  Lib.run_overlaps_apart (mk B d h) 23 4 25 elemTree.slice 4 (fun w=>by simp [Go.sizeOf,typeInfo,hi,hsz]) ⟨bv,0,none⟩ ⟨b,o,none⟩ 1 1 l c hne T1 T2 vs.size cs.size (by
   show(match h[bv]? with
    | some (.cells c elem _)=>some (elem,c.size)
    | _=>none)=_
   rw [e1]) (by
   show(match h[b]? with
    | some (.cells c elem _)=>some (elem,c.size)
    | _=>none)=_
   rw [e2]) (by omega) (by
   show(match h[bv]? with
    | some (.cells _ _ (lo,hi))=>decide (lo≤0) && decide (0 < hi)
    | _=>false)=_
   rw [e1];simp) (by
   show(match h[bv]? with
    | some (.cells _ _ (lo,hi))=>decide (lo≤vs.size) && decide (vs.size < hi)
    | _=>false)=_
   rw [e1];simp)]
 rfl
set_option maxHeartbeats 1000000 in
theorem Insert_go {h : Heap} {s : Sl} {b : Nat} {cs : Array Value} (H : RowO h s b cs 4) (h1 : ∀ u ∈ cut cs 0 (s.len * 4), u.oneCell' = true) {bv : Nat} {vs : List Value} (hv : Blk h bv vs.toArray) (hvl : vs.length = 4) (h1v : ∀ u ∈ vs, u.oneCell' = true) (hne : bv ≠ b) (hbig : (s.len + 1) * 72 ≤ 140737488355328) {k : Nat} (hk : k ≤ s.len) {K : Value → Heap → Prop}
    (hK : ∀ (s' : Sl) (h' : Heap) (b' : Nat) (cs' : Array Value), RowN h h' s' b b' cs' 4 (s.len + 1) ((cut cs 0 (s.len * 4)).take (k * 4) ++ vs ++ (cut cs 0 (s.len * 4)).drop (k * 4)) → K (slV s') h') :
    XC Tryz.prog 164 #[slV s, .int .i64 (k : Int), .slice (some ⟨bv, 0, none⟩) 1 1] h K := by
  have hle := H.le
  apply sh_slices_Insert_api_Value_api_Value s (k : Int) ⟨some ⟨bv, 0, none⟩, 1, 1⟩
  simp only
  have w1 : IntKind.wrap .i64 (((s.len : Nat) : Int) + ((1 : Nat) : Int)) = ((s.len + 1 : Nat) : Int) := wsucc (n := s.len + 1) (by omega) (by omega)
  have w2 : IntKind.wrap .i64 ((k : Int) + ((1 : Nat) : Int)) = ((k + 1 : Nat) : Int) := wsucc (n := k + 1) (by omega) (by omega)
  refine ⟨.inl trivial, ⟨by omega, by omega, by omega, by omega⟩, fun hx => by simp at hx, fun _ => ⟨fun hx => ?_, fun hx => ?_⟩⟩
  · have hk' : k = s.len := by simp at hx; omega
    subst hk'
    refine app_one elemTree H hv hvl h1v (by omega) (by omega) fun s' h' b' cs' N => ⟨s', rfl, ?_⟩
    refine hK s' h' b' cs' ?_
    have hcl : (cut cs 0 (s.len * 4)).length ≤ s.len * 4 := by unfold cut; simp; omega
    rw [List.take_of_length_le hcl, List.drop_eq_nil_of_le hcl, List.append_nil]
    exact N
  · have hk' : k < s.len := by have : k ≠ s.len := by simp at hx; omega
                               omega
    rcases H.at_ with ⟨h0, _⟩ | ⟨ha, hb, hc⟩
    · omega
    have hcl : (cut cs 0 (s.len * 4)).length = s.len * 4 := cut_len (by omega)
    have t1 : (cut cs 0 (s.len * 4)).take (k * 4) = cut cs 0 (k * 4) := by
      unfold cut; rw [List.drop_zero, List.take_take, Nat.min_eq_left (by omega)]
    have t2 : (cut cs 0 (s.len * 4)).drop (k * 4) = cut cs (k * 4) ((s.len - k) * 4) := by
      unfold cut; rw [List.drop_zero, List.drop_take]; congr 1; omega
    rw [w1, w2]
    have one2 : ∀ u ∈ cut cs (k * 4) ((s.len - k) * 4), u.oneCell' = true := fun u hu => h1 u (List.mem_of_mem_drop (t2 ▸ hu))
    refine ⟨fun hg => ?_, fun hg => ?_⟩
    · have hg' : s.cap < s.len + 1 := by simp at hg; omega
      simp only [Int.toNat_natCast, Int.toNat_zero, Nat.sub_zero, resl_zero]
      have w3 : IntKind.wrap .i64 (((s.len + 1 : Nat) : Int) - (k : Int)) = ((s.len + 1 - k : Nat) : Int) := by rw [w64 (by omega)]; omega
      rw [w3]
      refine ⟨.inr ⟨_, rfl⟩, ⟨by omega, by omega, by omega, by omega⟩, ?_⟩
      intro B d
      obtain ⟨i, hi, hz, hsz, hby⟩ := elemTree.info
      have holds : (Builtin.firstCells i.size k (.slice s.a k s.cap)).run Tryz.prog (mk B d h).drew = .ok (cut cs 0 (k * 4)).toArray (mk B d h).drew := by
        rw [hsz]
        exact first_run (s := ⟨s.a, k, s.cap⟩) (n := h.size) (by rw [ha]; exact arr_cut hb) (cut_len (by simp only; omega)) (by omega) B (d + 1)
      have hr := Lib.run_append_grow_zeros (P := Tryz.prog) (mk B d h) 23 3 23 25 i _ .i64 .i64 elemTree.slice (by kernel_rfl) hi hz s.a k s.cap (cut cs 0 (k * 4)) holds (s.len + 1 - k) (by omega) (by rw [hsz]; omega) (by omega) (by omega) (by rw [hby]; omega) (by rw [hby]; exact growslice_fits (by omega) (by omega))
      have hge := grownCap_ge (mk B d h) (k + (s.len + 1 - k)) s.cap 25
      generalize grownCap (mk B d h) (k + (s.len + 1 - k)) s.cap 25 = c at *
      rw [show k + (s.len + 1 - k) = s.len + 1 by omega] at hr hge
      refine ⟨_, d + 1, _, hr, ⟨some ⟨h.size, 0, none⟩, s.len + 1, c⟩, rfl, .inl trivial, ⟨by omega, by simp only; omega, by simp only; omega, by simp only; omega⟩, ?_⟩
      simp only
      generalize hbk : (cut cs 0 (k * 4)).toArray ++ Builtin.zeroCells (Value.agg #[.int .i64 0, .string ⟨#[]⟩, .slice none 0 0, .slice none 0 0]).cells (s.len + 1 - k) ++ Builtin.zeroCells (Value.agg #[.int .i64 0, .string ⟨#[]⟩, .slice none 0 0, .slice none 0 0]).cells (c - (s.len + 1)) = blk
      have hcz : ∀ m, (Builtin.zeroCells (Value.agg #[.int .i64 0, .string ⟨#[]⟩, .slice none 0 0, .slice none 0 0]).cells m).size = m * 4 := fun m => by rw [size_zeroCells, elemTree.zero]
      have hP : (cut cs 0 (k * 4)).length = k * 4 := cut_len (by omega)
      have hbs : blk.size = c * 4 := by
        rw [← hbk, Array.size_append, Array.size_append, hcz, hcz]; simp only [List.size_toArray, hP]; omega
      have hb0 : cut blk 0 (k * 4) = cut cs 0 (k * 4) := by
        rw [← hbk]
        unfold cut
        rw [List.drop_zero, Array.toList_append, Array.toList_append, List.append_assoc]
        rw [show ((List.take (k * 4) (List.drop 0 cs.toList)).toArray).toList = cut cs 0 (k * 4) from rfl, List.take_append, List.take_of_length_le (by omega), hP, Nat.sub_self, List.take_zero, List.append_nil]; rfl
      have bN : Blk (h.push (.cells blk 25)) h.size blk := Blk.new _ _ _
      have kN : Keep h.size h (h.push (.cells blk 25)) := Keep.push _ _ (Nat.le_refl _)
      show XRun Tryz.prog _ (h.push (.cells blk 25)) _
      have sN : (h.push (.cells blk 25)).size = h.size + 1 := Array.size_push _
      generalize h.push (.cells blk 25) = hN at *
      rw [resl_lt (a := some ⟨h.size, 0, none⟩) rfl (show k < c by omega), resl_lt (a := some ⟨h.size, 0, none⟩) rfl (show k + 1 < c by omega), resl_lt ha (show k < s.cap by omega)]
      have hvN := hv.ofKeep kN
      have cv : cut vs.toArray 0 (1 * 4) = vs := by unfold cut; rw [List.drop_zero]; exact List.take_of_length_le (by simp [hvl])
      refine copy_in elemTree bN hvN (m := 1) (by show _ = min _ _; omega) (by simp [hvl]) (by omega) (by rw [cv]; exact h1v) fun h8 b8 z8 f8 => ⟨1, rfl, .inl trivial, ⟨by omega, by omega, by omega, by omega⟩, .inl trivial, ⟨by omega, by omega, by omega, by omega⟩, ?_⟩
      rw [cv] at b8
      have hblt := hb.lt
      have hb8 : Blk h8 b cs := (hb.ofKeep kN).keep (f8 b (by omega))
      have s8 : (upd blk (k * 4) vs).size = blk.size := upd_size (by omega)
      have hX : (cut cs (k * 4) ((s.len - k) * 4)).length = (s.len - k) * 4 := cut_len (by omega)
      refine copy_in elemTree b8 hb8 (m := s.len - k) (by show _ = min _ _; omega) (by omega) (by rw [s8]; omega) one2 fun h11 b11 z11 f11 => ⟨((s.len - k : Nat) : Int), rfl, ?_⟩
      refine hK ⟨some ⟨h.size, 0, none⟩, s.len + 1, c⟩ h11 h.size _ ⟨rfl, rfl, hge, b11, by rw [upd_size (by rw [s8, hX]; omega), s8, hbs]; exact Nat.le_refl _, ?_, .inr (Nat.le_refl _), by omega, fun j hj hne => by rw [f11 j hne, f8 j hne]; exact kN.get j hj⟩
      rw [t1, t2, ins_cells2 hvl (by rw [hX]; omega) (by rw [hX]; omega), hb0]
    · have hg' : s.len + 1 ≤ s.cap := by simp at hg; omega
      simp only [Int.toNat_natCast, Int.toNat_zero, Nat.sub_zero, resl_zero, Int.cast_ofNat_Int, Int.sub_zero]
      rw [resl_lt ha (show k < s.cap by omega), resl_lt ha (show k + 1 < s.cap by omega)]
      refine ⟨.inr ⟨_, rfl⟩, ⟨by omega, by omega, by omega, by omega⟩, .inl trivial, ⟨by omega, by omega, by omega, by omega⟩, ?_⟩
      refine overlaps_go hv hb (by omega) hne ⟨false, rfl, fun _ => ⟨.inl trivial, ⟨by omega, by omega, by omega, by omega⟩, .inl trivial, ⟨by omega, by omega, by omega, by omega⟩, ?_⟩, fun hx => by cases hx⟩
      have hX : (cut cs (k * 4) ((s.len - k) * 4)).length = (s.len - k) * 4 := cut_len (by omega)
      refine copy_in elemTree hb hb (m := s.len - k) (by show _ = min _ _; omega) (by omega) (by omega) one2 fun h8 b8 z8 f8 => ⟨((s.len - k : Nat) : Int), rfl, .inl trivial, ⟨by omega, by omega, by omega, by omega⟩, ?_⟩
      have s8 : (upd cs ((k + 1) * 4) (cut cs (k * 4) ((s.len - k) * 4))).size = cs.size := upd_size (by rw [hX]; omega)
      have hv8 : Blk h8 bv vs.toArray := hv.keep (f8 bv hne)
      have cv : cut vs.toArray 0 (1 * 4) = vs := by unfold cut; rw [List.drop_zero]; exact List.take_of_length_le (by simp [hvl])
      refine copy_in elemTree b8 hv8 (m := 1) (by show _ = min _ _; omega) (by simp [hvl]) (by rw [s8]; omega) (by rw [cv]; exact h1v) fun h11 b11 z11 f11 => ⟨1, rfl, ?_⟩
      rw [cv] at b11
      refine hK ⟨s.a, s.len + 1, s.cap⟩ h11 b _ ⟨ha, rfl, hg', b11, by rw [upd_size (by rw [s8]; omega), s8]; exact hc, ?_, .inl rfl, by omega, fun j hj hne => (f11 j hne).trans (f8 j hne)⟩
      rw [t1, t2, ins_cells1 hvl (by rw [hX]; omega) (by rw [hX]; omega)]
end Go.Proofs.YtbploiccompocaaGreatDoor
end
section
namespace Go.Proofs.YtbploiccompocaaGreatDoor
open Go Go.X Go.Proofs
set_option linter.unusedVariables false
structure PlcP (h:Heap) (D:List Nat) (rb:Nat) (p:Addr) (x:Tr) (T:Tr→Tr) (pb o:Nat) (cs0:Array Value) (sk si:Sl) (bk bb:List Nat) (b:Nat) (cs:Array Value) (bf:Nat→List Nat):Prop where
 ad:p=⟨pb,o,none⟩
 blk:Blk h pb cs0
 fit:o+4≤cs0.size
 cell:cut cs0 o 4=ocells x sk si
 tr:OTp h x sk si bk bb b cs bf
 pin:pb=rb∨pb∈D
 nk:pb∉bk
 nb:pb∉bb
 nf:∀ i,i < x.items.length→pb∉bf i
 ik:∀ c∈bk,c∈D
 ib:∀ c∈bb,c∈D
 jf:∀ i,i < x.items.length→∀ c∈bf i,c∈D
 rn:rb∉D
 lt:∀ c∈D,c < h.size
 put:∀ (h':Heap) (x':Tr) (cells':List Value) (b':List Nat),(∀ c,c≠pb→c∉bk→c∉bb→(∀ i,i < x.items.length→c∉bf i)→(c=rb∨c∈D)→h'[c]?=h[c]?)→Blk h' pb (upd cs0 o cells')→OT h' x' b' cells'→(∀ c∈b',(c∈bk∨c∈bb∨∃ i,i < x.items.length∧c∈bf i)∨(c≠rb∧c∉D)) →
   ∃ D',Doc h' rb (T x') D'∧∀ c∈D',c∈D∨c∈b'
theorem Plc.parts {h:Heap} {D:List Nat} {rb:Nat} {p:Addr} {x:Tr} {T:Tr→Tr} (H:Plc h D rb p x T):∃ pb o cs0 sk si bk bb b cs bf,PlcP h D rb p x T pb o cs0 sk si bk bb b cs bf:=by
 obtain⟨pb,o,cs0,bx,rfl,hb,ho,ot,hbx,hbase,hbxb,hno,hlt,hcl⟩:=H
 obtain⟨sk,si,bk,bb,b,cs,bf,e,P,rfl⟩:=ot.p
 refine⟨pb,o,cs0,sk,si,bk,bb,b,cs,bf,rfl,hb,ho,e,P,hbase,fun hm=>hbx (mem_parts.2 (.inl hm)),fun hm=>hbx (mem_parts.2 (.inr (.inl hm))),fun i hi hm=>hbx (mem_parts.2 (.inr (.inr ⟨i,hi,hm⟩))),fun c hc=>hbxb c (mem_parts.2 (.inl hc)),fun c hc=>hbxb c (mem_parts.2 (.inr (.inl hc))),fun i hi c hc=>hbxb c (mem_parts.2 (.inr (.inr ⟨i,hi,hc⟩))),hno,hlt,fun h' x' cells' b' hf hb' ho' hfr=>?_⟩
 exact hcl h' x' cells' b' (fun c h1 h2 h3=>hf c h1 (fun hm=>h2 (mem_parts.2 (.inl hm))) (fun hm=>h2 (mem_parts.2 (.inr (.inl hm)))) (fun i hi hm=>h2 (mem_parts.2 (.inr (.inr ⟨i,hi,hm⟩)))) h3) hb' ho' fun c hc=>(hfr c hc).imp mem_parts.2 id
theorem upd_c3 {cs0:Array Value} {o:Nat} (hf:o+4≤cs0.size) {a b c d v:Value} (e:cut cs0 o 4=[a,b,c,d]):upd cs0 (o+3) [v]=upd cs0 o [a,b,c,v]:=by
 apply Array.ext'
 apply List.ext_getElem?
 intro q
 rw [upd_get (by simp;omega),upd_get (by simp;omega)]
 simp only [List.length_cons,List.length_nil]
 have hq:∀ j,j < 4→cs0.toList[o+j]?=[a,b,c,d][j]?:=fun j hj=>by rw [← e,cutAt_get,if_pos hj]
 by_cases h1:q < o
 ·rw [if_pos (by omega),if_pos h1]
 ·rw [if_neg h1]
  by_cases h2:q < o+3
  ·rw [if_pos h2,if_pos (by omega)]
   have:=hq (q - o) (by omega)
   rw [show o+(q - o)=q by omega] at this
   rw [this]
   rcases(show q - o=0∨q - o=1∨q - o=2 by omega) with e | e | e <;> rw [e] <;> rfl
  ·rw [if_neg h2]
   by_cases h3:q < o+4
   ·rw [if_pos (by omega),if_pos (by omega),show q - (o+3)=0 by omega,show q - o=3 by omega];rfl
   ·rw [if_neg (by omega),if_neg (by omega)]
theorem upd_c2 {cs0:Array Value} {o:Nat} (hf:o+4≤cs0.size) {a b c d v:Value} (e:cut cs0 o 4=[a,b,c,d]):upd cs0 (o+2) [v]=upd cs0 o [a,b,v,d]:=by
 apply Array.ext'
 apply List.ext_getElem?
 intro q
 rw [upd_get (by simp;omega),upd_get (by simp;omega)]
 simp only [List.length_cons,List.length_nil]
 have hq:∀ j,j < 4→cs0.toList[o+j]?=[a,b,c,d][j]?:=fun j hj=>by rw [← e,cutAt_get,if_pos hj]
 by_cases h1:q < o
 ·rw [if_pos (by omega),if_pos h1]
 ·rw [if_neg h1]
  by_cases h2:q < o+2
  ·rw [if_pos h2,if_pos (by omega)]
   have:=hq (q - o) (by omega)
   rw [show o+(q - o)=q by omega] at this
   rw [this]
   rcases(show q - o=0∨q - o=1 by omega) with e | e <;> rw [e] <;> rfl
  ·rw [if_neg h2]
   by_cases h3:q < o+3
   ·rw [if_pos (by omega),if_pos (by omega),show q - (o+2)=0 by omega,show q - o=2 by omega];rfl
   ·rw [if_neg (by omega)]
    by_cases h4:q < o+4
    ·rw [if_pos (by omega),show q=o+3 by omega,hq 3 (by omega),show o+3 - o=3 by omega];rfl
    ·rw [if_neg (by omega)]
theorem OTp.one {h:Heap} {v:Tr} {sk si:Sl} {bk bb:List Nat} {b:Nat} {cs:Array Value} {bf:Nat→List Nat} (H:OTp h v sk si bk bb b cs bf):∀ u∈cut cs 0 (si.len*4),u.oneCell'=true:=by
 intro u hu
 rw [H.hn.1] at hu
 obtain⟨q,hq⟩:=List.getElem?_of_mem hu
 rw [cutAt_get] at hq
 split at hq
 ·rename_i hlt
  have hi:q / 4 < v.items.length:=by omega
  refine(H.hi (q / 4) hi).one u (List.mem_of_getElem? (i:=q % 4) ?_)
  rw [cutAt_get,if_pos (by omega),show q / 4*4+q % 4=0+q by omega];exact hq
 ·cases hq
theorem OTp.row {h:Heap} {v:Tr} {sk si:Sl} {bk bb:List Nat} {b:Nat} {cs:Array Value} {bf:Nat→List Nat} (H:OTp h v sk si bk bb b cs bf) {h':Heap} (k:∀ c∈bb,h'[c]?=h[c]?):RowO h' si b cs 4:=by
 refine⟨by have:=H.hn;omega,?_⟩
 rcases H.hz with⟨h0,_,h2⟩| ⟨hbb,ha,hb,hc⟩
 ·exact .inl ⟨by rw [H.hn.1,h0];rfl,h2⟩
 ·exact .inr ⟨ha,hb.keep (k b (by rw [hbb];simp)),hc⟩
end Go.Proofs.YtbploiccompocaaGreatDoor
end
section
namespace Go.X
open Go Go.Lib
set_option linter.unusedVariables false
theorem decVal_cons (c:UInt8) (t:Bs):decVal (c::t)=(c.toNat - 48)*10 ^ t.length+decVal t:=by
 have:=decVal_append [c] t
 rw [List.singleton_append] at this
 rw [this];simp [decVal]
theorem dig_range {c:UInt8} (h:isDig c=true):48≤c.toNat∧c.toNat≤57:=by simpa [isDig] using h
theorem decVal_inj:∀ (l m:Bs),l.length=m.length→l.all isDig=true→m.all isDig=true→decVal l=decVal m→l=m
 | [],[],_,_,_,_=>rfl
 | [],_::_,h,_,_,_=>by simp at h
 | _::_,[],h,_,_,_=>by simp at h
 | c::t,d::s,h,hl,hm,hv=>by
  rw [List.all_cons,Bool.and_eq_true] at hl hm
  have hlen:t.length=s.length:=by simpa using h
  rw [decVal_cons,decVal_cons,hlen] at hv
  have h1:=decVal_lt t.length t rfl hl.2
  have h2:=decVal_lt s.length s rfl hm.2
  rw [hlen] at h1
  have hc:=dig_range hl.1
  have hd:=dig_range hm.1
  have key:c.toNat - 48=d.toNat - 48:=by
   rcases Nat.lt_trichotomy (c.toNat - 48) (d.toNat - 48) with hlt | heq | hlt
   ·have:(c.toNat - 48+1)*10 ^ s.length≤(d.toNat - 48)*10 ^ s.length:=Nat.mul_le_mul_right _ hlt
    rw [Nat.add_mul,Nat.one_mul] at this;omega
   ·exact heq
   ·have:(d.toNat - 48+1)*10 ^ s.length≤(c.toNat - 48)*10 ^ s.length:=Nat.mul_le_mul_right _ hlt
    rw [Nat.add_mul,Nat.one_mul] at this;omega
  have e1:c=d:=UInt8.toNat_inj.1 (by omega)
  rw [key] at hv
  rw [e1,decVal_inj t s hlen hl.2 hm.2 (by omega)]
theorem decVal_ge {c:UInt8} {t:Bs} (h:isDig c=true) (h0:c≠48):10 ^ t.length≤decVal (c::t):=by
 rw [decVal_cons]
 have hc:=dig_range h
 have:c.toNat≠48:=fun e=>h0 (UInt8.toNat_inj.1 e)
 have:1*10 ^ t.length≤(c.toNat - 48)*10 ^ t.length:=Nat.mul_le_mul_right _ (by omega)
 omega
theorem decVal_len {l m:Bs} (hl:l.all isDig=true) (hm:m.all isDig=true) (h1:¬ (1 < m.length∧m.head?=some 48)) (h0:1≤l.length) (hlt:l.length < m.length):decVal l < decVal m:=by
 match m,hm,h1,hlt with
 | c::t,hm,h1,hlt=>
  rw [List.all_cons,Bool.and_eq_true] at hm
  have hne:c≠48:=fun e=>h1 ⟨by simp at hlt ⊢;omega,by simp [e]⟩
  have a:=decVal_ge (t:=t) hm.1 hne
  have b:=decVal_lt l.length l rfl hl
  have c:10 ^ l.length≤10 ^ t.length:=Nat.pow_le_pow_right (by decide) (by simp at hlt;omega)
  omega
theorem idxP_inj {l m:Bs} (h1:(idxP l).2=true) (h2:(idxP m).2=true) (h:(idxP l).1=(idxP m).1):l=m:=by
 unfold idxP at h1 h2 h
 split at h1
 ·cases h1
 ·rename_i hc1
  rw [if_neg hc1] at h
  split at h1
  ·rename_i hd1
   rw [if_pos hd1] at h
   split at h2
   ·cases h2
   ·rename_i hc2
    rw [if_neg hc2] at h
    split at h2
    ·rename_i hd2
     rw [if_pos hd2] at h
     have hv:decVal l=decVal m:=by simp only at h;omega
     simp only [not_or] at hc1 hc2
     rcases Nat.lt_trichotomy l.length m.length with hlt | heq | hlt
     ·have:=decVal_len hd1 hd2 hc2.2.2 (by omega) hlt;omega
     ·exact decVal_inj l m heq hd1 hd2 hv
     ·have:=decVal_len hd2 hd1 hc1.2.2 (by omega) hlt;omega
    ·cases h2
  ·cases h1
theorem idxOf_get {x:ByteArray} {l:List ByteArray} {k:Nat} (h:idxOfS l x=(k:Int)):l[k]?=some x:=by
 rcases idxOf_ge x l 0 with⟨h1,_⟩| ⟨j,h1,h2,h3⟩
 ·unfold idxOfS at h;rw [h1] at h;omega
 ·unfold idxOfS at h
  rw [h1] at h
  have:j=k:=by simp only [Nat.zero_add] at h;omega
  subst this;exact h3
theorem stepP_inj {v:Tr} {s t:ByteArray} {k:Nat} (h1:stepP v s=(k:Int)) (h2:stepP v t=(k:Int)):s=t:=by
 unfold stepP at h1 h2
 by_cases h6:v.kind=6
 ·rw [if_pos h6] at h1 h2
  have a:=idxOf_get h1
  have b:=idxOf_get h2
  rw [a] at b
  exact Option.some.inj b
 ·rw [if_neg h6] at h1 h2
  by_cases h5:v.kind=5
  ·rw [if_pos h5] at h1 h2
   split at h1
   ·rename_i c1
    split at h2
    ·rename_i c2
     have:=idxP_inj c1.1 c2.1 (h1.trans h2.symm)
     have e:=congrArg bl this
     rw [bl_lb,bl_lb] at e
     exact e
    ·omega
   ·omega
  ·rw [if_neg h5] at h1;omega
end Go.X
end
section
namespace Go.X
open Go Go.Lib
set_option linter.unusedVariables false
def iniP (p:List ByteArray):List ByteArray:=p.take (p.length - 1)
def lstP (p:List ByteArray):ByteArray:=p.getD (p.length - 1) ⟨#[]⟩
theorem ini_snoc (q:List ByteArray) (s:ByteArray):iniP (q++[s])=q∧lstP (q++[s])=s:=by
 unfold iniP lstP
 simp
theorem snoc_ini {p:List ByteArray} (h:p≠[]):p=iniP p++[lstP p]:=by
 rcases List.eq_nil_or_concat p with rfl | ⟨q,s,rfl⟩
 ·exact absurd rfl h
 ·rw [List.concat_eq_append,(ini_snoc q s).1,(ini_snoc q s).2]
theorem lst_get {p:List ByteArray} (h:p.length - 1 < p.length):p[p.length - 1]=lstP p:=by
 unfold lstP;rw [List.getD_eq_getElem?_getD,List.getElem?_eq_getElem h];rfl
def insK (x:Tr) (s:ByteArray):Option Nat:=if lb s=[45] then some x.items.length else if(idxP (lb s)).2=true∧(idxP (lb s)).1≤x.items.length then some (idxP (lb s)).1.toNat else none
def delI (x:Tr) (j:Nat):Tr:=.mk x.kind x.text (if x.kind=6 then x.keys.take j++x.keys.drop (j+1) else x.keys) (x.items.take j++x.items.drop (j+1))
def addI (x:Tr) (s:ByteArray) (w:Tr):Tr:=.mk x.kind x.text (x.keys++[s]) (x.items++[w])
def zeroT (v:Tr):Bool:=decide (v.kind=0∧lb v.text=[]∧v.keys=[]∧v.items=[])
abbrev OpT:=ByteArray×List ByteArray×List ByteArray×Tr
def nmAdd:Bs:=[97,100,100]
def nmRemove:Bs:=[114,101,109,111,118,101]
def nmReplace:Bs:=[114,101,112,108,97,99,101]
def nmMove:Bs:=[109,111,118,101]
def nmCopy:Bs:=[99,111,112,121]
def nmTest:Bs:=[116,101,115,116]
def shapeP (s:Bs):Bool×Bool×Bool:=if s=nmAdd∨s=nmReplace∨s=nmTest then(true,false,true) else if s=nmMove∨s=nmCopy then(false,true,true) else(false,false,decide (s=nmRemove))
def rightO (o:OpT):Bool:=(shapeP (lb o.1)).2.2 && (rightP o.2.1 && (rightP o.2.2.1 && (((shapeP (lb o.1)).2.1 || decide (o.2.2.1=[])) && (bif (shapeP (lb o.1)).1 then rightT o.2.2.2 else zeroT o.2.2.2))))
mutual
def sameT:Tr→Tr→Bool
 | .mk k s ks xs,b=>decide (k=b.kind) && (decide (s=b.text) && (decide (xs.length=b.items.length) && (if k=6 then sameK ks xs b else sameL xs b.items)))
def sameL:List Tr→List Tr→Bool
 | [],[]=>true
 | x::l,y::m=>sameT x y && sameL l m
 | _,_=>false
def sameK:List ByteArray→List Tr→Tr→Bool
 | _,[],_=>true
 | [],_::_,_=>false
 | k::ks,x::xs,b=>(match b.items[(idxOfS b.keys k).toNat]? with
  | some y=>decide (0≤idxOfS b.keys k) && sameT x y
  | none=>false) && sameK ks xs b
end
def addR (v:Tr) (p:List ByteArray) (w:Tr):Option Tr:=if p=[] then some w else match findP v (iniP p) with
 | none=>none
 | some x=>if x.kind=5 then(match insK x (lstP p) with
   | some k=>some (setP v (iniP p) (insI x k w))
   | none=>none)
  else if x.kind≠6 then none else if 0≤stepP x (lstP p) then some (setP v (iniP p) (setI x (stepP x (lstP p)).toNat w)) else some (setP v (iniP p) (addI x (lstP p) w))
def remR (v:Tr) (p:List ByteArray):Tr:=match findP v (iniP p) with
 | none=>v
 | some x=>setP v (iniP p) (delI x (stepP x (lstP p)).toNat)
def orErr:Option Tr→Tr×Int
 | some t=>(t,0)
 | none=>(zT,8)
def doR (v:Tr) (o:OpT):Tr×Int:=
 if lb o.1=nmRemove then(match findP v o.2.1 with
  | none=>(zT,8)
  | some _=>if o.2.1=[] then(zT,1) else(remR v o.2.1,0))
 else if lb o.1=nmReplace then(match findP v o.2.1 with
  | none=>(zT,8)
  | some _=>(setP v o.2.1 o.2.2.2,0))
 else if lb o.1=nmMove then(match findP v o.2.2.1 with
  | none=>(zT,8)
  | some y=>if o.2.2.1=o.2.1.take o.2.2.1.length∧o.2.2.1.length≤o.2.1.length then(if o.2.2.1.length < o.2.1.length then(zT,1) else(v,0)) else orErr (addR (remR v o.2.2.1) o.2.1 y))
 else if lb o.1=nmCopy then(match findP v o.2.2.1 with
  | none=>(zT,8)
  | some y=>orErr (addR v o.2.1 y))
 else if lb o.1=nmTest then(match findP v o.2.1 with
  | none=>(zT,8)
  | some x=>if sameT x o.2.2.2 then(v,0) else(zT,9))
 else orErr (addR v o.2.1 o.2.2.2)
def stepR (v:Tr) (o:OpT):Tr×Int:=if rightO o then(if(doR v o).2=0 then(if rightT (doR v o).1 then((doR v o).1,0) else(zT,1)) else(zT,(doR v o).2)) else(zT,1)
def applyR:Tr→List OpT→Nat→Tr×Int×Int
 | v,[],i=>(v,i,0)
 | v,o::l,i=>if(stepR v o).2=0 then applyR (stepR v o).1 l (i+1) else(zT,i,(stepR v o).2)
def patchR (v:Tr) (l:List OpT):Tr×Int×Int:=if rightT v then applyR v l 0 else(zT,0,1)
theorem findP_item:∀ {p:List ByteArray} {v x:Tr},findP v p=some x→tsz x≤tsz v∧(∀ m,txB m v→txB m x)∧∀ q,allT q v=true→allT q x=true
 | [],v,x,h=>by rw [findP_nil] at h;cases h;exact⟨Nat.le_refl _,fun _ h=>h,fun _ h=>h⟩
 | s::p,v,x,h=>by
  have hl:(stepsP v (s::p)).length=(s::p).length:=by
   unfold findP at h
   split at h
   ·assumption
   ·cases h
  obtain⟨k,hk,e1,_,_⟩:=stepsP_full hl
  rw [findP_yes e1 hk] at h
  obtain⟨h1,h2,h3⟩:=findP_item h
  have hm:v.items[k]∈v.items:=List.getElem_mem hk
  have:=tsz_item hm
  exact⟨by omega,fun m hv=>h2 m (txB_item hv hm),fun q hq=>h3 q (allT_item hq hm)⟩
theorem findP_len {p:List ByteArray} {v x:Tr} (h:findP v p=some x):(stepsP v p).length=p.length:=by
 unfold findP at h
 split at h
 ·assumption
 ·cases h
theorem setP_szx {w:Tr}:∀ {p:List ByteArray} {v x:Tr},findP v p=some x→tsz (setP v p w)+tsz x=tsz v+tsz w
 | [],v,x,h=>by rw [findP_nil] at h;cases h;rw [setP];omega
 | s::p,v,x,h=>by
  obtain⟨k,hk,e1,_,_⟩:=stepsP_full (findP_len h)
  rw [findP_yes e1 hk] at h
  have h1:=setP_szx (w:=w) h
  rw [setP_yes e1 hk]
  have h2:=tszL_set v.items k hk (setP v.items[k] p w)
  rw [tsz_eq,tsz_eq v]
  show 1+tszL (v.items.set _ _)+_=_
  omega
theorem tszL_take_drop (l:List Tr) (k:Nat):tszL (l.take k)+tszL (l.drop k)=tszL l:=by
 rw [← tszL_append,List.take_append_drop]
theorem insI_sz (x:Tr) (k:Nat) (w:Tr):tsz (insI x k w)=tsz x+tsz w:=by
 have:=tszL_take_drop x.items k
 rw [tsz_eq,tsz_eq x]
 show 1+tszL (x.items.take k++w::x.items.drop k)=_
 rw [tszL_append,tszL];omega
theorem addI_sz (x:Tr) (s:ByteArray) (w:Tr):tsz (addI x s w)=tsz x+tsz w:=by
 rw [tsz_eq,tsz_eq x]
 show 1+tszL (x.items++[w])=_
 rw [tszL_append,tszL,tszL];omega
theorem setI_sz (x:Tr) (k:Nat) (w:Tr):tsz (setI x k w)≤tsz x+tsz w:=by
 rw [tsz_eq,tsz_eq x]
 show 1+tszL (x.items.set k w)≤_
 rcases Nat.lt_or_ge k x.items.length with h | h
 ·have:=tszL_set x.items k h w;omega
 ·rw [List.set_eq_of_length_le h];omega
theorem delI_sz (x:Tr) (j:Nat):tsz (delI x j)≤tsz x:=by
 have h1:=tszL_take_drop x.items j
 have h2:tszL (x.items.drop (j+1))≤tszL (x.items.drop j):=by
  rw [show x.items.drop (j+1)=(x.items.drop j).drop 1 by rw [List.drop_drop]]
  cases x.items.drop j with
  | nil=>simp
  | cons y l=>simp [tszL]
 rw [tsz_eq,tsz_eq x]
 show 1+tszL (x.items.take j++x.items.drop (j+1))≤_
 rw [tszL_append];omega
theorem txB_mk {m:Nat} {x:Tr} (h:txB m x) {ks:List ByteArray} {xs:List Tr} (hk:ks.length≤m) (hks:∀ k∈ks,k.size≤m) (hxs:∀ y∈xs,txB m y):txB m (.mk x.kind x.text ks xs):=by
 have:=(txB_eq m x).1 h
 exact(txB_eq m _).2 ⟨⟨this.1.1,hk,hks⟩,txBL_mem.2 hxs⟩
theorem insI_tx {m:Nat} {x w:Tr} (h:txB m x) (hw:txB m w) (k:Nat):txB m (insI x k w):=by
 have h':=(txB_eq m x).1 h
 refine txB_mk h h'.1.2.1 h'.1.2.2 fun y hy=>?_
 rcases List.mem_append.1 hy with hy | hy
 ·exact txB_item h (List.mem_of_mem_take hy)
 ·rcases List.mem_cons.1 hy with rfl | hy
  ·exact hw
  ·exact txB_item h (List.mem_of_mem_drop hy)
theorem setI_tx {m:Nat} {x w:Tr} (h:txB m x) (hw:txB m w) (k:Nat):txB m (setI x k w):=by
 have h':=(txB_eq m x).1 h
 refine txB_mk h h'.1.2.1 h'.1.2.2 fun y hy=>?_
 rcases List.mem_or_eq_of_mem_set hy with hy | rfl
 ·exact txB_item h hy
 ·exact hw
theorem addI_tx {m:Nat} {x w:Tr} {s:ByteArray} (h:txB m x) (hw:txB m w) (hl:x.keys.length+1≤m) (hs:s.size≤m):txB m (addI x s w):=by
 have h':=(txB_eq m x).1 h
 refine txB_mk h (by simpa using hl) (fun k hk=>?_) fun y hy=>?_
 ·rcases List.mem_append.1 hk with hk | hk
  ·exact h'.1.2.2 k hk
  ·simp at hk;subst hk;exact hs
 ·rcases List.mem_append.1 hy with hy | hy
  ·exact txB_item h hy
  ·simp at hy;subst hy;exact hw
theorem delI_tx {m:Nat} {x:Tr} (h:txB m x) (j:Nat):txB m (delI x j):=by
 have h':=(txB_eq m x).1 h
 unfold delI
 refine txB_mk h ?_ (fun k hk=>?_) fun y hy=>?_
 ·have:=h'.1.2.1
  split
  ·simp;omega
  ·exact this
 ·split at hk
  ·rcases List.mem_append.1 hk with hk | hk
   ·exact h'.1.2.2 k (List.mem_of_mem_take hk)
   ·exact h'.1.2.2 k (List.mem_of_mem_drop hk)
  ·exact h'.1.2.2 k hk
 ·rcases List.mem_append.1 hy with hy | hy
  ·exact txB_item h (List.mem_of_mem_take hy)
  ·exact txB_item h (List.mem_of_mem_drop hy)
theorem remR_sz (v:Tr) (p:List ByteArray):tsz (remR v p)≤tsz v:=by
 unfold remR
 split
 ·exact Nat.le_refl _
 ·rename_i x hx
  have h1:=setP_szx (w:=delI x (stepP x (lstP p)).toNat) hx
  have h2:=delI_sz x (stepP x (lstP p)).toNat
  omega
theorem remR_tx {m:Nat} {v:Tr} (h:txB m v) (p:List ByteArray):txB m (remR v p):=by
 unfold remR
 split
 ·exact h
 ·rename_i x hx
  exact setP_tx (delI_tx ((findP_item hx).2.1 m h) _) _ v h
theorem keys_nodeOk {v:Tr} (h:nodeOk v=true) (h6:v.kind=6):v.keys.length=v.items.length:=by
 unfold nodeOk at h
 simp [h6] at h
 exact h.1.2
theorem addR_sz {v w t:Tr} {p:List ByteArray} (h:addR v p w=some t):tsz t≤tsz v+tsz w:=by
 unfold addR at h
 split at h
 ·cases h;omega
 ·split at h
  ·cases h
  ·rename_i x hx
   have hs:=fun y=>setP_szx (w:=y) hx
   split at h
   ·split at h
    ·rename_i k _
     cases h
     have:=hs (insI x k w);rw [insI_sz] at this;omega
    ·cases h
   ·split at h
    ·cases h
    ·split at h
     ·cases h
      have:=hs (setI x (stepP x (lstP p)).toNat w);have:=setI_sz x (stepP x (lstP p)).toNat w;omega
     ·cases h
      have:=hs (addI x (lstP p) w);rw [addI_sz] at this;omega
theorem addR_tx {v w t:Tr} {p:List ByteArray} (h:addR v p w=some t) (hv:txB 1048576 v) (hw:txB 1048576 w) (ho:allT nodeOk v=true) (hs:tsz v≤1000000) (hp:∀ s∈p,s.size≤1048576):txB 1048576 t:=by
 unfold addR at h
 split at h
 ·cases h;exact hw
 ·rename_i hp0
  split at h
  ·cases h
  ·rename_i x hx
   obtain⟨f1,f2,f3⟩:=findP_item hx
   have hx2:=f2 _ hv
   split at h
   ·split at h
    ·rename_i k _
     cases h
     exact setP_tx (insI_tx hx2 hw k) _ v hv
    ·cases h
   ·split at h
    ·cases h
    ·rename_i h6
     split at h
     ·cases h
      exact setP_tx (setI_tx hx2 hw _) _ v hv
     ·cases h
      refine setP_tx (addI_tx hx2 hw ?_ (hp _ ?_)) _ v hv
      ·have:=keys_nodeOk (allT_here (f3 _ ho)) (by omega)
       have h2:=tszL_len x.items
       rw [tsz_eq] at f1
       omega
      ·rw [snoc_ini hp0];simp [(ini_snoc _ _).2]
end Go.X
end
section
namespace Go.Proofs.YtbploiccompocaaGreatDoor
open Go Go.X Go.Proofs
set_option linter.unusedVariables false
theorem ocells_one (x:Tr) (sk si:Sl):∀ u∈ocells x sk si,u.oneCell'=true:=by
 intro u hu
 simp [ocells] at hu
 rcases hu with rfl | rfl | rfl | rfl <;> simp [Value.oneCell',slV]
structure Turn (h h':Heap) (rb:Nat) (D bw D':List Nat):Prop where
 size:h.size≤h'.size
 old:∀ c,c < h.size→c≠rb→c∉D→h'[c]?=h[c]?
 own:∀ c∈D',c∈D∨c∈bw∨h.size≤c
set_option maxHeartbeats 2000000 in
theorem insert_go {gl:Fr} (hg:GL gl) {x w:Tr} {s:ByteArray} (hs:(lb s).length≤1048576) {h:Heap} {M:Fr} {rb:Nat} {D:List Nat} {p:Addr} {T:Tr→Tr} (hM:Fr.le gl M) (ag:AgM M h) (H:Plc h D rb p x T) (hrb:rb < h.size) {bw:List Nat} {wk wi:Sl} (ow:OT h w bw (ocells w wk wi)) (hbw:∀ c∈bw,c≠rb∧c∉D) (hx:x.items.length≤1000000000) {K:Value→Heap→Prop}
  (hno:insK x s=none→∀ h',Keep h.size h h'→K (.int .i64 8) h')
  (hyes:∀ k,insK x s=some k→∀ h' D',Doc h' rb (T (insI x k w)) D'→Turn h h' rb D bw D'→K (.int .i64 0) h'):
  XC Tryz.prog 133 #[.pointer (some p),.string s,.agg #[.int .i64 w.kind,.string w.text,slV wk,slV wi]] h K:=by
 obtain⟨pb,o,cs0,sk,si,bk,bb,b,cs,bf,P⟩:=Plc.parts H
 have hpad:=P.ad
 subst hpad
 have hpb:pb < h.size:=P.blk.lt
 apply sh_patch_insert (some ⟨pb,o,none⟩) s w.kind w.text wk wi
 intro h1
 have z1:h1.size=h.size+1:=Array.size_push _
 have k1:Keep h.size h h1:=Keep.push _ _ (Nat.le_refl _)
 have b1:Blk h1 h.size (ocells w wk wi).toArray:=Blk.new _ _ _
 clear_value h1
 have hi:=Index_pc2 (gl:=gl) hg (l:=lb s) hs (R:=fun r=>r=idxP (lb s)) rfl
 rw [bl_lb] at hi
 refine hi.go (vs:=[.string s]) hM (ag.keep k1) (args1 (rdStr _) args0) fun v h3 M3 r L3 hret hr=>?_
 have hr:r=idxP (lb s):=hr
 subst hr
 have z3:=L3.keep.size
 have k3:Keep h.size h h3:=k1.trans L3.keep (by omega)
 have b3:Blk h3 h.size (ocells w wk wi).toArray:=b1.ofKeep L3.keep
 obtain⟨us,⟨x1,us1,rfl,r1,x2,rfl,r2⟩,rfl⟩:=hret
 rw [rdv1 rfl] at r1 r2
 obtain rfl:x1=.int .i64 (idxP (lb s)).1:=by simpa [Rd] using r1
 obtain rfl:x2=.bool (idxP (lb s)).2:=by simpa [Rd] using r2
 refine⟨(idxP (lb s)).1,(idxP (lb s)).2,rfl,fun K8 hK8=>?_⟩
 have hlen:=P.tr.hn.1
 have hcell:cellH h3 (Addr.add ⟨pb,o,none⟩ 3)=some (slV si):=by
  refine(P.blk.ofKeep k3).cellAdd ?_
  have:(cut cs0 o 4)[3]?=some (slV si):=by rw [P.cell];rfl
  rw [cutAt_get,if_pos (by omega)] at this
  rw [← Array.getElem?_toList];exact this
 have main:∀ k:Nat,insK x s=some k→k≤x.items.length→K8 (k:Int) h3:=by
  intro k hins hk
  refine hK8 (k:Int) h3 ⟨⟨pb,o,none⟩,rfl,si,hcell,w.kind,w.text,wk,wi,b3.ld (cs:=ocells w wk wi),⟨pb,o,none⟩,rfl,?_⟩
  intro h16
  have z16:h16.size=h3.size+1:=Array.size_push _
  have k16:Keep h3.size h3 h16:=Keep.push _ _ (Nat.le_refl _)
  have b16:Blk h16 h3.size (ocells w wk wi).toArray:=Blk.new _ _ _
  refine⟨k16,?_⟩
  clear_value h16
  have kk:Keep h.size h h16:=k3.trans k16 (by omega)
  obtain⟨b0,hrow,hb0⟩:∃ b0,RowO h16 si b0 cs 4∧((b0=b∧b∈bb)∨b0=h16.size):=by
   have hro:=OTp.row P.tr (h':=h16) (fun c hc=>kk.get c (P.lt c (P.ib c hc)))
   rcases P.tr.hz with⟨h0,_,h2⟩| ⟨hbb,_⟩
   ·exact⟨h16.size,⟨hro.le,.inl ⟨by rw [hlen,h0];rfl,h2⟩⟩,.inr rfl⟩
   ·exact⟨b,hro,.inl ⟨rfl,by rw [hbb];simp⟩⟩
  have hb0n:h3.size≠b0:=by
   rcases hb0 with⟨e,hm⟩| e
   ·have:=P.lt b (P.ib b hm);omega
   ·omega
  refine Insert_go hrow (OTp.one P.tr) b16 rfl (ocells_one w wk wi) hb0n (by omega) (by omega) fun s' h18 b' cs' N=>⟨s',rfl,?_⟩
  rw [hlen] at N
  have hb':(b'=b∧b∈bb)∨h16.size≤b':=by
   rcases N.new with e | e
   ·rcases hb0 with⟨e2,hm⟩| e2
    ·exact .inl ⟨by rw [e,e2],hm⟩
    ·exact .inr (by omega)
   ·exact .inr e
  have hne':∀ c,c < h.size→c∉bb→c≠b':=fun c hc hn e=>by
   rcases hb' with⟨e2,hm⟩| e2
   ·exact hn (by rw [e,e2];exact hm)
   ·omega
  have f18:∀ c,c < h.size→c∉bb→h18[c]?=h[c]?:=fun c hc hn=>by
   rw [N.old c (by omega) (hne' c hc hn)];exact kk.get c hc
  have z18:=N.grow
  have hbk:Blk h18 pb cs0:=P.blk.keep (f18 pb hpb P.nb)
  rw [add_none]
  refine storeN (vs:=[slV s']) okVals hbk rfl szVals (by have:=P.fit;show o+3+1≤_;omega) (by simp [Value.oneCell',slV]) fun h20 b20 z20 f20=>?_
  rw [upd_c3 P.fit P.cell] at b20
  have f20':∀ c,c < h.size→c∉bb→c≠pb→h20[c]?=h[c]?:=fun c hc hn hp=>(f20 c hp).trans (f18 c hc hn)
  have hnb:∀ c,c∉D→c∉bb:=fun c hc hm=>hc (P.ib c hm)
  have hbp:∀ c,c≠rb→c∉D→c≠pb:=fun c h1 h2 e=>by
   rcases P.pin with e2 | e2
   ·exact h1 (by rw [e,e2])
   ·exact h2 (by rw [e];exact e2)
  have ow20:OT h20 w bw (ocells w wk wi):=ow.frame fun c hc=>f20' c (ow.lt c hc) (hnb c (hbw c hc).2) (hbp c (hbw c hc).1 (hbw c hc).2)
  have hbfb:∀ i,i < x.items.length→∀ c∈bf i,c∉bb:=fun i hi' c hc hm=>P.tr.d3 c hm i hi' hc
  have hb'D:∀ c,c∈D→c∉bb→c≠b':=fun c hc hn=>hne' c (P.lt c hc) hn
  have blk20:Blk h20 b' cs':=N.blk.keep (f20 b' (by
   rcases hb' with⟨e,hm⟩| e
   ·rw [e];exact fun e2=>P.nb (e2 ▸ hm)
   ·omega))
  have ot20:=(P.tr.ins hk ow20 (fun i hi' c hc=>f20' c (P.lt c (P.jf i hi' c hc)) (hbfb i hi' c hc) (fun e=>P.nf i hi' (e ▸ hc))) N.a blk20 N.len N.cap N.size (by omega) N.cut
   (fun i hi' hm=>hb'D b' (P.jf i hi' b' hm) (hbfb i hi' b' hm) rfl) (fun hm=>by
    rcases hb' with⟨e,hm2⟩| e
    ·exact(hbw b' hm).2 (by rw [e];exact P.ib b hm2)
    ·have:=ow.lt b' hm;omega) (fun c hc i hi' hm=>(hbw c hc).2 (P.jf i hi' c hm))
   (P.tr.keys.frame fun c hc=>f20' c (P.lt c (P.ik c hc)) (P.tr.d1 c hc) (fun e=>P.nk (e ▸ hc))) P.tr.nk (fun hm=>hb'D b' (P.ik b' hm) (P.tr.d1 b' hm) rfl) P.tr.d2 (fun c hc hm=>(hbw c hm).2 (P.ik c hc))).ot
  obtain⟨D',hD',hsub⟩:=P.put h20 (insI x k w) _ _ (fun c e1 e2 e3 e4 e5=>f20' c (by
   rcases e5 with rfl | e5
   ·exact hrb
   ·exact P.lt c e5) e3 e1) b20 ot20 (fun c hc=>by
    rcases mem_parts.1 hc with hc | hc | ⟨i,hi',hc⟩
    ·exact .inl (.inl hc)
    ·simp at hc
     rcases hb' with⟨e,hm⟩| e
     ·exact .inl (.inr (.inl (by rw [hc,e];exact hm)))
     ·exact .inr ⟨by omega,fun hm=>by have:=P.lt c hm;omega⟩
    ·have hi2:i < x.items.length+1:=by simpa [Nat.min_eq_left hk,show k+(x.items.length - k+1)=x.items.length+1 by omega] using hi'
     try simp only at hc
     split at hc
     ·exact .inl (.inr (.inr ⟨i,by omega,hc⟩))
     ·split at hc
      ·exact .inr (hbw c hc)
      ·exact .inl (.inr (.inr ⟨i - 1,by omega,hc⟩)))
  refine hyes k hins h20 D' hD' ⟨by omega,fun c h1 h2 h3=>f20' c h1 (hnb c h3) (hbp c h2 h3),fun c hc=>?_⟩
  rcases hsub c hc with hc | hc
  ·exact .inl hc
  ·rcases mem_parts.1 hc with hc | hc | ⟨i,hi',hc⟩
   ·exact .inl (P.ik c hc)
   ·simp at hc
    rcases hb' with⟨e,hm⟩| e
    ·exact .inl (by rw [hc,e];exact P.ib b hm)
    ·exact .inr (.inr (by omega))
   ·have hi2:i < x.items.length+1:=by simpa [Nat.min_eq_left hk,show k+(x.items.length - k+1)=x.items.length+1 by omega] using hi'
    try simp only at hc
    split at hc
    ·exact .inl (P.jf i (by omega) c hc)
    ·split at hc
     ·exact .inr (.inl hc)
     ·exact .inl (P.jf (i - 1) (by omega) c hc)
 have he:(s.toList==((⟨#[45]⟩:ByteArray):ByteArray).toList)=decide (lb s=[45]):=by
  rw [Bool.eq_iff_iff];simp [ByteArray.toList_eq,lb]
 unfold insK at main hno
 refine⟨fun hq=>?_,fun hq=>?_⟩
 ·rw [he] at hq
  have hq':lb s=[45]:=by simpa using hq
  refine⟨⟨pb,o,none⟩,rfl,si,hcell,?_⟩
  rw [hlen]
  exact main _ (by rw [if_pos hq']) (Nat.le_refl _)
 ·rw [he] at hq
  have hq':¬ lb s=[45]:=by simpa using hq
  rw [if_neg hq'] at main hno
  refine⟨⟨pb,o,none⟩,fun _=>rfl,si,fun _=>hcell,fun hc=>?_,fun hc=>?_⟩
  ·refine hno ?_ h3 k3
   rw [if_neg]
   rintro⟨c1,c2⟩
   rw [c1,hlen] at hc
   simp at hc;omega
  ·have hc':(idxP (lb s)).2=true∧(idxP (lb s)).1≤x.items.length:=by
    cases h2:(idxP (lb s)).2 with
    | false=>rw [h2] at hc;simp at hc
    | true=>rw [h2,hlen] at hc;simp at hc;exact⟨rfl,by omega⟩
   have hrg:=idxP_range hc'.1
   have:=main (idxP (lb s)).1.toNat (by rw [if_pos hc']) (by omega)
   rw [Int.toNat_of_nonneg (by omega)] at this
   exact this
end Go.Proofs.YtbploiccompocaaGreatDoor
end
section
namespace Go.Proofs.YtbploiccompocaaGreatDoor
open Go Go.X Go.Proofs
set_option linter.unusedVariables false
theorem PlcP.del {h:Heap} {D:List Nat} {rb:Nat} {p:Addr} {x:Tr} {T:Tr→Tr} {pb o:Nat} {cs0:Array Value} {sk si:Sl} {bk bb:List Nat} {b:Nat} {cs:Array Value} {bf:Nat→List Nat} (P:PlcP h D rb p x T pb o cs0 sk si bk bb b cs bf) (hrb:rb < h.size) {j:Nat} (hj:j < x.items.length)
  {hz:Heap} {csN:Array Value} {ks':List ByteArray} {sk' si':Sl} {bk':List Nat} (e1:si'.a=si.a) (e2:Blk hz b csN) (e3:si'.len+1=x.items.length) (e4:si'.cap=si.cap) (e5:csN.size=cs.size)
  (e7:cut csN 0 ((x.items.length - 1)*4)=(cut cs 0 (x.items.length*4)).take (j*4)++(cut cs 0 (x.items.length*4)).drop ((j+1)*4))
  (ok:OKeys hz ks' bk' sk') (hbk:∀ c∈bk',c∈bk) (nk:bk'.Nodup) (bz:Blk hz pb (upd cs0 o (ocells (.mk x.kind x.text ks' (x.items.take j++x.items.drop (j+1))) sk' si')))
  (fz:∀ c,c < h.size→c∉bk→c∉bb→c≠pb→hz[c]?=h[c]?):∃ D',Doc hz rb (T (.mk x.kind x.text ks' (x.items.take j++x.items.drop (j+1)))) D'∧∀ c∈D',c∈D:=by
 have hb:b∈bb:=by
  rcases P.tr.hz with⟨h0,_⟩| ⟨hbb,_⟩
  ·rw [h0] at hj;simp at hj
  ·rw [hbb];simp
 have ot:=(P.tr.del hj (fun i hi c hc=>fz c (P.lt c (P.jf i hi c hc)) (fun hm=>P.tr.d2 c hm i hi hc) (fun hm=>P.tr.d3 c hm i hi hc) (fun e=>P.nf i hi (e ▸ hc))) e1 e2 e3 e4 e5 e7 ok hbk nk).ot
 have bfm:∀ c,c∈(List.range (x.items.take j++x.items.drop (j+1)).length).flatMap (fun i=>if i < j then bf i else bf (i+1))→∃ i,i < x.items.length∧c∈bf i:=by
  intro c hc
  obtain⟨i,hi,hc⟩:=List.mem_flatMap.1 hc
  have hi2:i < x.items.length - 1:=by
   have:i < (x.items.take j++x.items.drop (j+1)).length:=by simpa using hi
   simp only [List.length_append,List.length_take,List.length_drop] at this;omega
  split at hc
  ·exact⟨i,by omega,hc⟩
  ·exact⟨i+1,by omega,hc⟩
 obtain⟨D',hD,hsub⟩:=P.put hz _ _ _ (fun c q1 q2 q3 q4 q5=>fz c (by
  rcases q5 with rfl | q5
  ·exact hrb
  ·exact P.lt c q5) q2 q3 q1) bz ot (fun c hc=>by
  rw [List.mem_append,List.mem_append] at hc
  rcases hc with hc | hc | hc
  ·exact .inl (.inl (hbk c hc))
  ·simp at hc;exact .inl (.inr (.inl (by rw [hc];exact hb)))
  ·exact .inl (.inr (.inr (bfm c hc))))
 refine⟨D',hD,fun c hc=>?_⟩
 rcases hsub c hc with hc | hc
 ·exact hc
 ·rw [List.mem_append,List.mem_append] at hc
  rcases hc with hc | hc | hc
  ·exact P.ik c (hbk c hc)
  ·simp at hc;rw [hc];exact P.ib b hb
  ·obtain⟨i,hi,hc⟩:=bfm c hc
   exact P.jf i hi c hc
end Go.Proofs.YtbploiccompocaaGreatDoor
end
section
namespace Go.Proofs.YtbploiccompocaaGreatDoor
open Go Go.X Go.Proofs
set_option linter.unusedVariables false
theorem rd_take {M:Fr} {t:Ty} {xs:List (El t)} {s:Sl} (H:Rd M (.row t) xs [slV s]) {n:Nat} (hn:n≤xs.length):RdV M (.row t) (xs.take n) (.slice s.a n s.cap):=by
 obtain⟨w,e,a,c,q,hb,hx⟩:=H
 simp only [List.cons.injEq,and_true] at e
 subst e
 simp only [slV,Value.slice.injEq] at q
 obtain⟨rfl,_,rfl⟩:=q
 rw [rdv1 rfl]
 have hl:(xs.take n).length=n:=by rw [List.length_take];omega
 refine⟨_,rfl,s.a,s.cap,by rw [hl],⟨by omega,by omega⟩,?_⟩
 rcases hx with h0 | ⟨b,o,cs,e1,e2,e3⟩
 ·exact .inl (by rw [h0];simp)
 ·refine .inr ⟨b,o,cs,e1,e2,fun i hi=>?_⟩
  rw [List.getElem_take]
  exact e3 i (by omega)
theorem cell_upd {h:Heap} {b o:Nat} {cs0:Array Value} {vs:List Value} (H:Blk h b (upd cs0 o vs)) (hf:o+vs.length≤cs0.size) {i:Nat} {v:Value} (hv:vs[i]?=some v):cellH h ⟨b,o+i,none⟩=some v:=by
 refine H.cell ?_
 have hi:=(List.getElem?_eq_some_iff.1 hv).1
 rw [← Array.getElem?_toList,upd_get hf,if_neg (by omega),if_pos (by omega),Nat.add_sub_cancel_left];exact hv
theorem upd_upd {cs0:Array Value} {o:Nat} {a b:List Value} (hf:o+a.length≤cs0.size) (hl:b.length=a.length):upd (upd cs0 o a) o b=upd cs0 o b:=by
 apply Array.ext'
 apply List.ext_getElem?
 intro q
 rw [upd_get (by rw [upd_size hf];omega),upd_get hf,upd_get (by omega)]
 split
 ·rfl
 ·split
  ·rfl
  ·rw [if_neg (by omega)]
set_option maxHeartbeats 2000000 in
theorem remove_go {gl:Fr} (hg:GL gl) {v:Tr} (hv:Sm v) (ho:allT nodeOk v=true) {p:List ByteArray} (hp:SL p) {h:Heap} {M:Fr} {rb:Nat} {D:List Nat} {u2:Value} (hM:Fr.le gl M) (ag:AgM M h) (hD:Doc h rb v D) (hu2:RdV M (.row .str) p u2)
  (hfind:p≠[]→∀ (hl:p.length - 1 < p.length),∃ x,findP v (p.take (p.length - 1))=some x∧0≤stepP x p[p.length - 1]) (hbig:∀ x,findP v (p.take (p.length - 1))=some x→x.items.length≤1000000000) {K:Value→Heap→Prop}
  (h0:p=[]→K (.int .i64 1) h)
  (hy:∀ x (j:Nat) (hl:p.length - 1 < p.length),findP v (p.take (p.length - 1))=some x→stepP x p[p.length - 1]=j→j < x.items.length→∀ h' D',Doc h' rb (setP v (p.take (p.length - 1)) (delI x j)) D'→Turn h h' rb D [] D'→K (.int .i64 0) h'):
  XC Tryz.prog 103 #[.pointer (some ⟨rb,0,none⟩),u2] h K:=by
 obtain⟨sp,rfl,rp⟩:=rdRow hu2
 obtain⟨hlp,hnp,hcp⟩:=rowLen rp
 have hpn:=hp.n
 have hrb:=hD.lt rb (.inl rfl)
 apply sh_patch_doc_remove (some ⟨rb,0,none⟩) sp
 refine⟨fun hz=>h0 (List.eq_nil_of_length_eq_zero (by rw [hlp] at hz;simp at hz;simp [hz])),fun hz=>?_⟩
 have hne:p≠[]:=fun e=>by rw [hlp,e] at hz;simp at hz
 have hpos:0 < p.length:=List.length_pos_iff.2 hne
 have hl:p.length - 1 < p.length:=by omega
 have w1:IntKind.wrap .i64 (((sp.len:Nat):Int) - 1)=((p.length - 1:Nat):Int):=by rw [hlp,w64 (by omega)];omega
 rw [w1]
 refine strAt ag rp hl rfl rfl ⟨.inr ⟨_,rfl⟩,⟨by omega,by omega,by omega,by omega⟩,?_⟩
 simp only [Int.toNat_natCast,Int.toNat_zero,Nat.sub_zero,resl_zero]
 obtain⟨x0,hx0,hst⟩:=hfind hne hl
 have htk:=rd_take rp (n:=p.length - 1) (by omega)
 refine at_go hg hv ho ⟨by rw [List.length_take];omega,fun q hq=>hp.s q (List.mem_of_mem_take hq)⟩ hM ag hD htk (fun hn=>by rw [hx0] at hn;cases hn) fun x hfx hx hox h4 pa k4 plc=>?_
 obtain rfl:x0=x:=Option.some.inj (hx0.symm.trans hfx)
 have z4:=k4.size
 have ag4:=ag.keep k4
 have hxb:=hbig _ hfx
 obtain⟨sk0,si0,bx,hld,ot,hbx,_⟩:=Plc.ld plc
 refine⟨some pa,rfl,pa,rfl,x0.kind,x0.text,sk0,si0,hld,?_⟩
 have hpl:PC Tryz.prog gl 134 [Arg.mk .tree x0,Arg.mk .str p[p.length - 1]] [.int .i64] (fun r=>r=stepP x0 p[p.length - 1]):=place_pc hg (hp.s _ (List.getElem_mem hl)) rfl
 refine hpl.go (vs:=[.agg #[.int .i64 x0.kind,.string x0.text,slV sk0,slV si0],.string p[p.length - 1]]) (hM.trans (le_MxL ag4 bx)) (MxL.ag ag4 bx) (args1 ot.rdv (args1 (rdStr _) args0)) fun w h12 M12 r L12 hret hr=>?_
 have hr:r=stepP x0 p[p.length - 1]:=hr
 subst hr
 obtain⟨j,ej,hj⟩:∃ j:Nat,stepP x0 p[p.length - 1]=j∧j < x0.items.length:=by
  rcases stepP_ok (allT_here hox) p[p.length - 1] with e | h
  ·omega
  ·exact h
 have z12:=L12.keep.size
 have k12:Keep h.size h h12:=k4.trans L12.keep z4
 have plc12:=Plc.keepK plc (by omega) L12.keep
 obtain⟨pb,o,cs0,sk,si,bk,bb,b,cs,bf,P⟩:=Plc.parts plc12
 have hpad:=P.ad
 subst hpad
 have hlen:=P.tr.hn.1
 have hcap:=P.tr.hn.2.2
 obtain⟨hbb,hia,hib,hic⟩:bb=[b]∧si.a=some ⟨b,0,none⟩∧Blk h12 b cs∧si.cap*4≤cs.size:=by
  rcases P.tr.hz with⟨e,_⟩| e
  ·rw [e] at hj;simp at hj
  ·exact e
 have hcell:cellH h12 (Addr.add ⟨pb,o,none⟩ 3)=some (slV si):=by
  refine P.blk.cellAdd ?_
  have:(cut cs0 o 4)[3]?=some (slV si):=by rw [P.cell];rfl
  rw [cutAt_get,if_pos (by omega)] at this
  rw [← Array.getElem?_toList];exact this
 refine⟨stepP x0 p[p.length - 1],retI hret,⟨pb,o,none⟩,rfl,si,hcell,?_⟩
 rw [ej,wsucc hj (by omega)]
 have hpbb:pb≠b:=fun e=>P.nb (by rw [e,hbb];simp)
 refine Delete_tree hia hib hic (by omega) (OTp.one P.tr) (k:=j) (by omega) (by omega) fun h17 csN b17 s17 z17 f17 c17=>⟨⟨si.a,si.len - 1,si.cap⟩,rfl,⟨pb,o,none⟩,rfl,?_⟩
 have hbk17:Blk h17 pb cs0:=P.blk.keep (f17 pb hpbb)
 have hfit:=P.fit
 rw [add_none]
 refine storeN (vs:=[slV ⟨si.a,si.len - 1,si.cap⟩]) okVals hbk17 rfl szVals (by show o+3+1≤_;omega) (by simp [Value.oneCell',slV]) fun h20 b20 z20 f20=>?_
 rw [upd_c3 P.fit P.cell] at b20
 have bN20:Blk h20 b csN:=b17.keep (f20 b hpbb.symm)
 have f20':∀ c,c≠b→c≠pb→h20[c]?=h12[c]?:=fun c h1 h2=>(f20 c h2).trans (f17 c h1)
 rw [hlen] at c17
 have turn:∀ (hz:Heap) (D':List Nat),h20.size≤hz.size→(∀ c,c < h12.size→c∉bk→c∉bb→c≠pb→hz[c]?=h12[c]?)→(∀ c∈D',c∈D)→Turn h hz rb D [] D':=fun hz D' hs hf hsub=>
  ⟨by omega,fun c h1 h2 h3=>by
   rw [hf c (by omega) (fun hm=>h3 (P.ik c hm)) (fun hm=>h3 (P.ib c hm)) (fun e=>by
    rcases P.pin with e2 | e2
    ·exact h2 (by rw [e,e2])
    ·exact h3 (by rw [e];exact e2))]
   exact k12.get c h1,fun c hc=>.inl (hsub c hc)⟩
 have hkd:cellH h20 (Addr.add ⟨pb,o,none⟩ 0)=some (.int .i64 x0.kind):=by
  rw [add_none]
  exact cell_upd (i:=0) b20 (by show o+4≤_;omega) rfl
 have hks:cellH h20 (Addr.add ⟨pb,o,none⟩ 2)=some (slV sk):=by
  rw [add_none]
  exact cell_upd (i:=2) b20 (by show o+4≤_;omega) rfl
 refine⟨⟨pb,o,none⟩,rfl,x0.kind,hkd,fun h6=>?_,fun h6=>?_⟩
 ·have h6':x0.kind=6:=by simpa using h6
  have hkl:x0.keys.length=x0.items.length:=by
   have:=allT_here hox
   unfold nodeOk at this
   simp [h6'] at this
   exact this.1.2
  obtain⟨l1,l2,l3,l4⟩:=P.tr.keys
  obtain⟨kb,kcs,rfl,ka,kblk,kcap,kcut⟩:∃ kb kcs,bk=[kb]∧sk.a=some ⟨kb,0,none⟩∧Blk h12 kb kcs∧sk.cap≤kcs.size∧cut kcs 0 x0.keys.length=x0.keys.map Value.string:=by
   rcases l4 with⟨e,_⟩| e
   ·rw [e] at hkl;simp at hkl;omega
   ·exact e
  have hkbb:kb≠b:=fun e=>P.tr.d1 kb (by simp) (by rw [e,hbb];simp)
  have hkpb:pb≠kb:=fun e=>P.nk (by rw [e];simp)
  have kblk20:Blk h20 kb kcs:=kblk.keep (f20' kb hkbb hkpb.symm)
  refine⟨⟨pb,o,none⟩,rfl,sk,hks,?_⟩
  refine Delete_str ka kblk20 (by omega) (by omega) (fun u hu=>by
   rw [Nat.mul_one,l1,kcut] at hu
   obtain⟨q,_,rfl⟩:=List.mem_map.1 hu
   simp [Value.oneCell']) (k:=j) (by omega) (by omega) fun h26 kcsN b26 s26 z26 f26 c26=>⟨⟨sk.a,sk.len - 1,sk.cap⟩,rfl,⟨pb,o,none⟩,rfl,?_⟩
  have bp26:Blk h26 pb _:=b20.keep (f26 pb hkpb)
  rw [add_none]
  refine storeN (vs:=[slV ⟨sk.a,sk.len - 1,sk.cap⟩]) okStrs bp26 rfl szStrs (by rw [upd_size (by show o+4≤_;omega)];show o+2+1≤_;omega) (by simp [Value.oneCell',slV]) fun h29 b29 z29 f29=>?_
  have hcu:=cut_upd (cs:=cs0) (o:=o) (vs:=[.int .i64 x0.kind,.string x0.text,slV sk,slV ⟨si.a,si.len - 1,si.cap⟩]) (by show o+4≤_;omega)
  rw [upd_c2 (by rw [upd_size (by show o+4≤_;omega)];omega) hcu,upd_upd (cs0:=cs0) (o:=o) (a:=[.int .i64 x0.kind,.string x0.text,slV sk,slV ⟨si.a,si.len - 1,si.cap⟩]) (b:=[.int .i64 x0.kind,.string x0.text,slV ⟨sk.a,sk.len - 1,sk.cap⟩,slV ⟨si.a,si.len - 1,si.cap⟩]) (by show o+4≤_;omega) rfl] at b29
  have f29':∀ c,c < h12.size→c∉[kb]→c∉bb→c≠pb→h29[c]?=h12[c]?:=fun c _ h1 h2 h3=>by
   rw [f29 c h3,f26 c (fun e=>h1 (by rw [e];simp))]
   exact f20' c (fun e=>h2 (by rw [e,hbb];simp)) h3
  rw [Nat.mul_one,Nat.mul_one,Nat.mul_one,Nat.mul_one,l1,kcut] at c26
  have okk:OKeys h29 (x0.keys.take j++x0.keys.drop (j+1)) [kb] ⟨sk.a,sk.len - 1,sk.cap⟩:=by
   have hll:(x0.keys.take j++x0.keys.drop (j+1)).length=x0.keys.length - 1:=by simp;omega
   refine⟨by show sk.len - 1=_;rw [hll,l1],by rw [hll];omega,by show _≤sk.cap;rw [hll];omega,.inr ⟨kb,kcsN,rfl,ka,b26.keep (f29 kb hkpb.symm),by show sk.cap≤_;omega,?_⟩⟩
   rw [hll,c26];simp [List.map_take,List.map_drop]
  obtain⟨D',hD',hsub⟩:=PlcP.del P (by omega) hj (si':=⟨si.a,si.len - 1,si.cap⟩) rfl ((bN20.keep (f26 b hkbb.symm)).keep (f29 b hpbb.symm)) (by show si.len - 1+1=_;omega) rfl s17 c17 okk (fun c hc=>hc) (by simp) b29 f29'
  refine hy x0 j hl hfx ej hj h29 D' ?_ (turn h29 D' (by omega) f29' hsub)
  have:delI x0 j=.mk x0.kind x0.text (x0.keys.take j++x0.keys.drop (j+1)) (x0.items.take j++x0.items.drop (j+1)):=by unfold delI;rw [if_pos h6']
  rw [this];exact hD'
 ·have h6':¬ x0.kind=6:=by simpa using h6
  have fz:∀ c,c < h12.size→c∉bk→c∉bb→c≠pb→h20[c]?=h12[c]?:=fun c _ _ h2 h3=>f20' c (fun e=>h2 (by rw [e,hbb];simp)) h3
  obtain⟨D',hD',hsub⟩:=PlcP.del P (by omega) hj (si':=⟨si.a,si.len - 1,si.cap⟩) rfl bN20 (by show si.len - 1+1=_;omega) rfl s17 c17 (P.tr.keys.frame fun c hc=>f20' c (fun e=>P.tr.d1 c hc (by rw [e,hbb];simp)) (fun e=>P.nk (e ▸ hc))) (fun c hc=>hc) P.tr.nk b20 fz
  refine hy x0 j hl hfx ej hj h20 D' ?_ (turn h20 D' (Nat.le_refl _) fz hsub)
  have:delI x0 j=.mk x0.kind x0.text x0.keys (x0.items.take j++x0.items.drop (j+1)):=by unfold delI;rw [if_neg h6']
  rw [this];exact hD'
end Go.Proofs.YtbploiccompocaaGreatDoor
end
section
namespace Go.Proofs.YtbploiccompocaaGreatDoor
open Go Go.X Go.Proofs
set_option linter.unusedVariables false
theorem keysApp {h:Heap} {ks:List ByteArray} {bk:List Nat} {sk:Sl} (H:OKeys h ks bk sk) {bv cv:Nat} {s:ByteArray} (hv:Blk h bv #[.string s]) (hn:ks.length≤1048576) {K:Value→Heap→Prop}
  (hK:∀ (sk':Sl) (h':Heap) (kb:Nat),OKeys h' (ks++[s]) [kb] sk'→(kb∈bk∨h.size≤kb)→h.size≤h'.size→(∀ c,c < h.size→c∉bk→h'[c]?=h[c]?)→K (.slice sk'.a sk'.len sk'.cap) h'):
  XRun Tryz.prog (Builtin.append_ #[22,22] 22 #[.slice sk.a sk.len sk.cap,.slice (some ⟨bv,0,none⟩) 1 cv]) h K:=by
 obtain⟨l1,l2,l3,l4⟩:=H
 obtain⟨b,cs,hro,hb,hcut⟩:∃ b cs,RowO h sk b cs 1∧(b∈bk∨h.size≤b)∧cut cs 0 (sk.len*1)=ks.map Value.string:=by
  rcases l4 with⟨rfl,rfl,h0⟩| ⟨b,cs,rfl,e1,e2,e3,e4⟩
  ·refine⟨h.size,#[],⟨by omega,.inl ⟨l1,h0⟩⟩,.inr (Nat.le_refl _),?_⟩
   rw [l1];rfl
  ·exact⟨b,cs,⟨by omega,.inr ⟨e1,e2,by omega⟩⟩,.inl (by simp),by rw [l1,Nat.mul_one];exact e4⟩
 have hbk:∀ c∈bk,c < h.size:=by
  intro c hc
  rcases l4 with⟨_,rfl,_⟩| ⟨b,cs,rfl,_,e2,_⟩
  ·cases hc
  ·simp at hc;subst hc;exact e2.lt
 refine app_one (vs:=[.string s]) elemStr hro hv rfl (fun u hu=>by simp at hu;subst hu;simp [Value.oneCell']) (by omega) (by omega) fun s' h' b' cs' N=>?_
 rw [hcut] at N
 have hl:(ks++[s]).length=sk.len+1:=by simp [l1]
 refine hK s' h' b' ⟨by rw [hl];exact N.len,by rw [hl];omega,by rw [hl];exact N.cap,.inr ⟨b',cs',rfl,N.a,N.blk,by have:=N.size;omega,?_⟩⟩ ?_ N.grow fun c hc hn=>N.old c hc fun e=>?_
 ·rw [hl]
  have:=N.cut
  rw [Nat.mul_one] at this
  rw [this];simp
 ·rcases N.new with e | e
  ·rw [e];exact hb
  ·exact .inr e
 ·rcases N.new with e2 | e2
  ·rcases hb with e3 | e3
   ·exact hn (by rw [e,e2];exact e3)
   ·omega
  ·omega
theorem itemsApp {g h:Heap} {x:Tr} {sk si:Sl} {bk bb:List Nat} {b:Nat} {cs:Array Value} {bf:Nat→List Nat} (H:OTp g x sk si bk bb b cs bf) (kb:∀ c∈bb,h[c]?=g[c]?) {bv cv:Nat} {w:Tr} {wk wi:Sl} (hv:Blk h bv (ocells w wk wi).toArray) (hn:x.items.length≤1000000000) {K:Value→Heap→Prop}
  (hK:∀ (si':Sl) (h':Heap) (b':Nat) (cs':Array Value),si'.a=some ⟨b',0,none⟩→si'.len=x.items.length+1→x.items.length+1≤si'.cap→Blk h' b' cs'→si'.cap*4≤cs'.size→cut cs' 0 ((x.items.length+1)*4)=cut cs 0 (x.items.length*4)++ocells w wk wi →
   ((b'=b∧b∈bb)∨h.size≤b')→h.size≤h'.size→(∀ c,c < h.size→c∉bb→h'[c]?=h[c]?)→K (.slice si'.a si'.len si'.cap) h'):
  XRun Tryz.prog (Builtin.append_ #[23,23] 23 #[.slice si.a si.len si.cap,.slice (some ⟨bv,0,none⟩) 1 cv]) h K:=by
 have hlen:=H.hn.1
 obtain⟨b0,hrow,hb0⟩:∃ b0,RowO h si b0 cs 4∧((b0=b∧b∈bb)∨b0=h.size):=by
  have hro:=OTp.row H (h':=h) kb
  rcases H.hz with⟨h0,_,h2⟩| ⟨hbb,_⟩
  ·exact⟨h.size,⟨hro.le,.inl ⟨by rw [hlen,h0];rfl,h2⟩⟩,.inr rfl⟩
  ·exact⟨b,hro,.inl ⟨rfl,by rw [hbb];simp⟩⟩
 refine app_one (vs:=ocells w wk wi) elemTree hrow hv rfl (ocells_one w wk wi) (by omega) (by omega) fun s' h' b' cs' N=>?_
 rw [hlen] at N
 have hb':(b'=b∧b∈bb)∨h.size≤b':=by
  rcases N.new with e | e
  ·rcases hb0 with⟨e2,hm⟩| e2
   ·exact .inl ⟨by rw [e,e2],hm⟩
   ·exact .inr (by omega)
  ·exact .inr e
 refine hK s' h' b' cs' N.a N.len N.cap N.blk N.size N.cut hb' N.grow fun c hc hn=>N.old c hc fun e=>?_
 rcases hb' with⟨e2,hm⟩| e2
 ·exact hn (by rw [e,e2];exact hm)
 ·omega
theorem szStrs':szOf Tryz.prog 22=1:=by kernel_rfl
theorem szTree':szOf Tryz.prog 25=4:=by kernel_rfl
theorem okTree':okInfo Tryz.prog 25=true:=by kernel_rfl
set_option maxHeartbeats 2000000 in
theorem add_fin {g:Heap} {D:List Nat} {rb:Nat} {x w:Tr} {s:ByteArray} {T:Tr→Tr} {pb o:Nat} {cs0:Array Value} {sk si:Sl} {bk bb:List Nat} {b:Nat} {cs:Array Value} {bf:Nat→List Nat} (P:PlcP g D rb ⟨pb,o,none⟩ x T pb o cs0 sk si bk bb b cs bf) (hrb:rb < g.size) {bw:List Nat} {wk wi:Sl} (ow:OT g w bw (ocells w wk wi)) (hbw:∀ c∈bw,c≠rb∧c∉D) (hx:x.items.length≤1000000000)
  {gF:Heap} {sk' si':Sl} {kb b':Nat} {cs':Array Value} (hs:g.size≤gF.size) (hf:∀ c,c < g.size→c∉bk→c∉bb→gF[c]?=g[c]?) (ok:OKeys gF (x.keys++[s]) [kb] sk') (hkb:kb∈bk∨g.size≤kb)
  (e1:si'.a=some ⟨b',0,none⟩) (e2:si'.len=x.items.length+1) (e3:x.items.length+1≤si'.cap) (e4:Blk gF b' cs') (e5:si'.cap*4≤cs'.size) (e6:cut cs' 0 ((x.items.length+1)*4)=cut cs 0 (x.items.length*4)++ocells w wk wi) (hb':(b'=b∧b∈bb)∨g.size≤b') (hne:kb≠b')
  {K:Value→Heap→Prop} (hK:∀ h' D',Doc h' rb (T (addI x s w)) D'→Turn g h' rb D bw D'→K (.int .i64 0) h'):
  XRunU Tryz.prog (Instr.storeAt 22 (.pointer (some (Addr.add ⟨pb,o,none⟩ 2))) (.slice sk'.a sk'.len sk'.cap)) gF (fun h1=>XRunU Tryz.prog (Instr.storeAt 23 (.pointer (some (Addr.add ⟨pb,o,none⟩ 3))) (.slice si'.a si'.len si'.cap)) h1 (fun h2=>K (.int .i64 0) h2)):=by
 have hpb:pb < g.size:=P.blk.lt
 have hfit:=P.fit
 have hkbn:∀ c,c < g.size→c∉bk→c≠kb:=fun c hc hn e=>by
  rcases hkb with h | h
  ·exact hn (e ▸ h)
  ·omega
 have hbn:∀ c,c < g.size→c∉bb→c≠b':=fun c hc hn e=>by
  rcases hb' with⟨h1,h2⟩| h
  ·exact hn (by rw [e,h1];exact h2)
  ·omega
 have bF:Blk gF pb cs0:=P.blk.keep (hf pb hpb P.nk P.nb)
 rw [add_none,add_none]
 refine storeN (vs:=[slV sk']) okStrs bF rfl szStrs' (by show o+2+1≤_;omega) (by simp [Value.oneCell',slV]) fun h1 b1 z1 f1=>?_
 rw [upd_c2 P.fit P.cell] at b1
 refine storeN (vs:=[slV si']) okVals b1 rfl szVals (by rw [upd_size (by show o+4≤_;omega)];show o+3+1≤_;omega) (by simp [Value.oneCell',slV]) fun h2 b2 z2 f2=>?_
 have hcu:=cut_upd (cs:=cs0) (o:=o) (vs:=[.int .i64 x.kind,.string x.text,slV sk',slV si]) (by show o+4≤_;omega)
 rw [upd_c3 (by rw [upd_size (by show o+4≤_;omega)];omega) hcu,upd_upd (cs0:=cs0) (o:=o) (a:=[.int .i64 x.kind,.string x.text,slV sk',slV si]) (b:=[.int .i64 x.kind,.string x.text,slV sk',slV si']) (by show o+4≤_;omega) rfl] at b2
 have f12:∀ c,c≠pb→h2[c]?=gF[c]?:=fun c hc=>(f2 c hc).trans (f1 c hc)
 have fz:∀ c,c < g.size→c∉bk→c∉bb→c≠pb→h2[c]?=g[c]?:=fun c hc n1 n2 n3=>(f12 c n3).trans (hf c hc n1 n2)
 have hpk:pb≠kb:=hkbn pb hpb P.nk
 have hpb':pb≠b':=hbn pb hpb P.nb
 have hD:∀ c,c≠rb→c∉D→c≠pb:=fun c n1 n2 e=>by
  rcases P.pin with e2 | e2
  ·exact n1 (by rw [e,e2])
  ·exact n2 (by rw [e];exact e2)
 have hnk:∀ c,c∉D→c∉bk:=fun c hc hm=>hc (P.ik c hm)
 have hnb:∀ c,c∉D→c∉bb:=fun c hc hm=>hc (P.ib c hm)
 have ow2:OT h2 w bw (ocells w wk wi):=ow.frame fun c hc=>fz c (ow.lt c hc) (hnk c (hbw c hc).2) (hnb c (hbw c hc).2) (hD c (hbw c hc).1 (hbw c hc).2)
 have hfk:∀ i,i < x.items.length→∀ c∈bf i,c∉bk:=fun i hi c hc hm=>P.tr.d2 c hm i hi hc
 have hfb:∀ i,i < x.items.length→∀ c∈bf i,c∉bb:=fun i hi c hc hm=>P.tr.d3 c hm i hi hc
 have hcl:(cut cs 0 (x.items.length*4)).length≤x.items.length*4:=by unfold cut;simp;omega
 have ot:=(P.tr.ins (k:=x.items.length) (Nat.le_refl _) ow2 (fun i hi c hc=>fz c (P.lt c (P.jf i hi c hc)) (hfk i hi c hc) (hfb i hi c hc) (fun e=>P.nf i hi (e ▸ hc))) e1 (e4.keep (f12 b' hpb'.symm)) e2 e3 e5 (by omega)
  (by rw [e6,List.take_of_length_le hcl,List.drop_eq_nil_of_le hcl,List.append_nil]) (fun i hi hm=>hbn b' (P.lt _ (P.jf i hi b' hm)) (hfb i hi b' hm) rfl) (fun hm=>by
   rcases hb' with⟨e,hm2⟩| e
   ·exact(hbw b' hm).2 (by rw [e];exact P.ib b hm2)
   ·have:=ow.lt b' hm;omega) (fun c hc i hi hm=>(hbw c hc).2 (P.jf i hi c hm))
  (ok.frame (h':=h2) fun c hc=>f12 c (by simp at hc;subst hc;exact hpk.symm)) (by simp) (by simp;exact fun e=>hne e.symm) (fun c hc i hi hm=>by
   simp at hc;subst hc
   exact hkbn c (P.lt c (P.jf i hi c hm)) (hfk i hi c hm) rfl) (fun c hc hm=>by
   simp at hc;subst hc
   rcases hkb with h | h
   ·exact(hbw c hm).2 (P.ik c h)
   ·have:=ow.lt c hm;omega)).ot
 have heq:(x.items.take x.items.length++w::x.items.drop x.items.length)=x.items++[w]:=by rw [List.take_length,List.drop_length]
 obtain⟨D',hD',hsub⟩:=P.put h2 _ _ _ (fun c q1 q2 q3 q4 q5=>fz c (by
  rcases q5 with rfl | q5
  ·exact hrb
  ·exact P.lt c q5) q2 q3 q1) b2 ot (fun c hc=>by
  rcases mem_parts.1 hc with hc | hc | ⟨i,hi,hc⟩
  ·simp at hc;subst hc
   rcases hkb with h | h
   ·exact .inl (.inl h)
   ·exact .inr ⟨by omega,fun hm=>by have:=P.lt c hm;omega⟩
  ·simp at hc;subst hc
   rcases hb' with⟨e,hm⟩| e
   ·exact .inl (.inr (.inl (by rw [e];exact hm)))
   ·exact .inr ⟨by omega,fun hm=>by have:=P.lt c hm;omega⟩
  ·have hi2:i < x.items.length+1:=by simpa using hi
   try simp only at hc
   split at hc
   ·exact .inl (.inr (.inr ⟨i,by omega,hc⟩))
   ·split at hc
    ·exact .inr (hbw c hc)
    ·exact .inl (.inr (.inr ⟨i - 1,by omega,hc⟩)))
 rw [heq] at hD'
 refine hK h2 D' hD' ⟨by omega,fun c q1 q2 q3=>fz c q1 (hnk c q3) (hnb c q3) (hD c q2 q3),fun c hc=>?_⟩
 rcases hsub c hc with hc | hc
 ·exact .inl hc
 ·rcases mem_parts.1 hc with hc | hc | ⟨i,hi,hc⟩
  ·simp at hc;subst hc
   rcases hkb with h | h
   ·exact .inl (P.ik c h)
   ·exact .inr (.inr h)
  ·simp at hc;subst hc
   rcases hb' with⟨e,hm⟩| e
   ·exact .inl (by rw [e];exact P.ib b hm)
   ·exact .inr (.inr e)
  ·have hi2:i < x.items.length+1:=by simpa using hi
   try simp only at hc
   split at hc
   ·exact .inl (P.jf i (by omega) c hc)
   ·split at hc
    ·exact .inr (.inl hc)
    ·exact .inl (P.jf (i - 1) (by omega) c hc)
end Go.Proofs.YtbploiccompocaaGreatDoor
end
section
namespace Go.X
open Go Go.Lib
set_option linter.unusedVariables false
theorem addR_ne {v w:Tr} {p:List ByteArray} (h:p≠[]):addR v p w=(findP v (iniP p)).bind fun x=>if x.kind=5 then(insK x (lstP p)).map (fun k=>setP v (iniP p) (insI x k w))
  else if x.kind≠6 then none else if 0≤stepP x (lstP p) then some (setP v (iniP p) (setI x (stepP x (lstP p)).toNat w)) else some (setP v (iniP p) (addI x (lstP p) w)):=by
 unfold addR
 rw [if_neg h]
 cases findP v (iniP p) with
 | none=>rfl
 | some x=>
  simp only [Option.bind_some]
  split
  ·cases insK x (lstP p) <;> rfl
  ·rfl
theorem findP_snoc (s:ByteArray):∀ (q:List ByteArray) (v:Tr),findP v (q++[s])=(findP v q).bind fun x=>if 0≤stepP x s then x.items[(stepP x s).toNat]? else none
 | [],v=>by
  rw [List.nil_append,findP_nil,Option.bind_some]
  split
  ·rename_i h
   cases hx:v.items[(stepP v s).toNat]? with
   | none=>
    unfold findP stepsP
    rw [if_pos h,hx];simp
   | some x=>
    obtain⟨hk,e⟩:=List.getElem?_eq_some_iff.1 hx
    rw [findP_yes (k:=(stepP v s).toNat) (by omega) hk,findP_nil,e]
  ·rename_i h
   exact findP_no (by omega)
 | t::q,v=>by
  rw [List.cons_append]
  by_cases h:0≤stepP v t
  ·cases hx:v.items[(stepP v t).toNat]? with
   | none=>
    have e:∀ r,findP v (t::r)=none:=fun r=>by
     unfold findP stepsP
     rw [if_pos h,hx];simp
    rw [e,e];rfl
   | some x=>
    obtain⟨hk,e⟩:=List.getElem?_eq_some_iff.1 hx
    rw [findP_yes (k:=(stepP v t).toNat) (by omega) hk,findP_yes (k:=(stepP v t).toNat) (by omega) hk]
    exact findP_snoc s q _
  ·rw [findP_no (by omega),findP_no (by omega)];rfl
theorem findP_last {v y:Tr} {p:List ByteArray} (hp:p≠[]) (h:findP v p=some y):∃ x,findP v (iniP p)=some x∧∃ k:Nat,stepP x (lstP p)=k∧x.items[k]?=some y:=by
 rw [snoc_ini hp,findP_snoc] at h
 rw [Option.bind_eq_some_iff] at h
 obtain⟨x,h1,h2⟩:=h
 refine⟨x,h1,?_⟩
 split at h2
 ·exact⟨(stepP x (lstP p)).toNat,by omega,h2⟩
 ·cases h2
theorem allT_mk {q:Tr→Bool} {v:Tr} (h:q v=true) (hi:∀ x∈v.items,allT q x=true):allT q v=true:=by
 rw [allT_eq,h,Bool.true_and,allTL_all,List.all_eq_true];exact hi
theorem nodeOk_of {v w:Tr} (hk:w.kind=v.kind) (ht:w.text=v.text) (hks:w.keys=v.keys) (hl:w.items.length=v.items.length):nodeOk w=nodeOk v:=by
 have he:w.items.isEmpty=v.items.isEmpty:=by
  cases h1:w.items <;> cases h2:v.items <;> rw [h1,h2] at hl <;> simp at hl ⊢
 unfold nodeOk
 rw [hk,ht,hks,hl,he]
theorem allT_setP {w:Tr} (hw:allT nodeOk w=true):∀ (p:List ByteArray) (v:Tr),allT nodeOk v=true→allT nodeOk (setP v p w)=true
 | [],v,_=>by rw [setP];exact hw
 | s::p,v,hv=>by
  rw [setP]
  split
  ·split
   ·rename_i x hx
    obtain⟨hk,e⟩:=List.getElem?_eq_some_iff.1 hx
    refine allT_mk ?_ fun y hy=>?_
    ·have h:=allT_here hv
     rw [← h]
     exact nodeOk_of rfl rfl rfl (by simp [setI])
    ·rcases List.mem_or_eq_of_mem_set hy with hy | rfl
     ·exact allT_item hv hy
     ·exact allT_setP hw p x (allT_item hv (e ▸ List.getElem_mem hk))
   ·exact hv
  ·exact hv
theorem nodup_del {l:List ByteArray} (h:l.Nodup) (j:Nat):(l.take j++l.drop (j+1)).Nodup:=by
 refine h.sublist ?_
 have:l.take j++l.drop (j+1)=l.eraseIdx j:=(List.eraseIdx_eq_take_drop_succ l j).symm
 rw [this];exact List.eraseIdx_sublist l j
theorem nodeOk_obj (s:ByteArray) (ks:List ByteArray) (xs:List Tr):nodeOk (.mk 6 s ks xs)=(keysOk ks && decide (ks.length=xs.length) && lb s==[]):=rfl
theorem nodeOk_arr (s:ByteArray) (ks:List ByteArray) (xs:List Tr):nodeOk (.mk 5 s ks xs)=(lb s==[] && ks.isEmpty):=rfl
theorem nodeOk_del {x:Tr} (h:nodeOk x=true) (j:Nat) (hj:j < x.items.length):nodeOk (delI x j)=true:=by
 by_cases h6:x.kind=6
 ·have hl:=keys_nodeOk h h6
  have e:delI x j=.mk 6 x.text (x.keys.take j++x.keys.drop (j+1)) (x.items.take j++x.items.drop (j+1)):=by unfold delI;rw [if_pos h6,h6]
  have h':(keysOk x.keys=true∧x.keys.length=x.items.length)∧x.text.data=#[]:=by
   unfold nodeOk at h;simpa [h6] using h
  rw [e]
  obtain⟨⟨h1,h2⟩,h3⟩:=h'
  have:(keysOk (x.keys.take j++x.keys.drop (j+1))=true∧(x.keys.take j++x.keys.drop (j+1)).length=(x.items.take j++x.items.drop (j+1)).length)∧x.text.data=#[]:=by
   refine⟨⟨?_,by simp;omega⟩,h3⟩
   unfold keysOk at h1 ⊢
   rw [Bool.and_eq_true,List.all_eq_true] at h1 ⊢
   refine⟨fun k hk=>?_,by simpa using nodup_del (by simpa using h1.2) j⟩
   rcases List.mem_append.1 hk with hk | hk
   ·exact h1.1 k (List.mem_of_mem_take hk)
   ·exact h1.1 k (List.mem_of_mem_drop hk)
  rw [nodeOk_obj]
  simpa using this
 ·have e:delI x j=.mk x.kind x.text x.keys (x.items.take j++x.items.drop (j+1)):=by unfold delI;rw [if_neg h6]
  rw [e]
  by_cases h5:x.kind=5
  ·rw [h5,nodeOk_arr]
   rw [← Tr.eta x,h5,nodeOk_arr] at h;exact h
  ·exfalso
   have hne:x.items≠[]:=fun e=>by rw [e] at hj;simp at hj
   have hne':x.items.isEmpty=false:=by simpa using hne
   unfold nodeOk at h
   rw [if_neg h5,if_neg h6,hne'] at h
   simp at h
theorem allT_del {x:Tr} (h:allT nodeOk x=true) (j:Nat) (hj:j < x.items.length):allT nodeOk (delI x j)=true:=by
 refine allT_mk (nodeOk_del (allT_here h) j hj) fun y hy=>?_
 rcases List.mem_append.1 hy with hy | hy
 ·exact allT_item h (List.mem_of_mem_take hy)
 ·exact allT_item h (List.mem_of_mem_drop hy)
theorem allT_rem {v y:Tr} {p:List ByteArray} (h:allT nodeOk v=true) (hp:p≠[]) (hf:findP v p=some y):allT nodeOk (remR v p)=true:=by
 obtain⟨x,h1,k,h2,h3⟩:=findP_last hp hf
 unfold remR
 rw [h1]
 simp only
 rw [h2,Int.toNat_natCast]
 exact allT_setP (allT_del ((findP_item h1).2.2 _ h) k (List.getElem?_eq_some_iff.1 h3).1) _ v h
theorem rightT_open {v:Tr} (h:rightT v=true):openT v=true:=by
 unfold rightT at h
 unfold openT
 rw [Bool.and_eq_true] at h ⊢
 refine⟨h.1,?_⟩
 have key:∀ n (x:Tr),tsz x≤n→allT (fun x=>decide (x.kind≠7) && nodeOk x) x=true→allT nodeOk x=true:=by
  intro n
  induction n with
  | zero=>intro x hx;have:=tsz_pos x;omega
  | succ n ih=>
   intro x hx hq
   have:=allT_here hq
   simp at this
   refine allT_mk this.2 fun y hy=>ih y (by have:=tsz_item hy;omega) (allT_item hq hy)
 exact key _ v (Nat.le_refl _) h.2
theorem openT_all {v:Tr} (h:openT v=true):allT nodeOk v=true:=by
 unfold openT at h
 rw [Bool.and_eq_true] at h;exact h.2
theorem openT_find {v x:Tr} {p:List ByteArray} (h:openT v=true) (hf:findP v p=some x):openT x=true:=by
 obtain⟨h1,_,h3⟩:=findP_item hf
 unfold openT sizedT at h ⊢
 simp only [Bool.and_eq_true,decide_eq_true_eq] at h ⊢
 refine⟨⟨by omega,?_⟩,h3 _ h.2⟩
 have:∀ (p:List ByteArray) (v:Tr),findP v p=some x→tdp x≤tdp v:=by
  intro p
  induction p with
  | nil=>intro v hf;rw [findP_nil] at hf;cases hf;exact Nat.le_refl _
  | cons s p ih=>
   intro v hf
   obtain⟨k,hk,e1,_,_⟩:=stepsP_full (findP_len hf)
   rw [findP_yes e1 hk] at hf
   have h1:=ih _ hf
   have h2:tdp v.items[k] < tdp v:=by
    rw [tdp_eq v]
    have:∀ (l:List Tr) (y:Tr),y∈l→tdp y≤tdpL l:=by
     intro l
     induction l with
     | nil=>intro y hy;cases hy
     | cons z l ihl=>
      intro y hy
      rw [tdpL]
      rcases List.mem_cons.1 hy with rfl | hy
      ·omega
      ·have:=ihl y hy;omega
    have:=this v.items _ (List.getElem_mem hk)
    omega
   omega
 have:=this p v hf
 omega
end Go.X
end
section
namespace Go.Proofs.YtbploiccompocaaGreatDoor
open Go Go.X Go.Proofs
set_option linter.unusedVariables false
theorem Turn.pre {h h1 h':Heap} {rb:Nat} {D bw D':List Nat} (k:Keep h.size h h1) (H:Turn h1 h' rb D bw D'):Turn h h' rb D bw D':=by
 have:=k.size
 have:=H.size
 refine⟨by omega,fun c h1 h2 h3=>(H.old c (by omega) h2 h3).trans (k.get c h1),fun c hc=>?_⟩
 rcases H.own c hc with h | h | h
 ·exact .inl h
 ·exact .inr (.inl h)
 ·exact .inr (.inr (by omega))
set_option maxHeartbeats 4000000 in
theorem add_go {gl:Fr} (hg:GL gl) {v w:Tr} (hv:Sm v) (ho:allT nodeOk v=true) {p:List ByteArray} (hp:SL p) {h:Heap} {M:Fr} {rb:Nat} {D:List Nat} {u2:Value} (hM:Fr.le gl M) (ag:AgM M h) (hD:Doc h rb v D) (hu2:RdV M (.row .str) p u2)
  {bw:List Nat} {wk wi:Sl} (ow:OT h w bw (ocells w wk wi)) (hbw:∀ c∈bw,c≠rb∧c∉D) (hbig:∀ x,findP v (iniP p)=some x→x.items.length≤1000000000) {K:Value→Heap→Prop}
  (hno:addR v p w=none→∀ h',Keep h.size h h'→K (.int .i64 8) h')
  (hyes:∀ t,addR v p w=some t→∀ h' D',Doc h' rb t D'→Turn h h' rb D bw D'→K (.int .i64 0) h'):
  XC Tryz.prog 101 #[.pointer (some ⟨rb,0,none⟩),u2,.agg #[.int .i64 w.kind,.string w.text,slV wk,slV wi]] h K:=by
 obtain⟨sp,rfl,rp⟩:=rdRow hu2
 obtain⟨hlp,hnp,hcp⟩:=rowLen rp
 have hpn:=hp.n
 have hrb:=hD.lt rb (.inl rfl)
 apply sh_patch_doc_add (some ⟨rb,0,none⟩) sp w.kind w.text wk wi
 intro h1
 have z1:h1.size=h.size+1:=Array.size_push _
 have k1:Keep h.size h h1:=Keep.push _ _ (Nat.le_refl _)
 have b1:Blk h1 h.size (ocells w wk wi).toArray:=Blk.new _ _ _
 clear_value h1
 have hbox:∀ h',Keep h1.size h1 h'→ldList h' ⟨h.size,0,none⟩ 0 (ocells w wk wi):=fun h' k=>(b1.ofKeep k).ld (cs:=ocells w wk wi)
 have D1:Doc h1 rb v D:=hD.keep fun c hc=>k1.get c (hD.lt c hc)
 have ow1:OT h1 w bw (ocells w wk wi):=ow.frame fun c hc=>k1.get c (ow.lt c hc)
 refine⟨fun hz=>?_,fun hz=>?_⟩
 ·have hp0:p=[]:=List.eq_nil_of_length_eq_zero (by rw [hlp] at hz;simp at hz;simp [hz])
  refine⟨w.kind,w.text,wk,wi,hbox h1 (Keep.refl _ _),⟨rb,0,none⟩,rfl,?_⟩
  obtain⟨b,o,cs,bx,e,hb,hfit,ot,hbx,hbase,hbxb,hnoD,hlt,hcl⟩:=D1.plc
  cases e
  rw [add_none]
  refine storeN (vs:=ocells w wk wi) okTree' hb rfl szTree' (by show 0+4≤_;omega) (ocells_one w wk wi) fun h' b' z' f'=>?_
  obtain⟨D',hD',hsub⟩:=hcl h' w (ocells w wk wi) bw (fun c n1 _ _=>f' c n1) b' (ow1.frame fun c hc=>f' c (hbw c hc).1) (fun c hc=>.inr (hbw c hc))
  refine hyes w (by unfold addR;rw [if_pos hp0]) h' D' hD' ⟨by omega,fun c q1 q2 q3=>(f' c q2).trans (k1.get c q1),fun c hc=>?_⟩
  rcases hsub c hc with hc | hc
  ·exact .inl hc
  ·exact .inr (.inl hc)
 ·have hne:p≠[]:=fun e=>by rw [hlp,e] at hz;simp at hz
  have hpos:0 < p.length:=List.length_pos_iff.2 hne
  have hl:p.length - 1 < p.length:=by omega
  have w1:IntKind.wrap .i64 (((sp.len:Nat):Int) - 1)=((p.length - 1:Nat):Int):=by rw [hlp,w64 (by omega)];omega
  rw [w1]
  have ag1:=ag.keep k1
  refine strAt ag1 rp hl rfl rfl ⟨.inr ⟨_,rfl⟩,⟨by omega,by omega,by omega,by omega⟩,?_⟩
  simp -zeta only [Int.toNat_natCast,Int.toNat_zero,Nat.sub_zero,resl_zero]
  have hadd:=addR_ne (v:=v) (w:=w) hne
  have hls:=lst_get hl
  generalize hst:lstP p=st at *
  rw [hls]
  have hstl:(lb st).length≤1048576:=by rw [← hls];exact hp.s _ (List.getElem_mem hl)
  have htk:=rd_take rp (n:=p.length - 1) (by omega)
  refine at_go hg hv ho ⟨by rw [List.length_take];omega,fun q hq=>hp.s q (List.mem_of_mem_take hq)⟩ hM ag1 D1 htk (fun hn h' k'=>?_) fun x hfx hx hox h4 pa k4 plc=>?_
  ·refine⟨none,rfl,(fun _=>hno ?_ h' (k1.trans k' (by omega))),fun hc=>by cases hc⟩
   rw [hadd];unfold iniP;rw [hn];rfl
  have hfx':findP v (iniP p)=some x:=hfx
  rw [hfx',Option.bind_some] at hadd
  have z4:=k4.size
  have k04:Keep h.size h h4:=k1.trans k4 (by omega)
  have ag4:=ag1.keep k4
  have hxb:=hbig _ hfx'
  obtain⟨sk0,si0,bx,hld,ot,hbx,_⟩:=Plc.ld plc
  have hkd:cellH h4 (pa.add 0)=some (.int .i64 x.kind):=hld.1
  have ow4:OT h4 w bw (ocells w wk wi):=ow1.frame fun c hc=>k4.get c (by have:=ow1.lt c hc;omega)
  refine⟨some pa,rfl,(fun hc=>by cases hc),fun _=>⟨pa,rfl,x.kind,hkd,fun h5=>?_,fun h5=>?_⟩⟩
  ·have h5':x.kind=5:=by simpa using h5
   rw [if_pos h5'] at hadd
   refine⟨w.kind,w.text,wk,wi,hbox h4 k4,?_⟩
   refine insert_go hg hstl hM ag4 plc (by omega) ow4 hbw hxb (fun hk h' k'=>⟨8,rfl,hno ?_ h' (k04.trans k' (by omega))⟩) fun k hk h' D' hD' ht=>⟨0,rfl,hyes _ ?_ h' D' hD' (ht.pre k04)⟩
   ·rw [hadd,hk];rfl
   ·rw [hadd,hk];rfl
  ·have h5':¬ x.kind=5:=by simpa using h5
   rw [if_neg h5'] at hadd
   refine⟨pa,rfl,x.kind,hkd,fun h6=>?_,fun h6=>?_⟩
   ·have h6':x.kind≠6:=by simpa using h6
    rw [if_pos h6'] at hadd
    exact hno hadd h4 k04
   ·have h6':¬ x.kind≠6:=by simpa using h6
    rw [if_neg h6'] at hadd
    refine⟨pa,rfl,x.kind,x.text,sk0,si0,hld,?_⟩
    have hpl:PC Tryz.prog gl 134 [Arg.mk .tree x,Arg.mk .str st] [.int .i64] (fun r=>r=stepP x st):=place_pc hg hstl rfl
    refine hpl.go (vs:=[.agg #[.int .i64 x.kind,.string x.text,slV sk0,slV si0],.string st]) (hM.trans (le_MxL ag4 bx)) (MxL.ag ag4 bx) (args1 ot.rdv (args1 (rdStr _) args0)) fun w' g M12 r L12 hret hr=>?_
    have hr:r=stepP x st:=hr
    subst hr
    have zg:=L12.keep.size
    have kg:Keep h.size h g:=k04.trans L12.keep (by omega)
    have kg1:Keep h1.size h1 g:=k4.trans L12.keep (by omega)
    have plcg:=Plc.keepK plc (by omega) L12.keep
    have owg:OT g w bw (ocells w wk wi):=ow4.frame fun c hc=>L12.keep.get c (by have:=ow4.lt c hc;omega)
    refine⟨stepP x st,retI hret,fun hge=>?_,fun hlt=>?_⟩
    ·have hge':0≤stepP x st:=by simpa using hge
     rw [if_pos hge'] at hadd
     obtain⟨k,ek,hk⟩:∃ k:Nat,stepP x st=k∧k < x.items.length:=by
      rcases stepP_ok (allT_here hox) st with e | h
      ·omega
      ·exact h
     obtain⟨si,a,c1,c2,c3,plc'⟩:=plcg.step hk
     refine⟨pa,rfl,si,c1,w.kind,w.text,wk,wi,hbox g kg1,a,⟨c2,by omega,by omega⟩,?_⟩
     rw [ek,Int.toNat_natCast]
     obtain⟨b,o,cs,bx',e,hb,hfit,ot',hbx',hbase,hbxb,hnoD,hlt,hcl⟩:=plc'
     rw [e]
     refine storeN (vs:=ocells w wk wi) okTree' hb rfl szTree' (by show o+4≤_;omega) (ocells_one w wk wi) fun h' b' z' f'=>?_
     have hbn:∀ c,c≠rb→c∉D→c≠b:=fun c q1 q2 e=>by
      rcases hbase with h | h
      ·exact q1 (by rw [e,h])
      ·exact q2 (by rw [e];exact h)
     obtain⟨D',hD',hsub⟩:=hcl h' w (ocells w wk wi) bw (fun c n1 _ _=>f' c n1) b' (owg.frame fun c hc=>f' c (hbn c (hbw c hc).1 (hbw c hc).2)) (fun c hc=>.inr (hbw c hc))
     rw [ek,Int.toNat_natCast] at hadd
     refine hyes _ hadd h' D' hD' ⟨by omega,fun c q1 q2 q3=>(f' c (hbn c q2 q3)).trans (kg.get c q1),fun c hc=>?_⟩
     rcases hsub c hc with hc | hc
     ·exact .inl hc
     ·exact .inr (.inl hc)
    ·have hlt':¬ 0≤stepP x st:=by simpa using hlt
     rw [if_neg hlt'] at hadd
     obtain⟨pb,o,cs0,sk,si,bk,bb,b,cs,bf,P⟩:=Plc.parts plcg
     have hpad:=P.ad
     subst hpad
     have hfit:=P.fit
     have hskc:cellH g (Addr.add ⟨pb,o,none⟩ 2)=some (slV sk):=by
      refine P.blk.cellAdd ?_
      have:(cut cs0 o 4)[2]?=some (slV sk):=by rw [P.cell];rfl
      rw [cutAt_get,if_pos (by omega)] at this
      rw [← Array.getElem?_toList];exact this
     have hsic:cellH g (Addr.add ⟨pb,o,none⟩ 3)=some (slV si):=by
      refine P.blk.cellAdd ?_
      have:(cut cs0 o 4)[3]?=some (slV si):=by rw [P.cell];rfl
      rw [cutAt_get,if_pos (by omega)] at this
      rw [← Array.getElem?_toList];exact this
     have hpb:pb < g.size:=P.blk.lt
     have hrg:rb < g.size:=by omega
     have hbgt:∀ c,c∈bk→c < h.size:=fun c hc=>hD.lt c (.inr (P.ik c hc))
     have hbbt:∀ c,c∈bb→c < h.size:=fun c hc=>hD.lt c (.inr (P.ib c hc))
     have hxk:x.keys.length≤1048576:=hx.keys
     have fin:∀ (gF:Heap) (sk' si':Sl) (kb b':Nat) (cs':Array Value),g.size≤gF.size→(∀ c,c < g.size→c∉bk→c∉bb→gF[c]?=g[c]?)→OKeys gF (x.keys++[st]) [kb] sk'→(kb∈bk∨g.size≤kb) →
       si'.a=some ⟨b',0,none⟩→si'.len=x.items.length+1→x.items.length+1≤si'.cap→Blk gF b' cs'→si'.cap*4≤cs'.size→cut cs' 0 ((x.items.length+1)*4)=cut cs 0 (x.items.length*4)++ocells w wk wi→((b'=b∧b∈bb)∨g.size≤b')→kb≠b' →
       XRunU Tryz.prog (Instr.storeAt 22 (.pointer (some (Addr.add ⟨pb,o,none⟩ 2))) (.slice sk'.a sk'.len sk'.cap)) gF (fun h1=>XRunU Tryz.prog (Instr.storeAt 23 (.pointer (some (Addr.add ⟨pb,o,none⟩ 3))) (.slice si'.a si'.len si'.cap)) h1 (fun h2=>K (.int .i64 0) h2)):=by
      intro gF sk' si' kb b' cs' q1 q2 q3 q4 q5 q6 q7 q8 q9 q10 q11 q12
      exact add_fin P hrg owg hbw hxb q1 q2 q3 q4 q5 q6 q7 q8 q9 q10 q11 q12 fun h' D' hD' ht=>hyes _ hadd h' D' hD' (ht.pre kg)
     have kApp:∀ (a1:Heap) (bv:Nat) (KK:Value→Heap→Prop),Keep g.size g a1→Blk a1 bv #[.string st]→(∀ (sk':Sl) (a2:Heap) (kb:Nat),OKeys a2 (x.keys++[st]) [kb] sk'→(kb∈bk∨a1.size≤kb)→a1.size≤a2.size→(∀ c,c < a1.size→c∉bk→a2[c]?=a1[c]?)→KK (.slice sk'.a sk'.len sk'.cap) a2) →
       XRun Tryz.prog (Builtin.append_ #[22,22] 22 #[.slice sk.a sk.len sk.cap,.slice (some ⟨bv,0,none⟩) 1 1]) a1 KK:=by
      intro a1 bv KK ka hb hK
      exact keysApp (P.tr.keys.frame fun c hc=>ka.get c (by have:=hbgt c hc;omega)) hb hxk hK
     have iApp:∀ (a3:Heap) (bv:Nat) (KK:Value→Heap→Prop),(∀ c∈bb,a3[c]?=g[c]?)→Blk a3 bv (ocells w wk wi).toArray→(∀ (si':Sl) (h':Heap) (b':Nat) (cs':Array Value),si'.a=some ⟨b',0,none⟩→si'.len=x.items.length+1→x.items.length+1≤si'.cap→Blk h' b' cs'→si'.cap*4≤cs'.size→cut cs' 0 ((x.items.length+1)*4)=cut cs 0 (x.items.length*4)++ocells w wk wi →
       ((b'=b∧b∈bb)∨a3.size≤b')→a3.size≤h'.size→(∀ c,c < a3.size→c∉bb→h'[c]?=a3[c]?)→KK (.slice si'.a si'.len si'.cap) h') →
       XRun Tryz.prog (Builtin.append_ #[23,23] 23 #[.slice si.a si.len si.cap,.slice (some ⟨bv,0,none⟩) 1 1]) a3 KK:=fun a3 bv KK hk hb hK=>itemsApp P.tr hk hb hxb hK
     have hnk:h.size∉bk:=fun hm=>by have:=hbgt _ hm;omega
     have hkb:∀ c∈bk,c∉bb:=P.tr.d1
     refine⟨⟨pb,o,none⟩,rfl,sk,hskc,⟨pb,o,none⟩,rfl,si,hsic,w.kind,w.text,wk,wi,hbox g kg1,⟨pb,o,none⟩,rfl,⟨pb,o,none⟩,rfl,⟨?_,?_⟩⟩
     ·-- the key's box first
      intro h50
      have z50:h50.size=g.size+1:=Array.size_push _
      have k50:Keep g.size g h50:=Keep.push _ _ (Nat.le_refl _)
      have b50:Blk h50 g.size #[.string st]:=Blk.new _ _ _
      clear_value h50
      refine⟨k50.get _ (by show h.size < _;omega),k50.get _ hpb,k50.get _ hpb,?_,?_⟩
      ·refine kApp h50 g.size _ k50 b50 fun sk' a2 kb ok hkb2 za fa=>⟨sk',rfl,?_⟩
       have fa':∀ c,c < g.size→c∉bk→a2[c]?=g[c]?:=fun c hc hn=>(fa c (by omega) hn).trans (k50.get c hc)
       refine⟨fa' _ (by show h.size < _;omega) hnk,fa' _ hpb P.nk,?_⟩
       intro h54
       have z54:h54.size=a2.size+1:=Array.size_push _
       have k54:Keep a2.size a2 h54:=Keep.push _ _ (Nat.le_refl _)
       have b54:Blk h54 a2.size (ocells w wk wi).toArray:=Blk.new _ _ _
       clear_value h54
       have fb:∀ c,c < g.size→c∉bk→h54[c]?=g[c]?:=fun c hc hn=>(k54.get c (by omega)).trans (fa' c hc hn)
       refine⟨fb _ hpb P.nk,?_⟩
       refine iApp h54 a2.size _ (fun c hc=>fb c (by have:=hbbt c hc;omega) (fun hm=>hkb c hm hc)) b54 fun si' h56 b' cs' q1 q2 q3 q4 q5 q6 q7 q8 q9=>⟨si',rfl,?_⟩
       have hkl:kb < a2.size:=by
        obtain⟨_,_,_,h4⟩:=ok
        rcases h4 with⟨_,h,_⟩| ⟨b9,cs9,e9,_,hb9,_⟩
        ·cases h
        ·simp at e9;subst e9;exact hb9.lt
       have hknb:kb∉bb:=fun hm=>by
        rcases hkb2 with h | h
        ·exact hkb kb h hm
        ·have:=hbbt kb hm;omega
       refine fin h56 sk' si' kb b' cs' (by omega) (fun c hc n1 n2=>(q9 c (by omega) n2).trans (fb c hc n1)) (ok.frame fun c hc=>?_) (hkb2.imp id fun h=>by omega) q1 q2 q3 q4 q5 q6 (q7.imp id fun h=>by omega) fun e=>?_
       ·simp at hc;subst hc
        exact(q9 c (by omega) hknb).trans (k54.get c hkl)
       ·rcases q7 with⟨e2,hm⟩| h
        ·exact hknb (by rw [e,e2];exact hm)
        ·omega
      ·intro h60
       have z60:h60.size=h50.size+1:=Array.size_push _
       have k60:Keep h50.size h50 h60:=Keep.push _ _ (Nat.le_refl _)
       have b60:Blk h60 h50.size (ocells w wk wi).toArray:=Blk.new _ _ _
       clear_value h60
       have kk:Keep g.size g h60:=k50.trans k60 (by omega)
       refine⟨kk.get _ hpb,kk.get _ hpb,?_⟩
       refine kApp h60 g.size _ kk (b50.keep (k60.get _ (by omega))) fun sk' a2 kb ok hkb2 za fa=>⟨sk',rfl,?_⟩
       have fa':∀ c,c < g.size→c∉bk→a2[c]?=g[c]?:=fun c hc hn=>(fa c (by omega) hn).trans (kk.get c hc)
       refine⟨fa' _ hpb P.nk,?_⟩
       have hkl:kb < a2.size:=by
        obtain⟨_,_,_,h4⟩:=ok
        rcases h4 with⟨_,h,_⟩| ⟨b9,cs9,e9,_,hb9,_⟩
        ·cases h
        ·simp at e9;subst e9;exact hb9.lt
       have hknb:kb∉bb:=fun hm=>by
        rcases hkb2 with h | h
        ·exact hkb kb h hm
        ·have:=hbbt kb hm;omega
       refine iApp a2 h50.size _ (fun c hc=>fa' c (by have:=hbbt c hc;omega) (fun hm=>hkb c hm hc)) (b60.keep (fa _ (by omega) (fun hm=>by have:=hbgt _ hm;omega))) fun si' h56 b' cs' q1 q2 q3 q4 q5 q6 q7 q8 q9=>⟨si',rfl,?_⟩
       refine fin h56 sk' si' kb b' cs' (by omega) (fun c hc n1 n2=>(q9 c (by omega) n2).trans (fa' c hc n1)) (ok.frame fun c hc=>?_) (hkb2.imp id fun h=>by omega) q1 q2 q3 q4 q5 q6 (q7.imp id fun h=>by omega) fun e=>?_
       ·simp at hc;subst hc
        exact q9 c (by omega) hknb
       ·rcases q7 with⟨e2,hm⟩| h
        ·exact hknb (by rw [e,e2];exact hm)
        ·omega
     ·intro h69
      have z69:h69.size=g.size+1:=Array.size_push _
      have k69:Keep g.size g h69:=Keep.push _ _ (Nat.le_refl _)
      have b69:Blk h69 g.size (ocells w wk wi).toArray:=Blk.new _ _ _
      clear_value h69
      refine⟨k69.get _ hpb,k69.get _ hpb,?_⟩
      intro h70
      have z70:h70.size=h69.size+1:=Array.size_push _
      have k70:Keep h69.size h69 h70:=Keep.push _ _ (Nat.le_refl _)
      have b70:Blk h70 h69.size #[.string st]:=Blk.new _ _ _
      clear_value h70
      have kk:Keep g.size g h70:=k69.trans k70 (by omega)
      refine⟨kk.get _ hpb,kk.get _ hpb,?_⟩
      refine kApp h70 h69.size _ kk b70 fun sk' a2 kb ok hkb2 za fa=>⟨sk',rfl,?_⟩
      have fa':∀ c,c < g.size→c∉bk→a2[c]?=g[c]?:=fun c hc hn=>(fa c (by omega) hn).trans (kk.get c hc)
      refine⟨fa' _ hpb P.nk,?_⟩
      have hkl:kb < a2.size:=by
       obtain⟨_,_,_,h4⟩:=ok
       rcases h4 with⟨_,h,_⟩| ⟨b9,cs9,e9,_,hb9,_⟩
       ·cases h
       ·simp at e9;subst e9;exact hb9.lt
      have hknb:kb∉bb:=fun hm=>by
       rcases hkb2 with h | h
       ·exact hkb kb h hm
       ·have:=hbbt kb hm;omega
      have b69':Blk a2 g.size (ocells w wk wi).toArray:=(b69.keep (k70.get _ (by omega))).keep (fa _ (by omega) (fun hm=>by have:=hbgt _ hm;omega))
      refine iApp a2 g.size _ (fun c hc=>fa' c (by have:=hbbt c hc;omega) (fun hm=>hkb c hm hc)) b69' fun si' h56 b' cs' q1 q2 q3 q4 q5 q6 q7 q8 q9=>⟨si',rfl,?_⟩
      refine fin h56 sk' si' kb b' cs' (by omega) (fun c hc n1 n2=>(q9 c (by omega) n2).trans (fa' c hc n1)) (ok.frame fun c hc=>?_) (hkb2.imp id fun h=>by omega) q1 q2 q3 q4 q5 q6 (q7.imp id fun h=>by omega) fun e=>?_
      ·simp at hc;subst hc
       exact q9 c (by omega) hknb
      ·rcases q7 with⟨e2,hm⟩| h
       ·exact hknb (by rw [e,e2];exact hm)
       ·omega
end Go.Proofs.YtbploiccompocaaGreatDoor
end
section
namespace Go.Proofs.YtbploiccompocaaGreatDoor
open Go Go.X Go.Proofs
set_option linter.unusedVariables false
abbrev opTy:Ty:=.pair .str (.pair (.row .str) (.pair (.row .str) .tree))
def opCells (s:ByteArray) (sp sf:Sl) (v:Tr) (sk si:Sl):List Value:=[.string s,slV sp,slV sf,.int .i64 v.kind,.string v.text,slV sk,slV si]
theorem rdOp {M:Fr} {o:OpT} {u:Value} (h:RdV M opTy o u):∃ sp sf sk si:Sl,u=.agg (opCells o.1 sp sf o.2.2.2 sk si).toArray∧RdV M (.row .str) o.2.1 (slV sp)∧RdV M (.row .str) o.2.2.1 (slV sf)∧RdV M .tree o.2.2.2 (.agg (ocells o.2.2.2 sk si).toArray):=by
 unfold RdV at h
 simp only [aggT,if_true] at h
 obtain⟨cs,rfl,c1,c2,rfl,h1,c3,c4,rfl,h2,c5,c6,rfl,h3,h4⟩:=h
 have h1:c1=[.string o.1]:=h1
 subst h1
 obtain⟨v2,e2,a2,cp2,q2,g2⟩:=h2
 obtain⟨v3,e3,a3,cp3,q3,g3⟩:=h3
 subst e2;subst e3;subst q2;subst q3
 have h4':RdV M .tree o.2.2.2 (.agg c6.toArray):=by unfold RdV;simp only [aggT,if_true];exact⟨_,rfl,h4⟩
 obtain⟨sk,si,e4,_⟩:=rdTree h4'
 have e5:c6=ocells o.2.2.2 sk si:=by
  injection e4 with e4
  exact congrArg Array.toList e4
 subst e5
 refine⟨⟨a2,o.2.1.length,cp2⟩,⟨a3,o.2.2.1.length,cp3⟩,sk,si,rfl,?_,?_,h4'⟩
 ·rw [rdv1 rfl];exact⟨_,rfl,a2,cp2,rfl,g2⟩
 ·rw [rdv1 rfl];exact⟨_,rfl,a3,cp3,rfl,g3⟩
def Res (h:Heap) (rb:Nat) (D:List Nat) (r:Tr×Int) (K:Value→Heap→Prop):Prop:=∀ h' D',(r.2=0→Doc h' rb r.1 D')→Turn h h' rb D [] D'→K (.int .i64 r.2) h'
theorem turn_no {h h':Heap} {rb:Nat} {D:List Nat} (k:Keep h.size h h'):Turn h h' rb D [] []:=⟨k.size,fun c h1 _ _=>k.get c h1,fun c hc=>by cases hc⟩
theorem Turn.new {h h1 h':Heap} {rb:Nat} {D bs D':List Nat} (H:Turn h1 h' rb D bs D') (k:Keep h.size h h1) (hb:∀ c∈bs,h.size≤c):Turn h h' rb D [] D':=by
 have:=k.size
 refine⟨by have:=H.size;omega,fun c h1 h2 h3=>(H.old c (by omega) h2 h3).trans (k.get c h1),fun c hc=>?_⟩
 rcases H.own c hc with h | h | h
 ·exact .inl h
 ·exact .inr (.inr (hb c h))
 ·exact .inr (.inr (by omega))
theorem res_no {h h':Heap} {rb:Nat} {D:List Nat} {r:Tr×Int} {K:Value→Heap→Prop} (H:Res h rb D r K) (hr:r.2≠0) (k:Keep h.size h h'):K (.int .i64 r.2) h':=H h' [] (fun e=>absurd e hr) (turn_no k)
theorem items_le {v x:Tr} {p:List ByteArray} (hs:tsz v≤4096) (h:findP v p=some x):x.items.length≤1000000000:=by
 have h1:=(findP_item h).1
 have h2:=tszL_len x.items
 rw [tsz_eq] at h1;omega
structure At (gl:Fr) (v:Tr) (h:Heap) (M:Fr) (rb:Nat) (D:List Nat):Prop where
 le:Fr.le gl M
 ag:AgM M h
 doc:Doc h rb v D
 sm:Sm v
 ok:allT nodeOk v=true
 sz:tsz v≤4096
theorem At.keep {gl:Fr} {v:Tr} {h h':Heap} {M:Fr} {rb:Nat} {D:List Nat} (A:At gl v h M rb D) (k:Keep h.size h h'):At gl v h' M rb D:=
 ⟨A.le,A.ag.keep k,A.doc.keep fun c hc=>k.get c (A.doc.lt c hc),A.sm,A.ok,A.sz⟩
theorem At.out {gl:Fr} {v:Tr} {h:Heap} {M:Fr} {rb:Nat} {D:List Nat} (A:At gl v h M rb D) {bs:List Nat} (hb:∀ c∈bs,h.size≤c):∀ c∈bs,c≠rb∧c∉D:=fun c hc=>by
 have:=hb c hc
 exact⟨fun e=>by have:=A.doc.lt c (.inl e);omega,fun hm=>by have:=A.doc.lt c (.inr hm);omega⟩
theorem At.add {gl:Fr} (hg:GL gl) {v w:Tr} {h:Heap} {M:Fr} {rb:Nat} {D:List Nat} (A:At gl v h M rb D) {p:List ByteArray} (hp:SL p) {u2:Value} (hu2:RdV M (.row .str) p u2) {bw:List Nat} {wk wi:Sl} (ow:OT h w bw (ocells w wk wi)) (hbw:∀ c∈bw,c≠rb∧c∉D)
  {h0:Heap} {K:Value→Heap→Prop} (k0:Keep h0.size h0 h) (hb0:∀ c∈bw,h0.size≤c) (hK:Res h0 rb D (orErr (addR v p w)) K):XC Tryz.prog 101 #[.pointer (some ⟨rb,0,none⟩),u2,.agg #[.int .i64 w.kind,.string w.text,slV wk,slV wi]] h K:=by
 refine add_go hg A.sm A.ok hp A.le A.ag A.doc hu2 ow hbw (fun x hx=>items_le A.sz hx) (fun hn h' k=>?_) fun t ht h' D' hD' tn=>?_
 ·rw [hn] at hK
  exact res_no hK (by simp [orErr]) (k0.trans k k0.size)
 ·rw [ht] at hK
  exact hK h' D' (fun _=>hD') (tn.new k0 hb0)
theorem At.at {gl:Fr} (hg:GL gl) {v:Tr} {h:Heap} {M:Fr} {rb:Nat} {D:List Nat} (A:At gl v h M rb D) {p:List ByteArray} (hp:SL p) {u2:Value} (hu2:RdV M (.row .str) p u2) {K:Value→Heap→Prop}
  (hno:findP v p=none→∀ h',Keep h.size h h'→K (.pointer none) h')
  (hyes:∀ x,findP v p=some x→∀ h' pa,Keep h.size h h'→Plc h' D rb pa x (fun y=>setP v p y)→K (.pointer (some pa)) h'):
  XC Tryz.prog 102 #[.pointer (some ⟨rb,0,none⟩),u2] h K:=
 at_go hg A.sm A.ok hp A.le A.ag A.doc hu2 hno fun x hx _ _ h' pa k plc=>hyes x hx h' pa k plc
theorem At.find_sm {gl:Fr} {v x:Tr} {h:Heap} {M:Fr} {rb:Nat} {D:List Nat} (A:At gl v h M rb D) {p:List ByteArray} (hf:findP v p=some x):Sm x:=by
 obtain⟨h1,h2,_⟩:=findP_item hf
 exact⟨by have:=A.sm.sz;omega,h2 _ A.sm.tx⟩
theorem doAdd_go {gl:Fr} (hg:GL gl) {v:Tr} {h:Heap} {M:Fr} {rb:Nat} {D:List Nat} (A:At gl v h M rb D) {o:OpT} (hp:SL o.2.1) (hw:Sm o.2.2.2) (ho:openT o.2.2.2=true) {u:Value} (hu:RdV M opTy o u) {K:Value→Heap→Prop} (hK:Res h rb D (orErr (addR v o.2.1 o.2.2.2)) K):
  XC Tryz.prog 59 #[.pointer (some ⟨rb,0,none⟩),u] h K:=by
 obtain⟨sp,sf,sk,si,rfl,r1,r2,r3⟩:=rdOp hu
 apply sh_patch_doc_doAdd (some ⟨rb,0,none⟩) o.1 sp sf o.2.2.2.kind o.2.2.2.text sk si
 intro h1
 have k1:Keep h.size h h1:=Keep.push _ _ (Nat.le_refl _)
 have b1:Blk h1 h.size (opCells o.1 sp sf o.2.2.2 sk si).toArray:=Blk.new _ _ _
 have z1:h1.size=h.size+1:=Array.size_push _
 clear_value h1
 have A1:=A.keep k1
 refine⟨sp,b1.cellAdd (by rfl),o.2.2.2.kind,o.2.2.2.text,sk,si,?_,?_⟩
 ·rw [add_none];exact ldBlk b1 (vs:=ocells o.2.2.2 sk si) (o:=0+3) (i:=0) rfl
 refine Copy_on hg hw ho A1.le A1.ag r3 fun h8 bs ck ci k8 ot hbs=>⟨o.2.2.2.kind,o.2.2.2.text,ck,ci,rfl,k8,?_⟩
 have A8:=A1.keep k8
 refine A8.add hg hp r1 ot (A1.out hbs) (h0:=h) (k1.trans k8 (by omega)) (fun c hc=>by have:=hbs c hc;omega) fun h' D' hD tn=>⟨_,rfl,hK h' D' hD tn⟩
theorem doRemove_go {gl:Fr} (hg:GL gl) {v:Tr} {h:Heap} {M:Fr} {rb:Nat} {D:List Nat} (A:At gl v h M rb D) {o:OpT} (hp:SL o.2.1) {u:Value} (hu:RdV M opTy o u) {K:Value→Heap→Prop}
  (hK:Res h rb D (match findP v o.2.1 with
   | none=>(zT,8)
   | some _=>if o.2.1=[] then(zT,1) else(remR v o.2.1,0)) K):
  XC Tryz.prog 60 #[.pointer (some ⟨rb,0,none⟩),u] h K:=by
 obtain⟨sp,sf,sk,si,rfl,r1,r2,r3⟩:=rdOp hu
 apply sh_patch_doc_doRemove (some ⟨rb,0,none⟩) o.1 sp sf o.2.2.2.kind o.2.2.2.text sk si
 intro h1
 have k1:Keep h.size h h1:=Keep.push _ _ (Nat.le_refl _)
 have b1:Blk h1 h.size (opCells o.1 sp sf o.2.2.2 sk si).toArray:=Blk.new _ _ _
 have z1:h1.size=h.size+1:=Array.size_push _
 clear_value h1
 have A1:=A.keep k1
 refine⟨sp,b1.cellAdd (by rfl),?_⟩
 refine A1.at hg hp r1 (fun hn h4 k4=>⟨none,rfl,(fun _=>?_),fun hc=>by cases hc⟩) fun x hx h4 pa k4 plc=>⟨some pa,rfl,(fun hc=>by cases hc),fun _=>⟨sp,(b1.ofKeep k4).cellAdd (by rfl),?_⟩⟩
 ·rw [hn] at hK
  exact res_no hK (by simp) (k1.trans k4 (by omega))
 ·rw [hx] at hK
  have A4:=A1.keep k4
  have k04:Keep h.size h h4:=k1.trans k4 (by omega)
  simp only at hK
  refine remove_go hg A4.sm A4.ok hp A4.le A4.ag A4.doc r1 (fun hne hl=>?_) (fun y hy=>items_le A4.sz hy) (fun h0=>⟨1,rfl,?_⟩) fun y j hl hy hj hjl h' D' hD' tn=>⟨0,rfl,?_⟩
  ·obtain⟨y,q1,k,q2,q3⟩:=findP_last hne hx
   exact⟨y,q1,by rw [lst_get hl,q2];omega⟩
  ·rw [if_pos h0] at hK
   exact res_no hK (by simp) k04
  ·rw [if_neg (fun e=>by rw [e] at hl;simp at hl)] at hK
   refine hK h' D' (fun _=>?_) (tn.new k04 fun c hc=>by cases hc)
   have:remR v o.2.1=setP v (o.2.1.take (o.2.1.length - 1)) (delI y j):=by
    unfold remR iniP
    rw [hy]
    simp only
    rw [← lst_get hl,hj];rfl
   rw [this];exact hD'
theorem doReplace_go {gl:Fr} (hg:GL gl) {v:Tr} {h:Heap} {M:Fr} {rb:Nat} {D:List Nat} (A:At gl v h M rb D) {o:OpT} (hp:SL o.2.1) (hw:Sm o.2.2.2) (ho:openT o.2.2.2=true) {u:Value} (hu:RdV M opTy o u) {K:Value→Heap→Prop}
  (hK:Res h rb D (match findP v o.2.1 with
   | none=>(zT,8)
   | some _=>(setP v o.2.1 o.2.2.2,0)) K):
  XC Tryz.prog 61 #[.pointer (some ⟨rb,0,none⟩),u] h K:=by
 obtain⟨sp,sf,sk,si,rfl,r1,r2,r3⟩:=rdOp hu
 apply sh_patch_doc_doReplace (some ⟨rb,0,none⟩) o.1 sp sf o.2.2.2.kind o.2.2.2.text sk si
 intro h1
 have k1:Keep h.size h h1:=Keep.push _ _ (Nat.le_refl _)
 have b1:Blk h1 h.size (opCells o.1 sp sf o.2.2.2 sk si).toArray:=Blk.new _ _ _
 have z1:h1.size=h.size+1:=Array.size_push _
 clear_value h1
 have A1:=A.keep k1
 refine⟨sp,b1.cellAdd (by rfl),?_⟩
 refine A1.at hg hp r1 (fun hn h4 k4=>⟨none,rfl,(fun _=>?_),fun hc=>by cases hc⟩) fun x hx h4 pa k4 plc=>⟨some pa,rfl,(fun hc=>by cases hc),fun _=>⟨o.2.2.2.kind,o.2.2.2.text,sk,si,?_,?_⟩⟩
 ·rw [hn] at hK
  exact res_no hK (by simp) (k1.trans k4 (by omega))
 ·rw [add_none];exact ldBlk (b1.ofKeep k4) (vs:=ocells o.2.2.2 sk si) (o:=0+3) (i:=0) rfl
 rw [hx] at hK
 have A4:=A1.keep k4
 have z4:=k4.size
 have k04:Keep h.size h h4:=k1.trans k4 (by omega)
 refine Copy_on hg hw ho A4.le A4.ag r3 fun h8 bs ck ci k8 ot hbs=>⟨o.2.2.2.kind,o.2.2.2.text,ck,ci,rfl,pa,rfl,?_⟩
 have z8:=k8.size
 have plc8:=Plc.keepK plc (by have:=A.doc.lt rb (.inl rfl);omega) k8
 have hout:=A4.out hbs
 obtain⟨b,of,cs,bx,rfl,hb,hfit,ot',hbx,hbase,hbxb,hnoD,hlt,hcl⟩:=plc8
 have hbn:∀ c,c≠rb→c∉D→c≠b:=fun c q1 q2 e=>by
  rcases hbase with h | h
  ·exact q1 (by rw [e,h])
  ·exact q2 (by rw [e];exact h)
 refine storeN (vs:=ocells o.2.2.2 ck ci) okTree' hb rfl szTree' (by show of+4≤_;omega) (ocells_one _ ck ci) fun h' b' z' f'=>?_
 obtain⟨D',hD',hsub⟩:=hcl h' o.2.2.2 (ocells o.2.2.2 ck ci) bs (fun c n1 _ _=>f' c n1) b' (ot.frame fun c hc=>f' c (hbn c (hout c hc).1 (hout c hc).2)) (fun c hc=>.inr (hout c hc))
 refine hK h' D' (fun _=>hD') ⟨by omega,fun c q1 q2 q3=>(f' c (hbn c q2 q3)).trans ((k8.get c (by omega)).trans (k04.get c q1)),fun c hc=>?_⟩
 rcases hsub c hc with hc | hc
 ·exact .inl hc
 ·exact .inr (.inr (by have:=hbs c hc;omega))
theorem doCopy_go {gl:Fr} (hg:GL gl) {v:Tr} {h:Heap} {M:Fr} {rb:Nat} {D:List Nat} (A:At gl v h M rb D) {o:OpT} (hp:SL o.2.1) (hf:SL o.2.2.1) (hv:openT v=true) {u:Value} (hu:RdV M opTy o u) {K:Value→Heap→Prop}
  (hK:Res h rb D (match findP v o.2.2.1 with
   | none=>(zT,8)
   | some y=>orErr (addR v o.2.1 y)) K):
  XC Tryz.prog 63 #[.pointer (some ⟨rb,0,none⟩),u] h K:=by
 obtain⟨sp,sf,sk,si,rfl,r1,r2,r3⟩:=rdOp hu
 apply sh_patch_doc_doCopy (some ⟨rb,0,none⟩) o.1 sp sf o.2.2.2.kind o.2.2.2.text sk si
 intro h1
 have k1:Keep h.size h h1:=Keep.push _ _ (Nat.le_refl _)
 have b1:Blk h1 h.size (opCells o.1 sp sf o.2.2.2 sk si).toArray:=Blk.new _ _ _
 have z1:h1.size=h.size+1:=Array.size_push _
 clear_value h1
 have A1:=A.keep k1
 refine⟨sf,b1.cellAdd (by rfl),?_⟩
 refine A1.at hg hf r2 (fun hn h4 k4=>⟨none,rfl,(fun _=>?_),fun hc=>by cases hc⟩) fun x hx h4 pa k4 plc=>⟨some pa,rfl,(fun hc=>by cases hc),fun _=>⟨sp,(b1.ofKeep k4).cellAdd (by rfl),pa,rfl,?_⟩⟩
 ·rw [hn] at hK
  exact res_no hK (by simp) (k1.trans k4 (by omega))
 rw [hx] at hK
 have A4:=A1.keep k4
 have z4:=k4.size
 have k04:Keep h.size h h4:=k1.trans k4 (by omega)
 obtain⟨xk,xi,bx,hld,ot,hbx,_⟩:=Plc.ld plc
 refine⟨x.kind,x.text,xk,xi,hld,?_⟩
 refine Copy_on hg (A4.find_sm hx) (openT_find hv hx) (A4.le.trans (le_MxL A4.ag bx)) (MxL.ag A4.ag bx) ot.rdv fun h8 bs ck ci k8 ot8 hbs=>⟨x.kind,x.text,ck,ci,rfl,k8,?_⟩
 have A8:=A4.keep k8
 refine A8.add hg hp r1 ot8 (A4.out hbs) (h0:=h) (k04.trans k8 (by omega)) (fun c hc=>by have:=hbs c hc;omega) fun h' D' hD tn=>⟨_,rfl,hK h' D' hD tn⟩
end Go.Proofs.YtbploiccompocaaGreatDoor
end
section
namespace Go.Proofs.YtbploiccompocaaGreatDoor
open Go Go.X Go.Proofs
set_option linter.unusedVariables false
theorem num1:nmText (numParse (Lib.itoa 1)).1=[49]:=by kernel_rfl
theorem num2:nmText (numParse (Lib.itoa 2)).1=[50]:=by kernel_rfl
def smT:Tr:=.mk 6 ⟨#[]⟩ [⟨#[97]⟩] [.mk 5 ⟨#[]⟩ [] [.mk 3 (bl [49]) [] [],.mk 3 (bl [50]) [] []]]
theorem smT_sm:Sm smT:=by
 refine Sm.few ?_ ?_
 ·have:tks smT=5:=by kernel_rfl
  omega
 ·have leaf:∀ b:Bs,b.length≤2048→txS (.mk 3 (bl b) [] []):=fun b hb=>by
   rw [txS,txSL];exact⟨⟨by rw [bl_size];exact hb,by simp⟩,trivial⟩
  unfold smT
  rw [txS,txSL,txSL,txS,txSL,txSL,txSL]
  exact⟨⟨by decide,by decide⟩,⟨⟨by decide,by simp⟩,leaf _ (by decide),leaf _ (by decide),trivial⟩,trivial⟩
theorem sl_small {l:List ByteArray} (h:l.length≤1000000) (h2:∀ x∈l,x.size≤1048576):SL l:=⟨h,fun x hx=>by rw [lb_len];exact h2 x hx⟩
end Go.Proofs.YtbploiccompocaaGreatDoor
end
section
namespace Go.Proofs.YtbploiccompocaaGreatDoor
open Go Go.X Go.Proofs
set_option linter.unusedVariables false
theorem right1_pc {gl:Fr} (hg:GL gl) {v:Tr} (hv:Sm v) {R:Bool→Prop} (h:R (decide (v.kind≠7) && nodeOk v)):PC Tryz.prog gl 46 [Arg.mk .tree v] [.bool] R:=by
 apply pu_value_Right_1
 simp only [tr_eta]
 refine⟨fun b=>b=nodeOk v,fun _=>node_pc hg hv rfl,fun b hb=>?_⟩
 cases hk:(v.kind != 7) with
 | false=>
  have e:v.kind=7:=by simpa using hk
  have:(decide (v.kind≠7) && nodeOk v)=false:=by simp [e]
  rw [this] at h
  simpa [hk] using h
 | true=>
  have e:v.kind≠7:=by simpa using hk
  have hb:=hb hk
  subst hb
  have:(decide (v.kind≠7) && nodeOk v)=nodeOk v:=by simp [e]
  rw [this] at h
  simpa [hk] using h
theorem vRight_pc {gl:Fr} (hg:GL gl) {v:Tr} (hv:Sm v) {R:Bool→Prop} (hR:R (rightT v)):PC Tryz.prog gl 21 [Arg.mk .tree v] [.bool] R:=by
 intro h M vs hM ag ha
 match vs,ha with
 | [u],⟨hu,_⟩=>
  have hu:RdV M .tree v u:=hu
  have hu0:=hu
  obtain⟨sk,si,rfl,rk,ri⟩:=rdTree hu
  apply PX.of
  apply sh_value_Right v.kind v.text sk si
  intro h1
  have L1:Later h M h1 M:=Later.push ag _
  have s1:h1.size=h.size+1:=Array.size_push _
  have hbox:∀ h':Heap,Keep h1.size h1 h'→ldList h' ⟨h.size,0,none⟩ 0 [.int .i64 v.kind,.string v.text,slV sk,slV si]:=fun h' k=>ldNew (h':=h') (by rw [s1] at k;exact k)
  clear_value h1
  refine⟨v.kind,v.text,sk,si,hbox h1 (Keep.refl _ _),?_⟩
  have hsz:PC Tryz.prog gl 44 [Arg.mk .tree v] [.bool] (fun r=>r=sizedT v):=sized_pc hv rfl
  refine hsz.go (vs:=[.agg #[.int .i64 v.kind,.string v.text,slV sk,slV si]]) (hM.trans L1.le) L1.ag (args1 (RdV.mono L1.le hu0) args0) fun w h2 M2 r L2 hret hr=>?_
  refine⟨r,retB hret,v.kind,v.text,sk,si,fun _=>hbox h2 L2.keep,?_⟩
  have L2':=L1.trans L2
  refine⟨fun w h4=>∃ b,w=.bool b∧(r=true→b=allT (fun x=>decide (x.kind≠7) && nodeOk x) v)∧∃ M4,Later h M h4 M4,fun hrt=>?_,fun hrf=>⟨true,true,rfl,fun e=>(by rw [e] at hrf;cases hrf),M2,L2'⟩,fun _ w h4 ⟨b,e,_⟩=>⟨b,e⟩,?_⟩
  ·refine(every_px (F:=46) (by kernel_rfl) (p:=fun x=>decide (x.kind≠7) && nodeOk x) (fun x hx=>right1_pc hg hx rfl) v hv (hM.trans L2'.le) L2.ag (RdV.mono L2'.le hu0)).go fun w h3 M3 b L3 hret3 hb3=>⟨b,retB hret3,b,rfl,fun _=>hb3,M3,L2'.trans L3⟩
  ·rintro b h4 ⟨b',e,hb,M4,L4⟩
   cases e
   refine⟨M4,_,L4,ret1.2 (rdBool _),?_⟩
   unfold rightT at hR
   rw [← hr] at hR
   cases r with
   | false=>exact hR
   | true=>rw [cond_true,hb rfl];exact hR
theorem zero_pc {gl:Fr} {v:Tr} (hk:v.keys.length≤1000000000) (hi:v.items.length≤1000000000000) {R:Bool→Prop} (h:R (zeroT v)):PC Tryz.prog gl 38 [Arg.mk .tree v] [.bool] R:=by
 apply pu_patch_zero
 have e:(bif (bif ((v.kind:Int)==0) then((v.text:ByteArray).toList==((⟨#[]⟩:ByteArray):ByteArray).toList) else false) then((IntKind.wrap .i64 (((List.length v.keys:Nat):Int)+((List.length v.items:Nat):Int)):Int)==0) else false)=zeroT v:=by
  rw [w64 (by omega),Bool.eq_iff_iff]
  unfold zeroT
  simp only [Bool.cond_false_right,Bool.and_eq_true,beq_iff_eq,decide_eq_true_eq,ByteArray.toList_eq,lb]
  constructor
  ·rintro⟨⟨h1,h2⟩,h3⟩
   exact⟨h1,h2,List.eq_nil_of_length_eq_zero (by omega),List.eq_nil_of_length_eq_zero (by omega)⟩
  ·rintro⟨h1,h2,h3,h4⟩
   exact⟨⟨h1,h2⟩,by rw [h3,h4];rfl⟩
 rw [e];exact h
end Go.Proofs.YtbploiccompocaaGreatDoor
end
section
namespace Go.X
open Go Go.ChangeMaps
set_option linter.unusedVariables false
def MapW (h:Heap) (m:Nat) (l:List (Value×Value)):Prop:=
 ∃ es clock,h[m]?=some (.map es clock)∧es.toList.map (fun e=>(e.key,e.val))=l∧(∀ e∈es.toList,e.born < clock)∧(es.toList.map (·.born)).Nodup
theorem MapW.keep {h h':Heap} {m:Nat} {l:List (Value×Value)} (H:MapW h m l) (k:h'[m]?=h[m]?):MapW h' m l:=by
 obtain⟨es,c,h1,h2⟩:=H;exact⟨es,c,k.trans h1,h2⟩
theorem MapW.lt {h:Heap} {m:Nat} {l:List (Value×Value)} (H:MapW h m l):m < h.size:=by
 obtain⟨es,c,h1,h2⟩:=H;exact(Array.getElem?_eq_some_iff.1 h1).1
theorem MapW.new (h:Heap):MapW (h.push (.map #[] 0)) h.size []:=⟨#[],0,get_push _ _,rfl,by simp,by simp⟩
def strP (l:List (ByteArray×Value)):List (Value×Value):=l.map fun p=>(Value.string p.1,p.2)
theorem MapW.at {h:Heap} {m:Nat} {l:List (ByteArray×Value)} (H:MapW h m (strP l)):MapAt h m l:=by
 obtain⟨es,c,h1,h2,_⟩:=H;exact⟨es,c,h1,h2⟩
theorem update_w {P:Program} {t kt et:TypeId} {z:Value} (T:MapT P t kt et z) {h:Heap} {m:Nat} {l:List (ByteArray×Value)} (H:MapW h m (strP l)) (k:ByteArray) (v:Value) {K:Heap→Prop}
  (hK:∀ h':Heap,MapW h' m (strP (setL l k v))→h'.size=h.size→(∀ i,i≠m→h'[i]?=h[i]?)→K h'):XRunU P (Instr.mapUpdate t (.map (some m)) (.string k) v) h K:=by
 have hlt:=H.lt
 obtain⟨es,c,h1,h2,h3,h4⟩:=H
 intro B d
 have hu:=QExec.underlying (h:=h) T.map B d
 have hg:=getMap_run (P:=P) h1 B d
 have hc:=checkKey_str T.key false k h B d
 have set_run:∀ o:Obj,(setObj m o).run P (mk B d h)=.ok () (mk B d (h.setIfInBounds m o)):=by
  intro o
  have:(mk B d h).heap[m]?=some (.map es c):=h1
  simp [setObj,Sem.run,this]
  rfl
 unfold Instr.mapUpdate
 rcases findNow_str k es.toList l 0 h2 with⟨g1,g2⟩| ⟨j,v0,e,g1,g2,g3,g4,g5,g6⟩
 ·refine⟨d,h.setIfInBounds m (.map (es.push { key:=.string k,val:=v,born:=c }) (c+1)),?_,hK _ ⟨es.push { key:=.string k,val:=v,born:=c },c+1,by simp [hlt],?_,?_,?_⟩ (by simp) (fun i hi=>by rw [Array.getElem?_setIfInBounds_ne (Ne.symm hi)])⟩
  ·rw [Sem.run_bind,hu]
   simp only [Result.andThen_ok,Sem.run_bind,hg,hc]
   rw [findKey_str T.key k es.toList none h g2 B d]
   simp only [Result.andThen_ok]
   exact set_run _
  ·rw [setL_append g1]
   unfold strP at h2 ⊢
   simp [h2]
  ·intro e he
   simp at he
   rcases he with he | rfl
   ·have:=h3 e (by simpa using he);omega
   ·simp
  ·simp only [Array.toList_push,List.map_append,List.map_cons,List.map_nil]
   rw [List.nodup_append]
   refine⟨h4,by simp,fun x hx y hy e=>?_⟩
   simp at hy
   obtain⟨e',he',rfl⟩:=List.mem_map.1 hx
   have:=h3 e' he';omega
 ·have hlen:j < es.size:=by
   have:=(List.getElem?_eq_some_iff.1 g2).1
   simpa using this
  have hborn:((es.modify j fun e=>{ e with key:=.string k,val:=v }).toList.map (·.born))=es.toList.map (·.born):=by
   apply List.ext_getElem?
   intro i
   simp only [Array.toList_modify,List.getElem?_map,List.getElem?_modify]
   by_cases hij:j=i
   ·subst hij;cases es.toList[j]? <;> simp
   ·cases es.toList[i]? <;> simp [hij]
  refine⟨d,_,?_,hK (h.setIfInBounds m (.map (es.modify j fun e=>{ e with key:=.string k,val:=v }) c)) ⟨es.modify j fun e=>{ e with key:=.string k,val:=v },c,by simp [hlt],?_,?_,?_⟩ (by simp) (fun i hi=>by rw [Array.getElem?_setIfInBounds_ne (Ne.symm hi)])⟩
  ·rw [Sem.run_bind,hu]
   simp only [Result.andThen_ok,Sem.run_bind,hg,hc]
   rw [findKey_str T.key k es.toList _ h g5 B d]
   simp only [Result.andThen_ok,Nat.zero_add]
   have hkey:((es[j]?).map (·.key)).getD (.string k)=.string k:=by
    have:es[j]?=some e:=by simpa using g2
    rw [this];exact g3
   rw [hkey]
   have hs:Instr.keyThatStays (.string k) (.string k)=pure (.string k):=by
    unfold Instr.keyThatStays
    rw [if_pos (by show(k==k)=true;rw [ba_beq];simp)]
   rw [hs]
   exact set_run _
  ·have:=g6 v
   unfold strP
   simpa using this
  ·intro e' he'
   have:e'.born∈((es.modify j fun e=>{ e with key:=.string k,val:=v }).toList.map (·.born)):=List.mem_map.2 ⟨e',he',rfl⟩
   rw [hborn] at this
   obtain⟨e2,he2,e3⟩:=List.mem_map.1 this
   rw [← e3];exact h3 e2 he2
  ·rw [hborn];exact h4
def MapIt (h:Heap) (r m:Nat) (l:List (Value×Value)) (dn:List Value):Prop:=
 ∃ es clock since seen c,h[r]?=some (.mapIter (some m) since seen c)∧h[m]?=some (.map es clock)∧es.toList.map (fun e=>(e.key,e.val))=l∧(∀ e∈es.toList,e.born < since)∧since≤c∧since≤clock∧(es.toList.map (·.born)).Nodup ∧
  ∀ e∈es.toList,seen.contains e.born=true↔e.key∈dn
theorem MapIt.keep {h h':Heap} {r m:Nat} {l:List (Value×Value)} {dn:List Value} (H:MapIt h r m l dn) (k1:h'[r]?=h[r]?) (k2:h'[m]?=h[m]?):MapIt h' r m l dn:=by
 obtain⟨es,clock,since,seen,c,h1,h2,h3⟩:=H
 exact⟨es,clock,since,seen,c,k1.trans h1,k2.trans h2,h3⟩
def MapCur (h:Heap) (r m:Nat) (k v:Value):Prop:=
 ∃ (es:Array MapEntry) (clock since:Nat) (seen:Array Nat) (e:MapEntry),h[r]?=some (.mapIter (some m) since (seen.push e.born) clock)∧h[m]?=some (.map es clock)∧e∈es.toList∧(es.toList.map (·.born)).Nodup∧e.key=k∧e.val=v
theorem range_go {P:Program} {t kt et:TypeId} (ht:P.underlying t=some (.map kt et)) {h:Heap} {m:Nat} {l:List (Value×Value)} (H:MapW h m l) {K:Value→Heap→Prop}
  (hK:∀ h',h'.size=h.size+1→Keep h.size h h'→MapIt h' h.size m l []→K (.pointer (some ⟨h.size,0,none⟩)) h'):XRun P (Instr.range t (.map (some m))) h K:=by
 have hlt:=H.lt
 obtain⟨es,c,h1,h2,h3,h4⟩:=H
 intro B d
 have hu:=QExec.underlying (h:=h) ht B d
 have hg:=getMap_run (P:=P) h1 B d
 refine⟨.pointer (some ⟨h.size,0,none⟩),d,h.push (.mapIter (some m) c #[] c),?_,hK _ (by simp) (Keep.push _ _ (Nat.le_refl _)) ⟨es,c,c,#[],c,get_push _ _,?_,h2,h3,Nat.le_refl _,Nat.le_refl _,h4,fun e he=>by simp⟩⟩
 ·unfold Instr.range
  rw [Sem.run_bind,hu]
  simp only [Result.andThen_ok,Sem.run_bind,hg,Sem.run_pure]
  rfl
 ·rw [Array.getElem?_push,if_neg (by omega)];exact h1
theorem nodup_born {es:List MapEntry} (h:(es.map (·.born)).Nodup) {a b:MapEntry} (ha:a∈es) (hb:b∈es) (e:a.born=b.born):a=b:=by
 induction es with
 | nil=>cases ha
 | cons x es ih=>
  rw [List.map_cons,List.nodup_cons] at h
  rcases List.mem_cons.1 ha with h1 | h1
  ·rcases List.mem_cons.1 hb with h2 | h2
   ·rw [h1,h2]
   ·exact(h.1 (List.mem_map.2 ⟨b,h2,by rw [← e,h1]⟩)).elim
  ·rcases List.mem_cons.1 hb with h2 | h2
   ·exact(h.1 (List.mem_map.2 ⟨a,h1,by rw [e,h2]⟩)).elim
   ·exact ih h.2 h1 h2
theorem nodup_key {es:List MapEntry} (h:(es.map (·.key)).Nodup) {a b:MapEntry} (ha:a∈es) (hb:b∈es) (e:a.key=b.key):a=b:=by
 induction es with
 | nil=>cases ha
 | cons x es ih=>
  rw [List.map_cons,List.nodup_cons] at h
  rcases List.mem_cons.1 ha with h1 | h1
  ·rcases List.mem_cons.1 hb with h2 | h2
   ·rw [h1,h2]
   ·exact(h.1 (List.mem_map.2 ⟨b,h2,by rw [← e,h1]⟩)).elim
  ·rcases List.mem_cons.1 hb with h2 | h2
   ·exact(h.1 (List.mem_map.2 ⟨a,h1,by rw [e,h2]⟩)).elim
   ·exact ih h.2 h1 h2
def leftN (h:Heap) (r m:Nat):Nat:=match h[r]?,h[m]? with
 | some (.mapIter _ _ seen _),some (.map es _)=>(es.toList.filter fun e=>!seen.contains e.born).length
 | _,_=>0
theorem leftN.keep {h h':Heap} {r m:Nat} (k1:h'[r]?=h[r]?) (k2:h'[m]?=h[m]?):leftN h' r m=leftN h r m:=by unfold leftN;rw [k1,k2]
theorem filter_le {α:Type} {p q:α→Bool} (h:∀ x,p x=true→q x=true):∀ l:List α,(l.filter p).length≤(l.filter q).length
 | []=>Nat.le_refl _
 | x::l=>by
  have:=filter_le h l
  rw [List.filter_cons,List.filter_cons]
  by_cases hp:p x=true
  ·rw [if_pos hp,if_pos (h x hp)];simp;omega
  ·rw [if_neg hp]
   split
   ·simp;omega
   ·exact this
theorem filter_lt {α:Type} {p q:α→Bool} (h:∀ x,p x=true→q x=true) {e:α} (h1:p e=false) (h2:q e=true):∀ l:List α,e∈l→(l.filter p).length < (l.filter q).length
 | [],he=>by cases he
 | x::l,he=>by
  rw [List.filter_cons,List.filter_cons]
  rcases List.mem_cons.1 he with rfl | he
  ·have:=filter_le h l
   rw [if_neg (by rw [h1];simp),if_pos h2];simp;omega
  ·have:=filter_lt h h1 h2 l he
   by_cases hp:p x=true
   ·rw [if_pos hp,if_pos (h x hp)];simp;omega
   ·rw [if_neg hp]
    split
    ·simp;omega
    ·exact this
theorem next_go {P:Program} {ty:TypeId} {h:Heap} {r m:Nat} {l:List (Value×Value)} {dn:List Value} (H:MapIt h r m l dn) (hn:(l.map (·.1)).Nodup) (hrm:r≠m) {K:Value→Heap→Prop}
  (hend:(∀ p∈l,p.1∈dn)→K (.tuple #[.bool false]) h)
  (hnext:∀ k v,(k,v)∈l→k∉dn→∀ h',MapIt h' r m l (k::dn)→MapCur h' r m k v→h'.size=h.size→(∀ j,j≠r→h'[j]?=h[j]?)→leftN h' r m < leftN h r m→K (.tuple #[.bool true,k,v]) h'):
  XRun P (Instr.next (.pointer (some ⟨r,0,none⟩)) false ty) h K:=by
 obtain⟨es,clock,since,seen,c,h1,h2,h3,h4,h5,h6,h7,h8⟩:=H
 intro B d
 have hk:(es.toList.map (·.key)).Nodup:=by
  have e:es.toList.map (·.key)=l.map (·.1):=by rw [← h3,List.map_map];rfl
  rw [e];exact hn
 rcases run_next_at (P:=P) (mk B d h) ty r m since c seen es clock h1 h2 h4 h5 with⟨e0,e1⟩| ⟨e,he,w1,hw,e1⟩
 ·refine⟨_,d,h,e1,hend fun p hp=>?_⟩
  rw [← h3] at hp
  obtain⟨x,hx,rfl⟩:=List.mem_map.1 hp
  refine(h8 x hx).1 ?_
  have:leftOf es seen=#[]:=Array.eq_empty_of_size_eq_zero e0
  unfold leftOf at this
  rw [Array.filter_eq_empty_iff] at this
  have:=this x (by simpa using hx)
  simpa using this
 ·have hem:e∈es.toList∧seen.contains e.born=false:=by
   unfold leftOf at he
   simpa using he
  have hr:r < h.size:=(Array.getElem?_eq_some_iff.1 h1).1
  have hset:∃ d',setBlock w1 r (.mapIter (some m) since (seen.push e.born) clock)=mk B d' (h.setIfInBounds r (.mapIter (some m) since (seen.push e.born) clock)):=by
   rcases hw with rfl | rfl
   ·exact⟨d,rfl⟩
   ·exact⟨d+1,rfl⟩
  obtain⟨d',hd'⟩:=hset
  rw [hd'] at e1
  have hmm:(h.setIfInBounds r (.mapIter (some m) since (seen.push e.born) clock))[m]?=some (.map es clock):=by rw [Array.getElem?_setIfInBounds_ne hrm];exact h2
  have hrr:(h.setIfInBounds r (.mapIter (some m) since (seen.push e.born) clock))[r]?=some (.mapIter (some m) since (seen.push e.born) clock):=by simp [hr]
  refine⟨_,d',_,e1,hnext e.key e.val (by rw [← h3];exact List.mem_map.2 ⟨e,hem.1,rfl⟩) (fun hm=>?_) _ ⟨es,clock,since,seen.push e.born,clock,hrr,hmm,h3,h4,h6,h6,h7,fun x hx=>?_⟩ ⟨es,clock,since,seen,e,hrr,hmm,hem.1,h7,rfl,rfl⟩ (by simp) (fun j hj=>by rw [Array.getElem?_setIfInBounds_ne (Ne.symm hj)]) ?_⟩
  ·have:=(h8 e hem.1).2 hm
   rw [hem.2] at this;cases this
  ·rw [List.mem_cons,← h8 x hx]
   simp only [Array.contains_eq_mem,Array.mem_push,decide_eq_true_eq]
   constructor
   ·rintro(h | h)
    ·exact .inr h
    ·exact .inl (by rw [nodup_born h7 hx hem.1 h])
   ·rintro(h | h)
    ·exact .inr (by rw [nodup_key hk hx hem.1 h])
    ·exact .inl h
  ·unfold leftN
   rw [hrr,hmm,h1,h2]
   refine filter_lt (e:=e) (fun x hx=>?_) ?_ ?_ _ hem.1
   ·simp only [Array.contains_eq_mem,Array.mem_push] at hx ⊢
    simp at hx ⊢
    exact hx.1
   ·simp
   ·rw [hem.2];rfl
theorem entry_go {P:Program} {h:Heap} {r m:Nat} {k v:Value} (H:MapCur h r m k v) {K:Value→Heap→Prop} (hK:K (.tuple #[k,v]) h):XRun P (Instr.entry (.pointer (some ⟨r,0,none⟩))) h K:=by
 obtain⟨es,clock,since,seen,e,h1,h2,h3,h4,rfl,rfl⟩:=H
 intro B d
 exact⟨_,d,h,run_entry_at (P:=P) (mk B d h) r m since seen es clock e h1 h2 h3 h4,hK⟩
theorem len_map {P:Program} {t:TypeId} {ty:TypeId} {kt et:TypeId} (ht:P.underlying t=some (.map kt et)) {h:Heap} {m:Nat} {l:List (Value×Value)} (H:MapW h m l):QExec P (Builtin.len_ #[t] ty #[.map (some m)]) h (.int .i64 (l.length:Int)):=by
 obtain⟨es,c,h1,h2,_⟩:=H
 intro B d
 have hu:=QExec.underlying (h:=h) ht B d
 have hg:=getMap_run (P:=P) h1 B d
 have hl:l.length=es.size:=by rw [← h2];simp
 simp [Builtin.len_,hu,hg,goInt,hl]
end Go.X
end
section
namespace Go.X
open Go Go.Lib
set_option linter.unusedVariables false
def memT (kb:List ByteArray) (ys:List Tr) (q:Tr→Tr→Bool) (k:ByteArray) (x:Tr):Bool:=match ys[(idxOfS kb k).toNat]? with
 | some y=>decide (0≤idxOfS kb k) && q x y
 | none=>false
theorem sameK_zip (b:Tr):∀ (ks:List ByteArray) (xs:List Tr),ks.length=xs.length→sameK ks xs b=(ks.zip xs).all fun p=>memT b.keys b.items sameT p.1 p.2
 | [],[],_=>by simp [sameK]
 | k::ks,x::xs,h=>by
  rw [sameK,sameK_zip b ks xs (by simpa using h)]
  rfl
 | [],_::_,h=>by simp at h
 | _::_,[],h=>by simp at h
theorem sameL_zip:∀ (xs ys:List Tr),xs.length=ys.length→sameL xs ys=(xs.zip ys).all fun p=>sameT p.1 p.2
 | [],[],_=>by simp [sameL]
 | x::xs,y::ys,h=>by
  rw [sameL,sameL_zip xs ys (by simpa using h)]
  rfl
 | [],_::_,h=>by simp at h
 | _::_,[],h=>by simp at h
theorem sameT_eq (a b:Tr):sameT a b=(decide (a.kind=b.kind) && (decide (a.text=b.text) && (decide (a.items.length=b.items.length) && (if a.kind=6 then sameK a.keys a.items b else sameL a.items b.items)))):=by cases a;rw [sameT]
theorem zT_sm:Sm zT:=⟨by simp [zT,tsz,tszL],by
 refine(txB_eq _ _).2 ⟨⟨?_,by simp [zT],by simp [zT]⟩,txBL_mem.2 (by simp [zT])⟩
 show(0:Nat)≤_;omega⟩
theorem Sm.find {v x:Tr} {p:List ByteArray} (h:Sm v) (hf:findP v p=some x):Sm x:=by
 obtain⟨h1,h2,_⟩:=findP_item hf
 exact⟨by have:=h.sz;omega,h2 _ h.tx⟩
theorem orErr_sm {v w:Tr} {p:List ByteArray} (hv:Sm v) (hw:Sm w) (ho:allT nodeOk v=true) (h1:tsz v≤1000000) (h2:tsz w≤1000000) (hp:∀ s∈p,s.size≤1048576):Sm (orErr (addR v p w)).1:=by
 cases h:addR v p w with
 | none=>exact zT_sm
 | some t=>exact⟨by have:=addR_sz h;show tsz t≤_;omega,addR_tx h hv.tx hw.tx ho h1 hp⟩
theorem doR_sm {v:Tr} {o:OpT} (hv:Sm v) (ov:openT v=true) (hw:Sm o.2.2.2) (h2:tsz o.2.2.2≤1000000) (hp:∀ s∈o.2.1,s.size≤1048576):Sm (doR v o).1:=by
 have hs:=openT_sz ov
 have ok:=openT_all ov
 unfold doR
 split
 ·split
  ·exact zT_sm
  ·split
   ·exact zT_sm
   ·exact⟨by have:=remR_sz v o.2.1;show tsz (remR v o.2.1)≤_;omega,remR_tx hv.tx _⟩
 ·split
  ·split
   ·exact zT_sm
   ·exact setP_sm hv hw (by omega) _
  ·split
   ·split
    ·exact zT_sm
    ·rename_i y hy
     have hy2:=findP_item hy
     split
     ·split
      ·exact zT_sm
      ·exact hv
     ·rename_i hne
      have hf:o.2.2.1≠[]:=fun e=>hne (by rw [e];simp)
      exact orErr_sm ⟨by have:=remR_sz v o.2.2.1;omega,remR_tx hv.tx _⟩ (hv.find hy) (allT_rem ok hf hy) (by have:=remR_sz v o.2.2.1;omega) (by omega) hp
   ·split
    ·split
     ·exact zT_sm
     ·rename_i y hy
      have hy2:=findP_item hy
      exact orErr_sm hv (hv.find hy) ok (by omega) (by omega) hp
    ·split
     ·split
      ·exact zT_sm
      ·split
       ·exact hv
       ·exact zT_sm
     ·exact orErr_sm hv hw ok (by omega) h2 hp
theorem rightT_sz {v:Tr} (h:rightT v=true):tsz v≤4096:=openT_sz (rightT_open h)
theorem zeroT_sz {v:Tr} (h:zeroT v=true):tsz v=1:=by
 unfold zeroT at h
 have:=(of_decide_eq_true h).2.2.2
 rw [tsz_eq,this];rfl
theorem rightO_sz {o:OpT} (h:rightO o=true):tsz o.2.2.2≤4096:=by
 unfold rightO at h
 simp only [Bool.and_eq_true] at h
 have h:=h.2.2.2.2
 cases hs:(shapeP (lb o.1)).1 with
 | true=>rw [hs] at h;exact rightT_sz h
 | false=>rw [hs] at h;rw [zeroT_sz h];omega
theorem rightO_open {o:OpT} (h:rightO o=true) (hs:(shapeP (lb o.1)).1=true):openT o.2.2.2=true:=by
 unfold rightO at h
 simp only [Bool.and_eq_true] at h
 have h:=h.2.2.2.2
 rw [hs] at h;exact rightT_open h
theorem shape_add {s:Bs} (h:s=nmAdd∨s=nmReplace∨s=nmTest):(shapeP s).1=true:=by unfold shapeP;rw [if_pos h]
theorem shape_is {s:Bs} (h:(shapeP s).2.2=true) (h1:s≠nmRemove) (h2:s≠nmReplace) (h3:s≠nmMove) (h4:s≠nmCopy) (h5:s≠nmTest):s=nmAdd:=by
 unfold shapeP at h
 split at h
 ·rename_i hc
  rcases hc with hc | hc | hc
  ·exact hc
  ·exact absurd hc h2
  ·exact absurd hc h5
 ·split at h
  ·rename_i hc
   rcases hc with hc | hc
   ·exact absurd hc h3
   ·exact absurd hc h4
  ·exact absurd (of_decide_eq_true h) h1
end Go.X
end
section
namespace Go.Proofs.YtbploiccompocaaGreatDoor
open Go Go.X Go.Proofs Go.Lib
set_option linter.unusedVariables false
theorem mapVal:MapT Tryz.prog 137 9 25 (.agg #[.int .i64 0,.string ⟨#[]⟩,.slice none 0 0,.slice none 0 0]):=⟨by kernel_rfl,by kernel_rfl,⟨Tryz.t25,by kernel_rfl,by kernel_rfl⟩⟩
theorem getL_idx (k:ByteArray):∀ (ks:List ByteArray) (us:List Value) (i:Nat),ks.length=us.length→(idxFromS ks k i=-1∧getL (ks.zip us) k=none)∨∃ j u,idxFromS ks k i=((i+j:Nat):Int)∧us[j]?=some u∧getL (ks.zip us) k=some u
 | [],[],_,_=>.inl ⟨rfl,rfl⟩
 | z::ks,u::us,i,h=>by
  unfold idxFromS
  rw [List.zip_cons_cons,getL]
  by_cases hz:z=k
  ·rw [if_pos hz]
   exact .inr ⟨0,u,rfl,rfl,by rw [if_pos hz]⟩
  ·rw [if_neg hz,if_neg hz]
   rcases getL_idx k ks us (i+1) (by simpa using h) with h1 | ⟨j,w,h1,h2,h3⟩
   ·exact .inl h1
   ·exact .inr ⟨j+1,w,by rw [h1];congr 1;omega,by simpa using h2,h3⟩
 | [],_::_,_,h=>by simp at h
 | _::_,[],_,h=>by simp at h
theorem getL_none {l:List (ByteArray×Value)} {k:ByteArray} (h:k∉l.map (·.1)):getL l k=none:=by
 induction l with
 | nil=>rfl
 | cons p l ih=>
  simp only [List.map_cons,List.mem_cons,not_or] at h
  rw [getL,if_neg (fun e=>h.1 e.symm),ih h.2]
theorem zip_take_succ {α β:Type} {xs:List α} {ys:List β} {k:Nat} (hk:k < xs.length) {u:β} (hy:ys.length=k):(xs.take (k+1)).zip (ys++[u])=(xs.take k).zip ys++[(xs[k],u)]:=by
 rw [List.take_succ_eq_append_getElem hk,List.zip_append (by simp;omega)];rfl
set_option maxHeartbeats 1000000 in
theorem members_go {v:Tr} (hn:v.keys.Nodup) (hl:v.keys.length=v.items.length) (hi:v.items.length≤1000000000000) {h:Heap} {M:Fr} {u:Value} (ag:AgM M h) (hu:RdV M .tree v u) {K:Value→Heap→Prop}
  (hK:∀ (h':Heap) (m:Nat) (us:List Value),Keep h.size h h'→h.size≤m→us.length=v.items.length→(∀ i (h1:i < v.items.length) (h2:i < us.length),RdV M .tree v.items[i] us[i])→MapW h' m (strP (v.keys.zip us))→K (.map (some m)) h'):
  XC Tryz.prog 125 #[u] h K:=by
 obtain⟨sk,si,rfl,rk,ri⟩:=rdTree hu
 obtain⟨lk,_,_⟩:=rowLen rk
 obtain⟨li,_,_⟩:=rowLen ri
 apply sh_value_members v.kind v.text sk si
 intro h1
 have k1:Keep h.size h h1:=Keep.push _ _ (Nat.le_refl _)
 have b1:Blk h1 h.size (tcells v.kind v.text sk si).toArray:=Blk.new _ _ _
 have z1:h1.size=h.size+1:=Array.size_push _
 clear_value h1
 refine⟨sk,b1.cellAdd (by rfl),?_⟩
 intro h3
 have k3:Keep h1.size h1 h3:=Keep.push _ _ (Nat.le_refl _)
 have w3:MapW h3 h1.size []:=MapW.new _
 have z3:h3.size=h1.size+1:=Array.size_push _
 clear_value h3
 have b3:=b1.ofKeep k3
 have kk:Keep h.size h h3:=k1.trans k3 (by omega)
 refine⟨sk,b3.cellAdd (by rfl),fun x g=>∃ (k:Nat) (us:List Value),x=(k:Int)∧k≤v.items.length∧us.length=k∧g.size=h3.size∧(∀ j,j≠h1.size→g[j]?=h3[j]?)∧(∀ i (h1:i < v.items.length) (h2:i < us.length),RdV M .tree v.items[i] us[i])∧MapW g h1.size (strP ((v.keys.take k).zip us)),
  fun x _=>v.items.length - x.toNat,⟨0,[],rfl,Nat.zero_le _,rfl,rfl,fun _ _=>rfl,fun i _ h2=>by simp at h2,by simpa [strP] using w3⟩,?_⟩
 rintro x g ⟨k,us,rfl,hk,hul,zg,fg,hr,wg⟩
 have kg:Keep h.size h g:=⟨by omega,fun j hj=>by rw [fg j (by omega)];exact kk.get j hj⟩
 have agg:=ag.keep kg
 refine⟨fun hc=>?_,fun hc=>?_⟩
 ·have hc':k < v.keys.length:=by rw [lk] at hc;simp at hc;omega
  have hc2:k < v.items.length:=by omega
  refine strAt agg rk hc' rfl rfl ?_
  have bg:Blk g h.size (tcells v.kind v.text sk si).toArray:=b3.keep (fg _ (by omega))
  obtain⟨a,ck,ci,ea,hld,r1,r2⟩:=treeAt agg ri hc2
  refine⟨si,bg.cellAdd (by rfl),a,⟨ea,by omega,by omega⟩,v.items[k].kind,v.items[k].text,ck,ci,?_,?_⟩
  ·rw [Int.toNat_natCast];exact hld
  refine update_w mapVal wg v.keys[k] _ fun g' wg' zg' fg'=>?_
  rw [wsucc hc2 (by omega)]
  refine⟨⟨k+1,us++[.agg #[.int .i64 v.items[k].kind,.string v.items[k].text,slV ck,slV ci]],rfl,by omega,by simp;omega,by omega,fun j hj=>(fg' j hj).trans (fg j hj),fun i h1 h2=>?_,?_⟩,by simp only [Int.toNat_natCast];omega⟩
  ·rw [List.getElem_append]
   split
   ·rename_i h3;exact hr i h1 h3
   ·rename_i h3
    have:i=k:=by simp at h2;omega
    subst this
    simp only [hul,Nat.sub_self,List.getElem_cons_zero]
    exact rdTree_mk r1 r2
  ·rw [zip_take_succ hc' hul]
   have hnone:getL ((v.keys.take k).zip us) v.keys[k]=none:=getL_none fun hm=>by
    rw [List.map_fst_zip (by simp;omega)] at hm
    have hnd:=hn
    have e:v.keys=v.keys.take k++v.keys[k]::v.keys.drop (k+1):=by rw [← List.drop_eq_getElem_cons hc',List.take_append_drop]
    rw [e,List.nodup_append] at hnd
    exact hnd.2.2 _ hm _ List.mem_cons_self rfl
   rw [setL_append hnone] at wg'
   exact wg'
 ·have hc':k=v.keys.length:=by rw [lk] at hc;simp at hc;omega
  subst hc'
  rw [List.take_length] at wg
  exact hK g h1.size us kg (by omega) (by omega) hr wg
theorem eqRows_px {gl:Fr} {F:FuncId} (hF:callable Tryz.prog F=true) {q:Tr→Tr→Bool} {xs ys:List Tr} (hp:∀ x∈xs,∀ y∈ys,PC Tryz.prog gl F [Arg.mk .tree x,Arg.mk .tree y] [.bool] (fun r=>r=q x y)) {h:Heap} {M:Fr} {s1 s2:Sl} (hM:Fr.le gl M) (ag:AgM M h)
  (r1:Rd M (.row .tree) xs [slV s1]) (r2:Rd M (.row .tree) ys [slV s2]):
  PX Tryz.prog 165 #[slV s1,slV s2,.func (.func F) #[] #[]] h M [.bool] (fun r=>r=(decide (xs.length=ys.length) && (xs.zip ys).all fun p=>q p.1 p.2)):=by
 obtain⟨l1,n1,_⟩:=rowLen r1
 obtain⟨l2,n2,_⟩:=rowLen r2
 apply PX.of
 apply sh_slices_EqualFunc_api_Value_api_Value_api_Value_api_Value s1 s2 F #[] #[]
 refine⟨fun hx=>⟨M,_,Later.refl ag,ret1.2 (rdBool _),?_⟩,fun hx=>?_⟩
 ·have:¬ xs.length=ys.length:=by rw [l1,l2] at hx;simp at hx;omega
  simp [this]
 have hxy:xs.length=ys.length:=by rw [l1,l2] at hx;simp at hx;omega
 refine⟨fun i g=>∃ (k:Nat) (M':Fr),i=(k:Int)∧k≤xs.length∧Later h M g M'∧((xs.zip ys).take k).all (fun p=>q p.1 p.2)=true,fun i _=>xs.length - i.toNat,⟨0,M,rfl,Nat.zero_le _,Later.refl ag,by simp⟩,?_⟩
 rintro i g ⟨k,M',rfl,hk,L,hall⟩
 refine⟨fun hc=>?_,fun hc=>?_⟩
 ·have hc1:k < xs.length:=by rw [l1] at hc;simp at hc;omega
  have hc2:k < ys.length:=by omega
  obtain⟨a,ck,ci,ea,hld,t1,t2⟩:=treeAt L.ag (r1.mono L.le) hc1
  refine⟨a,⟨ea,by omega,by omega⟩,xs[k].kind,xs[k].text,ck,ci,by rw [Int.toNat_natCast];exact hld,?_⟩
  intro h10
  have k10:Keep g.size g h10:=Keep.push _ _ (Nat.le_refl _)
  have b10:Blk h10 g.size (tcells 0 ⟨#[]⟩ ⟨none,0,0⟩ ⟨none,0,0⟩).toArray:=Blk.new _ _ _
  have z10:h10.size=g.size+1:=Array.size_push _
  clear_value h10
  refine storeTree b10 rfl _ _ _ _ fun h11 b11 z11 f11=>?_
  have k11:Keep g.size g h11:=⟨by omega,fun j hj=>by rw [f11 j (by omega)];exact k10.get j hj⟩
  have ag11:=L.ag.keep k11
  obtain⟨a2,dk,di,ea2,hld2,t3,t4⟩:=treeAt ag11 (r2.mono L.le) hc2
  refine⟨a2,⟨ea2,by omega,by omega⟩,ys[k].kind,ys[k].text,dk,di,by rw [Int.toNat_natCast];exact hld2,?_⟩
  intro h17
  have k17:Keep h11.size h11 h17:=Keep.push _ _ (Nat.le_refl _)
  have b17:Blk h17 h11.size (tcells 0 ⟨#[]⟩ ⟨none,0,0⟩ ⟨none,0,0⟩).toArray:=Blk.new _ _ _
  have z17:h17.size=h11.size+1:=Array.size_push _
  clear_value h17
  refine storeTree b17 rfl _ _ _ _ fun h18 b18 z18 f18=>?_
  have b11':Blk h18 g.size (tcells xs[k].kind xs[k].text ck ci).toArray:=(b11.ofKeep k17).keep (f18 _ (by omega))
  have k18:Keep g.size g h18:=⟨by omega,fun j hj=>by rw [f18 j (by omega),k17.get j (by omega)];exact k11.get j hj⟩
  have L18:Later h M h18 M':=L.trans (Later.same L.ag k18)
  refine⟨xs[k].kind,xs[k].text,ck,ci,b11'.ld (cs:=tcells xs[k].kind xs[k].text ck ci),ys[k].kind,ys[k].text,dk,di,b18.ld (cs:=tcells ys[k].kind ys[k].text dk di),hF,?_⟩
  have hcall:=(hp xs[k] (List.getElem_mem hc1) ys[k] (List.getElem_mem hc2)).px (h:=h18) (M:=M') (vs:=[.agg #[.int .i64 xs[k].kind,.string xs[k].text,slV ck,slV ci],.agg #[.int .i64 ys[k].kind,.string ys[k].text,slV dk,slV di]]) (hM.trans L18.le) L18.ag (args1 (rdTree_mk t1 t2) (args1 (rdTree_mk t3 t4) args0))
  refine hcall.go fun w h28 M28 r L28 hret hr=>?_
  have hr:r=q xs[k] ys[k]:=hr
  subst hr
  have hzip:(xs.zip ys).take (k+1)=(xs.zip ys).take k++[(xs[k],ys[k])]:=by
   rw [List.take_succ_eq_append_getElem (by simp;omega)];simp
  refine⟨q xs[k] ys[k],retB hret,fun hf=>⟨M28,_,L18.trans L28,ret1.2 (rdBool _),?_⟩,fun ht=>?_⟩
  ·have hf':q xs[k] ys[k]=false:=by simpa using hf
   have:(xs.zip ys).all (fun p=>q p.1 p.2)=false:=by
    rw [List.all_eq_false]
    exact⟨(xs[k],ys[k]),List.mem_iff_getElem.2 ⟨k,by simp;omega,by simp⟩,by simp [hf']⟩
   rw [this,Bool.and_false]
  ·have ht':q xs[k] ys[k]=true:=by simpa using ht
   rw [wsucc hc1 (by omega)]
   refine⟨⟨k+1,M28,rfl,hc1,L18.trans L28,?_⟩,by simp only [Int.toNat_natCast];omega⟩
   rw [hzip,List.all_append,hall];simp [ht']
 ·have hc':k=xs.length:=by rw [l1] at hc;simp at hc;omega
  subst hc'
  refine⟨M',_,L,ret1.2 (rdBool _),?_⟩
  rw [List.take_of_length_le (by simp;omega)] at hall
  rw [hall];simp [hxy]
theorem nodup_get {l:List ByteArray} (h:l.Nodup) {i j:Nat} (hi:i < l.length) (hj:j < l.length) (e:l[i]=l[j]):i=j:=by
 unfold List.Nodup at h
 rw [List.pairwise_iff_getElem] at h
 rcases Nat.lt_trichotomy i j with h1 | h1 | h1
 ·exact absurd e (h i j hi hj h1)
 ·exact h1
 ·exact absurd e.symm (h j i hj hi h1)
theorem str_inj {a b:ByteArray} (h:Value.string a=Value.string b):a=b:=by injection h
theorem strP_fst (ks:List ByteArray) (us:List Value) (h:ks.length=us.length):(strP (ks.zip us)).map (·.1)=ks.map Value.string:=by
 unfold strP
 rw [List.map_map]
 have:(ks.zip us).map (fun p=>Value.string p.1)=(ks.zip us).unzip.1.map Value.string:=by simp
 show(ks.zip us).map (fun p=>Value.string p.1)=_
 rw [this,List.unzip_zip h]
theorem nodup_str {ks:List ByteArray} (h:ks.Nodup):(ks.map Value.string).Nodup:=by
 induction ks with
 | nil=>simp
 | cons k ks ih=>
  rw [List.nodup_cons] at h
  rw [List.map_cons,List.nodup_cons]
  refine⟨fun hm=>?_,ih h.2⟩
  obtain⟨x,hx,e⟩:=List.mem_map.1 hm
  exact h.1 (str_inj e ▸ hx)
set_option maxHeartbeats 2000000 in
theorem eqMaps_go {gl:Fr} {F:FuncId} (hF:callable Tryz.prog F=true) {q:Tr→Tr→Bool} {ka kb:List ByteArray} {xs ys:List Tr} {ua ub:List Value} (hna:ka.Nodup) (la:ka.length=xs.length) (lb':kb.length=ys.length) (lua:ua.length=xs.length) (lub:ub.length=ys.length) (hbig:xs.length≤1000000000000∧ys.length≤1000000000000)
  (hp:∀ x∈xs,∀ y∈ys,PC Tryz.prog gl F [Arg.mk .tree x,Arg.mk .tree y] [.bool] (fun r=>r=q x y)) {h:Heap} {M:Fr} {m1 m2:Nat} (hM:Fr.le gl M) (ag:AgM M h) (w1:MapW h m1 (strP (ka.zip ua))) (w2:MapW h m2 (strP (kb.zip ub)))
  (ra:∀ i (h1:i < xs.length) (h2:i < ua.length),RdV M .tree xs[i] ua[i]) (rb:∀ i (h1:i < ys.length) (h2:i < ub.length),RdV M .tree ys[i] ub[i]):
  PX Tryz.prog 166 #[.map (some m1),.map (some m2),.func (.func F) #[] #[]] h M [.bool] (fun r=>r=(decide (xs.length=ys.length) && (ka.zip xs).all fun p=>memT kb ys q p.1 p.2)):=by
 apply PX.of
 apply sh_maps_EqualFunc_map_string_api_Value_map_string_api_Value_string_api_Value_api_Value (some m1) (some m2) F #[] #[]
 have L1:(strP (ka.zip ua)).length=xs.length:=by unfold strP;simp;omega
 have L2:(strP (kb.zip ub)).length=ys.length:=by unfold strP;simp;omega
 have len1:=len_map (P:=Tryz.prog) (ty:=3) mapVal.map w1
 have len2:=len_map (P:=Tryz.prog) (ty:=3) mapVal.map w2
 rw [L1] at len1
 rw [L2] at len2
 refine⟨xs.length,len1,ys.length,len2,fun hx=>⟨M,_,Later.refl ag,ret1.2 (rdBool _),?_⟩,fun hx=>?_⟩
 ·have:¬ xs.length=ys.length:=by simp at hx;omega
  simp [this]
 have hxy:xs.length=ys.length:=by simp at hx;omega
 have m1lt:=w1.lt
 have m2lt:=w2.lt
 have hnd:((strP (ka.zip ua)).map (·.1)).Nodup:=by rw [strP_fst _ _ (by omega)];exact nodup_str hna
 refine range_go mapVal.map w1 fun h4 z4 k4 it4=>⟨some ⟨h.size,0,none⟩,rfl,?_⟩
 refine⟨fun g=>∃ dn M',MapIt g h.size m1 (strP (ka.zip ua)) dn∧Later h M g M'∧h.size < g.size∧∀ i (h1:i < ka.length) (h2:i < xs.length),Value.string ka[i]∈dn→memT kb ys q ka[i] xs[i]=true,fun g=>leftN g h.size m1,
  ⟨[],M,it4,Later.same ag k4,by omega,fun i _ _ hm=>by cases hm⟩,?_⟩
 rintro g ⟨dn,M',it,L,zg,hdn⟩
 have kg:=L.keep
 refine next_go it hnd (by omega) (fun hend=>.inl ⟨rfl,(fun hc=>by cases hc),fun _=>⟨M',_,L,ret1.2 (rdBool _),?_⟩⟩) fun k u hku hk g1 it1 cur1 z1 f1 dec1=>.inr ⟨k,u,rfl,fun _=>?_,fun hc=>by cases hc⟩
 ·have hall:((ka.zip xs).all fun p=>memT kb ys q p.1 p.2)=true:=by
   rw [List.all_eq_true]
   intro p hp'
   obtain⟨i,hi,e⟩:=List.getElem_of_mem hp'
   rw [List.length_zip,Nat.lt_min] at hi
   have:=hdn i hi.1 hi.2 (hend (.string ka[i],ua[i]) (by
    unfold strP
    refine List.mem_map.2 ⟨(ka[i],ua[i]),List.mem_iff_getElem.2 ⟨i,by simp;omega,by simp⟩,rfl⟩))
   rw [← e];simpa using this
  rw [hall];simp [hxy]
 ·obtain⟨i,hi1,hi2,ek,eu⟩:∃ i,∃ (h1:i < ka.length) (h2:i < ua.length),k=.string ka[i]∧u=ua[i]:=by
   unfold strP at hku
   obtain⟨p,hp',e⟩:=List.mem_map.1 hku
   obtain⟨i,hi,e2⟩:=List.getElem_of_mem hp'
   rw [List.length_zip,Nat.lt_min] at hi
   simp at e2
   injection e with e3 e4
   exact⟨i,hi.1,hi.2,by rw [← e3,← e2],by rw [← e4,← e2]⟩
  subst ek
  subst eu
  have hix:i < xs.length:=by omega
  have kg1:Keep h.size h g1:=⟨by omega,fun j hj=>by rw [f1 j (by omega)];exact kg.get j hj⟩
  have ag1:AgM M' g1:=fun b c e=>by
   obtain⟨T,mm,e2⟩:=L.ag b c e
   by_cases hb:b=h.size
   ·subst hb
    obtain⟨_,_,_,_,_,e3,_⟩:=it
    rw [e3] at e2;cases e2
   ·exact⟨T,mm,by rw [f1 b hb];exact e2⟩
  refine entry_go cur1 ⟨_,_,rfl,?_⟩
  intro h48
  have k48:Keep g1.size g1 h48:=Keep.push _ _ (Nat.le_refl _)
  have b48:Blk h48 g1.size (tcells 0 ⟨#[]⟩ ⟨none,0,0⟩ ⟨none,0,0⟩).toArray:=Blk.new _ _ _
  have z48:h48.size=g1.size+1:=Array.size_push _
  clear_value h48
  obtain⟨ck,ci,eu,t1,t2⟩:=rdTree (ra i hix hi2)
  rw [eu]
  refine storeTree b48 rfl _ _ _ _ fun h49 b49 z49 f49=>?_
  have k49:Keep g1.size g1 h49:=⟨by omega,fun j hj=>by rw [f49 j (by omega)];exact k48.get j hj⟩
  have ag49:=ag1.keep k49
  have w2':MapW h49 m2 (strP (kb.zip ub)):=w2.keep ((k49.get _ (by omega)).trans (kg1.get _ m2lt))
  have hlook:=lookup_core mapVal w2'.at ka[i] true
  simp only [if_true] at hlook
  obtain⟨y,dk,di,hget,t3,t4,hm1⟩:∃ (y:Tr) (dk di:Sl),getZ (kb.zip ub) ka[i] (.agg #[.int .i64 0,.string ⟨#[]⟩,.slice none 0 0,.slice none 0 0])=.agg #[.int .i64 y.kind,.string y.text,slV dk,slV di]∧RdV M .tree y (.agg #[.int .i64 y.kind,.string y.text,slV dk,slV di]) ∧
    ((getL (kb.zip ub) ka[i]).isSome=true→y∈ys)∧memT kb ys q ka[i] xs[i]=((getL (kb.zip ub) ka[i]).isSome && q xs[i] y):=by
   rcases getL_idx ka[i] kb ub 0 (by omega) with⟨g1,g2⟩| ⟨j,w,g1,g2,g3⟩
   ·refine⟨zT,⟨none,0,0⟩,⟨none,0,0⟩,by unfold getZ;rw [g2];rfl,?_,?_,?_⟩
    ·refine rdTree_mk (v:=zT) ?_ ?_
     ·exact⟨_,rfl,none,0,rfl,⟨by simp [zT],by simp [zT]⟩,.inl rfl⟩
     ·exact⟨_,rfl,none,0,rfl,⟨by simp [zT],by simp [zT]⟩,.inl rfl⟩
    ·rw [g2];intro hc;cases hc
    ·rw [g2]
     unfold memT idxOfS
     rw [g1]
     simp
     split
     ·rfl
     ·rfl
   ·obtain⟨hj,ej⟩:=List.getElem?_eq_some_iff.1 g2
    have hjy:j < ys.length:=by omega
    have hr:=rb j hjy hj
    rw [ej] at hr
    obtain⟨dk,di,ew,t3,t4⟩:=rdTree hr
    refine⟨ys[j],dk,di,by unfold getZ;rw [g3];exact ew,by rw [← ew];exact hr,fun _=>List.getElem_mem hjy,?_⟩
    rw [g3]
    unfold memT idxOfS
    rw [g1]
    simp [List.getElem?_eq_getElem hjy]
  rw [hget] at hlook
  refine⟨y.kind,y.text,dk,di,(getL (kb.zip ub) ka[i]).isSome,hlook,?_⟩
  intro h55
  have k55:Keep h49.size h49 h55:=Keep.push _ _ (Nat.le_refl _)
  have b55:Blk h55 h49.size (tcells 0 ⟨#[]⟩ ⟨none,0,0⟩ ⟨none,0,0⟩).toArray:=Blk.new _ _ _
  have z55:h55.size=h49.size+1:=Array.size_push _
  clear_value h55
  refine storeTree b55 rfl _ _ _ _ fun h56 b56 z56 f56=>?_
  have b49':Blk h56 g1.size (tcells xs[i].kind xs[i].text ck ci).toArray:=(b49.ofKeep k55).keep (f56 _ (by omega))
  have k56:Keep g1.size g1 h56:=⟨by omega,fun j hj=>by rw [f56 j (by omega),k55.get j (by omega)];exact k49.get j hj⟩
  have kh56:Keep h.size h h56:=kg1.trans k56 (by omega)
  have L56:Later h M h56 M':=⟨kh56,L.le,L.old,ag1.keep k56⟩
  have it56:MapIt h56 h.size m1 (strP (ka.zip ua)) (.string ka[i]::dn):=it1.keep (k56.get _ (by omega)) (k56.get _ (by omega))
  have dec56:leftN h56 h.size m1 < leftN g h.size m1:=by rw [leftN.keep (k56.get h.size (by omega)) (k56.get m1 (by omega))];exact dec1
  refine⟨xs[i].kind,xs[i].text,ck,ci,fun _=>b49'.ld (cs:=tcells xs[i].kind xs[i].text ck ci),y.kind,y.text,dk,di,fun _=>b56.ld (cs:=tcells y.kind y.text dk di),?_⟩
  have hfail:memT kb ys q ka[i] xs[i]=false→((ka.zip xs).all fun p=>memT kb ys q p.1 p.2)=false:=fun hf=>by
   rw [List.all_eq_false]
   exact⟨(ka[i],xs[i]),List.mem_iff_getElem.2 ⟨i,by simp;omega,by simp⟩,by simp [hf]⟩
  refine⟨fun w g2=>∃ b M2,w=.bool b∧Later h56 M' g2 M2∧((getL (kb.zip ub) ka[i]).isSome=true→b=q xs[i] y),fun hs=>⟨hF,?_⟩,fun hs=>⟨true,true,M',rfl,Later.refl L56.ag,fun hc=>by rw [hc] at hs;cases hs⟩,fun _ w g2 ⟨b,_,e,_⟩=>⟨b,e⟩,?_⟩
  ·have hs':(getL (kb.zip ub) ka[i]).isSome=true:=by simpa using hs
   have hcall:=(hp xs[i] (List.getElem_mem hix) y (t4 hs')).px (h:=h56) (M:=M') (vs:=[.agg #[.int .i64 xs[i].kind,.string xs[i].text,slV ck,slV ci],.agg #[.int .i64 y.kind,.string y.text,slV dk,slV di]]) (hM.trans L56.le) L56.ag (args1 (RdV.mono L.le (rdTree_mk t1 t2)) (args1 (RdV.mono L.le t3) args0))
   exact hcall.go fun w g2 M2 r L2 hret hr=>⟨r,retB hret,r,M2,rfl,L2,fun _=>hr⟩
  ·rintro b g2 ⟨b',M2,e,L2,hb⟩
   cases e
   refine⟨fun hf=>⟨M2,_,L56.trans L2,ret1.2 (rdBool _),?_⟩,fun ht=>⟨⟨_,M2,it56.keep (L2.keep.get _ (by omega)) (L2.keep.get _ (by omega)),L56.trans L2,by have:=L2.keep.size;omega,fun i2 h1 h2 hm=>?_⟩,?_⟩⟩
   ·have:memT kb ys q ka[i] xs[i]=false:=by
     rw [hm1]
     cases hs:(getL (kb.zip ub) ka[i]).isSome with
     | false=>rfl
     | true=>
      rw [hs] at hf
      rw [← hb hs]
      simpa using hf
    rw [hfail this,Bool.and_false]
   ·rcases List.mem_cons.1 hm with e | hm
    ·have e2:=str_inj e
     have:i2=i:=nodup_get hna h1 hi1 e2
     subst this
     rw [hm1]
     cases hs:(getL (kb.zip ub) ka[i2]).isSome with
     | false=>rw [hs] at ht;simp at ht
     | true=>
      rw [hs] at ht
      rw [← hb hs]
      simpa using ht
    ·exact hdn i2 h1 h2 hm
   ·show leftN g2 h.size m1 < leftN g h.size m1
    rw [leftN.keep (L2.keep.get h.size (by omega)) (L2.keep.get m1 (by omega))];exact dec56
end Go.Proofs.YtbploiccompocaaGreatDoor
end
section
namespace Go.Proofs.YtbploiccompocaaGreatDoor
open Go Go.X Go.Proofs Go.Lib
set_option linter.unusedVariables false
theorem sameCallable:callable Tryz.prog 137=true:=by kernel_rfl
theorem toL_eq (a b:ByteArray):(a.toList==b.toList)=decide (a=b):=by
 rw [Bool.eq_iff_iff]
 simp only [ByteArray.toList_eq,beq_iff_eq,decide_eq_true_eq]
 constructor
 ·intro h
  cases a;cases b
  simpa using h
 ·intro h;rw [h]
theorem nodeOk_keys {v:Tr} (h:nodeOk v=true) (h6:v.kind=6):v.keys.Nodup∧v.keys.length=v.items.length:=by
 refine⟨?_,keys_nodeOk h h6⟩
 unfold nodeOk at h
 simp [h6] at h
 have:=h.1.1
 unfold keysOk at this
 rw [Bool.and_eq_true] at this
 simpa using this.2
set_option maxHeartbeats 1000000 in
theorem same_pn {gl:Fr}:∀ (n:Nat) (a b:Tr),tsz a≤n→Sm a→Sm b→allT nodeOk a=true→allT nodeOk b=true→∀ {R:Bool→Prop},R (sameT a b)→PC Tryz.prog gl 137 [Arg.mk .tree a,Arg.mk .tree b] [.bool] R:=by
 intro n
 induction n with
 | zero=>intro a _ h;have:=tsz_pos a;omega
 | succ n ih=>
  intro a b hn ha hb oa ob R hR h M vs hM ag hargs
  match vs,hargs with
  | [u1,u2],⟨hu1,hu2,_⟩=>
  have hu1:RdV M .tree a u1:=hu1
  have hu2:RdV M .tree b u2:=hu2
  obtain⟨sk,si,rfl,rk,ri⟩:=rdTree hu1
  obtain⟨tk,ti,rfl,rk2,ri2⟩:=rdTree hu2
  obtain⟨li,_,_⟩:=rowLen ri
  obtain⟨li2,_,_⟩:=rowLen ri2
  apply PX.of
  apply sh_value_same a.kind a.text sk si b.kind b.text tk ti
  intro h1 h2
  have k1:Keep h.size h h1:=Keep.push _ _ (Nat.le_refl _)
  have k2:Keep h1.size h1 h2:=Keep.push _ _ (Nat.le_refl _)
  have b1:Blk h1 h.size (tcells a.kind a.text sk si).toArray:=Blk.new _ _ _
  have b2:Blk h2 h1.size (tcells b.kind b.text tk ti).toArray:=Blk.new _ _ _
  have z1:h1.size=h.size+1:=Array.size_push _
  have z2:h2.size=h1.size+1:=Array.size_push _
  clear_value h1 h2
  have b1':=b1.ofKeep k2
  have kk:Keep h.size h h2:=k1.trans k2 (by omega)
  have L2:Later h M h2 M:=Later.same ag kk
  intro K5 hK5
  have main:∀ x:Bool,(x=true→sameT a b=false)→(x=false→a.kind=b.kind∧a.text=b.text∧a.items.length=b.items.length)→K5 x h2:=by
   intro x hx1 hx2
   refine hK5 x h2 ⟨fun hx=>⟨M,_,L2,ret1.2 (rdBool _),?_⟩,fun hx=>?_⟩
   ·rw [hx1 hx] at hR;exact hR
   obtain⟨e1,e2,e3⟩:=hx2 hx
   have hst:sameT a b=(if a.kind=6 then sameK a.keys a.items b else sameL a.items b.items):=by rw [sameT_eq];simp [e1,e2,e3]
   rw [hst] at hR
   refine⟨a.kind,b1'.cellAdd (by rfl),fun h6=>?_,fun h6=>?_⟩
   ·have h6':¬ a.kind=6:=by simpa using h6
    rw [if_neg h6',sameL_zip _ _ e3] at hR
    refine⟨si,b1'.cellAdd (by rfl),ti,b2.cellAdd (by rfl),?_⟩
    refine(eqRows_px (gl:=gl) sameCallable (q:=sameT) (xs:=a.items) (ys:=b.items) (fun x hx y hy=>ih x y (by have:=tsz_item hx;omega) (ha.item hx) (hb.item hy) (allT_item oa hx) (allT_item ob hy) rfl) hM L2.ag ri ri2).go fun w h10 M10 r L hret hr=>?_
    have hr:r=_:=hr
    subst hr
    refine⟨_,retB hret,M10,_,L2.trans L,ret1.2 (rdBool _),?_⟩
    rw [e3];simpa using hR
   ·have h6':a.kind=6:=by simpa using h6
    rw [if_pos h6',sameK_zip _ _ _ (keys_nodeOk (allT_here oa) h6')] at hR
    obtain⟨na,la⟩:=nodeOk_keys (allT_here oa) h6'
    obtain⟨nb,lb⟩:=nodeOk_keys (allT_here ob) (by rw [← e1];exact h6')
    refine⟨a.kind,a.text,sk,si,b1'.ld (cs:=tcells a.kind a.text sk si),b.kind,b.text,tk,ti,b2.ld (cs:=tcells b.kind b.text tk ti),?_⟩
    refine members_go na la ha.items L2.ag (rdTree_mk rk ri) fun h21 m1 ua k21 hm1 lua ra w1=>⟨some m1,rfl,k21,?_⟩
    have ag21:=L2.ag.keep k21
    refine members_go nb lb hb.items ag21 (rdTree_mk rk2 ri2) fun h24 m2 ub k24 hm2 lub rb w2=>⟨some m2,rfl,?_⟩
    have L24:Later h M h24 M:=(L2.trans (Later.same L2.ag k21)).trans (Later.same ag21 k24)
    refine(eqMaps_go (gl:=gl) sameCallable (q:=sameT) na la lb lua lub ⟨ha.items,hb.items⟩ (fun x hx y hy=>ih x y (by have:=tsz_item hx;omega) (ha.item hx) (hb.item hy) (allT_item oa hx) (allT_item ob hy) rfl) hM L24.ag (w1.keep (k24.get _ w1.lt)) w2 ra rb).go fun w h27 M27 r L hret hr=>?_
    have hr:r=_:=hr
    subst hr
    refine⟨_,retB hret,M27,_,L24.trans L,ret1.2 (rdBool _),?_⟩
    rw [e3];simpa using hR
  refine⟨a.kind,b1'.cellAdd (by rfl),b.kind,b2.cellAdd (by rfl),fun hk=>main _ (fun _=>?_) (fun hc=>?_),fun hk=>?_⟩
  ·rw [sameT_eq]
   have:¬ a.kind=b.kind:=by simpa using hk
   simp [this]
  ·rw [hk] at hc;cases hc
  have hk':a.kind=b.kind:=by simpa using hk
  refine⟨a.text,b1'.cellAdd (by rfl),b.text,b2.cellAdd (by rfl),fun ht=>main _ (fun _=>?_) (fun hc=>?_),fun ht=>⟨si,b1'.cellAdd (by rfl),ti,b2.cellAdd (by rfl),main _ (fun hc=>?_) (fun hc=>?_)⟩⟩
  ·rw [sameT_eq]
   have:¬ a.text=b.text:=by rw [toL_eq] at ht;simpa using ht
   simp [this]
  ·rw [ht] at hc;cases hc
  ·rw [sameT_eq]
   have:¬ a.items.length=b.items.length:=by rw [li,li2] at hc;simp at hc;omega
   simp [this]
  ·have:a.text=b.text:=by rw [toL_eq] at ht;simpa using ht
   exact⟨hk',this,by rw [li,li2] at hc;simp at hc;omega⟩
theorem Same_pc {gl:Fr} (hg:GL gl) {a b:Tr} (ha:Sm a) (hb:Sm b) {R:Bool→Prop} (h:R (openT a && (openT b && sameT a b))):PC Tryz.prog gl 105 [Arg.mk .tree a,Arg.mk .tree b] [.bool] R:=by
 apply pu_value_Same
 simp only [tr_eta]
 refine Open_pc hg ha ⟨fun r=>r=openT b,fun _=>Open_pc hg hb rfl,fun r hr=>⟨fun x=>x=sameT a b,fun hc=>?_,fun x hx=>?_⟩⟩
 ·cases h1:openT a with
  | false=>rw [h1] at hc;cases hc
  | true=>
   rw [h1,cond_true] at hc
   have h2:=hr h1
   rw [hc] at h2
   exact same_pn _ a b (Nat.le_refl _) ha hb (openT_all h1) (openT_all h2.symm) rfl
 ·cases h1:openT a with
  | false=>rw [h1] at h;exact h
  | true=>
   rw [h1] at h hx
   have h2:=hr h1
   subst h2
   simp only [cond_true,Bool.true_and] at h hx ⊢
   cases h3:openT b with
   | false=>rw [h3] at h;exact h
   | true=>rw [h3] at h hx;rw [cond_true,hx rfl];exact h
end Go.Proofs.YtbploiccompocaaGreatDoor
end
section
namespace Go.Proofs.YtbploiccompocaaGreatDoor
open Go Go.X Go.Proofs Go.Lib
set_option linter.unusedVariables false
theorem Equal_q {xs ys:List ByteArray} {s1 s2:Sl} {h:Heap} {M:Fr} (ag:AgM M h) (r1:Rd M (.row .str) xs [slV s1]) (r2:Rd M (.row .str) ys [slV s2]):XC Tryz.prog 104 #[slV s1,slV s2] h fun v h'=>v=.bool (decide (xs=ys))∧h'=h:=by
 obtain⟨l1,n1,_⟩:=rowLen r1
 obtain⟨l2,n2,_⟩:=rowLen r2
 apply sh_slices_Equal_string_string s1 s2
 refine⟨fun hc=>⟨?_,rfl⟩,fun hc=>?_⟩
 ·have:¬ xs=ys:=fun e=>by rw [l1,l2,e] at hc;simp at hc
  simp [this]
 have hxy:xs.length=ys.length:=by rw [l1,l2] at hc;simp at hc;omega
 refine⟨fun i g=>∃ k:Nat,i=k∧k≤xs.length∧g=h∧xs.take k=ys.take k,fun i _=>xs.length - i.toNat,⟨0,rfl,Nat.zero_le _,rfl,by simp⟩,?_⟩
 rintro i g ⟨k,rfl,hk,rfl,he⟩
 refine⟨fun hc=>?_,fun hc=>?_⟩
 ·have h1:k < xs.length:=by rw [l1] at hc;simp at hc;omega
  have h2:k < ys.length:=by omega
  refine strAt ag r1 h1 rfl rfl (strAt ag r2 h2 rfl rfl ⟨fun hf=>⟨?_,rfl⟩,fun ht=>?_⟩)
  ·rw [toL_eq] at hf
   have:¬ xs=ys:=fun e=>by subst e;simp at hf
   simp [this]
  ·rw [toL_eq] at ht
   have ht':xs[k]=ys[k]:=by simpa using ht
   rw [wsucc h1 (by omega)]
   exact⟨⟨k+1,rfl,h1,rfl,by rw [List.take_succ_eq_append_getElem h1,List.take_succ_eq_append_getElem h2,he,ht']⟩,by simp only [Int.toNat_natCast];omega⟩
 ·have hc':k=xs.length:=by rw [l1] at hc;simp at hc;omega
  subst hc'
  refine⟨?_,rfl⟩
  rw [List.take_length,List.take_of_length_le (by omega)] at he
  simp [he]
set_option maxHeartbeats 2000000 in
theorem doTest_go {gl:Fr} (hg:GL gl) {v:Tr} {h:Heap} {M:Fr} {rb:Nat} {D:List Nat} (A:At gl v h M rb D) {o:OpT} (hp:SL o.2.1) (hw:Sm o.2.2.2) (ho:openT o.2.2.2=true) (hv:openT v=true) {u:Value} (hu:RdV M opTy o u) {K:Value→Heap→Prop}
  (hK:Res h rb D (match findP v o.2.1 with
   | none=>(zT,8)
   | some x=>if sameT x o.2.2.2 then(v,0) else(zT,9)) K):
  XC Tryz.prog 64 #[.pointer (some ⟨rb,0,none⟩),u] h K:=by
 obtain⟨sp,sf,sk,si,rfl,r1,r2,r3⟩:=rdOp hu
 apply sh_patch_doc_doTest (some ⟨rb,0,none⟩) o.1 sp sf o.2.2.2.kind o.2.2.2.text sk si
 intro h1
 have k1:Keep h.size h h1:=Keep.push _ _ (Nat.le_refl _)
 have b1:Blk h1 h.size (opCells o.1 sp sf o.2.2.2 sk si).toArray:=Blk.new _ _ _
 have z1:h1.size=h.size+1:=Array.size_push _
 clear_value h1
 have A1:=A.keep k1
 refine⟨sp,b1.cellAdd (by rfl),?_⟩
 refine A1.at hg hp r1 (fun hn h4 k4=>⟨none,rfl,(fun _=>?_),fun hc=>by cases hc⟩) fun x hx h4 pa k4 plc=>⟨some pa,rfl,(fun hc=>by cases hc),fun _=>?_⟩
 ·rw [hn] at hK
  exact res_no hK (by simp) (k1.trans k4 (by omega))
 rw [hx] at hK
 simp only at hK
 have A4:=A1.keep k4
 have z4:=k4.size
 have k04:Keep h.size h h4:=k1.trans k4 (by omega)
 obtain⟨xk,xi,bx,hld,ot,hbx,_⟩:=Plc.ld plc
 have bxl:=ot.lt
 refine⟨pa,rfl,x.kind,x.text,xk,xi,hld,o.2.2.2.kind,o.2.2.2.text,sk,si,?_,sameT x o.2.2.2,fun h17 k17=>?_,fun h19 k19=>?_⟩
 ·rw [add_none];exact ldBlk (b1.ofKeep k4) (vs:=ocells o.2.2.2 sk si) (o:=0+3) (i:=0) rfl
 ·have ag17:=A4.ag.keep k17
  have ot17:OT h17 x bx (ocells x xk xi):=ot.frame fun c hc=>k17.get c (bxl c hc)
  have hs:PC Tryz.prog gl 105 [Arg.mk .tree x,Arg.mk .tree o.2.2.2] [.bool] (fun r=>r=sameT x o.2.2.2):=Same_pc hg (A4.find_sm hx) hw (by rw [openT_find hv hx,ho];rfl)
  refine(hs.go (vs:=[.agg #[.int .i64 x.kind,.string x.text,slV xk,slV xi],.agg #[.int .i64 o.2.2.2.kind,.string o.2.2.2.text,slV sk,slV si]]) (A4.le.trans (le_MxL ag17 bx)) (MxL.ag ag17 bx) (args1 ot17.rdv (args1 (RdV.mono (le_MxL ag17 bx) r3) args0)) fun w h' M' r L hret hr=>?_)
  have hr:r=_:=hr
  subst hr
  exact⟨retB hret,L.keep⟩
 ·have k019:Keep h.size h h19:=k04.trans k19 (by omega)
  refine⟨fun hf=>?_,fun ht=>?_⟩
  ·have hf':sameT x o.2.2.2=false:=by simpa using hf
   rw [hf'] at hK
   exact res_no hK (by simp) k019
  ·have ht':sameT x o.2.2.2=true:=by simpa using ht
   rw [ht'] at hK
   refine hK h19 D (fun _=>A.doc.keep fun c hc=>k019.get c (A.doc.lt c hc)) ⟨k019.size,fun c q1 _ _=>k019.get c q1,fun c hc=>.inl hc⟩
theorem prefix_eq {p f:List ByteArray}:(f=p.take f.length∧f.length≤p.length)↔(f.length≤p.length∧p.take f.length=f):=⟨fun h=>⟨h.2,h.1.symm⟩,fun h=>⟨h.2.symm,h.1⟩⟩
set_option maxHeartbeats 4000000 in
theorem doMove_go {gl:Fr} (hg:GL gl) {v:Tr} {h:Heap} {M:Fr} {rb:Nat} {D:List Nat} (A:At gl v h M rb D) (hMD:∀ b cs,M b=some cs→b≠rb∧b∉D) {o:OpT} (hp:SL o.2.1) (hf:SL o.2.2.1) (hv:openT v=true) {u:Value} (hu:RdV M opTy o u) {K:Value→Heap→Prop}
  (hK:Res h rb D (match findP v o.2.2.1 with
   | none=>(zT,8)
   | some y=>if o.2.2.1=o.2.1.take o.2.2.1.length∧o.2.2.1.length≤o.2.1.length then(if o.2.2.1.length < o.2.1.length then(zT,1) else(v,0)) else orErr (addR (remR v o.2.2.1) o.2.1 y)) K):
  XC Tryz.prog 62 #[.pointer (some ⟨rb,0,none⟩),u] h K:=by
 obtain⟨sp,sf,sk,si,rfl,r1,r2,r3⟩:=rdOp hu
 have rp:Rd M (.row .str) o.2.1 [slV sp]:=by rw [rdv1 rfl] at r1;exact r1
 have rf:Rd M (.row .str) o.2.2.1 [slV sf]:=by rw [rdv1 rfl] at r2;exact r2
 obtain⟨lp,np,cp⟩:=rowLen rp
 obtain⟨lf,nf,cf⟩:=rowLen rf
 apply sh_patch_doc_doMove (some ⟨rb,0,none⟩) o.1 sp sf o.2.2.2.kind o.2.2.2.text sk si
 intro h1
 have k1:Keep h.size h h1:=Keep.push _ _ (Nat.le_refl _)
 have b1:Blk h1 h.size (opCells o.1 sp sf o.2.2.2 sk si).toArray:=Blk.new _ _ _
 have z1:h1.size=h.size+1:=Array.size_push _
 clear_value h1
 have A1:=A.keep k1
 refine⟨sf,b1.cellAdd (by rfl),?_⟩
 refine A1.at hg hf r2 (fun hn h4 k4=>⟨none,rfl,sf,(b1.ofKeep k4).cellAdd (by rfl),(fun _=>?_),fun hc=>by cases hc⟩) fun y hy h4 pa k4 plc=>⟨some pa,rfl,sf,(b1.ofKeep k4).cellAdd (by rfl),(fun hc=>by cases hc),fun _=>?_⟩
 ·rw [hn] at hK
  exact res_no hK (by simp) (k1.trans k4 (by omega))
 rw [hy] at hK
 simp only at hK
 have A4:=A1.keep k4
 have z4:=k4.size
 have k04:Keep h.size h h4:=k1.trans k4 (by omega)
 have b4:=b1.ofKeep k4
 have hrb:=A.doc.lt rb (.inl rfl)
 obtain⟨yk,yi,bx,hld,ot,hbx,_⟩:=Plc.ld plc
 refine⟨sp,b4.cellAdd (by rfl),sp,(fun _=>b4.cellAdd (by rfl)),.inr ⟨_,rfl⟩,(fun hc=>⟨by omega,by omega,?_,by omega⟩),sf,(fun _=>b4.cellAdd (by rfl)),decide (o.2.1.take o.2.2.1.length=o.2.2.1),(fun hc=>?_),?_⟩
 ·simp at hc;omega
 ·have hc':o.2.2.1.length≤o.2.1.length:=by simp at hc;omega
  have htk:=rd_take rp hc'
  rw [rdv1 rfl] at htk
  have hlen:(o.2.1.take o.2.2.1.length).length=o.2.2.1.length:=by rw [List.length_take];omega
  rw [← lf] at htk hlen
  have hq:=Equal_q (h:=h4) (s1:=⟨sp.a,sf.len,sp.cap⟩) (A4.ag) htk rf
  rw [lf] at hq
  simp only [Int.toNat_natCast,Int.toNat_zero,Nat.sub_zero,resl_zero]
  rw [← lf] at hq
  rw [← lf]
  exact hq
 have hbif:(bif (decide (((sp.len:Nat):Int)≥((sf.len:Nat):Int))) then decide (o.2.1.take o.2.2.1.length=o.2.2.1) else false)=decide (o.2.2.1=o.2.1.take o.2.2.1.length∧o.2.2.1.length≤o.2.1.length):=by
  rw [Bool.eq_iff_iff]
  simp only [Bool.cond_false_right,Bool.and_eq_true,decide_eq_true_eq]
  rw [prefix_eq]
  exact⟨fun h=>⟨by omega,h.2⟩,fun h=>⟨by omega,h.2⟩⟩
 rw [hbif]
 refine⟨fun hc=>?_,fun hc=>?_⟩
 ·have hc':=of_decide_eq_true hc
  rw [if_pos hc'] at hK
  refine⟨sp,b4.cellAdd (by rfl),fun hl=>?_,fun hl=>?_⟩
  ·rw [if_pos (by rw [lp,lf] at hl;simp at hl;omega)] at hK
   exact res_no hK (by simp) k04
  ·rw [if_neg (by rw [lp,lf] at hl;simp at hl;omega)] at hK
   exact hK h4 D (fun _=>A4.doc) ⟨k04.size,fun c q1 _ _=>k04.get c q1,fun c hc=>.inl hc⟩
 ·have hc':=of_decide_eq_false hc
  rw [if_neg hc'] at hK
  have hne:o.2.2.1≠[]:=fun e=>hc' (by rw [e];simp)
  refine⟨pa,rfl,y.kind,y.text,yk,yi,hld,?_⟩
  have hysm:=A4.find_sm hy
  refine Copy_on hg hysm (openT_find hv hy) (A4.le.trans (le_MxL A4.ag bx)) (MxL.ag A4.ag bx) ot.rdv fun h22 bs ck ci k22 ot22 hbs=>⟨y.kind,y.text,ck,ci,rfl,?_⟩
  have z22:=k22.size
  intro h27
  have k27:Keep h22.size h22 h27:=Keep.push _ _ (Nat.le_refl _)
  have b27:Blk h27 h22.size (tcells 0 ⟨#[]⟩ ⟨none,0,0⟩ ⟨none,0,0⟩).toArray:=Blk.new _ _ _
  have z27:h27.size=h22.size+1:=Array.size_push _
  clear_value h27
  refine storeTree b27 rfl _ _ _ _ fun h28 b28 z28 f28=>?_
  have k28:Keep h22.size h22 h28:=⟨by omega,fun j hj=>by rw [f28 j (by omega)];exact k27.get j hj⟩
  have k428:Keep h4.size h4 h28:=k22.trans k28 (by omega)
  have k028:Keep h.size h h28:=k04.trans k428 (by omega)
  have A28:=A4.keep k428
  have ot28:OT h28 y bs (ocells y ck ci):=ot22.frame fun c hc=>k28.get c (ot22.lt c hc)
  have hout:=A4.out hbs
  refine⟨sf,(b4.ofKeep k428).cellAdd (by rfl),?_⟩
  refine remove_go hg A28.sm A28.ok hf A28.le A28.ag A28.doc r2 (fun hne hl=>?_) (fun y hy=>items_le A28.sz hy) (fun h0=>absurd h0 hne) fun z j hl hz hj hjl h31 D' hD' tn=>⟨0,rfl,(fun hx=>by simp at hx),fun _=>?_⟩
  ·obtain⟨z,q1,k,q2,q3⟩:=findP_last hne hy
   exact⟨z,q1,by rw [lst_get hl,q2];omega⟩
  have hrem:remR v o.2.2.1=setP v (o.2.2.1.take (o.2.2.1.length - 1)) (delI z j):=by
   unfold remR iniP
   rw [hz]
   simp only
   rw [← lst_get hl,hj];rfl
  rw [← hrem] at hD'
  have zt:=tn.size
  have fold:∀ c,c < h28.size→c≠rb→c∉D→h31[c]?=h28[c]?:=tn.old
  have hDl:∀ c∈D,c < h.size:=fun c hc=>A.doc.lt c (.inr hc)
  have A31:At gl (remR v o.2.2.1) h31 M rb D':=by
   refine⟨A.le,fun b c e=>?_,hD',?_,allT_rem A.ok hne hy,by have:=remR_sz v o.2.2.1;have:=A.sz;omega⟩
   ·have hb:=A28.ag.lt e
    obtain⟨q1,q2⟩:=hMD b c e
    obtain⟨T,mm,e2⟩:=A28.ag b c e
    exact⟨T,mm,by rw [fold b hb q1 q2];exact e2⟩
   ·exact⟨by have:=remR_sz v o.2.2.1;have:=A.sm.sz;omega,remR_tx A.sm.tx _⟩
  have bb31:Blk h31 h.size (opCells o.1 sp sf o.2.2.2 sk si).toArray:=(b4.ofKeep k428).keep (fold _ (by omega) (by omega) (fun hm=>by have:=hDl _ hm;omega))
  have bw31:Blk h31 h22.size (tcells y.kind y.text ck ci).toArray:=b28.keep (fold _ (by omega) (by omega) (fun hm=>by have:=hDl _ hm;omega))
  have ot31:OT h31 y bs (ocells y ck ci):=ot28.frame fun c hc=>fold c (ot28.lt c hc) (hout c hc).1 (hout c hc).2
  have hD'o:∀ c∈bs,c≠rb∧c∉D':=fun c hc=>⟨(hout c hc).1,fun hm=>by
   rcases tn.own c hm with q | q | q
   ·exact(hout c hc).2 q
   ·cases q
   ·have:=ot28.lt c hc;omega⟩
  refine⟨sp,bb31.cellAdd (by rfl),y.kind,y.text,ck,ci,bw31.ld (cs:=tcells y.kind y.text ck ci),?_⟩
  refine add_go hg A31.sm A31.ok hp A31.le A31.ag A31.doc r1 ot31 hD'o (fun x hx=>items_le A31.sz hx) (fun hn h' k'=>⟨8,rfl,?_⟩) fun t ht h' D'' hD'' tn2=>⟨0,rfl,?_⟩
  ·rw [hn] at hK
   refine hK h' [] (fun e=>by simp [orErr] at e) ⟨by have:=k'.size;omega,fun c q1 q2 q3=>?_,fun c hc=>by cases hc⟩
   rw [k'.get c (by omega),fold c (by omega) q2 q3];exact k028.get c q1
  ·rw [ht] at hK
   refine hK h' D'' (fun _=>hD'') ⟨by have:=tn2.size;omega,fun c q1 q2 q3=>?_,fun c hc=>?_⟩
   ·have hnD':c∉D':=fun hm=>by
     rcases tn.own c hm with q | q | q
     ·exact q3 q
     ·cases q
     ·omega
    rw [tn2.old c (by omega) q2 hnD',fold c (by omega) q2 q3];exact k028.get c q1
   ·rcases tn2.own c hc with q | q | q
    ·rcases tn.own c q with q | q | q
     ·exact .inl q
     ·cases q
     ·exact .inr (.inr (by omega))
    ·exact .inr (.inr (by have:=hbs c q;omega))
    ·exact .inr (.inr (by omega))
end Go.Proofs.YtbploiccompocaaGreatDoor
end
section
namespace Go.Proofs.YtbploiccompocaaGreatDoor
open Go Go.X Go.Proofs Go.Lib
set_option linter.unusedVariables false
theorem nmB (s:ByteArray) (a:Array UInt8):(s.toList==(⟨a⟩:ByteArray).toList)=decide (lb s=a.toList):=by
 rw [Bool.eq_iff_iff];simp [ByteArray.toList_eq,lb]
structure OpS (o:OpT):Prop where
 p:SL o.2.1
 f:SL o.2.2.1
 v:Sm o.2.2.2
theorem shape_pc {gl:Fr} {s:ByteArray} {R:Bool×Bool×Bool→Prop} (h:R (shapeP (lb s))):PC Tryz.prog gl 36 [Arg.mk .str s] [.bool,.bool,.bool] R:=by
 apply pu_patch_shape
 simp only [nmB]
 unfold shapeP nmAdd nmReplace nmTest nmMove nmCopy nmRemove at h
 intro K hK
 have yes:(lb s=[97,100,100]∨lb s=[114,101,112,108,97,99,101]∨lb s=[116,101,115,116])→K true:=fun hc=>hK true ⟨fun _=>by rw [if_pos hc] at h;exact h,(fun hc=>by cases hc)⟩
 have no:¬ (lb s=[97,100,100]∨lb s=[114,101,112,108,97,99,101]∨lb s=[116,101,115,116])→K false:=fun hc=>hK false ⟨(fun hc=>by cases hc),fun _=>by
  rw [if_neg hc] at h
  refine⟨fun h1=>⟨fun _=>?_,fun h2=>?_⟩,fun h1=>⟨fun h2=>?_,fun h2=>?_⟩⟩
  ·rw [if_pos (.inl (by simpa using h1))] at h;exact h
  ·rw [h1] at h2;cases h2
  ·rw [if_pos (.inr (by simpa using h2))] at h;exact h
  ·rw [if_neg (fun hx=>by rcases hx with hx | hx <;> simp_all)] at h
   exact h⟩
 refine⟨fun h1=>?_,fun h1=>⟨fun h2=>?_,fun h2=>?_⟩⟩
 ·rw [h1];exact yes (.inl (by simpa using h1))
 ·rw [h2];exact yes (.inr (.inl (by simpa using h2)))
 ·cases h3:decide (lb s=#[116,101,115,116].toList) with
  | true=>exact yes (.inr (.inr (by simpa using h3)))
  | false=>exact no (by rintro(hx | hx | hx) <;> simp_all)
theorem pRight_pc {gl:Fr} (hg:GL gl) {o:OpT} (ho:OpS o) {R:Bool→Prop} (h:R (rightO o)):PC Tryz.prog gl 17 [Arg.mk opTy o] [.bool] R:=by
 apply pu_patch_Right
 refine shape_pc ?_
 simp only [tr_eta]
 intro K hK
 have no:rightO o=false→K true:=fun hf=>hK true ⟨fun _=>by rw [hf] at h;exact h,(fun hc=>by cases hc)⟩
 refine⟨fun h1=>?_,fun h1=>?_⟩
 ·rw [h1]
  exact no (by unfold rightO;simp at h1;simp [h1])
 have h1':(shapeP (lb o.1)).2.2=true:=by simpa using h1
 refine Right_pc hg ho.p ⟨fun h2=>?_,fun h2=>?_⟩
 ·rw [h2]
  exact no (by unfold rightO;simp at h2;simp [h2])
 have h2':rightP o.2.1=true:=by simpa using h2
 refine Right_pc hg ho.f ⟨fun h3=>?_,fun h3=>?_⟩
 ·rw [h3]
  exact no (by unfold rightO;simp at h3;simp [h3])
 have h3':rightP o.2.2.1=true:=by simpa using h3
 have e:(bif (!(shapeP (lb o.1)).2.1) then(decide (((List.length o.2.2.1:Nat):Int) > 0)) else false)=!((shapeP (lb o.1)).2.1 || decide (o.2.2.1=[])):=by
  rw [Bool.eq_iff_iff]
  cases(shapeP (lb o.1)).2.1 with
  | true=>simp
  | false=>simp [List.length_pos_iff]
 rw [e]
 cases h4:((shapeP (lb o.1)).2.1 || decide (o.2.2.1=[])) with
 | false=>exact no (by unfold rightO;rw [h4];simp)
 | true=>
  have hr:rightO o=(bif (shapeP (lb o.1)).1 then rightT o.2.2.2 else zeroT o.2.2.2):=by unfold rightO;rw [h1',h2',h3',h4];rfl
  rw [hr] at h
  refine hK false ⟨(fun hc=>by cases hc),fun _=>⟨fun h5=>?_,fun h5=>?_⟩⟩
  ·rw [h5] at h;exact vRight_pc hg ho.v h
  ·rw [h5] at h;exact zero_pc (by have:=ho.v.keys;omega) ho.v.items h
set_option maxHeartbeats 2000000 in
theorem step_go {gl:Fr} (hg:GL gl) {v:Tr} {h:Heap} {M:Fr} {rb:Nat} {D:List Nat} (A:At gl v h M rb D) (hMD:∀ b cs,M b=some cs→b≠rb∧b∉D) (hv:rightT v=true) {o:OpT} (ho:OpS o) {u:Value} (hu:RdV M opTy o u) {K:Value→Heap→Prop} (hK:Res h rb D (stepR v o) K):
  XC Tryz.prog 33 #[.pointer (some ⟨rb,0,none⟩),u] h K:=by
 have ov:=rightT_open hv
 have hu0:=hu
 obtain⟨sp,sf,sk,si,rfl,r1,r2,r3⟩:=rdOp hu
 apply sh_patch_doc_step (some ⟨rb,0,none⟩) o.1 sp sf o.2.2.2.kind o.2.2.2.text sk si
 intro h1
 have k1:Keep h.size h h1:=Keep.push _ _ (Nat.le_refl _)
 have b1:Blk h1 h.size (opCells o.1 sp sf o.2.2.2 sk si).toArray:=Blk.new _ _ _
 have z1:h1.size=h.size+1:=Array.size_push _
 clear_value h1
 have A1:=A.keep k1
 refine⟨o.1,sp,sf,o.2.2.2.kind,o.2.2.2.text,sk,si,b1.ld (cs:=opCells o.1 sp sf o.2.2.2 sk si),?_⟩
 have hright:PC Tryz.prog gl 17 [Arg.mk opTy o] [.bool] (fun r=>r=rightO o):=pRight_pc hg ho rfl
 refine hright.go (vs:=[.agg (opCells o.1 sp sf o.2.2.2 sk si).toArray]) A1.le A1.ag (args1 hu0 args0) fun w h10 M10 r L10 hret hr=>?_
 have hr:r=rightO o:=hr
 subst hr
 have k10:Keep h.size h h10:=k1.trans L10.keep (by omega)
 have A10:=A.keep k10
 have b10:=b1.ofKeep L10.keep
 have z10:=L10.keep.size
 refine⟨rightO o,retB hret,fun hf=>?_,fun ht=>?_⟩
 ·have hf':rightO o=false:=by simpa using hf
  have:stepR v o=(zT,1):=by unfold stepR;rw [hf'];rfl
  rw [this] at hK
  exact res_no hK (by simp) k10
 have ht':rightO o=true:=by simpa using ht
 have hstep:stepR v o=(if(doR v o).2=0 then(if rightT (doR v o).1 then((doR v o).1,0) else(zT,1)) else(zT,(doR v o).2)):=by unfold stepR;rw [ht',if_pos rfl]
 have hps:∀ s∈o.2.1,s.size≤1048576:=fun s hs=>by rw [← lb_len];exact ho.p.s s hs
 have hsm:Sm (doR v o).1:=doR_sm A.sm ov ho.v (by have:=rightO_sz ht';omega) hps
 intro K14 hK14
 have main:∀ F,callable Tryz.prog F=true→(∀ KK,Res h10 rb D (doR v o) KK→XC Tryz.prog F #[.pointer (some ⟨rb,0,none⟩),.agg (opCells o.1 sp sf o.2.2.2 sk si).toArray] h10 KK)→K14 (.func (.func F) #[.pointer (some ⟨rb,0,none⟩)] #[]) h10:=by
  intro F hF hX
  refine hK14 _ h10 ⟨o.1,sp,sf,o.2.2.2.kind,o.2.2.2.text,sk,si,b10.ld (cs:=opCells o.1 sp sf o.2.2.2 sk si),hF,?_⟩
  refine hX _ fun h' D' hD tn=>⟨(doR v o).2,rfl,fun hne=>?_,fun heq=>?_⟩
  ·have hne':(doR v o).2≠0:=by simpa using hne
   rw [hstep,if_neg hne'] at hK
   exact hK h' [] (fun e=>absurd e hne') ⟨by have:=tn.size;have:=k10.size;omega,fun c q1 q2 q3=>(tn.old c (by have:=k10.size;omega) q2 q3).trans (k10.get c q1),fun c hc=>by cases hc⟩
  ·have heq':(doR v o).2=0:=by simpa using heq
   rw [hstep,if_pos heq'] at hK
   have hdoc:=hD heq'
   have zt:=tn.size
   obtain⟨⟨cs,bd,hcs,ot⟩,hno⟩:=hdoc
   obtain⟨dk,di,ecs⟩:=ot.cells
   have agm:AgM M h':=fun b c e=>by
    have hb:=A10.ag.lt e
    obtain⟨q1,q2⟩:=hMD b c e
    obtain⟨T,mm,e2⟩:=A10.ag b c e
    exact⟨T,mm,by rw [tn.old b hb q1 q2];exact e2⟩
   have ecs':cs=(ocells (doR v o).1 dk di).toArray:=by apply Array.ext';rw [ecs];rfl
   rw [ecs] at ot
   subst ecs'
   refine⟨⟨rb,0,none⟩,rfl,(doR v o).1.kind,(doR v o).1.text,dk,di,?_,?_⟩
   ·rw [add_none];exact bd.ld (cs:=ocells (doR v o).1 dk di)
   have hvr:PC Tryz.prog gl 21 [Arg.mk .tree (doR v o).1] [.bool] (fun r=>r=rightT (doR v o).1):=vRight_pc hg hsm rfl
   refine hvr.go (vs:=[.agg #[.int .i64 (doR v o).1.kind,.string (doR v o).1.text,slV dk,slV di]]) (A.le.trans (le_MxL agm D')) (MxL.ag agm D') (args1 ot.rdv args0) fun w2 h33 M33 r33 L33 hret33 hr33=>?_
   have hr33:r33=rightT (doR v o).1:=hr33
   subst hr33
   have z33:=L33.keep.size
   have tn':Turn h h33 rb D [] D':=⟨by have:=k10.size;omega,fun c q1 q2 q3=>by
    have:=k10.size
    rw [L33.keep.get c (by omega),tn.old c (by omega) q2 q3];exact k10.get c q1,fun c hc=>by
    rcases tn.own c hc with q | q | q
    ·exact .inl q
    ·cases q
    ·exact .inr (.inr (by have:=k10.size;omega))⟩
   refine⟨rightT (doR v o).1,retB hret33,fun hf=>?_,fun ht2=>?_⟩
   ·have hf':rightT (doR v o).1=false:=by simpa using hf
    rw [if_neg (by rw [hf'];simp)] at hK
    exact hK h33 D' (fun e=>by simp at e) tn'
   ·have ht3:rightT (doR v o).1=true:=by simpa using ht2
    rw [if_pos ht3] at hK
    refine hK h33 D' (fun _=>?_) tn'
    have hd:Doc h' rb (doR v o).1 D':=hD heq'
    exact hd.keep fun c hc=>L33.keep.get c (hd.lt c hc)
 have hshape:(shapeP (lb o.1)).2.2=true:=by
  unfold rightO at ht'
  simp only [Bool.and_eq_true] at ht'
  exact ht'.1
 refine⟨o.1,?_,?_⟩
 ·rw [add_none];exact b10.cell (by rfl)
 simp only [nmB]
 refine⟨fun c1=>?_,fun c1=>⟨fun c2=>?_,fun c2=>⟨fun c3=>?_,fun c3=>⟨fun c4=>?_,fun c4=>⟨fun c5=>?_,fun c5=>?_⟩⟩⟩⟩⟩
 ·have e1:lb o.1=nmRemove:=of_decide_eq_true c1
  refine main _ (by kernel_rfl) fun KK hKK=>doRemove_go hg A10 ho.p hu0 ?_
  unfold doR at hKK;rw [if_pos e1] at hKK;exact hKK
 all_goals have n1:lb o.1≠nmRemove:=of_decide_eq_false c1
 ·have e2:lb o.1=nmReplace:=of_decide_eq_true c2
  refine main _ (by kernel_rfl) fun KK hKK=>doReplace_go hg A10 ho.p ho.v (rightO_open ht' (shape_add (.inr (.inl e2)))) hu0 ?_
  unfold doR at hKK;rw [if_neg n1,if_pos e2] at hKK;exact hKK
 all_goals have n2:lb o.1≠nmReplace:=of_decide_eq_false c2
 ·have e3:lb o.1=nmMove:=of_decide_eq_true c3
  refine main _ (by kernel_rfl) fun KK hKK=>doMove_go hg A10 hMD ho.p ho.f ov hu0 ?_
  unfold doR at hKK;rw [if_neg n1,if_neg n2,if_pos e3] at hKK;exact hKK
 all_goals have n3:lb o.1≠nmMove:=of_decide_eq_false c3
 ·have e4:lb o.1=nmCopy:=of_decide_eq_true c4
  refine main _ (by kernel_rfl) fun KK hKK=>doCopy_go hg A10 ho.p ho.f ov hu0 ?_
  unfold doR at hKK;rw [if_neg n1,if_neg n2,if_neg n3,if_pos e4] at hKK;exact hKK
 all_goals have n4:lb o.1≠nmCopy:=of_decide_eq_false c4
 ·have e5:lb o.1=nmTest:=of_decide_eq_true c5
  refine main _ (by kernel_rfl) fun KK hKK=>doTest_go hg A10 ho.p ho.v (rightO_open ht' (shape_add (.inr (.inr e5)))) ov hu0 ?_
  unfold doR at hKK;rw [if_neg n1,if_neg n2,if_neg n3,if_neg n4,if_pos e5] at hKK;exact hKK
 ·have n5:lb o.1≠nmTest:=of_decide_eq_false c5
  have e6:=shape_is hshape n1 n2 n3 n4 n5
  refine main _ (by kernel_rfl) fun KK hKK=>doAdd_go hg A10 ho.p ho.v (rightO_open ht' (shape_add (.inl e6))) hu0 ?_
  unfold doR at hKK;rw [if_neg n1,if_neg n2,if_neg n3,if_neg n4,if_neg n5] at hKK;exact hKK
end Go.Proofs.YtbploiccompocaaGreatDoor
end
section
namespace Go.Proofs.YtbploiccompocaaGreatDoor
open Go Go.X Go.Proofs Go.Lib
set_option linter.unusedVariables false
theorem opAt {M:Fr} {h:Heap} (ag:AgM M h) {xs:List OpT} {s:Sl} (H:Rd M (.row opTy) xs [slV s]) {k:Nat} (hk:k < xs.length):∃ (a:Addr) (sp sf sk si:Sl),s.a=some a∧ldList h (a.add (k*7)) 0 (opCells xs[k].1 sp sf xs[k].2.2.2 sk si)∧RdV M opTy xs[k] (.agg (opCells xs[k].1 sp sf xs[k].2.2.2 sk si).toArray):=by
 obtain⟨b,o,cs,e1,e2,e3⟩:=Go.X.rowAt H hk
 have e4:RdV M opTy xs[k] (.agg (cut cs (o+k*sz opTy) (sz opTy)).toArray):=by
  unfold RdV;simp only [aggT,if_true];exact⟨_,rfl,e3⟩
 obtain⟨sp,sf,sk,si,q,_⟩:=rdOp e4
 have:(cut cs (o+k*sz opTy) (sz opTy))=opCells xs[k].1 sp sf xs[k].2.2.2 sk si:=by
  injection q with q
  exact congrArg Array.toList q
 refine⟨_,sp,sf,sk,si,e1,?_,by rw [← this];exact e4⟩
 rw [addM]
 exact ldCut ag e2 (i:=0) this
theorem opCells_one (s:ByteArray) (sp sf:Sl) (v:Tr) (sk si:Sl):∀ u∈opCells s sp sf v sk si,u.oneCell'=true:=by
 intro u hu
 simp [opCells] at hu
 rcases hu with rfl | rfl | rfl | rfl | rfl | rfl | rfl <;> simp [Value.oneCell',slV]
theorem okOp:okInfo Tryz.prog 38=true:=by kernel_rfl
theorem szOp:szOf Tryz.prog 38=7:=by kernel_rfl
def opZero:List Value:=[.string ⟨#[]⟩,.slice none 0 0,.slice none 0 0,.int .i64 0,.string ⟨#[]⟩,.slice none 0 0,.slice none 0 0]
theorem storeOp {h:Heap} {b:Nat} {cs:Array Value} (H:Blk h b cs) (hn:cs.size=7) (s:ByteArray) (sp sf:Sl) (v:Tr) (sk si:Sl) {K:Heap→Prop}
  (hK:∀ h':Heap,Blk h' b (opCells s sp sf v sk si).toArray→h'.size=h.size→(∀ j,j≠b→h'[j]?=h[j]?)→K h'):XRunU Tryz.prog (Instr.storeAt 38 (.pointer (some ⟨b,0,none⟩)) (.agg (opCells s sp sf v sk si).toArray)) h K:=
 storeN (vs:=opCells s sp sf v sk si) okOp H rfl szOp (by rw [hn];exact Nat.le_refl _) (opCells_one s sp sf v sk si) fun h' e1 e2 e3=>hK h' (by rw [upd_all (by rw [hn];rfl)] at e1;exact e1) e2 e3
theorem stepR_right {v:Tr} {o:OpT} (h:(stepR v o).2=0):rightT (stepR v o).1=true:=by
 unfold stepR at h ⊢
 split
 ·split
  ·split
   ·rename_i h3;exact h3
   ·rename_i h1 h2 h3;rw [if_pos h1,if_pos h2,if_neg h3] at h;simp at h
  ·rename_i h1 h2;rw [if_pos h1,if_neg h2] at h;exact absurd h h2
 ·rename_i h1;rw [if_neg h1] at h;simp at h
theorem stepR_sm {v:Tr} {o:OpT} (hv:Sm v) (hr:rightT v=true) (ho:OpS o):Sm (stepR v o).1:=by
 unfold stepR
 split
 ·rename_i h1
  split
  ·split
   ·exact doR_sm hv (rightT_open hr) ho.v (by have:=rightO_sz h1;omega) fun s hs=>by rw [← lb_len];exact ho.p.s s hs
   ·exact zT_sm
  ·exact zT_sm
 ·exact zT_sm
set_option maxHeartbeats 4000000 in
theorem Apply_pc {gl:Fr} (hg:GL gl) {v:Tr} {l:List OpT} (hv:Sm v) (hl:∀ o∈l,OpS o) (hn:l.length≤1000000) {R:Tr×Int×Int→Prop} (hR:R (patchR v l)):
  PC Tryz.prog gl 13 [Arg.mk .tree v,Arg.mk (.row opTy) l] [.tree,.int .i64,.int .i64] R:=by
 intro h M vs hM ag hargs
 match vs,hargs with
 | [u1,u2],⟨hu1,hu2,_⟩=>
 have hu1:RdV M .tree v u1:=hu1
 have hu2:RdV M (.row opTy) l u2:=hu2
 have hu10:=hu1
 obtain⟨sk,si,rfl,rk,ri⟩:=rdTree hu1
 obtain⟨sl,rfl,rl⟩:=rdRow hu2
 obtain⟨ll,_,_⟩:=rowLen rl
 apply PX.of
 apply sh_patch_Apply v.kind v.text sk si sl
 intro h1 h2
 have k1:Keep h.size h h1:=Keep.push _ _ (Nat.le_refl _)
 have k2:Keep h1.size h1 h2:=Keep.push _ _ (Nat.le_refl _)
 have b1:Blk h1 h.size (tcells v.kind v.text sk si).toArray:=Blk.new _ _ _
 have b2:Blk h2 h1.size (tcells 0 ⟨#[]⟩ ⟨none,0,0⟩ ⟨none,0,0⟩).toArray:=Blk.new _ _ _
 have z1:h1.size=h.size+1:=Array.size_push _
 have z2:h2.size=h1.size+1:=Array.size_push _
 clear_value h1 h2
 have b1':=b1.ofKeep k2
 have kk2:Keep h.size h h2:=k1.trans k2 (by omega)
 have ag2:=ag.keep kk2
 have ret:∀ (g g':Heap) (M':Fr) (r:Tr) (sk si:Sl) (i e:Int),Later h M g' M'→RdV M' .tree r (.agg #[.int .i64 r.kind,.string r.text,slV sk,slV si])→R (r,i,e) →
   ∃ M' r',Later h M g' M'∧RetV M' [.tree,.int .i64,.int .i64] r' (.tuple #[.agg #[.int .i64 r.kind,.string r.text,slV sk,slV si],.int .i64 i,.int .i64 e])∧R r':=by
  intro g g' M' r sk si i e L hr hR
  exact⟨M',(r,i,e),L,⟨[_,_,_],⟨_,_,rfl,hr,_,_,rfl,rdInt _ _,_,rfl,rdInt _ _⟩,rfl⟩,hR⟩
 have bad:∀ (g:Heap) (i e:Int),Keep h.size h g→Blk g h1.size (tcells 0 ⟨#[]⟩ ⟨none,0,0⟩ ⟨none,0,0⟩).toArray→R (zT,i,e) →
   XRunU Tryz.prog (Instr.storeAt 25 (.pointer (some ⟨h1.size,0,none⟩)) (.agg #[.int .i64 0,.string (⟨#[]⟩:ByteArray),.slice none 0 0,.slice none 0 0])) g (fun g'=>∃ r_11:Int,∃ r_12:ByteArray,∃ r_13:Sl,∃ r_14:Sl,ldList g' ⟨h1.size,0,none⟩ 0 [.int .i64 r_11,.string r_12,.slice r_13.a r_13.len r_13.cap,.slice r_14.a r_14.len r_14.cap] ∧
    (∃ M' r',Later h M g' M'∧RetV M' [.tree,.int .i64,.int .i64] r' (.tuple #[.agg #[.int .i64 r_11,.string r_12,.slice r_13.a r_13.len r_13.cap,.slice r_14.a r_14.len r_14.cap],.int .i64 i,.int .i64 e])∧R r')):=by
  intro g i e kg bg hRz
  refine storeTree bg rfl 0 ⟨#[]⟩ ⟨none,0,0⟩ ⟨none,0,0⟩ fun g' b' z' f'=>⟨0,⟨#[]⟩,⟨none,0,0⟩,⟨none,0,0⟩,b'.ld (cs:=tcells 0 ⟨#[]⟩ ⟨none,0,0⟩ ⟨none,0,0⟩),?_⟩
  have kg':Keep h.size h g':=⟨by have:=kg.size;omega,fun j hj=>by rw [f' j (by omega)];exact kg.get j hj⟩
  refine ret g g' M zT ⟨none,0,0⟩ ⟨none,0,0⟩ i e (Later.same ag kg') ?_ hRz
  refine rdTree_mk (v:=zT) ?_ ?_
  ·exact⟨_,rfl,none,0,rfl,⟨by simp [zT],by simp [zT]⟩,.inl rfl⟩
  ·exact⟨_,rfl,none,0,rfl,⟨by simp [zT],by simp [zT]⟩,.inl rfl⟩
 refine⟨v.kind,v.text,sk,si,b1'.ld (cs:=tcells v.kind v.text sk si),?_⟩
 have hright:PC Tryz.prog gl 21 [Arg.mk .tree v] [.bool] (fun r=>r=rightT v):=vRight_pc hg hv rfl
 refine hright.go (vs:=[.agg #[.int .i64 v.kind,.string v.text,slV sk,slV si]]) hM ag2 (args1 hu10 args0) fun w h8 M8 r L8 hret hr=>?_
 have hr:r=rightT v:=hr
 subst hr
 have k8:Keep h.size h h8:=kk2.trans L8.keep (by omega)
 have z8:=L8.keep.size
 refine⟨rightT v,retB hret,fun hf=>?_,fun ht=>?_⟩
 ·have hf':rightT v=false:=by simpa using hf
  unfold patchR at hR
  rw [hf'] at hR
  exact bad h8 0 1 k8 (b2.ofKeep L8.keep) hR
 have ht':rightT v=true:=by simpa using ht
 have hpat:patchR v l=applyR v l 0:=by unfold patchR;rw [ht'];rfl
 rw [hpat] at hR
 refine⟨v.kind,v.text,sk,si,(b1'.ofKeep L8.keep).ld (cs:=tcells v.kind v.text sk si),?_⟩
 refine Copy_on hg hv (rightT_open ht') hM (ag.keep k8) hu10 fun h20 bs ck ci k20 ot hbs=>⟨v.kind,v.text,ck,ci,rfl,?_⟩
 have z20:=k20.size
 intro h25
 have k25:Keep h20.size h20 h25:=Keep.push _ _ (Nat.le_refl _)
 have b25:Blk h25 h20.size (tcells v.kind v.text ck ci).toArray:=Blk.new _ _ _
 have z25:h25.size=h20.size+1:=Array.size_push _
 clear_value h25
 have K25:Keep h.size h h25:=(k8.trans k20 (by omega)).trans k25 (by omega)
 have ot25:OT h25 v bs (ocells v ck ci):=ot.frame fun c hc=>k25.get c (ot.lt c hc)
 have d25:Doc h25 h20.size v bs:=⟨⟨_,b25,rfl,ot25⟩,fun hm=>by have:=ot.lt _ hm;omega⟩
 have b225:Blk h25 h1.size (tcells 0 ⟨#[]⟩ ⟨none,0,0⟩ ⟨none,0,0⟩).toArray:=((b2.ofKeep L8.keep).ofKeep k20).ofKeep k25
 refine⟨fun i g=>∃ (k:Nat) (w:Tr) (D:List Nat),i=(k:Int)∧k≤l.length∧Keep h.size h g∧h20.size < g.size∧Blk g h1.size (tcells 0 ⟨#[]⟩ ⟨none,0,0⟩ ⟨none,0,0⟩).toArray∧Doc g h20.size w D∧(∀ c∈D,h2.size≤c)∧rightT w=true∧Sm w∧R (applyR w (l.drop k) k),
  fun i _=>l.length - i.toNat,⟨0,v,bs,rfl,Nat.zero_le _,K25,by omega,b225,d25,(fun c hc=>by have:=hbs c hc;omega),ht',hv,by rw [List.drop_zero];exact hR⟩,?_⟩
 rintro i g ⟨k,w,D,rfl,hk,kg,zg,bg,dg,hD,hrw,hsw,hRg⟩
 have agg:=ag.keep kg
 refine⟨fun hc=>?_,fun hc=>?_⟩
 ·have hc':k < l.length:=by rw [ll] at hc;simp at hc;omega
  obtain⟨a,sp,sf,tk,ti,ea,hld,hop⟩:=opAt agg rl hc'
  have hos:=hl l[k] (List.getElem_mem hc')
  refine⟨a,⟨ea,by omega,by omega⟩,l[k].1,sp,sf,l[k].2.2.2.kind,l[k].2.2.2.text,tk,ti,by rw [Int.toNat_natCast];exact hld,?_⟩
  intro h38
  have k38:Keep g.size g h38:=Keep.push _ _ (Nat.le_refl _)
  have b38:Blk h38 g.size opZero.toArray:=Blk.new _ _ _
  have z38:h38.size=g.size+1:=Array.size_push _
  clear_value h38
  refine storeOp b38 rfl l[k].1 sp sf l[k].2.2.2 tk ti fun h39 b39 z39 f39=>?_
  refine⟨l[k].1,sp,sf,l[k].2.2.2.kind,l[k].2.2.2.text,tk,ti,b39.ld (cs:=opCells l[k].1 sp sf l[k].2.2.2 tk ti),?_⟩
  have k39:Keep g.size g h39:=⟨by omega,fun j hj=>by rw [f39 j (by omega)];exact k38.get j hj⟩
  have kh39:Keep h.size h h39:=kg.trans k39 (by have:=kg.size;omega)
  have A39:At gl w h39 M h20.size D:=⟨hM,ag.keep kh39,dg.keep fun c hc=>k39.get c (dg.lt c hc),hsw,openT_all (rightT_open hrw),rightT_sz hrw⟩
  have hMD:∀ b cs,M b=some cs→b≠h20.size∧b∉D:=fun b cs e=>by
   have:=ag.lt e
   exact⟨by omega,fun hm=>by have:=hD b hm;omega⟩
  have hRk:R (if(stepR w l[k]).2=0 then applyR (stepR w l[k]).1 (l.drop (k+1)) (k+1) else(zT,(k:Int),(stepR w l[k]).2)):=by
   rw [List.drop_eq_getElem_cons hc',applyR] at hRg
   exact hRg
  have key:∀ (h':Heap) (D':List Nat),Turn h39 h' h20.size D [] D'→Keep h.size h h'∧Blk h' h1.size (tcells 0 ⟨#[]⟩ ⟨none,0,0⟩ ⟨none,0,0⟩).toArray:=fun h' D' tn=>
   ⟨⟨by have:=tn.size;have:=kh39.size;omega,fun j hj=>by rw [tn.old j (by have:=kh39.size;omega) (by omega) (fun hm=>by have:=hD j hm;omega)];exact kh39.get j hj⟩,
    (bg.ofKeep k39).keep (tn.old _ (by omega) (by omega) (fun hm=>by have:=hD _ hm;omega))⟩
  refine step_go hg A39 hMD hrw hos hop fun h' D' hdoc tn=>⟨(stepR w l[k]).2,rfl,fun hne=>?_,fun heq=>?_⟩
  all_goals obtain⟨kh',bg'⟩:=key h' D' tn
  ·have hne':¬ (stepR w l[k]).2=0:=by simpa using hne
   rw [if_neg hne'] at hRk
   exact bad h' k (stepR w l[k]).2 kh' bg' hRk
  ·have heq':(stepR w l[k]).2=0:=by simpa using heq
   rw [if_pos heq'] at hRk
   rw [wsucc hc' (by omega)]
   refine⟨⟨k+1,(stepR w l[k]).1,D',rfl,hc',kh',by have:=tn.size;omega,bg',hdoc heq',fun c hc=>?_,stepR_right heq',stepR_sm hsw hrw hos,hRk⟩,by simp only [Int.toNat_natCast];omega⟩
   rcases tn.own c hc with q | q | q
   ·exact hD c q
   ·cases q
   ·omega
 ·have hc':k=l.length:=by rw [ll] at hc;simp at hc;omega
  subst hc'
  rw [List.drop_length,applyR] at hRg
  obtain⟨⟨cs,bd,hcs,otd⟩,hno⟩:=dg
  obtain⟨dk,di,ecs⟩:=otd.cells
  have ecs':cs=(ocells w dk di).toArray:=by apply Array.ext';rw [ecs];rfl
  rw [ecs] at otd
  subst ecs'
  refine⟨⟨h20.size,0,none⟩,rfl,w.kind,w.text,dk,di,?_,?_⟩
  ·rw [add_none];exact bd.ld (cs:=ocells w dk di)
  refine storeTree bg rfl w.kind w.text dk di fun g' b' z' f'=>⟨w.kind,w.text,dk,di,b'.ld (cs:=tcells w.kind w.text dk di),?_⟩
  have kg':Keep h.size h g':=⟨by have:=kg.size;omega,fun j hj=>by rw [f' j (by omega)];exact kg.get j hj⟩
  have otg:OT g' w D (ocells w dk di):=otd.frame fun c hc=>f' c (by have:=hD c hc;omega)
  have L:=MxL.later (M:=M) (h0:=h) (h:=g') ag kg' (bs:=D) (fun c hc=>by have:=hD c hc;omega)
  rw [ll]
  exact ret g g' _ w dk di _ _ L otg.rdv hRg
end Go.Proofs.YtbploiccompocaaGreatDoor
end
section
namespace Go.Proofs.YtbploiccompocaaGreatDoor
open Go Go.X Go.Proofs
set_option linter.unusedVariables false
theorem OKeys.rd {h:Heap} {M:Fr} {ks:List ByteArray} {bs:List Nat} {s:Sl} (H:OKeys h ks bs s) (hM:∀ b∈bs,∀ cs,Blk h b cs→M b=some cs):Rd M (.row .str) ks [slV s]:=by
 obtain⟨k1,k2,k3,k4⟩:=H
 refine⟨slV s,rfl,s.a,s.cap,by rw [slV,k1],⟨k2,k3⟩,?_⟩
 rcases k4 with⟨h0,_⟩| ⟨b',cs',rfl,e1,e2,_,e3⟩
 ·exact .inl h0
 ·refine .inr ⟨b',0,cs',e1,hM b' (by simp) cs' e2,fun i hx=>?_⟩
  have:(cut cs' 0 ks.length)[i]?=some (Value.string ks[i]):=by rw [e3,List.getElem?_map,List.getElem?_eq_getElem hx];rfl
  unfold cut at this
  rw [List.getElem?_take,if_pos hx,List.drop_zero] at this
  have hlt:=(List.getElem?_eq_some_iff.1 this).1
  show cut cs' (0+i*1) 1=[Value.string ks[i]]
  unfold cut
  rw [Nat.zero_add,Nat.mul_one,List.drop_eq_getElem_cons hlt,List.take_succ_cons,List.take_zero]
  rw [List.getElem?_eq_getElem hlt] at this
  rw [Option.some.inj this]
end Go.Proofs.YtbploiccompocaaGreatDoor
end
section
namespace Go.Proofs.YtbploiccompocaaGreatDoor
open Go Go.X Go.Proofs
set_option linter.unusedVariables false
structure AddSt (h:Heap) (M:Fr) (v w:Tr) (sk si wk wi:Sl) (bv bw br:Nat) (g:Heap) (M':Fr):Prop where
 later:Later h M g M'
 no:M' br=none
 v:Blk g bv (tcells v.kind v.text sk si).toArray
 w:Blk g bw (tcells w.kind w.text wk wi).toArray
 r:Blk g br (tcells 0 ⟨#[]⟩ ⟨none,0,0⟩ ⟨none,0,0⟩).toArray
 lt:h.size≤bv∧h.size≤bw∧h.size≤br∧bv < g.size∧bw < g.size∧br < g.size
 ne:bv≠br∧bw≠br
theorem AddSt.step {h:Heap} {M:Fr} {v w:Tr} {sk si wk wi:Sl} {bv bw br:Nat} {g g':Heap} {M1 M2:Fr} (A:AddSt h M v w sk si wk wi bv bw br g M1) (L:Later g M1 g' M2):AddSt h M v w sk si wk wi bv bw br g' M2:=by
 have hz:=L.keep.size
 obtain⟨l1,l2,l3,l4,l5,l6⟩:=A.lt
 exact⟨A.later.trans L,by rw [L.old _ l6];exact A.no,A.v.ofKeep L.keep,A.w.ofKeep L.keep,A.r.ofKeep L.keep,⟨l1,l2,l3,by omega,by omega,by omega⟩,A.ne⟩
end Go.Proofs.YtbploiccompocaaGreatDoor
end
section
namespace Go.Proofs.YtbploiccompocaaGreatDoor
open Go Go.X Go.Proofs
set_option linter.unusedVariables false
theorem num9:nmText (numParse (Lib.itoa 9)).1=[57]:=by kernel_rfl
def o1:OpT:=(⟨#[97,100,100]⟩,[⟨#[97]⟩,⟨#[49]⟩],[],.mk 3 (bl [57]) [] [])
def o2:OpT:=(⟨#[114,101,109,111,118,101]⟩,[⟨#[97]⟩,⟨#[48]⟩],[],.mk 0 ⟨#[]⟩ [] [])
def o3:OpT:=(⟨#[109,111,118,101]⟩,[⟨#[48]⟩],[⟨#[48]⟩,⟨#[48]⟩],.mk 0 ⟨#[]⟩ [] [])
def o4:OpT:=(⟨#[116,101,115,116]⟩,[⟨#[48]⟩],[],.mk 3 (bl [50]) [] [])
def smR:Tr:=.mk 5 ⟨#[]⟩ [] [.mk 3 (bl [49]) [] []]
def smU:Tr:=.mk 6 ⟨#[]⟩ [⟨#[97]⟩] [.mk 5 ⟨#[]⟩ [] [.mk 3 (bl [57]) [] [],.mk 3 (bl [50]) [] []]]
theorem ap_1:patchR smT [o1,o2]=(smU,2,0):=by kernel_rfl
theorem ap_2:patchR smR [o3]=(zT,0,8):=by kernel_rfl
theorem ap_3:patchR smR [o4]=(zT,0,9):=by kernel_rfl
theorem fd_3:findR smU [⟨#[97]⟩,⟨#[48]⟩]=(.mk 3 (bl [57]) [] [],true):=by kernel_rfl
theorem leaf_tx {b:Bs} (hb:b.length≤2048):txS (.mk 3 (bl b) [] []):=by
 rw [txS,txSL];exact⟨⟨by rw [bl_size];exact hb,by simp⟩,trivial⟩
theorem leaf_sm {b:Bs} (hb:b.length≤2048):Sm (.mk 3 (bl b) [] []):=Sm.few (by rw [tks,tksL];simp) (leaf_tx hb)
theorem smR_sm:Sm smR:=by
 refine Sm.few ?_ ?_
 ·have:tks smR=2:=by kernel_rfl
  omega
 ·unfold smR
  rw [txS,txSL,txSL]
  exact⟨⟨by decide,by simp⟩,leaf_tx (by decide),trivial⟩
theorem smU_sm:Sm smU:=by
 refine Sm.few ?_ ?_
 ·have:tks smU=5:=by kernel_rfl
  omega
 ·unfold smU
  rw [txS,txSL,txSL,txS,txSL,txSL,txSL]
  exact⟨⟨by decide,by decide⟩,⟨⟨by decide,by simp⟩,leaf_tx (by decide),leaf_tx (by decide),trivial⟩,trivial⟩
theorem sl_nil:SL []:=⟨by decide,by simp⟩
theorem small21_pc {gl:Fr} (hg:GL gl) {R:Bool→Prop} (hR:R true):PC Tryz.prog gl 9 [] [.bool] R:=by
 apply pu_scarflaw21_small
 refine Num_pc hg (by decide) (by decide) ?_
 refine Num_pc hg (by decide) (by decide) ?_
 rw [num1,num2]
 refine Row_pc ?_
 refine Map_pc ?_
 refine Num_pc hg (by decide) (by decide) ?_
 rw [num9]
 refine Apply_pc hg (v:=smT) (l:=[o1,o2]) smT_sm (fun o ho=>?_) (by decide) ?_
 ·rcases List.mem_cons.1 ho with rfl | ho
  ·exact⟨sl_small (by decide) (by decide),sl_nil,leaf_sm (by decide)⟩
  ·rcases List.mem_cons.1 ho with rfl | ho
   ·exact⟨sl_small (by decide) (by decide),sl_nil,zT_sm⟩
   ·cases ho
 rw [ap_1]
 refine Row_pc ?_
 refine Apply_pc hg (v:=smR) (l:=[o3]) smR_sm (fun o ho=>?_) (by decide) ?_
 ·rcases List.mem_cons.1 ho with rfl | ho
  ·exact⟨sl_small (by decide) (by decide),sl_small (by decide) (by decide),zT_sm⟩
  ·cases ho
 rw [ap_2]
 refine Row_pc ?_
 refine Num_pc hg (by decide) (by decide) ?_
 rw [num2]
 refine Apply_pc hg (v:=smR) (l:=[o4]) smR_sm (fun o ho=>?_) (by decide) ?_
 ·rcases List.mem_cons.1 ho with rfl | ho
  ·exact⟨sl_small (by decide) (by decide),sl_nil,leaf_sm (by decide)⟩
  ·cases ho
 rw [ap_3]
 refine Find_pc hg (v:=smU) smU_sm (sl_small (by decide) (by decide)) ?_
 rw [fd_3]
 have key:∀ b,b=true→R b:=fun b hb=>hb ▸ hR
 exact key _ (by kernel_rfl)
structure OpF (o:OpT):Prop where
 p:PS o.2.1
 f:PS o.2.2.1
 v:Sm o.2.2.2
 t:tks o.2.2.2≤200
 d:o.1.size≤100
theorem OpF.s {o:OpT} (h:OpF o):OpS o:=⟨PS.sl h.p,PS.sl h.f,h.v⟩
end Go.Proofs.YtbploiccompocaaGreatDoor
end
section
namespace Go.Proofs.YtbploiccompocaaGreatDoor
open Go Go.X Go.Proofs
set_option linter.unusedVariables false
theorem applyR_sm:∀ {l:List OpT} {v:Tr} {i:Nat},Sm v→rightT v=true→(∀ o∈l,OpS o)→Sm (applyR v l i).1
 | [],v,i,hv,hr,hl=>by simpa [applyR] using hv
 | o::l,v,i,hv,hr,hl=>by
  rw [applyR]
  split
  ·rename_i h1
   exact applyR_sm (stepR_sm hv hr (hl o (by simp))) (stepR_right h1) fun x hx=>hl x (by simp [hx])
  ·exact zT_sm
theorem patchR_sm {l:List OpT} {v:Tr} (hv:Sm v) (hl:∀ o∈l,OpS o):Sm (patchR v l).1:=by
 unfold patchR
 split
 ·rename_i h;exact applyR_sm hv h hl
 ·exact zT_sm
end Go.Proofs.YtbploiccompocaaGreatDoor
end
section
namespace Go.X
open Go Go.Lib
set_option linter.unusedVariables false
theorem nodeOk_keys {v:Tr} (h:nodeOk v=true) (h6:v.kind=6):v.keys.Nodup:=by
 unfold nodeOk at h
 simp [h6] at h
 have:=h.1.1
 unfold keysOk at this
 simp at this
 exact this.2
theorem idxOf_app {l:List ByteArray} {s t:ByteArray}:idxOfS (l++[s]) t=if t∈l then idxOfS l t else if s=t then(l.length:Int) else -1:=by
 have key:∀ (l:List ByteArray) (i:Nat),idxFromS (l++[s]) t i=if t∈l then idxFromS l t i else if s=t then((i+l.length:Nat):Int) else -1:=by
  intro l
  induction l with
  | nil=>intro i;simp [idxFromS]
  | cons z l ih=>
   intro i
   rw [List.cons_append,idxFromS,idxFromS,ih]
   by_cases hz:z=t
   ·rw [if_pos hz,if_pos (by simp [hz]),if_pos hz]
   ·rw [if_neg hz,if_neg hz]
    by_cases ht:t∈l
    ·rw [if_pos ht,if_pos (by simp [ht])]
    ·have hm:¬ t∈z::l:=fun hm=>by
      rcases List.mem_cons.1 hm with e | e
      ·exact hz e.symm
      ·exact ht e
     rw [if_neg ht,if_neg hm]
     split
     ·rw [List.length_cons];congr 1;omega
     ·rfl
 unfold idxOfS
 rw [key]
 simp
theorem idxOf_no {l:List ByteArray} {s:ByteArray} (h:idxOfS l s < 0):s∉l:=by
 rcases idxOf_ge s l 0 with⟨_,h2⟩| ⟨k,h1,_⟩
 ·exact h2
 ·unfold idxOfS at h;rw [h1] at h;omega
theorem addI_step {x w:Tr} {s:ByteArray} (hx:nodeOk x=true) (h6:x.kind=6) (hs:stepP x s < 0):stepP (addI x s w) s=(x.items.length:Int)∧(addI x s w).items[x.items.length]?=some w∧delI (addI x s w) x.items.length=x:=by
 have hl:=keys_nodeOk hx h6
 have hn:s∉x.keys:=by unfold stepP at hs;rw [if_pos h6] at hs;exact idxOf_no hs
 refine⟨?_,?_,?_⟩
 ·unfold stepP
  rw [if_pos (show(addI x s w).kind=6 from h6)]
  show idxOfS (x.keys++[s]) s=_
  rw [idxOf_app,if_neg hn,if_pos rfl,hl]
 ·show(x.items++[w])[x.items.length]?=some w
  simp
 ·unfold delI addI
  show Tr.mk x.kind x.text (if x.kind=6 then(x.keys++[s]).take x.items.length++(x.keys++[s]).drop (x.items.length+1) else x.keys++[s]) ((x.items++[w]).take x.items.length++(x.items++[w]).drop (x.items.length+1))=x
  rw [if_pos h6,← hl]
  have t1:∀ {α:Type} (l:List α) (a:α),(l++[a]).take l.length++(l++[a]).drop (l.length+1)=l:=by intro α l a;simp
  rw [t1,hl,t1,Tr.eta]
end Go.X
end
section
namespace Go.Proofs.YtbploiccompocaaGreatDoor
open Go Go.X Go.Proofs
set_option linter.unusedVariables false
theorem findR_right {v:Tr} {p:List ByteArray} (ho:openT v=true) (hp:rightP p=true):findR v p=match findP v p with
  | some x=>(x,true)
  | none=>(zT,false):=by
 unfold findR;rw [ho,hp];rfl
theorem findR_yes {v x:Tr} {p:List ByteArray} (h:findR v p=(x,true)):openT v=true∧rightP p=true∧findP v p=some x:=by
 unfold findR at h
 split at h
 ·rename_i hc
  rw [Bool.and_eq_true] at hc
  cases hf:findP v p with
  | none=>rw [hf] at h;cases h
  | some y=>rw [hf] at h;cases h;exact⟨hc.1,hc.2,rfl⟩
 ·cases h
theorem stepR_val {v t:Tr} {o:OpT} (h:rightO o=true) (hd:doR v o=(t,0)):stepR v o=if rightT t=true then(t,0) else(zT,1):=by
 unfold stepR;rw [if_pos h,hd,if_pos rfl]
theorem stepR_err {v t:Tr} {o:OpT} {e:Int} (h:rightO o=true) (hd:doR v o=(t,e)) (he:e≠0):stepR v o=(zT,e):=by
 unfold stepR;rw [if_pos h,hd,if_neg he]
end Go.Proofs.YtbploiccompocaaGreatDoor
end
section
namespace Go.Proofs.YtbploiccompocaaGreatDoor
open Go Go.X Go.Proofs
set_option linter.unusedVariables false
theorem sh_copy:shapeP [99,111,112,121]=(false,true,true):=by kernel_rfl
theorem sh_move:shapeP [109,111,118,101]=(false,true,true):=by kernel_rfl
theorem lb_copy:lb ⟨#[99,111,112,121]⟩=[99,111,112,121]:=by kernel_rfl
theorem lb_move:lb ⟨#[109,111,118,101]⟩=[109,111,118,101]:=by kernel_rfl
theorem addR_one {v w:Tr} {key:ByteArray} (hv:nodeOk v=true) (h6:v.kind=6):∃ t,addR v [key] w=some t∧findP t [key]=some w∧∀ (s:ByteArray) (q:List ByteArray),s≠key→findP t (s::q)=findP v (s::q):=by
 have hne:[key]≠[]:=by simp
 have hi:iniP [key]=[]:=rfl
 have hl:lstP [key]=key:=rfl
 rw [addR_ne hne,hi,hl,findP_nil]
 simp only [Option.bind_some]
 rw [if_neg (by omega),if_neg (by simp [h6])]
 have hkl:=keys_nodeOk hv h6
 rcases stepP_ok hv key with e | ⟨k,e,hk⟩
 ·rw [if_neg (by omega)]
  obtain⟨a,b,c⟩:=addI_step (w:=w) hv h6 (s:=key) (by omega)
  refine⟨_,rfl,?_,fun s q hs=>?_⟩
  ·rw [setP]
   obtain⟨hj,hb⟩:=List.getElem?_eq_some_iff.1 b
   rw [findP_yes a hj,findP_nil,hb]
  ·rw [setP]
   have hst:stepP (addI v key w) s=stepP v s:=by
    unfold stepP
    rw [if_pos h6,if_pos (show(addI v key w).kind=6 from h6)]
    show Lib.idxOfS (v.keys++[key]) s=_
    rw [idxOf_app]
    split
    ·rfl
    ·rename_i hn
     rw [if_neg (fun e=>hs e.symm)]
     rcases idxOf_ge s v.keys 0 with⟨h1,_⟩| ⟨j,_,h2,h3⟩
     ·unfold Lib.idxOfS;exact h1.symm
     ·exact absurd (List.mem_of_getElem? h3) hn
   rcases stepP_ok hv s with e2 | ⟨j,e2,hj⟩
   ·rw [findP_no (by omega),findP_no (by omega)]
   ·have hj':j < (addI v key w).items.length:=by show j < (v.items++[w]).length;simp;omega
    rw [findP_yes (hst.trans e2) hj',findP_yes e2 hj]
    have:(addI v key w).items[j]=v.items[j]:=List.getElem_append_left hj
    rw [this]
 ·rw [if_pos (by omega),e,Int.toNat_natCast]
  have hk':k < (setI v k w).items.length:=by simpa [setI] using hk
  refine⟨_,rfl,?_,fun s q hs=>?_⟩
  ·rw [setP,findP_yes (by rw [stepP_set];exact e) hk',findP_nil]
   simp [setI]
  ·rw [setP]
   rcases stepP_ok hv s with e2 | ⟨j,e2,hj⟩
   ·rw [findP_no (by rw [stepP_set];omega),findP_no (by omega)]
   ·have hne:j≠k:=fun e'=>hs (stepP_inj (e' ▸ e2) e)
    have hj':j < (setI v k w).items.length:=by simpa [setI] using hj
    rw [findP_yes (by rw [stepP_set];exact e2) hj',findP_yes e2 hj]
    have:(setI v k w).items[j]=v.items[j]:=List.getElem_set_ne (by omega) hj'
    rw [this]
theorem setP_kind {w:Tr} {s:ByteArray} {q:List ByteArray} {v:Tr}:(setP v (s::q) w).kind=v.kind:=by
 rw [setP]
 split
 ·split <;> rfl
 ·rfl
theorem remR_kind {v:Tr} {p:List ByteArray}:(remR v p).kind=v.kind:=by
 unfold remR
 cases hf:findP v (iniP p) with
 | none=>rfl
 | some x=>
  show(setP v (iniP p) (delI x (stepP x (lstP p)).toNat)).kind=v.kind
  cases h:iniP p with
  | nil=>
   rw [h,findP_nil] at hf
   rw [setP,Option.some.inj hf];rfl
  | cons s q=>exact setP_kind
theorem findP_one {key:ByteArray} {t w:Tr} (ho:openT t=true) (hk:rightP [key]=true) (h:findP t [key]=some w):findR t [key]=(w,true):=by
 rw [findR_right ho hk,h]
theorem one_step {v:Tr} {o:OpT} (hr:rightT v=true):patchR v [o]=if(stepR v o).2=0 then((stepR v o).1,1,0) else(zT,0,(stepR v o).2):=by
 unfold patchR
 rw [if_pos hr,applyR]
 rfl
theorem copy_move {v:Tr} {p:List ByteArray} {key:ByteArray} (h6:v.kind=6) (hp:p≠[]) (hk:p.head?≠some key):
  ∃ a b,patchR v [(⟨#[99,111,112,121]⟩,[key],p,.mk 0 ⟨#[]⟩ [] [])]=a∧patchR v [(⟨#[109,111,118,101]⟩,[key],p,.mk 0 ⟨#[]⟩ [] [])]=b ∧
   (a.2.2=1∨(a.2.2=8∧(findR v p).2=false∧b.2.2=8∧a.2.1=b.2.1)∨(a.2.2=0∧b.2.2=1) ∨
    (a.2.2=0∧b.2.2=0∧a.2.1=1∧b.2.1=1∧∃ x,findR v p=(x,true)∧findR a.1 [key]=(x,true)∧findR b.1 [key]=(x,true)∧findR a.1 p=(x,true))):=by
 refine⟨_,_,rfl,rfl,?_⟩
 by_cases hr:rightT v=true
 ·have hro:=rightT_open hr
  have hok:=openT_all hro
  rw [one_step hr,one_step hr]
  by_cases hri:rightO (⟨#[99,111,112,121]⟩,[key],p,.mk 0 ⟨#[]⟩ [] [])=true
  ·have hri2:rightO (⟨#[109,111,118,101]⟩,[key],p,.mk 0 ⟨#[]⟩ [] [])=true:=by
    unfold rightO at hri ⊢
    simp only [lb_copy,sh_copy] at hri
    simp only [lb_move,sh_move]
    exact hri
   have hparts:rightP [key]=true∧rightP p=true:=by
    unfold rightO at hri
    simp only [Bool.and_eq_true] at hri
    exact⟨hri.2.1,hri.2.2.1⟩
   obtain⟨hrk,hrp⟩:=hparts
   cases hf:findP v p with
   | none=>
    have d1:doR v (⟨#[99,111,112,121]⟩,[key],p,.mk 0 ⟨#[]⟩ [] [])=(zT,8):=by
     unfold doR
     simp only [lb_copy]
     rw [if_neg (by decide),if_neg (by decide),if_neg (by decide),if_pos (by decide),hf]
    have d2:doR v (⟨#[109,111,118,101]⟩,[key],p,.mk 0 ⟨#[]⟩ [] [])=(zT,8):=by
     unfold doR
     simp only [lb_move]
     rw [if_neg (by decide),if_neg (by decide),if_pos (by decide),hf]
    rw [stepR_err hri d1 (by decide),stepR_err hri2 d2 (by decide),findR_right hro hrp,hf]
    refine .inr (.inl ⟨rfl,rfl,rfl,rfl⟩)
   | some x=>
    obtain⟨t,ht1,ht2,ht3⟩:=addR_one (w:=x) (key:=key) (allT_here hok) h6
    have hvr:nodeOk (remR v p)=true:=allT_here (allT_rem hok hp hf)
    obtain⟨t',ht1',ht2',ht3'⟩:=addR_one (w:=x) (key:=key) hvr (by rw [remR_kind];exact h6)
    have d1:doR v (⟨#[99,111,112,121]⟩,[key],p,.mk 0 ⟨#[]⟩ [] [])=(t,0):=by
     unfold doR
     simp only [lb_copy]
     rw [if_neg (by decide),if_neg (by decide),if_neg (by decide),if_pos (by decide),hf]
     simp only
     rw [ht1];rfl
    have hpk:¬ (p=List.take p.length [key]∧p.length≤[key].length):=by
     rintro⟨e1,e2⟩
     match p,hp with
     | s::q,_=>
      simp only [List.length_cons,List.length_nil] at e2
      have:q=[]:=List.eq_nil_of_length_eq_zero (by omega)
      subst this
      simp at e1
      exact hk (by rw [e1];rfl)
    have d2:doR v (⟨#[109,111,118,101]⟩,[key],p,.mk 0 ⟨#[]⟩ [] [])=(t',0):=by
     unfold doR
     simp only [lb_move]
     rw [if_neg (by decide),if_neg (by decide),if_pos (by decide),hf]
     simp only
     rw [if_neg hpk,ht1'];rfl
    rw [stepR_val hri d1,stepR_val hri2 d2]
    by_cases r1:rightT t=true
    ·rw [if_pos r1]
     by_cases r2:rightT t'=true
     ·rw [if_pos r2]
      refine .inr (.inr (.inr ⟨rfl,rfl,rfl,rfl,x,?_,?_,?_,?_⟩))
      ·rw [findR_right hro hrp,hf]
      ·exact findP_one (rightT_open r1) hrk ht2
      ·exact findP_one (rightT_open r2) hrk ht2'
      ·show findR t p=_
       rw [findR_right (rightT_open r1) hrp]
       match p,hp,hk,hf with
       | s::q,_,hk,hf=>rw [ht3 s q (fun e=>hk (by rw [e];rfl)),hf]
     ·rw [if_neg r2]
      exact .inr (.inr (.inl ⟨rfl,rfl⟩))
    ·rw [if_neg r1]
     exact .inl rfl
  ·refine .inl ?_
   unfold stepR
   rw [if_neg hri]
   rfl
 ·unfold patchR
  rw [if_neg hr]
  exact .inl rfl
set_option maxHeartbeats 1000000 in
theorem Copies_pc {gl:Fr} (hg:GL gl) {v:Tr} {p:List ByteArray} {key:ByteArray} {R:Bool→Prop} (hR:R true):PC Tryz.prog gl 6 [Arg.mk .tree v,Arg.mk (.row .str) p,Arg.mk .str key] [.bool] R:=by
 apply pu_scarflaw21_PatchCopies
 refine small21_pc hg ?_
 rw [tr_eta]
 refine Few_pc (by omega) fun b1 hb1=>⟨fun b=>b=true→PS p,fun _=>Short_pc fun b hb=>hb,fun b2 hb2=>⟨p.headD ⟨#[]⟩,fun hc=>?_,fun _=>hR,fun hc=>?_⟩⟩
 ·have:p≠[]:=by
   intro e
   subst e
   simp at hc
  match p,this with
  | s::q,_=>exact⟨by omega,rfl⟩
 have hs:b1=true∧b2=true∧key.size≤1024∧v.kind=6∧p≠[]∧(p.headD ⟨#[]⟩).toList≠key.toList:=by
  cases b1 <;> cases b2 <;> simp at hc
  exact⟨rfl,rfl,by omega,hc.1.1.2,hc.1.2,by rw [List.headD_eq_head?_getD];exact hc.2⟩
 obtain⟨e1,e2,hks,h6,hp,hne⟩:=hs
 have hv:=(hb1 e1).2
 have hps:=hb2 e1 e2
 have hsl:SL p:=PS.sl hps
 have hslk:SL [key]:=⟨by show 1≤1000000;omega,fun x hx=>by rw [List.mem_singleton.1 hx,lb_len];omega⟩
 have hhd:p.head?≠some key:=by
  match p,hp with
  | s::q,_=>exact fun e=>hne (by rw [← Option.some.inj e];rfl)
 obtain⟨a,b,ea,eb,hab⟩:=copy_move h6 hp hhd
 have hoc:∀ (nm:ByteArray),∀ o∈([(nm,[key],p,.mk 0 ⟨#[]⟩ [] [])]:List OpT),OpS o:=by
  intro nm o ho
  rw [List.mem_singleton.1 ho]
  exact⟨hslk,hsl,zT_sm⟩
 have ha:Sm a.1:=by rw [← ea];exact patchR_sm hv (hoc _)
 have hb:Sm b.1:=by rw [← eb];exact patchR_sm hv (hoc _)
 refine Find_pc hg hv hsl ?_
 refine Apply_pc hg hv (hoc _) (by show 1≤1000000;omega) ?_
 rw [ea]
 refine Apply_pc hg hv (hoc _) (by show 1≤1000000;omega) ?_
 rw [eb]
 simp only [tr_eta]
 refine⟨fun hz=>?_,fun hz=>?_⟩
 ·rcases hab with h | ⟨h1,h2,h3,h4⟩| ⟨h1,h2⟩| ⟨h1,h2,_⟩
  ·rw [h];exact hR
  ·rw [h1,h2,h3,h4];simpa using hR
  ·rw [h1,h2];simpa using hR
  ·rw [h1,h2] at hz;exact absurd hz (by decide)
 ·have hz2:a.2.2=0∧b.2.2=0:=by
   by_cases z1:a.2.2=0
   ·rw [z1] at hz
    by_cases z2:b.2.2=0
    ·exact⟨z1,z2⟩
    ·simp [z2] at hz
   ·simp [z1] at hz
  rcases hab with h | ⟨h1,_⟩| ⟨_,h2⟩| ⟨_,_,n1,n2,x,f1,f2,f3,f4⟩
  ·omega
  ·omega
  ·omega
  refine Find_pc hg ha hslk ?_
  refine Find_pc hg hb hslk ?_
  refine Find_pc hg ha hsl ?_
  rw [f1,f2,f3,f4,n1,n2]
  have hx:tsz x≤1000000000000:=(hv.find (findR_yes f1).2.2).sz
  have eq:∀ (x:Tr),tsz x≤1000000000000→PC Tryz.prog gl 15 [Arg.mk .tree x,Arg.mk .tree x] [.bool] (fun b=>b=true):=fun x hx=>rEqual_pc x x hx fun r hr=>hr.2 rfl
  refine⟨fun b=>b=true,fun _=>eq x hx,fun b hb=>?_⟩
  rw [hb rfl]
  refine⟨fun b=>b=true,fun _=>eq x hx,fun b hb=>?_⟩
  rw [hb rfl]
  refine⟨fun b=>b=true,fun _=>eq x hx,fun b hb=>?_⟩
  rw [hb rfl]
  exact hR
end Go.Proofs.YtbploiccompocaaGreatDoor
end
