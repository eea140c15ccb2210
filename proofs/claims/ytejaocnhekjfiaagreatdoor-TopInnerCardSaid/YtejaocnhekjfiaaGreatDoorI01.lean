/- Walks and plain laws, part 15: Base S22Ext Mg2 Sg S02Long S02Arr Txt4 Ag15 Wk Wk2 Sf1 Sf2 Tm1 S02Lmul In0 In1 Sf3 Ic. -/
import Derived.Test.YtejaocnhekjfiaaGreatDoorK01
import Derived.Test.YtejaocnhekjfiaaGreatDoorK02
import Derived.Test.YtejaocnhekjfiaaGreatDoorK03
import Derived.Test.YtejaocnhekjfiaaGreatDoorK04
import Derived.Test.YtejaocnhekjfiaaGreatDoorK05
import Derived.Test.YtejaocnhekjfiaaGreatDoorK06
import Derived.Test.YtejaocnhekjfiaaGreatDoorK07
import Derived.Test.YtejaocnhekjfiaaGreatDoorK08
import Derived.Test.YtejaocnhekjfiaaGreatDoorK09
import Derived.Test.YtejaocnhekjfiaaGreatDoorK10
import Derived.Test.YtejaocnhekjfiaaGreatDoorK11
import Derived.Test.YtejaocnhekjfiaaGreatDoorK12
import Derived.Test.YtejaocnhekjfiaaGreatDoorK13
import Derived.Test.YtejaocnhekjfiaaGreatDoorK14
import Derived.WalkKit
import Derived.Test.YtejaocnhekjfiaaGreatDoorRows
import Derived.Deep.QuietTactic
import Derived.BigQuiet
import Derived.Deep.MidRow
namespace Go.Proofs.YtejaocnhekjfiaaGreatDoor
open Go.RowKit
set_option linter.unusedVariables false
theorem Upd.frozen {S : Nat → Prop} {w w' : World} (h : Upd S w w') {b : Nat} (hb : b < w.heap.size) (hs : ¬ S b) (o : Nat) : w'.frozen? ⟨b,o,none⟩ = w.frozen? ⟨b,o,none⟩:=World.frozen?_of_block (h.block b hb hs)
end Go.Proofs.YtejaocnhekjfiaaGreatDoor
namespace Go.Proofs.YtejaocnhekjfiaaGreatDoor.S22
open Go.RowKit
set_option linter.unusedVariables false
theorem Bytes.below {w w' : World} {a len l} (h : Bytes w a len l) (hb : Below w.heap.size w w') : Bytes w' a len l:=by
 refine ⟨h.1,h.2.1,fun i x hx => ?_⟩
 obtain ⟨b,o,e,c,lt⟩:=h.2.2 i x hx
 exact ⟨b,o,e,by rw [hb.cell lt]; exact c,Nat.lt_of_lt_of_le lt hb.size⟩
theorem Bytes.take {w : World} {a len} {l : List (BitVec 8)} (h : Bytes w a len l) (n : Nat) (hn : n ≤ len) : Bytes w a n (l.take n):=by
 refine ⟨by rw [List.length_take,h.1]; omega,by have:=h.2.1; omega,fun i x hx => h.2.2 i x ?_⟩
 rw [List.getElem?_take] at hx
 split at hx <;> simp_all
end Go.Proofs.YtejaocnhekjfiaaGreatDoor.S22
namespace Go.Proofs.YtejaocnhekjfiaaGreatDoor
open Go.RowKit
set_option linter.unusedVariables false
theorem NumRows.upd {S : Nat → Prop} {base : Nat} {w w' : World} {vs R} (h : NumRows base w vs R) (hu : Upd S w w') (hs : ∀ k,base ≤ k → ¬ S k) : NumRows base w' vs R:=⟨h.1,fun i x zs h1 h2 => by
 obtain ⟨g,cap,e,hi,hg⟩:=h.2 i x zs h1 h2
 exact ⟨g,cap,e,hi.upd hu (hs g hg),hg⟩⟩
end Go.Proofs.YtejaocnhekjfiaaGreatDoor
namespace Go.Proofs.YtejaocnhekjfiaaGreatDoor
open Go.RowKit
set_option linter.unusedVariables false
theorem sg_mul (a : Int) (f : Nat → Int) : ∀ n,sg (fun i => a * f i) n = a * sg f n
 | 0 => by simp [sg]
 | n + 1 => by rw [sg,sg,sg_mul a f n,Int.mul_add]
theorem sg_mul' (a : Int) (f : Nat → Int) (n : Nat) : sg (fun i => f i * a) n = sg f n * a:=by
 rw [Int.mul_comm,← sg_mul]; exact sg_congr fun i _ => Int.mul_comm _ _
theorem sg_swap (f : Nat → Nat → Int) (m : Nat) : ∀ n,sg (fun i => sg (fun j => f i j) m) n = sg (fun j => sg (fun i => f i j) n) m
 | 0 => (sg_zero fun _ _ => rfl).symm
 | n + 1 => by
   rw [sg,sg_swap f m n,← sg_add]
   exact sg_congr fun j _ => rfl
theorem sg_term {f : Nat → Int} {n k : Nat} (hk : k < n) : sg f n = f k + sg (fun i => if i = k then 0 else f i) n:=by
 have e : sg f n = sg (fun i => (if i = k then f k else 0) + (if i = k then 0 else f i)) n:=sg_congr fun i _ => by
   by_cases h : i = k
   · subst h; rw [if_pos rfl,if_pos rfl,Int.add_zero]
   · rw [if_neg h,if_neg h,Int.zero_add]
 rw [e,sg_add,sg_one,if_pos hk]
end Go.Proofs.YtejaocnhekjfiaaGreatDoor
namespace Go.Proofs.YtejaocnhekjfiaaGreatDoor.S02
open Go.RowKit
set_option linter.unusedVariables false
theorem lw_succ (v : Int) (i : Nat) : lw v (i + 1) = lw v i + pw i * dg v i:=by
 have h1:=split_at v i
 have h2:=split_at v (i + 1)
 rw [div_succ,pw_succ] at h2
 unfold dg
 have h3 : v / pw i = 65536 * (v / pw i / 65536) + v / pw i % 65536:=by omega
 generalize v / pw i / 65536 = q at *
 generalize v / pw i % 65536 = r at *
 rw [h3,Int.mul_add,← Int.mul_assoc] at h1
 omega
def Qk (a b : Int) (i k : Nat) : Int:=lw a i * b + dg a i * pw i * lw b k
def cm (a b : Int) (i k : Nat) : Int:=(lw (lw a i * b) (i + k) + dg a i * pw i * lw b k) / pw (i + k)
theorem Qk_zero (a b : Int) (i : Nat) : Qk a b i 0 = lw a i * b:=by unfold Qk; rw [lw_zero]; omega
theorem cm_zero (a b : Int) (i : Nat) : cm a b i 0 = 0:=by
 unfold cm; rw [lw_zero,Int.mul_zero,Int.add_zero]
 have:=lw_range (lw a i * b) (i + 0)
 exact Int.ediv_eq_zero_of_lt this.1 this.2
theorem Qk_div (a b : Int) (i k : Nat) : Qk a b i k / pw (i + k) = lw a i * b / pw (i + k) + cm a b i k:=by
 have h:=pw_pos (i + k)
 have h1:=split_at (lw a i * b) (i + k)
 unfold Qk cm
 conv => lhs; rw [h1]
 rw [Int.add_assoc,div_of h]
theorem Qk_succ (a b : Int) (i k : Nat) : Qk a b i (k + 1) = Qk a b i k + dg a i * dg b k * pw (i + k):=by
 unfold Qk; rw [lw_succ,pw_add,Int.mul_add,← Int.add_assoc]
 congr 1
 ac_rfl
theorem cm_range (a b : Int) (i k : Nat) : 0 ≤ cm a b i k ∧ cm a b i k ≤ 65536:=by
 have h:=pw_pos (i + k)
 have hi:=pw_pos i
 have hd:=dg_range a i
 have h1:=lw_range (lw a i * b) (i + k)
 have h2:=lw_range b k
 have h3 : 0 ≤ dg a i * pw i * lw b k:=Int.mul_nonneg (Int.mul_nonneg hd.1 (by omega)) h2.1
 have h4 : dg a i * pw i * lw b k ≤ 65535 * pw (i + k):=by
   rw [pw_add,Int.mul_assoc]
   refine Int.mul_le_mul hd.2 (Int.mul_le_mul_of_nonneg_left (by omega) (by omega)) (Int.mul_nonneg (by omega) h2.1) (by omega)
 unfold cm
 refine ⟨Int.ediv_nonneg (by omega) (by omega),?_⟩
 have : (lw (lw a i * b) (i + k) + dg a i * pw i * lw b k) / pw (i + k) < 65537:=by
   apply Int.ediv_lt_of_lt_mul h
   omega
 omega
theorem mul_num (a b : Int) (i k : Nat) : dg (lw a i * b) (i + k) + dg a i * dg b k + cm a b i k = Qk a b i (k + 1) / pw (i + k) - 65536 * (lw a i * b / pw (i + k) / 65536):=by
 have h:=pw_pos (i + k)
 rw [Qk_succ,Int.add_mul_ediv_right _ _ (by omega),Qk_div]; unfold dg; omega
theorem mul_dig (a b : Int) (i k : Nat) : (dg (lw a i * b) (i + k) + dg a i * dg b k + cm a b i k) % 65536 = dg (Qk a b i (k + 1)) (i + k):=by
 rw [mul_num]; show _ = Qk a b i (k + 1) / pw (i + k) % 65536; omega
theorem mul_carry (a b : Int) (i k : Nat) : (dg (lw a i * b) (i + k) + dg a i * dg b k + cm a b i k) / 65536 = cm a b i (k + 1):=by
 have h1:=Qk_div a b i (k + 1)
 rw [show i + (k + 1) = i + k + 1 from by omega,div_succ,div_succ] at h1
 rw [mul_num]; omega
theorem Qk_low (a b : Int) (i k j : Nat) (h : j < i + k) : dg (Qk a b i (k + 1)) j = dg (Qk a b i k) j:=by
 rw [Qk_succ]; exact dg_add_high _ _ _ _ h
theorem dg_whole (a b : Int) (i k j : Nat) (hj : j < i + k) : dg (Qk a b i k) j = dg (lw a (i + 1) * b) j:=by
 have e : lw a (i + 1) * b = Qk a b i k + (dg a i * (b / pw k)) * pw (i + k):=by
   have h1:=split_at b k
   unfold Qk
   rw [lw_succ,pw_add,Int.add_mul,Int.add_assoc]
   congr 1
   conv => lhs; rw [h1]
   rw [Int.mul_add,Int.add_comm]
   congr 1
   · ac_rfl
   · ac_rfl
 rw [e]; exact (dg_add_high _ _ _ _ hj).symm
end Go.Proofs.YtejaocnhekjfiaaGreatDoor.S02
namespace Go.Proofs.YtejaocnhekjfiaaGreatDoor.S02
open Go.RowKit
set_option linter.unusedVariables false
theorem At.row_other {w k f} (h : At w k f) {j : Nat} (hj : k ≠ j) (cs : Array Value) : At (w.setRow j cs) k f:=(setRow_other _ _ _ _ hj).trans h
end Go.Proofs.YtejaocnhekjfiaaGreatDoor.S02
namespace Go.Proofs.YtejaocnhekjfiaaGreatDoor
open Go.RowKit
set_option linter.unusedVariables false
def foundT (f : (Nat × Nat) × Int) : ByteArray:=((((⟨#[32]⟩ : ByteArray) ++ numT f.1.1) ++ ⟨#[58]⟩ ++ numT f.1.2) ++ ⟨#[58]⟩) ++ numT f.2
theorem strCells_app (a b : ByteArray) : Lib.strCells (a ++ b) = Lib.strCells a ++ Lib.strCells b:=by
 unfold Lib.strCells; rw [ByteArray.data_append,Array.toList_append,List.map_append]
def FoundOk (f : (Nat × Nat) × Int) : Prop:=f.1.1 < 100 ∧ f.1.2 < 100 ∧ -9223372036854775808 ≤ f.2 ∧ f.2 ≤ 9223372036854775807
theorem foundT_size {f : (Nat × Nat) × Int} (h : FoundOk f) : (foundT f).size ≤ 66:=by
 have z1:=numT_size (f.1.1 : Int) ⟨by have:=h.1; omega,by have:=h.1; omega⟩
 have z2:=numT_size (f.1.2 : Int) ⟨by have:=h.2.1; omega,by have:=h.2.1; omega⟩
 have z3:=numT_size f.2 h.2.2
 unfold foundT
 simp only [ByteArray.size_append]
 show 1 + _ + 1 + _ + 1 + _ ≤ 66
 omega
theorem founds_size : ∀ (l : List ((Nat × Nat) × Int)) (t : ByteArray),(∀ f ∈ l,FoundOk f) → (l.foldl (fun t f => t ++ foundT f) t).size ≤ t.size + 66 * l.length
 | [],t,_ => by simp
 | f :: l,t,h => by
   have h1:=founds_size l (t ++ foundT f) (fun g hg => h g (List.mem_cons_of_mem _ hg))
   have h2:=foundT_size (h f List.mem_cons_self)
   rw [ByteArray.size_append] at h1
   rw [List.foldl_cons,List.length_cons]
   omega
theorem fcells_get : ∀ (l : List ((Nat × Nat) × Int)) (k : Nat) (f : (Nat × Nat) × Int),l[k]? = some f →
   (fcells l)[k * 3]? = some (.int .i64 f.1.1) ∧ (fcells l)[k * 3 + 1]? = some (.int .u64 f.1.2) ∧ (fcells l)[k * 3 + 2]? = some (.int .i64 f.2)
 | [],k,f,h => by simp at h
 | g :: l,0,f,h => by
   obtain rfl : g = f:=by simpa using h
   exact ⟨rfl,rfl,rfl⟩
 | g :: l,k + 1,f,h => by
   have e : fcells (g :: l) = [.int .i64 g.1.1,.int .u64 g.1.2,.int .i64 g.2] ++ fcells l:=rfl
   obtain ⟨h1,h2,h3⟩:=fcells_get l k f (by simpa using h)
   have sk : ∀ j,(fcells (g :: l))[(k + 1) * 3 + j]? = (fcells l)[k * 3 + j]?:=fun j => by
     rw [e,List.getElem?_append_right (by simp; omega)]
     congr 1
     simp; omega
   exact ⟨(sk 0).trans h1,(sk 1).trans h2,(sk 2).trans h3⟩
theorem owns_cell {w : World} {base : Nat} {e : TypeId} {size : Nat} {ao : Option Addr} {n co : Nat} {xs : List Value} (h : w.ownsRow base e size (.slice ao n co) n xs) (hn : 0 < n) :
   ∃ g,ao = some ⟨g,0,none⟩ ∧ n ≤ co ∧ ∀ j u,xs[j]? = some u → g < w.heap.size ∧ w.cell? ⟨g,j,none⟩ = some u:=by
 rcases h.2 with ⟨_,h0⟩ | ⟨g,cap,cur,e1,hb,hg,hnc,hcm,hcs,ht⟩
 · omega
 · cases e1
   refine ⟨g,rfl,hnc,fun j u hu => ⟨lt_of_block hg,?_⟩⟩
   rw [cell_of_row _ _ _ _ _ _ hg]
   rw [← ht,List.getElem?_take] at hu
   split at hu
   · rw [← hu]; simp
   · cases hu
set_option maxRecDepth 100000 in
set_option maxHeartbeats 2000000 in
theorem text_list (fs : List ((Nat × Nat) × Int)) (v : Value) (w : World) (hT : S25.Tabs w) (base : Nat) (hv : w.ownsRow base 160 3 v fs.length (fcells fs)) (hn : fs.length ≤ 100) (hs : ∀ f ∈ fs,f.1.1 < 100 ∧ f.1.2 < 100 ∧ -9223372036854775808 ≤ f.2 ∧ f.2 ≤ 9223372036854775807) :
   Calls Tryz.prog 35 #[.iface 154 (.agg #[v])] w fun e w' => e = .returned (.string (fs.foldl (fun t f => t ++ foundT f) ⟨#[108,105,115,116]⟩)) ∧ Below w.heap.size w w':=by
 have KW:=Lib.hid (fun (b : Nat) (w' : World) (h : Lib.IsBuilder 137 5 w.heap.size b [] w') (hs : w.heap.size ≤ w'.heap.size) => wstring_any w.heap.size b [] ⟨#[108,105,115,116]⟩ w' h (by decide) hs)
 obtain ⟨ao,co,rfl⟩ : ∃ ao co,v = .slice ao fs.length co:=by
   rcases hv.2 with ⟨rfl,e0⟩ | ⟨gg,cc,_,rfl,_⟩
   · exact ⟨none,0,by rw [e0]⟩
   · exact ⟨_,_,rfl⟩
 have HV:=Lib.hid hv
 have HS:=Lib.hid hs
 have HT:=Lib.hid hT
 have HN:=Lib.hid hn
 clear hv hs hT
 go_enter Tryz.func35,Tryz.ntmps35
 go_wp2_with fail
 refine (KW.out _ _ (IsBuilder.keep (Lib.fresh_isBuilder 137 5 w) ((Below.refl _ _).alloc (Nat.le_refl _) _)) (by simp; omega)).mono ?_
 rintro e w1 ⟨rfl,hB,hb,hk⟩
 rw [List.nil_append] at hB
 have hx0 : ((w.alloc (.cells #[.pointer none,.slice none 0 0] 137)).alloc (.cells #[.slice ao fs.length co] 154)).heap[w.heap.size + 1]? = some (.cells #[.slice ao fs.length co] 154 (0,0)):=by
   have:=heap_alloc_new (w.alloc (.cells #[.pointer none,.slice none 0 0] 137)) (.cells #[.slice ao fs.length co] 154)
   rwa [World.size_alloc] at this
 have hx1:=hk _ _ hx0 (by simp) (by intro c fz e; simp at e)
 have c0 : w1.cell? ⟨w.heap.size + 1,0,none⟩ = some (.slice ao fs.length co):=(cell_of_row _ _ _ _ _ _ hx1).trans rfl
 have hb1 : Below w.heap.size w w1:=(((Below.refl _ _).alloc (Nat.le_refl _) _).alloc (by simp) _).trans hb
 have HB:=Lib.hid hB
 have HB1:=Lib.hid hb1
 clear hB hb hk hx0 hx1 hb1
 generalize hn0 : fs.length = n at *
 have HL:=Lib.hid hn0
 clear hn0
 go_wp2_with fail
 go_loopw [11,54] (fun x i wr => ∃ k : Nat,k ≤ n ∧ i = .int .i64 k ∧ Hid (Lib.IsBuilder 137 5 w.heap.size w.heap.size (Lib.strCells ((fs.take k).foldl (fun t f => t ++ foundT f) ⟨#[108,105,115,116]⟩)) wr) ∧ Hid (Below w.heap.size w wr)) (fun x i _ => n - (intOf i).toNat)
 case atStart => exact ⟨0,Nat.zero_le _,rfl,Lib.hid (by rw [List.take_zero]; exact HB.out),HB1⟩
 case round =>
   obtain ⟨k,hk,rfl,hB,hbw⟩:=hrel
   by_cases hlt : k < n
   · have hgo : decide ((k : Int) < (n : Int)) = true:=by simpa using hlt
     obtain ⟨f,hfk⟩ : ∃ f,fs[k]? = some f:=⟨_,List.getElem?_eq_getElem (by rw [HL.out]; exact hlt)⟩
     obtain ⟨g,rfl,hnc,hcel⟩:=owns_cell HV.out (by omega)
     obtain ⟨q0,q1,q2⟩:=fcells_get fs k f hfk
     have hfo:=HS.out f (List.mem_of_getElem? hfk)
     have d0 : wr.cell? ⟨g,k * 3,none⟩ = some (.int .i64 f.1.1):=(hbw.out.cell (p:=⟨g,k * 3,none⟩) (hcel _ _ q0).1).trans (hcel _ _ q0).2
     have d1 : wr.cell? ⟨g,k * 3 + 1,none⟩ = some (.int .u64 f.1.2):=(hbw.out.cell (p:=⟨g,k * 3 + 1,none⟩) (hcel _ _ q1).1).trans (hcel _ _ q1).2
     have d2 : wr.cell? ⟨g,k * 3 + 2,none⟩ = some (.int .i64 f.2):=(hbw.out.cell (p:=⟨g,k * 3 + 2,none⟩) (hcel _ _ q2).1).trans (hcel _ _ q2).2
     have HSN:=Lib.hid (show (fs.take (k + 1)).foldl (fun t f => t ++ foundT f) ⟨#[108,105,115,116]⟩ = (fs.take k).foldl (fun t f => t ++ foundT f) ⟨#[108,105,115,116]⟩ ++ foundT f by
       rw [List.take_add_one,hfk]; exact List.foldl_append ..)
     have hsz:=founds_size (fs.take k) ⟨#[108,105,115,116]⟩ (fun f hf => HS.out f (List.mem_of_mem_take hf))
     have hsz2 : ((fs.take k).foldl (fun t f => t ++ foundT f) ⟨#[108,105,115,116]⟩).size ≤ 10000:=by
       have h1 : (fs.take k).length ≤ k:=List.length_take_le _ _
       have h2 : (⟨#[108,105,115,116]⟩ : ByteArray).size = 4:=rfl
       omega
     have HSZ:=Lib.hid hsz2
     have K1:=Tryz.strconv_Itoa_small f.1.1 hfo.1
     rw [numT_small] at K1
     have K2:=fuint_small f.1.2 hfo.2.1
     have K3:=fun w' (hb : Below w.heap.size w w') => Tryz.strconv_FormatInt_10 f.2 hfo.2.2.1 hfo.2.2.2 w' (HT.out.below hb).pow
     rw [show (⟨(Lib.itoa f.2).toArray⟩ : ByteArray) = numT f.2 from rfl] at K3
     have z1:=numT_size (f.1.1 : Int) ⟨by have:=hfo.1; omega,by have:=hfo.1; omega⟩
     have z2:=numT_size (f.1.2 : Int) ⟨by have:=hfo.2.1; omega,by have:=hfo.2.1; omega⟩
     have z3:=numT_size f.2 hfo.2.2
     have K1:=Lib.hid K1
     have K2:=Lib.hid K2
     have K3:=Lib.hid K3
     have HF:=Lib.hid (show foundT f = ((((⟨#[32]⟩ : ByteArray) ++ numT f.1.1) ++ ⟨#[58]⟩ ++ numT f.1.2) ++ ⟨#[58]⟩) ++ numT f.2 from rfl)
     generalize numT (f.1.1 : Int) = s1 at *
     generalize numT (f.1.2 : Int) = s2 at *
     generalize numT f.2 = s3 at *
     have n1 : ¬ 9223372036854775807 < 1 + s1.size:=by omega
     have n2 : ¬ 9223372036854775807 < 1 + s1.size + 1:=by omega
     have n3 : ¬ 9223372036854775807 < 1 + s1.size + 1 + s2.size:=by omega
     have n4 : ¬ 9223372036854775807 < 1 + s1.size + 1 + s2.size + 1:=by omega
     have n5 : ¬ 9223372036854775807 < 1 + s1.size + 1 + s2.size + 1 + s3.size:=by omega
     have n6 : 1 + s1.size + 1 + s2.size + 1 + s3.size ≤ 70:=by omega
     have HNE:=Lib.hid (show wr.heap.size ≠ w.heap.size from fun e => by
       rcases hB.out with ⟨_,v,h2,_⟩ | ⟨_,v,h2,_⟩
       · have:=lt_of_block h2; omega
       · have:=lt_of_block h2; omega)
     have HLEN:=Lib.hid (show (Lib.strCells ((fs.take k).foldl (fun t f => t ++ foundT f) ⟨#[108,105,115,116]⟩)).length + (((((⟨#[32]⟩ : ByteArray) ++ s1) ++ ⟨#[58]⟩ ++ s2) ++ ⟨#[58]⟩) ++ s3).size ≤ 140737488355328 by
       rw [Lib.strCells_length]
       simp only [ByteArray.size_append]
       have h1 : (⟨#[32]⟩ : ByteArray).size = 1:=rfl
       have h2 : (⟨#[58]⟩ : ByteArray).size = 1:=rfl
       omega)
     have HHLT:=Lib.hid hlt
     have hltI : (k : Int) < (n : Int):=by omega
     have hkn : (k : Int) ≤ 9223372036854775806:=by have:=HN.out; omega
     clear hfk hcel q0 q1 q2 hfo hsz hsz2 z1 z2 z3 n6 hlt
     go_upto_region 24 with fail
     have hxb:=heap_alloc_new wr (.cells #[.int .i64 f.1.1,.int .u64 f.1.2,.int .i64 f.2] 160)
     have hB2:=IsBuilder.keep hB.out ((Below.refl wr.heap.size wr).alloc (Nat.le_refl _) (.cells #[.int .i64 f.1.1,.int .u64 f.1.2,.int .i64 f.2] 160))
     have hbw2:=hbw.out.alloc hbw.out.size (.cells #[.int .i64 f.1.1,.int .u64 f.1.2,.int .i64 f.2] 160)
     generalize hX : wr.alloc (.cells #[.int .i64 f.1.1,.int .u64 f.1.2,.int .i64 f.2] 160) = X at *
     have HXB:=Lib.hid hxb
     have HB2:=Lib.hid hB2
     have HBW2:=Lib.hid hbw2
     clear hX hxb hB2 hbw2 d0 d1 d2
     have A0:=Lib.hid (show ∀ w' : World,w'.heap[wr.heap.size]? = some (.cells #[.int .i64 f.1.1,.int .u64 f.1.2,.int .i64 f.2] 160 (0,0)) →
         w'.cell? ⟨wr.heap.size,0,none⟩ = some (.int .i64 f.1.1) ∧ w'.cell? ⟨wr.heap.size,1,none⟩ = some (.int .u64 f.1.2) ∧ w'.cell? ⟨wr.heap.size,2,none⟩ = some (.int .i64 f.2) from
       fun w' h => ⟨(cell_of_row _ _ _ _ _ _ h).trans rfl,(cell_of_row _ _ _ _ _ _ h).trans rfl,(cell_of_row _ _ _ _ _ _ h).trans rfl⟩)
     have T:=Lib.hid (Below.refl X.heap.size X).drew
     have A1:=Lib.hid (fun (w' : World) (hb : Below X.heap.size X w') => A0.out w' ((hb.block _ (lt_of_block HXB.out)).trans HXB.out))
     refine wp_region_held (S:=fun w' => w'.cell? ⟨wr.heap.size,0,none⟩ = some (.int .i64 f.1.1) ∧ w'.cell? ⟨wr.heap.size,1,none⟩ = some (.int .u64 f.1.2) ∧ w'.cell? ⟨wr.heap.size,2,none⟩ = some (.int .i64 f.2)) (by kernel_rfl) ?_
     refine wpAnyH_take (i:=0) (oi:=⟨_,_,_,_,_,_⟩) (v:=?vvb0) rfl (by kernel_rfl) (by kernel_rfl) (by kernel_rfl) (fun _ _ _ h => h) (Or.inl ⟨by rfl,?yyb0⟩) (A1.out _ T.out) ?_
     case yyb0 => (intro w' hw'; go_simp; try with_reducible rfl)
     try simp only [Act.put,List.setIfInBounds_toArray,List.set_cons_zero,List.set_cons_succ]
     refine wpAnyH_take (i:=1) (oi:=⟨_,_,_,_,_,_⟩) (v:=?vvb1) rfl (by kernel_rfl) (by kernel_rfl) (by kernel_rfl) (fun _ _ _ h => h) (Or.inl ⟨by rfl,?yyb1⟩) (A1.out _ T.out) ?_
     case yyb1 => (intro w' hw'; go_simp; try with_reducible rfl)
     try simp only [Act.put,List.setIfInBounds_toArray,List.set_cons_zero,List.set_cons_succ]
     refine wpAnyH_take (i:=2) (oi:=⟨_,_,_,_,_,_⟩) (v:=?vvb2) rfl (by kernel_rfl) (by kernel_rfl) (by kernel_rfl) (fun _ _ _ h => h) (Or.inl ⟨by rfl,?yyb2⟩) (A1.out _ T.out) ?_
     case yyb2 => (intro w' hw'; obtain ⟨c0,c1,c2⟩:=hw'; go_simp; try with_reducible rfl)
     try simp only [Act.put,List.setIfInBounds_toArray,List.set_cons_zero,List.set_cons_succ]
     refine wpAnyH_take (i:=6) (oi:=⟨_,_,_,_,_,_⟩) (v:=?vvb6) rfl (by kernel_rfl) (by kernel_rfl) (by kernel_rfl) (fun _ _ _ h => h) (Or.inl ⟨by rfl,?yyb6⟩) (A1.out _ T.out) ?_
     case yyb6 => (intro w' hw'; go_simp; try with_reducible rfl)
     try simp only [Act.put,List.setIfInBounds_toArray,List.set_cons_zero,List.set_cons_succ]
     refine wpAnyH_take (i:=7) (oi:=⟨_,_,_,_,_,_⟩) (v:=?vvb7) rfl (by kernel_rfl) (by kernel_rfl) (by kernel_rfl) (fun _ _ _ h => h) (Or.inl ⟨by rfl,?yyb7⟩) (A1.out _ T.out) ?_
     case yyb7 => (intro w' hw'; go_simp; try with_reducible rfl)
     try simp only [Act.put,List.setIfInBounds_toArray,List.set_cons_zero,List.set_cons_succ]
     refine wpAnyH_take (i:=8) (oi:=⟨_,_,_,_,_,_⟩) (v:=?vvb8) rfl (by kernel_rfl) (by kernel_rfl) (by kernel_rfl) (fun _ _ _ h => h) (Or.inl ⟨by rfl,?yyb8⟩) (A1.out _ T.out) ?_
     case yyb8 => (intro w' hw'; obtain ⟨c0,c1,c2⟩:=hw'; go_simp; try with_reducible rfl)
     try simp only [Act.put,List.setIfInBounds_toArray,List.set_cons_zero,List.set_cons_succ]
     refine wpAnyH_take (i:=12) (oi:=⟨_,_,_,_,_,_⟩) (v:=?vvb12) rfl (by kernel_rfl) (by kernel_rfl) (by kernel_rfl) (fun _ _ _ h => h) (Or.inl ⟨by rfl,?yyb12⟩) (A1.out _ T.out) ?_
     case yyb12 => (intro w' hw'; go_simp; try with_reducible rfl)
     try simp only [Act.put,List.setIfInBounds_toArray,List.set_cons_zero,List.set_cons_succ]
     refine wpAnyH_take (i:=13) (oi:=⟨_,_,_,_,_,_⟩) (v:=?vvb13) rfl (by kernel_rfl) (by kernel_rfl) (by kernel_rfl) (fun _ _ _ h => h) (Or.inl ⟨by rfl,?yyb13⟩) (A1.out _ T.out) ?_
     case yyb13 => (intro w' hw'; obtain ⟨c0,c1,c2⟩:=hw'; go_simp; try with_reducible rfl)
     try simp only [Act.put,List.setIfInBounds_toArray,List.set_cons_zero,List.set_cons_succ]
     refine wpAnyH_ready (rs:=[3]) (by kernel_rfl) (by simp) ?_
     refine AllReadyH.cons (o:=⟨_,_,_,_,_,_⟩) rfl (fun K hK => ?_) AllReadyH.nil
     go_simp
     with_reducible refine (K1.out _).mono ?_
     rintro e w3 ⟨rfl,rfl⟩
     refine hK.out _ _ (A1.out _ T.out) (fun hHeld => ?_)
     clear hK K hHeld
     try simp only [Act.put,List.setIfInBounds_toArray,List.set_cons_zero,List.set_cons_succ]
     refine wpAnyH_take (i:=4) (oi:=⟨_,_,_,_,_,_⟩) (v:=?vvb4) rfl (by kernel_rfl) (by kernel_rfl) (by kernel_rfl) (fun _ _ _ h => h) (Or.inl ⟨by rfl,?yyb4⟩) (A1.out _ T.out) ?_
     case yyb4 => (intro w' hw'; go_simp; try with_reducible rfl)
     try simp only [Act.put,List.setIfInBounds_toArray,List.set_cons_zero,List.set_cons_succ]
     refine wpAnyH_take (i:=5) (oi:=⟨_,_,_,_,_,_⟩) (v:=?vvb5) rfl (by kernel_rfl) (by kernel_rfl) (by kernel_rfl) (fun _ _ _ h => h) (Or.inl ⟨by rfl,?yyb5⟩) (A1.out _ T.out) ?_
     case yyb5 => (intro w' hw'; go_simp; try with_reducible rfl)
     try simp only [Act.put,List.setIfInBounds_toArray,List.set_cons_zero,List.set_cons_succ]
     refine wpAnyH_ready (rs:=[9]) (by kernel_rfl) (by simp) ?_
     refine AllReadyH.cons (o:=⟨_,_,_,_,_,_⟩) rfl (fun K hK => ?_) AllReadyH.nil
     go_simp
     with_reducible refine (K2.out _).mono ?_
     rintro e w3 ⟨rfl,rfl⟩
     refine hK.out _ _ (A1.out _ T.out) (fun hHeld => ?_)
     clear hK K hHeld
     try simp only [Act.put,List.setIfInBounds_toArray,List.set_cons_zero,List.set_cons_succ]
     refine wpAnyH_take (i:=10) (oi:=⟨_,_,_,_,_,_⟩) (v:=?vvb10) rfl (by kernel_rfl) (by kernel_rfl) (by kernel_rfl) (fun _ _ _ h => h) (Or.inl ⟨by rfl,?yyb10⟩) (A1.out _ T.out) ?_
     case yyb10 => (intro w' hw'; go_simp; try with_reducible rfl)
     try simp only [Act.put,List.setIfInBounds_toArray,List.set_cons_zero,List.set_cons_succ]
     refine wpAnyH_take (i:=11) (oi:=⟨_,_,_,_,_,_⟩) (v:=?vvb11) rfl (by kernel_rfl) (by kernel_rfl) (by kernel_rfl) (fun _ _ _ h => h) (Or.inl ⟨by rfl,?yyb11⟩) (A1.out _ T.out) ?_
     case yyb11 => (intro w' hw'; go_simp; try with_reducible rfl)
     try simp only [Act.put,List.setIfInBounds_toArray,List.set_cons_zero,List.set_cons_succ]
     refine wpAnyH_ready (rs:=[14]) (by kernel_rfl) (by simp) ?_
     refine AllReadyH.cons (o:=⟨_,_,_,_,_,_⟩) rfl (fun K hK => ?_) AllReadyH.nil
     go_simp
     with_reducible refine (K3.out _ (HBW2.out.then T.out)).mono ?_
     rintro e w3 ⟨rfl,kk,os,hw3⟩
     have T:=Lib.hid (show Below X.heap.size X w3 by rw [hw3]; exact T.out.then (S25.below_grow _ kk os))
     clear hw3
     refine hK.out _ _ (A1.out _ T.out) (fun hHeld => ?_)
     clear hK K hHeld
     try simp only [Act.put,List.setIfInBounds_toArray,List.set_cons_zero,List.set_cons_succ]
     refine wpAnyH_take (i:=15) (oi:=⟨_,_,_,_,_,_⟩) (v:=?vvb15) rfl (by kernel_rfl) (by kernel_rfl) (by kernel_rfl) (fun _ _ _ h => h) (Or.inl ⟨by rfl,?yyb15⟩) (A1.out _ T.out) ?_
     case yyb15 => (intro w' hw'; go_simp; try with_reducible rfl)
     try simp only [Act.put,List.setIfInBounds_toArray,List.set_cons_zero,List.set_cons_succ]
     refine wpAnyH_ready (rs:=[16]) (by kernel_rfl) (by simp) ?_
     refine AllReadyH.cons (o:=⟨_,_,_,_,_,_⟩) rfl (fun K hK => ?_) AllReadyH.nil
     go_simp
     with_reducible refine (wstring_any w.heap.size w.heap.size (Lib.strCells ((fs.take k).foldl (fun t f => t ++ foundT f) ⟨#[108,105,115,116]⟩)) (((((⟨#[32]⟩ : ByteArray) ++ s1) ++ ⟨#[58]⟩ ++ s2) ++ ⟨#[58]⟩) ++ s3) _ (IsBuilder.keep HB2.out T.out) HLEN.out (HBW2.out.then T.out).size).mono ?_
     rintro e w4 ⟨rfl,hB4,hb4,hk4⟩
     have T4:=Lib.hid ((HBW2.out.then T.out).trans hb4)
     have HB4:=Lib.hid hB4
     have HX4:=Lib.hid (hk4 _ _ ((T.out.block _ (lt_of_block HXB.out)).trans HXB.out) (fun e => HNE.out (Option.some.inj e)) (by intro c fz e; simp at e))
     clear hB4 hb4 hk4
     refine hK.out _ _ (A0.out _ HX4.out) (fun hHeld => ?_)
     clear hK K hHeld
     try simp only [Act.put,List.setIfInBounds_toArray,List.set_cons_zero,List.set_cons_succ]
     refine wpAnyH_done (by kernel_rfl) ?_ _
     clear A1 K1 K2 K3 n1 n2 n3 n4 n5
     go_wp2_with fail
     go_roundw
     case rel =>
       refine ⟨k + 1,HHLT.out,by go_num,Lib.hid ?_,T4⟩
       have:=HB4.out
       rw [← strCells_app,← HF.out,← HSN.out] at this
       exact this
     case measure => have:=HHLT.out; simp [intOf]; omega
   · have hgo : decide ((k : Int) < (n : Int)) = false:=by simpa using hlt
     have hfin:=hB.out
     rw [List.take_of_length_le (by rw [HL.out]; omega)] at hfin
     obtain ⟨TT,hTT⟩ : ∃ q,fs.foldl (fun t f => t ++ foundT f) ⟨#[108,105,115,116]⟩ = q:=⟨_,rfl⟩
     rw [hTT] at hfin
     have KS:=Lib.hid (fun h => Tryz.Builder_String_any w.heap.size w.heap.size TT.data.toList wr hfin h)
     clear hfin
     go_wp2_with fail
     refine (KS.out hbw.out.size).mono ?_
     rintro e w3 ⟨rfl,hb3⟩
     have HB3:=Lib.hid (hbw.out.trans hb3)
     clear hb3
     go_wp2_with fail
     go_ret
     exact ⟨by rw [hTT]; rfl,HB3.out⟩
end Go.Proofs.YtejaocnhekjfiaaGreatDoor
namespace Go.Proofs.YtejaocnhekjfiaaGreatDoor
open Go.RowKit
set_option linter.unusedVariables false
open S25 (I64 numLine LineOk Tabs PlainW)
def listT (fs : List ((Nat × Nat) × Int)) : ByteArray:=fs.foldl (fun t f => t ++ foundT f) ⟨#[108,105,115,116]⟩
theorem line_heavy {w : World} {base a m : Nat} {c : Cfg} {S : List SI} (h : AggIs w base a m c S) (hT : Tabs w) {i : Nat} (hi : i < 20) {s : SI} (hs : S[i]? = some s) (least : Int) (budget : Nat) (h1 : 1 ≤ least) (hl : least ≤ 1125899906842624) (hbud : budget ≤ 4096)
   (hask : askedH c s.C least (c.bits + 1) ≤ budget) (fs : List ((Nat × Nat) × Int)) (hfs : outsH c s.C least (c.bits + 1) = fs) (hn : fs.length ≤ 100) (hsm : ∀ f ∈ fs,f.1.1 < 100 ∧ f.1.2 < 100 ∧ -9223372036854775808 ≤ f.2 ∧ f.2 ≤ 9223372036854775807) :
   Calls Tryz.prog 11 #[.pointer (some ⟨a,0,none⟩),.string (numLine vHeavy [(i : Int) + 1,least,budget])] w (ReadPost w base a m c S (listT fs)):=by
 have hst:=h.st i s hs
 have g1:=i64_handle hi
 have g2 : I64 least:=⟨by omega,by omega⟩
 have g3 : I64 (budget : Int):=⟨by omega,by omega⟩
 refine (line_ok (t:=listT fs) (R:=fun v w2 => (∃ v' b0,v = .iface 154 (.agg #[v']) ∧ w2.ownsRow b0 160 3 v' fs.length (fcells fs)) ∧ AggIs w2 base a m c S ∧ Below w.heap.size w w2) a _ hT (line_fits (ok3 vHeavy_plain (by decide) g1 g2 g3)) (parse_heavy g1 g2 g3) (fun w1 v hb1 hv => ?_) (fun v w2 hR => ?_)).mono ?_
 · obtain ⟨al,cl,rfl,hr2⟩:=hv
   refine do_query a vHeavy ((i : Int) + 1) al 2 cl (fun w' hbw => ?_)
   refine (query_heavy (h.keep (hb1.then hbw)) hs al cl least budget fs (hr2.below hbw) (fun w3 hb3 => ?_)).mono ?_
   · have K:=heavy_ok (hst.below ((hb1.then hbw).then hb3)) least budget h1 hbud hask
     rw [hfs] at K
     exact K
   · rintro e w2 ⟨⟨v,rfl,hown⟩,hA',hu⟩
     exact ⟨_,rfl,⟨v,_,rfl,hown⟩,hA',(hb1.then hbw).then hu⟩
 · obtain ⟨⟨v',b0,rfl,hown⟩,_,hu⟩:=hR
   exact text_list fs v' w2 (hT.below hu) b0 hown hn hsm
 · rintro e w' ⟨rfl,v,w2,⟨_,hA',hu⟩,hb2⟩
   exact ⟨rfl,hA'.keep hb2,hu.then hb2⟩
end Go.Proofs.YtejaocnhekjfiaaGreatDoor
namespace Go.Proofs.YtejaocnhekjfiaaGreatDoor
open Go.RowKit
set_option linter.unusedVariables false
open S25 (I64 numLine LineOk Tabs PlainW)
def cW : Cfg:=⟨2,1,4,1,0⟩
theorem cW_ok : cW.ok:=⟨by decide,by decide,by decide,by decide,by decide,by decide,by decide,by decide,by decide⟩
def c0W : List (List Int):=[[0,0,0,0],[0,0],[0]]
def c1W : List (List Int):=[[0,0,0,5],[0,5],[5]]
def c2W : List (List Int):=[[0,2,0,5],[2,5],[7]]
def outsW : List ((Nat × Nat) × Int):=[((2,0),7),((1,1),5),((0,3),5)]
theorem zero_w : zeroC cW = c0W:=by kernel_rfl
theorem upd_w1 : updS cW 3 5 c0W (List.range 3) = c1W:=by kernel_rfl
theorem upd_w2 : updS cW 1 2 c1W (List.range 3) = c2W:=by kernel_rfl
theorem outs_w : outsH cW c2W 5 3 = outsW:=by kernel_rfl
theorem asked_w : askedH cW c2W 5 3 = 5:=by kernel_rfl
theorem way_w : (wayL cW c2W 2 0 3)[2]? = some (0,3):=by kernel_rfl
theorem cov_w : S14.covL 2 1 2 = [(0,1),(0,2)]:=by kernel_rfl
theorem part_w : ∀ l,l < 3 → ∀ i,i < 2 ^ (2 - l) → -100 ≤ partV cW c2W (l,i) ∧ partV cW c2W (l,i) ≤ 100:=by decide +kernel
theorem inn_w : innL cW 0 [0,2,0,5] [0,2,0,5] = 29:=by kernel_rfl
theorem fit_w : ∀ k,k < 5 → S02.Fits (dotK [0,2,0,5] [0,2,0,5] k):=by decide +kernel
def xsW : List ByteArray:=[numLine vCreate [2,1,4,1,0],numLine vAdd [1,3,5],numLine vAdd [1,1,2],numLine vRange [1,1,2],numLine vQuantile [1,3],numLine vHeavy [1,5,9],numLine vInner [1,1]]
def tsW : List ByteArray:=[bHandle ++ numT 1,bDone,bDone,bNumber ++ numT 2,bKey ++ numT 3,listT outsW,bWide ++ numT 29]
def SsW : Nat → List (List (List Int))
 | 0 => []
 | 1 => [c0W]
 | 2 => [c1W]
 | _ => [c2W]
theorem one_of {S : List SI} {C : List (List Int)} (h : S.map (·.C) = [C]) : ∃ s,S = [s] ∧ s.C = C:=by
 match S,h with
 | [s],h => exact ⟨s,rfl,by simpa using h⟩
theorem fitl (b : Int) (C : List (List Int)) (h : C.all (fun zs => zs.all fun x => decide (-b ≤ x) && decide (x ≤ b)) = true) : ∀ zs ∈ C,FitL b zs:=fun zs hz x hx => by
 have:=List.all_eq_true.1 (List.all_eq_true.1 h zs hz) x hx
 simpa using this
theorem script_w : Script cW xsW tsW SsW:=by
 intro base a m S w k x hx hA hS hT hb
 match k,hx with
 | 0,hx =>
   obtain rfl : numLine vCreate [2,1,4,1,0] = x:=by simpa [xsW] using hx
   obtain rfl : S = []:=by simpa [SsW] using hS
   have K:=line_create cW_ok hA hT (by decide) 0 ⟨by decide,by decide⟩ (by decide) hb
   refine ⟨bHandle ++ numT 1,rfl,K.mono ?_⟩
   rintro e w' ⟨rfl,s,hs,hA',hu⟩
   exact ⟨rfl,[] ++ [s],hA',by rw [List.nil_append,List.map_cons,List.map_nil,hs,zero_w]; rfl,hu⟩
 | 1,hx =>
   obtain rfl : numLine vAdd [1,3,5] = x:=by simpa [xsW] using hx
   obtain ⟨s,rfl,hs⟩:=one_of (C:=c0W) hS
   have K:=line_add hA hT (i:=0) (by decide) (s:=s) rfl 3 (by decide) 5 100 10 (by rw [hs]; exact fitl 100 c0W (by decide)) (by decide) ⟨by decide,by decide⟩ (by decide) (by decide) (by decide) (by decide)
   refine ⟨bDone,rfl,K.mono ?_⟩
   rintro e w' ⟨rfl,hA',hu⟩
   refine ⟨rfl,_,hA',?_,hu⟩
   show [updS cW 3 5 s.C (List.range 3)] = [c1W]
   rw [hs,upd_w1]
 | 2,hx =>
   obtain rfl : numLine vAdd [1,1,2] = x:=by simpa [xsW] using hx
   obtain ⟨s,rfl,hs⟩:=one_of (C:=c1W) hS
   have K:=line_add hA hT (i:=0) (by decide) (s:=s) rfl 1 (by decide) 2 100 10 (by rw [hs]; exact fitl 100 c1W (by decide)) (by decide) ⟨by decide,by decide⟩ (by decide) (by decide) (by decide) (by decide)
   refine ⟨bDone,rfl,K.mono ?_⟩
   rintro e w' ⟨rfl,hA',hu⟩
   refine ⟨rfl,_,hA',?_,hu⟩
   show [updS cW 1 2 s.C (List.range 3)] = [c2W]
   rw [hs,upd_w2]
 | 3,hx =>
   obtain rfl : numLine vRange [1,1,2] = x:=by simpa [xsW] using hx
   obtain ⟨s,rfl,hs⟩:=one_of (C:=c2W) hS
   have K:=line_range hA hT (i:=0) (by decide) (s:=s) rfl 1 2 (by decide) (by decide) 2 ⟨by decide,by decide⟩ (by decide) (by show ∀ x ∈ S14.covL 2 1 2,_; rw [cov_w]; decide) (by show (S14.covL 2 1 2).length ≤ _; rw [cov_w]; decide) [2,0] (by show (S14.covL 2 1 2).map _ = _; rw [cov_w,hs]; kernel_rfl) (by unfold S02.In64; decide) (by kernel_rfl)
   refine ⟨bNumber ++ numT 2,rfl,K.mono ?_⟩
   rintro e w' ⟨rfl,hA',hu⟩
   exact ⟨rfl,_,hA',hS,Upd.of_below hu⟩
 | 4,hx =>
   obtain rfl : numLine vQuantile [1,3] = x:=by simpa [xsW] using hx
   obtain ⟨s,rfl,hs⟩:=one_of (C:=c2W) hS
   have K:=line_quantile hA hT (i:=0) (by decide) (s:=s) rfl 3 100 (by decide) (fun l i hl hi => by rw [hs]; exact part_w l (Nat.lt_succ_of_le hl) i hi) (by decide) (by rw [hs]; decide +kernel) (0,3) (by rw [hs]; exact way_w) (by decide)
   refine ⟨bKey ++ numT 3,rfl,K.mono ?_⟩
   rintro e w' ⟨rfl,hA',hu⟩
   exact ⟨rfl,_,hA',hS,Upd.of_below hu⟩
 | 5,hx =>
   obtain rfl : numLine vHeavy [1,5,9] = x:=by simpa [xsW] using hx
   obtain ⟨s,rfl,hs⟩:=one_of (C:=c2W) hS
   have K:=line_heavy hA hT (i:=0) (by decide) (s:=s) rfl 5 9 (by decide) (by decide) (by decide) (by rw [hs]; exact Nat.le_trans (Nat.le_of_eq asked_w) (by decide)) outsW (by rw [hs]; exact outs_w) (by decide) (by decide)
   refine ⟨listT outsW,rfl,K.mono ?_⟩
   rintro e w' ⟨rfl,hA',hu⟩
   exact ⟨rfl,_,hA',hS,Upd.of_below hu⟩
 | 6,hx =>
   obtain rfl : numLine vInner [1,1] = x:=by simpa [xsW] using hx
   obtain ⟨s,rfl,hs⟩:=one_of (C:=c2W) hS
   have K:=line_inner hA hT (i:=0) (j:=0) (by decide) (by decide) (s:=s) (t:=s) rfl rfl rfl (xs:=[0,2,0,5]) (ys:=[0,2,0,5]) (by rw [hs]; rfl) (by rw [hs]; rfl) (by unfold S02.In64; decide) (by unfold S02.In64; decide) (by unfold InnFits; rw [if_pos (by decide)]; exact fun k hk => fit_w k (Nat.lt_succ_of_le hk)) (by rw [inn_w]; decide)
   rw [inn_w] at K
   refine ⟨bWide ++ numT 29,rfl,K.mono ?_⟩
   rintro e w' ⟨rfl,hA',hu⟩
   exact ⟨rfl,_,hA',hS,Upd.of_below hu⟩
 | k + 7,hx => simp [xsW] at hx
end Go.Proofs.YtejaocnhekjfiaaGreatDoor
namespace Go.Proofs.YtejaocnhekjfiaaGreatDoor
open Go.RowKit
set_option linter.unusedVariables false
open S25 (I64 numLine LineOk Tabs PlainW)
def scrW0 : ByteArray:=⟨#[99,114,101,97,116,101,32,50,32,49,32,52,32,49,32,48,10,97,100,100,32,49,32,51,32,53,10,97,100,100,32,49,32,49,32,50,10,114,97,110,103,101,32,49,32,49,32,50,10,113,117,97,110,116,105,108,101,32,49,32,51,10,104,101,97,118,121,32,49,32,53,32,57,10,105,110,110,101,114,32,49,32,49]⟩
def scrW1 : ByteArray:=⟨#[97,100,100,32,49,32,51,32,53,10,97,100,100,32,49,32,49,32,50,10,114,97,110,103,101,32,49,32,49,32,50,10,113,117,97,110,116,105,108,101,32,49,32,51,10,104,101,97,118,121,32,49,32,53,32,57,10,105,110,110,101,114,32,49,32,49]⟩
def scrW2 : ByteArray:=⟨#[97,100,100,32,49,32,49,32,50,10,114,97,110,103,101,32,49,32,49,32,50,10,113,117,97,110,116,105,108,101,32,49,32,51,10,104,101,97,118,121,32,49,32,53,32,57,10,105,110,110,101,114,32,49,32,49]⟩
def scrW3 : ByteArray:=⟨#[114,97,110,103,101,32,49,32,49,32,50,10,113,117,97,110,116,105,108,101,32,49,32,51,10,104,101,97,118,121,32,49,32,53,32,57,10,105,110,110,101,114,32,49,32,49]⟩
def scrW4 : ByteArray:=⟨#[113,117,97,110,116,105,108,101,32,49,32,51,10,104,101,97,118,121,32,49,32,53,32,57,10,105,110,110,101,114,32,49,32,49]⟩
def scrW5 : ByteArray:=⟨#[104,101,97,118,121,32,49,32,53,32,57,10,105,110,110,101,114,32,49,32,49]⟩
def scrW6 : ByteArray:=⟨#[105,110,110,101,114,32,49,32,49]⟩
theorem splits_w : Splits scrW0 xsW:=by
 unfold xsW
 have e0 : numLine vCreate [2,1,4,1,0] = scrW0.extract 0 16:=by kernel_rfl
 have f0 : scrW0.extract (16 + 1) scrW0.size = scrW1:=by kernel_rfl
 have e1 : numLine vAdd [1,3,5] = scrW1.extract 0 9:=by kernel_rfl
 have f1 : scrW1.extract (9 + 1) scrW1.size = scrW2:=by kernel_rfl
 have e2 : numLine vAdd [1,1,2] = scrW2.extract 0 9:=by kernel_rfl
 have f2 : scrW2.extract (9 + 1) scrW2.size = scrW3:=by kernel_rfl
 have e3 : numLine vRange [1,1,2] = scrW3.extract 0 11:=by kernel_rfl
 have f3 : scrW3.extract (11 + 1) scrW3.size = scrW4:=by kernel_rfl
 have e4 : numLine vQuantile [1,3] = scrW4.extract 0 12:=by kernel_rfl
 have f4 : scrW4.extract (12 + 1) scrW4.size = scrW5:=by kernel_rfl
 have e5 : numLine vHeavy [1,5,9] = scrW5.extract 0 11:=by kernel_rfl
 have f5 : scrW5.extract (11 + 1) scrW5.size = scrW6:=by kernel_rfl
 have e6 : numLine vInner [1,1] = scrW6:=by kernel_rfl
 rw [e0,e1,e2,e3,e4,e5,e6]
 refine .more scrW0 16 _ (by kernel_rfl) (by decide) ?_
 rw [f0]
 refine .more scrW1 9 _ (by kernel_rfl) (by decide) ?_
 rw [f1]
 refine .more scrW2 9 _ (by kernel_rfl) (by decide) ?_
 rw [f2]
 refine .more scrW3 11 _ (by kernel_rfl) (by decide) ?_
 rw [f3]
 refine .more scrW4 12 _ (by kernel_rfl) (by decide) ?_
 rw [f4]
 refine .more scrW5 11 _ (by kernel_rfl) (by decide) ?_
 rw [f5]
 exact .last _ (by kernel_rfl)
theorem reps_w : (bNumber ++ numT 2 = ⟨#[110,117,109,98,101,114,32,50]⟩) ∧ (bKey ++ numT 3 = ⟨#[107,101,121,32,51]⟩) ∧ (listT outsW = ⟨#[108,105,115,116,32,50,58,48,58,55,32,49,58,49,58,53,32,48,58,51,58,53]⟩) ∧ (bWide ++ numT 29 = ⟨#[119,105,100,101,32,50,57]⟩):=⟨by kernel_rfl,by kernel_rfl,by kernel_rfl,by kernel_rfl⟩
theorem eqs_w (s : ByteArray) (l : List UInt8) (h : s = ⟨l.toArray⟩) : (s.toList == l) = true:=by
 rw [h,ByteArray.toList_eq]; simp
set_option maxRecDepth 100000 in
set_option maxHeartbeats 1000000 in
theorem works_any (w : World) (hT : Tabs w) : Calls Tryz.prog 7 #[] w fun e w' => e = .returned (.bool true) ∧ Below w.heap.size w w':=by
 have K:=Lib.hid (run_any cW scrW0 xsW tsW SsW splits_w (by decide) rfl (by decide) rfl script_w w hT)
 unfold scrW0 at K
 have e3:=eqs_w _ [110,117,109,98,101,114,32,50] reps_w.1
 have e4:=eqs_w _ [107,101,121,32,51] reps_w.2.1
 have e5:=eqs_w _ [108,105,115,116,32,50,58,48,58,55,32,49,58,49,58,53,32,48,58,51,58,53] reps_w.2.2.1
 have e6:=eqs_w _ [119,105,100,101,32,50,57] reps_w.2.2.2
 unfold xsW tsW at K
 generalize bNumber ++ numT 2 = s3 at *
 generalize bKey ++ numT 3 = s4 at *
 generalize listT outsW = s5 at *
 generalize bWide ++ numT 29 = s6 at *
 clear hT
 go_enter Tryz.func7,Tryz.ntmps7
 go_wp2_with fail
 refine (K.out).mono ?_
 rintro e w1 ⟨v,n₀,rfl,hown,hb⟩
 obtain ⟨ao,co,rfl⟩ : ∃ ao co,v = .slice ao 7 co:=by
   rcases hown.2 with ⟨_,e0⟩ | ⟨gg,cc,_,rfl,_⟩
   · cases e0
   · exact ⟨_,_,rfl⟩
 obtain ⟨g,rfl,hnc,hc⟩:=owns_cell hown (by decide)
 have c3 : w1.cell? ⟨g,3,none⟩ = some (.string s3):=(hc 3 (.string s3) rfl).2
 have c4 : w1.cell? ⟨g,4,none⟩ = some (.string s4):=(hc 4 (.string s4) rfl).2
 have c5 : w1.cell? ⟨g,5,none⟩ = some (.string s5):=(hc 5 (.string s5) rfl).2
 have c6 : w1.cell? ⟨g,6,none⟩ = some (.string s6):=(hc 6 (.string s6) rfl).2
 have HB:=Lib.hid hb
 clear hc hown hb K
 go_wp2_with fail
 go_ret
 exact ⟨rfl,HB.out⟩
end Go.Proofs.YtejaocnhekjfiaaGreatDoor
namespace Go.Proofs.YtejaocnhekjfiaaGreatDoor
open Go.RowKit
set_option linter.unusedVariables false
def plainF (F : List Int) : Bool:=(List.range 64).all fun k => decide (0 ≤ F.getD k 0)
theorem plainF_true {F : List Int} (h : ∀ k,k < 64 → 0 ≤ F.getD k 0) : plainF F = true:=List.all_eq_true.2 fun k hk => decide_eq_true (h k (List.mem_range.1 hk))
theorem plainF_nn {F : List Int} (h : plainF F = true) : ∀ k,k < 64 → 0 ≤ F.getD k 0:=fun k hk => of_decide_eq_true (List.all_eq_true.1 h k (List.mem_range.2 hk))
set_option maxRecDepth 100000 in
set_option maxHeartbeats 1000000 in
theorem plain_any {w : World} {base x a m : Nat} {c : Cfg} {S : List SI} {G : List Int} (h : WIs w base x a m c S G) (i : Nat) (hi : i < 3) :
   Calls Tryz.prog 20 #[.pointer (some ⟨x,0,none⟩),.int .i64 i] w fun e w' => e = .returned (.bool (plainF (rowG G i))) ∧ w = w':=by
 have HK:=Lib.hid (fun k (hk : k < 64) => h.key (i:=64 * i + k) (by omega))
 have HGK:=Lib.hid (fun k (hk : k < 64) => rowG_getD G i k hk)
 have hiI : (i : Int) < 3:=by omega
 generalize rowG G i = F at *
 clear h
 go_enter Tryz.func20,Tryz.ntmps20
 go_wp2_with fail
 go_loopw [5] (fun i8 wr => ∃ k : Nat,k ≤ 64 ∧ i8 = .int .i64 k ∧ Hid (∀ j,j < k → 0 ≤ F.getD j 0) ∧ wr = w) (fun i8 _ => 64 - (intOf i8).toNat)
 case atStart => exact ⟨0,by decide,rfl,Lib.hid (fun j hj => absurd hj (Nat.not_lt_zero j)),rfl⟩
 case round =>
   obtain ⟨k,hk,rfl,HP,rfl⟩:=hrel
   by_cases hlt : k < 64
   · have hltI : (k : Int) < 64:=by omega
     have hkey:=HK.out k hlt
     rw [← HGK.out k hlt,show 6 + (64 * i + k) = 6 + i * 64 + k by omega] at hkey
     by_cases hp : F.getD k 0 < 0
     · have HR:=Lib.hid (show plainF F = false by cases hpf : plainF F with | false => rfl | true => have:=plainF_nn hpf k hlt; omega)
       generalize F.getD k 0 = g at *
       clear hlt
       go_wp2_with fail
       go_ret
       exact ⟨by rw [HR.out]; rfl,rfl⟩
     · have HN:=Lib.hid (show ∀ j,j < k + 1 → 0 ≤ F.getD j 0 from fun j hj => by
         by_cases e : j = k
         · subst e; omega
         · exact HP.out j (by omega))
       generalize F.getD k 0 = g at *
       go_wp2_with fail
       go_roundw
       case rel => exact ⟨k + 1,by omega,by go_num,HN,by trivial⟩
       case measure => simp [intOf]; omega
   · have hk64 : k = 64:=by omega
     subst hk64
     have HR:=Lib.hid (plainF_true HP.out)
     have hf : ¬ (((64 : Nat) : Int) < 64):=by omega
     clear hlt hk
     go_wp2_with fail
     go_ret
     exact ⟨by rw [HR.out]; rfl,rfl⟩
end Go.Proofs.YtejaocnhekjfiaaGreatDoor
namespace Go.Proofs.YtejaocnhekjfiaaGreatDoor
open Go.RowKit
set_option linter.unusedVariables false
set_option maxRecDepth 100000 in
set_option maxHeartbeats 1000000 in
theorem right63 (c : Cfg) (hc : c.ok) (w : World) : Calls Tryz.prog 63 #[cfgV c] w fun e w' => e = .returned (.bool true) ∧ Below w.heap.size w w':=by
 obtain ⟨b1,b59,r1,r8,w1,w8,m1,m3,s⟩:=hc
 have hx:=heap_alloc_new w (.cells #[.int .i64 c.bits,.int .i64 c.rows,.int .i64 c.width,.int .i64 c.mode,.int .u64 c.seed] 24)
 have HB:=Lib.hid ((Below.refl w.heap.size w).alloc (Nat.le_refl _) (.cells #[.int .i64 c.bits,.int .i64 c.rows,.int .i64 c.width,.int .i64 c.mode,.int .u64 c.seed] 24))
 unfold cfgV
 generalize c.bits = bb at *
 generalize c.rows = rr at *
 generalize c.width = ww at *
 generalize c.mode = md at *
 generalize c.seed = sd at *
 have k1 : (1 : Int) ≤ (bb : Int):=by omega
 have k2 : (bb : Int) ≤ 59:=by omega
 have k3 : (1 : Int) ≤ (rr : Int):=by omega
 have k4 : (rr : Int) ≤ 8:=by omega
 have k5 : (1 : Int) ≤ (ww : Int):=by omega
 have k6 : (ww : Int) ≤ 128:=by omega
 obtain rfl | rfl | rfl : md = 1 ∨ md = 2 ∨ md = 3:=by omega
 all_goals
   generalize hX : w.alloc (.cells #[.int .i64 bb,.int .i64 rr,.int .i64 ww,.int .i64 _,.int .u64 sd] 24) = X at *
   have c0 : X.cell? ⟨w.heap.size,0,none⟩ = some (.int .i64 bb):=(cell_of_row _ _ _ _ _ _ hx).trans rfl
   have c1 : X.cell? ⟨w.heap.size,1,none⟩ = some (.int .i64 rr):=(cell_of_row _ _ _ _ _ _ hx).trans rfl
   have c2 : X.cell? ⟨w.heap.size,2,none⟩ = some (.int .i64 ww):=(cell_of_row _ _ _ _ _ _ hx).trans rfl
   have c3 : X.cell? ⟨w.heap.size,3,none⟩ = some (.int .i64 _):=(cell_of_row _ _ _ _ _ _ hx).trans rfl
   clear hx
   go_enter Tryz.func63,Tryz.ntmps63
   go_wp2_with fail
   go_ret
   exact ⟨rfl,(Below.refl _ _).alloc (Nat.le_refl _) _⟩
set_option maxRecDepth 100000 in
set_option maxHeartbeats 1000000 in
theorem keys38 (c : Cfg) (hc : c.ok) (lv : Nat) (hlv : lv ≤ c.bits) (w : World) : Calls Tryz.prog 38 #[cfgV c,.int .i64 lv] w fun e w' => e = .returned (.int .u64 ((2 ^ (c.bits - lv) : Nat) : Int)) ∧ Below w.heap.size w w':=by
 have K:=Lib.hid (fun w => right63 c hc w)
 have b59:=hc.b59
 have hx:=heap_alloc_new w (.cells #[.int .i64 c.bits,.int .i64 c.rows,.int .i64 c.width,.int .i64 c.mode,.int .u64 c.seed] 24)
 have HB:=Lib.hid ((Below.refl w.heap.size w).alloc (Nat.le_refl _) (.cells #[.int .i64 c.bits,.int .i64 c.rows,.int .i64 c.width,.int .i64 c.mode,.int .u64 c.seed] 24))
 unfold cfgV at *
 generalize c.bits = bb at *
 generalize c.rows = rr at *
 generalize c.width = ww at *
 generalize c.mode = md at *
 generalize c.seed = sd at *
 generalize hX : w.alloc (.cells #[.int .i64 bb,.int .i64 rr,.int .i64 ww,.int .i64 md,.int .u64 sd] 24) = X at *
 have HX:=Lib.hid hx
 have c0 : X.cell? ⟨w.heap.size,0,none⟩ = some (.int .i64 bb):=(cell_of_row _ _ _ _ _ _ hx).trans rfl
 have c1 : X.cell? ⟨w.heap.size,1,none⟩ = some (.int .i64 rr):=(cell_of_row _ _ _ _ _ _ hx).trans rfl
 have c2 : X.cell? ⟨w.heap.size,2,none⟩ = some (.int .i64 ww):=(cell_of_row _ _ _ _ _ _ hx).trans rfl
 have c3 : X.cell? ⟨w.heap.size,3,none⟩ = some (.int .i64 md):=(cell_of_row _ _ _ _ _ _ hx).trans rfl
 have c4 : X.cell? ⟨w.heap.size,4,none⟩ = some (.int .u64 sd):=(cell_of_row _ _ _ _ _ _ hx).trans rfl
 have k1 : ¬ ((bb : Int) < (lv : Int)):=by omega
 have k0 : ¬ ((lv : Int) < 0):=by omega
 clear hx hc
 go_enter Tryz.func38,Tryz.ntmps38
 go_wp2_with fail
 clear hX
 refine (K.out _).mono ?_
 rintro e w1 ⟨rfl,hb⟩
 have HB1:=Lib.hid (HB.out.then hb)
 have hx1:=(hb.block _ (lt_of_block HX.out)).trans HX.out
 clear c0 c1 c2 c3 c4 hb K
 have c0 : w1.cell? ⟨w.heap.size,0,none⟩ = some (.int .i64 bb):=(cell_of_row _ _ _ _ _ _ hx1).trans rfl
 clear hx1
 go_wp2_with fail
 go_loopw [5,6] (fun n i wr => ∃ k : Nat,lv + k ≤ bb ∧ i = .int .i64 ((lv + k : Nat) : Int) ∧ n = .int .u64 ((2 ^ k : Nat) : Int) ∧ wr = w1) (fun _ i _ => bb - (intOf i).toNat)
 case atStart => exact ⟨0,by omega,rfl,rfl,rfl⟩
 case round =>
   obtain ⟨k,hk,rfl,rfl,rfl⟩:=hrel
   have hp : 2 ^ k ≤ 2 ^ 59:=Nat.pow_le_pow_right (by decide) (by omega)
   have e59 : (2 : Nat) ^ 59 = 576460752303423488:=by decide
   rw [e59] at hp
   have HN:=Lib.hid (show (2 ^ k * 2 : Nat) = 2 ^ (k + 1) from (Nat.pow_succ ..).symm)
   have HKB:=Lib.hid (show ¬ lv + k < bb → 2 ^ k = 2 ^ (bb - lv) from fun h => by rw [show bb - lv = k by omega])
   generalize 2 ^ k = q at *
   clear e59
   by_cases hlt : lv + k < bb
   · have hltI : ((lv + k : Nat) : Int) < (bb : Int):=by omega
     have hwq : IntKind.u64.wrap ((q : Int) * 2) = ((q * 2 : Nat) : Int):=by rw [IntWalk.u64_in _ ⟨by omega,by omega⟩]; push_cast; rfl
     generalize hlk : lv + k = m at *
     go_wp2_with fail
     go_roundw
     case rel => exact ⟨k + 1,by omega,by subst hlk; go_num,by rw [← HN.out]; simp,by trivial⟩
     case measure => simp [intOf]; omega
   · have hltI : ¬ (((lv + k : Nat) : Int) < (bb : Int)):=by omega
     have HQ:=Lib.hid (HKB.out hlt)
     generalize lv + k = m at *
     go_wp2_with fail
     go_ret
     exact ⟨by rw [HQ.out]; rfl,HB1.out⟩
set_option maxRecDepth 100000 in
set_option maxHeartbeats 1000000 in
theorem exact18 (c : Cfg) (hc : c.ok) (lv : Nat) (hlv : lv ≤ c.bits) (w : World) : Calls Tryz.prog 18 #[cfgV c,.int .i64 lv] w fun e w' => e = .returned (.bool (c.exact lv)) ∧ Below w.heap.size w w':=by
 have K:=Lib.hid (fun w => keys38 c hc lv hlv w)
 have hp : 2 ^ (c.bits - lv) ≤ 2 ^ 59:=Nat.pow_le_pow_right (by decide) (by have:=hc.b59; omega)
 have e59 : (2 : Nat) ^ 59 = 576460752303423488:=by decide
 rw [e59] at hp
 have hq0 : 1 ≤ 2 ^ (c.bits - lv):=Nat.one_le_two_pow
 have w8:=hc.w8
 have HE:=Lib.hid (show c.exact lv = decide (2 ^ (c.bits - lv) ≤ c.width) from rfl)
 have hx:=heap_alloc_new w (.cells #[.int .i64 c.bits,.int .i64 c.rows,.int .i64 c.width,.int .i64 c.mode,.int .u64 c.seed] 24)
 have HB:=Lib.hid ((Below.refl w.heap.size w).alloc (Nat.le_refl _) (.cells #[.int .i64 c.bits,.int .i64 c.rows,.int .i64 c.width,.int .i64 c.mode,.int .u64 c.seed] 24))
 unfold cfgV at *
 generalize 2 ^ (c.bits - lv) = q at *
 generalize c.exact lv = ex at *
 generalize c.bits = bb at *
 generalize c.rows = rr at *
 generalize c.width = ww at *
 generalize c.mode = md at *
 generalize c.seed = sd at *
 generalize hX : w.alloc (.cells #[.int .i64 bb,.int .i64 rr,.int .i64 ww,.int .i64 md,.int .u64 sd] 24) = X at *
 have HX:=Lib.hid hx
 have c0 : X.cell? ⟨w.heap.size,0,none⟩ = some (.int .i64 bb):=(cell_of_row _ _ _ _ _ _ hx).trans rfl
 have c1 : X.cell? ⟨w.heap.size,1,none⟩ = some (.int .i64 rr):=(cell_of_row _ _ _ _ _ _ hx).trans rfl
 have c2 : X.cell? ⟨w.heap.size,2,none⟩ = some (.int .i64 ww):=(cell_of_row _ _ _ _ _ _ hx).trans rfl
 have c3 : X.cell? ⟨w.heap.size,3,none⟩ = some (.int .i64 md):=(cell_of_row _ _ _ _ _ _ hx).trans rfl
 have c4 : X.cell? ⟨w.heap.size,4,none⟩ = some (.int .u64 sd):=(cell_of_row _ _ _ _ _ _ hx).trans rfl
 clear hx hc e59
 have k0 : (1 : Int) ≤ (q : Int):=by omega
 have hmx : max (ww : Int) 0 = (ww : Int):=by omega
 have hw : IntKind.u64.wrap (ww : Int) = (ww : Int):=IntWalk.u64_in _ ⟨by omega,by omega⟩
 go_enter Tryz.func18,Tryz.ntmps18
 go_wp2_with fail
 clear hX
 refine (K.out _).mono ?_
 rintro e w1 ⟨rfl,hb⟩
 have HB1:=Lib.hid (HB.out.then hb)
 have hx1:=(hb.block _ (lt_of_block HX.out)).trans HX.out
 clear c0 c1 c2 c3 c4 hb K
 have c2 : w1.cell? ⟨w.heap.size,2,none⟩ = some (.int .i64 ww):=(cell_of_row _ _ _ _ _ _ hx1).trans rfl
 clear hx1
 have HD:=Lib.hid (show decide ((q : Int) ≤ (ww : Int)) = ex by rw [HE.out]; exact decide_eq_decide.2 (by omega))
 go_wp2_with fail
 go_ret
 exact ⟨by rw [HE.out]; rfl,HB1.out⟩
end Go.Proofs.YtejaocnhekjfiaaGreatDoor
namespace Go.Proofs.YtejaocnhekjfiaaGreatDoor
open Go.RowKit
set_option linter.unusedVariables false
open S25 (I64 numLine LineOk Tabs PlainW)
def partG (F : List Int) (k : Nat) : List Int:=(List.range 64).map fun i => if k ≤ i then F.getD i 0 else 0
theorem partG_fit {F : List Int} {b : Int} (h : FitL b F) (hb : 0 ≤ b) (k : Nat) : FitL b (partG F k):=fun x hx => by
 simp only [partG,List.mem_map] at hx
 obtain ⟨i,_,rfl⟩:=hx
 split
 · exact h.getD hb i
 · omega
theorem stack_fit {c : Cfg} (hm : c.mode ≠ 2) (h6 : c.bits = 6) {F : List Int} {b : Int} (hF : FitL b F) (hb : 0 ≤ b) : ∀ zs ∈ stackOf c F,FitL (64 * b) zs:=fun zs hz => by
 have:=relC_fit (c:=c) (F:=F) (C:=stackOf c F) (by unfold RelC; rw [if_neg hm]) hF hb zs hz
 rw [h6] at this
 exact this
theorem stack_lens {c : Cfg} (hc : c.ok) {F : List Int} : ∀ zs ∈ stackOf c F,zs.length ≤ 1024:=fun zs hz => by
 simp only [stackOf,List.mem_map] at hz
 obtain ⟨n,hn,rfl⟩:=hz
 rw [cellsOf_len]
 have h1:=hc.r1; have h2:=hc.r8; have h3:=hc.w1; have h4:=hc.w8
 cases hx : c.exact n with
 | true =>
   obtain ⟨e1,e2⟩:=RW_ex hx
   have : 2 ^ (c.bits - n) ≤ c.width:=by unfold Cfg.exact at hx; exact of_decide_eq_true hx
   rw [e1,e2]; omega
 | false =>
   obtain ⟨e1,e2⟩:=RW_sk hx
   rw [e1,e2]; exact Nat.mul_le_mul h2 h4
end Go.Proofs.YtejaocnhekjfiaaGreatDoor
namespace Go.Proofs.YtejaocnhekjfiaaGreatDoor.S02
open Go.RowKit
set_option linter.unusedVariables false
def mulF (a b : Int) (i k : Nat) : Nat → Int:=fun j => if j < i + k then dg (Qk a b i k) j else dg (lw a i * b) j
theorem mulF_zero (a b : Int) (i j : Nat) : dg (lw a i * b) j = mulF a b i 0 j:=by unfold mulF; rw [Qk_zero]; split <;> rfl
theorem mulF_here (a b : Int) (i k : Nat) : mulF a b i k (i + k) = dg (lw a i * b) (i + k):=by unfold mulF; rw [if_neg (by omega)]
theorem mulF_succ (a b : Int) (i k : Nat) (x : Int) (h : x = dg (Qk a b i (k + 1)) (i + k)) (j : Nat) : (if j = i + k then x else mulF a b i k j) = mulF a b i (k + 1) j:=by
 subst h
 unfold mulF
 by_cases e1 : j = i + k
 · rw [if_pos e1,if_pos (by omega),e1]
 · rw [if_neg e1]
   by_cases e2 : j < i + k
   · rw [if_pos e2,if_pos (by omega),Qk_low _ _ _ _ _ e2]
   · rw [if_neg e2,if_neg (by omega)]
theorem mulF_all (a b : Int) (i k : Nat) (h : i + k = 10) (j : Nat) (hj : j < 10) : mulF a b i k j = dg (lw a (i + 1) * b) j:=by
 unfold mulF; rw [if_pos (by omega),dg_whole _ _ _ _ _ (by omega)]
theorem lw_none (a b : Int) (j : Nat) : (0 : Int) = dg (lw a 0 * b) j:=by rw [lw_zero,Int.zero_mul]; unfold dg; rw [Int.zero_ediv]; rfl
theorem prod_range {x y : Int} (hx : 0 ≤ x ∧ x ≤ 65535) (hy : 0 ≤ y ∧ y ≤ 65535) : 0 ≤ x * y ∧ x * y ≤ 4294836225:=
 ⟨Int.mul_nonneg hx.1 hy.1,by have:=Int.mul_le_mul hx.2 hy.2 hy.1 (by omega : (0 : Int) ≤ 65535); omega⟩
set_option maxRecDepth 100000 in
set_option maxHeartbeats 1000000 in
theorem lmul_any (a b : Int) (w : World) :
   Calls Tryz.prog 22 #[L a,L b] w fun e w' => e = .returned (L (a * b)) ∧ Below w.heap.size w w':=by
 unfold L
 have hz:=zero30
 have HA:=Lib.hid (((((At.new w (dg a) rfl).alloc (.cells (arr (dg b)) 63)).alloc (.cells (arr fun _ => 0) 63)).alloc (.cells (arr fun _ => 0) 63)))
 have HB:=Lib.hid ((((At.new (w.alloc (.cells (arr (dg a)) 63)) (dg b) (k:=w.heap.size + 1) (by simp)).alloc (.cells (arr fun _ => 0) 63)).alloc (.cells (arr fun _ => 0) 63)))
 have HR:=Lib.hid (((At.new ((w.alloc (.cells (arr (dg a)) 63)).alloc (.cells (arr (dg b)) 63)) (fun _ => 0) (k:=w.heap.size + 1 + 1) (by simp)).alloc (.cells (arr fun _ => 0) 63)))
 have HO:=Lib.hid ((At.new (((w.alloc (.cells (arr (dg a)) 63)).alloc (.cells (arr (dg b)) 63)).alloc (.cells (arr fun _ => 0) 63)) (fun _ => 0) (k:=w.heap.size + 1 + 1 + 1) (by simp)))
 have H0:=Lib.hid (below_four w (.cells (arr (dg a)) 63) (.cells (arr (dg b)) 63) (.cells (arr fun _ => 0) 63) (.cells (arr fun _ => 0) 63))
 go_enter Tryz.func22,Tryz.ntmps22
 go_wp2
 clear hz
 generalize (((w.alloc (.cells (arr (dg a)) 63)).alloc (.cells (arr (dg b)) 63)).alloc (.cells (arr fun _ => 0) 63)).alloc (.cells (arr fun _ => 0) 63) = w0 at *
 go_loopw [6] (fun i wr => ∃ k : Nat,k ≤ 10 ∧ i = .int .i64 k ∧ At wr w.heap.size (dg a) ∧ At wr (w.heap.size + 1) (dg b) ∧ At wr (w.heap.size + 1 + 1) (fun _ => 0) ∧ At wr (w.heap.size + 1 + 1 + 1) (dg (lw a k * b)) ∧ Below w.heap.size w wr) (fun i _ => 10 - (intOf i).toNat)
 case atStart => exact ⟨0,by omega,rfl,HA.out,HB.out,HR.out,HO.out.congr fun i _ => lw_none a b i,H0.out⟩
 case round =>
   clear HA HB HR HO H0
   obtain ⟨i,hi,rfl,hA,hB,hR,hO,hb⟩:=hrel
   have HA:=Lib.hid hA; have HB:=Lib.hid hB; have HR:=Lib.hid hR; have HO:=Lib.hid hO; have H0:=Lib.hid hb
   clear hA hB hR hO hb
   obtain ⟨wo,rfl⟩ : ∃ wo : World,wo = wr:=⟨_,rfl⟩
   by_cases hlt : i < 10
   · have hi0 : (0 : Int) ≤ (i : Int):=by omega
     have hi1 : (i : Int) < 10:=by omega
     go_wp2
     go_loopw [7,8] (fun c q wr => ∃ k : Nat,i + k ≤ 10 ∧ q = .int .i64 k ∧ c = .int .i64 (cm a b i k) ∧ At wr w.heap.size (dg a) ∧ At wr (w.heap.size + 1) (dg b) ∧ At wr (w.heap.size + 1 + 1) (fun _ => 0) ∧ At wr (w.heap.size + 1 + 1 + 1) (mulF a b i k) ∧ Below w.heap.size w wr) (fun _ q _ => 10 - (intOf q).toNat)
     case atStart => exact ⟨0,by omega,rfl,by rw [cm_zero],HA.out,HB.out,HR.out,HO.out.congr fun j _ => mulF_zero a b i j,H0.out⟩
     case round =>
       clear HA HB HR HO H0
       obtain ⟨k,hk,rfl,rfl,hA,hB,hR,hO,hb⟩:=hrel
       have HA:=Lib.hid hA; have HB:=Lib.hid hB; have HR:=Lib.hid hR; have HO:=Lib.hid hO; have H0:=Lib.hid hb
       clear hA hB hR hO hb
       by_cases hkt : i + k < 10
       · have ca:=HA.out.cell hlt
         have cb:=HB.out.cell (show k < 10 by omega)
         have co:=HO.out.cell hkt
         rw [mulF_here] at co
         have fo:=HO.out.frozen (i + k)
         have S1:=Lib.hid (mul_dig a b i k)
         have S2:=Lib.hid (mul_carry a b i k)
         have r1:=dg_range a i
         have r2:=dg_range b k
         have r4:=dg_range (lw a i * b) (i + k)
         have r3:=cm_range a b i k
         have i0 : (0 : Int) ≤ (k : Int):=by omega
         have i1 : (k : Int) < 10:=by omega
         have i2 : (i : Int) + (k : Int) < 10:=by omega
         have i3 : (0 : Int) ≤ (i : Int) + (k : Int):=by omega
         have hxy:=prod_range r1 r2
         generalize dg a i = x at *
         generalize dg b k = y at *
         generalize dg (lw a i * b) (i + k) = z at *
         generalize cm a b i k = c at *
         have e1 : wrap64 (wrap64 (z + wrap64 (x * y)) + c) = z + x * y + c:=by
           generalize x * y = p at hxy
           unfold wrap64; omega
         obtain ⟨N,hN⟩ : ∃ N,z + x * y + c = N:=⟨_,rfl⟩
         have hN0 : 0 ≤ N ∧ N ≤ 4295032832:=by
           generalize x * y = p at hxy hN
           omega
         rw [hN] at e1 S1 S2
         have E1:=Lib.hid e1
         clear e1 hN hxy
         go_wp2
         go_quiet (fail)
         rw [E1.out]
         go_wp2
         go_roundw
         case rel =>
           refine ⟨k + 1,by omega,by go_num,by rw [S2.out],((HA.out.draw _).other (by omega) _ _),((HB.out.draw _).other (by omega) _ _),((HR.out.draw _).other (by omega) _ _),((HO.out.draw _).set _ _).congr fun j _ => mulF_succ _ _ _ _ _ S1.out j,(Go.below_drewN H0.out _).setCell (by simp; omega) _⟩
         case measure => simp [intOf]; omega
       · have hik : i + k = 10:=by omega
         have HO2:=Lib.hid (HO.out.congr fun j hj => mulF_all a b i k hik j hj)
         clear HO
         have hge : (10 : Int) ≤ (i : Int) + (k : Int):=by omega
         go_wp2
         go_roundw
         case rel =>
           exact ⟨i + 1,by omega,by go_num,HA.out,HB.out,HR.out,HO2.out,H0.out⟩
         case measure => simp [intOf]; omega
   · obtain rfl : i = 10:=by omega
     have HO2:=Lib.hid (HO.out.congr fun j hj => dg_lw a b 10 j hj)
     clear HO
     go_wp2_with (first | (refine wpList_load_row rfl 63 (.tmp 5) rfl (w.heap.size + 1 + 1 + 1) rfl 63 _ _ _ HO2.out Tryz.underlying63 rfl (by rw [arr_size]; exact info30) ?_) | (refine wpList_store_row rfl 63 (.tmp 4) (.tmp 43) rfl (w.heap.size + 1 + 1) (arr (dg (a * b))) rfl rfl 63 _ HR.out (by rw [arr_size]; exact info30) (by rw [arr_size,arr_size]) (arr_one _) ?_))
     refine bodyPost_ret (v:=.agg (arr (dg (a * b)))) (results_cell_row rfl _ _ (w.heap.size + 1 + 1) 63 _ _ _ rfl (HR.out.row _) Tryz.underlying63 rfl (by rw [arr_size]; exact info30)) rfl ⟨rfl,?_⟩
     exact below_row H0.out (by omega) _
end Go.Proofs.YtejaocnhekjfiaaGreatDoor.S02
namespace Go.Proofs.YtejaocnhekjfiaaGreatDoor
open Go.RowKit
set_option linter.unusedVariables false
def ocells (l : List OpI) : List Value:=l.flatMap fun o => [.int .i64 o.kind,.int .i64 o.h,.int .i64 o.o,.int .u64 o.key,.int .i64 o.d]
theorem ocells_append (l m : List OpI) : ocells (l ++ m) = ocells l ++ ocells m:=by simp [ocells]
theorem info42 : (Tryz.prog.info? 42).map (fun i => (i.zero,i.size,i.bytes)) = some (some (.agg #[.int .i64 0,.int .i64 0,.int .i64 0,.int .u64 0,.int .i64 0]),5,40):=by kernel_rfl
theorem news_o (W : World) (o : OpI) : ∀ j u,(ocells [o])[j]? = some u → (W.alloc (.cells #[.int .i64 o.kind,.int .i64 o.h,.int .i64 o.o,.int .u64 o.key,.int .i64 o.d] 42)).cell? ((⟨W.heap.size,0,none⟩ : Addr).add j) = some u:=by
 intro j u hj
 have hn:=heap_alloc_new W (.cells #[.int .i64 o.kind,.int .i64 o.h,.int .i64 o.o,.int .u64 o.key,.int .i64 o.d] 42)
 rw [Addr.add_mid,cell_of_row _ _ _ _ _ _ hn,Nat.zero_add]
 match j,hj with
 | 0,hj => simp [ocells] at hj; subst hj; rfl
 | 1,hj => simp [ocells] at hj; subst hj; rfl
 | 2,hj => simp [ocells] at hj; subst hj; rfl
 | 3,hj => simp [ocells] at hj; subst hj; rfl
 | 4,hj => simp [ocells] at hj; subst hj; rfl
theorem ocells_one (l : List OpI) : ∀ u ∈ ocells l,u.oneCell' = true:=fun u hu => by
 simp only [ocells,List.mem_flatMap] at hu
 obtain ⟨p,_,hp⟩:=hu
 simp only [List.mem_cons,List.not_mem_nil,or_false] at hp
 rcases hp with rfl | rfl | rfl | rfl | rfl <;> rfl
theorem ocells_get : ∀ (l : List OpI) (k : Nat) (o : OpI),l[k]? = some o → ∀ j,j < 5 → (ocells l)[k * 5 + j]? = [Value.int .i64 o.kind,.int .i64 o.h,.int .i64 o.o,.int .u64 o.key,.int .i64 o.d][j]?
 | [],k,o,h => by simp at h
 | q :: l,0,o,h => by
   obtain rfl : q = o:=by simpa using h
   intro j hj
   have e : ocells (q :: l) = [.int .i64 q.kind,.int .i64 q.h,.int .i64 q.o,.int .u64 q.key,.int .i64 q.d] ++ ocells l:=rfl
   rw [e,Nat.zero_mul,Nat.zero_add,List.getElem?_append_left (by simpa using hj)]
 | q :: l,k + 1,o,h => by
   intro j hj
   have e : ocells (q :: l) = [.int .i64 q.kind,.int .i64 q.h,.int .i64 q.o,.int .u64 q.key,.int .i64 q.d] ++ ocells l:=rfl
   rw [e,List.getElem?_append_right (by simp; omega),← ocells_get l k o (by simpa using h) j hj]
   congr 1
   simp; omega
theorem opsAt_own {w : World} {base : Nat} {v : Value} {l : List OpI} (h : w.ownsRow base 42 5 v l.length (ocells l)) : ∃ p cap,v = .slice p l.length cap ∧ OpsAt w p l:=by
 have h0:=h
 rcases h.2 with ⟨rfl,e0⟩ | ⟨g,cap,cur,rfl,_⟩
 · refine ⟨none,0,by rw [e0],fun i o ho => ?_⟩
   have:=(List.getElem?_eq_some_iff.1 ho).1
   omega
 · refine ⟨_,cap,rfl,fun i o ho => ?_⟩
   have hi:=(List.getElem?_eq_some_iff.1 ho).1
   obtain ⟨g',e1,_,hc⟩:=owns_cell h0 (by omega)
   simp only [Option.some.injEq,Addr.mk.injEq,and_true] at e1
   subst e1
   have q:=fun j hj => ocells_get l i o ho j hj
   have c0:=hc _ _ (q 0 (by decide))
   have c1:=hc _ _ (q 1 (by decide))
   have c2:=hc _ _ (q 2 (by decide))
   have c3:=hc _ _ (q 3 (by decide))
   have c4:=hc _ _ (q 4 (by decide))
   refine ⟨g,0,rfl,c0.1,?_,?_,?_,?_,?_⟩
   · rw [Nat.zero_add]; exact c0.2
   · rw [Nat.zero_add]; exact c1.2
   · rw [Nat.zero_add]; exact c2.2
   · rw [Nat.zero_add]; exact c3.2
   · rw [Nat.zero_add]; exact c4.2
def cutOp (o : OpI) : OpI:={ o with d:=o.d.tmod 16384 }
theorem cut_take {l : List OpI} {n : Nat} {o : OpI} (h : l[n]? = some o) : (l.take (n + 1)).map cutOp = (l.take n).map cutOp ++ [cutOp o]:=by rw [take_succ h]; simp
def slc (f : Nat → Value) : Array Value:=((List.range 64).map f).toArray
theorem slc_get (f : Nat → Value) (i : Nat) (h : i < 64) : (slc f)[i]? = some (f i):=by simp [slc,h]
theorem slc_set (f : Nat → Value) (k : Nat) (v : Value) : (slc f).setIfInBounds k v = slc (fun i => if i = k then v else f i):=by
 apply Array.ext'
 simp only [slc,Array.toList_setIfInBounds]
 apply List.ext_getElem?
 intro i
 rw [List.getElem?_set]
 by_cases hi : i < 64
 · by_cases e : k = i
   · subst e; simp [hi]
   · rw [if_neg e]; simp [hi,show ¬ i = k from fun h => e h.symm]
 · split <;> simp [hi]; omega
theorem zero60 (w : World) : (zeroValue 60).run Tryz.prog w = .ok (.agg (slc fun _ => .slice none 0 0)) w:=by kernel_rfl
def w80 (f : Nat → Int) : Array Value:=((List.range 80).map fun i => Value.int .i64 (f i)).toArray
theorem zero64 (w : World) : (zeroValue 64).run Tryz.prog w = .ok (.agg (w80 fun _ => 0)) w:=by kernel_rfl
theorem w80_get (f : Nat → Int) (i : Nat) (h : i < 80) : (w80 f)[i]? = some (.int .i64 (f i)):=by simp [w80,h]
def lc (v : Int) : List Value:=(S02.arr (S02.dg v)).toList
theorem lc_len (v : Int) : (lc v).length = 10:=by simp [lc,S02.arr]
theorem lc_arr (v : Int) : (lc v).toArray = S02.arr (S02.dg v):=by simp [lc]
theorem lc_get (v : Int) {j : Nat} (h : j < 10) : (lc v)[j]? = some (.int .i64 (S02.dg v j)):=by simp [lc,S02.arr,h]
theorem zero_rows (W : World) : ∀ r,r < 8 → (W.alloc (.cells (w80 fun _ => 0) 64)).rangeAt W.heap.size (r * 10) (lc 0) ∧ (W.alloc (.cells (w80 fun _ => 0) 64)).there W.heap.size (r * 10) 10:=fun r hr => by
 have hn:=heap_alloc_new W (.cells (w80 fun _ => 0) 64)
 have hc : ∀ j,j < 10 → (W.alloc (.cells (w80 fun _ => 0) 64)).cell? ⟨W.heap.size,r * 10 + j,none⟩ = some (.int .i64 0):=fun j hj => by
   rw [cell_of_row _ _ _ _ _ _ hn,w80_get _ _ (by omega)]
 refine ⟨fun j v hv => ?_,fun j hj => ⟨by rw [hc j hj]; rfl,frozen_of_row _ _ _ _ _ hn⟩⟩
 have hj : j < 10:=by rw [← lc_len 0]; exact (List.getElem?_eq_some_iff.1 hv).1
 rw [hc j hj]
 rw [lc_get 0 hj] at hv
 rw [← hv]
 have : S02.dg 0 j = 0:=by unfold S02.dg; simp
 rw [this]
theorem range_below {B : Nat} {w w' : World} {b o : Nat} {cs : List Value} (h : w.rangeAt b o cs) (hb : Below B w w') (hlt : b < B) : w'.rangeAt b o cs:=fun j v hv => (hb.cell (p:=⟨b,o + j,none⟩) hlt).trans (h j v hv)
theorem below_setCells {B : Nat} {u : World} (b : Nat) (hb : B ≤ b) : ∀ (vs : List Value) (o : Nat) (w : World),Below B u w → Below B u (w.setCells b o vs)
 | [],_,_,h => h
 | v :: r,o,w,h => by rw [World.setCells]; exact below_setCells b hb r (o + 1) _ (h.setCell (p:=⟨b,o,none⟩) hb v)
theorem at_range {w : World} {k : Nat} {v : Int} (h : S02.At w k (S02.dg v)) : w.rangeAt k 0 (lc v):=fun j u hu => by
 have hj : j < 10:=by rw [← lc_len v]; exact (List.getElem?_eq_some_iff.1 hu).1
 rw [Nat.zero_add,h.cell hj,← lc_get v hj,hu]
end Go.Proofs.YtejaocnhekjfiaaGreatDoor
namespace Go.Proofs.YtejaocnhekjfiaaGreatDoor
open Go.RowKit S02
set_option linter.unusedVariables false
theorem sm_sg : ∀ (l : List Int),sm l = sg (fun p => l.getD p 0) l.length
 | [] => rfl
 | x :: xs => by
   have ih:=sm_sg xs
   have e : ∀ n,sg (fun p => (x :: xs).getD p 0) (n + 1) = x + sg (fun p => xs.getD p 0) n:=fun n => by
     induction n with
     | zero => simp [sg]
     | succ n ihn =>
       rw [sg,ihn,sg]
       have : (x :: xs).getD (n + 1) 0 = xs.getD n 0:=by simp
       rw [this]; omega
   rw [List.length_cons,e,sm,ih]
theorem dot_sg {xs ys : List Int} {W : Nat} (hx : xs.length = W) (hy : ys.length = W) : dotS xs ys = sg (fun p => xs.getD p 0 * ys.getD p 0) W:=by
 unfold dotS
 rw [sm_sg,List.length_zipWith,hx,hy,Nat.min_self]
 exact sg_congr fun p hp => getD_zip (· * ·) rfl (hx.trans hy.symm) p
theorem rowL_getD {W R : Nat} {zs : List Int} (hl : zs.length = R * W) {r p : Nat} (hr : r < R) (hp : p < W) : (rowL W zs r).getD p 0 = zs.getD (r * W + p) 0:=by
 unfold rowL
 rw [List.getD_eq_getElem?_getD,List.getD_eq_getElem?_getD,List.getElem?_take,if_pos hp,List.getElem?_drop]
theorem rowL_len {W R : Nat} {zs : List Int} (hl : zs.length = R * W) {r : Nat} (hr : r < R) : (rowL W zs r).length = W:=by
 unfold rowL
 rw [List.length_take,List.length_drop,hl]
 have : (r + 1) * W ≤ R * W:=Nat.mul_le_mul_right _ hr
 rw [Nat.add_mul,Nat.one_mul] at this
 omega
def tS (c : Cfg) (F G : List Int) (r i k : Nat) : Int:=sg (fun j => if i ≠ j ∧ c.col 0 r i = c.col 0 r j then F.getD i 0 * G.getD j 0 else 0) k
def oS (c : Cfg) (F G : List Int) (r i : Nat) : Int:=sg (fun j => tS c F G r j 64) i
def ownS (F G : List Int) (i : Nat) : Int:=sg (fun j => F.getD j 0 * G.getD j 0) i
def lst (f : Nat → Int) : Nat → Int
 | 0 => f 0
 | 1 => f 0
 | n + 2 => if f (n + 1) < lst f (n + 1) then f (n + 1) else lst f (n + 1)
theorem lst_succ (f : Nat → Int) {n : Nat} (h : 1 ≤ n) : lst f (n + 1) = if f n < lst f n then f n else lst f n:=by
 obtain ⟨m,rfl⟩ : ∃ m,n = m + 1:=⟨n - 1,by omega⟩
 rfl
theorem cell0 {c : Cfg} (h6 : c.bits = 6) (hx : c.exact 0 = false) {r p : Nat} (hp : p < c.width) (F : List Int) : cellOf c 0 F (r * c.width + p) = sg (fun k => if c.col 0 r k = p then F.getD k 0 else 0) 64:=by
 obtain ⟨h1,h2⟩:=(divmod_iff (p:=r * c.width + p) (show 0 < c.width by omega) hp).1 rfl
 unfold cellOf
 rw [h6]
 refine sg_congr fun k _ => ?_
 have hh : hit c 0 k (r * c.width + p) = decide (c.col 0 r k = p):=by
   unfold hit
   rw [hx,if_neg Bool.false_ne_true,h1,h2,Nat.pow_zero,Nat.div_one]
 rw [hh]
 by_cases e : c.col 0 r k = p
 · rw [if_pos (by simpa using e),if_pos e]
 · rw [if_neg (by simpa using e),if_neg e]
theorem row_dot {c : Cfg} (hc : c.ok) (h6 : c.bits = 6) (hx : c.exact 0 = false) (F G : List Int) {r : Nat} (hr : r < c.rows) :
   dotS (rowL c.width (cellsOf c 0 F) r) (rowL c.width (cellsOf c 0 G) r) = ownS F G 64 + oS c F G r 64:=by
 obtain ⟨e1,e2⟩:=RW_sk hx
 have hl : ∀ F,(cellsOf c 0 F).length = c.rows * c.width:=fun F => by rw [cellsOf_len,e1,e2]
 have hlt : ∀ p,p < c.width → r * c.width + p < c.rows * c.width:=fun p hp => by
   have : (r + 1) * c.width ≤ c.rows * c.width:=Nat.mul_le_mul_right _ hr
   rw [Nat.add_mul,Nat.one_mul] at this
   omega
 rw [dot_sg (rowL_len (hl F) hr) (rowL_len (hl G) hr)]
 have s1 : sg (fun p => (rowL c.width (cellsOf c 0 F) r).getD p 0 * (rowL c.width (cellsOf c 0 G) r).getD p 0) c.width = sg (fun p => sg (fun i => if c.col 0 r i = p then F.getD i 0 else 0) 64 * sg (fun k => if c.col 0 r k = p then G.getD k 0 else 0) 64) c.width:=sg_congr fun p hp => by
   have hp2 : r * c.width + p < c.R 0 * c.W 0:=by rw [e1,e2]; exact hlt p hp
   rw [rowL_getD (hl F) hr hp,rowL_getD (hl G) hr hp,cellsOf_getD c 0 F _ hp2,cellsOf_getD c 0 G _ hp2,cell0 h6 hx hp,cell0 h6 hx hp]
 rw [s1,sg_group (fun k => G.getD k 0) (fun k => c.col 0 r k) (fun p => sg (fun i => if c.col 0 r i = p then F.getD i 0 else 0) 64) c.width 64 (fun k _ => c.col_lt hc 0 r k)]
 have s2 : sg (fun k => sg (fun i => if c.col 0 r i = c.col 0 r k then F.getD i 0 else 0) 64 * G.getD k 0) 64 = sg (fun k => sg (fun i => if c.col 0 r i = c.col 0 r k then F.getD i 0 * G.getD k 0 else 0) 64) 64:=sg_congr fun k _ => by
   rw [← sg_mul']
   exact sg_congr fun i _ => by split <;> simp
 rw [s2,sg_swap]
 unfold ownS oS
 rw [← sg_add]
 refine sg_congr fun i hi => ?_
 have h0:=sg_term (f:=fun k => if c.col 0 r i = c.col 0 r k then F.getD i 0 * G.getD k 0 else 0) hi
 rw [h0,if_pos rfl]
 refine congrArg (fun z => F.getD i 0 * G.getD i 0 + z) (sg_congr fun k _ => ?_)
 by_cases e : k = i
 · subst e; rw [if_pos rfl,if_neg (fun h => h.1 rfl)]
 · rw [if_neg e]
   by_cases e2 : c.col 0 r i = c.col 0 r k
   · rw [if_pos e2,if_pos ⟨fun e3 => e e3.symm,e2⟩]
   · rw [if_neg e2,if_neg (fun h => e2 h.2)]
theorem least_lst {c : Cfg} (hc : c.ok) (h6 : c.bits = 6) (hx : c.exact 0 = false) (F G : List Int) : ∀ n,n + 1 ≤ c.rows → leastK c.width (cellsOf c 0 F) (cellsOf c 0 G) (n + 1) = ownS F G 64 + lst (fun r => oS c F G r 64) (n + 1)
 | 0,h => by
   rw [leastK,if_pos (.inl rfl),row_dot (r:=0) hc h6 hx F G (by omega)]; rfl
 | n + 1,h => by
   have ih:=least_lst hc h6 hx F G n (by omega)
   rw [leastK,ih,row_dot (r:=n + 1) hc h6 hx F G (by omega),lst_succ (n:=n + 1) _ (by omega)]
   by_cases e : oS c F G (n + 1) 64 < lst (fun r => oS c F G r 64) (n + 1)
   · rw [if_pos (.inr (by omega)),if_pos e]
   · rw [if_neg (by omega),if_neg e]
theorem inner_sketch {c : Cfg} (hc : c.ok) (h6 : c.bits = 6) (hx : c.exact 0 = false) (F G : List Int) : innL c 0 (cellsOf c 0 F) (cellsOf c 0 G) = ownS F G 64 + lst (fun r => oS c F G r 64) c.rows:=by
 have hr:=hc.r1
 obtain ⟨n,hn⟩ : ∃ n,c.rows = n + 1:=⟨c.rows - 1,by omega⟩
 unfold innL
 rw [if_neg (by rw [hx]; decide)]
 have:=least_lst hc h6 hx F G n (by omega)
 rw [← hn] at this
 exact this
theorem inner_exact {c : Cfg} (h6 : c.bits = 6) (hx : c.exact 0 = true) (F G : List Int) : innL c 0 (cellsOf c 0 F) (cellsOf c 0 G) = ownS F G 64:=by
 obtain ⟨e1,e2⟩:=RW_ex hx
 have hl : ∀ F,(cellsOf c 0 F).length = 64:=fun F => by rw [cellsOf_len,e1,e2,h6]
 unfold innL
 rw [if_pos hx,dot_sg (hl F) (hl G)]
 refine sg_congr fun p hp => ?_
 have hc : ∀ F : List Int,(cellsOf c 0 F).getD p 0 = F.getD p 0:=fun F => by
   rw [cellsOf_getD c 0 F p (by rw [e1,e2,h6]; exact hp)]
   unfold cellOf
   rw [h6]
   have e : sg (fun k => if hit c 0 k p = true then F.getD k 0 else 0) (2 ^ 6) = sg (fun k => if k = p then F.getD p 0 else 0) 64:=sg_congr fun k _ => by
     have hh : hit c 0 k p = decide (k = p):=by unfold hit; rw [if_pos hx,Nat.pow_zero,Nat.div_one]
     rw [hh]
     by_cases e : k = p
     · subst e; rw [if_pos (by simp),if_pos rfl]
     · rw [if_neg (by simpa using e),if_neg e]
   rw [e,sg_one,if_pos hp]
 rw [hc,hc]
theorem mul_fit {a b A : Int} (ha : -A ≤ a ∧ a ≤ A) (hb : -A ≤ b ∧ b ≤ A) (hA : 0 ≤ A) : -(A * A) ≤ a * b ∧ a * b ≤ A * A:=by
 have h1 : (a * b).natAbs ≤ (A * A).natAbs:=by
   rw [Int.natAbs_mul,Int.natAbs_mul]
   exact Nat.mul_le_mul (by omega) (by omega)
 have h2 : 0 ≤ A * A:=Int.mul_nonneg hA hA
 omega
theorem dotK_fit {xs ys : List Int} {A : Int} (hx : FitL A xs) (hy : FitL A ys) (hA : 0 ≤ A) : ∀ k : Nat,-((k : Int) * (A * A)) ≤ dotK xs ys k ∧ dotK xs ys k ≤ (k : Int) * (A * A)
 | 0 => by simp [dotK,sm]
 | k + 1 => by
   have ih:=dotK_fit hx hy hA k
   have hAA : 0 ≤ A * A:=Int.mul_nonneg hA hA
   have e : ((k + 1 : Nat) : Int) * (A * A) = (k : Int) * (A * A) + A * A:=by push_cast; rw [Int.add_mul,Int.one_mul]
   cases h1 : xs[k]? with
   | none =>
     have : dotK xs ys (k + 1) = dotK xs ys k:=by
       unfold dotK
       have hl : (List.zipWith (· * ·) xs ys).length ≤ k:=by
         rw [List.length_zipWith]; have:=List.getElem?_eq_none_iff.1 h1; omega
       rw [List.take_of_length_le hl,List.take_of_length_le (by omega)]
     rw [this,e]; omega
   | some x =>
     cases h2 : ys[k]? with
     | none =>
       have : dotK xs ys (k + 1) = dotK xs ys k:=by
         unfold dotK
         have hl : (List.zipWith (· * ·) xs ys).length ≤ k:=by
           rw [List.length_zipWith]; have:=List.getElem?_eq_none_iff.1 h2; omega
         rw [List.take_of_length_le hl,List.take_of_length_le (by omega)]
       rw [this,e]; omega
     | some y =>
       rw [dotK_succ h1 h2,e]
       have:=mul_fit (hx x (List.mem_of_getElem? h1)) (hy y (List.mem_of_getElem? h2)) hA
       omega
theorem rowL_fit {W : Nat} {zs : List Int} {A : Int} (h : FitL A zs) (r : Nat) : FitL A (rowL W zs r):=fun x hx => h x (List.mem_of_mem_drop (List.mem_of_mem_take hx))
theorem inn_fits {c : Cfg} (hc : c.ok) {xs ys : List Int} (hx : FitL 549755813888 xs) (hy : FitL 549755813888 ys) (hl : xs.length ≤ 1024) : InnFits c 0 xs ys:=by
 unfold InnFits
 have hw:=hc.w8
 split
 · intro k hk
   have:=dotK_fit hx hy (by decide) k
   unfold Fits
   have h1 : (k : Int) * (549755813888 * 549755813888) ≤ 1024 * (549755813888 * 549755813888):=Int.mul_le_mul_of_nonneg_right (by omega) (by decide)
   omega
 · intro r hr k hk
   have:=dotK_fit (rowL_fit (W:=c.width) hx r) (rowL_fit (W:=c.width) hy r) (by decide) k
   unfold Fits
   have h1 : (k : Int) * (549755813888 * 549755813888) ≤ 1024 * (549755813888 * 549755813888):=Int.mul_le_mul_of_nonneg_right (by omega) (by decide)
   omega
theorem least_fit {c : Cfg} (hc : c.ok) {xs ys : List Int} (hx : FitL 549755813888 xs) (hy : FitL 549755813888 ys) : ∀ n,-(1024 * (549755813888 * 549755813888)) ≤ leastK c.width xs ys n ∧ leastK c.width xs ys n ≤ 1024 * (549755813888 * 549755813888)
 | 0 => by rw [leastK]; decide
 | n + 1 => by
   have ih:=least_fit hc hx hy n
   have hw:=hc.w8
   have h0 : dotS (rowL c.width xs n) (rowL c.width ys n) = dotK (rowL c.width xs n) (rowL c.width ys n) c.width:=by
     unfold dotS dotK
     rw [List.take_of_length_le]
     rw [List.length_zipWith]
     have : (rowL c.width xs n).length ≤ c.width:=by unfold rowL; exact List.length_take_le _ _
     omega
   have h1:=dotK_fit (rowL_fit (W:=c.width) hx n) (rowL_fit (W:=c.width) hy n) (by decide) c.width
   have h2 : (c.width : Int) * (549755813888 * 549755813888) ≤ 1024 * (549755813888 * 549755813888):=Int.mul_le_mul_of_nonneg_right (by omega) (by decide)
   rw [leastK,h0]
   split <;> omega
theorem inn_fit {c : Cfg} (hc : c.ok) {xs ys : List Int} (hx : FitL 549755813888 xs) (hy : FitL 549755813888 ys) (hl : xs.length ≤ 1024) : Fits (innL c 0 xs ys):=by
 unfold innL
 split
 · have h0 : dotS xs ys = dotK xs ys xs.length:=by
     unfold dotS dotK
     rw [List.take_of_length_le]
     rw [List.length_zipWith]; omega
   have h1:=dotK_fit hx hy (by decide) xs.length
   have h2 : (xs.length : Int) * (549755813888 * 549755813888) ≤ 1024 * (549755813888 * 549755813888):=Int.mul_le_mul_of_nonneg_right (by omega) (by decide)
   rw [h0]; unfold Fits; omega
 · have:=least_fit hc hx hy c.rows
   unfold Fits; omega
end Go.Proofs.YtejaocnhekjfiaaGreatDoor
namespace Go.Proofs.YtejaocnhekjfiaaGreatDoor
open Go.RowKit
set_option linter.unusedVariables false
theorem belowN {B : Nat} {w w' : World} (h : Below B w w') (n : Nat) : Below B w (w'.drewN n):=⟨h.os,h.tape,h.output,h.size,h.block⟩
theorem cI_get {cols : List Nat} {i k : Nat} (h : cols[i]? = some k) : (cI cols)[i]? = some (k : Int):=by unfold cI; rw [List.getElem?_map,h]; rfl
theorem colsN_get (c : Cfg) (n key row : Nat) (h : row < c.rows) : (colsN c n key)[row]? = some (c.col n row key):=by
 unfold colsN; rw [List.getElem?_map,List.getElem?_range h]; rfl
end Go.Proofs.YtejaocnhekjfiaaGreatDoor
namespace Go.Proofs.YtejaocnhekjfiaaGreatDoor
open Go.RowKit
set_option linter.unusedVariables false
theorem columns0 (c : Cfg) (hc : c.ok) (h6 : c.bits = 6) (key : Nat) (hk : key < 64) (w : World) : Calls Tryz.prog 21 #[cfgV c,.int .i64 0,.int .u64 key] w (NewColsN c 0 key w):=
 columnsN_ok c hc 0 key (Nat.zero_le _) (by rw [h6]; exact hk) w
def ColsAt (c : Cfg) (kb n : Nat) (w : World) : Prop:=∃ g : Nat → Nat,
 w.heap[kb]? = some (.cells (slc fun j => if j < n then .slice (some ⟨g j,0,none⟩) c.rows c.rows else .slice none 0 0) 60 (0,0)) ∧ ∀ j,j < n → kb < g j ∧ ColsI w (g j) (cI (colsN c 0 j))
theorem ColsAt.zero (c : Cfg) (w : World) : ColsAt c w.heap.size 0 (w.alloc (.cells (slc fun _ => .slice none 0 0) 60)):=
 ⟨fun _ => 0,heap_alloc_new w _,fun j h => absurd h (Nat.not_lt_zero _)⟩
theorem ColsI.apart {w : World} {g kb i : Nat} {zs : List Int} (h : ColsI w g zs) (hk : g ≠ kb) (v : Value) : ColsI (w.setCell ⟨kb,i,none⟩ v) g zs:=by
 obtain ⟨rest,hh⟩:=h.row; exact ⟨rest,(heap_setCell_other _ _ _ _ hk).trans hh⟩
theorem ColsAt.step {c : Cfg} {kb n : Nat} {w w' : World} {g : Nat} (h : ColsAt c kb n w) (hn : n < 64) (hb : Below w.heap.size w w') (hg : w.heap.size ≤ g) (hc : ColsI w' g (cI (colsN c 0 n))) :
   ColsAt c kb (n + 1) (w'.setCell ⟨kb,n,none⟩ (.slice (some ⟨g,0,none⟩) c.rows c.rows)):=by
 obtain ⟨f,h1,h2⟩:=h
 have hkb:=lt_of_block h1
 have h1':=(hb.block kb hkb).trans h1
 refine ⟨fun j => if j = n then g else f j,?_,fun j hj => ?_⟩
 · rw [heap_setCell_same _ _ _ _ _ _ h1',slc_set]
   congr 3
   funext j
   by_cases e : j = n
   · subst e; simp
   · simp only [if_neg e]
     by_cases h3 : j < n
     · rw [if_pos h3,if_pos (by omega)]
     · rw [if_neg h3,if_neg (by omega)]
 · by_cases e : j = n
   · subst e
     simp only [if_pos]
     exact ⟨by omega,hc.apart (by omega) _⟩
   · simp only [if_neg e]
     obtain ⟨h3,h4⟩:=h2 j (by omega)
     exact ⟨h3,(h4.below hb).apart (by omega) _⟩
theorem ColsAt.cell {c : Cfg} {kb n : Nat} {w : World} (h : ColsAt c kb n w) (hn : n < 64) : w.cell? ⟨kb,n,none⟩ = some (.slice none 0 0) ∧ w.frozen? ⟨kb,n,none⟩ = false:=by
 obtain ⟨f,h1,h2⟩:=h
 refine ⟨?_,frozen_of_row _ _ _ _ _ h1⟩
 rw [cell_of_row _ _ _ _ _ _ h1,slc_get _ _ hn,if_neg (Nat.lt_irrefl _)]
theorem ColsAt.lt {c : Cfg} {kb n : Nat} {w : World} (h : ColsAt c kb n w) : kb < w.heap.size:=by obtain ⟨f,h1,h2⟩:=h; exact lt_of_block h1
theorem ColsAt.got {c : Cfg} {kb n i : Nat} {w : World} (h : ColsAt c kb n w) (hi : i < n) (hn : n ≤ 64) : ∃ g,w.cell? ⟨kb,i,none⟩ = some (.slice (some ⟨g,0,none⟩) c.rows c.rows):=by
 obtain ⟨f,h1,h2⟩:=h
 refine ⟨f i,?_⟩
 rw [cell_of_row _ _ _ _ _ _ h1,slc_get _ _ (by omega),if_pos hi]
theorem ColsAt.all {c : Cfg} {kb : Nat} {w : World} (h : ColsAt c kb 64 w) : ∃ g : Nat → Nat,∀ w',Below w.heap.size w w' → ∀ i,i < 64 →
   w'.cell? ⟨kb,i,none⟩ = some (.slice (some ⟨g i,0,none⟩) c.rows c.rows) ∧ ∀ r,r < c.rows → w'.cell? ⟨g i,r,none⟩ = some (.int .i64 (c.col 0 r i)):=by
 obtain ⟨f,h1,h2⟩:=h
 refine ⟨f,fun w' hb i hi => ⟨?_,fun r hr => ?_⟩⟩
 · rw [cell_of_row _ _ _ _ _ _ ((hb.block kb (lt_of_block h1)).trans h1),slc_get _ _ hi,if_pos hi]
 · exact ((h2 i hi).2.below hb).cell (cI_get (colsN_get c 0 i r hr))
theorem ColsAt.drewN {c : Cfg} {kb n : Nat} {w : World} (h : ColsAt c kb n w) (m : Nat) : ColsAt c kb n (w.drewN m):=by
 obtain ⟨f,h1,h2⟩:=h
 exact ⟨f,h1,fun j hj => ⟨(h2 j hj).1,by obtain ⟨rest,hh⟩:=(h2 j hj).2.row; exact ⟨rest,hh⟩⟩⟩
def OthAt (R : Nat) (f : Nat → Int) (kb : Nat) (w : World) : Prop:=kb < w.heap.size ∧ ∀ r,r < R → w.rangeAt kb (r * 10) (lc (f r)) ∧ w.there kb (r * 10) 10
theorem OthAt.zero (w : World) {R : Nat} (hR : R ≤ 8) : OthAt R (fun _ => 0) w.heap.size (w.alloc (.cells (w80 fun _ => 0) 64)):=⟨by simp,fun r hr => zero_rows w r (by omega)⟩
theorem OthAt.congr {R : Nat} {f g : Nat → Int} {kb : Nat} {w : World} (h : OthAt R f kb w) (e : ∀ r,r < R → f r = g r) : OthAt R g kb w:=⟨h.1,fun r hr => by rw [← e r hr]; exact h.2 r hr⟩
theorem OthAt.block {R : Nat} {f : Nat → Int} {kb : Nat} {w w' : World} (h : OthAt R f kb w) (e : w'.heap[kb]? = w.heap[kb]?) : OthAt R f kb w':=by
 have hl : kb < w'.heap.size:=by
   have h1 : w.heap[kb]? = some _:=Array.getElem?_eq_getElem h.1
   rw [h1] at e
   exact lt_of_block e
 refine ⟨hl,fun r hr => ⟨fun j v hv => (World.cell?_of_block (a:=⟨kb,r * 10 + j,none⟩) e).trans ((h.2 r hr).1 j v hv),fun j hj => ?_⟩⟩
 obtain ⟨h1,h2⟩:=(h.2 r hr).2 j hj
 exact ⟨by rw [World.cell?_of_block (a:=⟨kb,r * 10 + j,none⟩) e]; exact h1,(World.frozen?_of_block (a:=⟨kb,r * 10 + j,none⟩) e).trans h2⟩
theorem OthAt.drewN {R : Nat} {f : Nat → Int} {kb : Nat} {w : World} (h : OthAt R f kb w) (m : Nat) : OthAt R f kb (w.drewN m):=h.block rfl
theorem OthAt.below {R : Nat} {f : Nat → Int} {kb : Nat} {w w' : World} (h : OthAt R f kb w) (hb : Below w.heap.size w w') : OthAt R f kb w':=h.block (hb.block kb h.1)
theorem OthAt.row {R : Nat} {f : Nat → Int} {kb g : Nat} {w : World} (h : OthAt R f kb w) (hg : kb ≠ g) (cs : Array Value) : OthAt R f kb (w.setRow g cs):=h.block (setRow_other _ _ _ _ hg)
theorem size_setCells (b : Nat) : ∀ (vs : List Value) (o : Nat) (w : World),(w.setCells b o vs).heap.size = w.heap.size
 | [],_,_ => rfl
 | v :: r,o,w => by rw [World.setCells,size_setCells b r]; simp
theorem OthAt.set {R : Nat} {f : Nat → Int} {kb : Nat} {w : World} (h : OthAt R f kb w) (r : Nat) (v : Int) : OthAt R (fun q => if q = r then v else f q) kb (w.setCells kb (r * 10) (lc v)):=⟨by rw [size_setCells]; exact h.1,fun q hq => by
 refine ⟨?_,World.there_setCells (h.2 q hq).2 _ _ _⟩
 by_cases e : q = r
 · subst e
   simp only [if_pos]
   exact World.rangeAt_setCells_same _ _ _ _ (by rw [lc_len]; exact (h.2 q hq).2)
 · simp only [if_neg e]
   exact World.rangeAt_setCells_apart (h.2 q hq).1 _ _ _ (by rw [lc_len,lc_len]; omega)⟩
theorem At.cells {w : World} {k g : Nat} {f : Nat → Int} (h : S02.At w k f) (hk : k ≠ g) : ∀ (vs : List Value) (o : Nat),S02.At (w.setCells g o vs) k f:=fun vs => by
 induction vs generalizing w with
 | nil => intro o; exact h
 | cons v r ih => intro o; rw [World.setCells]; exact ih (h.other hk _ _) _
def oK (c : Cfg) (F G : List Int) (i k r : Nat) : Int:=oS c F G r i + tS c F G r i k
theorem oK_zero (c : Cfg) (F G : List Int) (r : Nat) : oK c F G 0 0 r = 0:=rfl
theorem oK_row (c : Cfg) (F G : List Int) (i r : Nat) : oK c F G (i + 1) 0 r = oK c F G i 64 r:=by
 unfold oK
 rw [show tS c F G r (i + 1) 0 = 0 from rfl,show oS c F G r (i + 1) = oS c F G r i + tS c F G r i 64 from rfl,Int.add_zero]
theorem oK_end (c : Cfg) (F G : List Int) (r : Nat) : oK c F G 64 0 r = oS c F G r 64:=by unfold oK; rw [show tS c F G r 64 0 = 0 from rfl,Int.add_zero]
theorem tS_step (c : Cfg) (F G : List Int) (i k r : Nat) : tS c F G r i (k + 1) = tS c F G r i k + (if i ≠ k ∧ c.col 0 r i = c.col 0 r k then F.getD i 0 * G.getD k 0 else 0):=rfl
theorem oK_same {c : Cfg} {F G : List Int} {i k r : Nat} (h : ¬ (i ≠ k ∧ c.col 0 r i = c.col 0 r k)) : oK c F G i (k + 1) r = oK c F G i k r:=by
 unfold oK; rw [tS_step,if_neg h,Int.add_zero]
theorem oK_add {c : Cfg} {F G : List Int} {i k r : Nat} (h : i ≠ k ∧ c.col 0 r i = c.col 0 r k) : oK c F G i (k + 1) r = oK c F G i k r + F.getD i 0 * G.getD k 0:=by
 unfold oK; rw [tS_step,if_pos h,Int.add_assoc]
theorem oK_none {c : Cfg} {F G : List Int} {i k r : Nat} (h : F.getD i 0 * G.getD k 0 = 0) : oK c F G i (k + 1) r = oK c F G i k r:=by
 unfold oK; rw [tS_step,h]; simp
def mixO (c : Cfg) (F G : List Int) (i k n r : Nat) : Int:=if r < n then oK c F G i (k + 1) r else oK c F G i k r
theorem mixO_zero (c : Cfg) (F G : List Int) (i k r : Nat) : mixO c F G i k 0 r = oK c F G i k r:=if_neg (Nat.not_lt_zero _)
theorem mixO_all {c : Cfg} {F G : List Int} {i k n r : Nat} (h : r < n) : mixO c F G i k n r = oK c F G i (k + 1) r:=if_pos h
theorem mixO_here (c : Cfg) (F G : List Int) (i k n : Nat) : mixO c F G i k n n = oK c F G i k n:=if_neg (Nat.lt_irrefl _)
theorem mixO_step (c : Cfg) (F G : List Int) (i k n : Nat) (r : Nat) : (if r = n then oK c F G i (k + 1) n else mixO c F G i k n r) = mixO c F G i k (n + 1) r:=by
 unfold mixO
 by_cases e : r = n
 · subst e; rw [if_pos rfl,if_pos (Nat.lt_succ_self _)]
 · rw [if_neg e]
   by_cases e2 : r < n
   · rw [if_pos e2,if_pos (by omega)]
   · rw [if_neg e2,if_neg (by omega)]
theorem mixO_skip {c : Cfg} {F G : List Int} {i k n : Nat} (h : oK c F G i (k + 1) n = oK c F G i k n) (r : Nat) : mixO c F G i k n r = mixO c F G i k (n + 1) r:=by
 rw [← mixO_step]
 by_cases e : r = n
 · subst e; rw [if_pos rfl,h,mixO_here]
 · rw [if_neg e]
def wK (F G : List Int) (i k : Nat) : Int:=ownS F G i + (if i < k then F.getD i 0 * G.getD i 0 else 0)
theorem dg_zero (i : Nat) : (0 : Int) = S02.dg 0 i:=by unfold S02.dg; simp
theorem wK_row (F G : List Int) (i : Nat) (hi : i < 64) : wK F G (i + 1) 0 = wK F G i 64:=by
 unfold wK
 rw [if_neg (Nat.not_lt_zero _),if_pos hi,show ownS F G (i + 1) = ownS F G i + F.getD i 0 * G.getD i 0 from rfl,Int.add_zero]
theorem wK_end (F G : List Int) : wK F G 64 0 = ownS F G 64:=by unfold wK; rw [if_neg (Nat.not_lt_zero _),Int.add_zero]
theorem wK_same {F G : List Int} {i k : Nat} (h : i ≠ k) : wK F G i (k + 1) = wK F G i k:=by
 unfold wK
 by_cases e : i < k
 · rw [if_pos e,if_pos (by omega)]
 · rw [if_neg e,if_neg (by omega)]
theorem wK_add (F G : List Int) (k : Nat) : wK F G k (k + 1) = wK F G k k + F.getD k 0 * G.getD k 0:=by
 unfold wK; rw [if_pos (by omega),if_neg (by omega),Int.add_zero]
theorem wK_none {F G : List Int} {i k : Nat} (h : F.getD i 0 * G.getD k 0 = 0) : wK F G i (k + 1) = wK F G i k:=by
 by_cases e : i = k
 · subst e; rw [wK_add,h,Int.add_zero]
 · exact wK_same e
theorem getD_fit {F : List Int} {b : Int} (h : FitL b F) (hb : 0 ≤ b) (i : Nat) : -b ≤ F.getD i 0 ∧ F.getD i 0 ≤ b:=by
 rw [List.getD_eq_getElem?_getD]
 cases e : F[i]? with
 | none => simp; omega
 | some x => exact h x (List.mem_of_getElem? e)
theorem tS_fit {c : Cfg} {F G : List Int} (hF : FitL 4294967296 F) (hG : FitL 4294967296 G) (r i k : Nat) (hk : k ≤ 64) : -(64 * (4294967296 * 4294967296)) ≤ tS c F G r i k ∧ tS c F G r i k ≤ 64 * (4294967296 * 4294967296):=by
 have h1 : -((k : Int) * (4294967296 * 4294967296)) ≤ tS c F G r i k ∧ tS c F G r i k ≤ (k : Int) * (4294967296 * 4294967296):=sg_bound fun j _ => by
   have:=mul_fit (getD_fit hF (by decide) i) (getD_fit hG (by decide) j) (by decide)
   split <;> omega
 omega
theorem oS_fit {c : Cfg} {F G : List Int} (hF : FitL 4294967296 F) (hG : FitL 4294967296 G) (r i : Nat) (hi : i ≤ 64) : -(4096 * (4294967296 * 4294967296)) ≤ oS c F G r i ∧ oS c F G r i ≤ 4096 * (4294967296 * 4294967296):=by
 have h1 : -((i : Int) * (64 * (4294967296 * 4294967296))) ≤ oS c F G r i ∧ oS c F G r i ≤ (i : Int) * (64 * (4294967296 * 4294967296)):=sg_bound fun j _ => tS_fit hF hG r j 64 (Nat.le_refl _)
 omega
theorem lst_fit {f : Nat → Int} {A : Int} (h : ∀ r,-A ≤ f r ∧ f r ≤ A) : ∀ n,-A ≤ lst f n ∧ lst f n ≤ A
 | 0 => h 0
 | 1 => h 0
 | n + 2 => by
   rw [lst_succ f (n:=n + 1) (by omega)]
   split
   · exact h _
   · exact lst_fit h _
theorem wpList_load63_g {ops : Array Oper} {rest : List Oper} {o : Oper} {a : Act} {w : World} {Q : Exit → Act → World → Prop} (hw : Region.wanted o (yielded ops a.tmps) = true) (x : Operand) (ho : o.op = .load 63 x)
   (g : Nat) (hx : a.eval x = .pointer (some ⟨g,0,none⟩)) (v : Int) (hg : S02.At w g (S02.dg v))
   (h : wpList Tryz.prog ops Q rest (a.put o.dst (.agg (S02.arr (S02.dg v)))) w) : wpList Tryz.prog ops Q (o :: rest) a w:=
 wpList_step fun K hK => by rw [if_pos hw]; exact wp_load_row 63 x ho g hx 63 _ _ _ hg Tryz.underlying63 rfl (by rw [S02.arr_size]; exact S02.info30) (hK _ _ h)
theorem exact0 (c : Cfg) (hc : c.ok) (w : World) : Calls Tryz.prog 18 #[cfgV c,.int .i64 0] w fun e w' => e = .returned (.bool (c.exact 0)) ∧ Below w.heap.size w w':=exact18 c hc 0 (Nat.zero_le _) w
def oR (c : Cfg) (F G : List Int) (r : Nat) : Int:=oS c F G r 64
theorem oR_lst (c : Cfg) (F G : List Int) (n : Nat) : lst (fun r => oS c F G r 64) n = lst (oR c F G) n:=rfl
theorem oR_mid {c : Cfg} {F G : List Int} (hF : FitL 4294967296 F) (hG : FitL 4294967296 G) (n : Nat) : S02.Mid (oR c F G n + -lst (oR c F G) n):=by
 have h1:=oS_fit (c:=c) hF hG n 64 (Nat.le_refl _)
 have h2:=lst_fit (f:=oR c F G) (A:=4096 * (4294967296 * 4294967296)) (fun r => oS_fit hF hG r 64 (Nat.le_refl _)) n
 unfold S02.Mid
 unfold oR at *
 omega
end Go.Proofs.YtejaocnhekjfiaaGreatDoor
