/- Parts of a proof: texts of the author, merged. No condition of their own. -/
import Derived.Test.YtdpnmdkbdibkpaaGreatDoorZ01
import Derived.MapKept
import Derived.Laws.StructEq
import Derived.RegionTactic
import Derived.BigRegion
import Derived.Deep.DeepCutAuto
namespace Go.Proofs.YtdpnmdkbdibkpaaGreatDoor
set_option maxRecDepth 100000
set_option maxHeartbeats 16000000
section
open Go.RowKit
variable {K:Type}
def zcd (kv:K→Value):List (K × Value)→Nat→List MapEntry
 | [],_=>[]
 | (k,v)::r,i=>⟨kv k,v,i⟩::zcd kv r (i+1)
def zbT [DecidableEq K](k:K):List (K × Value)→Nat→Option (Nat × Value)
 | [],_=>none
 | (k',v)::r,i=>if k=k' then some (i,v) else zbT k r (i+1)
def zal [DecidableEq K](k:K):List (K × Value)→Option Value
 | []=>none
 | (k',v)::r=>if k=k' then some v else zal k r
structure zit [DecidableEq K](P:Program)(kt:TypeId)(kv:K→Value):Prop where
 check:∀ (w:World) (e:Bool) (k:K),(Instr.checkKey e 10000 kt (kv k)).run P w= .ok () w
 find:∀ (w:World) (k:K) (es:List (K × Value)) (i:Nat),(Instr.findKey kt (kv k) (zcd kv es i)).run P w= .ok (zbT k es 0) w
def zas (w:World)(r:Nat)(kv:K→Value)(es:List (K × Value)):Prop:=w.heap[r]?=some (.map (zcd kv es 0).toArray es.length)
theorem zbY [DecidableEq K](k:K):∀ (es:List (K × Value)) (i:Nat),(zbT k es i).map (·.2)=zal k es
 | [],_=>rfl
 | (k',v)::r,i=>by
  simp only[zbT,zal]
  split
  ·
   rfl
  ·
   exact zbY k r (i+1)
theorem zgk (kv:K→Value):∀ (es:List (K × Value)) (i:Nat),(zcd kv es i).length=es.length
 | [],_=>rfl
 | (k,v)::r,i=>by simp[zcd,zgk kv r (i+1)]
theorem zcN (kv:K→Value):∀ (es fs:List (K × Value)) (i:Nat),zcd kv (es++fs) i=zcd kv es i++zcd kv fs (i+es.length)
 | [],fs,i=>by simp[zcd]
 | (k,v)::r,fs,i=>by
  simp only[List.cons_append,zcd,zcN kv r fs (i+1),List.length_cons]
  rw[show i+1+r.length=i+(r.length+1) by omega]
theorem zfO [DecidableEq K]{d:TypeDesc}{kv:K→Value}(h:∀ k k',Instr.sameNow d (kv k) (kv k')=some (decide (k=k')))(k:K):∀ (es:List (K × Value)) (i j:Nat),Instr.findNow d (kv k) (zcd kv es i) j=some (zbT k es j)
 | [],_,_=>rfl
 | (k',v)::r,i,j=>by
  simp only[zcd,Instr.findNow,h,zbT]
  by_cases e:k=k'
  ·
   simp[e]
  ·
   simp[e,zfO h k r (i+1) (j+1)]
theorem zjg [DecidableEq K]{P:Program}{kt:TypeId}{d:TypeDesc}{kv:K→Value}(hd:P.underlying kt=some d)(hk:∀ k,MapKept.IsKey d (kv k))(h:∀ k k',Instr.sameNow d (kv k) (kv k')=some (decide (k=k'))):zit P kt kv where
 check _ e k:=MapKept.run_checkKey hd (hk k) e 9999
 find _ k es i:=MapKept.run_findKey hd (zfO h k es i 0)
theorem zb3 [DecidableEq K]{P:Program}{t kt et:TypeId}{kv:K→Value}(KO:zit P kt kv)(ht:P.underlying t=some (.map kt et)){z:Value}(hz:∀ w:World,(zeroValue et).run P w= .ok z w)
  {w:World} {r:Nat} {es:List (K × Value)} (h:zas w r kv es) (k:K) (ok:Bool) :
  (Instr.lookup t (.map (some r)) (kv k) ok).run P w= .ok (if ok then .tuple #[(zal k es).getD z,.bool (zal k es).isSome] else (zal k es).getD z) w:=by
 have hf:=KO.find w k es 0
 rw[←zbY k es 0]
 simp only[Instr.lookup,Sem.run_bind,run_underlying ht,Result.andThen,MapKept.run_getObj_map h,KO.check,Sem.run_pure,hf]
 cases hp:zbT k es 0 with
 | none =>
  cases ok
  ·
   simp[hz]
  ·
   simp[hz,Result.andThen]
 | some x=>cases ok <;> simp[Sem.run_pure]
def za9 (w:World)(r:Nat)(kv:K→Value)(es:List (K × Value)):World:={ w with heap:=w.heap.setIfInBounds r (.map (zcd kv es 0).toArray es.length) }
theorem zb8 {w:World}{r:Nat}{kv:K→Value}{es:List (K × Value)}(h:r<w.heap.size):zas (za9 w r kv es) r kv es:=by
 simp[zas,za9,h]
theorem zaT {w:World}{r b:Nat}{kv:K→Value}{es:List (K × Value)}(h:b≠r):(za9 w r kv es).heap[b]?=w.heap[b]?:=by
 simp only[za9,Array.getElem?_setIfInBounds]
 rw[if_neg (by omega)]
theorem za6 {w:World}{r:Nat}{kv:K→Value}{es:List (K × Value)}:(za9 w r kv es).heap.size=w.heap.size:=by simp[za9]
theorem zjh {w:World}{kv:K→Value}{es fs:List (K × Value)}:za9 (w.alloc (.map (zcd kv es 0).toArray es.length)) w.heap.size kv fs=w.alloc (.map (zcd kv fs 0).toArray fs.length):=by
 simp only[za9,World.alloc]
 congr 1
 apply Array.ext_getElem?
 intro i
 simp only[Array.getElem?_setIfInBounds,Array.size_push,Array.getElem?_push]
 by_cases e:w.heap.size=i
 ·
  subst e;simp
 ·
  have:¬ i=w.heap.size:=fun h=>e h.symm
  simp[e,this]
theorem zes [DecidableEq K]{P:Program}{t kt et:TypeId}{kv:K→Value}(KO:zit P kt kv)(ht:P.underlying t=some (.map kt et)){w:World}{r:Nat}{es:List (K × Value)}(h:zas w r kv es)(k:K)(v:Value)(hk:zal k es=none) :
  (Instr.mapUpdate t (.map (some r)) (kv k) v).run P w= .ok () (za9 w r kv (es++[(k,v)])):=by
 have hf:=KO.find w k es 0
 have hp:zbT k es 0=none:=by
  have:=zbY k es 0
  rw[hk] at this
  cases hp:zbT k es 0 with
  | none=>rfl
  | some x=>rw[hp] at this;simp at this
 rw[hp] at hf
 simp only[Instr.mapUpdate,Sem.run_bind,run_underlying ht,Result.andThen,MapKept.run_getObj_map h,KO.check,hf,MapKept.run_setObj_map _ h,za9]
 congr 3
 simp[zcN,zcd]
end
section
open Go.RowKit
def zaU (k:Int):Bool:=decide (1≤k∧k≤17)
def zji (k:Int):Nat:=if k<1∨17<k then 0 else if 15≤k then 2 else if 12≤k then 1 else if 9≤k then 5 else 0
def zaw (k:Int):Bool:=decide (1≤k∧k≤14)
def kbits (k:Int):Nat:=if k<1∨17<k then 0 else if 15≤k then 0 else if 12≤k then 64 else if k=2∨k=4∨k=6 then 64 else if k=7 then 1 else 32
def zcO:List (Int × Value):=[
(1,.agg #[.string ⟨#[105,110,116,51,50]⟩,.int .i64 0,.int .i64 32]),
 (2,.agg #[.string ⟨#[105,110,116,54,52]⟩,.int .i64 0,.int .i64 64]),
 (3,.agg #[.string ⟨#[117,105,110,116,51,50]⟩,.int .i64 0,.int .i64 32]),
 (4,.agg #[.string ⟨#[117,105,110,116,54,52]⟩,.int .i64 0,.int .i64 64]),
 (5,.agg #[.string ⟨#[115,105,110,116,51,50]⟩,.int .i64 0,.int .i64 32]),
 (6,.agg #[.string ⟨#[115,105,110,116,54,52]⟩,.int .i64 0,.int .i64 64]),
 (7,.agg #[.string ⟨#[98,111,111,108]⟩,.int .i64 0,.int .i64 1]),
 (8,.agg #[.string ⟨#[101,110,117,109]⟩,.int .i64 0,.int .i64 32]),
 (9,.agg #[.string ⟨#[102,105,120,101,100,51,50]⟩,.int .i64 5,.int .i64 32]),
 (10,.agg #[.string ⟨#[115,102,105,120,101,100,51,50]⟩,.int .i64 5,.int .i64 32]),
 (11,.agg #[.string ⟨#[102,108,111,97,116]⟩,.int .i64 5,.int .i64 32]),
 (12,.agg #[.string ⟨#[102,105,120,101,100,54,52]⟩,.int .i64 1,.int .i64 64]),
 (13,.agg #[.string ⟨#[115,102,105,120,101,100,54,52]⟩,.int .i64 1,.int .i64 64]),
 (14,.agg #[.string ⟨#[100,111,117,98,108,101]⟩,.int .i64 1,.int .i64 64]),
 (15,.agg #[.string ⟨#[115,116,114,105,110,103]⟩,.int .i64 2,.int .i64 0]),
 (16,.agg #[.string ⟨#[98,121,116,101,115]⟩,.int .i64 2,.int .i64 0]),
 (17,.agg #[.string ⟨#[109,101,115,115,97,103,101]⟩,.int .i64 2,.int .i64 0])
]
def zbK (k:Int):Value:=.int .i64 k
theorem zdD:zit Tryz.prog 3 zbK:=zjg Tryz.underlying3 (fun k=>by simp[zbK,MapKept.IsKey]) (fun k k'=>by simp[zbK,Instr.sameNow];rfl)
def zjj (j:Nat):Array MapEntry:=(zcd zbK (zcO.take j) 0).toArray
theorem zaD (w:World)(j:Nat)(hj:j<17)(k:Int)(v:Value)(he:zcO[j]?=some (k,v))(hk:zal k (zcO.take j)=none) :
  (Instr.mapUpdate 154 (.map (some w.heap.size)) (.int .i64 k) v).run Tryz.prog (w.alloc (.map (zjj j) j))= .ok () (w.alloc (.map (zjj (j+1)) (j+1))):=by
 have hl:(zcO.take j).length=j:=by rw[List.length_take];show min j 17=j;omega
 have hl2:(zcO.take (j+1)).length=j+1:=by rw[List.length_take];show min (j+1) 17=j+1;omega
 have hm:zas (w.alloc (.map (zjj j) j)) w.heap.size zbK (zcO.take j):=by
  unfold zas
  rw[heap_alloc_new,hl];rfl
 have:=zes (P:=Tryz.prog) zdD Tryz.underlying154 hm k v hk
 have e:zcO.take j++[(k,v)]=zcO.take (j+1):=by rw[List.take_add_one,he];rfl
 rw[e] at this
 have e2:=zjh (w:=w) (kv:=zbK) (es:=zcO.take j) (fs:=zcO.take (j+1))
 rw[hl,hl2] at e2
 exact this.trans (by rw[show (w.alloc (.map (zjj j) j))=w.alloc (.map (zcd zbK (zcO.take j) 0).toArray j) from rfl,e2];rfl)
theorem zet (w:World) :
  Calls Tryz.prog 91 #[] w fun e w'=>∃ r,zas w' r zbK zcO∧r<w'.heap.size∧Below w.heap.size w w'∧e= .returned (.map (some r)):=by
 have hmm:=@run_makeMap Tryz.prog
 have h0:=zaD w 0 (by omega) 1 (.agg #[.string ⟨#[105,110,116,51,50]⟩,.int .i64 0,.int .i64 32]) rfl rfl
 have h1:=zaD w 1 (by omega) 2 (.agg #[.string ⟨#[105,110,116,54,52]⟩,.int .i64 0,.int .i64 64]) rfl rfl
 have h2:=zaD w 2 (by omega) 3 (.agg #[.string ⟨#[117,105,110,116,51,50]⟩,.int .i64 0,.int .i64 32]) rfl rfl
 have h3:=zaD w 3 (by omega) 4 (.agg #[.string ⟨#[117,105,110,116,54,52]⟩,.int .i64 0,.int .i64 64]) rfl rfl
 have h4:=zaD w 4 (by omega) 5 (.agg #[.string ⟨#[115,105,110,116,51,50]⟩,.int .i64 0,.int .i64 32]) rfl rfl
 have h5:=zaD w 5 (by omega) 6 (.agg #[.string ⟨#[115,105,110,116,54,52]⟩,.int .i64 0,.int .i64 64]) rfl rfl
 have h6:=zaD w 6 (by omega) 7 (.agg #[.string ⟨#[98,111,111,108]⟩,.int .i64 0,.int .i64 1]) rfl rfl
 have h7:=zaD w 7 (by omega) 8 (.agg #[.string ⟨#[101,110,117,109]⟩,.int .i64 0,.int .i64 32]) rfl rfl
 have h8:=zaD w 8 (by omega) 9 (.agg #[.string ⟨#[102,105,120,101,100,51,50]⟩,.int .i64 5,.int .i64 32]) rfl rfl
 have h9:=zaD w 9 (by omega) 10 (.agg #[.string ⟨#[115,102,105,120,101,100,51,50]⟩,.int .i64 5,.int .i64 32]) rfl rfl
 have h10:=zaD w 10 (by omega) 11 (.agg #[.string ⟨#[102,108,111,97,116]⟩,.int .i64 5,.int .i64 32]) rfl rfl
 have h11:=zaD w 11 (by omega) 12 (.agg #[.string ⟨#[102,105,120,101,100,54,52]⟩,.int .i64 1,.int .i64 64]) rfl rfl
 have h12:=zaD w 12 (by omega) 13 (.agg #[.string ⟨#[115,102,105,120,101,100,54,52]⟩,.int .i64 1,.int .i64 64]) rfl rfl
 have h13:=zaD w 13 (by omega) 14 (.agg #[.string ⟨#[100,111,117,98,108,101]⟩,.int .i64 1,.int .i64 64]) rfl rfl
 have h14:=zaD w 14 (by omega) 15 (.agg #[.string ⟨#[115,116,114,105,110,103]⟩,.int .i64 2,.int .i64 0]) rfl rfl
 have h15:=zaD w 15 (by omega) 16 (.agg #[.string ⟨#[98,121,116,101,115]⟩,.int .i64 2,.int .i64 0]) rfl rfl
 have h16:=zaD w 16 (by omega) 17 (.agg #[.string ⟨#[109,101,115,115,97,103,101]⟩,.int .i64 2,.int .i64 0]) rfl rfl
 have e0:zjj 0= #[]:=rfl
 rw[e0] at h0
 clear e0
 simp only[Nat.zero_add,Nat.reduceAdd] at *
 go_enter Tryz.func91,Tryz.ntmps91
 go_wp2
 go_ret
 refine⟨w.heap.size,?_,by simp,by (with_reducible repeat first|exact Below.refl _ _|refine pzA ?_ _|refine pzB ?_ _|refine zab ?_ _|refine Below.drew ?_),rfl⟩
 unfold zas
 rw[heap_alloc_new];rfl
def kname (k:Int):ByteArray:=
 if k=1 then ⟨#[105,110,116,51,50]⟩ else if k=2 then ⟨#[105,110,116,54,52]⟩ else if k=3 then ⟨#[117,105,110,116,51,50]⟩ else if k=4 then ⟨#[117,105,110,116,54,52]⟩ else if k=5 then ⟨#[115,105,110,116,51,50]⟩ else if k=6 then ⟨#[115,105,110,116,54,52]⟩ else if k=7 then ⟨#[98,111,111,108]⟩ else if k=8 then ⟨#[101,110,117,109]⟩ else if k=9 then ⟨#[102,105,120,101,100,51,50]⟩ else if k=10 then ⟨#[115,102,105,120,101,100,51,50]⟩ else if k=11 then ⟨#[102,108,111,97,116]⟩ else if k=12 then ⟨#[102,105,120,101,100,54,52]⟩ else if k=13 then ⟨#[115,102,105,120,101,100,54,52]⟩ else if k=14 then ⟨#[100,111,117,98,108,101]⟩ else if k=15 then ⟨#[115,116,114,105,110,103]⟩ else if k=16 then ⟨#[98,121,116,101,115]⟩ else if k=17 then ⟨#[109,101,115,115,97,103,101]⟩ else ⟨#[]⟩
theorem zeN (k:Int):zal k zcO=if zaU k then some (.agg #[.string (kname k),.int .i64 (zji k),.int .i64 (kbits k)]) else none:=by
 by_cases h:1≤k∧k≤17
 ·
  rcases (show k=1∨k=2∨k=3∨k=4∨k=5∨k=6∨k=7∨k=8∨k=9∨k=10∨k=11∨k=12∨k=13∨k=14∨k=15∨k=16∨k=17 by omega) with rfl|rfl|rfl|rfl|rfl|rfl|rfl|rfl|rfl|rfl|rfl|rfl|rfl|rfl|rfl|rfl|rfl
  all_goals rfl
 ·
  have hr:zaU k=false:=by simp[zaU];omega
  rw[hr]
  simp only[zcO,zal]
  simp only[Bool.false_eq_true,if_false]
  repeat (rw[if_neg (by omega)])
theorem zgD (w:World):(zeroValue 153).run Tryz.prog w= .ok (.agg #[.string ⟨#[]⟩,.int .i64 0,.int .i64 0]) w:=by kernel_rfl
theorem zjk (k:Int)(w:World) :
  Calls Tryz.prog 87 #[.int .i64 k] w fun e w'=>e= .returned (.tuple #[.int .i64 (zji k),.int .u8 (if zaU k then 0 else 2)])∧Below w.heap.size w w':=by
 by_cases h:zaU k=true
 ·
  rw[if_pos h]
  go_enter Tryz.func87,Tryz.ntmps87
  go_wp2_with fail
  refine (zet _).mono ?_
  rintro e w1 ⟨r,hm,hr,hb,rfl⟩
  have hz:w.heap.size≤w1.heap.size:=hb.size
  have hl:=zb3 (P:=Tryz.prog) zdD Tryz.underlying154 zgD hm k true
  rw[zeN,if_pos h] at hl
  simp only[if_true,Option.getD_some,Option.isSome_some,zbK] at hl
  go_wp2
  go_ret2
  exact⟨rfl,by (with_reducible repeat first|exact Below.refl _ _|refine pzA ?_ _|refine pzB ?_ _|refine zab ?_ _|refine Below.drew ?_);exact zai (Below.refl _ _) hb (Nat.le_refl _)⟩
 ·
  have hk:zji k=0:=by
   have:¬ (1≤k∧k≤17):=fun e=>h (by simp[zaU,e])
   unfold zji
   rw[if_pos (by omega)]
  rw[if_neg h,hk]
  clear hk
  go_enter Tryz.func87,Tryz.ntmps87
  go_wp2_with fail
  refine (zet _).mono ?_
  rintro e w1 ⟨r,hm,hr,hb,rfl⟩
  have hz:w.heap.size≤w1.heap.size:=hb.size
  have hl:=zb3 (P:=Tryz.prog) zdD Tryz.underlying154 zgD hm k true
  rw[zeN,if_neg h] at hl
  simp only[if_true,Option.getD_none,Option.isSome_none,zbK] at hl
  go_wp2
  go_ret2
  exact⟨rfl,by (with_reducible repeat first|exact Below.refl _ _|refine pzA ?_ _|refine pzB ?_ _|refine zab ?_ _|refine Below.drew ?_);exact zai (Below.refl _ _) hb (Nat.le_refl _)⟩
theorem zl0 (k:Int):zaw k=(zaU k&&decide (zji k≠2)):=by
 unfold zaw zaU zji
 by_cases h:k<1∨17<k
 ·
  rw[if_pos h,decide_eq_false (by omega),decide_eq_false (show ¬ (1≤k∧k≤17) by omega)];rfl
 ·
  rw[if_neg h]
  by_cases h15:15≤k
  ·
   rw[if_pos h15,decide_eq_false (by omega)];simp
  ·
   rw[if_neg h15,decide_eq_true (show 1≤k∧k≤14 by omega),decide_eq_true (show 1≤k∧k≤17 by omega)]
   split
   ·
    rfl
   ·
    split <;> rfl
theorem zbF (k:Int)(w:World) :
  Calls Tryz.prog 52 #[.int .i64 k] w fun e w'=>e= .returned (.bool (zaw k))∧Below w.heap.size w w':=by
 rw[zl0]
 obtain⟨x,HX⟩:∃ x,Hid (x=zji k):=⟨_,rfl⟩
 rw[←HX.out]
 cases h:zaU k with
 | false =>
  have H:=hid h
  clear h
  go_enter Tryz.func52,Tryz.ntmps52
  go_wp2_with (go_at_call 87;refine (zjk _ _).mono ?_;rintro e w' ⟨rfl,hb⟩;rw[H.out,←HX.out])
  go_ret
  exact⟨rfl,hb⟩
 | true =>
  have H:=hid h
  clear h
  go_enter Tryz.func52,Tryz.ntmps52
  go_wp2_with (go_at_call 87;refine (zjk _ _).mono ?_;rintro e w' ⟨rfl,hb⟩;rw[H.out,←HX.out])
  go_ret
  refine⟨zcG ?_,hb⟩
  show Value.bool ((x:Int) != 2)=_
  congr 1
  rw[Bool.eq_iff_iff]
  simp
  omega
theorem zhS (k:Int)(w:World) :
  Calls Tryz.prog 149 #[.int .i64 k] w fun e w'=>e= .returned (.bool (zaU k))∧w=w':=by
 have H:Hid (zaU k=(decide (1≤k)&&decide (k≤17))):=by simp[Hid,zaU]
 by_cases h1:1≤k
 all_goals
  go_enter Tryz.func149,Tryz.ntmps149
  go_wp2
  go_ret
  refine⟨zcG ?_,rfl⟩
  rw[H.out]
  simp[h1] <;> omega
theorem zci (k:Int)(w:World) :
  Calls Tryz.prog 34 #[.int .i64 k] w fun e w'=>e= .returned (.bool (zaU k))∧w=w':=by
 have H:Hid (zaU k=(decide (1≤k)&&decide (k≤17))):=by simp[Hid,zaU]
 by_cases h1:1≤k
 all_goals
  go_enter Tryz.func34,Tryz.ntmps34
  go_wp2
  go_ret
  refine⟨zcG ?_,rfl⟩
  rw[H.out]
  simp[h1] <;> omega
theorem zb4 (k:Int)(w:World) :
  Calls Tryz.prog 35 #[.int .i64 k] w fun e w'=>e= .returned (.bool (zaw k))∧w=w':=by
 have H:Hid (zaw k=(decide (1≤k)&&decide (k≤14))):=by simp[Hid,zaw]
 by_cases h1:1≤k
 all_goals
  go_enter Tryz.func35,Tryz.ntmps35
  go_wp2
  go_ret
  refine⟨zcG ?_,rfl⟩
  rw[H.out]
  simp[h1] <;> omega
end
section
open Go.RowKit
def zd7 (k:Int × ByteArray × Int):Value:=.agg #[.int .i64 k.1,.string k.2.1,.int .i64 k.2.2]
def zm9 (s:ByteArray):Value:=.string s
theorem toList_inj (a b:ByteArray):a.toList=b.toList↔a=b:=by
 constructor
 ·
  intro h
  rw[ByteArray.toList_eq,ByteArray.toList_eq] at h
  apply ByteArray.ext
  exact Array.toList_inj.1 h
 ·
  rintro rfl;rfl
theorem zna (w:World)(a b:Int × ByteArray × Int):(Op.equal 220 (zd7 a) (zd7 b)).run Tryz.prog w= .ok (decide (a=b)) w:=by
 obtain⟨a1,a2,a3⟩:=a
 obtain⟨b1,b2,b3⟩:=b
 have hp:Tryz.prog.stoodInHeld 220=false:=by kernel_rfl
 simp only[zd7]
 simp[Op.equal,Op.maxDepth,go_sem,hp,toList_inj]
 by_cases h1:a1=b1 <;> by_cases h2:a2=b2 <;> by_cases h3:a3=b3 <;> simp[h1,h2,h3]
theorem zhT (w:World)(k:Int × ByteArray × Int):∀ (es:List ((Int × ByteArray × Int) × Value)) (i j:Nat),
  (Instr.findAsking 220 (zd7 k) (zcd zd7 es i) j).run Tryz.prog w= .ok (zbT k es j) w
 | [],_,_=>rfl
 | (k',v)::r,i,j=>by
  simp only[zcd,Instr.findAsking,Sem.run_bind,zna,Result.andThen,zbT]
  by_cases e:k=k'
  ·
   simp[e,Sem.run_pure]
  ·
   simp[e,zhT w k r (i+1) (j+1)]
theorem znb (w:World)(e:Bool)(k:Int × ByteArray × Int):(Instr.checkKey e 10000 220 (zd7 k)).run Tryz.prog w= .ok () w:=by
 obtain⟨a1,a2,a3⟩:=k
 kernel_rfl
theorem znc:zit Tryz.prog 220 zd7 where
 check w e k:=znb w e k
 find w k es i:=by
  have hk:=zhT w k es i 0
  cases es with
  | nil=>simp[Instr.findKey,zcd,Instr.findNow,zbT,run_underlying Tryz.underlying220,Result.andThen]
  | cons x r =>
   obtain⟨k',v⟩:=x
   have hn:∀ (kind:TypeDesc) (l:List MapEntry) (j:Nat),Instr.findNow kind (zd7 k) (⟨zd7 k',v,i⟩::l) j=none:=by
    intro kind l j
    have:Instr.sameNow kind (zd7 k) (zd7 k')=none:=by cases kind <;> rfl
    simp only[Instr.findNow,this]
   rw[zcd] at hk ⊢
   simp only[Instr.findKey,Sem.run_bind,run_underlying Tryz.underlying220,Result.andThen,hn]
   exact hk
theorem zpu:zit Tryz.prog 9 zm9:=zjg Tryz.underlying9 (fun k=>by simp[zm9,MapKept.IsKey]) (fun k k'=>by
 obtain⟨r,h1,h2⟩:=MapKept.sameNow_of_keys (d:=.string) (a:=zm9 k) (b:=zm9 k') (by simp[zm9,MapKept.IsKey]) (by simp[zm9,MapKept.IsKey])
 rw[h1]
 congr 1
 rw[Bool.eq_iff_iff,h2]
 simp[zm9])
theorem zgE {α:Type}(f:α→α)(x:α):∀ l:List α,(l++[x]).modify l.length f=l++[f x]
 | []=>rfl
 | y::l=>by simp[List.modify_succ_cons,zgE f x l]
/-! m[k]++ of a new key -/
section
variable {K:Type} {P:Program} {t kt et:TypeId} {kv:K→Value}
theorem zaA [DecidableEq K](k:K):∀ (es fs:List (K × Value)),zal k (es++fs)=(zal k es).orElse fun _=>zal k fs
 | [],_=>rfl
 | (k',v)::r,fs=>by
  simp only[List.cons_append,zal]
  split
  ·
   rfl
  ·
   exact zaA k r fs
theorem ziu [DecidableEq K](KO:zit P kt kv)(ht:P.underlying t=some (.map kt et)){z:Value}(hz:∀ w:World,(zeroValue et).run P w= .ok z w){w:World}{r:Nat}{es:List (K × Value)}(h:zas w r kv es)(k:K)(hk:zal k es=none) :
  (Instr.mapEntry t (.map (some r)) (kv k)).run P w= .ok (.tuple #[z,.int .i64 es.length]) (za9 w r kv (es++[(k,z)])):=by
 have hf:=KO.find w k es 0
 have hp:zbT k es 0=none:=by
  have:=zbY k es 0
  rw[hk] at this
  cases hp:zbT k es 0 with
  | none=>rfl
  | some x=>rw[hp] at this;simp at this
 rw[hp] at hf
 simp only[Instr.mapEntry,Sem.run_bind,run_underlying ht,Result.andThen,MapKept.run_getObj_map h,KO.check,hf,hz,MapKept.run_setObj_map _ h,za9,Sem.run_pure]
 congr 4
 ·
  simp[zcN,zcd]
 ·
  simp
theorem zjl:∀ (es:List (K × Value)) (i:Nat) (k:K) (v:Value),(zcd kv (es++[(k,v)]) i).findIdx? (fun e=>(e.born:Int) == ((i+es.length:Nat):Int))=some es.length
 | [],i,k,v=>by simp[zcd]
 | (k',v')::r,i,k,v=>by
  rw[List.cons_append,zcd,List.findIdx?_cons]
  have:(((⟨kv k',v',i⟩:MapEntry).born:Int) == ((i+(r.length+1):Nat):Int))=false:=by simp;omega
  simp only[List.length_cons,this]
  have ih:=zjl r (i+1) k v
  rw[show i+1+r.length=i+(r.length+1) by omega] at ih
  rw[ih]
  rfl
theorem ziv [DecidableEq K]{w:World}{r:Nat}{es:List (K × Value)}{k:K}{z:Value}(h:zas w r kv (es++[(k,z)]))(v:Value) :
  (Instr.entryStore t (.map (some r)) (.int .i64 es.length) v).run P w= .ok () (za9 w r kv (es++[(k,v)])):=by
 have hl:=zjl (kv:=kv) es 0 k z
 rw[Nat.zero_add] at hl
 have hfi:(zcd kv (es++[(k,z)]) 0).toArray.findIdx? (fun e=>(e.born:Int) == (es.length:Int))=some es.length:=by
  rw[List.findIdx?_toArray];exact hl
 have hmod:((zcd kv (es++[(k,z)]) 0).toArray.modify es.length fun e=>{ e with val:=v })=(zcd kv (es++[(k,v)]) 0).toArray:=by
  apply Array.toList_inj.1
  rw[Array.toList_modify,zcN,zcN]
  simp only[zcd]
  have:=zgE (fun e:MapEntry=>{ e with val:=v }) ⟨kv k,z,0+es.length⟩ (zcd kv es 0)
  rw[zgk] at this
  exact this
 have ha:(asInt (.int .i64 (es.length:Int))).run P w= .ok (es.length:Int) w:=by simp[asInt,asIntOf]
 unfold Instr.entryStore
 simp only[Sem.run_bind,MapKept.run_getObj_map h,Result.andThen,ha]
 rw[hfi]
 simp only[MapKept.run_setObj_map _ h,za9,hmod]
 simp
end
end
section
open Go.RowKit
def zaP (c:Nat):Bool:=decide (65≤c∧c≤90∨97≤c∧c≤122∨c=95)
def za0 (i c:Nat):Bool:=zaP c||decide (0<i∧48≤c∧c≤57)
def zcf (s:ByteArray)(i:Nat):Nat:=(s.data.toList.getD i 0).toNat
def zan (s:ByteArray):Bool:=(List.range s.size).all (fun i=>za0 i (zcf s i))&&decide (1≤s.size∧s.size≤60)
def zdE (n:Int):Bool:=decide (1≤n∧n≤536870911∧(n<19000∨19999<n))
theorem zjm (s:ByteArray)(i:Nat):zcf s i<256:=UInt8.toNat_lt _
theorem zhU (s:ByteArray)(k:Nat)(hk:k<s.size):(s[k]'hk).toNat=zcf s k:=by
 have:k<s.data.toList.length:=by simpa using hk
 have hk':k<s.data.size:=by simpa using hk
 have e:s.data.toList.getD k 0=s.data[k]'hk':=by simp[List.getD,Array.getElem?_eq_getElem hk']
 rw[zcf,e]
 rfl
theorem zpR:∀ c:Fin 256,bits .or .u8 (c.val:Int) 32=((c.val ||| 32:Nat):Int)∧zaP c.val=(decide (97≤c.val ||| 32)&&decide (c.val ||| 32≤122)||decide (c.val=95))∧(c.val ||| 32)<256:=by decide +kernel
theorem zb9 (c:Nat)(hc:c<256)(w:World) :
  Calls Tryz.prog 147 #[.int .u8 c] w fun e w'=>e= .returned (.bool (zaP c))∧w=w':=by
 obtain⟨y,hy,HL,hy2⟩:∃ y:Nat,bits .or .u8 (c:Int) 32=(y:Int)∧Hid (zaP c=(decide (97≤y)&&decide (y≤122)||decide (c=95)))∧y<256:=⟨_,zpR ⟨c,hc⟩⟩
 by_cases h1:97≤y
 ·
  by_cases h2:y≤122
  ·
   go_enter Tryz.func147,Tryz.ntmps147
   go_wp2
   go_ret
   exact⟨zcG (by rw[HL.out];simp[h1,h2]),rfl⟩
  ·
   by_cases h3:c=95
   ·
    have h3':((c:Int) == 95)=true:=by simp;omega
    have H3:=hid h3
    clear h3
    go_enter Tryz.func147,Tryz.ntmps147
    go_wp2
    go_ret
    exact⟨zcG (by rw[HL.out];simp[H3.out]),rfl⟩
   ·
    have h3':((c:Int) == 95)=false:=by simp;omega
    have H3:=hid h3
    clear h3
    go_enter Tryz.func147,Tryz.ntmps147
    go_wp2
    go_ret
    exact⟨zcG (congrArg Value.bool (by rw[HL.out,decide_eq_false H3.out];simp[h1,h2] <;> omega)),rfl⟩
 ·
  by_cases h3:c=95
  ·
   have h3':((c:Int) == 95)=true:=by simp;omega
   have H3:=hid h3
   clear h3
   go_enter Tryz.func147,Tryz.ntmps147
   go_wp2
   go_ret
   exact⟨zcG (by rw[HL.out];simp[H3.out]),rfl⟩
  ·
   have h3':((c:Int) == 95)=false:=by simp;omega
   have H3:=hid h3
   clear h3
   go_enter Tryz.func147,Tryz.ntmps147
   go_wp2
   go_ret
   exact⟨zcG (congrArg Value.bool (by rw[HL.out,decide_eq_false H3.out];simp[h1] <;> omega)),rfl⟩
theorem zeu (s:ByteArray)(k:Nat)(hk:k<s.size)(h:za0 k (zcf s k)=false):zan s=false:=by
 unfold zan
 rw[Bool.and_eq_false_iff]
 refine .inl ?_
 rw[List.all_eq_false]
 exact⟨k,List.mem_range.2 hk,by simp[h]⟩
theorem zgF (s:ByteArray)(h:∀ i,i<s.size→za0 i (zcf s i)=true):zan s=decide (1≤s.size∧s.size≤60):=by
 unfold zan
 have:(List.range s.size).all (fun i=>za0 i (zcf s i))=true:=by
  rw[List.all_eq_true]
  intro x hx
  exact h x (List.mem_range.1 hx)
 rw[this,Bool.true_and]
theorem zbG (s:ByteArray)(hs:s.size≤9223372036854775807)(w:World) :
  Calls Tryz.prog 121 #[.string s] w fun e w'=>e= .returned (.bool (zan s))∧w=w':=by
 go_enter Tryz.func121,Tryz.ntmps121
 go_wp2
 go_loop [6] (fun v6=>∃ k:Nat,k≤s.size∧v6= .int .i64 k∧Hid (∀ i,i<k→za0 i (zcf s i)=true)) (fun v6=>s.size - (intOf v6).toNat)
 case atStart=>exact⟨0,by omega,rfl,fun i hi=>absurd hi (by omega)⟩
 case round =>
  obtain⟨k,hk,rfl,HK⟩:=hrel
  by_cases hlt:k<s.size
  ·
   obtain⟨c,HC⟩:∃ c,Hid (c=zcf s k):=⟨_,rfl⟩
   have hcb:c<256:=by rw[HC.out];exact zjm _ _
   have hsk:=zhU s k hlt
   rw[←HC.out] at hsk
   cases hl:zaP c with
   | true =>
    have HLT:=hid hl
    clear hl
    go_wp2_with (go_at_call 147;refine (zb9 _ hcb _).mono ?_;rintro e w' ⟨rfl,rfl⟩;rw[HLT.out])
    go_round
    case rel =>
     refine⟨k+1,by omega,by go_num,fun i hi=>?_⟩
     by_cases e:i=k
     ·
      subst e;rw[←HC.out];simp[za0,HLT.out]
     ·
      exact HK.out i (by omega)
    case measure=>simp[intOf];omega
   | false =>
    have HLT:=hid hl
    clear hl
    by_cases h0:k=0
    ·
     have hv:Hid (zan s=false):=zeu s k hlt (by rw[←HC.out];simp[za0,HLT.out,h0])
     have h0':((k:Int) == 0)=true:=by simp;omega
     have H0:=hid h0
     clear h0
     go_wp2_with (go_at_call 147;refine (zb9 _ hcb _).mono ?_;rintro e w' ⟨rfl,rfl⟩;rw[HLT.out])
     go_ret
     rw[hv.out]
     exact⟨rfl,rfl⟩
    ·
     have h0':((k:Int) == 0)=false:=by simp;omega
     have H0:=hid h0
     clear h0
     by_cases h48:c<48
     ·
      have hv:Hid (zan s=false):=zeu s k hlt (by rw[←HC.out];simp[za0,HLT.out];omega)
      go_wp2_with (go_at_call 147;refine (zb9 _ hcb _).mono ?_;rintro e w' ⟨rfl,rfl⟩;rw[HLT.out])
      go_ret
      rw[hv.out]
      exact⟨rfl,rfl⟩
     ·
      by_cases h57:57<c
      ·
       have hv:Hid (zan s=false):=zeu s k hlt (by rw[←HC.out];simp[za0,HLT.out];omega)
       go_wp2_with (go_at_call 147;refine (zb9 _ hcb _).mono ?_;rintro e w' ⟨rfl,rfl⟩;rw[HLT.out])
       go_ret
       rw[hv.out]
       exact⟨rfl,rfl⟩
      ·
       go_wp2_with (go_at_call 147;refine (zb9 _ hcb _).mono ?_;rintro e w' ⟨rfl,rfl⟩;rw[HLT.out])
       go_round
       case rel =>
        refine⟨k+1,by omega,by go_num,fun i hi=>?_⟩
        by_cases e:i=k
        ·
         subst e;rw[←HC.out];have:=H0.out;simp[za0];right;omega
        ·
         exact HK.out i (by omega)
       case measure=>simp[intOf];omega
  ·
   have hv:Hid (zan s=decide (1≤s.size∧s.size≤60)):=zgF s fun i hi=>HK.out i (by omega)
   by_cases h0:s.size=0
   ·
    have hem2:s.toList=[]:=by
     rw[ByteArray.toList_eq]
     have:s.data.toList=[]:=List.eq_nil_of_length_eq_zero (by simpa using h0)
     exact this
    have H0:=hid h0
    clear h0
    go_wp2
    go_ret
    rw[hv.out]
    exact⟨zcG (congrArg Value.bool (decide_eq_false (by have:=H0.out;omega)).symm),rfl⟩
   ·
    have hem:¬ s.toList=[]:=by
     rw[ByteArray.toList_eq]
     intro e
     refine h0 ?_
     show s.data.size=0
     rw[←Array.length_toList,e]
     rfl
    have hem2:s.toList.isEmpty=false:=by simpa using hem
    have H0:=hid h0
    clear h0
    go_wp2
    go_ret
    rw[hv.out]
    refine⟨zcG (congrArg Value.bool ?_),rfl⟩
    have:=H0.out
    rw[Bool.eq_iff_iff]
    simp
    omega
theorem zcB (n:Int)(w:World) :
  Calls Tryz.prog 148 #[.int .i64 n] w fun e w'=>e= .returned (.bool (zdE n))∧w=w':=by
 have H:Hid (zdE n=(decide (1≤n)&&decide (n≤536870911)&&(decide (n<19000)||decide (19999<n)))):=by simp[Hid,zdE,Bool.and_assoc]
 obtain⟨b1,hb1⟩:∃ b,decide (1≤n)=b:=⟨_,rfl⟩
 obtain⟨b2,hb2⟩:∃ b,decide (n≤536870911)=b:=⟨_,rfl⟩
 obtain⟨b3,hb3⟩:∃ b,decide (n<19000)=b:=⟨_,rfl⟩
 obtain⟨b4,hb4⟩:∃ b,decide (19999<n)=b:=⟨_,rfl⟩
 have H2:Hid (zdE n=(b1&&b2&&(b3||b4))):=by rw[Hid,H.out,hb1,hb2,hb3,hb4]
 cases b1 <;> cases b2 <;> cases b3 <;> cases b4
 all_goals
  go_enter Tryz.func148,Tryz.ntmps148
  go_wp2
  go_ret
  exact⟨zcG (by rw[H2.out];rfl),rfl⟩
theorem zhV (s:ByteArray)(hs:s.size≤9223372036854775807)(w:World) :
  Calls Tryz.prog 134 #[.string s] w fun e w'=>e= .returned (.bool (zan s))∧w=w':=by
 go_enter Tryz.func134,Tryz.ntmps134
 go_wp2
 go_loop [3] (fun v3=>∃ k:Nat,k≤s.size∧v3= .int .i64 k∧Hid (∀ i,i<k→za0 i (zcf s i)=true)) (fun v3=>s.size - (intOf v3).toNat)
 case atStart=>exact⟨0,by omega,rfl,fun i hi=>absurd hi (by omega)⟩
 case round =>
  obtain⟨k,hk,rfl,HK⟩:=hrel
  by_cases hlt:k<s.size
  ·
   obtain⟨c,HC⟩:∃ c,Hid (c=zcf s k):=⟨_,rfl⟩
   have hcb:c<256:=by rw[HC.out];exact zjm _ _
   have hsk:=zhU s k hlt
   rw[←HC.out] at hsk
   have hbad:Hid (za0 k c=false→zan s=false):=fun h=>zeu s k hlt (by rw[←HC.out];exact h)
   have hgood:Hid (za0 k c=true→∀ i,i<k+1→za0 i (zcf s i)=true):=fun h i hi=>by
    by_cases e:i=k
    ·
     subst e;rw[←HC.out];exact h
    ·
     exact HK.out i (by omega)
   rcases (show c≤47∨48≤c∧c≤57∨58≤c∧c≤64∨65≤c∧c≤90∨91≤c∧c≤94∨c=95∨c=96∨97≤c∧c≤122∨123≤c by omega) with hr|hr|hr|hr|hr|hr|hr|hr|hr
   ·
    have d0:decide ((65:Int)≤(c:Int))=false:=by simp;omega
    have d1:decide ((c:Int)≤90)=true:=by simp;omega
    have d2:decide ((97:Int)≤(c:Int))=false:=by simp;omega
    have d3:decide ((c:Int)≤122)=true:=by simp;omega
    have d4:decide ((48:Int)≤(c:Int))=false:=by simp;omega
    have d5:decide ((c:Int)≤57)=true:=by simp;omega
    have d6:((c:Int) == 95)=false:=by simp;omega
    by_cases h0:0<k
    ·
     have HV:Hid (zan s=false):=hbad.out (by unfold za0 zaP;simp;omega)
     clear hr
     go_wp2
     go_ret
     rw[HV.out]
     exact⟨rfl,rfl⟩
    ·
     have HV:Hid (zan s=false):=hbad.out (by unfold za0 zaP;simp;omega)
     clear hr
     go_wp2
     go_ret
     rw[HV.out]
     exact⟨rfl,rfl⟩
   ·
    have d0:decide ((65:Int)≤(c:Int))=false:=by simp;omega
    have d1:decide ((c:Int)≤90)=true:=by simp;omega
    have d2:decide ((97:Int)≤(c:Int))=false:=by simp;omega
    have d3:decide ((c:Int)≤122)=true:=by simp;omega
    have d4:decide ((48:Int)≤(c:Int))=true:=by simp;omega
    have d5:decide ((c:Int)≤57)=true:=by simp;omega
    have d6:((c:Int) == 95)=false:=by simp;omega
    by_cases h0:0<k
    ·
     have HG:Hid (∀ i,i<k+1→za0 i (zcf s i)=true):=hgood.out (by unfold za0 zaP;simp;omega)
     clear hr
     go_wp2
     go_round
     case rel=>exact⟨k+1,by omega,by go_num,HG.out⟩
     case measure=>simp[intOf];omega
    ·
     have HV:Hid (zan s=false):=hbad.out (by unfold za0 zaP;simp;omega)
     clear hr
     go_wp2
     go_ret
     rw[HV.out]
     exact⟨rfl,rfl⟩
   ·
    have d0:decide ((65:Int)≤(c:Int))=false:=by simp;omega
    have d1:decide ((c:Int)≤90)=true:=by simp;omega
    have d2:decide ((97:Int)≤(c:Int))=false:=by simp;omega
    have d3:decide ((c:Int)≤122)=true:=by simp;omega
    have d4:decide ((48:Int)≤(c:Int))=true:=by simp;omega
    have d5:decide ((c:Int)≤57)=false:=by simp;omega
    have d6:((c:Int) == 95)=false:=by simp;omega
    by_cases h0:0<k
    ·
     have HV:Hid (zan s=false):=hbad.out (by unfold za0 zaP;simp;omega)
     clear hr
     go_wp2
     go_ret
     rw[HV.out]
     exact⟨rfl,rfl⟩
    ·
     have HV:Hid (zan s=false):=hbad.out (by unfold za0 zaP;simp;omega)
     clear hr
     go_wp2
     go_ret
     rw[HV.out]
     exact⟨rfl,rfl⟩
   ·
    have d0:decide ((65:Int)≤(c:Int))=true:=by simp;omega
    have d1:decide ((c:Int)≤90)=true:=by simp;omega
    have d2:decide ((97:Int)≤(c:Int))=false:=by simp;omega
    have d3:decide ((c:Int)≤122)=true:=by simp;omega
    have d4:decide ((48:Int)≤(c:Int))=true:=by simp;omega
    have d5:decide ((c:Int)≤57)=false:=by simp;omega
    have d6:((c:Int) == 95)=false:=by simp;omega
    have HG:Hid (∀ i,i<k+1→za0 i (zcf s i)=true):=hgood.out (by unfold za0 zaP;simp;omega)
    clear hr
    go_wp2
    go_round
    case rel=>exact⟨k+1,by omega,by go_num,HG.out⟩
    case measure=>simp[intOf];omega
   ·
    have d0:decide ((65:Int)≤(c:Int))=true:=by simp;omega
    have d1:decide ((c:Int)≤90)=false:=by simp;omega
    have d2:decide ((97:Int)≤(c:Int))=false:=by simp;omega
    have d3:decide ((c:Int)≤122)=true:=by simp;omega
    have d4:decide ((48:Int)≤(c:Int))=true:=by simp;omega
    have d5:decide ((c:Int)≤57)=false:=by simp;omega
    have d6:((c:Int) == 95)=false:=by simp;omega
    by_cases h0:0<k
    ·
     have HV:Hid (zan s=false):=hbad.out (by unfold za0 zaP;simp;omega)
     clear hr
     go_wp2
     go_ret
     rw[HV.out]
     exact⟨rfl,rfl⟩
    ·
     have HV:Hid (zan s=false):=hbad.out (by unfold za0 zaP;simp;omega)
     clear hr
     go_wp2
     go_ret
     rw[HV.out]
     exact⟨rfl,rfl⟩
   ·
    have d0:decide ((65:Int)≤(c:Int))=true:=by simp;omega
    have d1:decide ((c:Int)≤90)=false:=by simp;omega
    have d2:decide ((97:Int)≤(c:Int))=false:=by simp;omega
    have d3:decide ((c:Int)≤122)=true:=by simp;omega
    have d4:decide ((48:Int)≤(c:Int))=true:=by simp;omega
    have d5:decide ((c:Int)≤57)=false:=by simp;omega
    have d6:((c:Int) == 95)=true:=by simp;omega
    have HG:Hid (∀ i,i<k+1→za0 i (zcf s i)=true):=hgood.out (by unfold za0 zaP;simp;omega)
    clear hr
    go_wp2
    go_round
    case rel=>exact⟨k+1,by omega,by go_num,HG.out⟩
    case measure=>simp[intOf];omega
   ·
    have d0:decide ((65:Int)≤(c:Int))=true:=by simp;omega
    have d1:decide ((c:Int)≤90)=false:=by simp;omega
    have d2:decide ((97:Int)≤(c:Int))=false:=by simp;omega
    have d3:decide ((c:Int)≤122)=true:=by simp;omega
    have d4:decide ((48:Int)≤(c:Int))=true:=by simp;omega
    have d5:decide ((c:Int)≤57)=false:=by simp;omega
    have d6:((c:Int) == 95)=false:=by simp;omega
    by_cases h0:0<k
    ·
     have HV:Hid (zan s=false):=hbad.out (by unfold za0 zaP;simp;omega)
     clear hr
     go_wp2
     go_ret
     rw[HV.out]
     exact⟨rfl,rfl⟩
    ·
     have HV:Hid (zan s=false):=hbad.out (by unfold za0 zaP;simp;omega)
     clear hr
     go_wp2
     go_ret
     rw[HV.out]
     exact⟨rfl,rfl⟩
   ·
    have d0:decide ((65:Int)≤(c:Int))=true:=by simp;omega
    have d1:decide ((c:Int)≤90)=false:=by simp;omega
    have d2:decide ((97:Int)≤(c:Int))=true:=by simp;omega
    have d3:decide ((c:Int)≤122)=true:=by simp;omega
    have d4:decide ((48:Int)≤(c:Int))=true:=by simp;omega
    have d5:decide ((c:Int)≤57)=false:=by simp;omega
    have d6:((c:Int) == 95)=false:=by simp;omega
    have HG:Hid (∀ i,i<k+1→za0 i (zcf s i)=true):=hgood.out (by unfold za0 zaP;simp;omega)
    clear hr
    go_wp2
    go_round
    case rel=>exact⟨k+1,by omega,by go_num,HG.out⟩
    case measure=>simp[intOf];omega
   ·
    have d0:decide ((65:Int)≤(c:Int))=true:=by simp;omega
    have d1:decide ((c:Int)≤90)=false:=by simp;omega
    have d2:decide ((97:Int)≤(c:Int))=true:=by simp;omega
    have d3:decide ((c:Int)≤122)=false:=by simp;omega
    have d4:decide ((48:Int)≤(c:Int))=true:=by simp;omega
    have d5:decide ((c:Int)≤57)=false:=by simp;omega
    have d6:((c:Int) == 95)=false:=by simp;omega
    by_cases h0:0<k
    ·
     have HV:Hid (zan s=false):=hbad.out (by unfold za0 zaP;simp;omega)
     clear hr
     go_wp2
     go_ret
     rw[HV.out]
     exact⟨rfl,rfl⟩
    ·
     have HV:Hid (zan s=false):=hbad.out (by unfold za0 zaP;simp;omega)
     clear hr
     go_wp2
     go_ret
     rw[HV.out]
     exact⟨rfl,rfl⟩
  ·
   have hv:Hid (zan s=decide (1≤s.size∧s.size≤60)):=zgF s fun i hi=>HK.out i (by omega)
   by_cases h0:1≤s.size
   all_goals
    go_wp2
    go_ret
    rw[hv.out]
    exact⟨zcG (by simp[h0] <;> omega),rfl⟩
end
section
open Go.RowKit
structure Fld where
 name:ByteArray
 number:Int
 kind:Int
 rep:Bool
 packed:Bool
 of:Int
def Fld.zero:Fld:=⟨⟨#[]⟩,0,0,false,false,0⟩
def Fld.cells (f:Fld):List Value:=[.string f.name,.int .i64 f.number,.int .i64 f.kind,.bool f.rep,.bool f.packed,.int .i64 f.of]
def Fld.val (f:Fld):Value:=.agg #[.string f.name,.int .i64 f.number,.int .i64 f.kind,.bool f.rep,.bool f.packed,.int .i64 f.of]
structure Fld.Ok (f:Fld):Prop where
 name:f.name.size≤140737488355328
 number:-9223372036854775808≤f.number∧f.number≤9223372036854775807
 kind:-9223372036854775808≤f.kind∧f.kind≤9223372036854775807
 of:-9223372036854775808≤f.of∧f.of≤9223372036854775807
structure Mes where
 name:ByteArray
 fields:List Fld
def Mes.zero:Mes:=⟨⟨#[]⟩,[]⟩
def za4 (w:World)(v:Value)(fs:List Fld):Prop:=Seg w v 6 fs.length (fs.flatMap Fld.cells)∧∀ f∈fs,f.Ok
def ze0 (x:Mes × Value):List Value:=[.string x.1.name,x.2]
def zaj (w:World)(v:Value)(s:List Mes):Prop:=
 ∃ fv:List Value,fv.length=s.length∧Seg w v 2 s.length ((s.zip fv).flatMap ze0)∧(∀ m∈s,m.name.size≤140737488355328)∧∀ i,i<s.length→za4 w (fv.getD i undef) (s.getD i .zero).fields
theorem za4.keep {w w':World}{v:Value}{fs:List Fld}(h:za4 w v fs)(hk:∀ p u,w.cell? p=some u→w'.cell? p=some u):za4 w' v fs:=⟨h.1.keep hk,h.2⟩
theorem zaj.keep {w w':World}{v:Value}{s:List Mes}(h:zaj w v s)(hk:∀ p u,w.cell? p=some u→w'.cell? p=some u):zaj w' v s:=by
 obtain⟨fv,h1,h2,h3,h4⟩:=h
 exact⟨fv,h1,h2.keep hk,h3,fun i hi=>(h4 i hi).keep hk⟩
theorem zaj.below {w w':World}{v:Value}{s:List Mes}(h:zaj w v s)(hb:Below w.heap.size w w'):zaj w' v s:=h.keep (zaa hb)
theorem za4.below {w w':World}{v:Value}{s:List Fld}(h:za4 w v s)(hb:Below w.heap.size w w'):za4 w' v s:=h.keep (zaa hb)
theorem ziw {α:Type}(f:α→List Value)(k:Nat)(hf:∀ x,(f x).length=k):∀ (l:List α) (i j:Nat) (x:α),l[i]?=some x→j<k→(l.flatMap f)[i*k+j]?=(f x)[j]?
 | [],_,_,_,h,_=>by simp at h
 | y::l,0,j,x,h,hj=>by
  simp at h
  subst h
  rw[List.flatMap_cons,Nat.zero_mul,Nat.zero_add,List.getElem?_append_left (by rw[hf];exact hj)]
 | y::l,i+1,j,x,h,hj=>by
  have:=ziw f k hf l i j x (by simpa using h) hj
  rw[List.flatMap_cons,List.getElem?_append_right (by rw[hf,Nat.succ_mul];omega),hf]
  rw[show (i+1)*k+j - k=i*k+j by rw[Nat.succ_mul];omega]
  exact this
theorem za4.open {w:World}{v:Value}{fs:List Fld}(h:za4 w v fs) :
  fs.length≤140737488355328∧∃ a cap,v= .slice a fs.length cap ∧
   ∀ k,k<fs.length→∃ b o,a=some ⟨b,o,none⟩∧(fs.getD k .zero).Ok∧w.cell? ⟨b,o+k*6,none⟩=some (.string (fs.getD k .zero).name)∧w.cell? ⟨b,o+k*6+1,none⟩=some (.int .i64 (fs.getD k .zero).number) ∧
    w.cell? ⟨b,o+k*6+2,none⟩=some (.int .i64 (fs.getD k .zero).kind)∧w.cell? ⟨b,o+k*6+3,none⟩=some (.bool (fs.getD k .zero).rep) ∧
    w.cell? ⟨b,o+k*6+4,none⟩=some (.bool (fs.getD k .zero).packed)∧w.cell? ⟨b,o+k*6+5,none⟩=some (.int .i64 (fs.getD k .zero).of):=by
 obtain⟨⟨_,h2,a,cap,hv,h3,h4,h5,h6⟩,hok⟩:=h
 refine⟨h2,a,cap,hv,fun k hk=>?_⟩
 have hx:fs[k]?=some (fs.getD k .zero):=by simp[List.getD,hk]
 have hc:=fun j (hj:j<6)=>ziw Fld.cells 6 (fun _=>rfl) fs k j _ hx hj
 have get:∀ j (hj:j<6) u,(fs.getD k .zero).cells[j]?=some u→∃ b o,a=some ⟨b,o,none⟩∧w.cell? ⟨b,o+k*6+j,none⟩=some u:=fun j hj u hu=>by
  obtain⟨b,o,ha,hcell⟩:=h6 _ u ((hc j hj).trans hu)
  exact⟨b,o,ha,by rw[Nat.add_assoc];exact hcell⟩
 obtain⟨b,o,ha,g0⟩:=get 0 (by omega) _ rfl
 have get':∀ j (hj:j<6) u,(fs.getD k .zero).cells[j]?=some u→w.cell? ⟨b,o+k*6+j,none⟩=some u:=fun j hj u hu=>by
  obtain⟨b',o',ha',hcell⟩:=get j hj u hu
  rw[ha] at ha'
  cases ha'
  exact hcell
 exact⟨b,o,ha,hok _ (List.mem_of_getElem? hx),g0,get' 1 (by omega) _ rfl,get' 2 (by omega) _ rfl,get' 3 (by omega) _ rfl,get' 4 (by omega) _ rfl,get' 5 (by omega) _ rfl⟩
theorem zaj.open {w:World}{v:Value}{s:List Mes}(h:zaj w v s) :
  s.length≤140737488355328∧∃ a cap,v= .slice a s.length cap ∧
   ∀ k,k<s.length→∃ b o fv,a=some ⟨b,o,none⟩∧(s.getD k .zero).name.size≤140737488355328∧w.cell? ⟨b,o+k*2,none⟩=some (.string (s.getD k .zero).name)∧w.cell? ⟨b,o+k*2+1,none⟩=some fv ∧
    za4 w fv (s.getD k .zero).fields:=by
 obtain⟨fv,hl,⟨_,h2,a,cap,hv,h3,h4,h5,h6⟩,hn,hf⟩:=h
 refine⟨h2,a,cap,hv,fun k hk=>?_⟩
 have hx:(s.zip fv)[k]?=some (s.getD k .zero,fv.getD k undef):=by
  rw[List.getElem?_zip_eq_some]
  simp[List.getD,hk,hl]
 have hc:=fun j (hj:j<2)=>ziw ze0 2 (fun _=>rfl) (s.zip fv) k j _ hx hj
 obtain⟨b,o,ha,g0⟩:=h6 _ _ ((hc 0 (by omega)).trans rfl)
 obtain⟨b',o',ha',g1⟩:=h6 _ _ ((hc 1 (by omega)).trans rfl)
 rw[ha] at ha'
 cases ha'
 have hx2:s[k]?=some (s.getD k .zero):=by simp[List.getD,hk]
 exact⟨b,o,_,ha,hn _ (List.mem_of_getElem? hx2),g0,by rw[Nat.add_assoc];exact g1,hf k hk⟩
theorem zjn {P:Program}{f:FuncId}{args:Array Value}{R:Ending→World→Prop}(W:World)(F:World→Prop)(hF:F W)(h:∀ w',F w'→Calls P f args w' R):Calls P f args W R:=h W hF
theorem zl1 (w:World)(r:Option Nat):w.grownBy w r:=⟨rfl,rfl,rfl,Nat.le_refl _,fun _ _ _=>rfl⟩
theorem zd9 {K:Type}[DecidableEq K]{w w':World}{r:Nat}{kv:K→Value}{es:List (K × Value)}(h:w.grownBy w' (some r)):w.grownBy (za9 w' r kv es) (some r):=
 ⟨h.os,h.tape,h.output,by rw[za6];exact h.size,fun k hk hr=>(zaT (fun e=>hr (by rw[e]))).trans (h.block k hk hr)⟩
end
end Go.Proofs.YtdpnmdkbdibkpaaGreatDoor
