/-
  Several texts in one: Cbr1 Crc1 Crc2 Sx7 Ite1 Irw Sxk Ite2 Sx8 Sx9 Rel2.
  Conditions: named at each.
-/
import Derived.Test.YtcdjakemdlinhaaGreatDoorG03
import Derived.MapKept
import Derived.ChangeMaps5
set_option maxHeartbeats 16000000
set_option linter.unusedSimpArgs false
set_option linter.unusedVariables false
set_option linter.unusedSectionVars false
namespace Go.Proofs.YtcdjakemdlinhaaGreatDoor.Sx
open Go.ChangeShapes Go.WideShapes Go.ChangeAt Go.RowKit Go.Deep
def shf(n:Nat)(k:Nat):UInt8:=UInt8.ofNat (IntKind.u8.wrap ((n:Int).fdiv (2^k))).toNat
theorem lP(n k i:Nat)(h:2^k=256^i):shf n k=UInt8.ofNat (n/256^i):=by
 unfold shf;have e:((n:Int).fdiv (2^k))=((n/2^k:Nat):Int):=by
  rw[Int.fdiv_eq_ediv_of_nonneg _ (by exact Int.le_of_lt (Int.pow_pos (by decide)))];simp
 rw[e,h];generalize n/256^i=m;have:IntKind.u8.wrap (m:Int)=((m%256:Nat):Int):=by simp[IntKind.wrap,IntKind.bits,IntKind.signed]
 rw[this];apply UInt8.toNat_inj.1;simp;omega
theorem aFu(n:Nat)(w:World)(h:n<2^8):CP 194 #[.int .u8 (n:Int),.int .i64 1] w (Ret (.string (B (Itm.dg n 1))) w):=by
 have d:IntKind.u64.wrap (n:Int)=(n:Int):=u64_in oW oW;refine dI 29 Tryz.func194 ?_;refine zQ 1 (zn (zQ 1 (aW (fun a=>(zq 1 (zn (zs (zQ 3 (zn (aB (eY (α:=Nat) (fun x=>match x with|0=>[0,1,4,5,10,11].zip [(.int .u8 (n:Int)),(I6 1),(St []),(Sl a 0 1 1),(I6 1),(I6 0)]|_=>[0,1,4,5,10,11].zip [(.int .u8 (n:Int)),(I6 1),(St []),(Sl a 0 1 1),(I6 1),(I6 1)]) (fun _=>View.no) (fun x=>match x with|0=>[(bK a [(.int .u8 0)] 5)]|_=>[(bK a [(.int .u8 (IntKind.u8.wrap (((n:Int)).fdiv (2^0))))] 5)]) (fun x=>x≤1) (fun x=>1-x) 0 oW ?_)))))))))));rintro x g;rcases(by omega:x=0∨x=1)with rfl|rfl
 ·refine zQ 1 (zn (zs (dP (zk (zs (aB (zQ 2 (zn (zr (zq 4 (dS 17 (U6 (IntKind.u64.wrap (n:Int))) (N6 n) (Ag (Value.int .u64) d) ?_)))))))))));refine zq 8 (aX 0 a (zn (zr (zq 2 (zn ?_)))));refine nx 1 oW (by show 1-1<1-0;omega)
 ·refine zQ 1 (zn (zs (dD (aK (zB [0,1,0] [(a,1)] (zn (aA (aO [4] [(St [UInt8.ofNat ((IntKind.u8.wrap (((n:Int)).fdiv (2^0))):Int).toNat])] (fun f c=>?_)))))))));refine⟨?_,c.below⟩;show Ending.returned (Value.string (B [shf n 0]))=_;rw[lP n 0 0 (by decide)];rfl
theorem aFt(n:Nat)(w:World)(h:n<2^16):CP 195 #[.int .u16 (n:Int),.int .i64 2] w (Ret (.string (B (Itm.dg n 2))) w):=by
 have c:IntKind.u64.wrap (n:Int)=(n:Int):=u64_in oW oW;refine dI 29 Tryz.func195 ?_;refine zQ 1 (zn (zQ 1 (aW (fun a=>(zq 1 (zn (zs (zQ 3 (zn (aB (eY (α:=Nat) (fun x=>match x with|0=>[0,1,4,5,10,11].zip [(.int .u16 (n:Int)),(I6 2),(St []),(Sl a 0 2 2),(I6 2),(I6 0)]|1=>[0,1,4,5,10,11].zip [(.int .u16 (n:Int)),(I6 2),(St []),(Sl a 0 2 2),(I6 2),(I6 1)]|_=>[0,1,4,5,10,11].zip [(.int .u16 (n:Int)),(I6 2),(St []),(Sl a 0 2 2),(I6 2),(I6 2)]) (fun _=>View.no) (fun x=>match x with|0=>[(bK a [(.int .u8 0),(.int .u8 0)] 5)]|1=>[(bK a [(.int .u8 (IntKind.u8.wrap (((n:Int)).fdiv (2^8)))),(.int .u8 0)] 5)]|_=>[(bK a [(.int .u8 (IntKind.u8.wrap (((n:Int)).fdiv (2^8)))),(.int .u8 (IntKind.u8.wrap (((n:Int)).fdiv (2^0))))] 5)]) (fun x=>x≤2) (fun x=>2-x) 0 oW ?_)))))))))));rintro x g;rcases(by omega:x=0∨x=1∨x=2)with rfl|rfl|rfl
 ·refine zQ 1 (zn (zs (dP (zk (zs (aB (zQ 2 (zn (zr (zq 4 (dS 17 (U6 (IntKind.u64.wrap (n:Int))) (N6 n) (Ag (Value.int .u64) c) ?_)))))))))));refine zq 8 (aX 0 a (zn (zr (zq 2 (zn ?_)))));refine nx 1 oW (by show 2-1<2-0;omega)
 ·refine zQ 1 (zn (zs (dP (zk (zs (aB (zQ 2 (zn (zr (zq 4 (dS 17 (U6 (IntKind.u64.wrap (n:Int))) (N6 n) (Ag (Value.int .u64) c) ?_)))))))))));refine zq 8 (aX 0 a (zn (zr (zq 2 (zn ?_)))));refine nx 2 oW (by show 2-2<2-1;omega)
 ·refine zQ 1 (zn (zs (dD (aK (zB [0,1,0] [(a,2)] (zn (aA (aO [4] [(St [UInt8.ofNat ((IntKind.u8.wrap (((n:Int)).fdiv (2^8))):Int).toNat,UInt8.ofNat ((IntKind.u8.wrap (((n:Int)).fdiv (2^0))):Int).toNat])] (fun f d=>?_)))))))));refine⟨?_,d.below⟩;show Ending.returned (Value.string (B [shf n 8,shf n 0]))=_;rw[lP n 8 1 (by decide),lP n 0 0 (by decide)];rfl
theorem aFs(n:Nat)(w:World)(h:n<2^32):CP 196 #[.int .u32 (n:Int),.int .i64 4] w (Ret (.string (B (Itm.dg n 4))) w):=by
 have c:IntKind.u64.wrap (n:Int)=(n:Int):=u64_in oW oW;refine dI 29 Tryz.func196 ?_;refine zQ 1 (zn (zQ 1 (aW (fun a=>(zq 1 (zn (zs (zQ 3 (zn (aB (eY (α:=Nat) (fun x=>match x with|0=>[0,1,4,5,10,11].zip [(.int .u32 (n:Int)),(I6 4),(St []),(Sl a 0 4 4),(I6 4),(I6 0)]|1=>[0,1,4,5,10,11].zip [(.int .u32 (n:Int)),(I6 4),(St []),(Sl a 0 4 4),(I6 4),(I6 1)]|2=>[0,1,4,5,10,11].zip [(.int .u32 (n:Int)),(I6 4),(St []),(Sl a 0 4 4),(I6 4),(I6 2)]|3=>[0,1,4,5,10,11].zip [(.int .u32 (n:Int)),(I6 4),(St []),(Sl a 0 4 4),(I6 4),(I6 3)]|_=>[0,1,4,5,10,11].zip [(.int .u32 (n:Int)),(I6 4),(St []),(Sl a 0 4 4),(I6 4),(I6 4)]) (fun _=>View.no) (fun x=>match x with|0=>[(bK a [(.int .u8 0),(.int .u8 0),(.int .u8 0),(.int .u8 0)] 5)]|1=>[(bK a [(.int .u8 (IntKind.u8.wrap (((n:Int)).fdiv (2^24)))),(.int .u8 0),(.int .u8 0),(.int .u8 0)] 5)]|2=>[(bK a [(.int .u8 (IntKind.u8.wrap (((n:Int)).fdiv (2^24)))),(.int .u8 (IntKind.u8.wrap (((n:Int)).fdiv (2^16)))),(.int .u8 0),(.int .u8 0)] 5)]|3=>[(bK a [(.int .u8 (IntKind.u8.wrap (((n:Int)).fdiv (2^24)))),(.int .u8 (IntKind.u8.wrap (((n:Int)).fdiv (2^16)))),(.int .u8 (IntKind.u8.wrap (((n:Int)).fdiv (2^8)))),(.int .u8 0)] 5)]|_=>[(bK a [(.int .u8 (IntKind.u8.wrap (((n:Int)).fdiv (2^24)))),(.int .u8 (IntKind.u8.wrap (((n:Int)).fdiv (2^16)))),(.int .u8 (IntKind.u8.wrap (((n:Int)).fdiv (2^8)))),(.int .u8 (IntKind.u8.wrap (((n:Int)).fdiv (2^0))))] 5)]) (fun x=>x≤4) (fun x=>4-x) 0 oW ?_)))))))))));rintro x g;rcases(by omega:x=0∨x=1∨x=2∨x=3∨x=4)with rfl|rfl|rfl|rfl|rfl
 ·refine zQ 1 (zn (zs (dP (zk (zs (aB (zQ 2 (zn (zr (zq 4 (dS 17 (U6 (IntKind.u64.wrap (n:Int))) (N6 n) (Ag (Value.int .u64) c) ?_)))))))))));refine zq 8 (aX 0 a (zn (zr (zq 2 (zn ?_)))));refine nx 1 oW (by show 4-1<4-0;omega)
 ·refine zQ 1 (zn (zs (dP (zk (zs (aB (zQ 2 (zn (zr (zq 4 (dS 17 (U6 (IntKind.u64.wrap (n:Int))) (N6 n) (Ag (Value.int .u64) c) ?_)))))))))));refine zq 8 (aX 0 a (zn (zr (zq 2 (zn ?_)))));refine nx 2 oW (by show 4-2<4-1;omega)
 ·refine zQ 1 (zn (zs (dP (zk (zs (aB (zQ 2 (zn (zr (zq 4 (dS 17 (U6 (IntKind.u64.wrap (n:Int))) (N6 n) (Ag (Value.int .u64) c) ?_)))))))))));refine zq 8 (aX 0 a (zn (zr (zq 2 (zn ?_)))));refine nx 3 oW (by show 4-3<4-2;omega)
 ·refine zQ 1 (zn (zs (dP (zk (zs (aB (zQ 2 (zn (zr (zq 4 (dS 17 (U6 (IntKind.u64.wrap (n:Int))) (N6 n) (Ag (Value.int .u64) c) ?_)))))))))));refine zq 8 (aX 0 a (zn (zr (zq 2 (zn ?_)))));refine nx 4 oW (by show 4-4<4-3;omega)
 ·refine zQ 1 (zn (zs (dD (aK (zB [0,1,0] [(a,4)] (zn (aA (aO [4] [(St [UInt8.ofNat ((IntKind.u8.wrap (((n:Int)).fdiv (2^24))):Int).toNat,UInt8.ofNat ((IntKind.u8.wrap (((n:Int)).fdiv (2^16))):Int).toNat,UInt8.ofNat ((IntKind.u8.wrap (((n:Int)).fdiv (2^8))):Int).toNat,UInt8.ofNat ((IntKind.u8.wrap (((n:Int)).fdiv (2^0))):Int).toNat])] (fun f d=>?_)))))))));refine⟨?_,d.below⟩;show Ending.returned (Value.string (B [shf n 24,shf n 16,shf n 8,shf n 0]))=_;rw[lP n 24 3 (by decide),lP n 16 2 (by decide),lP n 8 1 (by decide),lP n 0 0 (by decide)];rfl
theorem aFr(n:Nat)(w:World)(h:n<2^64):CP 197 #[.int .u64 (n:Int),.int .i64 8] w (Ret (.string (B (Itm.dg n 8))) w):=by
 have f:IntKind.u64.wrap (n:Int)=(n:Int):=u64_in oW oW;refine dI 28 Tryz.func197 ?_;refine zQ 1 (zn (zQ 1 (aW (fun a=>(zq 1 (zn (zs (zQ 3 (zn (aB (eY (α:=Nat) (fun x=>match x with|0=>[0,1,4,5,10,11].zip [(N6 n),(I6 8),(St []),(Sl a 0 8 8),(I6 8),(I6 0)]|1=>[0,1,4,5,10,11].zip [(N6 n),(I6 8),(St []),(Sl a 0 8 8),(I6 8),(I6 1)]|2=>[0,1,4,5,10,11].zip [(N6 n),(I6 8),(St []),(Sl a 0 8 8),(I6 8),(I6 2)]|3=>[0,1,4,5,10,11].zip [(N6 n),(I6 8),(St []),(Sl a 0 8 8),(I6 8),(I6 3)]|4=>[0,1,4,5,10,11].zip [(N6 n),(I6 8),(St []),(Sl a 0 8 8),(I6 8),(I6 4)]|5=>[0,1,4,5,10,11].zip [(N6 n),(I6 8),(St []),(Sl a 0 8 8),(I6 8),(I6 5)]|6=>[0,1,4,5,10,11].zip [(N6 n),(I6 8),(St []),(Sl a 0 8 8),(I6 8),(I6 6)]|7=>[0,1,4,5,10,11].zip [(N6 n),(I6 8),(St []),(Sl a 0 8 8),(I6 8),(I6 7)]|_=>[0,1,4,5,10,11].zip [(N6 n),(I6 8),(St []),(Sl a 0 8 8),(I6 8),(I6 8)]) (fun _=>View.no) (fun x=>match x with|0=>[(bK a [(.int .u8 0),(.int .u8 0),(.int .u8 0),(.int .u8 0),(.int .u8 0),(.int .u8 0),(.int .u8 0),(.int .u8 0)] 5)]|1=>[(bK a [(.int .u8 (IntKind.u8.wrap (((n:Int)).fdiv (2^56)))),(.int .u8 0),(.int .u8 0),(.int .u8 0),(.int .u8 0),(.int .u8 0),(.int .u8 0),(.int .u8 0)] 5)]|2=>[(bK a [(.int .u8 (IntKind.u8.wrap (((n:Int)).fdiv (2^56)))),(.int .u8 (IntKind.u8.wrap (((n:Int)).fdiv (2^48)))),(.int .u8 0),(.int .u8 0),(.int .u8 0),(.int .u8 0),(.int .u8 0),(.int .u8 0)] 5)]|3=>[(bK a [(.int .u8 (IntKind.u8.wrap (((n:Int)).fdiv (2^56)))),(.int .u8 (IntKind.u8.wrap (((n:Int)).fdiv (2^48)))),(.int .u8 (IntKind.u8.wrap (((n:Int)).fdiv (2^40)))),(.int .u8 0),(.int .u8 0),(.int .u8 0),(.int .u8 0),(.int .u8 0)] 5)]|4=>[(bK a [(.int .u8 (IntKind.u8.wrap (((n:Int)).fdiv (2^56)))),(.int .u8 (IntKind.u8.wrap (((n:Int)).fdiv (2^48)))),(.int .u8 (IntKind.u8.wrap (((n:Int)).fdiv (2^40)))),(.int .u8 (IntKind.u8.wrap (((n:Int)).fdiv (2^32)))),(.int .u8 0),(.int .u8 0),(.int .u8 0),(.int .u8 0)] 5)]|5=>[(bK a [(.int .u8 (IntKind.u8.wrap (((n:Int)).fdiv (2^56)))),(.int .u8 (IntKind.u8.wrap (((n:Int)).fdiv (2^48)))),(.int .u8 (IntKind.u8.wrap (((n:Int)).fdiv (2^40)))),(.int .u8 (IntKind.u8.wrap (((n:Int)).fdiv (2^32)))),(.int .u8 (IntKind.u8.wrap (((n:Int)).fdiv (2^24)))),(.int .u8 0),(.int .u8 0),(.int .u8 0)] 5)]|6=>[(bK a [(.int .u8 (IntKind.u8.wrap (((n:Int)).fdiv (2^56)))),(.int .u8 (IntKind.u8.wrap (((n:Int)).fdiv (2^48)))),(.int .u8 (IntKind.u8.wrap (((n:Int)).fdiv (2^40)))),(.int .u8 (IntKind.u8.wrap (((n:Int)).fdiv (2^32)))),(.int .u8 (IntKind.u8.wrap (((n:Int)).fdiv (2^24)))),(.int .u8 (IntKind.u8.wrap (((n:Int)).fdiv (2^16)))),(.int .u8 0),(.int .u8 0)] 5)]|7=>[(bK a [(.int .u8 (IntKind.u8.wrap (((n:Int)).fdiv (2^56)))),(.int .u8 (IntKind.u8.wrap (((n:Int)).fdiv (2^48)))),(.int .u8 (IntKind.u8.wrap (((n:Int)).fdiv (2^40)))),(.int .u8 (IntKind.u8.wrap (((n:Int)).fdiv (2^32)))),(.int .u8 (IntKind.u8.wrap (((n:Int)).fdiv (2^24)))),(.int .u8 (IntKind.u8.wrap (((n:Int)).fdiv (2^16)))),(.int .u8 (IntKind.u8.wrap (((n:Int)).fdiv (2^8)))),(.int .u8 0)] 5)]|_=>[(bK a [(.int .u8 (IntKind.u8.wrap (((n:Int)).fdiv (2^56)))),(.int .u8 (IntKind.u8.wrap (((n:Int)).fdiv (2^48)))),(.int .u8 (IntKind.u8.wrap (((n:Int)).fdiv (2^40)))),(.int .u8 (IntKind.u8.wrap (((n:Int)).fdiv (2^32)))),(.int .u8 (IntKind.u8.wrap (((n:Int)).fdiv (2^24)))),(.int .u8 (IntKind.u8.wrap (((n:Int)).fdiv (2^16)))),(.int .u8 (IntKind.u8.wrap (((n:Int)).fdiv (2^8)))),(.int .u8 (IntKind.u8.wrap (((n:Int)).fdiv (2^0))))] 5)]) (fun x=>x≤8) (fun x=>8-x) 0 oW ?_)))))))))))
 rintro x g;rcases(by omega:x=0∨x=1∨x=2∨x=3∨x=4∨x=5∨x=6∨x=7∨x=8)with rfl|rfl|rfl|rfl|rfl|rfl|rfl|rfl|rfl
 ·refine zQ 1 (zn (zs (dP (zk (zs (aB (zQ 2 (zn (zr (zq 11 (aX 0 a (zn (zr (zq 2 (zn ?_)))))))))))))));refine nx 1 oW (by show 8-1<8-0;omega)
 ·refine zQ 1 (zn (zs (dP (zk (zs (aB (zQ 2 (zn (zr (zq 11 (aX 0 a (zn (zr (zq 2 (zn ?_)))))))))))))));refine nx 2 oW (by show 8-2<8-1;omega)
 ·refine zQ 1 (zn (zs (dP (zk (zs (aB (zQ 2 (zn (zr (zq 11 (aX 0 a (zn (zr (zq 2 (zn ?_)))))))))))))));refine nx 3 oW (by show 8-3<8-2;omega)
 ·refine zQ 1 (zn (zs (dP (zk (zs (aB (zQ 2 (zn (zr (zq 11 (aX 0 a (zn (zr (zq 2 (zn ?_)))))))))))))));refine nx 4 oW (by show 8-4<8-3;omega)
 ·refine zQ 1 (zn (zs (dP (zk (zs (aB (zQ 2 (zn (zr (zq 11 (aX 0 a (zn (zr (zq 2 (zn ?_)))))))))))))));refine nx 5 oW (by show 8-5<8-4;omega)
 ·refine zQ 1 (zn (zs (dP (zk (zs (aB (zQ 2 (zn (zr (zq 11 (aX 0 a (zn (zr (zq 2 (zn ?_)))))))))))))));refine nx 6 oW (by show 8-6<8-5;omega)
 ·refine zQ 1 (zn (zs (dP (zk (zs (aB (zQ 2 (zn (zr (zq 11 (aX 0 a (zn (zr (zq 2 (zn ?_)))))))))))))));refine nx 7 oW (by show 8-7<8-6;omega)
 ·refine zQ 1 (zn (zs (dP (zk (zs (aB (zQ 2 (zn (zr (zq 11 (aX 0 a (zn (zr (zq 2 (zn ?_)))))))))))))));refine nx 8 oW (by show 8-8<8-7;omega)
 ·refine zQ 1 (zn (zs (dD (aK (zB [0,1,0] [(a,8)] (zn (aA (aO [4] [(St [UInt8.ofNat ((IntKind.u8.wrap (((n:Int)).fdiv (2^56))):Int).toNat,UInt8.ofNat ((IntKind.u8.wrap (((n:Int)).fdiv (2^48))):Int).toNat,UInt8.ofNat ((IntKind.u8.wrap (((n:Int)).fdiv (2^40))):Int).toNat,UInt8.ofNat ((IntKind.u8.wrap (((n:Int)).fdiv (2^32))):Int).toNat,UInt8.ofNat ((IntKind.u8.wrap (((n:Int)).fdiv (2^24))):Int).toNat,UInt8.ofNat ((IntKind.u8.wrap (((n:Int)).fdiv (2^16))):Int).toNat,UInt8.ofNat ((IntKind.u8.wrap (((n:Int)).fdiv (2^8))):Int).toNat,UInt8.ofNat ((IntKind.u8.wrap (((n:Int)).fdiv (2^0))):Int).toNat])] (fun d c=>?_)))))))));refine⟨?_,c.below⟩;show Ending.returned (Value.string (B [shf n 56,shf n 48,shf n 40,shf n 32,shf n 24,shf n 16,shf n 8,shf n 0]))=_;rw[lP n 56 7 (by decide),lP n 48 6 (by decide),lP n 40 5 (by decide),lP n 32 4 (by decide),lP n 24 3 (by decide),lP n 16 2 (by decide),lP n 8 1 (by decide),lP n 0 0 (by decide)];rfl
theorem u8_in{x:Int}(a:0≤x)(c:x<256):IntKind.u8.wrap x=x:=by
 simp[IntKind.wrap,IntKind.bits,IntKind.signed];omega
theorem u16_in{x:Int}(a:0≤x)(c:x<65536):IntKind.u16.wrap x=x:=by
 simp[IntKind.wrap,IntKind.bits,IntKind.signed];omega
theorem u32_in{x:Int}(a:0≤x)(c:x<4294967296):IntKind.u32.wrap x=x:=by
 simp[IntKind.wrap,IntKind.bits,IntKind.signed];omega
theorem aOg:∀m:Fin 8,∀c:Fin 32,UInt8.ofNat (orI .u8 (IntKind.u8.wrap ((m.val:Int)*2^5)) (c.val:Int)).toNat=UInt8.ofNat (32*m.val+c.val):=by decide +kernel
theorem orb(m c:Nat)(hm:m≤7)(a:c<32):UInt8.ofNat (orI .u8 (IntKind.u8.wrap ((m:Int)*2^5)) (c:Int)).toNat=UInt8.ofNat (32*m+c):=aOg ⟨m,by omega⟩ ⟨c,a⟩
set_option maxRecDepth 100000 in
theorem iX(m n:Nat)(w:World)(hm:m≤7)(C:n<W64):CP 144 #[.int .i64 (m:Int),.int .u64 (n:Int)] w (Ret (.string (B (Itm.aE m n))) w):=by
 have j:decide ((m:Int)<0)=false:=Ba oW;have k:decide ((m:Int)>7)=false:=Ba oW;unfold W64 at C;have D:=Itm.eW n 1;have E:=Itm.eW n 2;have F:=Itm.eW n 4;have G:=Itm.eW n 8;refine dI 64 Tryz.func144 ?_;refine zQ 1 (zn (zs (zQ 3 (dS 8 (.bool (decide ((m:Int)<0))) (.bool false) (Ag Value.bool j) ?_))));refine zq 3 (zn (dO (decide ((m:Int)>7)) k ?_));refine zk (zQ 2 (eC 13 ((m:Int)*2^5) (zq 2 (zn (zs (aB (zQ 3 (zn (cE ((n:Int)<24) (fun u d=>?_) (fun u d=>?_))))))))))
 ·refine zQ 3 (dS 20 (.int .u8 (IntKind.u8.wrap (n:Int))) (.int .u8 (n:Int)) (Ag (Value.int .u8) (u8_in oW oW)) ?_);refine zq 1 (aW (fun q=>(cG [1,0] [(q,1)] (zn (aA (aO [4] [(St [UInt8.ofNat ((orI .u8 (IntKind.u8.wrap ((m:Int)*2^5)) (n:Int)):Int).toNat])] (fun c a=>?_)))))));refine⟨?_,a.below⟩;show Ending.returned (Value.string (B [UInt8.ofNat ((orI .u8 (IntKind.u8.wrap ((m:Int)*2^5)) (n:Int)):Int).toNat]))=_;rw[Itm.aE,Ar oW,orb m n hm oW]
  try rfl
 ·refine zQ 3 (zn (cE ((n:Int)<256) (fun x f=>?_) (fun x f=>?_)))
  ·refine zs ?_;refine iM 3 [0,0,1,1,0,1,1] [] [.blk (fun r=>(Sl r 0 1 1)) (oK [(.int .u8 (orI .u8 (IntKind.u8.wrap ((m:Int)*2^5)) 24))] 5),.val (St [UInt8.ofNat ((orI .u8 (IntKind.u8.wrap ((m:Int)*2^5)) 24):Int).toNat]),.val (.int .u8 (n:Int)),.val (St (Itm.dg n 1))] ⟨?_,?_,?_,?_,trivial⟩ ?_
   ·exact vN
   ·exact vB 2 1 29 (fun r=>(Sl r 0 1 1)) [(.int .u8 (orI .u8 (IntKind.u8.wrap ((m:Int)*2^5)) 24))] 5
   ·exact vE (.int .u8 (IntKind.u8.wrap (n:Int))) (Ag (Value.int .u8) (u8_in oW oW))
   ·exact vC 194 #[(.int .u8 (n:Int)),(I6 1)] (fun W a=>aFu n W oW)
   refine cD (St ([UInt8.ofNat ((orI .u8 (IntKind.u8.wrap ((m:Int)*2^5)) 24):Int).toNat]++(Itm.dg n 1))) (cB _ _ _ _ rfl [UInt8.ofNat ((orI .u8 (IntKind.u8.wrap ((m:Int)*2^5)) 24):Int).toNat] (Itm.dg n 1) kR kR oA) ?_;refine zq 1 (zn (aA (aO [4] [(St ([UInt8.ofNat ((orI .u8 (IntKind.u8.wrap ((m:Int)*2^5)) 24):Int).toNat]++(Itm.dg n 1)))] (fun c a=>?_))));refine⟨?_,a.below⟩;show Ending.returned (Value.string (B ([UInt8.ofNat ((orI .u8 (IntKind.u8.wrap ((m:Int)*2^5)) 24):Int).toNat]++(Itm.dg n 1))))=_;rw[Itm.aE,An oW,Ar oW,(show UInt8.ofNat (orI .u8 (IntKind.u8.wrap ((m:Int)*2^5)) 24).toNat=UInt8.ofNat (32*m+24)from orb m 24 hm oW)]
   try rfl
  ·refine zQ 3 (zn (cE ((n:Int)<65536) (fun y g=>?_) (fun y g=>?_)))
   ·refine zs ?_;refine iM 3 [0,0,1,1,0,1,1] [] [.blk (fun r=>(Sl r 0 1 1)) (oK [(.int .u8 (orI .u8 (IntKind.u8.wrap ((m:Int)*2^5)) 25))] 5),.val (St [UInt8.ofNat ((orI .u8 (IntKind.u8.wrap ((m:Int)*2^5)) 25):Int).toNat]),.val (.int .u16 (n:Int)),.val (St (Itm.dg n 2))] ⟨?_,?_,?_,?_,trivial⟩ ?_
    ·exact vN
    ·exact vB 2 1 40 (fun r=>(Sl r 0 1 1)) [(.int .u8 (orI .u8 (IntKind.u8.wrap ((m:Int)*2^5)) 25))] 5
    ·exact vE (.int .u16 (IntKind.u16.wrap (n:Int))) (Ag (Value.int .u16) (u16_in oW oW))
    ·exact vC 195 #[(.int .u16 (n:Int)),(I6 2)] (fun W a=>aFt n W oW)
    refine cD (St ([UInt8.ofNat ((orI .u8 (IntKind.u8.wrap ((m:Int)*2^5)) 25):Int).toNat]++(Itm.dg n 2))) (cB _ _ _ _ rfl [UInt8.ofNat ((orI .u8 (IntKind.u8.wrap ((m:Int)*2^5)) 25):Int).toNat] (Itm.dg n 2) kR kR oA) ?_;refine zq 1 (zn (aA (aO [4] [(St ([UInt8.ofNat ((orI .u8 (IntKind.u8.wrap ((m:Int)*2^5)) 25):Int).toNat]++(Itm.dg n 2)))] (fun c a=>?_))));refine⟨?_,a.below⟩;show Ending.returned (Value.string (B ([UInt8.ofNat ((orI .u8 (IntKind.u8.wrap ((m:Int)*2^5)) 25):Int).toNat]++(Itm.dg n 2))))=_;rw[Itm.aE,An oW,An oW,Ar oW,(show UInt8.ofNat (orI .u8 (IntKind.u8.wrap ((m:Int)*2^5)) 25).toNat=UInt8.ofNat (32*m+25)from orb m 25 hm oW)]
    try rfl
   ·refine zQ 3 (zn (cE ((n:Int)<4294967296) (fun A h=>?_) (fun A h=>?_)))
    ·refine zs ?_;refine iM 3 [0,0,1,1,0,1,1] [] [.blk (fun r=>(Sl r 0 1 1)) (oK [(.int .u8 (orI .u8 (IntKind.u8.wrap ((m:Int)*2^5)) 26))] 5),.val (St [UInt8.ofNat ((orI .u8 (IntKind.u8.wrap ((m:Int)*2^5)) 26):Int).toNat]),.val (.int .u32 (n:Int)),.val (St (Itm.dg n 4))] ⟨?_,?_,?_,?_,trivial⟩ ?_
     ·exact vN
     ·exact vB 2 1 51 (fun r=>(Sl r 0 1 1)) [(.int .u8 (orI .u8 (IntKind.u8.wrap ((m:Int)*2^5)) 26))] 5
     ·exact vE (.int .u32 (IntKind.u32.wrap (n:Int))) (Ag (Value.int .u32) (u32_in oW oW))
     ·exact vC 196 #[(.int .u32 (n:Int)),(I6 4)] (fun W a=>aFs n W oW)
     refine cD (St ([UInt8.ofNat ((orI .u8 (IntKind.u8.wrap ((m:Int)*2^5)) 26):Int).toNat]++(Itm.dg n 4))) (cB _ _ _ _ rfl [UInt8.ofNat ((orI .u8 (IntKind.u8.wrap ((m:Int)*2^5)) 26):Int).toNat] (Itm.dg n 4) kR kR oA) ?_;refine zq 1 (zn (aA (aO [4] [(St ([UInt8.ofNat ((orI .u8 (IntKind.u8.wrap ((m:Int)*2^5)) 26):Int).toNat]++(Itm.dg n 4)))] (fun c a=>?_))));refine⟨?_,a.below⟩;show Ending.returned (Value.string (B ([UInt8.ofNat ((orI .u8 (IntKind.u8.wrap ((m:Int)*2^5)) 26):Int).toNat]++(Itm.dg n 4))))=_;rw[Itm.aE,An oW,An oW,An oW,Ar oW,(show UInt8.ofNat (orI .u8 (IntKind.u8.wrap ((m:Int)*2^5)) 26).toNat=UInt8.ofNat (32*m+26)from orb m 26 hm oW)]
     try rfl
    ·refine zk (zs ?_);refine iM 3 [0,0,1,1,0,1] [] [.blk (fun r=>(Sl r 0 1 1)) (oK [(.int .u8 (orI .u8 (IntKind.u8.wrap ((m:Int)*2^5)) 27))] 5),.val (St [UInt8.ofNat ((orI .u8 (IntKind.u8.wrap ((m:Int)*2^5)) 27):Int).toNat]),.val (St (Itm.dg n 8))] ⟨?_,?_,?_,trivial⟩ ?_
     ·exact vN
     ·exact vB 2 1 59 (fun r=>(Sl r 0 1 1)) [(.int .u8 (orI .u8 (IntKind.u8.wrap ((m:Int)*2^5)) 27))] 5
     ·exact vC 197 #[(N6 n),(I6 8)] (fun W a=>aFr n W oW)
     refine cD (St ([UInt8.ofNat ((orI .u8 (IntKind.u8.wrap ((m:Int)*2^5)) 27):Int).toNat]++(Itm.dg n 8))) (cB _ _ _ _ rfl [UInt8.ofNat ((orI .u8 (IntKind.u8.wrap ((m:Int)*2^5)) 27):Int).toNat] (Itm.dg n 8) kR kR oA) ?_;refine zq 1 (zn (aA (aO [4] [(St ([UInt8.ofNat ((orI .u8 (IntKind.u8.wrap ((m:Int)*2^5)) 27):Int).toNat]++(Itm.dg n 8)))] (fun c a=>?_))));refine⟨?_,a.below⟩;show Ending.returned (Value.string (B ([UInt8.ofNat ((orI .u8 (IntKind.u8.wrap ((m:Int)*2^5)) 27):Int).toNat]++(Itm.dg n 8))))=_;rw[Itm.aE,An oW,An oW,An oW,An oW,(show UInt8.ofNat (orI .u8 (IntKind.u8.wrap ((m:Int)*2^5)) 27).toNat=UInt8.ofNat (32*m+27)from orb m 27 hm oW)]
     try rfl
def aCW(k:IntKind)(y x:Int):Int:=if iY k x 1==1 then aIU k (x.fdiv (2^1)) y else x.fdiv (2^1)
def pC(k : IntKind)(y : Int) : Nat → Int → Int
 |0,x=>x
 |n+1,x=>pC k y n (aCW k y x)
def aDS(k:IntKind)(y x:Int)(c:UInt8):Int:=pC k y 8 (aIU k x (k.wrap (c.toNat:Int)))
def aIW(k:IntKind)(y x:Int)(l:List UInt8):Int:=l.foldl (aDS k y) x
theorem qT{k:IntKind}{y x:Int}{i:Nat}(h:i<8):pC k y (8-i) x=pC k y (8-(i+1)) (aCW k y x):=by
 rw[show 8-i=(8-(i+1))+1 by omega,pC]
theorem aE3{k:IntKind}{y x:Int}{l:List UInt8}{i:Nat}{c:UInt8}(h:l[i]? =some c):aIW k y x (l.drop i)=aIW k y (aDS k y x c) (l.drop (i+1)):=by
 obtain⟨a,rfl⟩:=Af.1 h;rw[Bx a];rfl
theorem aDR(x y:Int)(l:List UInt8)(w:World)(N:l.length≤R47):CP 267 #[.int .u16 x,.int .u16 y,.string (B l)] w (Ret (.int .u16 (aIW .u16 y x l)) w):=by
 unfold R47 at N;obtain⟨h,E⟩:∃h,h=x:=⟨_,rfl⟩;rw[←E];refine dI 34 Tryz.func267 ?_;refine zQ 1 (zn (zs (zQ 1 ?_)));refine aDm 9 160 5 (.tmp 9) rfl l kR kR kR kR kR kR (fun f j F M A K=>?_);have D:=aGC.of A (by first|assumption|omega);refine zq 2 (zn (aB (eY (α:=Nat×Int) (fun x=>[0,1,6,10,11,12].zip [(.int .u16 x.2),(.int .u16 y),(.int .u16 0),(Sl f 0 l.length j),(L6 l.length),(L6 x.1)]) (fun x=>F) (fun x=>[]) (fun x=>x.1≤l.length∧aIW .u16 y x.2 (l.drop x.1)=aIW .u16 y h l) (fun x=>l.length-x.1) (0,h) ?_ ?_)))
 ·exact⟨by simp,rfl⟩
 intro x O;obtain⟨V,c⟩:=O;refine zQ 1 (zn (zs (cE ((x.1:Int)<(l.length:Int)) (fun I k=>?_) (fun I k=>?_))))
 ·refine zk (zs (aB (zs (zr ?_))));obtain⟨a,g⟩:∃y,(l)[x.1]? =some y:=⟨(l)[x.1]'oW,Aa _⟩;obtain⟨b1,f1,G,C⟩:=D.one g;cases G;refine cD (Pt f (0+x.1)) (eQ _ 5 _ _ rfl f 0 l.length j x.1 .i64 kR kR (by first|assumption|omega) kR kR) ?_;refine zV f (0+x.1) (.int .u8 (a.toNat:Int)) C 5 (.tmp 14) _ Tryz.underlying5 rfl ?_;refine zq 1 (zn (zQ 5 (zn (zQ 1 (zn (aB (eY (α:=Nat×Int) (fun z=>[0,1,6,8,10,11,12,13,14,15,16,17,18,19,20].zip [(.int .u16 z.2),(.int .u16 y),(.int .u16 0),(.int .u8 (a.toNat:Int)),(Sl f 0 l.length j),(L6 l.length),(L6 x.1),(.bool (decide ((x.1:Int)<(l.length:Int)))),(Pt f (0+x.1)),(.int .u8 (a.toNat:Int)),(.int .u16 x.2),(.int .u8 (a.toNat:Int)),(.int .u16 (IntKind.u16.wrap (a.toNat:Int))),(.int .u16 (aIU .u16 x.2 (IntKind.u16.wrap (a.toNat:Int)))),(L6 z.1)]) (fun z=>F) (fun z=>[]) (fun z=>z.1≤8∧pC .u16 y (8-z.1) z.2=pC .u16 y 8 (aIU .u16 x.2 (IntKind.u16.wrap (a.toNat:Int)))) (fun z=>8-z.1) (0,(aIU .u16 x.2 (IntKind.u16.wrap (a.toNat:Int)))) ?_ ?_)))))))
  ·exact⟨by simp,rfl⟩
  intro z X;obtain⟨Y,d⟩:=X;refine zQ 1 (zn (zs (cE ((z.1:Int)<8) (fun J q=>?_) (fun J q=>?_))))
  ·refine zk (zs (aB (zQ 3 (zn (fQ (iY .u16 z.2 1) 1 (fun r u=>?_) (fun r u=>?_))))))
   ·refine zr (zq 5 (zn (zr (zq 1 (eC 31 ((z.1:Int)+1) (zq 1 (zn ?_)))))));refine nx (z.1+1,(aIU .u16 ((z.2).fdiv (2^1)) y)) ?_ ?_
    ·exact⟨by show z.1+1≤8;omega,by rw[←d,qT (i:=z.1) (x:=z.2) oW,aCW];simp only[r,if_true,if_false,Av]⟩
    ·show 8-(z.1+1)<8-z.1;omega
   ·refine zr (zq 3 (zn (zr (zq 1 (eC 31 ((z.1:Int)+1) (zq 1 (zn ?_)))))));refine nx (z.1+1,((z.2).fdiv (2^1))) ?_ ?_
    ·exact⟨by show z.1+1≤8;omega,by rw[←d,qT (i:=z.1) (x:=z.2) oW,aCW];simp only[r,if_true,if_false,Av]⟩
    ·show 8-(z.1+1)<8-z.1;omega
  ·refine aK (zr (zq 1 (eC 32 ((x.1:Int)+1) (zq 1 (zn ?_)))));refine nx (x.1+1,z.2) ?_ ?_
   ·exact⟨by show x.1+1≤_;omega,by rw[←c,aE3 g,aDS,←d,show 8-z.1=0 by omega];rfl⟩
   ·show l.length-(x.1+1)<l.length-x.1;omega
 ·refine aK (zQ 2 (zn (aA (aO [6] [(.int .u16 x.2)] (fun Z L=>?_)))));exact⟨by rw[show x.1=l.length by omega,Ex]at c;rw[←c];rfl,L.below⟩
theorem aDQ(x y:Int)(l:List UInt8)(w:World)(N:l.length≤R47):CP 268 #[.int .u32 x,.int .u32 y,.string (B l)] w (Ret (.int .u32 (aIW .u32 y x l)) w):=by
 unfold R47 at N;obtain⟨h,E⟩:∃h,h=x:=⟨_,rfl⟩;rw[←E];refine dI 34 Tryz.func268 ?_;refine zQ 1 (zn (zs (zQ 1 ?_)));refine aDm 9 160 5 (.tmp 9) rfl l kR kR kR kR kR kR (fun f j F M A K=>?_);have D:=aGC.of A (by first|assumption|omega);refine zq 2 (zn (aB (eY (α:=Nat×Int) (fun x=>[0,1,6,10,11,12].zip [(.int .u32 x.2),(.int .u32 y),(.int .u32 0),(Sl f 0 l.length j),(L6 l.length),(L6 x.1)]) (fun x=>F) (fun x=>[]) (fun x=>x.1≤l.length∧aIW .u32 y x.2 (l.drop x.1)=aIW .u32 y h l) (fun x=>l.length-x.1) (0,h) ?_ ?_)))
 ·exact⟨by simp,rfl⟩
 intro x O;obtain⟨V,c⟩:=O;refine zQ 1 (zn (zs (cE ((x.1:Int)<(l.length:Int)) (fun I k=>?_) (fun I k=>?_))))
 ·refine zk (zs (aB (zs (zr ?_))));obtain⟨a,g⟩:∃y,(l)[x.1]? =some y:=⟨(l)[x.1]'oW,Aa _⟩;obtain⟨b1,f1,G,C⟩:=D.one g;cases G;refine cD (Pt f (0+x.1)) (eQ _ 5 _ _ rfl f 0 l.length j x.1 .i64 kR kR (by first|assumption|omega) kR kR) ?_;refine zV f (0+x.1) (.int .u8 (a.toNat:Int)) C 5 (.tmp 14) _ Tryz.underlying5 rfl ?_;refine zq 1 (zn (zQ 5 (zn (zQ 1 (zn (aB (eY (α:=Nat×Int) (fun z=>[0,1,6,8,10,11,12,13,14,15,16,17,18,19,20].zip [(.int .u32 z.2),(.int .u32 y),(.int .u32 0),(.int .u8 (a.toNat:Int)),(Sl f 0 l.length j),(L6 l.length),(L6 x.1),(.bool (decide ((x.1:Int)<(l.length:Int)))),(Pt f (0+x.1)),(.int .u8 (a.toNat:Int)),(.int .u32 x.2),(.int .u8 (a.toNat:Int)),(.int .u32 (IntKind.u32.wrap (a.toNat:Int))),(.int .u32 (aIU .u32 x.2 (IntKind.u32.wrap (a.toNat:Int)))),(L6 z.1)]) (fun z=>F) (fun z=>[]) (fun z=>z.1≤8∧pC .u32 y (8-z.1) z.2=pC .u32 y 8 (aIU .u32 x.2 (IntKind.u32.wrap (a.toNat:Int)))) (fun z=>8-z.1) (0,(aIU .u32 x.2 (IntKind.u32.wrap (a.toNat:Int)))) ?_ ?_)))))))
  ·exact⟨by simp,rfl⟩
  intro z X;obtain⟨Y,d⟩:=X;refine zQ 1 (zn (zs (cE ((z.1:Int)<8) (fun J q=>?_) (fun J q=>?_))))
  ·refine zk (zs (aB (zQ 3 (zn (fQ (iY .u32 z.2 1) 1 (fun r u=>?_) (fun r u=>?_))))))
   ·refine zr (zq 5 (zn (zr (zq 1 (eC 31 ((z.1:Int)+1) (zq 1 (zn ?_)))))));refine nx (z.1+1,(aIU .u32 ((z.2).fdiv (2^1)) y)) ?_ ?_
    ·exact⟨by show z.1+1≤8;omega,by rw[←d,qT (i:=z.1) (x:=z.2) oW,aCW];simp only[r,if_true,if_false,Av]⟩
    ·show 8-(z.1+1)<8-z.1;omega
   ·refine zr (zq 3 (zn (zr (zq 1 (eC 31 ((z.1:Int)+1) (zq 1 (zn ?_)))))));refine nx (z.1+1,((z.2).fdiv (2^1))) ?_ ?_
    ·exact⟨by show z.1+1≤8;omega,by rw[←d,qT (i:=z.1) (x:=z.2) oW,aCW];simp only[r,if_true,if_false,Av]⟩
    ·show 8-(z.1+1)<8-z.1;omega
  ·refine aK (zr (zq 1 (eC 32 ((x.1:Int)+1) (zq 1 (zn ?_)))));refine nx (x.1+1,z.2) ?_ ?_
   ·exact⟨by show x.1+1≤_;omega,by rw[←c,aE3 g,aDS,←d,show 8-z.1=0 by omega];rfl⟩
   ·show l.length-(x.1+1)<l.length-x.1;omega
 ·refine aK (zQ 2 (zn (aA (aO [6] [(.int .u32 x.2)] (fun Z L=>?_)))));exact⟨by rw[show x.1=l.length by omega,Ex]at c;rw[←c];rfl,L.below⟩
def aO0(l:List UInt8):Int:=aQ5 .u16 (aIW .u16 33800 65535 l)
def aDT(l:List UInt8):Int:=aQ5 .u32 (aIW .u32 2197175160 4294967295 l)
def lo8(x:Int):UInt8:=UInt8.ofNat (IntKind.u8.wrap x).toNat
def lC(k:Int)(l:List UInt8):List UInt8:=if k==1 then[lo8 ((aO0 l).fdiv (2^8)),lo8 (aO0 l)]else if k==2 then[lo8 ((aDT l).fdiv (2^24)),lo8 ((aDT l).fdiv (2^16)),lo8 ((aDT l).fdiv (2^8)),lo8 (aDT l)]else[]
theorem pD{k:Int}(l:List UInt8)(a:0≤k)(c:k≤2):((lC k l).length:Int)=2*k:=by
 unfold lC;rcases(by omega:k=0∨k=1∨k=2)with rfl|rfl|rfl<;>rfl
theorem aNB(l:List UInt8)(w:World)(a:l.length≤R47):CP 261 #[.string (B l)] w (Ret (.int .u16 (aO0 l)) w):=by
 refine dI 6 Tryz.func261 ?_;refine zQ 1 (zn (zQ 1 (cY 267 #[(.int .u16 65535),(.int .u16 33800),(St l)] (.int .u16 (aIW .u16 33800 65535 l)) (fun W c=>aDR _ _ l W a) ?_)));refine zq 2 (zn (aA (iZ 2)))
theorem aMK(l:List UInt8)(w:World)(a:l.length≤R47):CP 262 #[.string (B l)] w (Ret (.int .u32 (aDT l)) w):=by
 refine dI 6 Tryz.func262 ?_;refine zQ 1 (zn (zQ 1 (cY 268 #[(.int .u32 4294967295),(.int .u32 2197175160),(St l)] (.int .u32 (aIW .u32 2197175160 4294967295 l)) (fun W c=>aDQ _ _ l W a) ?_)));refine zq 2 (zn (aA (iZ 2)))
theorem aE6(k:Int)(w:World)(d:0≤k)(f:k≤2):CP 247 #[.int .i64 k] w (Ret (.int .i64 (2*k)) w):=by
 have a:decide (k<0)=false:=Ba oW;have c:decide (k>2)=false:=Ba oW;refine dI 11 Tryz.func247 ?_;refine zQ 1 (zn (zs (zQ 3 (dS 5 (.bool (decide (k<0))) (.bool false) (Ag Value.bool a) ?_))));refine zq 3 (zn (dO (decide (k>2)) c ?_));refine zk (zQ 2 (eC 10 (2*k) (zq 1 (zn (aA (iZ 2))))))
theorem aHo(k:Int)(l:List UInt8)(w:World)(g:l.length≤R47):CP 252 #[.int .i64 k,.string (B l)] w (Ret (.string (B (lC k l))) w):=by
 refine dI 36 Tryz.func252 ?_;refine zQ 1 (zn (zs (zQ 1 (zn (aB (zQ 2 (zn (gN (k==1) (fun c=>?_) (fun c=>?_)))))))))
 ·refine zQ 1 (dK (fun W a=>aNB l W g) (zq 1 (zn (zQ 5 (aW (fun h=>(cG [1,0] [(h,2)] (zn (aA (aO [4] [(St [UInt8.ofNat ((IntKind.u8.wrap (((aO0 l)).fdiv (2^8))):Int).toNat,UInt8.ofNat ((IntKind.u8.wrap (aO0 l)):Int).toNat])] (fun f a=>?_)))))))))));exact⟨by simp only[dC,lC,lo8,c,bs,bQ,reduceIte],a.below⟩
 ·refine zQ 2 (zn (gN (k==2) (fun d=>?_) (fun d=>?_)))
  ·refine zQ 1 (dK (fun W a=>aMK l W g) (zq 1 (zn (zQ 11 (aW (fun j=>(cG [1,0] [(j,4)] (zn (aA (aO [4] [(St [UInt8.ofNat ((IntKind.u8.wrap (((aDT l)).fdiv (2^24))):Int).toNat,UInt8.ofNat ((IntKind.u8.wrap (((aDT l)).fdiv (2^16))):Int).toNat,UInt8.ofNat ((IntKind.u8.wrap (((aDT l)).fdiv (2^8))):Int).toNat,UInt8.ofNat ((IntKind.u8.wrap (aDT l)):Int).toNat])] (fun f a=>?_)))))))))));exact⟨by simp only[dC,lC,lo8,c,d,bs,bQ,reduceIte],a.below⟩
  ·refine zk (zQ 1 (zn (aA (aO [4] [(St [])] (fun f a=>?_)))));exact⟨by simp only[dC,lC,lo8,c,d,bs,bQ,reduceIte],a.below⟩
theorem aGs(w:World):CP 183 #[.int .i64 4] w (Ret (.bool true) w):=by
 refine dI 13 Tryz.func183 ?_;refine zQ 1 (zn (zQ 11 (zn (aA (iZ 2)))))
theorem aAd(w:World):CP 138 #[.int .i64 4] w (Ret (.string (B [159])) w):=by
 refine dI 12 Tryz.func138 ?_;refine zQ 1 (zn (zs (zQ 1 (dK (fun W c=>aGs W) (zq 1 (zn (dD (zk (zQ 4 (aW (fun a=>(cG [1,0] [(a,1)] (zn (aA (iZ 2)))))))))))))))
theorem aGr(w:World):CP 183 #[.int .i64 7] w (Ret (.bool true) w):=by
 refine dI 13 Tryz.func183 ?_;refine zQ 1 (zn (zQ 11 (zn (aA (iZ 2)))))
theorem aAc(w:World):CP 138 #[.int .i64 7] w (Ret (.string (B [255])) w):=by
 refine dI 12 Tryz.func138 ?_;refine zQ 1 (zn (zs (zQ 1 (dK (fun W c=>aGr W) (zq 1 (zn (dD (zk (zQ 4 (aW (fun a=>(cG [1,0] [(a,1)] (zn (aA (iZ 2)))))))))))))))
theorem aCY(l:List UInt8)(w:World)(a:l.length≤R47):CP 143 #[.string (B l)] w (Ret (.string (B (Itm.aE 2 l.length++l))) w):=by
 have d:=Itm.aD 2 l.length;unfold R47 at a;refine dI 9 Tryz.func143 ?_;refine zQ 1 (zn (zQ 3 (dS 5 (U6 (IntKind.u64.wrap (((l).length:Nat):Int))) (N6 ((l).length:Nat)) (Ag (Value.int .u64) (u64_in oW oW)) ?_)));refine dK (fun W c=>iX 2 l.length W oW (by unfold W64;omega)) (zq 1 (cD (St ((Itm.aE 2 l.length)++l)) (cB _ _ _ _ rfl (Itm.aE 2 l.length) l kR kR oA) ?_));refine zq 1 (zn (aA (iZ 2)))
theorem aKX(l:List UInt8)(w:World)(a:l.length≤R47):CP 210 #[.string (B l)] w (Ret (.string (B (Itm.aE 3 l.length++l))) w):=by
 have d:=Itm.aD 3 l.length;unfold R47 at a;refine dI 9 Tryz.func210 ?_;refine zQ 1 (zn (zQ 3 (dS 5 (U6 (IntKind.u64.wrap (((l).length:Nat):Int))) (N6 ((l).length:Nat)) (Ag (Value.int .u64) (u64_in oW oW)) ?_)));refine dK (fun W c=>iX 3 l.length W oW (by unfold W64;omega)) (zq 1 (cD (St ((Itm.aE 3 l.length)++l)) (cB _ _ _ _ rfl (Itm.aE 3 l.length) l kR kR oA) ?_));refine zq 1 (zn (aA (iZ 2)))
theorem dN(n:Int)(w:World):CP 40 #[.int .u64 n] w (Ret (.agg #[.int .i64 0,.int .u64 n,.string (B []),.slice none 0 0,.bool false]) w):=by
 refine dI 5 Tryz.func40 ?_;refine zs (zr (aW (fun a=>(zn (zQ 2 (aX 0 a (zn (aA (dL [1] [(a,5)] [(.agg #[(I6 0),(U6 n),(St []),S0,(.bool false)])] (fun d c=>?_))))))))));exact⟨rfl,c.below⟩
theorem mH(l:List UInt8)(w:World):CP 42 #[.string (B l)] w (Ret (.agg #[.int .i64 2,.int .u64 0,.string (B l),.slice none 0 0,.bool false]) w):=by
 refine dI 5 Tryz.func42 ?_;refine zs (zr (aW (fun a=>(zn (zQ 2 (aX 0 a (zn (aA (dL [1] [(a,5)] [(.agg #[(I6 2),(U6 0),(St l),S0,(.bool false)])] (fun d c=>?_))))))))));exact⟨rfl,c.below⟩
theorem dW(a:Option Addr)(n c:Nat)(w:World):CP 178 #[.slice a n c] w (Ret (.agg #[.int .i64 4,.int .u64 0,.string (B []),.slice a n c,.bool false]) w):=by
 refine dI 5 Tryz.func178 ?_;refine zs (zr (aW (fun d=>(zn (zQ 2 (aX 0 d (zn (aA (dL [1] [(d,5)] [(.agg #[(I6 4),(U6 0),(St []),(.slice a n c),(.bool false)])] (fun g f=>?_))))))))));exact⟨rfl,f.below⟩
open Go.Proofs.YtcdjakemdlinhaaGreatDoor.Itm (Tr cA dA)
inductive TV (U : View) : Tr → List Value → Prop
 | mk (k : Int) (n : Nat) (s : List UInt8) (l : List Tr) (o : Bool) (a : Option Addr) (c : Nat) (C : Nat → List Value) (hn : n < W64) (hs : s.length ≤ R47) (hl : l.length ≤ R47)
   (hat:∀i,i<l.length→∃b f,a=some ⟨b,f,none⟩∧U.range b (f+i*5) (C i))
   (hel:∀i t,l[i]? =some t→TV U t (C i)):TV U (.mk k n s l o) [.int .i64 k,.int .u64 n,.string (B s),.slice a l.length c,.bool o]
structure eZ (U : View) (a : Option Addr) (l : List Tr) : Prop where
 at_:∀i x,l[i]? =some x→∃b f cs,a=some ⟨b,f,none⟩∧U.range b (f+i*5) cs∧TV U x cs
 len:l.length≤R47
theorem TV.le{U V:View}(h:View.le U V){t:Tr}{cs:List Value}(j:TV U t cs):TV V t cs:=by
 induction j with
 |mk k n s l o a c C hn hs hl hat hel ih=>
  refine .mk k n s l o a c C hn hs hl (fun i d=>?_) ih;obtain⟨b,f,e,g⟩:=hat i d;exact⟨b,f,e,View.range_le h g⟩
theorem eZ.le{U V:View}(h:View.le U V){a:Option Addr}{l:List Tr}(c:eZ U a l):eZ V a l:=
 ⟨fun i x j=>by obtain⟨b,f,cs,e,d,g⟩:=c.at_ i x j;exact⟨b,f,cs,e,View.range_le h d,g.le h⟩,c.len⟩
theorem TV.form{U:View}{t:Tr}{cs:List Value}(h:TV U t cs):∃a c,cs=[.int .i64 t.k,.int .u64 t.n,.string (B t.s),.slice a t.l.length c,.bool t.o]∧eZ U a t.l∧t.n<W64∧t.s.length≤R47∧t.l.length≤R47:=by
 cases h with
 |mk k n s l o a c C hn hs hl hat hel=>
  refine⟨a,c,rfl,⟨fun i x d=>?_,hl⟩,hn,hs,hl⟩;obtain⟨b,f,e,g⟩:=hat i (Af.1 d).1;exact⟨b,f,C i,e,g,hel i x d⟩
theorem TV.of{U:View}{t:Tr}{a:Option Addr}{c:Nat}(h:eZ U a t.l)(u:t.n<W64)(y:t.s.length≤R47):TV U t [.int .i64 t.k,.int .u64 t.n,.string (B t.s),.slice a t.l.length c,.bool t.o]:=by
 obtain⟨k,n,s,l,o⟩:=t;have g:∀i,i<l.length→∃cs:List Value,(∃b f,a=some ⟨b,f,none⟩∧U.range b (f+i*5) cs)∧∀t,l[i]? =some t→TV U t cs:=by
  intro i j;obtain⟨b,f,cs,e,x,q⟩:=h.at_ i l[i] (Aa j);refine⟨cs,⟨b,f,e,x⟩,fun t d=>?_⟩;change l[i]? =some t at d;rw[Aa j]at d;rw[←Bs d];exact q
 obtain⟨C,r⟩:=Deep.choose_lt (α:=List Value) g;exact .mk k n s l o a c C u y h.len (fun i j=>(r i j).1) (fun i t q=>(r i (Af.1 q).1).2 t q)
theorem TV.list{U:View}{a:Option Addr}{l:List Tr}(c:Nat)(h:eZ U a l):TV U (dA l) [.int .i64 4,.int .u64 0,.string (B []),.slice a l.length c,.bool false]:=TV.of (t:=dA l) (c:=c) h (show(0:Nat)<W64 by decide) (show(0:Nat)≤R47 by decide)
theorem eZ.nil(U:View):eZ U none []:=⟨fun i x h=>by simp at h,by decide⟩
theorem TV.num(U:View)(n:Nat)(a:n<W64):TV U (cA n) [.int .i64 0,.int .u64 n,.string (B []),.slice none 0 0,.bool false]:=TV.of (t:=cA n) (c:=0) (eZ.nil U) a (show(0:Nat)≤R47 by decide)
def eE(l:List UInt8):Tr:=.mk 2 0 l [] false
def aHE(l:List UInt8):Tr:=.mk 3 0 l [] false
theorem TV.str(U:View)(l:List UInt8)(a:l.length≤R47):TV U (eE l) [.int .i64 2,.int .u64 0,.string (B l),.slice none 0 0,.bool false]:=TV.of (t:=eE l) (c:=0) (eZ.nil U) (by decide:(0:Nat)<W64) a
theorem TV.txt(U:View)(l:List UInt8)(a:l.length≤R47):TV U (aHE l) [.int .i64 3,.int .u64 0,.string (B l),.slice none 0 0,.bool false]:=TV.of (t:=aHE l) (c:=0) (eZ.nil U) (by decide:(0:Nat)<W64) a
theorem TV.len5{U:View}{t:Tr}{cs:List Value}(h:TV U t cs):cs.length=5:=by obtain⟨a,c,rfl,_⟩:=h.form;rfl
theorem gK{U:View}{b f:Nat}{c ys:List Value}(h:U.range b f (c++ys)):U.range b f c∧U.range b (f+c.length) ys:=
 ⟨fun j v a=>h j v (by rw[Bp (Af.1 a).1];exact a),fun j v a=>by
  have:=h (c.length+j) v (by rw[Bm oW,Eg];exact a);rw[Dt];exact this⟩
def gT(V : View) : List (Tr × List Value) → Prop
 | []=>True
 |p::r=>TV V p.1 p.2∧gT V r
theorem gT.get{V : View} : ∀ {L : List (Tr × List Value)}, gT V L → ∀ {b f : Nat}, V.range b f (L.flatMap Prod.snd) → ∀ i x, (L.map Prod.fst)[i]? = some x → ∃ cs, V.range b (f + i * 5) cs ∧ TV V x cs
 | [],_,b,f,_,i,x,h=>by simp at h
 |p::r,⟨c,j⟩,b,f,d,i,x,h=>by
  rw[Bu]at d;obtain⟨k,q⟩:=gK d;cases i with
  |zero=>
   simp only[Cf,Bo,Ab]at h;subst h;exact⟨p.2,by simpa using k,c⟩
  |succ i=>
   simp only[Cf,Bv]at h;obtain⟨cs,a,g⟩:=gT.get j q i x h;refine⟨cs,?_,g⟩;rw[c.len5]at a;rw[show f+(i+1)*5=f+5+i*5 by omega];exact a
theorem eZ.lit{V:View}{b f:Nat}(L:List (Tr×List Value))(g:V.range b f (L.flatMap Prod.snd))(h:gT V L)(d:(L.map Prod.fst).length≤R47):eZ V (some ⟨b,f,none⟩) (L.map Prod.fst):=
 ⟨fun i x j=>by obtain⟨cs,a,c⟩:=h.get g i x j;exact⟨b,f,cs,rfl,a,c⟩,d⟩
theorem TV.toTAt{U:View}{t:Tr}{cs:List Value}(h:TV U t cs){w:World}(d:See U w):Itm.TAt w t cs:=by
 induction h with
 |mk k n s l o a c C hn hs hl hat hel ih=>
  refine .mk k n s l o a c C hn hs hl (fun i g=>?_) ih;obtain⟨b,f,e,j⟩:=hat i g;refine⟨b,f,e,?_,View.range_of j d⟩;have q:=(hel i l[i] (Aa g)).len5;have:=j 0 ((C i)[0]'oW) (Aa oW);exact pF (d _ _ this)
theorem TV.cast{U:View}{t a:Tr}{cs:List Value}(h:TV U t cs)(e:t=a):TV U a cs:=e▸h
def Ei.tree(e:Ei):Itm.Tr:=if e.s==2 then Itm.dA [Itm.cA 2,Itm.dA [Itm.cA e.n,Itm.cA e.v]]else if e.l==[110,111,110,101]then Itm.dA [Itm.cA 1,Itm.cA 0]else Itm.dA [Itm.cA 1,aHE e.l]
def aLi(t:Itm.Tr)(n:Int):Value→View→Prop:=fun v V=>∃cs,v=.tuple #[.agg cs.toArray,.int .i64 n]∧TV V t cs
theorem oI(e:Ei)(w:World){U:View}(hU:See U w)(K:e.ok)(L:aI e=true):CP 177 #[e.V] w (fO w U (aLi e.tree 0)):=by
 have hn:=K.n;have hv:=K.v;have hl:=K.l;refine dE 38 Tryz.func177 hU ?_;refine zs (zr (aW (fun y=>(aW (fun A=>(zq 1 (zn (zs (aB (zB [1] [(y,4)] (dK (fun W a=>jF e W K.l) (zq 2 (zn (dO (!(aI e)) (by rw[L];rfl) ?_))))))))))))));refine zB [0,1,0,0] [(y,1)] (zn (fQ e.s 2 (fun J O=>?_) (fun J O=>?_)))
 ·refine zs ?_;refine mB 4 [1,0,3,1,0,3] [(y,1),(y,1)] [.val (.agg #[(I6 0),(U6 2),(St []),S0,(.bool false)]),.val (iV e.n)] (by simp only[Bc];exact⟨trivial,trivial,fun _ h=>by cases h⟩) ⟨?_,?_,trivial⟩ ?_
  ·refine wV 40 (fun u=>#[(U6 2)]) fun u V hV I W hW=>?_
   exact dN _ W
  ·refine wV 40 (fun u=>#[(N6 e.n)]) fun u V hV I W hW=>?_
   exact dN _ W
  intro u2 V2 q b8;have k3:=(TV.num _ 2 (by first|assumption|decide|(unfold W64;omega))).le q;have k4:=(TV.num _ e.n (by first|assumption|decide|(unfold W64;omega))).le q;refine cY 40 #[(N6 e.v)] (iV e.v) (fun W a=>dN _ W) ?_;refine gV [(I6 0),(N6 e.n),(St []),S0,(.bool false),(I6 0),(N6 e.v),(St []),S0,(.bool false)] 89 (fun r=>(Sl r 0 2 2)) kR kR kR (fun B V5 g Z=>?_);have k6:=k3.le g;have k7:=k4.le g;have k8:=(TV.num _ e.v (by first|assumption|decide|(unfold W64;omega))).le g;have a6:eZ V5 (some ⟨B,0,none⟩) [(Itm.cA e.n),(Itm.cA e.v)]:=eZ.lit [((Itm.cA e.n),(iN e.n)),((Itm.cA e.v),(iN e.v))] Z ⟨k7,k8,trivial⟩ (show 2≤R47 by decide);refine cY 178 #[(Sl B 0 2 2)] (.agg #[(I6 4),(U6 0),(St []),(Sl B 0 2 2),(.bool false)]) (fun W a=>dW _ _ _ W) ?_;refine gV [(I6 0),(U6 2),(St []),S0,(.bool false),(I6 4),(U6 0),(St []),(Sl B 0 2 2),(.bool false)] 89 (fun r=>(Sl r 0 2 2)) kR kR kR (fun C V9 x a1=>?_);have b2:=k6.le x;have b3:=(TV.list 2 a6).le x;have a7:eZ V9 (some ⟨C,0,none⟩) [(Itm.cA 2),(Itm.dA [(Itm.cA e.n),(Itm.cA e.v)])]:=eZ.lit [((Itm.cA 2),[(I6 0),(U6 2),(St []),S0,(.bool false)]),((Itm.dA [(Itm.cA e.n),(Itm.cA e.v)]),[(I6 4),(U6 0),(St []),(Sl B 0 2 2),(.bool false)])] a1 ⟨b2,b3,trivial⟩ (show 2≤R47 by decide);refine cY 178 #[(Sl C 0 2 2)] (.agg #[(I6 4),(U6 0),(St []),(Sl C 0 2 2),(.bool false)]) (fun W a=>dW _ _ _ W) ?_;refine aX 1 A (zq 1 (zn (aA (dL [2,0] [(A,5)] [(.agg #[(I6 4),(U6 0),(St []),(Sl C 0 2 2),(.bool false)]),(I6 0)] (fun W' a=>?_)))));exact aH a (View.le_trans (View.le_trans q g) x) ⟨[(I6 4),(U6 0),(St []),(Sl C 0 2 2),(.bool false)],rfl,((TV.list 2 a7)).cast (by simp only[Ei.tree,J,L,bs,bQ,reduceIte])⟩
 ·refine zB [0,1] [(y,1)] (cD (.bool (e.l==[110,111,110,101])) (iR _ _ _ _ rfl e.l [110,111,110,101] kR kR) ?_);refine zq 1 (zn (fQ e.l [110,111,110,101] (fun X Y=>?_) (fun X Y=>?_)))
  ·refine zs (zr (cY 40 #[(U6 1)] (.agg #[(I6 0),(U6 1),(St []),S0,(.bool false)]) (fun W a=>dN _ W) ?_));refine cY 40 #[(U6 0)] (.agg #[(I6 0),(U6 0),(St []),S0,(.bool false)]) (fun W a=>dN _ W) ?_;refine gV [(I6 0),(U6 1),(St []),S0,(.bool false),(I6 0),(U6 0),(St []),S0,(.bool false)] 89 (fun r=>(Sl r 0 2 2)) kR kR kR (fun c M f D=>?_);have b4:=(TV.num _ 1 (by first|assumption|decide|(unfold W64;omega))).le f;have b5:=(TV.num _ 0 (by first|assumption|decide|(unfold W64;omega))).le f;have F:eZ M (some ⟨c,0,none⟩) [(Itm.cA 1),(Itm.cA 0)]:=eZ.lit [((Itm.cA 1),[(I6 0),(U6 1),(St []),S0,(.bool false)]),((Itm.cA 0),[(I6 0),(U6 0),(St []),S0,(.bool false)])] D ⟨b4,b5,trivial⟩ (show 2≤R47 by decide);refine cY 178 #[(Sl c 0 2 2)] (.agg #[(I6 4),(U6 0),(St []),(Sl c 0 2 2),(.bool false)]) (fun W a=>dW _ _ _ W) ?_;refine aX 1 A (zq 1 (zn (aA (dL [2,0] [(A,5)] [(.agg #[(I6 4),(U6 0),(St []),(Sl c 0 2 2),(.bool false)]),(I6 0)] (fun W' a=>?_)))));exact aH a f ⟨[(I6 4),(U6 0),(St []),(Sl c 0 2 2),(.bool false)],rfl,((TV.list 2 F)).cast (by simp only[Ei.tree,J,X,L,bs,bQ,reduceIte])⟩
  ·refine zk (zs ?_);refine mB 3 [1,0,3,0] [(y,1)] [.val (.agg #[(I6 0),(U6 1),(St []),S0,(.bool false)])] (by simp only[Bc];exact⟨trivial,fun _ h=>by cases h⟩) ⟨?_,trivial⟩ ?_
   ·refine wV 40 (fun u=>#[(U6 1)]) fun u V hV I W hW=>?_
    exact dN _ W
   intro c0 b9 j a8;have b6:=(TV.num _ 1 (by first|assumption|decide|(unfold W64;omega))).le j;refine gV [(I6 0),(U6 1),(St []),S0,(.bool false),(I6 3),(U6 0),(St e.l),S0,(.bool false)] 89 (fun r=>(Sl r 0 2 2)) kR kR kR (fun d N k E=>?_);have b7:=b6.le k;have G:eZ N (some ⟨d,0,none⟩) [(Itm.cA 1),(aHE e.l)]:=eZ.lit [((Itm.cA 1),[(I6 0),(U6 1),(St []),S0,(.bool false)]),((aHE e.l),[(I6 3),(U6 0),(St e.l),S0,(.bool false)])] E ⟨b7,(TV.txt _ e.l (by first|assumption|decide|(unfold R47;omega))),trivial⟩ (show 2≤R47 by decide);refine cY 178 #[(Sl d 0 2 2)] (.agg #[(I6 4),(U6 0),(St []),(Sl d 0 2 2),(.bool false)]) (fun W a=>dW _ _ _ W) ?_;refine aX 1 A (zq 1 (zn (aA (dL [2,0] [(A,5)] [(.agg #[(I6 4),(U6 0),(St []),(Sl d 0 2 2),(.bool false)]),(I6 0)] (fun W' a=>?_)))));exact aH a (View.le_trans j k) ⟨[(I6 4),(U6 0),(St []),(Sl d 0 2 2),(.bool false)],rfl,((TV.list 2 G)).cast (by simp only[Ei.tree,J,X,L,bs,bQ,reduceIte])⟩
theorem aHw{α:Type}{f:α→Bool}{l:List α}{i:Nat}{y:α}(h:l[i]? =some y):(l.drop i).all f=(f y&&(l.drop (i+1)).all f):=by
 obtain⟨a,rfl⟩:=Af.1 h;rw[Bx a,Dm]
theorem fY{t:Itm.Tr}(n:Nat)(h:t.k≠4):Itm.aJ (n+1) t=Itm.okN t.k t.n t.s t.l.length t.o:=by
 rw[Itm.aJ];cases d:Itm.okN t.k t.n t.s t.l.length t.o with
 |false=>rfl
 |true=>
  have c:t.l.length=0:=by
   rcases Itm.lG d with⟨_,_,a,_⟩|⟨_,_,a,_⟩|⟨_,_,a,_⟩|⟨a,_⟩
   ·exact a
   ·exact a
   ·exact a
   ·exact absurd a h
  rw[Be.1 c];rfl
theorem aFx(t:Itm.Tr)(a:Option Addr)(c:Nat)(w:World){U:View}(d:See U w)(f:eZ U a t.l):CP 209 #[.agg #[.int .i64 t.k,.int .u64 t.n,.string (B t.s),.slice a t.l.length c,.bool t.o],.int .i64 0] w (Ret (.bool false) w):=by
 refine dE 73 Tryz.func209 d ?_;refine zs (zr (aW (fun g=>(zq 1 (zn (zs (zQ 2 (zn (dP (zQ 1 (zn (aA (iZ 4)))))))))))))
theorem aFy(n : Nat)(hn : n ≤ 8)(ih : ∀ (t : Itm.Tr) (cs : List Value) (w : World) {U : View}, (∀ a v, U a = some v → w.cell? a = some v) → TV U t cs → CP 209 #[.agg cs.toArray, .int .i64 (n : Int)] w (Ret (.bool (Itm.aJ n t)) w))
    (t:Itm.Tr) (a:Option Addr) (c:Nat) (w:World) {U:View} (hU:See U w) (K:eZ U a t.l):CP 209 #[.agg #[.int .i64 t.k,.int .u64 t.n,.string (B t.s),.slice a t.l.length c,.bool t.o],.int .i64 ((n+1:Nat):Int)] w (Ret (.bool (Itm.aJ (n+1) t)) w):=by
 have I:=K.len;unfold R47 at I;refine dE 73 Tryz.func209 hU ?_;refine zs (zr (aW (fun g=>(zq 1 (zn (zs (zQ 2 (zn (dO (decide (((n+1:Nat):Int)<1)) (Ba oW) ?_)))))))));refine zk (zs (zB [0,1] [(g,1)] (zn (aB (zQ 2 (zn (fQ t.k 0 (fun h0 X=>?_) (fun h0 X=>?_))))))))
 ·refine zB [0,1] [(g,1)] (cD (.bool (t.s==[])) (iR _ _ _ _ rfl t.s [] kR kR) ?_);refine zq 1 (oT 16 t.s [] (fun h1 a7=>?_) (fun h1 a7=>?_))
  ·refine cG [0,1,0,0,0,0] [(g,1)] (oT 22 (t.l.length:Int) 0 (fun h2 a8=>?_) (fun h2 a8=>?_))
   ·refine cG [0,1,0,0,0] [(g,1)] (zn (aA (aO [4] [(.bool (!t.o))] (fun j f=>?_))));refine⟨?_,f.below⟩;rw[fY n oW];unfold Itm.okN;rw[Ar oW];simp only[Cc (show(t.s=[]) by assumption),Cc (show(t.l.length=0) by omega),bs,bQ,reduceIte]
    try rfl
   ·refine zq 5 (zn (aA (aO [4] [(.bool false)] (fun j f=>?_))));refine⟨?_,f.below⟩;rw[fY n oW];unfold Itm.okN;rw[Ar oW];simp only[Cc (show(t.s=[]) by assumption),Ba (show¬(t.l.length=0) by omega),bs,bQ,reduceIte]
    try rfl
  ·refine zq 11 (zn (aA (aO [4] [(.bool false)] (fun j f=>?_))));refine⟨?_,f.below⟩;rw[fY n oW];unfold Itm.okN;rw[Ar oW];simp only[Ba (show¬(t.s=[]) by assumption),bs,bQ,reduceIte]
   try rfl
 ·refine zs (zQ 2 (zn (fQ t.k 2 (fun h3 b3=>?_) (fun h3 b3=>?_))))
  ·refine zk (iA (t.k==2) h3 ?_);refine zB [0,1,0,0] [(g,1)] (oT 33 (t.n:Int) 0 (fun h4 b4=>?_) (fun h4 b4=>?_))
   ·refine cG [0,1,0,0,0,0] [(g,1)] (oT 39 (t.l.length:Int) 0 (fun h5 b5=>?_) (fun h5 b5=>?_))
    ·refine cG [0,1,0,0,0] [(g,1)] (zn (aA (aO [4] [(.bool (!t.o))] (fun j f=>?_))));refine⟨?_,f.below⟩;rw[fY n oW];unfold Itm.okN;rw[An oW,Ar oW];simp only[Cc (show(t.n=0) by omega),Cc (show(t.l.length=0) by omega),bs,bQ,reduceIte]
     try rfl
    ·refine zq 5 (zn (aA (aO [4] [(.bool false)] (fun j f=>?_))));refine⟨?_,f.below⟩;rw[fY n oW];unfold Itm.okN;rw[An oW,Ar oW];simp only[Cc (show(t.n=0) by omega),Ba (show¬(t.l.length=0) by omega),bs,bQ,reduceIte]
     try rfl
   ·refine zq 11 (zn (aA (aO [4] [(.bool false)] (fun j f=>?_))));refine⟨?_,f.below⟩;rw[fY n oW];unfold Itm.okN;rw[An oW,Ar oW];simp only[Ba (show¬(t.n=0) by omega),bs,bQ,reduceIte]
    try rfl
  ·refine zr (zq 2 (zn (fQ t.k 3 (fun h6 b6=>?_) (fun h6 b6=>?_))))
   ·refine zB [0,1,0,0] [(g,1)] (oT 33 (t.n:Int) 0 (fun h7 b7=>?_) (fun h7 b7=>?_))
    ·refine cG [0,1,0,0,0,0] [(g,1)] (oT 39 (t.l.length:Int) 0 (fun h8 b8=>?_) (fun h8 b8=>?_))
     ·refine cG [0,1,0,0,0] [(g,1)] (zn (aA (aO [4] [(.bool (!t.o))] (fun j f=>?_))));refine⟨?_,f.below⟩;rw[fY n oW];unfold Itm.okN;rw[An oW,Ar oW];simp only[Cc (show(t.n=0) by omega),Cc (show(t.l.length=0) by omega),bs,bQ,reduceIte]
      try rfl
     ·refine zq 5 (zn (aA (aO [4] [(.bool false)] (fun j f=>?_))));refine⟨?_,f.below⟩;rw[fY n oW];unfold Itm.okN;rw[An oW,Ar oW];simp only[Cc (show(t.n=0) by omega),Ba (show¬(t.l.length=0) by omega),bs,bQ,reduceIte]
      try rfl
    ·refine zq 11 (zn (aA (aO [4] [(.bool false)] (fun j f=>?_))));refine⟨?_,f.below⟩;rw[fY n oW];unfold Itm.okN;rw[An oW,Ar oW];simp only[Ba (show¬(t.n=0) by omega),bs,bQ,reduceIte]
     try rfl
   ·refine zQ 2 (zn (fQ t.k 4 (fun h9 b9=>?_) (fun h9 b9=>?_)))
    ·refine zs (zB [0,1,0,0] [(g,1)] (lO 49 (t.n:Int) 0 (fun Y E=>?_) (fun Y E=>?_)))
     ·refine zq 10 (zn (dP (zQ 1 (zn (aA (aO [4] [(.bool false)] (fun j f=>?_)))))));refine⟨?_,f.below⟩;have q:Itm.okN t.k t.n t.s t.l.length t.o=false:=by unfold Itm.okN;rw[An oW,An oW,Ar oW];simp;intros;first|omega|contradiction
      rw[Itm.aJ,q];rfl
     ·refine cG [0,1] [(g,1)] (cD (.bool (!(t.s==[]))) (lQ _ _ _ _ rfl t.s [] kR kR) ?_);refine zq 2 (cN 54 (!(t.s==[])) (fun k=>?_) (fun k=>?_))
      ·refine zq 5 (zn (dP (zQ 1 (zn (aA (aO [4] [(.bool false)] (fun j f=>?_)))))));have A:t.s≠[]:=by simpa using k
       refine⟨?_,f.below⟩;have q:Itm.okN t.k t.n t.s t.l.length t.o=false:=by unfold Itm.okN;rw[An oW,An oW,Ar oW];simp;intros;first|omega|contradiction
       rw[Itm.aJ,q];rfl
      ·refine cG [0,1,0,0,0] [(g,1)] (zn (cE ((t.l.length:Int)>1000) (fun Z F=>?_) (fun Z F=>?_)))
       ·refine zQ 1 (zn (aA (aO [4] [(.bool false)] (fun j f=>?_))));have A:t.s=[]:=by simpa using k
        refine⟨?_,f.below⟩;have q:Itm.okN t.k t.n t.s t.l.length t.o=false:=by unfold Itm.okN;rw[An oW,An oW,Ar oW];simp;intros;first|omega|contradiction
        rw[Itm.aJ,q];rfl
       ·refine zk (zs (zB [0,1,0,0] [(g,1)] (zn (aB (eY (α:=Nat) (fun x=>[1,4,61,62,63].zip [(L6 (n+1)),(.bool false),(.slice a t.l.length c),(L6 t.l.length),(L6 x)]) (fun x=>U) (fun x=>[(bK g (tC t a c) 89)]) (fun x=>x≤t.l.length∧(t.l.drop x).all (Itm.aJ n)=t.l.all (Itm.aJ n)) (fun x=>t.l.length-x) 0 ?_ ?_)))))
        ·exact⟨Ap _,by rw[Dp]⟩
        intro x hx;obtain⟨c9,C⟩:=hx;refine zQ 1 (zn (zs (cE ((x:Int)<(t.l.length:Int)) (fun a6 G=>?_) (fun a6 G=>?_))))
        ·refine zk (zs (aB (zs (zr ?_))));obtain⟨r,D⟩:∃y,(t.l)[x]? =some y:=⟨(t.l)[x]'oW,Aa _⟩;obtain⟨L,M,c4,rfl,c0,J⟩:=K.at_ x r D;obtain⟨N,V,rfl,c2,c7,c8,c6⟩:=J.form;refine cD (Pt L (M+x*5)) (rIx 89 rfl L M t.l.length c x 5) ?_;refine zU L (M+x*5) (tC r N V) c0 89 (.tmp 65) _ Tryz.underlying89 rfl ?_;refine aW (fun O=>(aX 1 O (zn (zB [2,0,0] [(O,5)] (dS 69 (I6 (IntKind.i64.wrap (((n+1:Nat):Int)-1))) (L6 n) (Ag (Value.int .i64) (by rw[IntWalk.i64_in _ oW];omega)) ?_)))));refine cY 209 #[(tV r N V),(L6 n)] (.bool (Itm.aJ n r)) (fun W f=>ih _ _ W f.view J) ?_;refine zq 1 (zn (gN (!(Itm.aJ n r)) (fun u=>?_) (fun u=>?_)))
         ·refine zQ 1 (zn (aA (aO [4] [(.bool false)] (fun j f=>?_))));have A:t.s=[]:=by simpa using k
          have q:Itm.okN t.k t.n t.s t.l.length t.o=true:=by unfold Itm.okN;rw[An oW,An oW,Ar oW];simp;refine⟨⟨by omega,by assumption⟩,by omega⟩
          refine⟨?_,f.below⟩;rw[Itm.aJ,q,←C,aHw D,show Itm.aJ n r=false by simpa using u];rfl
         ·refine zk (zr (zq 1 (eC 72 ((x:Int)+1) (zq 1 (zn ?_)))));refine nx (x+1) ?_ ?_ (d:=fun _ h=>Mem.sub (Ay _ _) (h.eqv (show _=([(bK g [(I6 t.k),(N6 t.n),(St t.s),(Sl L M t.l.length c),(.bool t.o)] 89)]:aN)++([(bK O (tC r N V) 89)]:aN)from by kernel_rfl)))
          ·exact⟨by omega,by rw[←C,aHw D,show Itm.aJ n r=true by simpa using u,Fk]⟩
          ·show t.l.length-(x+1)<t.l.length-x;omega
        ·refine aK (zQ 1 (zn (aA (aO [4] [(.bool true)] (fun j f=>?_)))));have A:t.s=[]:=by simpa using k
         have q:Itm.okN t.k t.n t.s t.l.length t.o=true:=by unfold Itm.okN;rw[An oW,An oW,Ar oW];simp;refine⟨⟨by omega,by assumption⟩,by omega⟩
         refine⟨?_,f.below⟩;rw[Itm.aJ,q,←C,Ff oW];rfl
    ·refine zk (zQ 1 (zn (aA (aO [4] [(.bool false)] (fun j f=>?_)))));refine⟨?_,f.below⟩;rw[fY n oW];unfold Itm.okN;rw[An oW,An oW,An oW];rfl
theorem aCm : ∀ (n : Nat), n ≤ 8 → ∀ (t : Itm.Tr) (cs : List Value) (w : World) {U : View}, (∀ a v, U a = some v → w.cell? a = some v) → TV U t cs → CP 209 #[.agg cs.toArray, .int .i64 (n : Int)] w (Ret (.bool (Itm.aJ n t)) w)
 |0,_,t,cs,w,U,f,h=>by
  obtain⟨a,c,rfl,d,j,k,g⟩:=h.form;exact aFx t a c w f d
 |n+1,j,t,cs,w,U,f,h=>by
  obtain⟨a,c,rfl,d,_,k,g⟩:=h.form;exact aFy n oW (aCm n oW) t a c w f d
theorem lY(t:Itm.Tr)(cs:List Value)(w:World){U:View}(j:See U w)(h:TV U t cs):CP 179 #[.agg cs.toArray] w (Ret (.bool (Itm.aJ 8 t)) w):=by
 have f:=h;obtain⟨a,c,rfl,k,r,u,q⟩:=h.form;refine dE 5 Tryz.func179 j ?_;refine zs (zr (aW (fun d=>(zq 1 (zn (zB [1] [(d,5)] (cY 209 #[(tV t a c),(I6 8)] (.bool (Itm.aJ 8 t)) (fun W g=>aCm 8 (by decide) t _ W g.view f) ?_)))))));refine zq 1 (zn (aA (iZ 2)))
noncomputable def eqT(a b:Itm.Tr):Bool:=@decide (a=b) (Classical.propDecidable _)
noncomputable def eqL(a b:List Itm.Tr):Bool:=@decide (a=b) (Classical.propDecidable _)
theorem aGl{a b:Itm.Tr}:eqT a b=true↔a=b:=by unfold eqT;simp
theorem aGm{a b:List Itm.Tr}:eqL a b=true↔a=b:=by unfold eqL;simp
theorem aCV{a b:Itm.Tr}:eqT a b=false↔a≠b:=by unfold eqT;simp
theorem aHi{l m:List Itm.Tr}{i:Nat}{y z:Itm.Tr}(d:l[i]? =some y)(f:m[i]? =some z):eqL (l.drop i) (m.drop i)=(eqT y z&&eqL (l.drop (i+1)) (m.drop (i+1))):=by
 obtain⟨a,rfl⟩:=Af.1 d;obtain⟨c,rfl⟩:=Af.1 f;rw[Bx a,Bx c];rw[Db,Ae,aGm,aGl,aGm,Em]
theorem aKP(t u:Itm.Tr)(a:t.k=u.k)(c:t.n=u.n)(d:t.s=u.s)(f:t.o=u.o):eqT t u=eqL t.l u.l:=by
 obtain⟨k,n,s,l,o⟩:=t;obtain⟨g,q,x,j,r⟩:=u;simp only[Itm.Tr.k,Itm.Tr.n,Itm.Tr.s,Itm.Tr.l,Itm.Tr.o]at *;subst a c d f;rw[Db,aGl,aGm];exact⟨fun h=>by injection h,fun h=>by rw[h]⟩
theorem aHM(n : Nat)(ih : ∀ (t u : Itm.Tr) (cs ds : List Value) (w : World) {U : View}, (∀ a v, U a = some v → w.cell? a = some v) → TV U t cs → TV U u ds → Itm.aJ n t = true → CP 243 #[.agg cs.toArray, .agg ds.toArray] w (Ret (.bool (eqT t u)) w))
    (t u:Itm.Tr) (a b:Option Addr) (c d:Nat) (w:World) {U:View} (hU:See U w) (G:eZ U a t.l) (a8:eZ U b u.l) (hr:t.l.all (Itm.aJ n)=true):
    CP 243 #[.agg #[.int .i64 t.k,.int .u64 t.n,.string (B t.s),.slice a t.l.length c,.bool t.o],.agg #[.int .i64 u.k,.int .u64 u.n,.string (B u.s),.slice b u.l.length d,.bool u.o]] w (Ret (.bool (eqT t u)) w):=by
 have D:=G.len;unfold R47 at D;refine dE 60 Tryz.func243 hU ?_;refine zs (zr (aW (fun g=>(aW (fun q=>(zq 1 (zn (zs (zB [0,1,0,2,0,0] [(g,1),(q,1)] (lO 11 t.k u.k (fun X _=>?_) (fun X b9=>?_)))))))))))
 ·refine zq 29 (zn (dP (zQ 1 (zn (aA (aO [4] [(.bool false)] (fun C f=>?_)))))));refine⟨?_,f.below⟩;rw[show eqT t u=false from aCV.2 fun h=>by have:=X;rw[h]at this;simp at this];rfl
 ·refine cG [0,1,0,2,0,0,0] [(g,1),(q,1)] (lO 18 (t.n:Int) (u.n:Int) (fun Y _=>?_) (fun Y c0=>?_))
  ·refine zq 22 (zn (dP (zQ 1 (zn (aA (aO [4] [(.bool false)] (fun C f=>?_)))))));refine⟨?_,f.below⟩;rw[show eqT t u=false from aCV.2 fun h=>by have:=Y;rw[h]at this;simp at this];rfl
  ·refine cG [0,1,0,2] [(g,1),(q,1)] (cD (.bool (!(t.s==u.s))) (lQ _ _ _ _ rfl t.s u.s kR kR) ?_);refine zq 2 (cN 25 (!(t.s==u.s)) (fun Z=>?_) (fun Z=>?_))
   ·refine zq 15 (zn (dP (zQ 1 (zn (aA (aO [4] [(.bool false)] (fun C f=>?_)))))));refine⟨?_,f.below⟩;rw[show eqT t u=false from aCV.2 fun h=>by have:=Z;rw[h]at this;simp at this];rfl
   ·refine cG [0,1,0,2,0,0,0] [(g,1),(q,1)] (cN 32 (!(t.o==u.o)) (fun h3=>?_) (fun h3=>?_))
    ·refine zq 8 (zn (dP (zQ 1 (zn (aA (aO [4] [(.bool false)] (fun C f=>?_)))))));refine⟨?_,f.below⟩;rw[show eqT t u=false from aCV.2 fun h=>by have:=h3;rw[h]at this;simp at this];rfl
    ·refine cG [0,1,0,0,2,0,0,0] [(g,1),(q,1)] (zn (jD (t.l.length:Int) (u.l.length:Int) (fun h4 _=>?_) (fun h4 c1=>?_)))
     ·refine zQ 1 (zn (aA (aO [4] [(.bool false)] (fun C f=>?_))));refine⟨?_,f.below⟩;rw[show eqT t u=false from aCV.2 fun h=>by have:=h4;rw[h]at this;simp at this];rfl
     ·refine zk (zs (zs (zr ?_)));have hK:t.k=u.k:=by have:=X;simpa using this
      have hN:t.n=u.n:=by have:=Y;simp at this;omega
      have hS:t.s=u.s:=by have:=Z;simpa using this
      have hO:t.o=u.o:=by have:=h3;simpa using this
      have c4:t.l.length=u.l.length:=by have:=h4;simp at this;omega
      refine cG [0,1,0,0] [(g,1)] (zn (aB (eY (α:=Nat) (fun x=>[2,3,4,43,44].zip [(Pt g 0),(Pt q 0),(.bool false),(L6 t.l.length),(L6 x)]) (fun x=>U) (fun x=>[(bK g (tC t a c) 89),(bK q (tC u b d) 89)]) (fun x=>x≤t.l.length∧eqL (t.l.drop x) (u.l.drop x)=eqT t u) (fun x=>t.l.length-x) 0 ?_ ?_)))
      ·exact⟨Ap _,by rw[Dp,Dp];exact(aKP t u hK hN hS hO).symm⟩
      intro x hx;obtain⟨e2,r⟩:=hx;refine zQ 1 (zn (zs (cE ((x:Int)<(t.l.length:Int)) (fun h5 a1=>?_) (fun h5 a1=>?_))))
      ·refine zk (zs (aB (zQ 2 (zn (zs ?_)))));obtain⟨k,j⟩:∃y,(t.l)[x]? =some y:=⟨(t.l)[x]'oW,Aa _⟩;obtain⟨K,O,b7,rfl,a6,E⟩:=G.at_ x k j;obtain⟨I,M,rfl,b5,c8,e0,c6⟩:=E.form;obtain⟨y3,A⟩:∃y,(u.l)[x]? =some y:=⟨(u.l)[x]'oW,Aa _⟩;obtain⟨L,V,b8,rfl,a7,F⟩:=a8.at_ x y3 A;obtain⟨J,N,rfl,b6,c9,e1,c7⟩:=F.form;have b4:=Ao.1 hr k (Ad j);refine iM 4 [0,3,0,1,1,0,4,0,1,1] [(g,1),(q,1)] [.val (Pt K (O+x*5)),.val (tV k I M),.val (Pt L (V+x*5)),.val (tV y3 J N)] ⟨?_,?_,?_,?_,trivial⟩ ?_
       ·exact vR (rIx 89 rfl K O t.l.length c x 5)
       ·exact vU K (O+x*5) (tC k I M) a6 89 _ _ Tryz.underlying89 rfl
       ·exact vR (rIx 89 rfl L V u.l.length d x 5)
       ·exact vU L (V+x*5) (tC y3 J N) a7 89 _ _ Tryz.underlying89 rfl
       refine cY 243 #[(tV k I M),(tV y3 J N)] (.bool (eqT k y3)) (fun W f=>ih _ _ _ _ W f.view E F b4) ?_;refine zq 1 (zn (gN (!(eqT k y3)) (fun h6=>?_) (fun h6=>?_)))
       ·refine zQ 1 (zn (aA (aO [4] [(.bool false)] (fun C f=>?_))));refine⟨?_,f.below⟩;rw[←r,aHi j A,show eqT k y3=false by simpa using h6];rfl
       ·refine zk (zr (zq 1 (eC 59 ((x:Int)+1) (zq 1 (zn ?_)))));refine nx (x+1) ?_ ?_
        ·exact⟨by omega,by rw[←r,aHi j A,show eqT k y3=true by simpa using h6,Fk]⟩
        ·show t.l.length-(x+1)<t.l.length-x;omega
      ·refine aK (zQ 1 (zn (aA (aO [4] [(.bool true)] (fun C f=>?_)))));refine⟨?_,f.below⟩;rw[←r,Ff oW,Ff oW,show eqL [] []=true by unfold eqL;simp];rfl
theorem aD9 : ∀ (n : Nat) (t u : Itm.Tr) (cs ds : List Value) (w : World) {U : View}, (∀ a v, U a = some v → w.cell? a = some v) → TV U t cs → TV U u ds → Itm.aJ n t = true → CP 243 #[.agg cs.toArray, .agg ds.toArray] w (Ret (.bool (eqT t u)) w)
 |0,t,u,cs,ds,w,U,_,_,_,f=>by cases f
 |n+1,t,u,cs,ds,w,U,q,h,k,f=>by
  obtain⟨a,c,rfl,g,_,_,_⟩:=h.form;obtain⟨b,d,rfl,j,_,_,_⟩:=k.form;rw[Itm.aJ,Ae]at f;exact aHM n (aD9 n) t u a b c d w q g j f.2
noncomputable def tT(t u:Itm.Tr):Bool:=if Itm.aJ 8 t then(if Itm.aJ 8 u then eqT t u else false)else false
theorem aCP(t u:Itm.Tr)(cs ds:List Value)(w:World){U:View}(B:See U w)(h:TV U t cs)(A:TV U u ds):CP 219 #[.agg cs.toArray,.agg ds.toArray] w (Ret (.bool (tT t u)) w):=by
 have j:=h;have k:=A;obtain⟨a,c,rfl,C,_,_,_⟩:=h.form;obtain⟨b,d,rfl,D,_,_,_⟩:=A.form;refine dE 16 Tryz.func219 B ?_;refine zs (zr (aW (fun x=>(aW (fun y=>(zq 1 (zn (zB [1] [(x,5)] (cY 179 #[(tV t a c)] (.bool (Itm.aJ 8 t)) (fun W f=>lY t _ W f.view j) ?_)))))))));refine zq 1 (cN 7 (Itm.aJ 8 t) (fun g=>?_) (fun g=>?_))
 ·refine cG [2] [(y,5)] (cY 179 #[(tV u b d)] (.bool (Itm.aJ 8 u)) (fun W f=>lY u _ W f.view k) ?_);refine zq 2 (cN 11 (Itm.aJ 8 u) (fun q=>?_) (fun q=>?_))
  ·refine cG [1,2] [(x,5),(y,5)] (cY 243 #[(tV t a c),(tV u b d)] (.bool (eqT t u)) (fun W f=>aD9 8 t u _ _ W f.view j k g) ?_);refine zq 2 (zn (aA (aO [4] [(.bool (eqT t u))] (fun r f=>?_))));exact⟨by simp only[dC,tT,g,q,bs,bQ,reduceIte],f.below⟩
  ·refine zq 5 (zn (aA (aO [4] [(.bool false)] (fun r f=>?_))));exact⟨by simp only[dC,tT,g,q,bs,bQ,reduceIte],f.below⟩
 ·refine zq 9 (zn (aA (aO [4] [(.bool false)] (fun r f=>?_))));exact⟨by simp only[dC,tT,g,bs,bQ,reduceIte],f.below⟩
theorem dH{P : Program}{n : Nat}{W0 : Cx}{Q : XQ}{s : aZ}{U : View}{σ : aN}{α : Type}{x y : Code}(Sf : α → aZ)(Uf : α → View)(Of : α → aN)(f : α → Prop)
  (q:SXC P n W0 (aFm (fun s' g σ'=>∃z,f z∧(∀t v,look (Sf z) t=some v→look s' t=some v)∧(∀W,Mem W0 g σ' W→Mem W0 (Uf z) (Of z) W)) Q) x s U σ)
  (r:∀z,f z→SXC P n W0 Q y (Sf z) (Uf z) (Of z)):SXC P n W0 Q (.seq x y) s U σ:=by
 refine⟨fun a W A u=>wp_seq (wp_mono (q.go a W A u) ?_)⟩;rintro e k h ⟨s',g,σ',c,d,j⟩;cases e with
 |normal=>
  obtain⟨z,B,D,C⟩:=j;exact SXC.go (r z B) k h ⟨c.size,c.defers,fun t v E=>c.slots t v (D t v E)⟩ (C h d)
 |_=>exact⟨s',g,σ',c,d,j⟩
theorem aK1(n:Nat)(g:n<W64)(a:Option Addr)(c:Nat)(w:World):CP 180 #[.agg #[(.int .i64 0),(.int .u64 (n:Int)),(.string (B [])),(.slice a 0 c),(.bool false)]] w (Ret (.string (B (Itm.aE 0 n))) w):=by
 refine dI 48 Tryz.func180 ?_;refine zs (zr (aW (fun d=>(zq 1 (zn (zs (zB [0,1] [(d,1)] (zn (aB (zQ 2 (zn (dP (zB [0,1] [(d,1)] (dK (fun W f=>iX 0 n W oW (by first|assumption|(unfold W64;omega)|decide)) (zq 1 (zn (aA (iZ 2))))))))))))))))))
theorem aK0(l:List UInt8)(g:l.length≤R47)(a:Option Addr)(c:Nat)(w:World):CP 180 #[.agg #[(.int .i64 2),(.int .u64 0),(.string (B l)),(.slice a 0 c),(.bool false)]] w (Ret (.string (B (Itm.aE 2 l.length++l))) w):=by
 refine dI 48 Tryz.func180 ?_;refine zs (zr (aW (fun d=>(zq 1 (zn (zs (zB [0,1] [(d,1)] (zn (aB (zQ 2 (zn (dD (zQ 2 (zn (dP (zB [0,1] [(d,1)] (dK (fun W f=>aCY l W (by first|assumption|(unfold R47;omega))) (zq 1 (zn (aA (iZ 2)))))))))))))))))))))
theorem aKZ(l:List UInt8)(g:l.length≤R47)(a:Option Addr)(c:Nat)(w:World):CP 180 #[.agg #[(.int .i64 3),(.int .u64 0),(.string (B l)),(.slice a 0 c),(.bool false)]] w (Ret (.string (B (Itm.aE 3 l.length++l))) w):=by
 refine dI 48 Tryz.func180 ?_;refine zs (zr (aW (fun d=>(zq 1 (zn (zs (zB [0,1] [(d,1)] (zn (aB (zQ 2 (zn (dD (zQ 2 (zn (dD (zQ 2 (zn (dP (zB [0,1] [(d,1)] (dK (fun W f=>aKX l W (by first|assumption|(unfold R47;omega))) (zq 1 (zn (aA (iZ 2))))))))))))))))))))))))
theorem pG{l:List Itm.Tr}{i:Nat}{y:Itm.Tr}(h:l[i]? =some y):Itm.aY (l.drop i)=Itm.aG y++Itm.aY (l.drop (i+1)):=by
 obtain⟨a,rfl⟩:=Af.1 h;rw[Bx a,Itm.aY]
def aAL:Nat:=72057594037927936
theorem aK2(d : Nat)(l : List Itm.Tr)(o : Bool){U : View}{w : World}(hU : See U w)(a : Option Addr)(c : Nat)(E : eZ U a l)
    (ih:∀(t:Itm.Tr) (cs:List Value) {U:View} {w:World},(∀a v,U a=some v→w.cell? a=some v)→TV U t cs→Itm.aJ d t=true→Itm.szT t≤aAL→CP 180 #[.agg cs.toArray] w (Ret (.string (B (Itm.aG t))) w))
    (hr:l.all (Itm.aJ d)=true) (O:Itm.szL l≤aAL):
    CP 180 #[.agg #[.int .i64 4,.int .u64 0,.string (B []),.slice a l.length c,.bool o]] w (Ret (.string (B ((if o then[159]else Itm.aE 4 l.length)++(Itm.aY l++(if o then[255]else[]))))) w):=by
 have A:=E.len;unfold R47 at A;have b4:=Itm.qU l;have b5:=Itm.aD 4 l.length;have C:=O;unfold aAL at C;refine dE 48 Tryz.func180 hU ?_;refine zs (zr (aW (fun q=>(zq 1 (zn (zs (zB [0,1] [(q,1)] (zn (aB (zQ 2 (zn (dD (zQ 2 (zn (dD (zQ 2 (zn (dD (zk (zB [0,1,0,0] [(q,1)] (dS 27 (U6 (IntKind.u64.wrap (l.length:Int))) (N6 ((l.length:Nat))) (Ag (Value.int .u64) (u64_in oW oW)) ?_)))))))))))))))))))));refine dK (fun W r=>iX 4 l.length W oW (by first|assumption|(unfold W64;omega)|decide)) (zq 2 (zn ?_));refine dH (α:=List UInt8×List UInt8) (fun f=>[1,2,3,4].zip [(Pt q 0),(St []),(St f.1),(St f.2)]) (fun f=>U) (fun f=>[(q,.cells [(I6 4),(U6 0),(St []),(.slice a l.length c),(.bool o)].toArray 89 (0,0))]) (fun f=>f.1=(if o then[159]else Itm.aE 4 l.length)∧(f.2=(if o then[255]else[])∧(f.1.length≤9∧f.2.length≤1))) ?_ ?_
 ·refine zB [0,1] [(q,1)] (zn (gN o (fun u=>?_) (fun u=>?_)))
  ·refine zr (dK (fun W r=>aAd W) (dK (fun W r=>aAc W) (zq 2 (zn ?_))));refine jn ([159],[255]) ?_;exact⟨by simp only[u,if_true,Av,if_false],by simp only[u,if_true,Av,if_false],by show([159]:List UInt8).length≤9;first|omega|decide,by show([255]:List UInt8).length≤1;decide⟩
  ·refine zk ?_;refine jn ((Itm.aE 4 l.length),[]) ?_;exact⟨by simp only[u,if_true,Av,if_false],by simp only[u,if_true,Av,if_false],by show((Itm.aE 4 l.length):List UInt8).length≤9;first|omega|decide,by show([]:List UInt8).length≤1;decide⟩
 intro f a7;obtain⟨Z,a6,c4,c6⟩:=a7;refine zs (zB [0,1,0,0] [(q,1)] (zn (aB (eY (α:=Nat×List UInt8) (fun x=>[2,3,4,34,35,36].zip [(St []),(St x.2),(St f.2),(.slice a l.length c),(L6 l.length),(L6 x.1)]) (fun x=>U) (fun x=>[(q,.cells [(I6 4),(U6 0),(St []),(.slice a l.length c),(.bool o)].toArray 89 (0,0))]) (fun x=>x.1≤l.length∧x.2++Itm.aY (l.drop x.1)=f.1++Itm.aY l) (fun x=>l.length-x.1) (0,f.1) ?_ ?_))))
 ·exact⟨by simp,rfl⟩
 intro x hx;obtain⟨b9,g⟩:=hx;have V:=Ag List.length g;simp only[Ac,Ah,Bd]at V;refine zQ 1 (zn (zs (cE ((x.1:Int)<(l.length:Int)) (fun h1 M=>?_) (fun h1 M=>?_))))
 ·refine zk (zs (aB (zs (zr ?_))));obtain⟨k,j⟩:∃y,(l)[x.1]? =some y:=⟨(l)[x.1]'oW,Aa _⟩;obtain⟨G,I,b3,rfl,N,D⟩:=E.at_ x.1 k j;obtain⟨J,L,rfl,a8,b7,b8,b6⟩:=D.form;have Y:=Ao.1 hr k (Ad j);have c0:=Itm.cI k;have c2:=Itm.aJa j;have X:=pG j;have F:=Ag List.length X;simp only[Ac]at F;refine cD (Pt G (I+x.1*5)) (rIx 89 rfl G I l.length c x.1 5) ?_;refine zU G (I+x.1*5) (tC k J L) N 89 (.tmp 38) _ Tryz.underlying89 rfl ?_;refine aW (fun K=>(aX 1 K (zn (zr (cG [0,2] [(K,5)] (cY 180 #[(tV k J L)] (St (Itm.aG k)) (fun W r=>ih _ _ r.view D Y (by unfold aAL;omega)) ?_))))));refine cD (St (x.2++(Itm.aG k))) (cB _ _ _ _ rfl x.2 (Itm.aG k) kR kR oA) ?_;refine zq 1 (zn (zr (zq 1 (eC 44 ((x.1:Int)+1) (zq 1 (zn ?_))))));refine nx (x.1+1,(x.2++(Itm.aG k))) ?_ ?_ (d:=fun _ h=>Mem.sub (Ay _ _) (h.eqv (show _=([(q,.cells [(I6 4),(U6 0),(St []),(Sl G I l.length c),(.bool o)].toArray 89 (0,0))]:aN)++([(bK K (tC k J L) 89)]:aN)from by kernel_rfl)))
  ·exact⟨by show x.1+1≤_;omega,by rw[←g,pG j,Al]⟩
  ·show l.length-(x.1+1)<l.length-x.1;omega
 ·refine aK (zQ 2 (cD (St (x.2++f.2)) (cB _ _ _ _ rfl x.2 f.2 kR kR oA) ?_));refine zq 1 (zn (aA (aO [2] [(St (x.2++f.2))] (fun W' r=>?_))));refine⟨?_,r.below⟩;rw[show x.1=l.length by omega,Ex]at g;simp only[Itm.aY,Aj]at g;simp only[dC,g,Z,a6,Al]
theorem aE7 : ∀ (d : Nat) (t : Itm.Tr) (cs : List Value) {U : View} {w : World}, (∀ a v, U a = some v → w.cell? a = some v) → TV U t cs → Itm.aJ d t = true → Itm.szT t ≤ aAL → CP 180 #[.agg cs.toArray] w (Ret (.string (B (Itm.aG t))) w)
 |0,t,cs,U,w,_,_,j,_=>by cases j
 |d+1,t,cs,U,w,y,h,j,r=>by
  obtain⟨a,c,rfl,u,C,x,D⟩:=h.form;unfold Itm.aJ at j;rw[Ae]at j;obtain⟨q,g⟩:=j;obtain⟨k,n,s,l,o⟩:=t;simp only[Itm.Tr.k,Itm.Tr.n,Itm.Tr.s,Itm.Tr.l,Itm.Tr.o]at *;rw[Itm.szT]at r;rcases Itm.lG q with⟨rfl,rfl,f,rfl⟩|⟨rfl,rfl,f,rfl⟩|⟨rfl,rfl,f,rfl⟩|⟨rfl,rfl,rfl,A⟩
  ·obtain rfl:=Be.1 f;exact aK1 n C a c w
  ·obtain rfl:=Be.1 f;exact aK0 s x a c w
  ·obtain rfl:=Be.1 f;exact aKZ s x a c w
  ·exact aK2 d l o y a c u (aE7 d) g oW
theorem oG(t:Itm.Tr)(cs:List Value){U:View}{w:World}(q:See U w)(h:TV U t cs)(k:Itm.aJ 8 t=true)(f:Itm.szT t≤aAL):CP 136 #[.agg cs.toArray] w (Ret (.tuple #[.string (B (Itm.aG t)),.int .i64 0]) w):=by
 have j:=h;obtain⟨a,c,rfl,r,y,A,x⟩:=h.form;refine dE 9 Tryz.func136 q ?_;refine zs (zr (aW (fun g=>(zq 2 (zn (zs (zB [1] [(g,5)] (cY 179 #[(tV t a c)] (.bool (Itm.aJ 8 t)) (fun W d=>lY t _ W d.view j) ?_))))))));refine zq 1 (zn (dO (!(Itm.aJ 8 t)) (by rw[k];rfl) ?_));refine zk (zB [1] [(g,5)] (cY 180 #[(tV t a c)] (St (Itm.aG t)) (fun W d=>aE7 8 t _ d.view j k f) ?_));refine zq 2 (zn (aA (aO [2,3] [(St (Itm.aG t)),(I6 0)] (fun u d=>?_))));exact⟨rfl,d.below⟩
theorem Mem.perm{W0:Cx}{W:World}{U:View}{σ σ':aN}(A:σ.Perm σ')(h:Mem W0 U σ W):Mem W0 U σ' W:=by
 obtain⟨D,C,E,F,G⟩:=h;have r:(σ.map Prod.fst).Nodup:=by
  refine Fa.2 fun i j f g I u=>?_
  rw[Az]at f g;rw[Cq,Cq]at u;have:=G i j _ _ (Aa f) (Aa g) u;omega
 have d:(σ'.map Prod.fst).Nodup:=(A.map Prod.fst).nodup_iff.1 r;refine⟨D,C,E,fun k b o q=>?_,fun j k x y g q e=>?_⟩
 ·have J:(b,o)∈σ:=A.mem_iff.2 (Ad q);obtain⟨i,f⟩:=Ev J;exact F i b o f
 ·have B:=Fa.1 d;obtain⟨a,rfl⟩:=Af.1 g;obtain⟨c,rfl⟩:=Af.1 q;rcases Gv j k with hl|hl|hl
  ·exact absurd (by rw[Cq,Cq];exact e) (B j k (by simpa using a) (by simpa using c) hl)
  ·exact hl
  ·exact absurd (by rw[Cq,Cq];exact e.symm) (B k j (by simpa using c) (by simpa using a) hl)
section
variable {P:Program} {n:Nat} {W0:Cx} {Q:XQ} {s:aZ} {U:View} {σ:aN} {ops:Array Oper} {l:List Oper} {o:Oper}
theorem aJf(a ρ : aN)(c : σ = a ++ ρ)(x : Obj)(v : Nat → Value)(hm : makes P s o = some (x, fun r => some (v r)))(f : eX n o = true)(g : cU ops s o = some true)
  (h:∀b,SXL P n W0 Q ops l (lT o (v b) s) U ((a++[(b,x)])++ρ)):SXL P n W0 Q ops (o::l) s U σ:=by
 subst c;refine aM8 x v hm f g fun b=>aBd U _ (fun W d=>d.perm ?_) (h b)
 rw[Al,Al];exact List.Perm.append (Gd _) Bw
theorem gW(r : Rw)(A : List Value)(m : Nat)(g : aN)(e : TypeId)(t : TypeId)(z bytes k : Nat)(K : σ = g ++ r.B e A)(D : r.ok z m A)(x y : Operand)(Z : o.op = .call { callee := .builtin .append, args := #[x, y], argTypes := #[t, t] })(hx : evS s x = some (r.V m))
  (b f c:Nat) (a:List Value) (hy:evS s y=some (.slice (some ⟨b,f,none⟩) k c)) (d:∀W,Mem W0 U σ W→W.rangeAt b f a) (Y:a.length=k*z) (L:∀u∈a,u.oneCell'=true) (X:0<k) (B:m+k≤maxLen) (C:(m+k)*bytes≤140737488355328)
  (j:(P.info? e).map (fun i=>(i.size,i.bytes,i.zero.map (·.cells.size)))=some (z,bytes,some z)) (ht:P.underlying t=some (.slice e)) (G:Nat.blt 0 z=true)
  (V:eX n o=true) (hw:cU ops s o=some true)
  (h:∀q:Rw,q.ok z (m+k) (A++a)→SXL P n W0 Q ops l (lT o (q.V (m+k)) s) U (g++q.B e (A++a))):SXL P n W0 Q ops (o::l) s U σ:=by
 cases E:P.info? e with
 |none=>rw[E]at j;cases j
 |some inf=>
  rw[E]at j;simp only[Di,Ab,Am]at j;obtain⟨M,N,O⟩:=j;obtain⟨zv,I,J⟩:=Cz.1 O;refine aPj r A m g [] e t z bytes k (by rw[Aj];exact K) D x y Z hx b f c a hy d Y (Ao.2 L) X B C inf zv ht E I M N J (by simpa[Ew]using G) V hw fun q F=>?_
  have:=h q F;rw[Aj];exact this
def aLo(w:World)(e:TypeId)(z n:Nat)(xs:List Value):Ending→World→Prop:=fun en w'=>∃b cap junk,en=.returned (.slice (some ⟨b,0,none⟩) n cap)∧Below w.heap.size w w'∧w.heap.size≤b∧w'.heap[b]? =some (.cells (xs++junk).toArray e (0,0))∧(Rw.row b cap junk).ok z n xs
theorem aDl(f : FuncId)(d : Array Value)(e : TypeId)(z m : Nat)(r : List Value)(B : enters P s o = some (f, d))(E : ∀ W, Mem W0 U σ W → Calls P f d W (aLo W e z m r))(F : eX n o = true)(J : cU ops s o = some true)
  (h:∀b g c,(Rw.row b g c).ok z m r→SXL P n W0 Q ops l (lT o (.slice (some ⟨b,0,none⟩) m g) s) U (σ++[(b,.cells (r++c).toArray e (0,0))])):SXL P n W0 Q ops (o::l) s U σ:=by
 refine aAV f d B F J fun W q=>(E W q).mono ?_
 rintro L C ⟨b,g,c,rfl,D,y,u,A⟩;refine⟨_,_,U,_,rfl,?_,rfl,h b g c A⟩;have j:=q.call D;have G:Mem W0 U (σ++([]++[])) C:=by simpa using j
 have:=G.swap (B':=[(b,.cells (r++c).toArray e (0,0))]) j.below (fun _ _ _=>rfl) j.view (.inr ⟨b,_,rfl,u,El q.below.size y,fun a M=>?_,fun k x K B=>?_⟩)
 ·simpa using this
 ·cases I:U a with
  |none=>rfl
  |some v=>have:=pF (q.view a v I);omega
 ·have:=gP (q.own k x.1 x.2 (by simpa using K)).1;omega
theorem aFB{w W':World}{U V:View}{a:aN}{r:Rw}{e:TypeId}{z m:Nat}{d:List Value}(f:Mem ⟨w,U⟩ V (a++r.B e d) W')(c:r.ok z m d)(hm:0<m):aLo w e z m d (.returned (r.V m)) W':=by
 cases r with
 |nil=>obtain⟨rfl,_⟩:=c;omega
 |row b cap junk=>
  obtain⟨g,h,_⟩:=f.own (a.length+0) b (.cells (d++junk).toArray e (0,0)) (by
   have:=getElem?_mid a [(b,Obj.cells (d++junk).toArray e (0,0))] [] 0 _ rfl;rw[Aj]at this;exact this)
  exact⟨b,cap,junk,rfl,f.below,h,g,c⟩
theorem aLB(k b a m : Nat)(cs : List Value)(t c : TypeId)(v : Value)(x y : Operand)(j : o.op = .store c x y)(u : evS s x = some (.pointer (some ⟨b, a, none⟩)))(A : evS s y = some v)
  (f:σ[k]? =some (b,.cells cs.toArray t (0,0))) (q:rG P c v m=true) (g:a+m≤cs.length) (d:o.dst=none) (r:cU ops s o=some true)
  (h:SXL P n W0 Q ops l s U (σ.set k (b,.cells (cK cs a v.cells.toList).toArray t (0,0)))):SXL P n W0 Q ops (o::l) s U σ:=by
 refine aNP k b a m cs t c v x y j u A f q (Nat.ble_eq_true_of_le g) (by unfold eX;rw[d]) r ?_;unfold lT;rw[d];exact h
theorem aBh(t q:TypeId)(x y:Operand)(f:o.op=.binOp .eql t x y q)(a:Option Addr)(k c:Nat)(e:TypeId)(h:evS s x=some (.slice a k c))(j:evS s y=some (.slice none 0 0))(g:P.underlying t=some (.slice e))(W:World):(execOp (ev s) o).run P W=.ok (.value (.bool a.isNone)) W:=by
 unfold execOp;simp only[f,dY h,dY j,binOp,eqGuard,Op.equal];obtain⟨d,hm⟩:∃d,Op.maxDepth=d+1:=⟨9999,rfl⟩;rw[hm];clear hm;cases a<;>simp only[Op.equalIn,Sem.run_bind,run_underlying g W,Result.andThen_ok,Sem.run_pure,show((BinOp.eql matches .eql| .neq)=true)=True from by simp,Bool.not_true,Bool.not_false,Av,if_false,if_true,Option.isNone_none,Option.isNone_some]<;>rfl
theorem gG(c d:aN)(b:Nat)(cs:List Value)(t:TypeId)(u:σ=c++((b,.cells cs.toArray t (0,0))::d))(h:∀V,View.le U V→V.range b 0 cs→SXL P n W0 Q ops l s V (c++d)):SXL P n W0 Q ops l s U σ:=by
 subst u;refine⟨fun a W C j=>?_⟩;have G:Mem W0 U (c++d) W:=j.sub (By (Cd _) (Fx _ _));have f:(c++((b,Obj.cells cs.toArray t (0,0))::d))[c.length]? =some (b,.cells cs.toArray t (0,0)):=by
  rw[Bm (Bg _),Dc];rfl
 obtain⟨I,J,_⟩:=j.own _ _ _ f;obtain⟨V,y,A,B⟩:=G.addView I J fun k x g D=>by
  have q:∃i,(c++((b,Obj.cells cs.toArray t (0,0))::d))[i]? =some x∧i≠c.length:=by
   by_cases F:k<c.length
   ·exact⟨k,by rw[Bp F]at g ⊢;exact g,by omega⟩
   ·refine⟨k+1,?_,by omega⟩;rw[Bm oW]at g;rw[Bm oW,show k+1-c.length=(k-c.length)+1 by omega,Bv];exact g
  obtain⟨i,E,r⟩:=q;exact r (j.apart i _ _ _ E f D)
 exact(h V y A).go a W C B
end
theorem eF{W0:Cx}{W:World}{U:View}{σ:aN}(a:Mem W0 U σ W)(k b:Nat)(cs:List Value)(t:TypeId)(d:σ[k]? =some (b,.cells cs.toArray t (0,0))):W.rangeAt b 0 cs:=fun j v c=>by
 rw[cell_of_row _ _ _ _ _ _ (a.own k b _ d).1,Aw];simpa using c
structure aAn (V : View) (a : Option Addr) (xs : List Value) : Prop where
 at_:xs≠[]→∃b,a=some ⟨b,0,none⟩∧V.range b 0 xs
theorem aAn.le{U V:View}(h:View.le U V){a:Option Addr}{f:List Value}(d:aAn U a f):aAn V a f:=⟨fun c=>by obtain⟨b,e,d⟩:=d.at_ c;exact⟨b,e,View.range_le h d⟩⟩
section
variable {P:Program} {n:Nat} {W0:Cx} {Q:XQ} {s:aZ} {U:View} {σ:aN} {ops:Array Oper} {l:List Oper} {o:Oper}
theorem Rw.form{r:Rw}{z m:Nat}{d:List Value}(h:r.ok z m d):∃a c,r.V m=.slice a m c:=by
 cases r with
 |nil=>obtain⟨rfl,_⟩:=h;exact⟨none,0,rfl⟩
 |row b cap junk=>exact⟨_,_,rfl⟩
theorem aNh{W:World}{r:Rw}{d:List Value}{c:aN}{e:TypeId}(q:Mem W0 U (c++r.B e d) W):Mem W0 (U.or (r.W d)) c W∧∀b f a,r=.row b f a→(U.or (r.W d)).range b 0 d:=by
 have g:Mem W0 U (c++(r.B e d++[])) W:=by rw[Aj];exact q
 have h:=Mem.freeze g;rw[Aj]at h;refine⟨h,fun b f a y j v u=>?_⟩;subst y;have x:U ⟨b,0+j,none⟩=none:=by
  have k:=(g.own (c.length+0) b (.cells (d++a).toArray e (0,0)) (getElem?_mid c _ [] 0 _ rfl)).2.2 ⟨b,0+j,none⟩ rfl;exact k
 refine View.or_r ?_ x;show(if b=b∧none=none then d[0+j]? else none)=some v;rw[Ar ⟨rfl,rfl⟩,Aw];exact u
theorem sE(t : Nat)(r : Rw)(q : List Value)(z m : Nat)(f : aN)(e : TypeId)(B : σ = f ++ r.B e q)(d : r.ok z m q)(G : look s t = some (r.V m))
  (h:∀a c V,View.le U V→aAn V a q→r.V m=.slice a m c→SXL P n W0 Q ops l ((t,.slice a m c)::s) V f):SXL P n W0 Q ops l s U σ:=by
 subst B;refine⟨fun A W g E=>?_⟩;obtain⟨C,D⟩:=aNh E;obtain⟨a,c,j⟩:=Rw.form d;refine(h a c (U.or (r.W q)) (View.le_or _ _) ⟨fun y=>?_⟩ j).go A W ⟨g.size,g.defers,fun u x k=>?_⟩ C
 ·cases r with
  |nil=>exact absurd d.2 y
  |row b cap junk=>
   simp only[Rw.V,Value.slice.injEq,Fm]at j;exact⟨b,j.1.symm,D b cap junk rfl⟩
 ·simp only[look]at k;split at k
  ·next F=>
   have:=Ca F;subst this;rw[g.slots t _ G,j];exact k
  ·exact g.slots u x k
theorem pS(r:Rw)(z m:Nat)(k:List Value)(d:r.ok z m k)(x:Operand)(t e:TypeId)(f:o.op=.call { callee:=.builtin .len,args:=#[x],argTypes:=#[t] })(j:evS s x=some (r.V m))(g:P.underlying t=some (.slice e))(W:World):(execOp (ev s) o).run P W=.ok (.value (.int .i64 (m:Int))) W:=by
 obtain⟨a,c,h⟩:=Rw.form d;unfold execOp;simp only[f,resolve,invoke,builtin,Sem.run_bind,Sem.run_pure,Result.andThen_ok,Ef,Cf,Dz,dY j,h,Builtin.len_];simp[run_underlying g W,goInt]
end
theorem eZ.open{U:View}{a:Option Addr}{l:List Itm.Tr}(h:eZ U a l)(I:l≠[]):∃(b f:Nat) (L:List (Itm.Tr×List Value)),a=some ⟨b,f,none⟩∧L.map Prod.fst=l∧gT U L∧U.range b f (L.flatMap Prod.snd):=by
 obtain⟨b,f,E,G,_,_⟩:=h.at_ 0 (l[0]'(by cases l<;>simp_all)) (Aa _);refine⟨b,f,?_⟩;subst G;have key:∀(l:List Itm.Tr) (c:Nat),(∀i x,l[i]? =some x→∃cs,U.range b (c+i*5) cs∧TV U x cs)→∃L:List (Itm.Tr×List Value),L.map Prod.fst=l∧gT U L∧U.range b c (L.flatMap Prod.snd):=by
  intro l
  induction l with
  |nil=>intro c _;exact⟨[],rfl,trivial,fun j v d=>by simp at d⟩
  |cons t l ih=>
   intro c D;obtain⟨cs,F,B⟩:=D 0 t rfl;obtain⟨L,q,r,u⟩:=ih (c+5) fun i x k=>by
    obtain⟨cs,y,A⟩:=D (i+1) x (by simpa using k);exact⟨cs,by rw[show c+5+i*5=c+(i+1)*5 by omega];exact y,A⟩
   refine⟨(t,cs)::L,by simp[q],⟨B,r⟩,fun j v d=>?_⟩;change (cs++L.flatMap Prod.snd)[j]? =some v at d;by_cases g:j<cs.length
   ·rw[Bp g]at d;have:=F j v d;simpa using this
   ·rw[Bm oW]at d;have:=u (j-cs.length) v d;have K:=B.len5;rw[show c+j=c+5+(j-cs.length) by omega];exact this
 obtain⟨L,q,r,u⟩:=key l f fun i x k=>by
  obtain⟨J,c,cs,C,y,A⟩:=h.at_ i x k;simp only[Ab,Addr.mk.injEq,Fl]at C;obtain⟨rfl,rfl⟩:=C;exact⟨cs,y,A⟩
 exact⟨L,rfl,q,r,u⟩
theorem gT.flat_len{V : View} : ∀ {L : List (Itm.Tr × List Value)}, gT V L → (L.flatMap Prod.snd).length = L.length * 5
 | [],_=>rfl
 |p::r,⟨a,c⟩=>by rw[Bu,Ac,gT.flat_len c,a.len5,Ah];omega
theorem TV.one{V:View}{t:Itm.Tr}{cs:List Value}(h:TV V t cs):∀u∈cs,u.oneCell'=true:=by
 obtain⟨a,c,rfl,_⟩:=h.form;intro u d;simp only[Bh,Bt,Ct]at d;rcases d with rfl|rfl|rfl|rfl|rfl<;>rfl
theorem gT.one{V : View} : ∀ {L : List (Itm.Tr × List Value)}, gT V L → ∀ u ∈ L.flatMap Prod.snd, u.oneCell' = true
 | [],_,u,hu=>by simp at hu
 |p::r,⟨a,c⟩,u,hu=>by
  rw[Bu,Dh]at hu;rcases hu with hu|hu
  ·exact a.one u hu
  ·exact gT.one c u hu
theorem gT.le{U V : View}(h : View.le U V) : ∀ {L : List (Itm.Tr × List Value)}, gT U L → gT V L
 | [],_=>trivial
 |_::_,⟨a,c⟩=>⟨a.le h,c.le h⟩
theorem gT.app{V : View} : ∀ {L M : List (Itm.Tr × List Value)}, gT V L → gT V M → gT V (L ++ M)
 | [],_,_,h=>h
 |_::_,_,⟨a,c⟩,h=>⟨a,c.app h⟩
theorem cW.flat{U:View}{b f:Nat}{l:List Bk}(h:∀i x,l[i]? =some x→U.range b (f+i*5) x.cs):U.range b f (l.flatMap Bk.cs):=by
 induction l generalizing f with
 |nil=>intro j v a;simp at a
 |cons x l ih=>
  intro j v a;rw[Bu]at a;have c:x.cs.length=5:=rfl;by_cases d:j<5
  ·rw[Bp oW]at a;have:=h 0 x rfl j v a;simpa using this
  ·rw[Bm oW]at a;have:=ih (f:=f+5) (fun i y g=>by rw[show f+5+i*5=f+(i+1)*5 by omega];exact h (i+1) y (by simpa using g)) (j-5) v (by rw[c]at a;exact a);rw[show f+j=f+5+(j-5) by omega];exact this
theorem cW.of{U:View}{b f:Nat}{l:List Bk}(h:U.range b f (l.flatMap Bk.cs))(c:∀x∈l,x.ok)(a:l.length≤R47):cW U (some ⟨b,f,none⟩) l:=by
 refine⟨fun i x d=>⟨b,f,rfl,?_⟩,c,a⟩
 induction l generalizing f i with
 |nil=>simp at d
 |cons y l ih=>
  rw[Bu]at h;obtain⟨j,g⟩:=gK h;cases i with
  |zero=>simp only[Bo,Ab]at d;subst d;simpa using j
  |succ i=>
   have k:y.cs.length=5:=rfl;have:=ih (f:=f+5) (by rw[k]at g;exact g) (fun z q=>c z (Ce _ q)) (by simp at a;omega) i (by simpa using d);rw[show f+(i+1)*5=f+5+i*5 by omega];exact this
theorem rU(l:List Bk):(l.flatMap Bk.cs).length=l.length*5:=by
 induction l with
 |nil=>rfl
 |cons x l ih=>rw[Bu,Ac,ih,Ah];show 5+_=_;omega
theorem qE(l:List Bk):∀u∈l.flatMap Bk.cs,u.oneCell'=true:=by
 intro u c;obtain⟨x,_,a⟩:=Gx.1 c;simp only[Bk.cs,Bh,Bt,Ct]at a;rcases a with rfl|rfl|rfl|rfl|rfl<;>rfl
end Go.Proofs.YtcdjakemdlinhaaGreatDoor.Sx
namespace Go.Proofs.YtcdjakemdlinhaaGreatDoor.Sx
open Go.ChangeShapes Go.WideShapes Go.ChangeAt Go.RowKit Go.Deep Go.ChangeMaps Go.MapKept
def mEs{α : Type}(key : α → Value) : Nat → List (α × Int) → List MapEntry
 |_,[]=>[]
 |i,(k,v)::r=>{ key:=key k,val:=.int .i64 v,born:=i }::mEs key (i+1) r
def mO{α:Type}(key:α→Value)(m:List (α×Int)):Obj:=.map (mEs key 0 m).toArray m.length
def mD{α : Type}[BEq α](x : α) : Nat → List (α × Int) → Option (Nat × Value)
 |_,[]=>none
 |i,(k,v)::r=>if x==k then some (i,.int .i64 v)else mD x (i+1) r
def oC{α : Type}[BEq α](x : α)(v : Int) : List (α × Int) → List (α × Int)
 | []=>[(x,v)]
 |(k,u)::r=>if x==k then(k,v)::r else(k,u)::oC x v r
def gB{α : Type}[BEq α](x : α) : List (α × Int) → Int
 | []=>0
 |(k,v)::r=>if x==k then v else gB x r
theorem aKa{α : Type}(key : α → Value) : ∀ (i : Nat) (m : List (α × Int)), (mEs key i m).length = m.length
 |_,[]=>rfl
 |i,(_,_)::r=>by rw[mEs,Ah,Ah,aKa key (i+1) r]
theorem lL{α : Type}[BEq α](key : α → Value)(x : α)(v : Int) : ∀ (i : Nat) (m : List (α × Int)), mD x i m = none → mEs key i (oC x v m) = mEs key i m ++ [{ key := key x, val := .int .i64 v, born := i + m.length }] ∧ (oC x v m).length = m.length + 1 ∧ gB x m = 0
 |i,[],_=>⟨rfl,rfl,rfl⟩
 |i,(k,u)::r,h=>by
  unfold mD at h;split at h
  ·cases h
  ·next a=>
   obtain⟨c,d,f⟩:=lL key x v (i+1) r h;refine⟨?_,?_,?_⟩
   ·rw[oC,An a,mEs,c,mEs,Ah,show i+(r.length+1)=i+1+r.length by omega];rfl
   ·rw[oC,An a,Ah,d,Ah]
   ·rw[gB,An a];exact f
theorem aDx{α : Type}[BEq α](x : α) : ∀ (i : Nat) (m : List (α × Int)) (j : Nat) (y : Value), mD x i m = some (j, y) → i ≤ j
 |i,[],_,_,h=>by cases h
 |i,(k,u)::r,j,y,h=>by
  unfold mD at h;split at h
  ·cases h;exact Bg _
  ·have:=aDx x (i+1) r j y h;omega
theorem oD{α:Type}[BEq α][LawfulBEq α](key:α→Value)(x:α)(v:Int):∀(i:Nat) (m:List (α×Int)) (j:Nat) (y:Value),mD x i m=some (j,y)→
  mEs key i (oC x v m)=(mEs key i m).modify (j-i) (fun e=>{ e with key:=key x,val:=.int .i64 v })∧(oC x v m).length=m.length∧y=.int .i64 (gB x m)∧∃e,(mEs key i m)[j-i]? =some e∧e.key=key x
 |i,[],_,_,h=>by cases h
 |i,(k,u)::r,j,y,h=>by
  unfold mD at h;split at h
  ·next f=>
   simp only[Ab,Am]at h;obtain⟨rfl,rfl⟩:=h;have d:=eq_of_beq f;refine⟨?_,?_,?_,?_⟩
   ·rw[oC,Ar f,Dc,mEs,mEs,d];rfl
   ·rw[oC,Ar f];rfl
   ·rw[gB,Ar f]
   ·refine⟨_,by rw[Dc,mEs];rfl,by rw[d]⟩
  ·next a=>
   have D:=aDx x _ r j y h;obtain⟨g,q,A,e,B,C⟩:=oD key x v (i+1) r j y h;have c:j-i=(j-(i+1))+1:=by omega
   refine⟨?_,?_,?_,e,?_,C⟩
   ·rw[oC,An a,mEs,g,mEs,c];rfl
   ·rw[oC,An a,Ah,q,Ah]
   ·rw[gB,An a];exact A
   ·rw[mEs,c];exact B
structure rD (P : Program) (T : TypeId) {α : Type} [BEq α] (key : α → Value) : Prop where
 law:∃kt et,P.underlying T=some (.map kt et)∧(∀w:World,(zeroValue et).run P w=.ok (.int .i64 0) w)∧(∀(w:World) (b:Bool) (x:α),(Instr.checkKey b 10000 kt (key x)).run P w=.ok () w)∧
  (∀(w:World) (x:α) (m:List (α×Int)),(Instr.findKey kt (key x) (mEs key 0 m)).run P w=.ok (mD x 0 m) w)∧(∀(w:World) (x:α),(Instr.keyThatStays (key x) (key x)).run P w=.ok (key x) w)
theorem aBJ(x : Int) : ∀ (i : Nat) (m : List (Int × Int)), Instr.findNow (.int .i64) (.int .i64 x) (mEs (fun z => .int .i64 z) i m) i = some (mD x i m)
 |_,[]=>rfl
 |i,(k,v)::r=>by
  rw[mEs,Instr.findNow,mD];simp only[Instr.sameNow,if_true];cases a:x==k with
  |true=>simp
  |false=>simp only[Av,if_false];exact aBJ x (i+1) r
abbrev aAC:Int→Value:=fun z=>.int .i64 z
theorem aIh{P:Program}{T c a:TypeId}(g:P.underlying T=some (.map c a))(f:P.underlying c=some (.int .i64))(h:∀w:World,(zeroValue a).run P w=.ok (.int .i64 0) w):rD P T aAC:=
 ⟨c,a,g,h,fun w b x=>Go.MapKept.run_checkKey f (by simp[IsKey]) b 9999,fun w x m=>Go.MapKept.run_findKey f (aBJ x 0 m),fun w x=>Go.MapKept.run_keyThatStays (d:=.int .i64) (by simp[IsKey])⟩
section
variable {P:Program} {T:TypeId} {α:Type} [BEq α] [LawfulBEq α] {key:α→Value} {w:World} {b:Nat} {m:List (α×Int)}
theorem aJ9(K:rD P T key)(f:w.heap[b]? =some (mO key m))(x:α):(Instr.lookup T (.map (some b)) (key x) false).run P w=.ok (.int .i64 (gB x m)) w:=by
 obtain⟨u,q,g,k,h,a,r⟩:=K.law;unfold mO at f;have a:=a w x m;cases c:mD x 0 m with
 |none=>
  rw[c]at a;obtain⟨_,_,d⟩:=lL key x 0 0 m c;simp[Instr.lookup,run_underlying g,Go.MapKept.run_getObj_map f,h,a,k,Result.andThen,d]
 |some p=>
  obtain⟨j,y⟩:=p;rw[c]at a;obtain⟨_,_,d,_⟩:=oD key x 0 0 m j y c;simp[Instr.lookup,run_underlying g,Go.MapKept.run_getObj_map f,h,a,k,Result.andThen,d]
theorem aPR(K:rD P T key)(c:w.heap[b]? =some (mO key m))(x:α)(v:Int):(Instr.mapUpdate T (.map (some b)) (key x) (.int .i64 v)).run P w=.ok () (setBlock w b (mO key (oC x v m))):=by
 obtain⟨E,C,q,D,r,a,B⟩:=K.law;unfold mO at c;have a:=a w x m;cases f:mD x 0 m with
 |none=>
  rw[f]at a;obtain⟨d,g,u⟩:=lL key x v 0 m f;simp[Instr.mapUpdate,run_underlying q,Go.MapKept.run_getObj_map c,r,a,Go.MapKept.run_setObj_map _ c,Result.andThen,setBlock,mO,d,g]
 |some p=>
  obtain⟨j,y⟩:=p;rw[f]at a;obtain⟨d,g,u,e,k,A⟩:=oD key x v 0 m j y f;rw[Fy]at k d;have h:=B w x;simp[Instr.mapUpdate,run_underlying q,Go.MapKept.run_getObj_map c,r,a,k,A,h,Go.MapKept.run_setObj_map _ c,Result.andThen,setBlock,mO,d,g]
end
section
variable {P:Program} {n:Nat} {W0:Cx} {Q:XQ} {s:aZ} {U:View} {σ:aN} {ops:Array Oper} {l:List Oper} {o:Oper} {T:TypeId} {α:Type} [BEq α] [LawfulBEq α] {key:α→Value}
theorem pQ(K : rD P T key)(k b : Nat)(m : List (α × Int))(x : α)(j g : Operand)(y : o.op = .lookup T j g false)(hm : evS s j = some (.map (some b)))(B : evS s g = some (key x))(u : σ[k]? = some (b, mO key m))
  (f:eX n o=true) (A:cU ops s o=some true) (h:SXL P n W0 Q ops l (lT o (.int .i64 (gB x m)) s) U σ):SXL P n W0 Q ops (o::l) s U σ:=by
 refine pN f A fun a W c d C q=>?_
 have r:=(d.own k b _ u).1;unfold Oper.wp execOp;simp only[y,eG c hm,eG c B,aJ9 K r x,Sem.run_bind,Sem.run_pure,Result.andThen_ok];exact q _ _ _ _ _ h (eL c f) d
theorem aJg(K : rD P T key)(k b : Nat)(m : List (α × Int))(x : α)(v : Int)(r q u : Operand)(C : o.op = .mapUpdate T r q u)(hm : evS s r = some (.map (some b)))(F : evS s q = some (key x))(D : evS s u = some (.int .i64 v))(j : σ[k]? = some (b, mO key m))
  (g:eX n o=true) (E:cU ops s o=some true) (h:SXL P n W0 Q ops l (lT o undef s) U (σ.set k (b,mO key (oC x v m)))):SXL P n W0 Q ops (o::l) s U σ:=by
 refine pN g E fun a W c f G y=>?_
 have d:=(f.own k b _ j).1;unfold Oper.wp execOp;simp only[C,eG c hm,eG c F,eG c D,aPR K d x v,Sem.run_bind,Sem.run_pure,Result.andThen_ok];have B:=(Es.1 d).1;exact y _ _ _ _ _ h (eL c g) (f.set k b _ _ j rfl rfl rfl (by simp[setBlock]) (heap_setBlock_same d _) (fun i A=>heap_setBlock_other d _ A))
end
theorem aAZ{α : Type}[BEq α][LawfulBEq α](x y : α)(v : Int) : ∀ m : List (α × Int), gB x (oC y v m) = if x == y then v else gB x m
 | []=>rfl
 |(k,u)::r=>by
  rw[oC];cases a:y==k with
  |true=>
   simp only[if_true,gB];rw[eq_of_beq a];cases x==k<;>simp
  |false=>
   simp only[Av,if_false,gB,aAZ x y v r];cases c:x==y with
   |true=>rw[eq_of_beq c,a];simp
   |false=>simp
end Go.Proofs.YtcdjakemdlinhaaGreatDoor.Sx
namespace Go.Proofs.YtcdjakemdlinhaaGreatDoor
open Go.ChangeShapes Go.WideShapes Go.ChangeAt Go.RowKit Go.Deep
section
variable {P:Program} {ops:Array Oper} {Q:Exit→Act→World→Prop} {md:Region.Mode}
theorem lD{C : Nat}(m fuel r : Nat)(ds : List Tmp)(Inv : (Nat → Bool) → (Nat → Value) → World → Prop){a0 : Act}{w : World}
  (hm:P.follows .mixedOrders=true) (y:ops.size=m+fuel)
  (f:ds.length=m) (q:oJ ops ds=true) (x:nodupB ds=true) (a:fI .any ops m=true) (c:lM .any ops m r=true)
  (B:∀u,Inv (fun _=>false) u w.drew)
  (d:∀i,i<m→∀(L:Nat→Bool) (u:Nat→Value) (w:World),Inv L u w→L i=false→(∀j,cJ .any ops i j=true→L j=true∧j<m)→(∀k j,L k=true→cJ .any ops k j=true→L j=true)→
   ∀K:Act→World→Prop,(∀v A,Inv (fun j=>if j=i then true else L j) (fun j=>if j=i then v else u j) A→K ((eO ds 0 u a0).put ((ops[i]?).bind (·.dst)) v) A)→wpOp P ops Q i K (eO ds 0 u a0) w)
  (g:∀L u w,Inv L u w→(∀i,i<m→L i=true)→wpAny P .any ops Q fuel (firstM m ops.size) (eO ds 0 u a0) w):(Code.region C ops true).wp P Q a0 w:=by
 refine wp_region_any hm ?_;have h:=aD1 (md:=.any) m ds Inv (w0:=w.drew) f q x (Cc oW) a c B d g;rw[←y]at h;exact h
end
end Go.Proofs.YtcdjakemdlinhaaGreatDoor
